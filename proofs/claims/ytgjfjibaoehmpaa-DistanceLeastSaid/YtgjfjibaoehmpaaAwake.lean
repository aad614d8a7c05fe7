import Derived.Test.YtgjfjibaoehmpaaProg
import Derived.Test.YtgjfjibaoehmpaaSmall
import Derived.Test.YtgjfjibaoehmpaaAlign
import Derived.Test.YtgjfjibaoehmpaaWords
namespace Go.Proofs.Ytgjfjibaoehmpaa
open Go.RowKit

theorem Sl.lit (w : World) (cs : Array Value) (t : TypeId) (n : Nat) (hn : cs.size = n) : Sl (w.alloc (.cells cs t)) (some ⟨w.heap.size, 0, none⟩) n cs.toList :=
  ⟨by simpa using hn, fun j u hu => ⟨_, rfl, by simp, by
    have e1 : (⟨w.heap.size, 0, none⟩ : Addr).add j = ⟨w.heap.size, j, none⟩ := by
      unfold Addr.add
      split
      · subst_vars; rfl
      · simp
    rw [e1, cell_of_row _ w.heap.size j cs t (0, 0) (heap_alloc_new w _)]
    simpa using hu⟩⟩

def wA : List ByteArray := [⟨#[97]⟩, ⟨#[98]⟩, ⟨#[99]⟩]
def wB : List ByteArray := [⟨#[98]⟩, ⟨#[99]⟩, ⟨#[100]⟩]
def wC : List ByteArray := (wordsOf [111, 112, 101, 110, 32, 116, 104, 101, 32, 102, 105, 108, 101]).map fun l => ⟨l.toArray⟩
def wD : List ByteArray := (wordsOf [111, 112, 101, 110, 32, 97, 32, 102, 105, 108, 101]).map fun l => ⟨l.toArray⟩
theorem aw1 : dst wA wB 3 3 = 2 := by decide +kernel
theorem aw2 : (alignN (dst wA wB) (eqAt wA wB) (3 + 3) 3 3).reverse.length = 4 := by decide +kernel
theorem aw3 : (wordsOf [115, 97, 118, 101, 32, 123, 110, 125, 32, 102, 105, 108, 101, 115, 33]).length = 6 := by decide +kernel
theorem aw4 : wC.length = 3 := by decide +kernel
theorem aw5 : wD.length = 3 := by decide +kernel
theorem aw6 : simOf 3 3 (dst wC wD 3 3) = 666 := by decide +kernel
theorem map_strv (l : List (List UInt8)) : l.map strv = (l.map fun x => (⟨x.toArray⟩ : ByteArray)).map Value.string := by simp [strv]

def RetTrue (w : World) : Ending → World → Prop := fun e w' => e = .returned (.bool true) ∧ Ext w w'

theorem aw_dist (A B : Option Addr) (ca cb : Nat) (w : World) (hA : Sl w A 3 (wA.map .string)) (hB : Sl w B 3 (wB.map .string)) :
    Calls Try.prog 16 #[.slice A 3 ca, .slice B 3 cb] w fun e w' => e = .returned (.int .i64 2) ∧ Ext w w' := by
  have h := dist_any wA wB A B 3 3 ca cb w hA hB (by omega) (by omega)
  rw [aw1] at h
  exact h
theorem aw_align (A B : Option Addr) (ca cb : Nat) (w : World) (hA : Sl w A 3 (wA.map .string)) (hB : Sl w B 3 (wB.map .string)) :
    Calls Try.prog 18 #[.slice A 3 ca, .slice B 3 cb] w fun e w' => ∃ A' c', e = .returned (.slice A' 4 c') ∧ Ext w w' := by
  refine (alLoop_any wA wB A B 3 3 ca cb w hA hB (by omega) (by omega)).mono ?_
  rintro e w2 ⟨A, c, he, _, hw2⟩
  rw [aw2] at he
  exact ⟨A, c, he, hw2⟩
theorem aw_words1 (w : World) : Calls Try.prog 11 #[.string ⟨#[115, 97, 118, 101, 32, 123, 110, 125, 32, 102, 105, 108, 101, 115, 33]⟩] w fun e w' => ∃ A' c', e = .returned (.slice A' 6 c') ∧ Ext w w' := by
  refine (words_any _ w (by decide)).mono ?_
  rintro e w3 ⟨A3, n3, c3, rfl, hs3, hw3⟩
  have e3 : n3 = 6 := by rw [hs3.len, List.length_map]; exact aw3
  exact ⟨A3, c3, by rw [e3], hw3⟩
theorem aw_words2 (w : World) : Calls Try.prog 11 #[.string ⟨#[111, 112, 101, 110, 32, 116, 104, 101, 32, 102, 105, 108, 101]⟩] w fun e w' => ∃ A' c', e = .returned (.slice A' 3 c') ∧ Sl w' A' 3 (wC.map .string) ∧ Ext w w' := by
  refine (words_any _ w (by decide)).mono ?_
  rintro e w3 ⟨A3, n3, c3, rfl, hs3, hw3⟩
  rw [map_strv] at hs3
  have e3 : n3 = 3 := by rw [hs3.len, List.length_map]; exact aw4
  subst e3
  exact ⟨A3, c3, rfl, hs3, hw3⟩
theorem aw_words3 (w : World) : Calls Try.prog 11 #[.string ⟨#[111, 112, 101, 110, 32, 97, 32, 102, 105, 108, 101]⟩] w fun e w' => ∃ A' c', e = .returned (.slice A' 3 c') ∧ Sl w' A' 3 (wD.map .string) ∧ Ext w w' := by
  refine (words_any _ w (by decide)).mono ?_
  rintro e w3 ⟨A3, n3, c3, rfl, hs3, hw3⟩
  rw [map_strv] at hs3
  have e3 : n3 = 3 := by rw [hs3.len, List.length_map]; exact aw5
  subst e3
  exact ⟨A3, c3, rfl, hs3, hw3⟩
theorem aw_sim (A B : Option Addr) (ca cb : Nat) (w : World) (hA : Sl w A 3 (wC.map .string)) (hB : Sl w B 3 (wD.map .string)) :
    Calls Try.prog 17 #[.slice A 3 ca, .slice B 3 cb] w fun e w' => e = .returned (.int .i64 666) ∧ Ext w w' := by
  have h := sim_any wC wD A B 3 3 ca cb w hA hB (by omega) (by omega)
  rw [aw6] at h
  exact h

theorem awake_any (w : World) : Calls Try.prog 10 #[] w (RetTrue w) := by
  have hA : Sl (w.alloc (.cells #[.string ⟨#[97]⟩, .string ⟨#[98]⟩, .string ⟨#[99]⟩] 9)) (some ⟨w.heap.size, 0, none⟩) 3 (wA.map .string) :=
    Sl.lit w #[.string ⟨#[97]⟩, .string ⟨#[98]⟩, .string ⟨#[99]⟩] 9 3 rfl
  have hB : Sl ((w.alloc (.cells #[.string ⟨#[97]⟩, .string ⟨#[98]⟩, .string ⟨#[99]⟩] 9)).alloc (.cells #[.string ⟨#[98]⟩, .string ⟨#[99]⟩, .string ⟨#[100]⟩] 9)) (some ⟨w.heap.size + 1, 0, none⟩) 3 (wB.map .string) := by
    have h := Sl.lit (w.alloc (.cells #[.string ⟨#[97]⟩, .string ⟨#[98]⟩, .string ⟨#[99]⟩] 9)) #[.string ⟨#[98]⟩, .string ⟨#[99]⟩, .string ⟨#[100]⟩] 9 3 rfl
    have e : (w.alloc (.cells #[.string ⟨#[97]⟩, .string ⟨#[98]⟩, .string ⟨#[99]⟩] 9)).heap.size = w.heap.size + 1 := by simp
    rw [e] at h
    exact h
  have HA := Lib.hid (hA.ext ((Ext.refl _).alloc (.cells #[.string ⟨#[98]⟩, .string ⟨#[99]⟩, .string ⟨#[100]⟩] 9)))
  have HB := Lib.hid hB
  clear hA hB
  go_enter Try.func10, Try.ntmps10
  go_wp2_with fail
  refine (aw_dist _ _ _ _ _ HA.out HB.out).mono ?_
  rintro e w1 ⟨rfl, hw1⟩
  have HW1 := Lib.hid hw1
  clear hw1
  go_wp2_with fail
  refine (aw_align _ _ _ _ _ (HA.out.ext HW1.out) (HB.out.ext HW1.out)).mono ?_
  rintro e w2 ⟨A, c, rfl, hw2⟩
  have HW2 := Lib.hid hw2
  clear hw2
  go_wp2_with fail
  refine (aw_words1 _).mono ?_
  rintro e w3 ⟨A3, c3, rfl, hw3⟩
  have HW3 := Lib.hid hw3
  clear hw3
  go_wp2_with fail
  refine (aw_words2 _).mono ?_
  rintro e w4 ⟨A4, c4, rfl, hs4, hw4⟩
  have HS4 := Lib.hid hs4
  have HW4 := Lib.hid hw4
  clear hw4 hs4
  go_wp2_with fail
  refine (aw_words3 _).mono ?_
  rintro e w5 ⟨A5, c5, rfl, hs5, hw5⟩
  have HS5 := Lib.hid hs5
  have HW5 := Lib.hid hw5
  clear hw5 hs5
  go_wp2_with fail
  refine (aw_sim _ _ _ _ _ (HS4.out.ext HW5.out) HS5.out).mono ?_
  rintro e w6 ⟨rfl, hw6⟩
  have HW6 := Lib.hid hw6
  clear hw6
  go_wp2
  go_ret
  exact ⟨rfl, ((((((Ext.refl w).alloc _).alloc _).trans HW1.out).trans HW2.out).trans HW3.out).trans (HW4.out.trans (HW5.out.trans HW6.out))⟩
end Go.Proofs.Ytgjfjibaoehmpaa
