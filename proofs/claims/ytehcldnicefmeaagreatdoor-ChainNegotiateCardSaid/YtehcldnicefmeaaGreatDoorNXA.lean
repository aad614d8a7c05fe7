import Derived.Test.YtehcldnicefmeaaGreatDoorRVal
import Derived.Test.YtehcldnicefmeaaGreatDoorNX6
import Derived.Test.YtehcldnicefmeaaGreatDoorNX3
import Derived.Test.YtehcldnicefmeaaGreatDoorNX5
import Derived.Test.YtehcldnicefmeaaGreatDoorNX4
namespace Go.Proofs.YtehcldnicefmeaaGreatDoor
open Go.RowKit
set_option linter.unusedSimpArgs false
set_option linter.unusedVariables false

/-! The kind of a subtag. -/
theorem kempty_eq {x : ByteArray} {b : Bool} (h : (x.toList == []) = b) : x.toList.isEmpty = b := by
  rw [← h]; cases x.toList <;> rfl
theorem kind_nil {s : List UInt8} (h : s = []) : kindP s = 0 := by subst h; decide
theorem TL_one (s : ByteArray) (a b c : List UInt8) (ha : a.length ≤ 1000000) (hb : b.length ≤ 1000000) (hc : c.length ≤ 1000000) : TL ⟨a, b, c, []⟩ :=
  ⟨by simp only; omega, by simp only; omega, by simp only; omega, by simp, by simp⟩

set_option maxHeartbeats 1000000 in
set_option maxRecDepth 100000 in
theorem tkind_any (s : ByteArray) (w : World) (hs : s.size ≤ 1000000) :
    Calls Tryz.prog 96 #[.string s] w fun e w' => e = .returned (.int .i64 (kindP s.data.toList)) ∧ Ext w w' := by
  have hl : s.data.toList.length ≤ 1000000 := by rw [size_list]; exact hs
  have h1 := fun W => tvalid_any ⟨s.data.toList, [], [], []⟩ none 0 0 W (Sl.nil _ _) (TL_one s _ _ _ hl (by simp) (by simp))
  have h2 := fun W => tvalid_any ⟨undP, s.data.toList, [], []⟩ none 0 0 W (Sl.nil _ _) (TL_one s _ _ _ (by decide) hl (by simp))
  have h3 := fun W => tvalid_any ⟨undP, [], s.data.toList, []⟩ none 0 0 W (Sl.nil _ _) (TL_one s _ _ _ (by decide) (by simp) hl)
  unfold tagV at h1 h2 h3
  simp only [strv_mk] at h1 h2 h3
  unfold strv at h1 h2 h3
  unfold undP at h2 h3
  have hk : kindP s.data.toList = if validP ⟨s.data.toList, [], [], []⟩ = true then 1 else if (!(s.toList == []) && validP ⟨undP, s.data.toList, [], []⟩) = true then 2 else if (!(s.toList == []) && validP ⟨undP, [], s.data.toList, []⟩) = true then 3 else 0 := by
    unfold kindP
    rw [ByteArray.toList_eq]
  rw [hk]
  unfold undP
  generalize validP ⟨s.data.toList, [], [], []⟩ = v1 at h1 ⊢
  generalize validP ⟨[117, 110, 100], s.data.toList, [], []⟩ = v2 at h2 ⊢
  generalize validP ⟨[117, 110, 100], [], s.data.toList, []⟩ = v3 at h3 ⊢
  have H1 := Lib.hid h1
  have H2 := Lib.hid h2
  have H3 := Lib.hid h3
  have HAT := Lib.hid (AtT.new (T := 159) (v0 := .string ⟨#[117, 110, 100]⟩) (v1 := .string ⟨#[]⟩) (v2 := .string ⟨#[]⟩) (v3 := .slice none 0 0) w)
  have HX := Lib.hid ((Ext.refl w).alloc (.cells #[.string ⟨#[117, 110, 100]⟩, .string ⟨#[]⟩, .string ⟨#[]⟩, .slice none 0 0] 159))
  clear h1 h2 h3 hk hl
  cases v1 with
  | true =>
    simp only [if_true]
    go_enter Tryz.func96, Tryz.ntmps96
    go_wp2_with fail
    refine (H1.out _).mono ?_
    rintro e w1 ⟨rfl, hw1⟩
    have HW1 := Lib.hid (HX.out.trans hw1)
    clear hw1
    go_wp2
    go_ret
    exact ⟨rfl, HW1.out⟩
  | false =>
    simp only [Bool.false_eq_true, if_false]
    cases he : (s.toList == []) with
    | true =>
      simp only [Bool.not_true, Bool.false_and, Bool.false_eq_true, if_false]
      have he2 := kempty_eq he
      go_enter Tryz.func96, Tryz.ntmps96
      go_wp2_with fail
      refine (H1.out _).mono ?_
      rintro e w1 ⟨rfl, hw1⟩
      obtain ⟨⟨a0, a1, a2, a3⟩, ⟨f0, f1, f2, f3⟩⟩ := (HAT.out.ext hw1).cells
      have HW1 := Lib.hid (HX.out.trans hw1)
      clear hw1
      go_wp2
      go_ret
      exact ⟨rfl, ((HW1.out.setCell (Nat.le_refl _) _).setCell (Nat.le_refl _) _).setCell (Nat.le_refl _) _⟩
    | false =>
      simp only [Bool.not_false, Bool.true_and]
      have he2 := kempty_eq he
      cases v2 with
      | true =>
        simp only [if_true]
        go_enter Tryz.func96, Tryz.ntmps96
        go_wp2_with fail
        refine (H1.out _).mono ?_
        rintro e w1 ⟨rfl, hw1⟩
        obtain ⟨⟨a0, a1, a2, a3⟩, ⟨f0, f1, f2, f3⟩⟩ := (HAT.out.ext hw1).cells
        have HW1 := Lib.hid (HX.out.trans hw1)
        clear hw1
        go_wp2_with fail
        refine (H2.out _).mono ?_
        rintro e w2 ⟨rfl, hw2⟩
        have HW2 := Lib.hid ((HW1.out.setCell (Nat.le_refl _) _).trans hw2)
        clear hw2
        go_wp2
        go_ret
        exact ⟨rfl, HW2.out⟩
      | false =>
        cases v3
        all_goals
          simp only [Bool.false_eq_true, if_false, if_true]
          go_enter Tryz.func96, Tryz.ntmps96
          go_wp2_with fail
          refine (H1.out _).mono ?_
          rintro e w1 ⟨rfl, hw1⟩
          have hat1 := HAT.out.ext hw1
          obtain ⟨⟨a0, a1, a2, a3⟩, ⟨f0, f1, f2, f3⟩⟩ := hat1.cells
          have HAT1 := Lib.hid hat1
          have HW1 := Lib.hid (HX.out.trans hw1)
          clear hw1 hat1
          go_wp2_with fail
          refine (H2.out _).mono ?_
          rintro e w2 ⟨rfl, hw2⟩
          have hat2 := (HAT1.out.set1 (.string s)).ext hw2
          clear a0 a1 a2 a3 f0 f1 f2 f3
          obtain ⟨⟨a0, a1, a2, a3⟩, ⟨f0, f1, f2, f3⟩⟩ := hat2.cells
          have HW2 := Lib.hid ((HW1.out.setCell (Nat.le_refl _) _).trans hw2)
          clear hw2 hat2
          go_wp2_with fail
          refine (H3.out _).mono ?_
          rintro e w3 ⟨rfl, hw3⟩
          have HW3 := Lib.hid (((HW2.out.setCell (Nat.le_refl _) _).setCell (Nat.le_refl _) _).trans hw3)
          clear hw3
          go_wp2
          go_ret
          exact ⟨rfl, HW3.out⟩
end Go.Proofs.YtehcldnicefmeaaGreatDoor
namespace Go.Proofs.YtehcldnicefmeaaGreatDoor
open Go.RowKit
set_option linter.unusedSimpArgs false
set_option linter.unusedVariables false

/-! The kind of a subtag, by the reference. -/
set_option maxHeartbeats 1000000 in
set_option maxRecDepth 100000 in
theorem rkind_any (s : ByteArray) (w : World) (hs : s.size ≤ 1000000) :
    Calls Tryz.prog 101 #[.string s] w fun e w' => e = .returned (.int .i64 (kindP s.data.toList)) ∧ Ext w w' := by
  have hl : s.data.toList.length ≤ 1000000 := by rw [size_list]; exact hs
  have h1 := fun W => rvalid_any ⟨s.data.toList, [], [], []⟩ none 0 0 W (Sl.nil _ _) (TL_one s _ _ _ hl (by simp) (by simp))
  have h2 := fun W => rvalid_any ⟨undP, s.data.toList, [], []⟩ none 0 0 W (Sl.nil _ _) (TL_one s _ _ _ (by decide) hl (by simp))
  have h3 := fun W => rvalid_any ⟨undP, [], s.data.toList, []⟩ none 0 0 W (Sl.nil _ _) (TL_one s _ _ _ (by decide) (by simp) hl)
  unfold tagV at h1 h2 h3
  simp only [strv_mk] at h1 h2 h3
  unfold strv at h1 h2 h3
  unfold undP at h2 h3
  have hk : kindP s.data.toList = if validP ⟨s.data.toList, [], [], []⟩ = true then 1 else if (!(s.toList == []) && validP ⟨undP, s.data.toList, [], []⟩) = true then 2 else if (!(s.toList == []) && validP ⟨undP, [], s.data.toList, []⟩) = true then 3 else 0 := by
    unfold kindP
    rw [ByteArray.toList_eq]
  rw [hk]
  unfold undP
  generalize validP ⟨s.data.toList, [], [], []⟩ = v1 at h1 ⊢
  generalize validP ⟨[117, 110, 100], s.data.toList, [], []⟩ = v2 at h2 ⊢
  generalize validP ⟨[117, 110, 100], [], s.data.toList, []⟩ = v3 at h3 ⊢
  have H1 := Lib.hid h1
  have H2 := Lib.hid h2
  have H3 := Lib.hid h3
  clear h1 h2 h3 hk hl
  cases v1 with
  | true =>
    simp only [if_true]
    go_enter Tryz.func101, Tryz.ntmps101
    go_wp2_with fail
    refine (H1.out _).mono ?_
    rintro e w1 ⟨rfl, hw1⟩
    go_wp2
    go_ret
    exact ⟨rfl, hw1⟩
  | false =>
    simp only [Bool.false_eq_true, if_false]
    cases he : (s.toList == []) with
    | true =>
      simp only [Bool.not_true, Bool.false_and, Bool.false_eq_true, if_false]
      have he2 := kempty_eq he
      go_enter Tryz.func101, Tryz.ntmps101
      go_wp2_with fail
      refine (H1.out _).mono ?_
      rintro e w1 ⟨rfl, hw1⟩
      go_wp2
      go_ret
      exact ⟨rfl, hw1⟩
    | false =>
      simp only [Bool.not_false, Bool.true_and]
      have he2 := kempty_eq he
      cases v2 with
      | true =>
        simp only [if_true]
        go_enter Tryz.func101, Tryz.ntmps101
        go_wp2_with fail
        refine (H1.out _).mono ?_
        rintro e w1 ⟨rfl, hw1⟩
        go_wp2_with fail
        refine (H2.out _).mono ?_
        rintro e w2 ⟨rfl, hw2⟩
        go_wp2
        go_ret
        exact ⟨rfl, hw1.trans hw2⟩
      | false =>
        cases v3
        all_goals
          simp only [Bool.false_eq_true, if_false, if_true]
          go_enter Tryz.func101, Tryz.ntmps101
          go_wp2_with fail
          refine (H1.out _).mono ?_
          rintro e w1 ⟨rfl, hw1⟩
          go_wp2_with fail
          refine (H2.out _).mono ?_
          rintro e w2 ⟨rfl, hw2⟩
          go_wp2_with fail
          refine (H3.out _).mono ?_
          rintro e w3 ⟨rfl, hw3⟩
          go_wp2
          go_ret
          exact ⟨rfl, (hw1.trans hw2).trans hw3⟩
end Go.Proofs.YtehcldnicefmeaaGreatDoor
namespace Go.Proofs.YtehcldnicefmeaaGreatDoor
open Go.RowKit
set_option linter.unusedSimpArgs false
set_option linter.unusedVariables false

/-! A valid list of distances, by the reference. -/
theorem nears_app : ∀ (r pre : List NearP) (x : NearP), nearsB pre (r ++ [x]) = (nearsB pre r && (properN x && newN (pre ++ r) x))
  | [], pre, x => by simp [nearsB]
  | y :: r, pre, x => by
    show (properN y && newN pre y && nearsB (pre ++ [y]) (r ++ [x])) = _
    rw [nears_app r (pre ++ [y]) x]
    simp [nearsB, Bool.and_assoc]
theorem nears_pre {pre r s : List NearP} (h : nearsB pre (r ++ s) = true) : nearsB pre r = true := by
  induction r generalizing pre with
  | nil => rfl
  | cons y r ih =>
    rw [List.cons_append] at h
    unfold nearsB at h ⊢
    simp only [Bool.and_eq_true] at h ⊢
    exact ⟨h.1, ih h.2⟩
def goodN (l : List Nr) (k : Nat) (x : Nr) : Bool := properN (nearOf x) && newN ((l.take k).map nearOf) (nearOf x)
theorem nears_at {l : List Nr} {k : Nat} {x : Nr} (hx : l[k]? = some x) (h : nearsB [] ((l.take k).map nearOf) = true) : nearsB [] ((l.take (k + 1)).map nearOf) = goodN l k x := by
  rw [take_next hx, List.map_append, List.map_singleton, nears_app, h]
  simp [goodN]
theorem nears_bad {l : List Nr} {k : Nat} {x : Nr} (hx : l[k]? = some x) (h : nearsB [] ((l.take k).map nearOf) = true) (hb : goodN l k x = false) : validN (l.map nearOf) = false := by
  have e := nears_at hx h
  rw [hb] at e
  unfold validN
  cases hv : nearsB [] (l.map nearOf) with
  | false => rfl
  | true =>
    have h2 : l.map nearOf = (l.take (k + 1)).map nearOf ++ (l.drop (k + 1)).map nearOf := by rw [← List.map_append, List.take_append_drop]
    rw [h2] at hv
    rw [nears_pre hv] at e
    cases e

def ValNInv (w : World) (l : List Nr) (n : Nat) (i : Value) (wr : World) : Prop :=
  ∃ k : Nat, k ≤ n ∧ i = .int .i64 k ∧ nearsB [] ((l.take k).map nearOf) = true ∧ Ext w wr
def ValNIn (w : World) (l : List Nr) (k : Nat) (x : Nr) (i : Value) (wr : World) : Prop :=
  ∃ j : Nat, j ≤ k ∧ i = .int .i64 j ∧ newN ((l.take j).map nearOf) (nearOf x) = true ∧ Ext w wr
theorem new_at {l : List Nr} {j : Nat} {x y : Nr} (hy : l[j]? = some y) (h : newN ((l.take j).map nearOf) (nearOf x) = true) : newN ((l.take (j + 1)).map nearOf) (nearOf x) = !pairB (nearOf y) (nearOf x).f (nearOf x).o := by
  rw [take_next hy, List.map_append]
  unfold newN at h ⊢
  rw [List.all_append, h]
  simp
theorem new_bad {l : List Nr} {j k : Nat} {x y : Nr} (hy : l[j]? = some y) (hj : j < k) (h : pairB (nearOf y) (nearOf x).f (nearOf x).o = true) : goodN l k x = false := by
  unfold goodN newN
  have : ((l.take k).map nearOf).all (fun y => !pairB y (nearOf x).f (nearOf x).o) = false := by
    rw [List.all_eq_false]
    refine ⟨nearOf y, List.mem_map.2 ⟨y, ?_, rfl⟩, by rw [h]; decide⟩
    exact List.mem_of_getElem? (i := j) (by rw [List.getElem?_take_of_lt hj]; exact hy)
  rw [this, Bool.and_false]

set_option maxHeartbeats 4000000 in
set_option maxRecDepth 100000 in
theorem rvalN_any (l : List Nr) (A : Option Addr) (n c : Nat) (w : World) (hA : Nrs w A n l) (hn : n ≤ maxLen) (hz : ∀ a ∈ l, a.f.size ≤ 1000000 ∧ a.o.size ≤ 1000000) :
    Calls Tryz.prog 68 #[.slice A n c] w fun e w' => e = .returned (.bool (validN (l.map nearOf))) ∧ Ext w w' := by
  unfold maxLen at hn
  have HA := Lib.hid hA
  have HL := Lib.hid hA.len
  have HZ := Lib.hid hz
  clear hA hz
  have hpc := fun (x : Nr) (a b : ByteArray) (W : World) => rpair_any x a b W
  unfold nrV at hpc
  have HP := Lib.hid hpc
  clear hpc
  go_enter Tryz.func68, Tryz.ntmps68
  go_wp2_with fail
  go_loopw [3] (ValNInv w l n) (fun i _ => n - (intOf i).toNat)
  case atStart => exact ⟨0, Nat.zero_le _, rfl, rfl, Ext.refl _⟩
  case round =>
    obtain ⟨k, hk, rfl, hall, hw⟩ := hrel
    have HALL := Lib.hid hall
    have HW := Lib.hid hw
    clear hall hw
    by_cases hkn : k < n
    · obtain ⟨x, hx⟩ : ∃ x, l[k]? = some x := ⟨_, List.getElem?_eq_getElem (by have := HL.out; omega)⟩
      obtain ⟨b, o, rfl, hb, c0, c1, c2⟩ := (HA.out.ext HW.out).at_ hx
      obtain ⟨z1, z2⟩ := HZ.out _ (List.mem_of_getElem? hx)
      have HX := Lib.hid hx
      have hkI : (k : Int) < (n : Int) := by omega
      clear hx
      have HB0 := (AtC.new wr #[.string x.f, .string x.o, .int .i64 x.c] : AtC 122 _ _ _)
      have G1 := Lib.hid (fun (y : ExtW (wr.alloc (.cells #[.string x.f, .string x.o, .int .i64 x.c] 122))) => rkind_any x.f y.v z1)
      have G2 := Lib.hid (fun (y : ExtW (wr.alloc (.cells #[.string x.f, .string x.o, .int .i64 x.c] 122))) => rkind_any x.o y.v z2)
      have b0 : ∀ y : ExtW (wr.alloc (.cells #[.string x.f, .string x.o, .int .i64 x.c] 122)), y.v.cell? ⟨wr.heap.size, 0, none⟩ = some (.string x.f) := fun y => (HB0.ext y.h).cell 0 _ rfl
      have b1 : ∀ y : ExtW (wr.alloc (.cells #[.string x.f, .string x.o, .int .i64 x.c] 122)), y.v.cell? ⟨wr.heap.size, 1, none⟩ = some (.string x.o) := fun y => (HB0.ext y.h).cell 1 _ rfl
      have b2 : ∀ y : ExtW (wr.alloc (.cells #[.string x.f, .string x.o, .int .i64 x.c] 122)), y.v.cell? ⟨wr.heap.size, 2, none⟩ = some (.int .i64 x.c) := fun y => (HB0.ext y.h).cell 2 _ rfl
      have hpr : properN (nearOf x) = (!(kindP x.f.data.toList == 0) && (kindP x.f.data.toList == kindP x.o.data.toList) && !(x.f.toList == x.o.toList) && decide (1 ≤ x.c) && decide (x.c ≤ 99)) := by
        unfold properN nearOf
        simp only [ByteArray.toList_eq]
      have HB := Lib.hid HB0
      have HPR := Lib.hid hpr
      clear HB0 hpr z1 z2
      generalize kindP x.f.data.toList = k1 at *
      generalize kindP x.o.data.toList = k2 at *
      cases h0 : (k1 == 0)
      rotate_left
      · have HBAD := Lib.hid (show goodN l k x = false from by unfold goodN; rw [HPR.out]; simp [h0])
        go_wp2_with fail
        refine wp_region_ext (by kernel_rfl) (by kernel_rfl) ?_
        repeat (go_big_quiet_step ((go_at_call 101; with_reducible first | exact ExtW.call (G1.out _) | exact ExtW.call (G2.out _))))
        refine wpQuiet_nil ?_
        intro wx hx
        have HXX := Lib.hid ((HW.out.alloc _).trans (ext_of hx))
        clear hx
        go_wp2
        go_ret
        exact ⟨ret_bool (nears_bad HX.out HALL.out HBAD.out).symm, HXX.out⟩
      cases h1 : (k1 == k2)
      · have g1 : (k1 != k2) = true := by rw [bne, h1]; rfl
        have HBAD := Lib.hid (show goodN l k x = false from by unfold goodN; rw [HPR.out]; simp [h0, h1])
        go_wp2_with fail
        refine wp_region_ext (by kernel_rfl) (by kernel_rfl) ?_
        repeat (go_big_quiet_step ((go_at_call 101; with_reducible first | exact ExtW.call (G1.out _) | exact ExtW.call (G2.out _))))
        refine wpQuiet_nil ?_
        intro wx hx
        have HXX := Lib.hid ((HW.out.alloc _).trans (ext_of hx))
        clear hx
        go_wp2
        go_ret
        exact ⟨ret_bool (nears_bad HX.out HALL.out HBAD.out).symm, HXX.out⟩
      have g1 : (k1 != k2) = false := by rw [bne, h1]; rfl
      cases h2 : (x.f.toList == x.o.toList)
      rotate_left
      · have HBAD := Lib.hid (show goodN l k x = false from by unfold goodN; rw [HPR.out]; simp [h0, h1, h2])
        go_wp2_with fail
        refine wp_region_ext (by kernel_rfl) (by kernel_rfl) ?_
        repeat (go_big_quiet_step ((go_at_call 101; with_reducible first | exact ExtW.call (G1.out _) | exact ExtW.call (G2.out _))))
        refine wpQuiet_nil ?_
        intro wx hx
        have HXX := Lib.hid ((HW.out.alloc _).trans (ext_of hx))
        clear hx
        go_wp2
        go_ret
        exact ⟨ret_bool (nears_bad HX.out HALL.out HBAD.out).symm, HXX.out⟩
      by_cases h3 : x.c < 1
      · have h3i : ¬ 1 ≤ x.c := by omega
        have HBAD := Lib.hid (show goodN l k x = false from by unfold goodN; rw [HPR.out]; simp [h0, h1, h2, h3i])
        go_wp2_with fail
        refine wp_region_ext (by kernel_rfl) (by kernel_rfl) ?_
        repeat (go_big_quiet_step ((go_at_call 101; with_reducible first | exact ExtW.call (G1.out _) | exact ExtW.call (G2.out _))))
        refine wpQuiet_nil ?_
        intro wx hx
        have HXX := Lib.hid ((HW.out.alloc _).trans (ext_of hx))
        clear hx
        go_wp2
        go_ret
        exact ⟨ret_bool (nears_bad HX.out HALL.out HBAD.out).symm, HXX.out⟩
      have g3 : decide (x.c < 1) = false := by simp; omega
      have g5 : 1 ≤ x.c := by omega
      by_cases h4 : 99 < x.c
      · have h4i : ¬ x.c ≤ 99 := by omega
        have HBAD := Lib.hid (show goodN l k x = false from by unfold goodN; rw [HPR.out]; simp [h0, h1, h2, h4i])
        go_wp2_with fail
        refine wp_region_ext (by kernel_rfl) (by kernel_rfl) ?_
        repeat (go_big_quiet_step ((go_at_call 101; with_reducible first | exact ExtW.call (G1.out _) | exact ExtW.call (G2.out _))))
        refine wpQuiet_nil ?_
        intro wx hx
        have HXX := Lib.hid ((HW.out.alloc _).trans (ext_of hx))
        clear hx
        go_wp2
        go_ret
        exact ⟨ret_bool (nears_bad HX.out HALL.out HBAD.out).symm, HXX.out⟩
      · have HPG := Lib.hid (show properN (nearOf x) = true from by rw [HPR.out]; simp [h0, h1, h2]; omega)
        go_wp2_with fail
        refine wp_region_ext (by kernel_rfl) (by kernel_rfl) ?_
        repeat (go_big_quiet_step ((go_at_call 101; with_reducible first | exact ExtW.call (G1.out _) | exact ExtW.call (G2.out _))))
        refine wpQuiet_nil ?_
        intro wx hx
        have HXX := Lib.hid ((HW.out.alloc _).trans (ext_of hx))
        have HB1 := Lib.hid (HB.out.ext (ext_of hx))
        clear hx b0 b1 b2 c0 c1 c2
        go_wp2_with fail
        go_loopw [5] (ValNIn wx l k x) (fun i _ => k - (intOf i).toNat)
        case atStart => exact ⟨0, Nat.zero_le _, rfl, rfl, Ext.refl _⟩
        case round =>
          obtain ⟨j, hj, rfl, hnew, hw⟩ := hrel
          have HNEW := Lib.hid hnew
          have HWJ := Lib.hid hw
          have HB2 := Lib.hid (HB1.out.ext hw)
          clear hnew hw
          by_cases hjk : j < k
          · obtain ⟨y, hy⟩ : ∃ y, l[j]? = some y := ⟨_, List.getElem?_eq_getElem (by have := HL.out; omega)⟩
            have HY := Lib.hid hy
            have hjI : (j : Int) < (k : Int) := by omega
            have hjnI : (j : Int) < (n : Int) := by omega
            have r0 : ∀ v : ExtW _, v.v.cell? ⟨b, o + j * 3, none⟩ = some (.string y.f) ∧ v.v.cell? ⟨b, o + j * 3 + 1, none⟩ = some (.string y.o) ∧ v.v.cell? ⟨b, o + j * 3 + 2, none⟩ = some (.int .i64 y.c) := fun v => by
              obtain ⟨b', o', e, _, q0, q1, q2⟩ := (HA.out.ext (HXX.out.trans (HWJ.out.trans v.h))).at_ HY.out
              injection e with e
              injection e with e1 e2 _
              subst e1; subst e2
              exact ⟨q0, q1, q2⟩
            have c0 := fun v => (r0 v).1
            have c1 := fun v => (r0 v).2.1
            have c2 := fun v => (r0 v).2.2
            have b0 := fun v : ExtW _ => (HB2.out.ext v.h).cell 0 _ rfl
            have b1 := fun v : ExtW _ => (HB2.out.ext v.h).cell 1 _ rfl
            have HC := Lib.hid (fun W => HP.out y x.f x.o W)
            clear r0 hy
            cases hq : pairB (nearOf y) x.f.data.toList x.o.data.toList with
            | true =>
              have hc := HC.out
              rw [hq] at hc
              have HC2 := Lib.hid hc
              have HQ := Lib.hid hq
              clear hc hq
              go_wp2_with fail
              refine wp_region_ext (by kernel_rfl) (by kernel_rfl) ?_
              repeat (go_big_quiet_step ((go_at_call 102; with_reducible exact ExtW.call (HC2.out _))))
              refine wpQuiet_nil ?_
              intro wz hz
              have HZZ := Lib.hid (HXX.out.trans (HWJ.out.trans (ext_of hz)))
              clear hz
              go_wp2
              all_goals go_ret
              exact ⟨ret_bool (nears_bad HX.out HALL.out (new_bad HY.out hjk HQ.out)).symm, HZZ.out⟩
            | false =>
              have hc := HC.out
              rw [hq] at hc
              have HC2 := Lib.hid hc
              have HQ := Lib.hid hq
              clear hc hq
              go_wp2_with fail
              refine wp_region_ext (by kernel_rfl) (by kernel_rfl) ?_
              repeat (go_big_quiet_step ((go_at_call 102; with_reducible exact ExtW.call (HC2.out _))))
              refine wpQuiet_nil ?_
              intro wz hz
              have HZZ := Lib.hid (HWJ.out.trans (ext_of hz))
              clear hz
              go_wp2
              exact ⟨⟨j + 1, by omega, by go_num, by rw [new_at HY.out HNEW.out]; show (!pairB (nearOf y) x.f.data.toList x.o.data.toList) = true; rw [HQ.out]; rfl, HZZ.out⟩, by simp [intOf]; omega⟩
          · have hjj : j = k := by omega
            subst hjj
            go_wp2
            exact ⟨⟨j + 1, by omega, by go_num, by rw [nears_at HX.out HALL.out]; unfold goodN; rw [HPG.out, HNEW.out]; rfl, HXX.out.trans HWJ.out⟩, by simp [intOf]; omega⟩
    · have hkk : k = n := by omega
      subst hkk
      by_cases h200 : k ≤ 200
      all_goals
        have h200I : ((k : Int) ≤ 200) = (k ≤ 200) := by simp; omega
        go_wp2
        go_ret
        refine ⟨ret_bool ?_, HW.out⟩
        have h := HALL.out
        rw [List.take_of_length_le (by have := HL.out; omega)] at h
        unfold validN
        rw [h, List.length_map, HL.out]
        simp [h200]
end Go.Proofs.YtehcldnicefmeaaGreatDoor
namespace Go.Proofs.YtehcldnicefmeaaGreatDoor
open Go.RowKit Go.WideMaps
set_option linter.unusedSimpArgs false
set_option linter.unusedVariables false

/-! A valid list of distances, by the program. -/
def mmP (x : Nr) : ByteArray × ByteArray := (Lib.minS x.f x.o, Lib.maxS x.f x.o)
def pairsL (l : List Nr) : List (List UInt8 × List UInt8) := l.map fun x => bp (mmP x)
theorem pairs_new (l : List Nr) (x : Nr) : decide (bp (mmP x) ∈ pairsL l) = !newN (l.map nearOf) (nearOf x) := by
  have key : ∀ y : Nr, bp (mmP y) = bp (mmP x) ↔ pairB (nearOf y) (nearOf x).f (nearOf x).o = true := by
    intro y
    show _ ↔ pairB (nearOf y) x.f.data.toList x.o.data.toList = true
    rw [pairB_mm, ByteArray.toList_eq, ByteArray.toList_eq, ByteArray.toList_eq, ByteArray.toList_eq]
    unfold bp mmP
    simp
  unfold newN pairsL
  rw [Bool.eq_iff_iff]
  simp only [decide_eq_true_eq, List.mem_map, Bool.not_eq_true', List.all_eq_false]
  constructor
  · rintro ⟨y, hy, h⟩
    exact ⟨nearOf y, ⟨y, hy, rfl⟩, by rw [(key y).1 h]; decide⟩
  · rintro ⟨z, ⟨y, hy, rfl⟩, h⟩
    refine ⟨y, hy, (key y).2 ?_⟩
    cases hp : pairB (nearOf y) (nearOf x).f (nearOf x).o with
    | true => rfl
    | false => rw [hp] at h; exact absurd rfl h
theorem mm_ok {x : Nr} (h1 : x.f.size ≤ 1000000) (h2 : x.o.size ≤ 1000000) : okP (mmP x) := by
  unfold okP mmP maxLen
  rcases mm_cases x.f x.o with ⟨k1, k2⟩ | ⟨k1, k2⟩ <;> rw [k1, k2] <;> constructor <;> simp only <;> omega
theorem arrK : ArrKey Tryz.prog 152 9 2 := ⟨Tryz.underlying152, by kernel_rfl, by kernel_rfl, by kernel_rfl⟩
def TVInv (W1 : World) (l : List Nr) (n : Nat) (i : Value) (wr : World) : Prop :=
  ∃ k : Nat, k ≤ n ∧ i = .int .i64 k ∧ nearsB [] ((l.take k).map nearOf) = true ∧ MapA Tryz.prog 152 4 wr W1.heap.size k (pairsL (l.take k)) ∧ Ext W1 wr
theorem pairs_app {l : List Nr} {k : Nat} {x : Nr} (hx : l[k]? = some x) : pairsL (l.take (k + 1)) = pairsL (l.take k) ++ [bp (mmP x)] := by
  rw [take_next hx]
  unfold pairsL
  rw [List.map_append]
  rfl

set_option maxHeartbeats 8000000 in
set_option maxRecDepth 100000 in
theorem tvalN_any (l : List Nr) (A : Option Addr) (n c : Nat) (w : World) (hA : Nrs w A n l) (hn : n ≤ maxLen) (hz : ∀ a ∈ l, a.f.size ≤ 1000000 ∧ a.o.size ≤ 1000000) :
    Calls Tryz.prog 65 #[.slice A n c] w fun e w' => e = .returned (.bool (validN (l.map nearOf))) ∧ Ext w w' := by
  unfold maxLen at hn
  have HA := Lib.hid hA
  have HL := Lib.hid hA.len
  have HZ := Lib.hid hz
  clear hA hz
  have hmm := @run_makeMap Tryz.prog
  have hsz : ∃ m, Tryz.prog.types.size = m + 1 := ⟨Tryz.prog.types.size - 1, by kernel_rfl⟩
  have HSZ := Lib.hid hsz
  clear hsz
  go_enter Tryz.func65, Tryz.ntmps65
  go_wp2_with fail
  go_loopw [10] (TVInv w l n) (fun i _ => n - (intOf i).toNat)
  case atStart => exact ⟨0, Nat.zero_le _, rfl, rfl, MapA.made _ _ _ _, (Ext.refl w).alloc _⟩
  case round =>
    obtain ⟨k, hk, rfl, hall, hms, hw⟩ := hrel
    have HALL := Lib.hid hall
    have HMS := Lib.hid hms
    have HW := Lib.hid hw
    clear hall hms hw
    by_cases hkn : k < n
    · obtain ⟨x, hx⟩ : ∃ x, l[k]? = some x := ⟨_, List.getElem?_eq_getElem (by have := HL.out; omega)⟩
      obtain ⟨b, o, rfl, hb, c0, c1, c2⟩ := (HA.out.ext HW.out).at_ hx
      obtain ⟨z1, z2⟩ := HZ.out _ (List.mem_of_getElem? hx)
      have HX := Lib.hid hx
      have hkI : (k : Int) < (n : Int) := by omega
      clear hx
      have hof := fun W => of_any x.f x.o W
      have HOK := Lib.hid (mm_ok z1 z2)
      have HPN := Lib.hid (pairs_new (l.take k) x)
      have HPA := Lib.hid (pairs_app HX.out)
      have hmp : mmP x = (Lib.minS x.f x.o, Lib.maxS x.f x.o) := rfl
      generalize mmP x = M at *
      obtain ⟨mi, ma⟩ := M
      injection hmp with hmi hma
      rw [← hmi, ← hma] at hof
      have HOF := Lib.hid hof
      clear hof hmi hma
      go_wp2_with fail
      refine (HOF.out _).mono ?_
      rintro e w1 ⟨rfl, hw1⟩
      have HB0 := ((AtC.new wr #[.string x.f, .string x.o, .int .i64 x.c] : AtC 122 _ _ _).ext hw1).alloc (.cells #[.string mi, .string ma] 152)
      have HP0 := (AtC.new w1 #[.string mi, .string ma] : AtC 152 _ _ _)
      have HMS6 := (HMS.out.ext ((Ext.refl wr).alloc (.cells #[.string x.f, .string x.o, .int .i64 x.c] 122) |>.trans hw1)).alloc (.cells #[.string mi, .string ma] 152)
      have HW6 := Lib.hid (((HW.out.alloc (.cells #[.string x.f, .string x.o, .int .i64 x.c] 122)).trans hw1).alloc (.cells #[.string mi, .string ma] 152))
      have G1 := Lib.hid (fun (y : ExtW (w1.alloc (.cells #[.string mi, .string ma] 152))) => tkind_any x.f y.v z1)
      have G2 := Lib.hid (fun (y : ExtW (w1.alloc (.cells #[.string mi, .string ma] 152))) => tkind_any x.o y.v z2)
      have b0 := fun y : ExtW (w1.alloc (.cells #[.string mi, .string ma] 152)) => (HB0.ext y.h).cell 0 _ rfl
      have b1 := fun y : ExtW (w1.alloc (.cells #[.string mi, .string ma] 152)) => (HB0.ext y.h).cell 1 _ rfl
      have b2 := fun y : ExtW (w1.alloc (.cells #[.string mi, .string ma] 152)) => (HB0.ext y.h).cell 2 _ rfl
      have e0 := fun y : ExtW (w1.alloc (.cells #[.string mi, .string ma] 152)) => (HP0.ext y.h).cell 0 _ rfl
      have e1 := fun y : ExtW (w1.alloc (.cells #[.string mi, .string ma] 152)) => (HP0.ext y.h).cell 1 _ rfl
      have hlk := fun y : ExtW (w1.alloc (.cells #[.string mi, .string ma] 152)) => MapA.lookup (HMS6.ext y.h) arrK Tryz.underlying9 HSZ.out Tryz.underlying4 Tryz.underlying151 (by kernel_rfl) (mi, ma) HOK.out
      rw [HPN.out] at hlk
      unfold kvP at hlk
      simp only at hlk
      have hpr : properN (nearOf x) = (!(kindP x.f.data.toList == 0) && (kindP x.f.data.toList == kindP x.o.data.toList) && !(x.f.toList == x.o.toList) && decide (1 ≤ x.c) && decide (x.c ≤ 99)) := by
        unfold properN nearOf
        simp only [ByteArray.toList_eq]
      have HP := Lib.hid HP0
      have HM6 := Lib.hid HMS6
      have HPR := Lib.hid hpr
      clear HB0 HP0 HMS6 hpr z1 z2 hw1 c0 c1 c2
      generalize kindP x.f.data.toList = k1 at *
      generalize kindP x.o.data.toList = k2 at *
      cases h0 : (k1 == 0)
      rotate_left
      · have HBAD := Lib.hid (show goodN l k x = false from by unfold goodN; rw [HPR.out]; simp [h0])
        go_wp2_with fail
        refine wp_region_ext (by kernel_rfl) (by kernel_rfl) ?_
        repeat (go_big_quiet_step ((go_at_call 96; with_reducible first | exact ExtW.call (G1.out _) | exact ExtW.call (G2.out _))))
        refine wpQuiet_nil ?_
        intro wx hx
        have HXX := Lib.hid (HW6.out.trans (ext_of hx))
        clear hx
        go_wp2
        go_ret
        exact ⟨ret_bool (nears_bad HX.out HALL.out HBAD.out).symm, HXX.out⟩
      cases h1 : (k1 == k2)
      · have g1 : (k1 != k2) = true := by rw [bne, h1]; rfl
        have HBAD := Lib.hid (show goodN l k x = false from by unfold goodN; rw [HPR.out]; simp [h0, h1])
        go_wp2_with fail
        refine wp_region_ext (by kernel_rfl) (by kernel_rfl) ?_
        repeat (go_big_quiet_step ((go_at_call 96; with_reducible first | exact ExtW.call (G1.out _) | exact ExtW.call (G2.out _))))
        refine wpQuiet_nil ?_
        intro wx hx
        have HXX := Lib.hid (HW6.out.trans (ext_of hx))
        clear hx
        go_wp2
        go_ret
        exact ⟨ret_bool (nears_bad HX.out HALL.out HBAD.out).symm, HXX.out⟩
      have g1 : (k1 != k2) = false := by rw [bne, h1]; rfl
      cases h2 : (x.f.toList == x.o.toList)
      rotate_left
      · have HBAD := Lib.hid (show goodN l k x = false from by unfold goodN; rw [HPR.out]; simp [h0, h1, h2])
        go_wp2_with fail
        refine wp_region_ext (by kernel_rfl) (by kernel_rfl) ?_
        repeat (go_big_quiet_step ((go_at_call 96; with_reducible first | exact ExtW.call (G1.out _) | exact ExtW.call (G2.out _))))
        refine wpQuiet_nil ?_
        intro wx hx
        have HXX := Lib.hid (HW6.out.trans (ext_of hx))
        clear hx
        go_wp2
        go_ret
        exact ⟨ret_bool (nears_bad HX.out HALL.out HBAD.out).symm, HXX.out⟩
      by_cases h3 : x.c < 1
      · have h3i : ¬ 1 ≤ x.c := by omega
        have g3 : decide (x.c < 1) = true := by simpa using h3
        have HBAD := Lib.hid (show goodN l k x = false from by unfold goodN; rw [HPR.out]; simp [h0, h1, h2, h3i])
        go_wp2_with fail
        refine wp_region_ext (by kernel_rfl) (by kernel_rfl) ?_
        repeat (go_big_quiet_step ((go_at_call 96; with_reducible first | exact ExtW.call (G1.out _) | exact ExtW.call (G2.out _))))
        refine wpQuiet_nil ?_
        intro wx hx
        have HXX := Lib.hid (HW6.out.trans (ext_of hx))
        clear hx
        go_wp2
        go_ret
        exact ⟨ret_bool (nears_bad HX.out HALL.out HBAD.out).symm, HXX.out⟩
      have g3 : decide (x.c < 1) = false := by simp; omega
      by_cases h4 : 99 < x.c
      · have h4i : ¬ x.c ≤ 99 := by omega
        have g4 : decide (99 < x.c) = true := by simpa using h4
        have HBAD := Lib.hid (show goodN l k x = false from by unfold goodN; rw [HPR.out]; simp [h0, h1, h2, h4i])
        go_wp2_with fail
        refine wp_region_ext (by kernel_rfl) (by kernel_rfl) ?_
        repeat (go_big_quiet_step ((go_at_call 96; with_reducible first | exact ExtW.call (G1.out _) | exact ExtW.call (G2.out _))))
        refine wpQuiet_nil ?_
        intro wx hx
        have HXX := Lib.hid (HW6.out.trans (ext_of hx))
        clear hx
        go_wp2
        go_ret
        exact ⟨ret_bool (nears_bad HX.out HALL.out HBAD.out).symm, HXX.out⟩
      have g4 : decide (99 < x.c) = false := by simpa using h4
      have h5 : 1 ≤ x.c := by omega
      have h6 : x.c ≤ 99 := by omega
      cases hnew : newN ((l.take k).map nearOf) (nearOf x)
      · rw [hnew] at hlk
        simp only [Bool.not_false] at hlk
        have HBAD := Lib.hid (show goodN l k x = false from by unfold goodN; rw [hnew, Bool.and_false])
        go_wp2_with fail
        refine wp_region_ext (by kernel_rfl) (by kernel_rfl) ?_
        repeat (go_big_quiet_step ((go_at_call 96; with_reducible first | exact ExtW.call (G1.out _) | exact ExtW.call (G2.out _))))
        refine wpQuiet_nil ?_
        intro wx hx
        have HXX := Lib.hid (HW6.out.trans (ext_of hx))
        clear hx
        go_wp2
        go_ret
        exact ⟨ret_bool (nears_bad HX.out HALL.out HBAD.out).symm, HXX.out⟩
      rw [hnew] at hlk
      simp only [Bool.not_true] at hlk
      have HG := Lib.hid (show goodN l k x = true from by unfold goodN; rw [HPR.out, hnew]; simp [h0, h1, h2, h5, h6])
      go_wp2_with fail
      refine wp_region_ext (by kernel_rfl) (by kernel_rfl) ?_
      repeat (go_big_quiet_step ((go_at_call 96; with_reducible first | exact ExtW.call (G1.out _) | exact ExtW.call (G2.out _))))
      refine wpQuiet_nil ?_
      intro wx hx
      have hxx := ext_of hx
      have HXX := Lib.hid (HW6.out.trans hxx)
      have e0' := (HP.out.ext hxx).cell 0 _ rfl
      have e1' := (HP.out.ext hxx).cell 1 _ rfl
      have HMX := Lib.hid (HM6.out.ext hxx)
      clear hx hxx b0 b1 b2 e0 e1 hlk
      go_wp2_with (at_mapUpdate; refine wpList_mapUpdateA rfl _ _ _ 151 152 4 rfl arrK Tryz.underlying9 HSZ.out Tryz.underlying4 Tryz.underlying151 w.heap.size k _ rfl HMX.out (by unfold maxLen; omega) (mi, ma) rfl rfl HOK.out ?_; intro w3 hm3 hg3; have HM3 := Lib.hid hm3; have HG3 := Lib.hid hg3; clear hm3 hg3)
      refine ⟨⟨k + 1, by omega, by go_num, by rw [nears_at HX.out HALL.out]; exact HG.out, ?_, HXX.out.grown HG3.out (fun q hq => by injection hq with hq; omega)⟩, by simp [intOf]; omega⟩
      rw [HPA.out]
      exact HM3.out
    · have hkk : k = n := by omega
      subst hkk
      by_cases h200 : k ≤ 200
      all_goals
        have h200I : ((k : Int) ≤ 200) = (k ≤ 200) := by simp; omega
        go_wp2
        go_ret
        refine ⟨ret_bool ?_, HW.out⟩
        have h := HALL.out
        rw [List.take_of_length_le (by have := HL.out; omega)] at h
        unfold validN
        rw [h, List.length_map, HL.out]
        simp [h200]
end Go.Proofs.YtehcldnicefmeaaGreatDoor
