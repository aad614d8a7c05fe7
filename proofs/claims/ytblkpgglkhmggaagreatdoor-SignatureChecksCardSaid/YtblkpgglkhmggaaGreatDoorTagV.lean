import Derived.Test.YtblkpgglkhmggaaGreatDoorPl3
import Derived.Test.YtblkpgglkhmggaaGreatDoorStep
namespace Go.Proofs.YtblkpgglkhmggaaGreatDoor
open Go.RowKit
set_option linter.unusedSimpArgs false
set_option linter.unusedVariables false

theorem strv_mk (s : ByteArray) : strv s.data.toList = .string s := by
  unfold strv; rfl
theorem mk_app (a : List UInt8) (s : ByteArray) : (⟨a.toArray⟩ : ByteArray) ++ s = ⟨(a ++ s.data.toList).toArray⟩ := by
  apply ByteArray.ext
  apply Array.toList_inj.1
  simp

theorem own_some {w : World} {B : Nat} {e : TypeId} {v : Value} {n : Nat} {xs : List Value} (h : w.ownsRow B e 1 v n xs) (hn : 0 < n) : ∃ g cap, v = .slice (some ⟨g, 0, none⟩) n cap ∧ B ≤ g ∧ g < w.heap.size ∧ n ≤ cap := by
  rcases h.2 with ⟨hv, hx⟩ | ⟨g, cap, cur, hv, hb, hg, hn', _⟩
  · have := h.1; rw [hx] at this; simp at this; omega
  · exact ⟨g, cap, hv, hb, (Array.getElem?_eq_some_iff.1 hg).1, hn'⟩
theorem less_eq : ∀ (x y : List UInt8), Op.bytesLess x y = decide (x < y)
  | [], [] => by simp [Op.bytesLess]
  | _ :: _, [] => by simp [Op.bytesLess]
  | [], _ :: _ => by simp [Op.bytesLess]
  | a :: x, b :: y => by
    rw [Op.bytesLess, less_eq x y, Bool.eq_iff_iff]
    simp [List.cons_lt_cons_iff]
theorem less_b (x y : ByteArray) : Op.bytesLess x.toList y.toList = decide (x.data.toList < y.data.toList) := by
  rw [less_eq, ByteArray.toList_eq, ByteArray.toList_eq]
theorem eq_b (x y : ByteArray) : (x.toList == y.toList) = (x.data.toList == y.data.toList) := by
  rw [ByteArray.toList_eq, ByteArray.toList_eq]
theorem strv_b (y : List UInt8) : ∃ yb : ByteArray, strv y = .string yb ∧ yb.data.toList = y := ⟨⟨y.toArray⟩, rfl, by simp⟩

/-- A part of a slice. -/
theorem Sl.take {w : World} {A : Option Addr} {n : Nat} {xs : List Value} (h : Sl w A n xs) (k : Nat) (hk : k ≤ n) : Sl w A k (xs.take k) :=
  ⟨by rw [List.length_take, h.1]; omega, fun j u hu => by
    rw [List.getElem?_take] at hu
    split at hu
    · exact h.2 j u hu
    · cases hu⟩
def EC : Codes := ⟨3, 9, 6⟩
def tagV (t : TagP) (A : Option Addr) (n c : Nat) : Value := .agg #[strv t.lang, strv t.script, strv t.region, .slice A n c]

theorem c3_bad {E : Codes} {tg : TagP} {r : List (List UInt8)} {k : Nat} {x : List UInt8} (hx : r[k]? = some x) (hv : variantB x = false) : c3 E tg r = (TagP.zero, E.syn) := by
  unfold c3
  rw [if_neg]
  intro h
  have := List.all_eq_true.1 h x (List.mem_of_getElem? hx)
  rw [hv] at this
  cases this
theorem add_add (a : Addr) (i j : Nat) : (a.add i).add j = a.add (i + j) := by
  unfold Addr.add
  by_cases hi : i = 0
  · subst hi; simp
  · by_cases hj : j = 0
    · subst hj; simp
    · simp [hi, hj, Nat.add_assoc]
theorem Sl.drop {w : World} {ad : Addr} {n : Nat} {xs : List Value} (h : Sl w (some ad) n xs) (k : Nat) (hk : k ≤ n) : Sl w (some (ad.add k)) (n - k) (xs.drop k) :=
  ⟨by rw [List.length_drop, h.1], fun j u hu => by
    rw [List.getElem?_drop] at hu
    obtain ⟨ad', he, hb, hc⟩ := h.2 (k + j) u hu
    injection he with he
    subst he
    exact ⟨_, rfl, by rw [addr_block]; exact hb, by rw [add_add]; exact hc⟩⟩

theorem two_new (w : World) (a b : Obj) : ((w.alloc a).alloc b).drew.heap[w.heap.size + 1]? = some b := by
  have h := heap_alloc_new (w.alloc a) b
  have e : (w.alloc a).heap.size = w.heap.size + 1 := by simp
  rw [e] at h
  exact h
theorem two_old (w : World) (a b : Obj) : ((w.alloc a).alloc b).drew.heap[w.heap.size]? = some a := by
  have h := heap_alloc_new w a
  have h2 := Below.heap_alloc (w.alloc a) b w.heap.size (by simp)
  exact h2.trans h
end Go.Proofs.YtblkpgglkhmggaaGreatDoor
