import Derived.Test.YtgjfjibaoehmpaaBase
import Derived.Test.YtgjfjibaoehmpaaPlain
namespace Go.Proofs.Ytgjfjibaoehmpaa
open Go.RowKit

def cellI (F : Nat → Nat) : Nat → Value := fun k => .int .i64 (F k)
def slc (b n : Nat) : Value := .slice (some ⟨b, 0, none⟩) n n

/-- Rows 0 to i - 1 of the table in block g stand, in blocks below C. -/
def TabR (w : World) (B C g m i : Nat) (f : Nat → Value) (F : Nat → Nat → Nat) : Prop :=
  ∀ r, r < i → ∃ b, f r = slc b m ∧ B ≤ b ∧ b ≠ g ∧ b < C ∧ w.rowIs b 3 m (cellI (F r))

theorem TabR.keep {w w' : World} {B C g m i : Nat} {f : Nat → Value} {F : Nat → Nat → Nat} (h : TabR w B C g m i f F)
    (hk : ∀ b, b < C → b ≠ g → w'.heap[b]? = w.heap[b]?) : TabR w' B C g m i f F := fun r hr =>
  let ⟨b, h1, h2, h3, h4, h5⟩ := h r hr
  ⟨b, h1, h2, h3, h4, h5.of_block (hk b h4 h3)⟩

def TabInv (w : World) (n m : Nat) (F : Nat → Nat → Nat) (i : Value) (wr : World) : Prop :=
  ∃ (k : Nat) (f : Nat → Value), k ≤ n + 1 ∧ i = .int .i64 k ∧ wr.rowIs w.heap.size 46 (n + 1) f ∧ TabR wr w.heap.size wr.heap.size w.heap.size (m + 1) k f F ∧ Ext w wr

/-- The row in block b stands up to k. -/
def RowUp (w : World) (b m k : Nat) (F : Nat → Nat) : Prop := w.rowIs b 3 m (fun j => if j < k then .int .i64 (F j) else .int .i64 0)

def RowInv (w : World) (n m i b : Nat) (f : Nat → Value) (F : Nat → Nat → Nat) (kv : Value) (wx : World) : Prop :=
  ∃ k : Nat, k ≤ m + 1 ∧ kv = .int .i64 k ∧ wx.rowIs w.heap.size 46 (n + 1) f ∧ TabR wx w.heap.size b w.heap.size (m + 1) i f F ∧ RowUp wx b (m + 1) k (F i) ∧ Ext w wx ∧ wx.heap.size = b + 1

theorem row_start {w wr : World} {n m i : Nat} {f : Nat → Value} {F : Nat → Nat → Nat} (h1 : wr.rowIs w.heap.size 46 (n + 1) f) (h2 : TabR wr w.heap.size wr.heap.size w.heap.size (m + 1) i f F)
    (h3 : Ext w wr) :
    RowInv w n m i wr.heap.size (fun r => if r = i then slc wr.heap.size (m + 1) else f r) F (.int .i64 0)
      ((wr.setCell ⟨w.heap.size, i, none⟩ (.slice (some ⟨wr.heap.size, 0, none⟩) (m + 1) (m + 1))).alloc (.cells (madeCells #[.int .i64 0] (m + 1)) 3)) := by
  have hs : (wr.setCell ⟨w.heap.size, i, none⟩ (.slice (some ⟨wr.heap.size, 0, none⟩) (m + 1) (m + 1))).heap.size = wr.heap.size := by simp [World.setCell]
  refine ⟨0, Nat.zero_le _, rfl, (h1.set i _).alloc _, ?_, ?_, (h3.setCell (Nat.le_refl _) _).alloc _, by simp [World.setCell]⟩
  · intro r hr
    obtain ⟨b, e1, e2, e3, e4, e5⟩ := h2 r hr
    exact ⟨b, by show (if r = i then _ else f r) = _; rw [if_neg (by omega)]; exact e1, e2, e3, e4, (e5.setOther (by exact e3) _).alloc _⟩
  · have h5 := World.rowIs_made (wr.setCell ⟨w.heap.size, i, none⟩ (.slice (some ⟨wr.heap.size, 0, none⟩) (m + 1) (m + 1))) (.int .i64 0) (m + 1) 3
    rw [hs] at h5
    exact h5.congr (fun j _ => by simp)

theorem row_step {w wx : World} {n m i b k : Nat} {f : Nat → Value} {F : Nat → Nat → Nat} (hk : k < m + 1) (h1 : wx.rowIs w.heap.size 46 (n + 1) f)
    (h2 : TabR wx w.heap.size b w.heap.size (m + 1) i f F) (h3 : RowUp wx b (m + 1) k (F i)) (h4 : Ext w wx) (h5 : wx.heap.size = b + 1) (hb : w.heap.size < b) (v : Int) (hv : v = (F i k : Nat)) :
    RowInv w n m i b f F (.int .i64 (k + 1)) (wx.setCell ⟨b, k, none⟩ (.int .i64 v)) := by
  subst hv
  refine ⟨k + 1, hk, rfl, h1.setOther (by show w.heap.size ≠ b; omega) _, ?_, ?_, h4.setCell (by show w.heap.size ≤ b; omega) _, by simpa [World.setCell] using h5⟩
  · intro r hr
    obtain ⟨c, e1, e2, e3, e4, e5⟩ := h2 r hr
    exact ⟨c, e1, e2, e3, e4, e5.setOther (by show c ≠ b; omega) _⟩
  · refine (World.rowIs.set h3 k _).congr (fun j _ => ?_)
    by_cases e : j = k
    · subst e; simp
    · simp only [if_neg e]
      by_cases e2 : j < k
      · rw [if_pos e2, if_pos (by omega)]
      · rw [if_neg e2, if_neg (by omega)]

theorem row_stepD {w wx : World} {n m i b k : Nat} {f : Nat → Value} {F : Nat → Nat → Nat} (hk : k < m + 1) (h1 : wx.rowIs w.heap.size 46 (n + 1) f)
    (h2 : TabR wx w.heap.size b w.heap.size (m + 1) i f F) (h3 : RowUp wx b (m + 1) k (F i)) (h4 : Ext w wx) (h5 : wx.heap.size = b + 1) (hb : w.heap.size < b) (v : Int) (q : Nat) (hv : v = (F i k : Nat)) :
    RowInv w n m i b f F (.int .i64 (k + 1)) ((wx.drewN q).setCell ⟨b, k, none⟩ (.int .i64 v)) :=
  row_step (wx := wx.drewN q) hk h1 h2 h3 (h4.drewN q) h5 hb v hv

theorem row_end {w wx : World} {n m i b k : Nat} {f : Nat → Value} {F : Nat → Nat → Nat} (hi : i < n + 1) (hk : k = m + 1) (h1 : wx.rowIs w.heap.size 46 (n + 1) (fun r => if r = i then slc b (m + 1) else f r))
    (h2 : TabR wx w.heap.size b w.heap.size (m + 1) i (fun r => if r = i then slc b (m + 1) else f r) F) (h3 : RowUp wx b (m + 1) k (F i)) (h4 : Ext w wx) (h5 : wx.heap.size = b + 1) (hb : w.heap.size < b) :
    TabInv w n m F (.int .i64 (i + 1)) wx := by
  subst hk
  refine ⟨i + 1, _, hi, rfl, h1, ?_, h4⟩
  intro r hr
  by_cases e : r = i
  · subst e
    exact ⟨b, by simp, by omega, by omega, by omega, World.rowIs.congr h3 (fun j hj => by rw [if_pos hj]; rfl)⟩
  · obtain ⟨c, e1, e2, e3, e4, e5⟩ := h2 r (by omega)
    exact ⟨c, e1, e2, e3, by omega, e5⟩


end Go.Proofs.Ytgjfjibaoehmpaa
