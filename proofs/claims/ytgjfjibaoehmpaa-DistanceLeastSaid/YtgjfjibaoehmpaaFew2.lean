import Derived.Test.YtgjfjibaoehmpaaFew
import Derived.Test.YtgjfjibaoehmpaaAwake
import Derived.Test.YtgjfjibaoehmpaaCost
import Derived.Test.YtgjfjibaoehmpaaBase2
namespace Go.Proofs.Ytgjfjibaoehmpaa
open Go.RowKit

/-- Numbers of lists and whether they are few. -/
theorem few2 (N : Int) (A B : Option Addr) (n m ca cb : Nat) (w : World) (b : Bool) (hb : (decide ((n : Int) ≤ N) && decide ((m : Int) ≤ N)) = b) :
    Calls Try.prog 15 #[.int .i64 N, .slice (some ⟨w.heap.size, 0, none⟩) 2 2] (w.alloc (.cells #[.slice A n ca, .slice B m cb] 23)) fun e w' => e = .returned (.bool b) ∧ Ext w w' := by
  refine (few_any N [(A, n, ca), (B, m, cb)] _ 2 2 _ (Sl.lit w #[.slice A n ca, .slice B m cb] 23 2 rfl) (by unfold maxLen; omega)).mono ?_
  rintro e w' ⟨rfl, hw⟩
  exact ⟨by rw [← hb]; simp, ((Ext.refl w).alloc _).trans hw⟩
theorem few3 (N : Int) (A B C : Option Addr) (n m k ca cb cc : Nat) (w : World) (b : Bool) (hb : (decide ((n : Int) ≤ N) && (decide ((m : Int) ≤ N) && decide ((k : Int) ≤ N))) = b) :
    Calls Try.prog 15 #[.int .i64 N, .slice (some ⟨w.heap.size, 0, none⟩) 3 3] (w.alloc (.cells #[.slice A n ca, .slice B m cb, .slice C k cc] 23)) fun e w' => e = .returned (.bool b) ∧ Ext w w' := by
  refine (few_any N [(A, n, ca), (B, m, cb), (C, k, cc)] _ 3 3 _ (Sl.lit w #[.slice A n ca, .slice B m cb, .slice C k cc] 23 3 rfl) (by unfold maxLen; omega)).mono ?_
  rintro e w' ⟨rfl, hw⟩
  exact ⟨by rw [← hb]; simp, ((Ext.refl w).alloc _).trans hw⟩

set_option maxRecDepth 100000 in
theorem align_long (A B : Option Addr) (n m ca cb : Nat) (w : World) (h : 400 < n ∨ 400 < m) (hn : n ≤ maxLen) (hm : m ≤ maxLen) :
    Calls Try.prog 18 #[.slice A n ca, .slice B m cb] w fun e w' => e = .returned (.slice none 0 0) ∧ Ext w w' := by
  unfold maxLen at hn hm
  by_cases h1 : 400 < n
  · have h1I : (400 : Int) < (n : Int) := by omega
    go_enter Try.func18, Try.ntmps18
    go_wp2
    go_ret
    exact ⟨rfl, Ext.refl _⟩
  · have h1I : ¬ (400 : Int) < (n : Int) := by omega
    have h2I : (400 : Int) < (m : Int) := by omega
    clear h
    go_enter Try.func18, Try.ntmps18
    go_wp2
    go_ret
    exact ⟨rfl, Ext.refl _⟩

end Go.Proofs.Ytgjfjibaoehmpaa
