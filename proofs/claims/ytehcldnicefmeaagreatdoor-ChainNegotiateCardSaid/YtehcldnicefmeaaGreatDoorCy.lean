import Derived.Test.YtehcldnicefmeaaGreatDoorCv
import Derived.Maps.AppendAt
namespace Go.Proofs.YtehcldnicefmeaaGreatDoor
open Go.RowKit Go.Shelf
set_option linter.unusedSimpArgs false
set_option linter.unusedVariables false

/-! A loop over an iterator of indices whose body may return. -/
def bodyK (I : List Nat → World → Prop) (Ic : World → Prop) (o : List Nat) (k : Nat) (W : World) : Exit → Act → World → Prop
  | .normal, _, W' => KeepsOthers W W' ∧ k ∉ o ∧ I (o ++ [k]) W'
  | .ret, _, W' => KeepsOthers W W' ∧ k ∈ o ∧ Ic W'
  | _, _, _ => False
def bodyU (Iu : World → Prop) (W : World) : Exit → Act → World → Prop
  | .ret, _, W' => KeepsOthers W W' ∧ Iu W'
  | _, _, _ => False
/-- The record of the loop in block B + 1, and the block of its deferred calls. -/
def AtLoop (B : Nat) (r : Loop) (W : World) : Prop := W.heap[B + 1]? = some (.loop r) ∧ W.heap[B]? = some (.deferred (some []))
theorem AtLoop.ext {B : Nat} {r : Loop} {W W' : World} (h : AtLoop B r W) (hw : Ext W W') : AtLoop B r W' :=
  ⟨(Below.block hw _ (Array.getElem?_eq_some_iff.1 h.1).1).trans h.1, (Below.block hw _ (Array.getElem?_eq_some_iff.1 h.2).1).trans h.2⟩
theorem AtLoop.keeps {B : Nat} {r : Loop} {W W' : World} (h : AtLoop B r W) (hw : KeepsOthers W W') : AtLoop B r W' := ⟨hw.same _ _ h.1 rfl, hw.same _ _ h.2 rfl⟩
theorem AtLoop.turn {B : Nat} {r : Loop} {W : World} (h : AtLoop B r W) (r' : Loop) : AtLoop B r' (W.putObj (B + 1) (.loop r')) :=
  ⟨World.putObj_heap_same (Array.getElem?_eq_some_iff.1 h.1).1, (World.putObj_heap_other (by omega)).trans h.2⟩
def Turns (B : Nat) (I : World → Prop) : Prop := ∀ W r r', I W → AtLoop B r W → I (W.putObj (B + 1) (.loop r'))
def IterK (n : Nat) (P : Program) (gf : Nat) (lb : Array Value) (N : Nat) (R : List Nat × Int) (I : List Nat → World → Prop) : Prop :=
  ∀ (l : Nat) (J : List Nat → World → Prop) (Jc Ju : World → Prop), (∀ o W W', J o W → Ext W W' → J o W') → (∀ o W, J o W → I o W) →
    (∀ o k W, J o W → k < N → o.length ≤ N → YieldAt Fence.wide (n - 1) P l #[.int .i64 ((k : Nat) : Int)] W fun e W' => (e = .returned (.bool true) ∧ k ∉ o ∧ J (o ++ [k]) W') ∨ (e = .returned (.bool false) ∧ k ∈ o ∧ Jc W')) →
    (∀ o W, J o W → o.length ≤ N → YieldAt Fence.wide (n - 1) P l #[.int .i64 (-1)] W fun e W' => e = .returned (.bool false) ∧ Ju W') →
    ∀ W, J [] W → CallsIn Fence.wide n P gf (#[.func (.yield l) #[] #[]] ++ lb) W fun e W' => (∃ v, e = .returned v) ∧ ((∃ o, R = (o, 0) ∧ J o W') ∨ (R = ([], 15) ∧ Jc W') ∨ (R = ([], 10) ∧ Ju W'))

theorem range_ints {n : Nat} {P : Program} {g : Operand} {p : Tmp} {assign body : Code} {Q : Exit → Act → World → Prop} {a : Act} {w : World} {gf : Nat} {lb : Array Value}
    (hg : a.eval g = .func (.func gf) #[] lb) (eg : ∀ args w, (callFunc gf args).run P w = .ok (.enter gf args) w) (N : Nat) (R : List Nat × Int)
    (I : List Nat → World → Prop) (Ic Iu : World → Prop) (sI : ∀ o W W', I o W → Ext W W' → I o W') (tI : ∀ o, Turns w.heap.size (I o)) (tc : Turns w.heap.size Ic) (tu : Turns w.heap.size Iu)
    (h0 : I [] w) (iter : IterK (n - 1) P gf lb N R I) (a₁ : Int → Act)
    (hassign : ∀ (l : Nat) (x : Int) (W : World) (K : Act → World → Prop), K (a₁ x) W → assign.wpIn (Fence.wide.inRound l) (n - 1 - 1) P (Exit.then K (fun _ _ _ => False)) { tmps := ((#[p] : Array Tmp).zip #[.int .i64 x]).foldl (fun t (q, v) => t.setIfInBounds q v) a.tmps, defers := [] } W)
    (hbody : ∀ (l : Nat) o k W, I o W → k < N → o.length ≤ N → body.wpIn (Fence.wide.inRound l) (n - 1 - 1) P (bodyK I Ic o k W) (a₁ ((k : Nat) : Int)) W)
    (hbodyU : ∀ (l : Nat) o W, I o W → o.length ≤ N → body.wpIn (Fence.wide.inRound l) (n - 1 - 1) P (bodyU Iu W) (a₁ (-1)) W)
    (hdone : ∀ o W, R = (o, 0) → I o W → W.heap[w.heap.size]? = some (.deferred (some [])) → Q .normal { a with defers := { target := .collected w.heap.size, args := #[] } :: a.defers } W)
    (hret : ∀ W, (R = ([], 15) ∧ Ic W) ∨ (R = ([], 10) ∧ Iu W) → W.heap[w.heap.size]? = some (.deferred (some [])) → Code.ret.wpIn Fence.wide n P Q { a with defers := { target := .collected w.heap.size, args := #[] } :: a.defers } W) :
    (Code.rangeFunc g #[p] assign body).wpIn Fence.wide n P Q a w := by
  refine wpIn_rangeFunc ?_
  intro fn hfn
  obtain ⟨rc, hrc⟩ : ∃ rc : LoopState → Option Code → Loop, rc = fun st pe => { state := st, pending := pe, fn, tmps := a.tmps, params := #[p], assign, body, defers := w.heap.size } := ⟨_, rfl⟩
  obtain ⟨W1, hW1⟩ : ∃ W1, W1 = (w.alloc (.deferred (some []))).alloc (.loop (rc .ready none)) := ⟨_, rfl⟩
  have hA1 : AtLoop w.heap.size (rc .ready none) W1 := by
    rw [hW1]
    refine ⟨?_, ?_⟩
    · have := World.alloc_heap_new (w.alloc (.deferred (some []))) (.loop (rc .ready none)); rwa [World.size_alloc] at this
    · exact (Below.heap_alloc _ _ _ (by simp)).trans (World.alloc_heap_new w _)
  have hI1 : I [] W1 := sI _ _ _ h0 (by rw [hW1]; exact ((Ext.refl w).alloc _).alloc _)
  have hend : ∀ (W : World) (jump : Option Code), AtLoop w.heap.size (rc .busy none) W →
      (Instr.endRound (w.heap.size + 1) jump).run P W = .ok (.bool jump.isNone) (W.putObj (w.heap.size + 1) (.loop (rc (if jump.isNone then .ready else .done) jump))) := by
    intro W jump h
    have h2 := run_endRound (P := P) jump h.1
    rw [hrc] at h2 ⊢
    exact h2
  have hround : ∀ (x : Int) (W : World) (R' : Ending → World → Prop), AtLoop w.heap.size (rc .ready none) W →
      (body.wpIn (Fence.wide.inRound (w.heap.size + 1)) (n - 1 - 1) P (roundPost P (w.heap.size + 1) R') (a₁ x) (W.putObj (w.heap.size + 1) (.loop (rc .busy none)))) →
      YieldAt Fence.wide (n - 1 - 1) P (w.heap.size + 1) #[.int .i64 x] W R' := by
    intro x W R' hL hb
    have hy := run_yield (P := P) (args := #[.int .i64 x]) hL.1 (by rw [hrc]; rfl)
    refine ⟨_, _, _, _, hy, roundIn_of_wpIn (by rw [hrc]; exact hfn) ?_⟩
    have hbr := run_beginRound (P := P) hL.1 (by rw [hrc])
    rw [hrc] at hb hbr ⊢
    refine hassign _ x W _ ?_
    exact ⟨_, hbr, hb⟩
  refine ⟨w.heap.size + 1, [{ target := .collected w.heap.size, args := #[] }], W1, { target := .fn (.func gf) lb, args := #[.func (.yield (w.heap.size + 1)) #[] #[]] }, W1, gf,
    #[.func (.yield (w.heap.size + 1)) #[] #[]] ++ lb, W1, ?_, ?_, fun f' _ => trivial, ?_, fun h => (by cases h), ?_⟩
  · rw [hW1, hrc]; exact run_enterLoop_outer _ _ _ _ _
  · simp only [resolve, hg]
    simp [go_sem]
  · simp [invoke, go_sem, eg]
  · refine (iter (w.heap.size + 1) (fun o W => I o W ∧ AtLoop w.heap.size (rc .ready none) W) (fun W => Ic W ∧ AtLoop w.heap.size (rc .done (some .ret)) W) (fun W => Iu W ∧ AtLoop w.heap.size (rc .done (some .ret)) W)
      (fun o W W' h hw => ⟨sI _ _ _ h.1 hw, h.2.ext hw⟩) (fun o W h => h.1) ?_ ?_ W1 ⟨hI1, hA1⟩).mono ?_
    · rintro o k W ⟨hi, hl⟩ hk ho
      refine hround _ W _ hl (Code.wpIn_mono ?_ (hbody _ o k _ (tI o _ _ _ hi hl) hk ho))
      rintro e a3 W3 hp
      cases e with
      | normal =>
        obtain ⟨hk3, hno, hi3⟩ := hp
        have hl3 := (hl.turn (rc .busy none)).keeps hk3
        exact ⟨_, _, hend W3 none hl3, .inl ⟨rfl, hno, tI _ _ _ _ hi3 hl3, hl3.turn _⟩⟩
      | ret =>
        obtain ⟨hk3, hyes, hi3⟩ := hp
        have hl3 := (hl.turn (rc .busy none)).keeps hk3
        exact ⟨_, _, hend W3 (some .ret) hl3, .inr ⟨rfl, hyes, tc _ _ _ hi3 hl3, hl3.turn _⟩⟩
      | _ => exact hp.elim
    · rintro o W ⟨hi, hl⟩ ho
      refine hround _ W _ hl (Code.wpIn_mono ?_ (hbodyU _ o _ (tI o _ _ _ hi hl) ho))
      rintro e a3 W3 hp
      cases e with
      | ret =>
        obtain ⟨hk3, hi3⟩ := hp
        have hl3 := (hl.turn (rc .busy none)).keeps hk3
        exact ⟨_, _, hend W3 (some .ret) hl3, rfl, tu _ _ _ hi3 hl3, hl3.turn _⟩
      | _ => exact hp.elim
    · rintro e W2 ⟨⟨v, rfl⟩, (⟨o, hR, hi, hl⟩ | ⟨hR, hi, hl⟩ | ⟨hR, hi, hl⟩)⟩
      · have h2 := run_endLoop (P := P) hl.1 (by rw [hrc]; simp)
        rw [hrc] at h2
        exact ⟨none, _, h2, hdone o _ hR (tI _ _ _ _ hi hl) (hl.turn _).2⟩
      · have h2 := run_endLoop (P := P) hl.1 (by rw [hrc]; simp)
        rw [hrc] at h2
        exact ⟨some .ret, _, h2, hret _ (.inl ⟨hR, tc _ _ _ hi hl⟩) (hl.turn _).2⟩
      · have h2 := run_endLoop (P := P) hl.1 (by rw [hrc]; simp)
        rw [hrc] at h2
        exact ⟨some .ret, _, h2, hret _ (.inr ⟨hR, tu _ _ _ hi hl⟩) (hl.turn _).2⟩
end Go.Proofs.YtehcldnicefmeaaGreatDoor
