import Derived.Calls
import Derived.Test.YtljdlkonlnjadaaGreatDoorNX2
import Derived.Sort.Grow
set_option maxRecDepth 100000
set_option linter.unusedSimpArgs false
set_option linter.unusedVariables false
namespace Go.Proofs.YtljdlkonlnjadaaGreatDoor
theorem ask_mono {α : Type} (a : Ask α) : ∀ w : World, w.drawn ≤ (w.ask a).2.drawn := by
 induction a with
 | done a => intro w; exact Nat.le_refl _
 | ask what range k ih =>
   intro w
   unfold World.ask
   simp only
   split
   ·exact ih _ w
   ·exact Nat.le_trans (Nat.le_succ _) (ih _ { w with drawn := w.drawn + 1 })
theorem sys_mono (w : World) (c : Sys) : w.drawn ≤ (w.sys c).2.drawn := by
 have h := ask_mono (Kernel.perform c w.os) w
 unfold World.sys
 split
 ·exact Nat.le_refl _
 ·next r os w' hs => rw [hs] at h; exact h
def resW {α : Type} : Result α → World
 | .ok _ w => w
 | .halt _ w => w
theorem view_store {p : Program} {w w' : World} {at_ : Addr} {u : TypeId} {k : Addr} {v : Value} {b : Bool} {l : List Addr} (h : w.viewStore p at_ u k v b = .ok (w', l)) : w'.drawn = w.drawn := by
 unfold World.viewStore at h
 simp only [bind, Except.bind, pure, Except.pure, throw, throwThe, MonadExceptOf.throw] at h
 repeat' split at h
 all_goals first
  | (cases h; done)
  | (cases h; rfl)
theorem far_store {p : Program} {w w' : World} {a : Addr} {v : Value} {b : Bool} {l : List Addr} (h : w.farStore p a v b = .ok (w', l)) : w'.drawn = w.drawn := by
 unfold World.farStore at h
 split at h
 ·next hv =>
  split at h
  ·next r hr => injection h with h; subst h; exact view_store hr
  ·cases h
 ·cases h
theorem run_mono {α : Type} (p : Program) (s : Sem α) : ∀ w : World, w.drawn ≤ (resW (s.run p w)).drawn := by
 induction s with
 | pure a => intro w; exact Nat.le_refl _
 | load m a k ih =>
   intro w
   simp only [Sem.run]
   split
   ·exact ih _ w
   ·split
    ·exact ih _ w
    ·exact Nat.le_refl _
 | store m a v k ih =>
   intro w
   cases v
   all_goals simp only [Sem.run]
   all_goals first
    | exact Nat.le_refl _
    | (split
       ·split
        ·exact Nat.le_refl _
        ·exact ih (w.setCell a _)
       ·split
        ·next hf => rw [← far_store hf]; exact ih _
        ·exact Nat.le_refl _)
 | new o k ih => intro w; exact ih _ { w with heap := w.heap.push o }
 | shape r k ih => intro w; exact ih _ w
 | freeze a n k ih =>
   intro w
   have h := ih (w.freeze a n)
   have e : (w.freeze a n).drawn = w.drawn := by unfold World.freeze; split <;> rfl
   rw [e] at h
   exact h
 | frozen a k ih => intro w; exact ih _ w
 | getObj r k ih =>
   intro w
   simp only [Sem.run]
   split
   ·exact Nat.le_refl _
   ·exact ih _ w
   ·exact Nat.le_refl _
 | setObj r o k ih =>
   intro w
   simp only [Sem.run]
   split
   ·exact Nat.le_refl _
   ·exact ih { w with heap := w.heap.setIfInBounds r o }
   ·exact Nat.le_refl _
 | choose q k ih =>
   intro w
   simp only [Sem.run]
   split
   ·exact ih _ w
   ·exact Nat.le_trans (Nat.le_succ _) (ih _ { w with drawn := w.drawn + 1 })
 | sys c k ih => intro w; exact Nat.le_trans (sys_mono w c) (ih _ _)
 | program k ih => intro w; exact ih _ w
 | mark m k ih => intro w; exact ih w
 | halt h => intro w; exact Nat.le_refl _
theorem runT_mono {α : Type} (p : Program) (s : Sem α) : ∀ (w : World) (es : Array Event), w.drawn ≤ (resW (s.runT p w es).1).drawn := by
 induction s with
 | pure a => intro w es; exact Nat.le_refl _
 | load m a k ih =>
   intro w es
   simp only [Sem.runT]
   split
   ·exact ih _ w _
   ·split
    ·exact ih _ w _
    ·exact Nat.le_refl _
 | store m a v k ih =>
   intro w es
   cases v
   all_goals simp only [Sem.runT]
   all_goals first
    | exact Nat.le_refl _
    | (split
       ·split
        ·exact Nat.le_refl _
        ·exact ih (w.setCell a _) _
       ·split
        ·next hf => rw [← far_store hf]; exact ih _ _
        ·exact Nat.le_refl _)
 | new o k ih => intro w es; exact ih _ { w with heap := w.heap.push o } _
 | shape r k ih => intro w es; exact ih _ w _
 | freeze a n k ih =>
   intro w es
   have h := ih (w.freeze a n) es
   have e : (w.freeze a n).drawn = w.drawn := by unfold World.freeze; split <;> rfl
   rw [e] at h
   exact h
 | frozen a k ih => intro w es; exact ih _ w _
 | getObj r k ih =>
   intro w es
   simp only [Sem.runT]
   split
   ·exact Nat.le_refl _
   ·exact ih _ w _
   ·exact Nat.le_refl _
 | setObj r o k ih =>
   intro w es
   simp only [Sem.runT]
   split
   ·exact Nat.le_refl _
   ·exact ih { w with heap := w.heap.setIfInBounds r o } _
   ·exact Nat.le_refl _
 | choose q k ih =>
   intro w es
   simp only [Sem.runT]
   split
   ·exact ih _ w _
   ·exact Nat.le_trans (Nat.le_succ _) (ih _ { w with drawn := w.drawn + 1 } _)
 | sys c k ih => intro w es; exact Nat.le_trans (sys_mono w c) (ih _ _ _)
 | program k ih => intro w es; exact ih _ w _
 | mark m k ih => intro w es; exact ih w _
 | halt h => intro w es; exact Nat.le_refl _
def Grows (w : World) : GStep → Prop
 | .go _ w' _ => w.drawn ≤ w'.drawn
 | .comm _ _ _ _ w' _ => w.drawn ≤ w'.drawn
 | .spawn _ _ w' _ => w.drawn ≤ w'.drawn
 | .count _ w' _ => w.drawn ≤ w'.drawn
 | .timer _ _ w' _ => w.drawn ≤ w'.drawn
 | .alone _ _ w' _ => w.drawn ≤ w'.drawn
 | .newcoro _ _ _ w' _ => w.drawn ≤ w'.drawn
 | .coroswitch _ _ _ w' _ => w.drawn ≤ w'.drawn
 | .collect _ w' _ => w.drawn ≤ w'.drawn
 | .watch _ w' _ => w.drawn ≤ w'.drawn
 | .ended _ _ _ => True
theorem grows_after {w : World} {es : Array Event} {s : GStep} : Grows w (s.after es) ↔ Grows w s := by cases s <;> exact Iff.rfl
theorem Grows.up {w w' : World} {s : GStep} (h : w.drawn ≤ w'.drawn) (hs : Grows w' s) : Grows w s := by cases s <;> first | trivial | exact Nat.le_trans h hs
theorem doReturn_grows (p : Program) (main : Bool) (fr : Frame) (callers : List Frame) (dying : Option Dying) (v : Value) (w : World) : Grows w (doReturn p main fr callers dying v w) := by
 unfold doReturn
 repeat' split
 all_goals first | trivial | exact Nat.le_refl _
theorem endThrow_grows (fr : Frame) (m : String) (w : World) : Grows w (endThrow fr m w) := Nat.le_refl _
theorem endPrinting_grows (p : Program) (fr : Frame) (v : Value) (w : World) : Grows w (endPrinting p fr v w) := by
 unfold endPrinting
 simp only
 split
 ·exact endThrow_grows _ _ _
 ·trivial
theorem endFatal_grows (p : Program) (fr : Frame) (callers : List Frame) (dying : Option Dying) (m : String) (w : World) : Grows w (endFatal p fr callers dying m w) := by
 unfold endFatal
 simp only
 split
 ·next h => exact (congrArg (fun r => w.drawn ≤ (resW r).drawn) h).mp (run_mono p _ w)
 ·trivial
 ·trivial
theorem endWith_grows (w : World) (fd : Nat) (t : ByteArray) (o : Outcome) : Grows w (endWith w fd t o) := by
 unfold endWith
 simp only
 repeat' split
 all_goals trivial
theorem writeOn_grows (p : Program) (fr : Frame) (d : Dying) (f : Fatal) (w : World) : Grows w (writeOn p fr d f w) := by
 unfold writeOn
 simp only
 split
 ·trivial
 ·split
  ·next h => exact (congrArg (fun r => w.drawn ≤ (resW r.1).drawn) h).mp (runT_mono p _ w _)
  ·next h => exact (congrArg (fun r => w.drawn ≤ (resW r.1).drawn) h).mp (runT_mono p _ w _)
  ·trivial
  ·trivial
theorem die_grows (p : Program) (fr : Frame) (d : Dying) (w : World) : Grows w (die p fr d w) := by
 unfold die
 split
 ·exact writeOn_grows _ _ _ _ _
 ·split
  ·split
   ·exact Nat.le_refl _
   ·exact endWith_grows _ _ _ _
  ·simp only
   split
   ·exact Nat.le_refl _
   ·split
    ·next h => exact (congrArg (fun r => w.drawn ≤ (resW r).drawn) h).mp (run_mono p _ w)
    ·trivial
   ·rw [grows_after]
    split
    ·next h => exact (congrArg (fun r => w.drawn ≤ (resW r).drawn) h).mp (runT_mono p _ w _)
    ·next h => exact (congrArg (fun r => w.drawn ≤ (resW r).drawn) h).mp (runT_mono p _ w _)
    ·trivial
    ·next h => exact Grows.up ((congrArg (fun r => w.drawn ≤ (resW r).drawn) h).mp (runT_mono p _ w _)) (endPrinting_grows _ _ _ _)
    ·trivial
   ·trivial
theorem callDeferred_grows (p : Program) (fr : Frame) (callers : List Frame) (dying : Option Dying) (d : Deferred) (w : World) : Grows w (callDeferred p fr callers dying d w) := by
 unfold callDeferred
 have hm := runT_mono p (invoke d.target d.args) w #[]
 generalize (invoke d.target d.args).runT p w #[] = re at hm ⊢
 obtain ⟨r, es⟩ := re
 simp only at hm ⊢
 have fin : ∀ (c : Bool) (x : GStep), Grows w x → Grows w (if c = true then .ended (.unsupported (.noEntry "machine/Return: a deferred call of a nil function value, made while the frame is unwinding") (fr.pos p)) w else x) := by
  intro c x hx
  cases c
  ·exact hx
  ·trivial
 refine fin _ _ ?_
 rw [grows_after]
 cases r with
 | ok n w' =>
   simp only [resW] at hm
   repeat' split
   all_goals first
    | trivial
    | exact hm
    | (cases ‹Result.ok _ _ = _›; exact hm)
    | (cases ‹Result.ok _ _ = _›; trivial)
 | halt h w' =>
   simp only [resW] at hm
   repeat' split
   all_goals first
    | trivial
    | (cases ‹Result.halt _ _ = _›; exact hm)
    | (cases ‹Result.halt _ _ = _›; exact Grows.up hm (endFatal_grows _ _ _ _ _ _))
    | (cases ‹Result.halt _ _ = _›; exact Grows.up hm (endThrow_grows _ _ _))
theorem unwind_grows (p : Program) (main : Bool) (fr : Frame) (callers : List Frame) (dying : Option Dying) (w : World) : Grows w (unwind p main fr callers dying w) := by
 unfold unwind
 split
 ·next block args ds hd =>
  simp only
  rw [grows_after]
  have hm := runT_mono p (Instr.takeDeferred block) w #[]
  generalize (Instr.takeDeferred block).runT p w #[] = re at hm
  obtain ⟨r, es⟩ := re
  simp only at hm ⊢
  split
  ·exact hm
  ·trivial
 ·exact callDeferred_grows _ _ _ _ _ _
 ·split
  ·trivial
  ·split
   ·trivial
   ·split
    ·exact Nat.le_refl _
    ·split
     ·split
      ·exact Nat.le_refl _
      ·split
       ·next h => exact (congrArg (fun r => w.drawn ≤ (resW r).drawn) h).mp (run_mono p _ w)
       ·trivial
       ·trivial
     ·split
      ·exact endPrinting_grows _ _ _ _
      ·trivial
  ·split
   ·exact doReturn_grows _ _ _ _ _ _ _
   ·next fn hfn =>
    simp only
    rw [grows_after]
    have hm := runT_mono p (results fn fr.tmps) w #[]
    generalize (results fn fr.tmps).runT p w #[] = re at hm
    obtain ⟨r, es⟩ := re
    simp only at hm ⊢
    split
    ·exact Grows.up hm (doReturn_grows _ _ _ _ _ _ _)
    ·trivial
    ·trivial
theorem early_grows (p : Program) (fr : Frame) (callers : List Frame) (dying : Option Dying) (g : Nat) (w : World) : Grows w (early p fr callers dying g w) := by
 unfold early
 have hm := run_mono p (choose (.early g) : Sem Nat) w
 generalize (choose (.early g) : Sem Nat).run p w = r at hm ⊢
 simp only
 cases r
 all_goals simp only [resW] at hm
 all_goals repeat' split
 all_goals first
  | trivial
  | exact Nat.le_refl _
  | exact hm
  | (cases ‹Result.ok _ _ = _›; exact hm)
end Go.Proofs.YtljdlkonlnjadaaGreatDoor
namespace Go.Proofs.YtljdlkonlnjadaaGreatDoor
set_option maxHeartbeats 1000000 in
theorem apply_grows (p : Program) (listen : Bool) (fr : Frame) (callers : List Frame) (dying : Option Dying) (s : Sem Next) (w : World) : Grows w (stepG.apply p listen fr callers dying s w) := by
 unfold stepG.apply
 simp only
 have hm : w.drawn ≤ (resW (if listen = true then s.runT p w #[] else (s.run p w, #[])).1).drawn := by
  split
  ·exact runT_mono p s w #[]
  ·exact run_mono p s w
 generalize (if listen = true then s.runT p w #[] else (s.run p w, #[])) = re at hm
 obtain ⟨r, es⟩ := re
 simp only at hm ⊢
 rw [grows_after]
 repeat' split
 all_goals first
  | trivial
  | exact hm
  | exact Grows.up hm (endFatal_grows _ _ _ _ _ _)
  | exact Grows.up hm (endThrow_grows _ _ _)
  | exact Grows.up hm (early_grows _ _ _ _ _ _)
theorem oper_grows (p : Program) (listen : Bool) (fr : Frame) (callers : List Frame) (dying : Option Dying) (w : World) : Grows w (stepG.oper p listen fr callers dying w) := by
 unfold stepG.oper
 split
 ·trivial
 ·split
  ·exact apply_grows _ _ _ _ _ _ _
  ·exact apply_grows _ _ _ _ _ _ _
theorem elim_grows {α : Type} {w : World} {o : Option α} {a : GStep} {f : α → GStep} (ha : Grows w a) (hf : ∀ x, Grows w (f x)) : Grows w (o.elim a f) := by
 cases o with
 | none => exact ha
 | some x => exact hf x
set_option maxHeartbeats 2000000 in
theorem exec_grows (p : Program) (main listen : Bool) (fr : Frame) (callers : List Frame) (dying : Option Dying) (w : World) : Grows w (stepG.exec p main listen fr callers dying w) := by
 unfold stepG.exec
 simp only
 repeat' split
 all_goals try refine elim_grows ?_ (fun _ => ?_)
 all_goals first
  | trivial
  | exact Nat.le_refl _
  | exact apply_grows _ _ _ _ _ _ _
  | exact oper_grows _ _ _ _ _ _
  | exact (congrArg (fun r => w.drawn ≤ (resW r).drawn) ‹Sem.run p _ w = _›).mp (run_mono p _ w)
  | (rw [grows_after]; exact Grows.up ((congrArg (fun r => w.drawn ≤ (resW r).drawn) ‹(Sem.runT p _ w #[]).fst = _›).mp (runT_mono p _ w #[])) (doReturn_grows _ _ _ _ _ _ _))
  | (rw [grows_after]; exact Grows.up ((congrArg (fun r => w.drawn ≤ (resW r).drawn) ‹(Sem.runT p _ w #[]).fst = _›).mp (runT_mono p _ w #[])) (apply_grows _ _ _ _ _ _ _))
  | (rw [grows_after]; exact (congrArg (fun r => w.drawn ≤ (resW r).drawn) ‹(Sem.runT p _ w #[]).fst = _›).mp (runT_mono p _ w #[]))
  | (rw [grows_after]; trivial)
theorem stepG_grows (p : Program) (main : Bool) (g : Goroutine) (w : World) (listen : Bool) : Grows w (stepG p main g w listen) := by
 unfold stepG
 simp only
 split
 ·exact die_grows _ _ _ _
 ·exact exec_grows _ _ _ _ _ _ _
 ·exact unwind_grows _ _ _ _ _ _
def SGrows (w : World) : Stepped → Prop
 | .next m => w.drawn ≤ m.world.drawn
 | .ended _ _ => True
theorem SGrows.up {w w' : World} {s : Stepped} (h : w.drawn ≤ w'.drawn) (hs : SGrows w' s) : SGrows w s := by cases s <;> first | trivial | exact Nat.le_trans h hs
theorem waitingAt_grows {rest : Rest} {cases : Array CommCase} {w w' : World} (h : waitingAt rest cases w = some w') : w'.drawn = w.drawn := by
 unfold waitingAt at h
 split at h
 ·split at h
  ·injection h with h; subst h; rfl
  ·cases h
 ·injection h with h; subst h; rfl
set_option maxHeartbeats 2000000 in
theorem communicate_grows (p : Program) (rest : Rest) (gs : Array Goroutine) (i : Nat) (g : Goroutine) (cases : Array CommCase) (blocking : Bool) (shape : CommShape) (w : World) : SGrows w (communicate p rest gs i g cases blocking shape w).1 := by
 unfold communicate
 simp only
 split
 ·trivial
 ·split
  ·split
   ·split
    ·next h => exact Nat.le_of_eq (waitingAt_grows h).symm
    ·trivial
   ·exact Nat.le_refl _
  ·split
   ·trivial
   ·next h =>
    have hm := (congrArg (fun r => w.drawn ≤ (resW r).drawn) h).mp (run_mono p _ w)
    simp only [resW] at hm
    repeat' split
    all_goals first
     | trivial
     | exact hm
     | (rename_i hh; have hx := (congrArg (fun r => (resW r).drawn) hh); exact Nat.le_trans hm (Nat.le_trans (run_mono p _ _) (Nat.le_of_eq hx)))
     | (rename_i hh _; have hx := (congrArg (fun r => (resW r).drawn) hh); exact Nat.le_trans hm (Nat.le_trans (run_mono p _ _) (Nat.le_of_eq hx)))
     | (rename_i hh _ _; have hx := (congrArg (fun r => (resW r).drawn) hh); exact Nat.le_trans hm (Nat.le_trans (run_mono p _ _) (Nat.le_of_eq hx)))
     | (rename_i hh _ _ _; have hx := (congrArg (fun r => (resW r).drawn) hh); exact Nat.le_trans hm (Nat.le_trans (run_mono p _ _) (Nat.le_of_eq hx)))
     | (rename_i hh _ _ _ _; have hx := (congrArg (fun r => (resW r).drawn) hh); exact Nat.le_trans hm (Nat.le_trans (run_mono p _ _) (Nat.le_of_eq hx)))
     | (rename_i hh _ _ _ _ _; have hx := (congrArg (fun r => (resW r).drawn) hh); exact Nat.le_trans hm (Nat.le_trans (run_mono p _ _) (Nat.le_of_eq hx)))
     | (rename_i hh _ _ _ _ _ _; have hx := (congrArg (fun r => (resW r).drawn) hh); exact Nat.le_trans hm (Nat.le_trans (run_mono p _ _) (Nat.le_of_eq hx)))
theorem look_grows (p : Program) (gs : Array Goroutine) (rest : Rest) (w : World) : SGrows w (look p gs rest w) := by
 unfold look
 simp only
 repeat' split
 all_goals first
  | trivial
  | exact (congrArg (fun r => w.drawn ≤ (resW r).drawn) ‹Sem.run p _ w = _›).mp (run_mono p _ w)
theorem serve_grows (p : Program) (m : Machine) (k : Nat) : SGrows m.world (serve p m k) := by
 unfold serve
 simp only
 repeat' split
 all_goals first
  | trivial
  | exact Nat.le_refl _
theorem drain_grows (w : World) (c : Nat) : (drain w c).2.drawn = w.drawn := by
 unfold drain
 split <;> rfl
theorem retime_grows (m : Machine) (k : Nat) (t : Timer) (a b : Nat) : (retime m k t a b).2.world.drawn = m.world.drawn := by
 unfold retime
 simp only
 split
 ·next c hc => exact drain_grows m.world c
 ·rfl
theorem named_grows {m m' : Machine} {var : Addr} {f : Nat → Timer → Value × Machine} {v : Value} (hf : ∀ k t, (f k t).2.world.drawn = m.world.drawn) (h : timerOp.named m var f = .ok (v, m')) : m'.world.drawn = m.world.drawn := by
 unfold timerOp.named at h
 split at h
 ·next k hk =>
  injection h with h
  have h2 := hf k (m.rest.timers.getD k default)
  rw [h] at h2
  exact h2
 ·cases h
theorem opened_grows {m m' : Machine} {var : Addr} (h : timerOp.opened m var = some m') : m'.world.drawn = m.world.drawn := by
 unfold timerOp.opened at h
 split at h
 ·split at h
  ·injection h with h; subst h; rfl
  ·cases h
 ·injection h with h; subst h; rfl
theorem timer_grows {m m' : Machine} {op : TimerOp} {v : Value} (h : timerOp m op = .ok (v, m')) : m'.world.drawn = m.world.drawn := by
 unfold timerOp at h
 split at h
 ·split at h
  ·injection h with h; injection h with _ h; subst h; rfl
  ·split at h
   ·split at h
    ·cases h
    ·injection h with h; injection h with _ h; subst h; rfl
   ·cases h
 ·exact named_grows (fun k t => retime_grows _ _ _ _ _) h
 ·split at h
  ·next m1 hm1 =>
   exact named_grows (fun k t => (retime_grows m1 _ _ _ _).trans (opened_grows hm1)) h
  ·cases h
 ·injection h with h; injection h with _ h; subst h; rfl
set_option maxHeartbeats 1000000 in
theorem runTM_grows (p : Program) (m : Machine) (i : Nat) (listen : Bool) : SGrows m.world (Go.runT p m i listen).1 := by
 unfold Go.runT
 simp only
 have hg := stepG_grows p (i == 0) (m.gs.swapAt! i { (default : Goroutine) with status := .finished }).1 m.world listen
 generalize stepG p (i == 0) (m.gs.swapAt! i { (default : Goroutine) with status := .finished }).1 m.world listen = s at hg ⊢
 cases s with
 | ended o w es => trivial
 | comm g cases blocking shape w es => exact SGrows.up hg (communicate_grows _ _ _ _ _ _ _ _ _)
 | go g w es => exact hg
 | spawn g child w es => exact hg
 | count g w es =>
   simp only
   split
   ·trivial
   ·exact hg
 | alone g on w es => exact hg
 | collect g w es => exact SGrows.up hg (look_grows _ _ _ _)
 | watch g w es => exact hg
 | newcoro g c d w es => exact hg
 | coroswitch g c exit w es =>
   simp only
   repeat' split
   all_goals first
    | trivial
    | exact hg
    | (cases ‹endThrow _ _ _ = _›; exact hg)
 | timer g op w es =>
   simp only
   split
   ·next v m' h =>
    have := timer_grows h
    exact Nat.le_trans hg (Nat.le_of_eq this.symm)
   ·split
    ·next h => cases h; exact hg
    ·trivial
   ·trivial
   ·trivial
def MGrows (w : World) : Move → Prop
 | .goroutine m _ => w.drawn ≤ m.world.drawn
 | .machine s _ => SGrows w s
theorem MGrows.up {w w' : World} {s : Move} (h : w.drawn ≤ w'.drawn) (hs : MGrows w' s) : MGrows w s := by
 cases s with
 | goroutine m i => exact Nat.le_trans h hs
 | machine s ops => exact SGrows.up h hs
theorem pick_grows (p : Program) (rs : List Nat) (m : Machine) : MGrows m.world (match (choose (.sched rs.length) : Sem Nat).run p m.world with
 | .halt _ w => .machine (.ended (.stuck "sched" "") w)
 | .ok k world =>
   if rs.length ≤ 1 then .goroutine { m with world } (rs.getD k 0) else
   match (choose (.extern "sched.slice" 65536) : Sem Nat).run p world with
   | .halt _ w => .machine (.ended (.stuck "sched.slice" "") w)
   | .ok n world => .goroutine { m with world, rest := { m.rest with slice := if n = 0 then none else some (rs.getD k 0, n) } } (rs.getD k 0)) := by
 split
 ·trivial
 ·next h =>
  have hm := (congrArg (fun r => m.world.drawn ≤ (resW r).drawn) h).mp (run_mono p _ m.world)
  simp only [resW] at hm
  split
  ·exact hm
  ·split
   ·trivial
   ·next h2 =>
    have hx := (congrArg (fun r => (resW r).drawn) h2)
    exact Nat.le_trans hm (Nat.le_trans (run_mono p _ _) (Nat.le_of_eq hx))
set_option maxHeartbeats 1000000 in
theorem askOn_grows (p : Program) (m : Machine) : MGrows m.world (askOn p m) := by
 unfold askOn
 simp only
 generalize hr : ((if (due m.rest.timers m.world.os.mono).isEmpty = true then pure 0 else choose (.extern "timer.serve" ((due m.rest.timers m.world.os.mono).length + (if ((runnable m.gs m.world.os.mono).isEmpty && (ahead m false).isNone) = true then 0 else 1)))) : Sem Nat).run p m.world = r
 have hm : m.world.drawn ≤ (resW r).drawn := by rw [← hr]; exact run_mono p _ m.world
 cases r with
 | halt h w => trivial
 | ok k world =>
   simp only [resW] at hm ⊢
   split
   ·exact SGrows.up hm (serve_grows p { m with world } _)
   ·split
    ·split
     ·exact hm
     ·split
      ·exact hm
      ·split <;> trivial
    ·split
     ·exact MGrows.up hm (pick_grows p _ { m with world })
     ·split
      ·trivial
      ·next h2 =>
       have hx := (congrArg (fun r => (resW r).drawn) h2)
       exact MGrows.up (Nat.le_trans hm (Nat.le_trans (run_mono p _ _) (Nat.le_of_eq hx))) (pick_grows p _ { m with world := _ })
      ·next h2 =>
       have hx := (congrArg (fun r => (resW r).drawn) h2)
       exact Nat.le_trans hm (Nat.le_trans (run_mono p _ _) (Nat.le_of_eq hx))
      ·next h2 =>
       have hx := (congrArg (fun r => (resW r).drawn) h2)
       refine MGrows.up (Nat.le_trans hm (Nat.le_trans (run_mono p _ _) (Nat.le_of_eq hx))) ?_
       exact pick_grows p _ (Machine.advanceTo { m with world := _ } _)
theorem ask_grows (p : Program) (m : Machine) : MGrows m.world (ask p m) := by
 unfold ask
 split
 ·split
  ·trivial
  ·next w1 h =>
   have hm := (congrArg (fun r => m.world.drawn ≤ (resW r).drawn) h).mp (run_mono p _ m.world)
   simp only [resW] at hm
   have hl := look_grows p m.gs m.rest w1
   split
   ·next m' h' =>
    rw [h'] at hl
    exact MGrows.up (Nat.le_trans hm hl) (askOn_grows p m')
   ·exact SGrows.up hm hl
  ·next w1 _ h =>
   have hm := (congrArg (fun r => m.world.drawn ≤ (resW r).drawn) h).mp (run_mono p _ m.world)
   simp only [resW] at hm
   exact MGrows.up hm (askOn_grows p { m with world := w1 })
 ·exact askOn_grows p m
theorem move_grows (p : Program) (m : Machine) : MGrows m.world (move p m) := by
 unfold move
 split
 ·split
  ·exact Nat.le_refl _
  ·trivial
 ·split
  ·split
   ·exact Nat.le_refl _
   ·exact ask_grows p { m with rest := { m.rest with slice := none } }
  ·exact ask_grows p m
theorem step_grows (p : Program) (m : Machine) : SGrows m.world (step p m) := by
 have h := move_grows p m
 unfold step stepT
 split
 ·next m' i hm => rw [hm] at h; exact SGrows.up h (runTM_grows p m' i _)
 ·next s ops hm => rw [hm] at h; exact h
theorem runN_grows (p : Program) : ∀ (n : Nat) (m m' : Machine), runN p n m = .next m' → m.world.drawn ≤ m'.world.drawn
 | 0, m, m', h => by
   unfold runN at h
   injection h with h
   subst h
   exact Nat.le_refl _
 | n + 1, m, m', h => by
   have hs := step_grows p m
   unfold runN at h
   split at h
   ·next m1 h1 => rw [h1] at hs; exact Nat.le_trans hs (runN_grows p n m1 m' h)
   ·next hne => exact absurd h (hne m')
theorem calls_drawn {P : Program} {f : FuncId} {args : Array Value} {w : World} {R : Ending → World → Prop} (h : Calls P f args w R) :
 Calls P f args w fun e w' => R e w' ∧ ∀ v, e = .returned v → w.drawn ≤ w'.drawn := by
 intro cs
 obtain ⟨e, w', fr, hR, hC, hf, hl⟩ := h cs
 refine ⟨e, w', fr, ⟨hR, fun v hv => ?_⟩, hC, hf, hl⟩
 subst hv
 obtain ⟨n, hn⟩ := hC
 exact runN_grows P n _ _ hn
end Go.Proofs.YtljdlkonlnjadaaGreatDoor
namespace Go.Proofs.YtljdlkonlnjadaaGreatDoor
open Go.RowKit Go.Sort
theorem ext_grow {w w' : World} (h : Ext w w') (hd : w.drawn ≤ w'.drawn) : ∃ q os, w' = grow (w.drewN q) os := by
 have h0 : Below w.heap.size w w' := h
 refine ⟨w'.drawn - w.drawn, w'.heap.extract w.heap.size w'.heap.size, ?_⟩
 have hh : w'.heap = w.heap ++ w'.heap.extract w.heap.size w'.heap.size := by
  apply Array.ext'
  rw [Array.toList_append, Array.toList_extract]
  have e1 : w.heap.toList = w'.heap.toList.take w.heap.size := by
   apply List.ext_getElem?
   intro k
   rw [List.getElem?_take]
   by_cases hk : k < w.heap.size
   ·rw [if_pos hk]
    have := h0.block k hk
    simpa using this.symm
   ·rw [if_neg hk, List.getElem?_eq_none (by simpa using Nat.le_of_not_lt hk)]
  rw [e1]
  rw [List.extract_eq_take_drop, List.take_of_length_le (l := List.drop w.heap.size w'.heap.toList) (by simp), List.take_append_drop]
 have hdr : w'.drawn = w.drawn + (w'.drawn - w.drawn) := by omega
 obtain ⟨hp, tp, dr, os, out⟩ := w'
 have t1 : tp = w.tape := h0.tape
 have t2 : os = w.os := h0.os
 have t3 : out = w.output := h0.output
 simp only at hh hdr
 unfold grow World.drewN
 simp only
 subst t1; subst t2; subst t3
 congr 1
theorem calls_grow {P : Program} {f : FuncId} {args : Array Value} {w : World} {v : Value} (h : Calls P f args w fun e w' => e = .returned v ∧ Ext w w') :
 Calls P f args w fun e w' => e = .returned v ∧ ∃ q os, w' = grow (w.drewN q) os :=
 (calls_drawn h).mono fun e w' ⟨⟨he, hx⟩, hd⟩ => ⟨he, ext_grow hx (hd v he)⟩
end Go.Proofs.YtljdlkonlnjadaaGreatDoor
