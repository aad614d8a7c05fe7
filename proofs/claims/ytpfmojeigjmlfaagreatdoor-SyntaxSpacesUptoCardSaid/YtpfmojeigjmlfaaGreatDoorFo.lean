import Derived.Test.YtpfmojeigjmlfaaGreatDoorOpenA
import Derived.Test.YtpfmojeigjmlfaaGreatDoorExc
import Derived.Test.YtpfmojeigjmlfaaGreatDoorAppN
import Derived.Test.YtpfmojeigjmlfaaGreatDoorTk
namespace Go.Proofs.YtpfmojeigjmlfaaGreatDoor
open Go.RowKit
set_option linter.unusedSimpArgs false
set_option linter.unusedVariables false

theorem SlN.exc0 {S : Nat → Prop} {w w' : World} {A : Option Addr} {n size : Nat} {xs : List Value} (h : SlN w A n size xs) (hw : Exc S w w') (hs : 0 < n → ∀ ad, A = some ad → ¬ S ad.block) : SlN w' A n size xs := by
  rcases Nat.eq_zero_or_pos n with h0 | h0
  · subst h0
    obtain ⟨h1, _⟩ := h
    have : xs = [] := List.eq_nil_of_length_eq_zero (by simpa using h1)
    subst this
    exact SlN.nil _ _ _
  · exact h.exc hw (hs h0)
/-! Parts in memory: the cells show a forest; every block behind a slice is one that is allowed. -/
mutual
def Fw (w : World) (ok : Nat → Prop) : F → List Value → Prop
  | .nil, cs => cs = []
  | .cons k t n s ca pa r, cs => ∃ Ac cc Ap cp ds ps rs, cs = [.int .i64 k, .string ⟨t.toArray⟩, .string ⟨n.toArray⟩, .string ⟨s.toArray⟩, .slice Ac ca.len cc, .slice Ap pa.len cp] ++ rs ∧
      (SlN w Ac ca.len 2 ds ∧ (0 < ca.len → ∀ ad, Ac = some ad → ok ad.block) ∧ Cw w ok ca ds) ∧ (SlN w Ap pa.len 6 ps ∧ (0 < pa.len → ∀ ad, Ap = some ad → ok ad.block) ∧ Fw w ok pa ps) ∧ Fw w ok r rs
def Cw (w : World) (ok : Nat → Prop) : F → List Value → Prop
  | .nil, cs => cs = []
  | .cons k t n s ca pa r, cs => ∃ Ap cp ps rs, cs = [.string ⟨n.toArray⟩, .slice Ap pa.len cp] ++ rs ∧
      (SlN w Ap pa.len 6 ps ∧ (0 < pa.len → ∀ ad, Ap = some ad → ok ad.block) ∧ Fw w ok pa ps) ∧ Cw w ok r rs
end
theorem FCw_len (w : World) (ok : Nat → Prop) : ∀ f : F, (∀ cs, Fw w ok f cs → cs.length = f.len * 6) ∧ (∀ cs, Cw w ok f cs → cs.length = f.len * 2) := by
  intro f
  induction f with
  | nil =>
    refine ⟨fun cs h => ?_, fun cs h => ?_⟩
    · rw [Fw] at h; subst h; rfl
    · rw [Cw] at h; subst h; rfl
  | cons k t n s ca pa r _ _ ih =>
    refine ⟨fun cs h => ?_, fun cs h => ?_⟩
    · rw [Fw] at h
      obtain ⟨Ac, cc, Ap, cp, ds, ps, rs, rfl, _, _, h4⟩ := h
      have := ih.1 _ h4
      simp only [List.length_append, List.length_cons, List.length_nil, F.len] at this ⊢
      omega
    · rw [Cw] at h
      obtain ⟨Ap, cp, ps, rs, rfl, _, h4⟩ := h
      have := ih.2 _ h4
      simp only [List.length_append, List.length_cons, List.length_nil, F.len] at this ⊢
      omega
theorem FCw_exc {w w' : World} {S ok ok' : Nat → Prop} (hw : Exc S w w') (hS : ∀ k, ok k → ¬ S k) (hok : ∀ k, ok k → ok' k) : ∀ f : F, (∀ cs, Fw w ok f cs → Fw w' ok' f cs) ∧ (∀ cs, Cw w ok f cs → Cw w' ok' f cs) := by
  intro f
  induction f with
  | nil =>
    refine ⟨fun cs h => ?_, fun cs h => ?_⟩
    · rw [Fw] at h ⊢; exact h
    · rw [Cw] at h ⊢; exact h
  | cons k t n s ca pa r ihc ihp ihr =>
    refine ⟨fun cs h => ?_, fun cs h => ?_⟩
    · rw [Fw] at h ⊢
      obtain ⟨Ac, cc, Ap, cp, ds, ps, rs, rfl, ⟨a1, a2, a3⟩, ⟨b1, b2, b3⟩, h4⟩ := h
      exact ⟨Ac, cc, Ap, cp, ds, ps, rs, rfl, ⟨a1.exc0 hw fun h0 ad hA => hS _ (a2 h0 ad hA), fun h0 ad hA => hok _ (a2 h0 ad hA), ihc.2 _ a3⟩, ⟨b1.exc0 hw fun h0 ad hA => hS _ (b2 h0 ad hA), fun h0 ad hA => hok _ (b2 h0 ad hA), ihp.1 _ b3⟩, ihr.1 _ h4⟩
    · rw [Cw] at h ⊢
      obtain ⟨Ap, cp, ps, rs, rfl, ⟨b1, b2, b3⟩, h4⟩ := h
      exact ⟨Ap, cp, ps, rs, rfl, ⟨b1.exc0 hw fun h0 ad hA => hS _ (b2 h0 ad hA), fun h0 ad hA => hok _ (b2 h0 ad hA), ihp.1 _ b3⟩, ihr.2 _ h4⟩
theorem FCw_app (w : World) (ok : Nat → Prop) (g : F) : ∀ f : F, (∀ cs ds, Fw w ok f cs → Fw w ok g ds → Fw w ok (f.app g) (cs ++ ds)) ∧ (∀ cs ds, Cw w ok f cs → Cw w ok g ds → Cw w ok (f.app g) (cs ++ ds)) := by
  intro f
  induction f with
  | nil =>
    refine ⟨fun cs ds h hg => ?_, fun cs ds h hg => ?_⟩
    · rw [Fw] at h; subst h; exact hg
    · rw [Cw] at h; subst h; exact hg
  | cons k t n s ca pa r _ _ ih =>
    refine ⟨fun cs ds h hg => ?_, fun cs ds h hg => ?_⟩
    · rw [Fw] at h
      obtain ⟨Ac, cc, Ap, cp, es, ps, rs, rfl, a, b, h4⟩ := h
      show Fw w ok (.cons k t n s ca pa (r.app g)) _
      rw [Fw]
      exact ⟨Ac, cc, Ap, cp, es, ps, rs ++ ds, by rw [List.append_assoc], a, b, ih.1 _ _ h4 hg⟩
    · rw [Cw] at h
      obtain ⟨Ap, cp, ps, rs, rfl, b, h4⟩ := h
      show Cw w ok (.cons k t n s ca pa (r.app g)) _
      rw [Cw]
      exact ⟨Ap, cp, ps, rs ++ ds, by rw [List.append_assoc], b, ih.2 _ _ h4 hg⟩
theorem SlN.inside {w : World} {A : Option Addr} {n size : Nat} {xs : List Value} (h : SlN w A n size xs) (hs : 0 < size) (h0 : 0 < n) : ∀ ad, A = some ad → ad.block < w.heap.size := by
  intro ad hA
  have hl : 0 < xs.length := by rw [h.1]; exact Nat.mul_pos h0 hs
  obtain ⟨b, o, e, hb, _⟩ := h.2 0 _ (List.getElem?_eq_getElem hl)
  rw [hA] at e
  injection e with e
  subst e
  exact hb
theorem FCw_in (w : World) (ok : Nat → Prop) : ∀ f : F, (∀ cs, Fw w ok f cs → Fw w (fun k => ok k ∧ k < w.heap.size) f cs) ∧ (∀ cs, Cw w ok f cs → Cw w (fun k => ok k ∧ k < w.heap.size) f cs) := by
  intro f
  induction f with
  | nil =>
    refine ⟨fun cs h => ?_, fun cs h => ?_⟩
    · rw [Fw] at h ⊢; exact h
    · rw [Cw] at h ⊢; exact h
  | cons k t n s ca pa r ihc ihp ihr =>
    refine ⟨fun cs h => ?_, fun cs h => ?_⟩
    · rw [Fw] at h ⊢
      obtain ⟨Ac, cc, Ap, cp, ds, ps, rs, rfl, ⟨a1, a2, a3⟩, ⟨b1, b2, b3⟩, h4⟩ := h
      exact ⟨Ac, cc, Ap, cp, ds, ps, rs, rfl, ⟨a1, fun h0 ad hA => ⟨a2 h0 ad hA, a1.inside (by decide) h0 ad hA⟩, ihc.2 _ a3⟩, ⟨b1, fun h0 ad hA => ⟨b2 h0 ad hA, b1.inside (by decide) h0 ad hA⟩, ihp.1 _ b3⟩, ihr.1 _ h4⟩
    · rw [Cw] at h ⊢
      obtain ⟨Ap, cp, ps, rs, rfl, ⟨b1, b2, b3⟩, h4⟩ := h
      exact ⟨Ap, cp, ps, rs, rfl, ⟨b1, fun h0 ad hA => ⟨b2 h0 ad hA, b1.inside (by decide) h0 ad hA⟩, ihp.1 _ b3⟩, ihr.2 _ h4⟩
/-- A slice of parts, a slice of cases. -/
def FwS (w : World) (ok : Nat → Prop) (f : F) (v : Value) : Prop := ∃ A c ps, v = .slice A f.len c ∧ SlN w A f.len 6 ps ∧ (0 < f.len → ∀ ad, A = some ad → ok ad.block) ∧ Fw w ok f ps
def CwS (w : World) (ok : Nat → Prop) (f : F) (v : Value) : Prop := ∃ A c ps, v = .slice A f.len c ∧ SlN w A f.len 2 ps ∧ (0 < f.len → ∀ ad, A = some ad → ok ad.block) ∧ Cw w ok f ps
theorem FwS.exc {w w' : World} {S ok ok' : Nat → Prop} {f : F} {v : Value} (h : FwS w ok f v) (hw : Exc S w w') (hS : ∀ k, ok k → ¬ S k) (hok : ∀ k, ok k → ok' k) : FwS w' ok' f v := by
  obtain ⟨A, c, ps, e, h1, h2, h3⟩ := h
  exact ⟨A, c, ps, e, h1.exc0 hw fun h0 ad hA => hS _ (h2 h0 ad hA), fun h0 ad hA => hok _ (h2 h0 ad hA), (FCw_exc hw hS hok f).1 _ h3⟩
theorem CwS.exc {w w' : World} {S ok ok' : Nat → Prop} {f : F} {v : Value} (h : CwS w ok f v) (hw : Exc S w w') (hS : ∀ k, ok k → ¬ S k) (hok : ∀ k, ok k → ok' k) : CwS w' ok' f v := by
  obtain ⟨A, c, ps, e, h1, h2, h3⟩ := h
  exact ⟨A, c, ps, e, h1.exc0 hw fun h0 ad hA => hS _ (h2 h0 ad hA), fun h0 ad hA => hok _ (h2 h0 ad hA), (FCw_exc hw hS hok f).2 _ h3⟩
theorem FwS.nil (w : World) (ok : Nat → Prop) : FwS w ok .nil (.slice none 0 0) := ⟨none, 0, [], rfl, SlN.nil _ _ _, (fun _ ad h => by cases h), by rw [Fw]⟩
theorem CwS.nil (w : World) (ok : Nat → Prop) : CwS w ok .nil (.slice none 0 0) := ⟨none, 0, [], rfl, SlN.nil _ _ _, (fun _ ad h => by cases h), by rw [Cw]⟩
/-- The cells of one part. -/
theorem Fw_one {w : World} {ok : Nat → Prop} {k : Int} {t n s : By} {ca pa : F} {vc vp : Value} (hc : CwS w ok ca vc) (hp : FwS w ok pa vp) :
    Fw w ok (.one k t n s ca pa) [.int .i64 k, .string ⟨t.toArray⟩, .string ⟨n.toArray⟩, .string ⟨s.toArray⟩, vc, vp] := by
  obtain ⟨Ac, cc, ds, rfl, a1, a2, a3⟩ := hc
  obtain ⟨Ap, cp, ps, rfl, b1, b2, b3⟩ := hp
  show Fw w ok (.cons k t n s ca pa .nil) _
  rw [Fw]
  exact ⟨Ac, cc, Ap, cp, ds, ps, [], by simp, ⟨a1, a2, a3⟩, ⟨b1, b2, b3⟩, by rw [Fw]⟩
theorem Cw_one {w : World} {ok : Nat → Prop} {k : Int} {t n s : By} {ca pa : F} {vp : Value} (hp : FwS w ok pa vp) : Cw w ok (.one k t n s ca pa) [.string ⟨n.toArray⟩, vp] := by
  obtain ⟨Ap, cp, ps, rfl, b1, b2, b3⟩ := hp
  show Cw w ok (.cons k t n s ca pa .nil) _
  rw [Cw]
  exact ⟨Ap, cp, ps, [], by simp, ⟨b1, b2, b3⟩, by rw [Cw]⟩
/-- A row that a call owns is a slice of parts. -/
theorem FwS_own {w : World} {B : Nat} {e : TypeId} {ok : Nat → Prop} {v : Value} {f : F} {xs : List Value} (h : w.ownsRow B e 6 v f.len xs) (hf : Fw w ok f xs) (hok : ∀ k, B ≤ k → ok k) : FwS w ok f v := by
  obtain ⟨A, c, rfl, hs⟩ := own_slN h
  refine ⟨A, c, xs, rfl, hs, fun _ ad hA => hok _ ((h.lt ad.block ?_).1), hf⟩
  rw [hA]; rfl
theorem CwS_own {w : World} {B : Nat} {e : TypeId} {ok : Nat → Prop} {v : Value} {f : F} {xs : List Value} (h : w.ownsRow B e 2 v f.len xs) (hf : Cw w ok f xs) (hok : ∀ k, B ≤ k → ok k) : CwS w ok f v := by
  obtain ⟨A, c, rfl, hs⟩ := own_slN h
  refine ⟨A, c, xs, rfl, hs, fun _ ad hA => hok _ ((h.lt ad.block ?_).1), hf⟩
  rw [hA]; rfl
end Go.Proofs.YtpfmojeigjmlfaaGreatDoor
