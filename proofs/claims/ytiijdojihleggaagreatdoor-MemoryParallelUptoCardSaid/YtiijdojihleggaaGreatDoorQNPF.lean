import Derived.Test.YtiijdojihleggaaGreatDoorQNB1
import Derived.Test.YtiijdojihleggaaGreatDoorQBaseg
set_option maxRecDepth 100000
set_option linter.unusedSimpArgs false
set_option linter.unusedVariables false
namespace Go.Proofs.YtiijdojihleggaaGreatDoor
open Go.RowKit
theorem SlN.exc0 {S : Nat → Prop} {w w' : World} {A : Option Addr} {n size : Nat} {xs : List Value} (h : SlN w A n size xs) (hw : Exc S w w') (hs : 0 < n → ∀ ad, A = some ad → ¬ S ad.block) : SlN w' A n size xs := by
 rcases Nat.eq_zero_or_pos n with h0 | h0
 ·subst h0
  obtain ⟨h1, _⟩ := h
  have : xs = [] := List.eq_nil_of_length_eq_zero (by simpa using h1)
  subst this
  exact SlN.nil _ _ _
 ·exact h.exc hw (hs h0)
mutual
def Fw (w : World) (ok : Nat → Prop) : F → List Value → Prop
 | .nil, cs => cs = []
 | .cons k t n s ca pa r, cs => ∃ Ac cc Ap cp ds ps rs, cs = [.int .i64 k, .string ⟨t.toArray⟩, .string ⟨n.toArray⟩, .string ⟨s.toArray⟩, .slice Ac ca.len cc, .slice Ap pa.len cp] ++ rs ∧
  (SlN w Ac ca.len 2 ds ∧ (0 < ca.len → ∀ ad, Ac = some ad → ok ad.block) ∧ Cw w ok ca ds) ∧ (SlN w Ap pa.len 6 ps ∧ (0 < pa.len → ∀ ad, Ap = some ad → ok ad.block) ∧ Fw w ok pa ps) ∧ Fw w ok r rs
def Cw (w : World) (ok : Nat → Prop) : F → List Value → Prop
 | .nil, cs => cs = []
 | .cons k t n s ca pa r, cs => ∃ Ap cp ps rs, cs = [.string ⟨n.toArray⟩, .slice Ap pa.len cp] ++ rs ∧
  (SlN w Ap pa.len 6 ps ∧ (0 < pa.len → ∀ ad, Ap = some ad → ok ad.block) ∧ Fw w ok pa ps) ∧ Cw w ok r rs
end
theorem FCw_exc {w w' : World} {S ok ok' : Nat → Prop} (hw : Exc S w w') (hS : ∀ k, ok k → ¬ S k) (hok : ∀ k, ok k → ok' k) : ∀ f : F, (∀ cs, Fw w ok f cs → Fw w' ok' f cs) ∧ (∀ cs, Cw w ok f cs → Cw w' ok' f cs) := by
 intro f
 induction f with
 | nil =>
   refine ⟨fun cs h => ?_, fun cs h => ?_⟩
   ·rw [Fw] at h ⊢; exact h
   ·rw [Cw] at h ⊢; exact h
 | cons k t n s ca pa r ihc ihp ihr =>
   refine ⟨fun cs h => ?_, fun cs h => ?_⟩
   ·rw [Fw] at h ⊢
    obtain ⟨Ac, cc, Ap, cp, ds, ps, rs, rfl, ⟨a1, a2, a3⟩, ⟨b1, b2, b3⟩, h4⟩ := h
    exact ⟨Ac, cc, Ap, cp, ds, ps, rs, rfl, ⟨a1.exc0 hw fun h0 ad hA => hS _ (a2 h0 ad hA), fun h0 ad hA => hok _ (a2 h0 ad hA), ihc.2 _ a3⟩, ⟨b1.exc0 hw fun h0 ad hA => hS _ (b2 h0 ad hA), fun h0 ad hA => hok _ (b2 h0 ad hA), ihp.1 _ b3⟩, ihr.1 _ h4⟩
   ·rw [Cw] at h ⊢
    obtain ⟨Ap, cp, ps, rs, rfl, ⟨b1, b2, b3⟩, h4⟩ := h
    exact ⟨Ap, cp, ps, rs, rfl, ⟨b1.exc0 hw fun h0 ad hA => hS _ (b2 h0 ad hA), fun h0 ad hA => hok _ (b2 h0 ad hA), ihp.1 _ b3⟩, ihr.2 _ h4⟩
theorem FCw_app (w : World) (ok : Nat → Prop) (g : F) : ∀ f : F, (∀ cs ds, Fw w ok f cs → Fw w ok g ds → Fw w ok (f.app g) (cs ++ ds)) ∧ (∀ cs ds, Cw w ok f cs → Cw w ok g ds → Cw w ok (f.app g) (cs ++ ds)) := by
 intro f
 induction f with
 | nil =>
   refine ⟨fun cs ds h hg => ?_, fun cs ds h hg => ?_⟩
   ·rw [Fw] at h; subst h; exact hg
   ·rw [Cw] at h; subst h; exact hg
 | cons k t n s ca pa r _ _ ih =>
   refine ⟨fun cs ds h hg => ?_, fun cs ds h hg => ?_⟩
   ·rw [Fw] at h
    obtain ⟨Ac, cc, Ap, cp, es, ps, rs, rfl, a, b, h4⟩ := h
    show Fw w ok (.cons k t n s ca pa (r.app g)) _
    rw [Fw]
    exact ⟨Ac, cc, Ap, cp, es, ps, rs ++ ds, by rw [List.append_assoc], a, b, ih.1 _ _ h4 hg⟩
   ·rw [Cw] at h
    obtain ⟨Ap, cp, ps, rs, rfl, b, h4⟩ := h
    show Cw w ok (.cons k t n s ca pa (r.app g)) _
    rw [Cw]
    exact ⟨Ap, cp, ps, rs ++ ds, by rw [List.append_assoc], b, ih.2 _ _ h4 hg⟩
theorem SlN.inside {w : World} {A : Option Addr} {n size : Nat} {xs : List Value} (h : SlN w A n size xs) (hs : 0 < size) (h0 : 0 < n) : ∀ ad, A = some ad → ad.block < w.heap.size := by
 intro ad hA
 have hl : 0 < xs.length := by rw [h.1]; exact Nat.mul_pos h0 hs
 obtain ⟨b, o, e, hb, _⟩ := h.2 0 _ (List.getElem?_eq_getElem hl)
 rw [hA] at e
 injection e with e
 subst e
 exact hb
theorem FCw_in (w : World) (ok : Nat → Prop) : ∀ f : F, (∀ cs, Fw w ok f cs → Fw w (fun k => ok k ∧ k < w.heap.size) f cs) ∧ (∀ cs, Cw w ok f cs → Cw w (fun k => ok k ∧ k < w.heap.size) f cs) := by
 intro f
 induction f with
 | nil =>
   refine ⟨fun cs h => ?_, fun cs h => ?_⟩
   ·rw [Fw] at h ⊢; exact h
   ·rw [Cw] at h ⊢; exact h
 | cons k t n s ca pa r ihc ihp ihr =>
   refine ⟨fun cs h => ?_, fun cs h => ?_⟩
   ·rw [Fw] at h ⊢
    obtain ⟨Ac, cc, Ap, cp, ds, ps, rs, rfl, ⟨a1, a2, a3⟩, ⟨b1, b2, b3⟩, h4⟩ := h
    exact ⟨Ac, cc, Ap, cp, ds, ps, rs, rfl, ⟨a1, fun h0 ad hA => ⟨a2 h0 ad hA, a1.inside (by decide) h0 ad hA⟩, ihc.2 _ a3⟩, ⟨b1, fun h0 ad hA => ⟨b2 h0 ad hA, b1.inside (by decide) h0 ad hA⟩, ihp.1 _ b3⟩, ihr.1 _ h4⟩
   ·rw [Cw] at h ⊢
    obtain ⟨Ap, cp, ps, rs, rfl, ⟨b1, b2, b3⟩, h4⟩ := h
    exact ⟨Ap, cp, ps, rs, rfl, ⟨b1, fun h0 ad hA => ⟨b2 h0 ad hA, b1.inside (by decide) h0 ad hA⟩, ihp.1 _ b3⟩, ihr.2 _ h4⟩
def FwS (w : World) (ok : Nat → Prop) (f : F) (v : Value) : Prop := ∃ A c ps, v = .slice A f.len c ∧ SlN w A f.len 6 ps ∧ (0 < f.len → ∀ ad, A = some ad → ok ad.block) ∧ Fw w ok f ps
def CwS (w : World) (ok : Nat → Prop) (f : F) (v : Value) : Prop := ∃ A c ps, v = .slice A f.len c ∧ SlN w A f.len 2 ps ∧ (0 < f.len → ∀ ad, A = some ad → ok ad.block) ∧ Cw w ok f ps
theorem FwS.exc {w w' : World} {S ok ok' : Nat → Prop} {f : F} {v : Value} (h : FwS w ok f v) (hw : Exc S w w') (hS : ∀ k, ok k → ¬ S k) (hok : ∀ k, ok k → ok' k) : FwS w' ok' f v := by
 obtain ⟨A, c, ps, e, h1, h2, h3⟩ := h
 exact ⟨A, c, ps, e, h1.exc0 hw fun h0 ad hA => hS _ (h2 h0 ad hA), fun h0 ad hA => hok _ (h2 h0 ad hA), (FCw_exc hw hS hok f).1 _ h3⟩
theorem CwS.exc {w w' : World} {S ok ok' : Nat → Prop} {f : F} {v : Value} (h : CwS w ok f v) (hw : Exc S w w') (hS : ∀ k, ok k → ¬ S k) (hok : ∀ k, ok k → ok' k) : CwS w' ok' f v := by
 obtain ⟨A, c, ps, e, h1, h2, h3⟩ := h
 exact ⟨A, c, ps, e, h1.exc0 hw fun h0 ad hA => hS _ (h2 h0 ad hA), fun h0 ad hA => hok _ (h2 h0 ad hA), (FCw_exc hw hS hok f).2 _ h3⟩
theorem FwS.nil (w : World) (ok : Nat → Prop) : FwS w ok .nil (.slice none 0 0) := ⟨none, 0, [], rfl, SlN.nil _ _ _, (fun _ ad h => by cases h), by rw [Fw]⟩
theorem CwS.nil (w : World) (ok : Nat → Prop) : CwS w ok .nil (.slice none 0 0) := ⟨none, 0, [], rfl, SlN.nil _ _ _, (fun _ ad h => by cases h), by rw [Cw]⟩
theorem Fw_one {w : World} {ok : Nat → Prop} {k : Int} {t n s : By} {ca pa : F} {vc vp : Value} (hc : CwS w ok ca vc) (hp : FwS w ok pa vp) :
 Fw w ok (.one k t n s ca pa) [.int .i64 k, .string ⟨t.toArray⟩, .string ⟨n.toArray⟩, .string ⟨s.toArray⟩, vc, vp] := by
 obtain ⟨Ac, cc, ds, rfl, a1, a2, a3⟩ := hc
 obtain ⟨Ap, cp, ps, rfl, b1, b2, b3⟩ := hp
 show Fw w ok (.cons k t n s ca pa .nil) _
 rw [Fw]
 exact ⟨Ac, cc, Ap, cp, ds, ps, [], by simp, ⟨a1, a2, a3⟩, ⟨b1, b2, b3⟩, by rw [Fw]⟩
theorem Cw_one {w : World} {ok : Nat → Prop} {k : Int} {t n s : By} {ca pa : F} {vp : Value} (hp : FwS w ok pa vp) : Cw w ok (.one k t n s ca pa) [.string ⟨n.toArray⟩, vp] := by
 obtain ⟨Ap, cp, ps, rfl, b1, b2, b3⟩ := hp
 show Cw w ok (.cons k t n s ca pa .nil) _
 rw [Cw]
 exact ⟨Ap, cp, ps, [], by simp, ⟨b1, b2, b3⟩, by rw [Cw]⟩
theorem FwS_own {w : World} {B : Nat} {e : TypeId} {ok : Nat → Prop} {v : Value} {f : F} {xs : List Value} (h : w.ownsRow B e 6 v f.len xs) (hf : Fw w ok f xs) (hok : ∀ k, B ≤ k → ok k) : FwS w ok f v := by
 obtain ⟨A, c, rfl, hs⟩ := own_slN h
 refine ⟨A, c, xs, rfl, hs, fun _ ad hA => hok _ ((h.lt ad.block ?_).1), hf⟩
 rw [hA]; rfl
theorem CwS_own {w : World} {B : Nat} {e : TypeId} {ok : Nat → Prop} {v : Value} {f : F} {xs : List Value} (h : w.ownsRow B e 2 v f.len xs) (hf : Cw w ok f xs) (hok : ∀ k, B ≤ k → ok k) : CwS w ok f v := by
 obtain ⟨A, c, rfl, hs⟩ := own_slN h
 refine ⟨A, c, xs, rfl, hs, fun _ ad hA => hok _ ((h.lt ad.block ?_).1), hf⟩
 rw [hA]; rfl
end Go.Proofs.YtiijdojihleggaaGreatDoor
namespace Go.Proofs.YtiijdojihleggaaGreatDoor
open Go.RowKit
def fdrop : F → Nat → F
 | f, 0 => f
 | .nil, _ + 1 => .nil
 | .cons _ _ _ _ _ _ r, n + 1 => fdrop r n
def F.nodes : F → Nat
 | .nil => 0
 | .cons _ _ _ _ c p r => c.nodes + p.nodes + r.nodes + 1
theorem fdrop_len : ∀ (f : F) (i : Nat), (fdrop f i).len = f.len - i
 | f, 0 => by cases f <;> rfl
 | .nil, _ + 1 => by rw [fdrop, F.len]; omega
 | .cons _ _ _ _ _ _ r, n + 1 => by rw [fdrop, F.len, fdrop_len r n]; omega
theorem fdrop_nodes : ∀ (f : F) (i : Nat), (fdrop f i).nodes ≤ f.nodes
 | f, 0 => by cases f <;> exact Nat.le_refl _
 | .nil, _ + 1 => Nat.le_refl _
 | .cons _ _ _ _ _ _ r, n + 1 => by rw [fdrop, F.nodes]; have := fdrop_nodes r n; omega
theorem fdrop_zero (f : F) : fdrop f 0 = f := by cases f <;> rfl
theorem fdrop_cons : ∀ (f : F) (i : Nat), i < f.len → ∃ k t n s ca pa, fdrop f i = .cons k t n s ca pa (fdrop f (i + 1))
 | .nil, _, h => absurd h (Nat.not_lt_zero _)
 | .cons k t n s c p r, 0, _ => ⟨k, t, n, s, c, p, by rw [fdrop_zero, fdrop, fdrop_zero]⟩
 | .cons _ _ _ _ _ _ r, i + 1, h => by
   have h2 : i < r.len := by rw [F.len] at h; omega
   obtain ⟨k, t, n, s, ca, pa, e⟩ := fdrop_cons r i h2
   exact ⟨k, t, n, s, ca, pa, by rw [fdrop, e]; rfl⟩
theorem fdrop_end (f : F) (i : Nat) (h : f.len ≤ i) : fdrop f i = .nil := by
 have h2 := fdrop_len f i
 cases hf : fdrop f i with
 | nil => rfl
 | cons k t n s c p r => rw [hf, F.len] at h2; omega
theorem FCw_drop (w : World) (ok : Nat → Prop) : ∀ (f : F) (i : Nat), i ≤ f.len → (∀ cs, Fw w ok f cs → Fw w ok (fdrop f i) (cs.drop (i * 6))) ∧ (∀ cs, Cw w ok f cs → Cw w ok (fdrop f i) (cs.drop (i * 2)))
 | f, 0, _ => ⟨fun cs h => by rw [fdrop_zero]; simpa using h, fun cs h => by rw [fdrop_zero]; simpa using h⟩
 | .nil, _ + 1, h => absurd h (Nat.not_succ_le_zero _)
 | .cons k t n s ca pa r, i + 1, h => by
   have h2 : i ≤ r.len := by rw [F.len] at h; omega
   obtain ⟨i1, i2⟩ := FCw_drop w ok r i h2
   refine ⟨fun cs h => ?_, fun cs h => ?_⟩
   ·rw [Fw] at h
    obtain ⟨Ac, cc, Ap, cp, ds, ps, rs, rfl, _, _, h4⟩ := h
    rw [fdrop, show (i + 1) * 6 = 6 + i * 6 from by omega, ← List.drop_drop]
    exact i1 _ h4
   ·rw [Cw] at h
    obtain ⟨Ap, cp, ps, rs, rfl, _, h4⟩ := h
    rw [fdrop, show (i + 1) * 2 = 2 + i * 2 from by omega, ← List.drop_drop]
    exact i2 _ h4
theorem drop_get {α : Type} {l r : List α} {x : List α} {m : Nat} (h : l.drop m = x ++ r) {j : Nat} {u : α} (hu : x[j]? = some u) : l[m + j]? = some u := by
 rw [← List.getElem?_drop, h, List.getElem?_append_left (List.getElem?_eq_some_iff.1 hu).1]
 exact hu
theorem FwS.at_ {w : World} {ok : Nat → Prop} {f : F} {v : Value} (h : FwS w ok f v) {i : Nat} (hi : i < f.len) :
 ∃ b o c k t n s ca pa Ac cc Ap cp, v = .slice (some ⟨b, o, none⟩) f.len c ∧ b < w.heap.size ∧ ok b ∧ fdrop f i = .cons k t n s ca pa (fdrop f (i + 1)) ∧
   w.cell? ⟨b, o + i * 6, none⟩ = some (.int .i64 k) ∧ w.cell? ⟨b, o + i * 6 + 1, none⟩ = some (.string ⟨t.toArray⟩) ∧ w.cell? ⟨b, o + i * 6 + 2, none⟩ = some (.string ⟨n.toArray⟩) ∧ w.cell? ⟨b, o + i * 6 + 3, none⟩ = some (.string ⟨s.toArray⟩) ∧
   w.cell? ⟨b, o + i * 6 + 4, none⟩ = some (.slice Ac ca.len cc) ∧ w.cell? ⟨b, o + i * 6 + 5, none⟩ = some (.slice Ap pa.len cp) ∧ CwS w ok ca (.slice Ac ca.len cc) ∧ FwS w ok pa (.slice Ap pa.len cp) := by
 obtain ⟨A, c, ps, rfl, h1, h2, h3⟩ := h
 obtain ⟨k, t, n, s, ca, pa, e⟩ := fdrop_cons f i hi
 have h4 := (FCw_drop w ok f i (by omega)).1 _ h3
 rw [e, Fw] at h4
 obtain ⟨Ac, cc, Ap, cp, ds, qs, rs, hd, ⟨a1, a2, a3⟩, ⟨b1, b2, b3⟩, _⟩ := h4
 have hl : 0 < ps.length := by rw [h1.1]; omega
 obtain ⟨b, o, hA, hb, _⟩ := h1.2 0 _ (List.getElem?_eq_getElem hl)
 subst hA
 have hc : ∀ j u, ([.int .i64 k, .string ⟨t.toArray⟩, .string ⟨n.toArray⟩, .string ⟨s.toArray⟩, .slice Ac ca.len cc, .slice Ap pa.len cp] : List Value)[j]? = some u → w.cell? ⟨b, o + i * 6 + j, none⟩ = some u := by
  intro j u hu
  obtain ⟨b', o', hA', _, hcell⟩ := h1.2 (i * 6 + j) u (drop_get hd hu)
  injection hA' with hA'
  injection hA' with e1 e2
  subst e1 e2
  rw [show o + i * 6 + j = o + (i * 6 + j) from by omega]
  exact hcell
 exact ⟨b, o, c, k, t, n, s, ca, pa, Ac, cc, Ap, cp, rfl, hb, h2 (by omega) _ rfl, e, hc 0 _ rfl, hc 1 _ rfl, hc 2 _ rfl, hc 3 _ rfl, hc 4 _ rfl, hc 5 _ rfl, ⟨Ac, cc, ds, rfl, a1, a2, a3⟩, ⟨Ap, cp, qs, rfl, b1, b2, b3⟩⟩
theorem CwS.at_ {w : World} {ok : Nat → Prop} {f : F} {v : Value} (h : CwS w ok f v) {i : Nat} (hi : i < f.len) :
 ∃ b o c k t n s ca pa Ap cp, v = .slice (some ⟨b, o, none⟩) f.len c ∧ b < w.heap.size ∧ ok b ∧ fdrop f i = .cons k t n s ca pa (fdrop f (i + 1)) ∧
   w.cell? ⟨b, o + i * 2, none⟩ = some (.string ⟨n.toArray⟩) ∧ w.cell? ⟨b, o + i * 2 + 1, none⟩ = some (.slice Ap pa.len cp) ∧ FwS w ok pa (.slice Ap pa.len cp) := by
 obtain ⟨A, c, ps, rfl, h1, h2, h3⟩ := h
 obtain ⟨k, t, n, s, ca, pa, e⟩ := fdrop_cons f i hi
 have h4 := (FCw_drop w ok f i (by omega)).2 _ h3
 rw [e, Cw] at h4
 obtain ⟨Ap, cp, qs, rs, hd, ⟨b1, b2, b3⟩, _⟩ := h4
 have hl : 0 < ps.length := by rw [h1.1]; omega
 obtain ⟨b, o, hA, hb, _⟩ := h1.2 0 _ (List.getElem?_eq_getElem hl)
 subst hA
 have hc : ∀ j u, ([.string ⟨n.toArray⟩, .slice Ap pa.len cp] : List Value)[j]? = some u → w.cell? ⟨b, o + i * 2 + j, none⟩ = some u := by
  intro j u hu
  obtain ⟨b', o', hA', _, hcell⟩ := h1.2 (i * 2 + j) u (drop_get hd hu)
  injection hA' with hA'
  injection hA' with e1 e2
  subst e1 e2
  rw [show o + i * 2 + j = o + (i * 2 + j) from by omega]
  exact hcell
 exact ⟨b, o, c, k, t, n, s, ca, pa, Ap, cp, rfl, hb, h2 (by omega) _ rfl, e, hc 0 _ rfl, hc 1 _ rfl, ⟨Ap, cp, qs, rfl, b1, b2, b3⟩⟩
theorem FwS.ext {w w' : World} {ok : Nat → Prop} {f : F} {v : Value} (h : FwS w ok f v) (hw : Ext w w') : FwS w' ok f v := h.exc (Exc.of_ext (S := fun _ => False) hw) (fun _ _ h => h) (fun _ h => h)
theorem CwS.ext {w w' : World} {ok : Nat → Prop} {f : F} {v : Value} (h : CwS w ok f v) (hw : Ext w w') : CwS w' ok f v := h.exc (Exc.of_ext (S := fun _ => False) hw) (fun _ _ h => h) (fun _ h => h)
theorem FwS.val {w : World} {ok : Nat → Prop} {f : F} {v : Value} (h : FwS w ok f v) : ∃ A c, v = .slice A f.len c := by
 obtain ⟨A, c, ps, e, _⟩ := h
 exact ⟨A, c, e⟩
theorem CwS.val {w : World} {ok : Nat → Prop} {f : F} {v : Value} (h : CwS w ok f v) : ∃ A c, v = .slice A f.len c := by
 obtain ⟨A, c, ps, e, _⟩ := h
 exact ⟨A, c, e⟩
end Go.Proofs.YtiijdojihleggaaGreatDoor
