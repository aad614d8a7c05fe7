import Derived.Test.YtiijdojihleggaaGreatDoorQKs
set_option maxRecDepth 100000
set_option linter.unusedSimpArgs false
set_option linter.unusedVariables false
open Go.Lib (hid)
namespace Go.Proofs.YtiijdojihleggaaGreatDoor
open Go.RowKit
def useB (s : By) : Bool := useP s != 0
theorem arg_start (E d : Nat) (c : Bool) (r : List Tok) (ns : List By) : (∃ e, namX E ⟨r, ns⟩ = .error e ∧ argC E d c ⟨r, ns⟩ = .error e) ∨
 (∃ nm l n1, namX E ⟨r, ns⟩ = .ok ⟨l, n1⟩ ∧ namS E (.ok ⟨r, ns⟩) = ⟨nm.toArray⟩ ∧ l.length < r.length ∧ argC E d c ⟨r, ns⟩ = argN E d c nm n1 l) := by
 rw [argC_eq]
 unfold namX namS
 rw [show (Except.ok ⟨r, ns⟩ : Except Err St).bind (namP E) = namP E ⟨r, ns⟩ from rfl]
 cases h : namP E ⟨r, ns⟩ with
 | error e => exact .inl ⟨e, rfl, rfl⟩
 | ok y =>
   obtain ⟨t, q, e1, _, _, hx⟩ := namP_ok.1 h
   simp only at e1
   have : y.2.left = q := by rcases hx with ⟨_, rfl⟩ | ⟨_, _, rfl⟩ <;> rfl
   refine .inr ⟨y.1, y.2.left, y.2.names, rfl, rfl, ?_, rfl⟩
   rw [this, e1]
   exact Nat.lt_succ_self _
theorem arg_close {E d : Nat} {c : Bool} {nm : By} {l : List Tok} {n1 : List By} (h : kindL l = 3) : ∃ st, argN E d c nm n1 l = .ok (.one 2 [] nm [] .nil .nil, st) ∧ takeX E 3 ⟨l, n1⟩ = .ok st := by
 rcases l with _ | ⟨t, r⟩
 ·exact absurd (show (0 : Nat) = 3 from h) (by decide)
 ·have hk : t.k = 3 := h
  refine ⟨⟨r, n1⟩, ?_, ?_⟩
  ·rw [argN, if_pos hk]
  ·show Except.map _ (if t.k = 3 then .ok (t.t, r) else .error (3, t.a)) = _
   rw [if_pos hk]; rfl
theorem arg_comma {E d : Nat} {c : Bool} {nm : By} {l : List Tok} {n1 : List By} (h : ¬ kindL l = 3) : (∃ e, takeX E 8 ⟨l, n1⟩ = .error e ∧ argN E d c nm n1 l = .error e) ∨ (∃ q, takeX E 8 ⟨l, n1⟩ = .ok ⟨q, n1⟩ ∧ q.length < l.length ∧ argN E d c nm n1 l = useC E d c nm n1 q) := by
 rcases l with _ | ⟨t, r⟩
 ·exact .inl ⟨_, rfl, rfl⟩
 ·have hk : ¬ t.k = 3 := h
  rw [argN, if_neg hk]
  have e1 : takeX E 8 ⟨t :: r, n1⟩ = Except.map (fun y => ⟨y.2, n1⟩) (if t.k = 8 then .ok (t.t, r) else .error (3, t.a)) := rfl
  rw [e1]
  by_cases h8 : t.k = 8
  ·rw [if_pos h8, if_pos h8]
   exact .inr ⟨r, rfl, Nat.lt_succ_self _, rfl⟩
  ·rw [if_neg h8, if_neg h8]
   exact .inl ⟨_, rfl, rfl⟩
def BadA (E d : Nat) (c : Bool) (r : List Tok) (ns : List By) (X : Except Err St) : Prop := ∃ e, X.bind (wrdX E useB) = .error e ∧ wrdS useB X = ⟨#[]⟩ ∧ argC E d c ⟨r, ns⟩ = .error e
def GoodA (E d : Nat) (c : Bool) (r : List Tok) (ns : List By) (NM : ByteArray) (X : Except Err St) (u : Tok) (q : List Tok) (n1 : List By) : Prop :=
 X = .ok ⟨u :: q, n1⟩ ∧ u.k = 9 ∧ useP u.t ≠ 0 ∧ q.length < r.length ∧ argC E d c ⟨r, ns⟩ = useK E d c NM.data.toList n1 u q
theorem arg_mid {E d : Nat} {c : Bool} {r : List Tok} {ns : List By} {X2 X3 : Except Err St} {NM : ByteArray} (h2 : X2 = (Except.ok ⟨r, ns⟩ : Except Err St).bind (namX E)) (hN : NM = namS E (.ok ⟨r, ns⟩)) (h3 : X3 = X2.bind (takeX E 8)) (hk : ¬ kindX X2 = 3) :
 BadA E d c r ns X3 ∨ ∃ u q n1, GoodA E d c r ns NM X3 u q n1 := by
 have h2' : X2 = namX E ⟨r, ns⟩ := h2
 rcases arg_start E d c r ns with ⟨e, a1, a2⟩ | ⟨nm, l, n1, a1, a2, a0, a3⟩
 ·have : X3 = .error e := by rw [h3, h2', a1]; rfl
  rw [this]
  exact .inl ⟨e, rfl, rfl, a2⟩
 ·rw [a1] at h2'
  rw [h2'] at hk
  rcases arg_comma (E := E) (d := d) (c := c) (nm := nm) (n1 := n1) (l := l) hk with ⟨e, b1, b2⟩ | ⟨q, b1, b0, b2⟩
  ·have : X3 = .error e := by rw [h3, h2']; exact b1
   rw [this]
   exact .inl ⟨e, rfl, rfl, a3.trans b2⟩
  ·have e3 : X3 = .ok ⟨q, n1⟩ := by rw [h3, h2']; exact b1
   rw [e3]
   rcases q with _ | ⟨u, q⟩
   ·exact .inl ⟨(3, E), rfl, rfl, a3.trans b2⟩
   ·by_cases hu : u.k = 9 ∧ ¬ useP u.t = 0
    ·refine .inr ⟨u, q, n1, rfl, hu.1, hu.2, ?_, ?_⟩
     ·rw [List.length_cons] at b0; omega
     ·rw [a3, b2, useC, if_pos hu, hN, a2]
    ·refine .inl ⟨(3, u.a), ?_, ?_, ?_⟩
     ·show Except.map _ (if u.k = 9 ∧ useB u.t = true then .ok (u.t, q) else .error (3, u.a)) = _
      rw [if_neg (fun e => hu ⟨e.1, by have := e.2; unfold useB at this; exact bne_iff_ne.1 this⟩)]
      rfl
     ·show (if u.k = 9 ∧ useB u.t = true then (⟨u.t.toArray⟩ : ByteArray) else ⟨#[]⟩) = _
      rw [if_neg (fun e => hu ⟨e.1, by have := e.2; unfold useB at this; exact bne_iff_ne.1 this⟩)]
     ·rw [a3, b2, useC, if_neg hu]
theorem arg_deep {E d : Nat} {c : Bool} {r : List Tok} {ns : List By} {X3 : Except Err St} {NM : ByteArray} {u : Tok} {q : List Tok} {n1 : List By} (h : GoodA E d c r ns NM X3 u q n1) (hs : selB (useP u.t) = true) (hd : ¬ d < 8) :
 BadA E d c r ns (X3.bind (deepX E (d + 1))) := by
 obtain ⟨a1, a2, a3, a0, a4⟩ := h
 have e1 : X3.bind (deepX E (d + 1)) = .error (6, u.a) := by rw [a1]; exact if_pos (by omega)
 rw [e1]
 refine ⟨(6, u.a), rfl, rfl, ?_⟩
 rw [a4, useK, if_pos hs, if_neg hd]
theorem arg_shallow {E d : Nat} {X3 : Except Err St} (hd : d < 8) : X3.bind (deepX E (d + 1)) = X3 := by
 cases X3 with
 | error e => rfl
 | ok st => exact if_neg (by omega)
theorem good_word {E d : Nat} {c : Bool} {r : List Tok} {ns : List By} {X3 : Except Err St} {NM : ByteArray} {u : Tok} {q : List Tok} {n1 : List By} (h : GoodA E d c r ns NM X3 u q n1) :
 X3.bind (wrdX E useB) = .ok ⟨q, n1⟩ ∧ wrdS useB X3 = ⟨u.t.toArray⟩ := by
 obtain ⟨a1, a2, a3, a0, a4⟩ := h
 have hb : useB u.t = true := by unfold useB; exact bne_iff_ne.2 a3
 rw [a1]
 refine ⟨?_, ?_⟩
 ·show Except.map _ (if u.k = 9 ∧ useB u.t = true then .ok (u.t, q) else .error (3, u.a)) = _
  rw [if_pos ⟨a2, hb⟩]; rfl
 ·show (if u.k = 9 ∧ useB u.t = true then (⟨u.t.toArray⟩ : ByteArray) else ⟨#[]⟩) = _
  rw [if_pos ⟨a2, hb⟩]
theorem use_sel {E d : Nat} {c : Bool} {nm : By} {n1 : List By} {u : Tok} {q : List Tok} (hs : selB (useP u.t) = true) (hd : d < 8) {X6 : Except Err St} {Y : Except Err (F × St)} (h6 : X6 = (Except.ok ⟨q, n1⟩ : Except Err St).bind (takeX E 8))
 (hY : Y = X6.bind (casC E (useP u.t) d (c || useP u.t != 9) [])) :
 (useK E d c nm n1 u q).map (·.2) = (Y.map (·.2)).bind (takeX E 3) ∧ ∀ f st, useK E d c nm n1 u q = .ok (f, st) → ∃ g st2, Y = .ok (g, st2) ∧ f = .one (useP u.t) [] nm [] g .nil := by
 have e6 : X6 = (takeP E 8 q).map fun y => ⟨y.2, n1⟩ := h6
 rw [useK, if_pos hs, if_pos hd]
 cases h8 : takeP E 8 q with
 | error e =>
   rw [h8] at e6
   have : Y = .error e := by rw [hY, e6]; rfl
   rw [this]
   exact ⟨rfl, fun f st h => by cases h⟩
 | ok z =>
   rw [h8] at e6
   have : Y = casC E (useP u.t) d (c || useP u.t != 9) [] ⟨z.2, n1⟩ := by rw [hY, e6]; rfl
   rw [bind_okE, ← this]
   cases Y with
   | error e => exact ⟨rfl, fun f st h => by cases h⟩
   | ok v =>
     rw [bind_okE]
     refine ⟨?_, fun f st h => ?_⟩
     ·show ((takeP E 3 v.2.left).map _).map _ = takeX E 3 v.2
      unfold takeX
      cases takeP E 3 v.2.left <;> rfl
     ·obtain ⟨e, _, h2⟩ := map_ok.1 h
      injection h2 with h2 _
      exact ⟨v.1, v.2, rfl, h2.symm⟩
theorem use_bare {E d : Nat} {c : Bool} {nm : By} {n1 : List By} {u : Tok} {q : List Tok} (h3 : useP u.t = 3) (h8 : ¬ kindL q = 8) :
 (useK E d c nm n1 u q).map (·.2) = takeX E 3 ⟨q, n1⟩ ∧ ∀ f st, useK E d c nm n1 u q = .ok (f, st) → f = .one 3 [] nm [] .nil .nil := by
 have hh : useP u.t = 3 ∧ (q.head?.map (·.k)) ≠ some 8 := ⟨h3, by
  rcases q with _ | ⟨t, r⟩
  ·decide
  ·intro e
   injection e with e
   exact h8 e⟩
 rw [useK, if_neg (by rw [h3]; decide), if_pos hh]
 refine ⟨?_, fun f st h => ?_⟩
 ·unfold takeX
  cases takeP E 3 q <;> rfl
 ·obtain ⟨e, _, h2⟩ := map_ok.1 h
  injection h2 with h2 _
  exact h2.symm
theorem use_style {E d : Nat} {c : Bool} {nm : By} {n1 : List By} {u : Tok} {q : List Tok} {P : By → Bool} (hs : selB (useP u.t) = false) (h3 : useP u.t = 3 → kindL q = 8) (hP : (if useP u.t = 3 then numStyleB else if useP u.t = 5 then skelB else nameB) = P)
 {X6 : Except Err St} (h6 : X6 = (Except.ok ⟨q, n1⟩ : Except Err St).bind (takeX E 8)) :
 (useK E d c nm n1 u q).map (·.2) = (X6.bind (wrdX E P)).bind (takeX E 3) ∧ ∀ f st, useK E d c nm n1 u q = .ok (f, st) → f = .one (useP u.t) [] nm (wrdS P X6).data.toList .nil .nil := by
 have e6 : X6 = (takeP E 8 q).map fun y => ⟨y.2, n1⟩ := h6
 have hh : ¬ (useP u.t = 3 ∧ (q.head?.map (·.k)) ≠ some 8) := fun e => by
  have h8 := h3 e.1
  rcases q with _ | ⟨t, r⟩
  ·exact absurd h8 (by decide)
  ·exact e.2 (congrArg some h8)
 rw [useK, if_neg (by rw [hs]; decide), if_neg hh, hP]
 cases h8 : takeP E 8 q with
 | error e =>
   rw [h8] at e6
   rw [e6]
   exact ⟨rfl, fun f st h => by cases h⟩
 | ok z =>
   rw [h8] at e6
   rw [bind_okE, e6]
   cases hw : wrdP E P z.2 with
   | error e =>
     refine ⟨?_, fun f st h => by cases h⟩
     show _ = (Except.map _ (wrdP E P z.2)).bind _
     rw [hw]
     rfl
   | ok v =>
     rw [bind_okE]
     obtain ⟨t1, r1, e1, k1, k2, e2⟩ := wrdP_ok.1 hw
     refine ⟨?_, fun f st h => ?_⟩
     ·show ((takeP E 3 v.2).map _).map _ = (Except.map _ (wrdP E P z.2)).bind _
      rw [hw]
      show _ = takeX E 3 ⟨v.2, n1⟩
      unfold takeX
      cases takeP E 3 v.2 <;> rfl
     ·obtain ⟨e, _, h2⟩ := map_ok.1 h
      injection h2 with h2 _
      rw [← h2, e2]
      show _ = F.one (useP u.t) [] nm (wrdS P (.ok ⟨z.2, n1⟩)).data.toList .nil .nil
      rw [e1]
      show _ = F.one (useP u.t) [] nm (if t1.k = 9 ∧ P t1.t = true then (⟨t1.t.toArray⟩ : ByteArray) else ⟨#[]⟩).data.toList .nil .nil
      rw [if_pos ⟨k1, k2⟩]
theorem kname_any (C : Pc) (X : Except Err St) (w : World) (h : PsO w C X) :
 Calls Tryz.prog 143 #[.pointer (some ⟨C.g, 0, none⟩), .func (.func 147) #[] #[]] w fun e w' => e = .returned (.string (wrdS nameB X)) ∧ PsO w' C (X.bind (wrdX C.s.size nameB)) ∧ Exc C.two w w' :=
 pword_name C X nameB w h (fun t ht q => (tname_any ⟨t.t.toArray⟩ _ (by have := h.tsz t ht; unfold maxLen; show t.t.length ≤ _; omega)).mono (fun e w' hh => ⟨hh.1, 0, hh.2.symm⟩))
theorem kskel_any (C : Pc) (X : Except Err St) (w : World) (h : PsO w C X) :
 Calls Tryz.prog 143 #[.pointer (some ⟨C.g, 0, none⟩), .func (.func 146) #[] #[]] w fun e w' => e = .returned (.string (wrdS skelB X)) ∧ PsO w' C (X.bind (wrdX C.s.size skelB)) ∧ Exc C.two w w' :=
 pword_skel C X skelB w h (fun t ht q => (skel_any ⟨t.t.toArray⟩ _ (by have := h.tsz t ht; unfold maxLen; show t.t.length ≤ _; omega)).mono (fun e w' hh => ⟨hh.1, 0, hh.2.symm⟩))
theorem kstyle_any (C : Pc) (X : Except Err St) (w : World) (h : PsO w C X) :
 Calls Tryz.prog 143 #[.pointer (some ⟨C.g, 0, none⟩), .func (.func 144) #[] #[]] w fun e w' => e = .returned (.string (wrdS numStyleB X)) ∧ PsO w' C (X.bind (wrdX C.s.size numStyleB)) ∧ Exc C.two w w' :=
 pword_style C X numStyleB w h (fun t ht q => (style_any ⟨t.t.toArray⟩ _).mono (fun e w' hh => ⟨hh.1, 0, hh.2⟩))
theorem kknown_any (C : Pc) (X : Except Err St) (b tb : Nat) (w : World) (h : PsO w C X) (hk : AtC 171 w b #[.map (some tb)]) (hm : MapI Tryz.prog 9 3 w tb 7 usesL) :
 Calls Tryz.prog 143 #[.pointer (some ⟨C.g, 0, none⟩), .func (.func 142) #[] #[.pointer (some ⟨b, 0, none⟩)]] w fun e w' => e = .returned (.string (wrdS useB X)) ∧ PsO w' C (X.bind (wrdX C.s.size useB)) ∧ Exc C.two w w' :=
 pword_known C X useB b w h (fun t ht q => (known_any 171 b tb ⟨t.t.toArray⟩ _ (hk.ext ((Ext.refl w).drewN q)) (hm.ext ((Ext.refl w).drewN q)) (by have := h.tsz t ht; show t.t.length ≤ _; omega)).mono (fun e w' hh => ⟨hh.1, 0, hh.2⟩))
theorem MapI.exc {P : Program} {k e : TypeId} {b n : Nat} {m : List ArgP} {S : Nat → Prop} {w w' : World} (h : MapI P k e w b n m) (hw : Exc S w w') (hb : ¬ S b) : MapI P k e w' b n m := by
 have hlt := h.lt
 obtain ⟨D, ⟨es, clock, hh, r⟩, h2⟩ := h
 exact ⟨D, ⟨es, clock, (hw.block b hlt hb).trans hh, r⟩, h2⟩
theorem at_six0 {T : TypeId} {w : World} {g : Nat} {a0 a1 a2 a3 a4 a5 b0 : Value} (h : AtC T w g #[a0, a1, a2, a3, a4, a5]) : AtC T (w.setCell ⟨g, 0, none⟩ b0) g #[b0, a1, a2, a3, a4, a5] := by
 unfold AtC at h ⊢
 simp only [World.setCell, Array.getElem?_modify, if_true, h]
 rfl
theorem at_six3 {T : TypeId} {w : World} {g : Nat} {a0 a1 a2 a3 a4 a5 b3 : Value} (h : AtC T w g #[a0, a1, a2, a3, a4, a5]) : AtC T (w.setCell ⟨g, 3, none⟩ b3) g #[a0, a1, a2, b3, a4, a5] := by
 unfold AtC at h ⊢
 simp only [World.setCell, Array.getElem?_modify, if_true, h]
 rfl
theorem at_six4 {T : TypeId} {w : World} {g : Nat} {a0 a1 a2 a3 a4 a5 b4 : Value} (h : AtC T w g #[a0, a1, a2, a3, a4, a5]) : AtC T (w.setCell ⟨g, 4, none⟩ b4) g #[a0, a1, a2, a3, b4, a5] := by
 unfold AtC at h ⊢
 simp only [World.setCell, Array.getElem?_modify, if_true, h]
 rfl
theorem arg_end {w w6 w7 : World} {C : Pc} {Z : Except Err (F × St)} {k : Int} {NM ST : ByteArray} {A3 : Option Addr} {n3 c3 : Nat} (hE : Exc (fun k => C.two k ∨ w.heap.size ≤ k) w w6) (hs : Exc (fun k => k = w.heap.size) w6 w7) (hO : PsO w6 C (Z.map (·.2)))
 (o : C.g < w.heap.size ∧ C.mb < w.heap.size ∧ 0 < w.heap.size ∧ (0 < C.all.length → ∀ ad, C.A = some ad → ad.block < w.heap.size))
 (hf : ∀ f st, Z = .ok (f, st) → ∃ g, f = .one k [] NM.data.toList ST.data.toList g .nil ∧ CwS w6 (fun k => w.heap.size < k) g (.slice A3 n3 c3)) :
 RetP w C Z (.returned (.agg #[.int .i64 k, .string ⟨#[]⟩, .string NM, .string ST, .slice A3 n3 c3, .slice none 0 0])) w7 := by
 obtain ⟨o1, o2, o3, o4⟩ := o
 refine ⟨⟨k, ⟨#[]⟩, NM, ST, A3, n3, c3, none, 0, 0, rfl, fun f st hZ => ?_⟩, hO.exc0 hs (fun e => by omega) (fun e => by omega) (fun e => by omega) (fun h0 ad hA e => by have := o4 h0 ad hA; omega), exc_new (hE.trans (hs.mono fun k e => .inr (by rw [e]; exact Nat.le_refl _)))⟩
 obtain ⟨g, rfl, hg⟩ := hf f st hZ
 refine ⟨rfl, ?_⟩
 exact Fw_one (hg.exc hs (fun k hk e => by omega) (fun k hk => Nat.le_of_lt hk)) (FwS.nil _ _)
structure ArW (w : World) (C : Pc) (xb tb mb : Nat) (k : Int) (NM ST : ByteArray) (cv : Value) (W : World) : Prop where
 res : AtC 96 W w.heap.size zP
 part : AtC 96 W xb #[.int .i64 k, .string ⟨#[]⟩, .string NM, .string ST, cv, .slice none 0 0]
 box : AtC 171 W tb #[.map (some mb)]
 map : MapI Tryz.prog 9 3 W mb 7 usesL
 exc : Exc (fun k => C.two k ∨ w.heap.size ≤ k) w W
 old : C.g < w.heap.size ∧ C.mb < w.heap.size ∧ 0 < w.heap.size ∧ (0 < C.all.length → ∀ ad, C.A = some ad → ad.block < w.heap.size)
 lts : w.heap.size < xb ∧ w.heap.size < tb ∧ w.heap.size < mb ∧ xb ≠ tb ∧ xb ≠ mb
theorem ArW.go {w : World} {C : Pc} {xb tb mb : Nat} {k : Int} {NM ST : ByteArray} {cv : Value} {W W' : World} (h : ArW w C xb tb mb k NM ST cv W) (hx : Exc C.two W W') : ArW w C xb tb mb k NM ST cv W' := by
 have h1 := h.old
 have h2 := h.lts
 exact ⟨h.res.exc hx (fun e => by rcases e with e | e <;> omega), h.part.exc hx (fun e => by rcases e with e | e <;> omega), h.box.exc hx (fun e => by rcases e with e | e <;> omega), h.map.exc hx (fun e => by rcases e with e | e <;> omega), h.exc.trans (hx.mono fun j e => .inl e), h1, h2⟩
theorem ArW.set {w : World} {C : Pc} {xb tb mb : Nat} {k k' : Int} {NM ST ST' : ByteArray} {cv cv' : Value} {W W' : World} (h : ArW w C xb tb mb k NM ST cv W) (hx : Exc (fun j => j = xb) W W') (hp : AtC 96 W' xb #[.int .i64 k', .string ⟨#[]⟩, .string NM, .string ST', cv', .slice none 0 0]) : ArW w C xb tb mb k' NM ST' cv' W' := by
 have h2 := h.lts
 exact ⟨h.res.exc hx (fun e => by omega), hp, h.box.exc hx (fun e => by omega), h.map.exc hx (fun e => by omega), h.exc.trans (hx.mono fun j e => .inr (by omega)), h.old, h2⟩
theorem ArW.ps {w : World} {C : Pc} {xb tb mb : Nat} {k : Int} {NM ST : ByteArray} {cv : Value} {W W' : World} {X : Except Err St} (h : ArW w C xb tb mb k NM ST cv W) (hO : PsO W C X) (hx : Exc (fun j => j = xb) W W') : PsO W' C X := by
 have h1 := h.old
 have h2 := h.lts
 exact hO.exc0 hx (fun e => by omega) (fun e => by omega) (fun e => by omega) (fun h0 ad hA e => by have := h1.2.2.2 h0 ad hA; omega)
def R10 (w : World) (C : Pc) (xb tb mb d : Nat) (c : Bool) (r : List Tok) (ns : List By) (NM : ByteArray) (W : World) : Prop :=
 ∃ X4, ArW w C xb tb mb 2 NM ⟨#[]⟩ (.slice none 0 0) W ∧ PsO W C X4 ∧ (BadA C.s.size d c r ns X4 ∨ ∃ u q n1, GoodA C.s.size d c r ns NM X4 u q n1 ∧ (selB (useP u.t) = true → d < 8))
def R9 (w : World) (C : Pc) (xb tb mb d : Nat) (c : Bool) (r : List Tok) (ns : List By) (NM : ByteArray) (X3 : Except Err St) (v : Value) (W : World) : Prop :=
 ∃ b, v = .bool b ∧ ArW w C xb tb mb 2 NM ⟨#[]⟩ (.slice none 0 0) W ∧ PsO W C X3 ∧ (b = false → (BadA C.s.size d c r ns X3 ∨ ∃ u q n1, GoodA C.s.size d c r ns NM X3 u q n1 ∧ selB (useP u.t) = false)) ∧ (b = true → ∃ u q n1, GoodA C.s.size d c r ns NM X3 u q n1 ∧ selB (useP u.t) = true)
def R11 (w : World) (C : Pc) (xb tb mb d : Nat) (c : Bool) (r : List Tok) (ns : List By) (NM : ByteArray) (W : World) : Prop :=
 ∃ X5 kd, ArW w C xb tb mb kd NM ⟨#[]⟩ (.slice none 0 0) W ∧ PsO W C X5 ∧ ((∃ e, X5 = .error e ∧ argC C.s.size d c ⟨r, ns⟩ = .error e ∧ kd = 0) ∨
   (∃ u q n1, X5 = .ok ⟨q, n1⟩ ∧ kd = (useP u.t : Int) ∧ useP u.t ≠ 0 ∧ q.length < r.length ∧ argC C.s.size d c ⟨r, ns⟩ = useK C.s.size d c NM.data.toList n1 u q ∧ (selB (useP u.t) = true → d < 8)))
theorem sel_use (u : By) : (decide (7 ≤ (useP u : Int)) && decide ((useP u : Int) ≤ 9)) = selB (useP u) := by
 rcases useP_cases u with h | h | h | h | h | h | h | h <;> rw [h] <;> rfl
set_option maxHeartbeats 16000000 in
theorem parg (N : Nat) (hK : CasH N) : ArgH N := by
 intro C t r ns d c w h hk2 hr hd
 have e2 : (Except.ok ⟨t :: r, ns⟩ : Except Err St).bind (takeX C.s.size 2) = .ok ⟨r, ns⟩ := by
  show Except.map _ (if t.k = 2 then .ok (t.t, r) else .error (3, t.a)) = _
  rw [if_pos hk2]
  rfl
 have KT := hid (fun W (hW : PsO W C (.ok ⟨t :: r, ns⟩)) => ptake_any C (.ok ⟨t :: r, ns⟩) 2 W hW (by decide))
 rw [e2] at KT
 obtain ⟨X2, hX2⟩ : ∃ X2, X2 = (Except.ok ⟨r, ns⟩ : Except Err St).bind (namX C.s.size) := ⟨_, rfl⟩
 obtain ⟨NM, hNM⟩ : ∃ NM, NM = namS C.s.size (.ok ⟨r, ns⟩) := ⟨_, rfl⟩
 have KN := hid (fun W (hW : PsO W C (.ok ⟨r, ns⟩)) => pname_any C (.ok ⟨r, ns⟩) W hW)
 rw [← hX2, ← hNM] at KN
 have HO := hid h
 have HOLD := hid h.olds
 have HX2 := hid hX2
 have HNM := hid hNM
 have HB0 := hid (AtC.new w zP : AtC 96 _ _ _)
 have HX0 := hid ((Ext.refl w).alloc (.cells zP 96))
 clear h hX2 hNM e2 hk2
 unfold zP at HB0 HX0
 go_enter Tryz.func99, Tryz.ntmps99
 go_wp2_with fail
 refine (KT.out _ (HO.out.ext HX0.out)).mono ?_
 rintro e w1 ⟨rfl, ho1, hx1⟩
 have HO1 := hid ho1
 have HX1 := hid hx1
 clear ho1 hx1
 go_wp2_with fail
 refine (KN.out _ HO1.out).mono ?_
 rintro e w2 ⟨rfl, ho2, hx2⟩
 have HX2E := hid (HX1.out.trans hx2)
 have HO2 := hid ho2
 clear ho2 hx2 HX1 HO1 KT KN
 have HP3 := hid (AtC.new w2 #[.int .i64 2, .string ⟨#[]⟩, .string NM, .string ⟨#[]⟩, .slice none 0 0, .slice none 0 0] : AtC 96 _ _ _)
 have HX3 := hid ((Ext.refl w2).alloc (.cells #[.int .i64 2, .string ⟨#[]⟩, .string NM, .string ⟨#[]⟩, .slice none 0 0, .slice none 0 0] 96))
 have HSZ := hid (show w.heap.size < w2.heap.size ∧ (w2.alloc (.cells #[.int .i64 2, .string ⟨#[]⟩, .string NM, .string ⟨#[]⟩, .slice none 0 0, .slice none 0 0] 96)).heap.size = w2.heap.size + 1 from by
  have h1 := HX2E.out.size
  have h2 : (w.alloc (.cells #[.int .i64 0, .string ⟨#[]⟩, .string ⟨#[]⟩, .string ⟨#[]⟩, .slice none 0 0, .slice none 0 0] 96)).heap.size = w.heap.size + 1 := by simp
  have h3 : (w2.alloc (.cells #[.int .i64 2, .string ⟨#[]⟩, .string NM, .string ⟨#[]⟩, .slice none 0 0, .slice none 0 0] 96)).heap.size = w2.heap.size + 1 := by simp
  omega)
 have nr : ¬ C.two w.heap.size := fun e => by have := HOLD.out; rcases e with e | e <;> omega
 have nx : ¬ C.two w2.heap.size := fun e => by have := HOLD.out; have := HSZ.out; rcases e with e | e <;> omega
 have HR3 := hid ((HB0.out.exc HX2E.out nr).ext HX3.out)
 have HO3 := hid (HO2.out.ext HX3.out)
 have HE3 := hid (show Exc (fun k => C.two k ∨ w.heap.size ≤ k) w (w2.alloc (.cells #[.int .i64 2, .string ⟨#[]⟩, .string NM, .string ⟨#[]⟩, .slice none 0 0, .slice none 0 0] 96)) from ((Exc.of_ext HX0.out).trans (HX2E.out.mono fun k hk => .inl hk)).trans (Exc.of_ext HX3.out))
 have K3 := hid (fun W (hW : PsO W C X2) => pkind_any C X2 W hW)
 go_wp2_with fail
 generalize w2.alloc (.cells #[.int .i64 2, .string ⟨#[]⟩, .string NM, .string ⟨#[]⟩, .slice none 0 0, .slice none 0 0] 96) = w3 at *
 refine (K3.out _ HO3.out).mono ?_
 rintro e w4 ⟨rfl, q, rfl⟩
 have xq : Ext w3 (w3.drewN q) := (Ext.refl w3).drewN q
 by_cases h3 : kindX X2 = 3
 ·have b3 : ((kindX X2 : Int) == 3) = true := by rw [h3]; rfl
  have KT3 := hid (ptake_any C X2 3 (w3.drewN q) (HO3.out.ext xq) (by decide))
  go_wp2_with fail
  refine KT3.out.mono ?_
  rintro e w4 ⟨rfl, ho4, hx4⟩
  have HRES := hid ((HR3.out.ext xq).exc hx4 nr)
  have HPART := hid ((HP3.out.ext xq).exc hx4 nx)
  have HOF := hid ho4
  have HEF := hid (HE3.out.trans ((Exc.of_ext xq).trans (hx4.mono fun k e => .inl e)))
  clear ho4 hx4 KT3
  have q0 := HPART.out.cell 0 _ rfl
  have q1 := HPART.out.cell 1 _ rfl
  have q2 := HPART.out.cell 2 _ rfl
  have q3 := HPART.out.cell 3 _ rfl
  have q4 := HPART.out.cell 4 _ rfl
  have q5 := HPART.out.cell 5 _ rfl
  have r0 := HRES.out.cell 0 _ rfl
  have r1 := HRES.out.cell 1 _ rfl
  have r2 := HRES.out.cell 2 _ rfl
  have r3 := HRES.out.cell 3 _ rfl
  have r4 := HRES.out.cell 4 _ rfl
  have r5 := HRES.out.cell 5 _ rfl
  have u0 := frz_of HRES.out 0
  have u1 := frz_of HRES.out 1
  have u2 := frz_of HRES.out 2
  have u3 := frz_of HRES.out 3
  have u4 := frz_of HRES.out 4
  have u5 := frz_of HRES.out 5
  go_wp2
  have hat := at_six (b0 := .int .i64 2) (b1 := .string ⟨#[]⟩) (b2 := .string NM) (b3 := .string ⟨#[]⟩) (b4 := .slice none 0 0) (b5 := .slice none 0 0) HRES.out
  clear q0 q1 q2 q3 q4 q5 r0 r1 r2 r3 r4 r5 u0 u1 u2 u3 u4 u5
  refine bodyPost_ret (results_cell_row rfl _ _ w.heap.size 96 _ (0, 0) _ rfl hat Tryz.underlying96 rfl (by kernel_rfl)) rfl ?_
  clear hat
  have hz : ∃ nm st, NM = ⟨nm.toArray⟩ ∧ argC C.s.size d c ⟨r, ns⟩ = .ok (.one 2 [] nm [] .nil .nil, st) ∧ X2.bind (takeX C.s.size 3) = .ok st := by
   rcases arg_start C.s.size d c r ns with ⟨e, a1, a2⟩ | ⟨nm, l, n1, a1, a2, a0, a3⟩
   ·have h4 : X2 = .error e := HX2.out.trans a1
    rw [h4] at h3
    exact absurd h3 (by show ¬ (0 : Nat) = 3; decide)
   ·have h4 : X2 = .ok ⟨l, n1⟩ := HX2.out.trans a1
    rw [h4] at h3
    obtain ⟨st, b1, b2⟩ := arg_close (E := C.s.size) (d := d) (c := c) (nm := nm) (n1 := n1) (l := l) h3
    exact ⟨nm, st, HNM.out.trans a2, a3.trans b1, by rw [h4]; exact b2⟩
  obtain ⟨nm, st, z1, z2, z3⟩ := hz
  rw [z2]
  rw [z3] at HOF
  refine arg_end HEF.out exc_six HOF.out HOLD.out (fun f' st' h => ?_)
  injection h with h
  injection h with h _
  exact ⟨.nil, by rw [← h, z1], CwS.nil _ _⟩
 ·have b3 : ((kindX X2 : Int) == 3) = false := by rw [beq_eq_false_iff_ne]; omega
  obtain ⟨X3, hX3⟩ : ∃ X3, X3 = X2.bind (takeX C.s.size 8) := ⟨_, rfl⟩
  have KT8 := hid (ptake_any C X2 8 (w3.drewN q) (HO3.out.ext xq) (by decide))
  rw [← hX3] at KT8
  have HMID := hid (arg_mid (d := d) (c := c) HX2.out HNM.out hX3 h3)
  clear hX3
  go_wp2_with fail
  refine KT8.out.mono ?_
  rintro e w4 ⟨rfl, ho4, hx4⟩
  have KU := hid (uses_any w4)
  have HR4 := hid ((HR3.out.ext xq).exc hx4 nr)
  have HP4 := hid ((HP3.out.ext xq).exc hx4 nx)
  have HO4 := hid ho4
  have HE4 := hid (HE3.out.trans ((Exc.of_ext xq).trans (hx4.mono fun k e => .inl e)))
  have HZ4 := hid (show w3.heap.size ≤ w4.heap.size from hx4.size)
  clear ho4 hx4 KT8 HP3 HR3 HE3 HO3 K3
  go_wp2_with fail
  refine KU.out.mono ?_
  rintro e w5 ⟨rfl, hm5, hx5⟩
  have hs5 : (w5.alloc (.cells #[.map (some w4.heap.size)] 171)).heap.size = w5.heap.size + 1 := by simp
  have hx6 : Ext w5 (w5.alloc (.cells #[.map (some w4.heap.size)] 171)) := (Ext.refl w5).alloc _
  have HAW := hid (show ArW w C w2.heap.size w5.heap.size w4.heap.size 2 NM ⟨#[]⟩ (.slice none 0 0) (w5.alloc (.cells #[.map (some w4.heap.size)] 171)) from
   ⟨(HR4.out.ext hx5).ext hx6, (HP4.out.ext hx5).ext hx6, AtC.new w5 _, hm5.ext hx6, (HE4.out.trans (Exc.of_ext hx5)).trans (Exc.of_ext hx6), HOLD.out, by have h1 := HSZ.out; have h2 := HZ4.out; have h3 := hm5.lt; omega⟩)
  have HO6 := hid ((HO4.out.ext hx5).ext hx6)
  clear hm5 hx5 hs5 hx6 KU HR4 HP4 HE4 HO4
  go_wp2_with fail
  generalize w5.alloc (.cells #[.map (some w4.heap.size)] 171) = w6 at *
  generalize w5.heap.size = tb at *
  clear HX0 HB0 HX2E HX3 HSZ nx nr HZ4 xq
  generalize w2.heap.size = xb at *
  generalize w4.heap.size = mk at *
  go_upto_region 9 with (fail)
  go_cut [43] (R9 w C xb tb mk d c r ns NM X3)
  case first =>
   have K6 := hid (fun n => pkind_any C X3 (w6.drewN n) (HO6.out.ext ((Ext.refl w6).drewN n)))
   by_cases h9 : kindX X3 = 9
   rotate_left
   ·have b9 : ((kindX X3 : Int) == 9) = false := by rw [beq_eq_false_iff_ne]; omega
    go_quiet ((go_at_call 94; exact Calls.quiet_of (K6.out _)))
    go_wp2_with fail
    go_meet
    have xx : Ext w6 (w6.drewN nq) := (Ext.refl w6).drewN nq
    refine ⟨false, rfl, HAW.out.go (Exc.of_ext xx), HO6.out.ext xx, fun _ => .inl ?_, fun e => by cases e⟩
    rcases HMID.out with h | ⟨u, q, n1, h⟩
    ·exact h
    ·exact absurd (by rw [h.1]; exact h.2.1) h9
   ·rcases X3 with e | ⟨_ | ⟨u, q⟩, n1⟩
    ·exact absurd (show (0 : Nat) = 9 from h9) (by decide)
    ·exact absurd (show (0 : Nat) = 9 from h9) (by decide)
    have hk9 : u.k = 9 := h9
    have h0 := HO6.out
    obtain ⟨n, hp, hd9⟩ := h0
    have hn : n < C.all.length := by
     rcases Nat.lt_or_ge n C.all.length with h1 | h1
     ·exact h1
     ·rw [List.drop_eq_nil_of_le h1] at hd9
      cases hd9
    obtain ⟨t', bb, oo, e1, hm9, hA, t0, t1, t2⟩ := hp.tok hn
    rw [hd9] at e1
    injection e1 with e1 e2
    subst e1
    clear e2 t0 t2
    have b9 : ((kindX (.ok ⟨u :: q, n1⟩) : Int) == 9) = true := by rw [h9]; rfl
    obtain ⟨TB, hTB⟩ : ∃ TB : ByteArray, TB = ⟨u.t.toArray⟩ := ⟨_, rfl⟩
    rw [← hTB] at t1
    have hTd : TB.data.toList = u.t := by rw [hTB]
    have htz := (hp.ok u hm9).1
    have hl9 := hp.len
    obtain ⟨c0, c1, c2, _, _, _⟩ := hp.cells
    rw [hA] at c1
    have hb0 := HAW.out.box.cell 0 _ rfl
    have hlk : ∀ a, (Instr.lookup 171 (.map (some mk)) (.string TB) false).run Tryz.prog (w6.drewN a) = .ok (.int .i64 (useP u.t)) (w6.drewN a) := fun a => by
     have h := (HAW.out.map.ext ((Ext.refl w6).drewN a)).lookup Tryz.underlying9 Tryz.underlying3 Tryz.underlying171 (by kernel_rfl) TB (by unfold maxLen; rw [← size_list, hTd]; omega)
     rw [use_get, hTd] at h
     exact h
    have HLK := hid hlk
    have KS := hid (fun W => sel_any (useP u.t : Int) W)
    have HSU := hid (sel_use u.t)
    clear hp hA hd9 hTB hTd hm9 hlk c0
    rw [HSU.out] at KS
    cases hsl : selB (useP u.t)
    ·rw [hsl] at KS
     go_quiet (first | (go_at_call 94; exact Calls.quiet_of (K6.out _)) | (go_at_call 105; exact Calls.quiet_of_same ((KS.out _).mono fun e w' hh => ⟨hh.1, hh.2.symm⟩)) | (rw [HLK.out]; exact ⟨rfl, rfl⟩))
     go_wp2_with fail
     go_meet
     have xx : Ext w6 (w6.drewN nq) := (Ext.refl w6).drewN nq
     refine ⟨false, rfl, HAW.out.go (Exc.of_ext xx), HO6.out.ext xx, fun _ => ?_, fun e => by cases e⟩
     rcases HMID.out with h | ⟨u', q', n', h⟩
     ·exact .inl h
     ·refine .inr ⟨u', q', n', h, ?_⟩
      have h1 := h.1
      injection h1 with h1
      injection h1 with h1 _
      injection h1 with h1 _
      rw [← h1, hsl]
    ·rw [hsl] at KS
     go_quiet (first | (go_at_call 94; exact Calls.quiet_of (K6.out _)) | (go_at_call 105; exact Calls.quiet_of_same ((KS.out _).mono fun e w' hh => ⟨hh.1, hh.2.symm⟩)) | (rw [HLK.out]; exact ⟨rfl, rfl⟩))
     go_wp2_with fail
     go_meet
     have xx : Ext w6 (w6.drewN nq) := (Ext.refl w6).drewN nq
     refine ⟨true, rfl, HAW.out.go (Exc.of_ext xx), HO6.out.ext xx, (fun e => by cases e), fun _ => ?_⟩
     rcases HMID.out with h | ⟨u', q', n', h⟩
     ·obtain ⟨e, h1, _, _⟩ := h
      refine absurd h1 ?_
      have hb : useB u.t = true := by
       unfold useB
       rw [bne_iff_ne]
       intro e
       rw [e] at hsl
       cases hsl
      show ¬ Except.map _ (if u.k = 9 ∧ useB u.t = true then .ok (u.t, q) else .error (3, u.a)) = _
      rw [if_pos ⟨hk9, hb⟩]
      intro e
      cases e
     ·refine ⟨u', q', n', h, ?_⟩
      have h1 := h.1
      injection h1 with h1
      injection h1 with h1 _
      injection h1 with h1 _
      rw [← h1, hsl]
  case rest =>
   obtain ⟨b, rfl, haw, ho4, hbf, hbt⟩ := hcut
   have HAW4 := hid haw
   have HO4 := hid ho4
   have HBF := hid hbf
   have HBT := hid hbt
   clear haw ho4 hbf hbt HAW HO6
   go_upto_if 43 with (fail)
   go_cut [] (R10 w C xb tb mk d c r ns NM)
   case first =>
    cases b
    ·go_wp2_with fail
     go_meet
     refine ⟨X3, HAW4.out, HO4.out, ?_⟩
     rcases HBF.out (by first | rfl | trivial) with h | ⟨u, q, n1, h, hs⟩
     ·exact .inl h
     ·exact .inr ⟨u, q, n1, h, fun e => by rw [hs] at e; cases e⟩
    ·have KD := hid (show Calls Tryz.prog 97 #[.pointer (some ⟨C.g, 0, none⟩), .int .i64 ((d : Int) + 1)] wc _ from pdeep_any C X3 (d + 1) wc HO4.out (by omega))
     go_wp2_with fail
     refine KD.out.mono ?_
     rintro e w7 ⟨rfl, ho7, hx7⟩
     have HO7 := hid ho7
     have HX7 := hid hx7
     clear ho7 hx7 KD
     go_wp2_with fail
     go_meet
     refine ⟨_, HAW4.out.go HX7.out, HO7.out, ?_⟩
     obtain ⟨u, q, n1, h, hs⟩ := HBT.out (by first | rfl | trivial)
     by_cases h8 : d < 8
     ·rw [arg_shallow h8]
      exact .inr ⟨u, q, n1, h, fun _ => h8⟩
     ·exact .inl (arg_deep h hs h8)
   case rest =>
    obtain ⟨X4, haw, ho4, hbg⟩ := hcut
    have HAW5 := hid haw
    have HO5 := hid ho4
    have HBG := hid hbg
    clear haw ho4 hbg HAW4 HO4 HBF HBT
    go_upto_region 11 with (fail)
    go_cut [] (R11 w C xb tb mk d c r ns NM)
    case first =>
     obtain ⟨W5, hW5⟩ : ∃ W5, W5 = wrdS useB X4 := ⟨_, rfl⟩
     obtain ⟨X5, hX5⟩ : ∃ X5, X5 = X4.bind (wrdX C.s.size useB) := ⟨_, rfl⟩
     have KW := hid (fun W (hA : ArW w C xb tb mk 2 NM ⟨#[]⟩ (.slice none 0 0) W) (hO : PsO W C X4) => kknown_any C X4 tb mk W hO hA.box hA.map)
     rw [← hW5, ← hX5] at KW
     have HSW := hid (show W5.size ≤ 4000 from by rw [hW5]; exact wrd_size HO5.out)
     have HW5 := hid hW5
     have HX5 := hid hX5
     have hb0 := HAW5.out.box.cell 0 _ rfl
     clear hW5 hX5
     go_region_with (go_at_call 143; refine (KW.out _ (HAW5.out.go (Exc.of_ext (Ext.refl _).drew)) (HO5.out.ext (Ext.refl _).drew)).mono ?_; rintro e w7 ⟨rfl, ho7, hx7⟩; have HAW7 := hid ((HAW5.out.go (Exc.of_ext (Ext.refl _).drew)).go hx7); have HO7 := hid ho7; have hlk := HAW7.out.map.lookup Tryz.underlying9 Tryz.underlying3 Tryz.underlying171 (by kernel_rfl) W5 (by have := HSW.out; unfold maxLen; omega); rw [use_get] at hlk; have y0 := HAW7.out.part.cell 0 _ rfl; have f0 := frz_of HAW7.out.part 0; have z0 := HAW7.out.box.cell 0 _ rfl; clear ho7 hx7)
     all_goals go_wp2
     all_goals go_meet
     all_goals
      have hsx : Exc (fun j => j = xb) w7 (w7.setCell ⟨xb, 0, none⟩ (.int .i64 (useP W5.data.toList))) := Exc.setCell (S := fun j => j = xb) (p := ⟨xb, 0, none⟩) rfl _
      refine ⟨X5, _, HAW7.out.set hsx (at_six0 HAW7.out.part), HAW7.out.ps HO7.out hsx, ?_⟩
      rcases HBG.out with ⟨e, a1, a2, a3⟩ | ⟨u, q, n1, a1, a2⟩
      ·refine .inl ⟨e, HX5.out.trans a1, a3, ?_⟩
       rw [HW5.out, a2]; rfl
      ·obtain ⟨b1, b2⟩ := good_word a1
       refine .inr ⟨u, q, n1, HX5.out.trans b1, ?_, a1.2.2.1, a1.2.2.2.1, a1.2.2.2.2, a2⟩
       rw [HW5.out, b2]
    case rest =>
     obtain ⟨X5, kd, haw, ho5, hbg⟩ := hcut
     have HAW6 := hid haw
     have HO6 := hid ho5
     have HBG6 := hid hbg
     clear haw ho5 hbg HAW5 HO5 HBG
     rcases HBG6.out with ⟨er, rfl, hz, rfl⟩ | ⟨u, q, n1, rfl, rfl, hu0, hq, hz, h8⟩
     ·have HZ := hid hz
      clear hz
      obtain ⟨h0, n, ns', hp⟩ := HO6.out
      have c5 := hp.cells.2.2.2.2.2
      have b5 : (er.1 != 0) = true := by rw [bne_iff_ne]; exact h0
      have KT3 := hid (ptake_any C (.error er) 3 _ HO6.out (by decide))
      clear hp
      go_wp2_with fail
      refine KT3.out.mono ?_
      rintro e w7 ⟨rfl, ho7, hx7⟩
      have HF := hid (HAW6.out.go hx7)
      have HOF := hid ho7
      clear ho7 hx7 c5 KT3
      have HRES := hid (show AtC 96 w7 w.heap.size #[.int .i64 0, .string ⟨#[]⟩, .string ⟨#[]⟩, .string ⟨#[]⟩, .slice none 0 0, .slice none 0 0] from HF.out.res)
      have HPART := hid HF.out.part
      have HEF := hid HF.out.exc
      have q0 := HPART.out.cell 0 _ rfl
      have q1 := HPART.out.cell 1 _ rfl
      have q2 := HPART.out.cell 2 _ rfl
      have q3 := HPART.out.cell 3 _ rfl
      have q4 := HPART.out.cell 4 _ rfl
      have q5 := HPART.out.cell 5 _ rfl
      have r0 := HRES.out.cell 0 _ rfl
      have r1 := HRES.out.cell 1 _ rfl
      have r2 := HRES.out.cell 2 _ rfl
      have r3 := HRES.out.cell 3 _ rfl
      have r4 := HRES.out.cell 4 _ rfl
      have r5 := HRES.out.cell 5 _ rfl
      have u0 := frz_of HRES.out 0
      have u1 := frz_of HRES.out 1
      have u2 := frz_of HRES.out 2
      have u3 := frz_of HRES.out 3
      have u4 := frz_of HRES.out 4
      have u5 := frz_of HRES.out 5
      go_wp2
      have hat := at_six (b0 := .int .i64 0) (b1 := .string ⟨#[]⟩) (b2 := .string NM) (b3 := .string ⟨#[]⟩) (b4 := .slice none 0 0) (b5 := .slice none 0 0) HRES.out
      clear q0 q1 q2 q3 q4 q5 r0 r1 r2 r3 r4 r5 u0 u1 u2 u3 u4 u5
      refine bodyPost_ret (results_cell_row rfl _ _ w.heap.size 96 _ (0, 0) _ rfl hat Tryz.underlying96 rfl (by kernel_rfl)) rfl ?_
      clear hat
      rw [HZ.out]
      exact arg_end HEF.out exc_six HOF.out HOLD.out (fun f st h => by cases h)
     have HZ := hid hz
     have H8 := hid h8
     have HQ := hid hq
     obtain ⟨KU, hKU⟩ : ∃ KU, KU = useP u.t := ⟨_, rfl⟩
     have HKU := hid hKU
     have c5 : wc.cell? ⟨C.g, 5, none⟩ = some (.int .i64 0) := by
      obtain ⟨n, hp, _⟩ := HO6.out
      exact hp.cells.2.2.2.2.2
     rw [← hKU] at HAW6 hu0
     have p0c := HAW6.out.part.cell 0 _ rfl
     have KS := hid (fun W => sel_any (KU : Int) W)
     rw [show (decide (7 ≤ (KU : Int)) && decide ((KU : Int) ≤ 9)) = selB KU from by rw [hKU]; exact sel_use u.t] at KS
     clear hz h8 hq
     by_cases k3 : KU = 3
     ·have b3 : ((KU : Int) == 3) = true := by rw [k3]; rfl
      have HSB := hid (show selB (useP u.t) = false from by rw [← hKU, k3]; rfl)
      have HPP := hid (show (if useP u.t = 3 then numStyleB else if useP u.t = 5 then skelB else nameB) = numStyleB from if_pos (by rw [← hKU, k3]))
      have HU3 := hid (show useP u.t = 3 from by rw [← hKU, k3])
      have KK := hid (pkind_any C (.ok ⟨q, n1⟩) wc HO6.out)
      clear hKU k3
      by_cases hq8 : kindL q = 8
      ·have b8 : ((kindX (.ok ⟨q, n1⟩) : Int) == 8) = true := by
        show ((kindL q : Int) == 8) = true
        rw [hq8]; rfl
       have HQ8 := hid hq8
       clear hq8
       obtain ⟨X6, hX6⟩ : ∃ X6, X6 = (Except.ok ⟨q, n1⟩ : Except Err St).bind (takeX C.s.size 8) := ⟨_, rfl⟩
       have KT8 := hid (fun W (hW : PsO W C (.ok ⟨q, n1⟩)) => ptake_any C (.ok ⟨q, n1⟩) 8 W hW (by decide))
       rw [← hX6] at KT8
       have HX6 := hid hX6
       clear hX6
       obtain ⟨ST, hST⟩ : ∃ ST, ST = wrdS numStyleB X6 := ⟨_, rfl⟩
       have KW := hid (fun W (hW : PsO W C X6) => kstyle_any C X6 W hW)
       rw [← hST] at KW
       have HST := hid hST
       clear hST
       go_wp2_with fail
       refine KK.out.mono ?_
       rintro e w7 ⟨rfl, qk, rfl⟩
       go_wp2_with fail
       refine (KT8.out _ (HO6.out.ext ((Ext.refl _).drewN qk))).mono ?_
       rintro e w7 ⟨rfl, ho7, hx7⟩
       have HF7 := hid ((HAW6.out.go (Exc.of_ext ((Ext.refl _).drewN qk))).go hx7)
       have HO7 := hid ho7
       have p0 := HF7.out.part.cell 0 _ rfl
       clear ho7 hx7 KT8 c5 p0c
       go_wp2_with fail
       refine (KW.out _ HO7.out).mono ?_
       rintro e w8 ⟨rfl, ho8, hx8⟩
       have HF8 := hid (HF7.out.go hx8)
       have HO8 := hid ho8
       have y3 := HF8.out.part.cell 3 _ rfl
       have f3 := frz_of HF8.out.part 3
       have hsx : Exc (fun j => j = xb) w8 (w8.setCell ⟨xb, 3, none⟩ (.string ST)) := Exc.setCell (S := fun j => j = xb) (p := ⟨xb, 3, none⟩) rfl _
       have HF9 := hid (HF8.out.set hsx (at_six3 HF8.out.part))
       have HO9 := hid (HF8.out.ps HO8.out hsx)
       have KT3 := hid (fun W (hW : PsO W C (X6.bind (wrdX C.s.size numStyleB))) => ptake_any C _ 3 W hW (by decide))
       clear ho8 hx8 hsx p0
       go_wp2_with fail
       generalize w8.setCell ⟨xb, 3, none⟩ (.string ST) = w9 at *
       refine (KT3.out _ HO9.out).mono ?_
       rintro e w10 ⟨rfl, ho10, hx10⟩
       have HF := hid (HF9.out.go hx10)
       have HOF := hid ho10
       clear ho10 hx10 y3 f3
       have HRES := hid (show AtC 96 w10 w.heap.size #[.int .i64 0, .string ⟨#[]⟩, .string ⟨#[]⟩, .string ⟨#[]⟩, .slice none 0 0, .slice none 0 0] from HF.out.res)
       have HPART := hid HF.out.part
       have HEF := hid HF.out.exc
       have q0 := HPART.out.cell 0 _ rfl
       have q1 := HPART.out.cell 1 _ rfl
       have q2 := HPART.out.cell 2 _ rfl
       have q3 := HPART.out.cell 3 _ rfl
       have q4 := HPART.out.cell 4 _ rfl
       have q5 := HPART.out.cell 5 _ rfl
       have r0 := HRES.out.cell 0 _ rfl
       have r1 := HRES.out.cell 1 _ rfl
       have r2 := HRES.out.cell 2 _ rfl
       have r3 := HRES.out.cell 3 _ rfl
       have r4 := HRES.out.cell 4 _ rfl
       have r5 := HRES.out.cell 5 _ rfl
       have u0 := frz_of HRES.out 0
       have u1 := frz_of HRES.out 1
       have u2 := frz_of HRES.out 2
       have u3 := frz_of HRES.out 3
       have u4 := frz_of HRES.out 4
       have u5 := frz_of HRES.out 5
       go_wp2
       have hat := at_six (b0 := .int .i64 KU) (b1 := .string ⟨#[]⟩) (b2 := .string NM) (b3 := .string ST) (b4 := .slice none 0 0) (b5 := .slice none 0 0) HRES.out
       clear q0 q1 q2 q3 q4 q5 r0 r1 r2 r3 r4 r5 u0 u1 u2 u3 u4 u5
       refine bodyPost_ret (results_cell_row rfl _ _ w.heap.size 96 _ (0, 0) _ rfl hat Tryz.underlying96 rfl (by kernel_rfl)) rfl ?_
       clear hat
       obtain ⟨g1, g2⟩ := use_style (E := C.s.size) (d := d) (c := c) (nm := NM.data.toList) (n1 := n1) (u := u) (q := q) (P := numStyleB) HSB.out (fun _ => HQ8.out) (HPP.out) HX6.out
       rw [HZ.out]
       rw [← g1] at HOF
       refine arg_end HEF.out exc_six HOF.out HOLD.out (fun f st h => ⟨.nil, ?_, CwS.nil _ _⟩)
       rw [g2 f st h, HST.out, HKU.out]
      ·have b8 : ((kindX (.ok ⟨q, n1⟩) : Int) == 8) = false := by
        show ((kindL q : Int) == 8) = false
        rw [beq_eq_false_iff_ne]; omega
       have HQ8 := hid hq8
       clear hq8
       have KT3 := hid (fun q' => ptake_any C (.ok ⟨q, n1⟩) 3 (wc.drewN q') (HO6.out.ext ((Ext.refl _).drewN q')) (by decide))
       go_wp2_with fail
       refine KK.out.mono ?_
       rintro e w7 ⟨rfl, qk, rfl⟩
       go_wp2_with fail
       refine (KT3.out _).mono ?_
       rintro e w8 ⟨rfl, ho8, hx8⟩
       have HF := hid ((HAW6.out.go (Exc.of_ext ((Ext.refl _).drewN qk))).go hx8)
       have HOF := hid ho8
       clear ho8 hx8 KT3 c5 p0c
       have HRES := hid (show AtC 96 w8 w.heap.size #[.int .i64 0, .string ⟨#[]⟩, .string ⟨#[]⟩, .string ⟨#[]⟩, .slice none 0 0, .slice none 0 0] from HF.out.res)
       have HPART := hid HF.out.part
       have HEF := hid HF.out.exc
       have q0 := HPART.out.cell 0 _ rfl
       have q1 := HPART.out.cell 1 _ rfl
       have q2 := HPART.out.cell 2 _ rfl
       have q3 := HPART.out.cell 3 _ rfl
       have q4 := HPART.out.cell 4 _ rfl
       have q5 := HPART.out.cell 5 _ rfl
       have r0 := HRES.out.cell 0 _ rfl
       have r1 := HRES.out.cell 1 _ rfl
       have r2 := HRES.out.cell 2 _ rfl
       have r3 := HRES.out.cell 3 _ rfl
       have r4 := HRES.out.cell 4 _ rfl
       have r5 := HRES.out.cell 5 _ rfl
       have u0 := frz_of HRES.out 0
       have u1 := frz_of HRES.out 1
       have u2 := frz_of HRES.out 2
       have u3 := frz_of HRES.out 3
       have u4 := frz_of HRES.out 4
       have u5 := frz_of HRES.out 5
       go_wp2
       have hat := at_six (b0 := .int .i64 KU) (b1 := .string ⟨#[]⟩) (b2 := .string NM) (b3 := .string ⟨#[]⟩) (b4 := .slice none 0 0) (b5 := .slice none 0 0) HRES.out
       clear q0 q1 q2 q3 q4 q5 r0 r1 r2 r3 r4 r5 u0 u1 u2 u3 u4 u5
       refine bodyPost_ret (results_cell_row rfl _ _ w.heap.size 96 _ (0, 0) _ rfl hat Tryz.underlying96 rfl (by kernel_rfl)) rfl ?_
       clear hat
       obtain ⟨g1, g2⟩ := use_bare (E := C.s.size) (d := d) (c := c) (nm := NM.data.toList) (n1 := n1) (u := u) (q := q) HU3.out HQ8.out
       rw [HZ.out]
       rw [show (Except.ok ⟨q, n1⟩ : Except Err St).bind (takeX C.s.size 3) = takeX C.s.size 3 ⟨q, n1⟩ from rfl, ← g1] at HOF
       refine arg_end HEF.out exc_six HOF.out HOLD.out (fun f st h => ⟨.nil, ?_, CwS.nil _ _⟩)
       rw [g2 f st h, HKU.out, HU3.out]
       rfl
     have b3 : ((KU : Int) == 3) = false := by rw [beq_eq_false_iff_ne]; omega
     have HN3 := hid (show ¬ useP u.t = 3 from by rw [← hKU]; exact k3)
     cases hsl : selB KU
     ·by_cases k5 : KU = 5
      ·have HSB := hid (show selB (useP u.t) = false from by rw [← hKU]; exact hsl)
       have HB5 := hid (show ((KU : Int) == 5) = true from by rw [k5]; rfl)
       have HPP := hid (show (if useP u.t = 3 then numStyleB else if useP u.t = 5 then skelB else nameB) = skelB from (if_neg HN3.out).trans (if_pos (by rw [← hKU]; exact k5)))
       rw [hsl] at KS
       clear hKU hsl k5 k3
       obtain ⟨X6, hX6⟩ : ∃ X6, X6 = (Except.ok ⟨q, n1⟩ : Except Err St).bind (takeX C.s.size 8) := ⟨_, rfl⟩
       have KT8 := hid (fun W (hW : PsO W C (.ok ⟨q, n1⟩)) => ptake_any C (.ok ⟨q, n1⟩) 8 W hW (by decide))
       rw [← hX6] at KT8
       have HX6 := hid hX6
       clear hX6
       obtain ⟨ST, hST⟩ : ∃ ST, ST = wrdS skelB X6 := ⟨_, rfl⟩
       have KW := hid (fun W (hW : PsO W C X6) => kskel_any C X6 W hW)
       rw [← hST] at KW
       have HST := hid hST
       clear hST
       go_wp2_with fail
       refine (KS.out _).mono ?_
       rintro e w7 ⟨rfl, rfl⟩
       go_wp2_with fail
       have b5 := HB5.out
       refine (KT8.out _ (HO6.out)).mono ?_
       rintro e w7 ⟨rfl, ho7, hx7⟩
       have HF7 := hid ((HAW6.out.go (Exc.refl _ _)).go hx7)
       have HO7 := hid ho7
       have p0 := HF7.out.part.cell 0 _ rfl
       clear ho7 hx7 KT8 c5 p0c
       go_wp2_with fail
       clear b5
       refine (KW.out _ HO7.out).mono ?_
       rintro e w8 ⟨rfl, ho8, hx8⟩
       have HF8 := hid (HF7.out.go hx8)
       have HO8 := hid ho8
       have y3 := HF8.out.part.cell 3 _ rfl
       have f3 := frz_of HF8.out.part 3
       have hsx : Exc (fun j => j = xb) w8 (w8.setCell ⟨xb, 3, none⟩ (.string ST)) := Exc.setCell (S := fun j => j = xb) (p := ⟨xb, 3, none⟩) rfl _
       have HF9 := hid (HF8.out.set hsx (at_six3 HF8.out.part))
       have HO9 := hid (HF8.out.ps HO8.out hsx)
       have KT3 := hid (fun W (hW : PsO W C (X6.bind (wrdX C.s.size skelB))) => ptake_any C _ 3 W hW (by decide))
       clear ho8 hx8 hsx p0
       go_wp2_with fail
       generalize w8.setCell ⟨xb, 3, none⟩ (.string ST) = w9 at *
       refine (KT3.out _ HO9.out).mono ?_
       rintro e w10 ⟨rfl, ho10, hx10⟩
       have HF := hid (HF9.out.go hx10)
       have HOF := hid ho10
       clear ho10 hx10 y3 f3
       have HRES := hid (show AtC 96 w10 w.heap.size #[.int .i64 0, .string ⟨#[]⟩, .string ⟨#[]⟩, .string ⟨#[]⟩, .slice none 0 0, .slice none 0 0] from HF.out.res)
       have HPART := hid HF.out.part
       have HEF := hid HF.out.exc
       have q0 := HPART.out.cell 0 _ rfl
       have q1 := HPART.out.cell 1 _ rfl
       have q2 := HPART.out.cell 2 _ rfl
       have q3 := HPART.out.cell 3 _ rfl
       have q4 := HPART.out.cell 4 _ rfl
       have q5 := HPART.out.cell 5 _ rfl
       have r0 := HRES.out.cell 0 _ rfl
       have r1 := HRES.out.cell 1 _ rfl
       have r2 := HRES.out.cell 2 _ rfl
       have r3 := HRES.out.cell 3 _ rfl
       have r4 := HRES.out.cell 4 _ rfl
       have r5 := HRES.out.cell 5 _ rfl
       have u0 := frz_of HRES.out 0
       have u1 := frz_of HRES.out 1
       have u2 := frz_of HRES.out 2
       have u3 := frz_of HRES.out 3
       have u4 := frz_of HRES.out 4
       have u5 := frz_of HRES.out 5
       go_wp2
       have hat := at_six (b0 := .int .i64 KU) (b1 := .string ⟨#[]⟩) (b2 := .string NM) (b3 := .string ST) (b4 := .slice none 0 0) (b5 := .slice none 0 0) HRES.out
       clear q0 q1 q2 q3 q4 q5 r0 r1 r2 r3 r4 r5 u0 u1 u2 u3 u4 u5
       refine bodyPost_ret (results_cell_row rfl _ _ w.heap.size 96 _ (0, 0) _ rfl hat Tryz.underlying96 rfl (by kernel_rfl)) rfl ?_
       clear hat
       obtain ⟨g1, g2⟩ := use_style (E := C.s.size) (d := d) (c := c) (nm := NM.data.toList) (n1 := n1) (u := u) (q := q) (P := skelB) HSB.out (fun e => absurd e HN3.out) (HPP.out) HX6.out
       rw [HZ.out]
       rw [← g1] at HOF
       refine arg_end HEF.out exc_six HOF.out HOLD.out (fun f st h => ⟨.nil, ?_, CwS.nil _ _⟩)
       rw [g2 f st h, HST.out, HKU.out]
      ·have HSB := hid (show selB (useP u.t) = false from by rw [← hKU]; exact hsl)
       have HB5 := hid (show ((KU : Int) == 5) = false from by rw [beq_eq_false_iff_ne]; omega)
       have HPP := hid (show (if useP u.t = 3 then numStyleB else if useP u.t = 5 then skelB else nameB) = nameB from (if_neg HN3.out).trans (if_neg (by rw [← hKU]; exact k5)))
       rw [hsl] at KS
       clear hKU hsl k5 k3
       obtain ⟨X6, hX6⟩ : ∃ X6, X6 = (Except.ok ⟨q, n1⟩ : Except Err St).bind (takeX C.s.size 8) := ⟨_, rfl⟩
       have KT8 := hid (fun W (hW : PsO W C (.ok ⟨q, n1⟩)) => ptake_any C (.ok ⟨q, n1⟩) 8 W hW (by decide))
       rw [← hX6] at KT8
       have HX6 := hid hX6
       clear hX6
       obtain ⟨ST, hST⟩ : ∃ ST, ST = wrdS nameB X6 := ⟨_, rfl⟩
       have KW := hid (fun W (hW : PsO W C X6) => kname_any C X6 W hW)
       rw [← hST] at KW
       have HST := hid hST
       clear hST
       go_wp2_with fail
       refine (KS.out _).mono ?_
       rintro e w7 ⟨rfl, rfl⟩
       go_wp2_with fail
       have b5 := HB5.out
       refine (KT8.out _ (HO6.out)).mono ?_
       rintro e w7 ⟨rfl, ho7, hx7⟩
       have HF7 := hid ((HAW6.out.go (Exc.refl _ _)).go hx7)
       have HO7 := hid ho7
       have p0 := HF7.out.part.cell 0 _ rfl
       clear ho7 hx7 KT8 c5 p0c
       go_wp2_with fail
       clear b5
       refine (KW.out _ HO7.out).mono ?_
       rintro e w8 ⟨rfl, ho8, hx8⟩
       have HF8 := hid (HF7.out.go hx8)
       have HO8 := hid ho8
       have y3 := HF8.out.part.cell 3 _ rfl
       have f3 := frz_of HF8.out.part 3
       have hsx : Exc (fun j => j = xb) w8 (w8.setCell ⟨xb, 3, none⟩ (.string ST)) := Exc.setCell (S := fun j => j = xb) (p := ⟨xb, 3, none⟩) rfl _
       have HF9 := hid (HF8.out.set hsx (at_six3 HF8.out.part))
       have HO9 := hid (HF8.out.ps HO8.out hsx)
       have KT3 := hid (fun W (hW : PsO W C (X6.bind (wrdX C.s.size nameB))) => ptake_any C _ 3 W hW (by decide))
       clear ho8 hx8 hsx p0
       go_wp2_with fail
       generalize w8.setCell ⟨xb, 3, none⟩ (.string ST) = w9 at *
       refine (KT3.out _ HO9.out).mono ?_
       rintro e w10 ⟨rfl, ho10, hx10⟩
       have HF := hid (HF9.out.go hx10)
       have HOF := hid ho10
       clear ho10 hx10 y3 f3
       have HRES := hid (show AtC 96 w10 w.heap.size #[.int .i64 0, .string ⟨#[]⟩, .string ⟨#[]⟩, .string ⟨#[]⟩, .slice none 0 0, .slice none 0 0] from HF.out.res)
       have HPART := hid HF.out.part
       have HEF := hid HF.out.exc
       have q0 := HPART.out.cell 0 _ rfl
       have q1 := HPART.out.cell 1 _ rfl
       have q2 := HPART.out.cell 2 _ rfl
       have q3 := HPART.out.cell 3 _ rfl
       have q4 := HPART.out.cell 4 _ rfl
       have q5 := HPART.out.cell 5 _ rfl
       have r0 := HRES.out.cell 0 _ rfl
       have r1 := HRES.out.cell 1 _ rfl
       have r2 := HRES.out.cell 2 _ rfl
       have r3 := HRES.out.cell 3 _ rfl
       have r4 := HRES.out.cell 4 _ rfl
       have r5 := HRES.out.cell 5 _ rfl
       have u0 := frz_of HRES.out 0
       have u1 := frz_of HRES.out 1
       have u2 := frz_of HRES.out 2
       have u3 := frz_of HRES.out 3
       have u4 := frz_of HRES.out 4
       have u5 := frz_of HRES.out 5
       go_wp2
       have hat := at_six (b0 := .int .i64 KU) (b1 := .string ⟨#[]⟩) (b2 := .string NM) (b3 := .string ST) (b4 := .slice none 0 0) (b5 := .slice none 0 0) HRES.out
       clear q0 q1 q2 q3 q4 q5 r0 r1 r2 r3 r4 r5 u0 u1 u2 u3 u4 u5
       refine bodyPost_ret (results_cell_row rfl _ _ w.heap.size 96 _ (0, 0) _ rfl hat Tryz.underlying96 rfl (by kernel_rfl)) rfl ?_
       clear hat
       obtain ⟨g1, g2⟩ := use_style (E := C.s.size) (d := d) (c := c) (nm := NM.data.toList) (n1 := n1) (u := u) (q := q) (P := nameB) HSB.out (fun e => absurd e HN3.out) (HPP.out) HX6.out
       rw [HZ.out]
       rw [← g1] at HOF
       refine arg_end HEF.out exc_six HOF.out HOLD.out (fun f st h => ⟨.nil, ?_, CwS.nil _ _⟩)
       rw [g2 f st h, HST.out, HKU.out]
     ·have HSB := hid (show selB (useP u.t) = true from by rw [← hKU]; exact hsl)
      rw [hsl] at KS
      have hd7 : d ≤ 7 := by have := H8.out HSB.out; omega
      obtain ⟨X6, hX6⟩ : ∃ X6, X6 = (Except.ok ⟨q, n1⟩ : Except Err St).bind (takeX C.s.size 8) := ⟨_, rfl⟩
      have KT8 := hid (fun W (hW : PsO W C (.ok ⟨q, n1⟩)) => ptake_any C (.ok ⟨q, n1⟩) 8 W hW (by decide))
      rw [← hX6] at KT8
      have HX6 := hid hX6
      obtain ⟨Y, hY⟩ : ∃ Y, Y = X6.bind (casC C.s.size KU d (c || KU != 9) []) := ⟨_, rfl⟩
      have hlen : ∀ st, X6 = .ok st → st.left.length < N ∧ d ≤ 7 := by
       intro st hst
       rw [hst] at hX6
       have h1 : st.left.length < q.length := takeX_len (E := C.s.size) (k := 8) (st := ⟨q, n1⟩) hX6.symm
       have h2 := HQ.out
       omega
      have KC := hid (fun W (hW : PsO W C X6) => hK C X6 KU d c W hW hlen (by omega))
      rw [← hY] at KC
      have HY := hid (show Y = X6.bind (casC C.s.size (useP u.t) d (c || useP u.t != 9) []) from by rw [hY, hKU])
      clear hX6 hY hlen hKU hsl k3
      go_wp2_with fail
      refine (KS.out _).mono ?_
      rintro e w7 ⟨rfl, rfl⟩
      go_wp2_with fail
      refine (KT8.out _ HO6.out).mono ?_
      rintro e w7 ⟨rfl, ho7, hx7⟩
      have HF7 := hid (HAW6.out.go hx7)
      have HO7 := hid ho7
      have p0 := HF7.out.part.cell 0 _ rfl
      clear ho7 hx7 KT8 c5 p0c
      go_wp2_with fail
      refine (KC.out _ HO7.out).mono ?_
      rintro e w8 ⟨Z, cA, cn, cc, rfl, ho8, hz8, hx8, hf8⟩
      have HF8 := hid (HF7.out.go hx8)
      have HO8 := hid ho8
      have HZ8 := hid hz8
      have y4 := HF8.out.part.cell 4 _ rfl
      have f4 := frz_of HF8.out.part 4
      have hsx : Exc (fun j => j = xb) w8 (w8.setCell ⟨xb, 4, none⟩ (.slice cA cn cc)) := Exc.setCell (S := fun j => j = xb) (p := ⟨xb, 4, none⟩) rfl _
      have HF9 := hid (HF8.out.set hsx (at_six4 HF8.out.part))
      have HO9 := hid (HF8.out.ps HO8.out hsx)
      have HG9 := hid (fun f st hy => (hf8 f st hy).2.exc hsx (fun j hj e => by have h1 := HF7.out.part.lt; omega) (ok' := fun j => w.heap.size < j) (fun j hj => by have h1 := HF7.out.part.lt; have h2 := HF7.out.lts; omega))
      have KT3 := hid (fun W (hW : PsO W C Z) => ptake_any C Z 3 W hW (by decide))
      clear ho8 hx8 hz8 hf8 hsx p0
      go_wp2_with fail
      generalize w8.setCell ⟨xb, 4, none⟩ (.slice cA cn cc) = w9 at *
      refine (KT3.out _ HO9.out).mono ?_
      rintro e w10 ⟨rfl, ho10, hx10⟩
      have HF := hid (HF9.out.go hx10)
      have HOF := hid ho10
      have HG10 := hid (fun f st hy => (HG9.out f st hy).exc hx10 (fun j hj e => by have h1 := HOLD.out; rcases e with e | e <;> omega) (ok' := fun j => w.heap.size < j) (fun j hj => hj))
      clear ho10 hx10 y4 f4
      have HRES := hid (show AtC 96 w10 w.heap.size #[.int .i64 0, .string ⟨#[]⟩, .string ⟨#[]⟩, .string ⟨#[]⟩, .slice none 0 0, .slice none 0 0] from HF.out.res)
      have HPART := hid HF.out.part
      have HEF := hid HF.out.exc
      have q0 := HPART.out.cell 0 _ rfl
      have q1 := HPART.out.cell 1 _ rfl
      have q2 := HPART.out.cell 2 _ rfl
      have q3 := HPART.out.cell 3 _ rfl
      have q4 := HPART.out.cell 4 _ rfl
      have q5 := HPART.out.cell 5 _ rfl
      have r0 := HRES.out.cell 0 _ rfl
      have r1 := HRES.out.cell 1 _ rfl
      have r2 := HRES.out.cell 2 _ rfl
      have r3 := HRES.out.cell 3 _ rfl
      have r4 := HRES.out.cell 4 _ rfl
      have r5 := HRES.out.cell 5 _ rfl
      have u0 := frz_of HRES.out 0
      have u1 := frz_of HRES.out 1
      have u2 := frz_of HRES.out 2
      have u3 := frz_of HRES.out 3
      have u4 := frz_of HRES.out 4
      have u5 := frz_of HRES.out 5
      go_wp2
      have hat := at_six (b0 := .int .i64 KU) (b1 := .string ⟨#[]⟩) (b2 := .string NM) (b3 := .string ⟨#[]⟩) (b4 := .slice cA cn cc) (b5 := .slice none 0 0) HRES.out
      clear q0 q1 q2 q3 q4 q5 r0 r1 r2 r3 r4 r5 u0 u1 u2 u3 u4 u5
      refine bodyPost_ret (results_cell_row rfl _ _ w.heap.size 96 _ (0, 0) _ rfl hat Tryz.underlying96 rfl (by kernel_rfl)) rfl ?_
      clear hat
      obtain ⟨g1, g2⟩ := use_sel (E := C.s.size) (d := d) (c := c) (nm := NM.data.toList) (n1 := n1) (u := u) (q := q) HSB.out (by omega) HX6.out HY.out
      rw [HZ.out]
      rw [HZ8.out, ← g1] at HOF
      refine arg_end HEF.out exc_six HOF.out HOLD.out (fun f st h => ?_)
      obtain ⟨g, st2, y1, y2⟩ := g2 f st h
      exact ⟨g, by rw [y2, HKU.out], HG10.out g st2 y1⟩
end Go.Proofs.YtiijdojihleggaaGreatDoor
namespace Go.Proofs.YtiijdojihleggaaGreatDoor
open Go.RowKit
set_option maxHeartbeats 4000000 in
theorem pmsg_zero : MsgH 0 := by
 intro C X d c w h hX hd
 rcases X with ⟨ee, a⟩ | st
 rotate_left
 ·exact absurd (hX st rfl).1 (Nat.not_lt_zero _)
 have HO := hid h
 obtain ⟨h0, n, ns, hp⟩ := h
 have c5 := hp.cells.2.2.2.2.2
 have b1 : (ee == 0) = false := by rw [beq_eq_false_iff_ne]; exact h0
 clear hp hX
 go_enter Tryz.func67, Tryz.ntmps67
 go_wp2_with fail
 go_loopw [7] (fun (o : Value) (wr : World) => o = .slice none 0 0 ∧ wr = w) (fun _ _ => 0)
 case atStart => exact ⟨rfl, rfl⟩
 case round =>
  obtain ⟨rfl, rfl⟩ := hrel
  go_wp2
  go_ret
  exact ⟨⟨none, 0, 0, rfl, fun f st h => by cases h⟩, HO.out, Exc.refl _ _⟩
theorem msg_all : ∀ N, MsgH N
 | 0 => pmsg_zero
 | N + 1 => pmsg_step N (msg_all N) (parg N (pcas N (msg_all N)))
theorem pmsg_any (C : Pc) (X : Except Err St) (d : Nat) (c : Bool) (w : World) (h : PsO w C X) (hd : d ≤ 8) :
 Calls Tryz.prog 67 #[.pointer (some ⟨C.g, 0, none⟩), .int .i64 d, .bool c] w (RetM w C (X.bind (msgC C.s.size d c))) := by
 rcases X with e | st
 ·exact msg_all 0 C (.error e) d c w h (fun st h => by cases h) (by omega)
 ·exact msg_all (st.left.length + 1) C (.ok st) d c w h (fun st' h' => by injection h' with h'; subst h'; exact ⟨Nat.lt_succ_self _, hd⟩) (by omega)
end Go.Proofs.YtiijdojihleggaaGreatDoor
