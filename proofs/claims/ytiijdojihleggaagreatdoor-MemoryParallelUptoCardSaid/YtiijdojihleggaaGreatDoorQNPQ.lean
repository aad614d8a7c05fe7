import Derived.Test.YtiijdojihleggaaGreatDoorQNPA
import Derived.Test.YtiijdojihleggaaGreatDoorQNPP
import Derived.Test.YtiijdojihleggaaGreatDoorQNPO
import Derived.Test.YtiijdojihleggaaGreatDoorQNPF
import Derived.BigQuiet
import Derived.Deep.QuietTactic
set_option maxRecDepth 100000
set_option linter.unusedSimpArgs false
set_option linter.unusedVariables false
open Go.Lib (hid)
namespace Go.Proofs.YtiijdojihleggaaGreatDoor
def elmP (E d : Nat) (c : Bool) (st : St) : Except Err (F × St) := match st.left with
 | [] => .error (3, E)
 | t :: r => if d < 8 then (msgC E (d + 1) c ⟨r, st.names⟩).bind fun y => match y.2.left with
     | [] => .error (3, E)
     | u :: q => if u.k = 6 ∧ u.t = t.t then .ok (.one 11 [] t.t [] .nil y.1, ⟨q, y.2.names⟩) else .error (3, u.a)
   else .error (6, t.a)
def partP (E d : Nat) (c : Bool) (t : Tok) (r : List Tok) (ns : List By) : Except Err (F × St) :=
 if t.k = 1 then .ok (.one 1 (unescP t.t) [] [] .nil .nil, ⟨r, ns⟩)
 else if t.k = 4 then (if c = true then .ok (.one 10 [] [] [] .nil .nil, ⟨r, ns⟩) else .error (3, t.a))
 else if t.k = 7 then (if d < 8 then .ok (.one 11 [] t.t [] .nil .nil, ⟨r, ns⟩) else .error (6, t.a))
 else if t.k = 5 then elmP E d c ⟨t :: r, ns⟩
 else argC E d c ⟨r, ns⟩
def begB (k : Nat) : Bool := k == 1 || k == 4 || k == 7 || k == 5 || k == 2
def prepF (f : F) (Y : Except Err (F × St)) : Except Err (F × St) := Y.map fun x => (f.app x.1, x.2)
theorem prepF_nil (Y : Except Err (F × St)) : prepF .nil Y = Y := by cases Y <;> rfl
theorem prepF_prepF (f g : F) (Y : Except Err (F × St)) : prepF f (prepF g Y) = prepF (f.app g) Y := by
 cases Y with
 | error e => rfl
 | ok y =>
   show Except.ok (f.app (g.app y.1), y.2) = Except.ok ((f.app g).app y.1, y.2)
   rw [F.app_assoc]
theorem msgC_part {E d : Nat} {c : Bool} {t : Tok} {r : List Tok} {ns : List By} (h : begB t.k = true) : msgC E d c ⟨t :: r, ns⟩ = (partP E d c t r ns).bind fun y => prepF y.1 (msgC E d c y.2) := by
 rw [msgC_cons]
 unfold partP
 by_cases h1 : t.k = 1
 ·rw [if_pos h1, if_pos h1]; rfl
 rw [if_neg h1, if_neg h1]
 by_cases h4 : t.k = 4
 ·rw [if_pos h4, if_pos h4]
  cases c
  ·rfl
  ·rw [if_pos rfl, if_pos rfl]; rfl
 rw [if_neg h4, if_neg h4]
 by_cases h7 : t.k = 7
 ·rw [if_pos h7, if_pos h7]
  by_cases h8 : d < 8
  ·rw [if_pos h8, if_pos h8]; rfl
  ·rw [if_neg h8, if_neg h8]; rfl
 rw [if_neg h7, if_neg h7]
 by_cases h5 : t.k = 5
 ·rw [if_pos h5, if_pos h5]
  unfold elmP
  simp only
  by_cases h8 : d < 8
  ·rw [if_pos h8, if_pos h8]
   cases msgC E (d + 1) c ⟨r, ns⟩ with
   | error e => rfl
   | ok y =>
     obtain ⟨f, ⟨yl, yn⟩⟩ := y
     show elK E t (msgC E d c) _ = _
     unfold elK
     cases yl with
     | nil => rfl
     | cons u q =>
       simp only
       show _ = Except.bind (if u.k = 6 ∧ u.t = t.t then _ else _) _
       by_cases h6 : u.k = 6 ∧ u.t = t.t
       ·rw [if_pos h6, if_pos h6]; rfl
       ·rw [if_neg h6, if_neg h6]; rfl
  ·rw [if_neg h8, if_neg h8]; rfl
 rw [if_neg h5, if_neg h5]
 have h2 : t.k = 2 := by
  unfold begB at h
  simpa [h1, h4, h7, h5] using h
 rw [if_pos h2]
 rfl
theorem msgC_stopB {E d : Nat} {c : Bool} {t : Tok} {r : List Tok} {ns : List By} (h : begB t.k = false) : msgC E d c ⟨t :: r, ns⟩ = .ok (.nil, ⟨t :: r, ns⟩) := by
 rw [msgC_cons]
 unfold begB at h
 simp only [Bool.or_eq_false_iff, beq_eq_false_iff_ne] at h
 rw [if_neg h.1.1.1.1, if_neg h.1.1.1.2, if_neg h.1.1.2, if_neg h.1.2, if_neg h.2]
theorem elmP_len {E d : Nat} {c : Bool} {t : Tok} {r : List Tok} {ns : List By} {x : F × St} (h : elmP E d c ⟨t :: r, ns⟩ = .ok x) : x.1.len = 1 ∧ x.2.left.length ≤ r.length := by
 unfold elmP at h
 simp only at h
 split at h
 ·cases hm : msgC E (d + 1) c ⟨r, ns⟩ with
  | error e => rw [hm] at h; cases h
  | ok y =>
    have hl := msgC_len hm
    rw [hm] at h
    obtain ⟨f, ⟨yl, yn⟩⟩ := y
    cases yl with
    | nil => cases h
    | cons u q =>
      have h2 : (if u.k = 6 ∧ u.t = t.t then (Except.ok (F.one 11 [] t.t [] .nil f, (⟨q, yn⟩ : St)) : Except Err (F × St)) else .error (3, u.a)) = .ok x := h
      split at h2
      ·injection h2 with h2
       subst h2
       simp only [List.length_cons] at hl
       exact ⟨rfl, by simp only; omega⟩
      ·cases h2
 ·cases h
theorem esc_text : ∀ s : By, escOK s = true → textN s = s.length
 | [], _ => rfl
 | [c], h => by
   simp only [escOK, Bool.not_eq_true'] at h
   rw [textN, h]
   rfl
 | c :: d :: r, h => by
   rw [escOK] at h
   rw [textN]
   cases hc : specB c
   ·rw [hc, if_neg (by decide)] at h
    rw [if_neg (by decide), esc_text (d :: r) h]
    rfl
   ·rw [hc, if_pos rfl, Bool.and_eq_true] at h
    rw [if_pos rfl, if_pos h.1, esc_text r h.2]
    rfl
end Go.Proofs.YtiijdojihleggaaGreatDoor
namespace Go.Proofs.YtiijdojihleggaaGreatDoor
open Go.RowKit
def RetM (w : World) (C : Pc) (Y : Except Err (F × St)) (e : Ending) (w' : World) : Prop :=
 (∃ A n c, e = .returned (.slice A n c) ∧ (∀ f st, Y = .ok (f, st) → FwS w' (fun k => w.heap.size ≤ k) f (.slice A n c) ∧ n ≤ c)) ∧ PsO w' C (Y.map (·.2)) ∧ Exc C.two w w'
def MsgH (N : Nat) : Prop := ∀ (C : Pc) (X : Except Err St) (d : Nat) (c : Bool) (w : World), PsO w C X → (∀ st, X = .ok st → st.left.length < N ∧ d ≤ 8) → d ≤ 100 →
 Calls Tryz.prog 67 #[.pointer (some ⟨C.g, 0, none⟩), .int .i64 d, .bool c] w (RetM w C (X.bind (msgC C.s.size d c)))
def RetP (w : World) (C : Pc) (Y : Except Err (F × St)) (e : Ending) (w' : World) : Prop :=
 (∃ (k : Int) (t n s : ByteArray) (Ac : Option Addr) (nc cc : Nat) (Ap : Option Addr) (np cp : Nat), e = .returned (.agg #[.int .i64 k, .string t, .string n, .string s, .slice Ac nc cc, .slice Ap np cp]) ∧
  (∀ f st, Y = .ok (f, st) → f.len = 1 ∧ Fw w' (fun k => w.heap.size ≤ k) f [.int .i64 k, .string t, .string n, .string s, .slice Ac nc cc, .slice Ap np cp])) ∧ PsO w' C (Y.map (·.2)) ∧ Exc C.two w w'
theorem elm_bad {E d : Nat} {c : Bool} {t : Tok} {r : List Tok} {ns : List By} (h5 : t.k = 5) {X1 X2 : Except Err St} {Y : Except Err (F × St)} (e1 : X1 = (Except.ok ⟨t :: r, ns⟩ : Except Err St).bind (deepX E (d + 1))) (e2 : X2 = X1.bind (takeX E 5)) (e3 : Y = X2.bind (msgC E (d + 1) c))
 (hb : ∀ u q yn f, Y = .ok (f, ⟨u :: q, yn⟩) → ¬ (u.k = 6 ∧ u.t = t.t)) :
 ∃ e, elmP E d c ⟨t :: r, ns⟩ = .error e ∧ ((Y.map (·.2)).bind fun st => .error (3, plE E st.left)).bind (takeX E 6) = .error e := by
 by_cases h8 : d < 8
 ·have a1 : X1 = .ok ⟨t :: r, ns⟩ := by rw [e1]; exact if_neg (by omega)
  have a2 : X2 = .ok ⟨r, ns⟩ := by
   rw [e2, a1]
   show Except.map _ (if t.k = 5 then .ok (t.t, r) else .error (3, t.a)) = _
   rw [if_pos h5]; rfl
  have a3 : Y = msgC E (d + 1) c ⟨r, ns⟩ := by rw [e3, a2]; rfl
  unfold elmP
  simp only
  rw [if_pos h8, ← a3]
  rcases Y with e | ⟨f, ⟨_ | ⟨u, q⟩, yn⟩⟩
  ·exact ⟨e, rfl, rfl⟩
  ·exact ⟨_, rfl, rfl⟩
  ·refine ⟨(3, u.a), ?_, rfl⟩
   show (if u.k = 6 ∧ u.t = t.t then _ else _) = _
   rw [if_neg (hb u q yn f rfl)]
 ·have a1 : X1 = .error (6, t.a) := by rw [e1]; exact if_pos (by omega)
  have a3 : Y = .error (6, t.a) := by rw [e3, e2, a1]; rfl
  refine ⟨(6, t.a), ?_, by rw [a3]; rfl⟩
  unfold elmP
  simp only
  rw [if_neg h8]
theorem elm_good {E d : Nat} {c : Bool} {t u : Tok} {r q : List Tok} {ns yn : List By} {f : F} (h5 : t.k = 5) {X1 X2 : Except Err St} {Y : Except Err (F × St)} (e1 : X1 = (Except.ok ⟨t :: r, ns⟩ : Except Err St).bind (deepX E (d + 1))) (e2 : X2 = X1.bind (takeX E 5)) (e3 : Y = X2.bind (msgC E (d + 1) c))
 (hy : Y = .ok (f, ⟨u :: q, yn⟩)) (hu : u.k = 6 ∧ u.t = (takeS 5 X1).data.toList) :
 elmP E d c ⟨t :: r, ns⟩ = .ok (.one 11 [] t.t [] .nil f, ⟨q, yn⟩) ∧ (Y.map (·.2)).bind (takeX E 6) = .ok ⟨q, yn⟩ ∧ takeS 5 X1 = ⟨t.t.toArray⟩ := by
 by_cases h8 : d < 8
 ·have a1 : X1 = .ok ⟨t :: r, ns⟩ := by rw [e1]; exact if_neg (by omega)
  have a0 : takeS 5 X1 = ⟨t.t.toArray⟩ := by
   rw [a1]
   show (if t.k = 5 then (⟨t.t.toArray⟩ : ByteArray) else ⟨#[]⟩) = _
   rw [if_pos h5]
  have a2 : X2 = .ok ⟨r, ns⟩ := by
   rw [e2, a1]
   show Except.map _ (if t.k = 5 then .ok (t.t, r) else .error (3, t.a)) = _
   rw [if_pos h5]; rfl
  have a3 : msgC E (d + 1) c ⟨r, ns⟩ = .ok (f, ⟨u :: q, yn⟩) := by rw [← hy, e3, a2]; rfl
  rw [a0] at hu
  refine ⟨?_, ?_, a0⟩
  ·unfold elmP
   simp only
   rw [if_pos h8, a3]
   exact if_pos hu
  ·rw [hy]
   show Except.map _ (if u.k = 6 then .ok (u.t, q) else .error (3, u.a)) = _
   rw [if_pos hu.1]; rfl
 ·have a1 : X1 = .error (6, t.a) := by rw [e1]; exact if_pos (by omega)
  rw [e3, e2, a1] at hy
  cases hy
end Go.Proofs.YtiijdojihleggaaGreatDoor
namespace Go.Proofs.YtiijdojihleggaaGreatDoor
open Go.RowKit
theorem elm_name {E d : Nat} {c : Bool} {t : Tok} {r : List Tok} {ns : List By} (h5 : t.k = 5) {X1 X2 : Except Err St} {Y : Except Err (F × St)} {y : F × St} (e1 : X1 = (Except.ok ⟨t :: r, ns⟩ : Except Err St).bind (deepX E (d + 1))) (e2 : X2 = X1.bind (takeX E 5)) (e3 : Y = X2.bind (msgC E (d + 1) c))
 (hy : Y = .ok y) : takeS 5 X1 = ⟨t.t.toArray⟩ := by
 by_cases h8 : d < 8
 ·have a1 : X1 = .ok ⟨t :: r, ns⟩ := by rw [e1]; exact if_neg (by omega)
  rw [a1]
  show (if t.k = 5 then (⟨t.t.toArray⟩ : ByteArray) else ⟨#[]⟩) = _
  rw [if_pos h5]
 ·have a1 : X1 = .error (6, t.a) := by rw [e1]; exact if_pos (by omega)
  rw [e3, e2, a1] at hy
  cases hy
theorem PsW.exc {S : Nat → Prop} {w w' : World} {C : Pc} {n : Nat} {ns : List By} {a e : Int} (h : PsW w C n ns a e) (hw : Exc S w w') (hg : ¬ S C.g) (hm : ¬ S C.mb) (h0 : ¬ S 0) (hA : ∀ ad, C.A = some ad → ¬ S ad.block) : PsW w' C n ns a e :=
 ⟨h.blk.exc hw hg, h.toks.exc hw hA, h.map.exc hw hm, h.ne, h.away, h.size, h.len, h.nx, h.ok, h.nd, h.few, mx_exc h.mx hw h0, h.g0, h.m0, h.good⟩
theorem PsO.exc {S : Nat → Prop} {w w' : World} {C : Pc} {X : Except Err St} (h : PsO w C X) (hw : Exc S w w') (hg : ¬ S C.g) (hm : ¬ S C.mb) (h0 : ¬ S 0) (hA : ∀ ad, C.A = some ad → ¬ S ad.block) : PsO w' C X := by
 rcases X with ⟨e, a⟩ | st
 ·obtain ⟨h1, n, ns, h⟩ := h
  exact ⟨h1, n, ns, h.exc hw hg hm h0 hA⟩
 ·obtain ⟨n, h, hd⟩ := h
  exact ⟨n, h.exc hw hg hm h0 hA, hd⟩
theorem PsW.old {w : World} {C : Pc} {n : Nat} {ns : List By} {a e : Int} (h : PsW w C n ns a e) : C.g < w.heap.size ∧ C.mb < w.heap.size ∧ 0 < w.heap.size ∧ (n < C.all.length → ∀ ad, C.A = some ad → ad.block < w.heap.size) := by
 refine ⟨h.blk.lt, h.map.lt, Nat.lt_of_le_of_lt (Nat.zero_le _) h.blk.lt, fun hn ad hA => ?_⟩
 obtain ⟨t, b, o, _, _, e1, c0, _⟩ := h.tok hn
 rw [hA] at e1
 injection e1 with e1
 subst e1
 exact World.block_lt_of_cell? w ⟨b, o + n * 4, none⟩ c0
theorem at_six5 {T : TypeId} {w : World} {g : Nat} {a0 a1 a2 a3 a4 a5 b5 : Value} (h : AtC T w g #[a0, a1, a2, a3, a4, a5]) : AtC T (w.setCell ⟨g, 5, none⟩ b5) g #[a0, a1, a2, a3, a4, b5] := by
 unfold AtC at h ⊢
 simp only [World.setCell, Array.getElem?_modify, if_true, h]
 rfl
theorem at_six {T : TypeId} {w : World} {g : Nat} {a0 a1 a2 a3 a4 a5 b0 b1 b2 b3 b4 b5 : Value} (h : AtC T w g #[a0, a1, a2, a3, a4, a5]) :
 AtC T ((((((w.setCell ⟨g, 0, none⟩ b0).setCell ⟨g, 1, none⟩ b1).setCell ⟨g, 2, none⟩ b2).setCell ⟨g, 3, none⟩ b3).setCell ⟨g, 4, none⟩ b4).setCell ⟨g, 5, none⟩ b5) g #[b0, b1, b2, b3, b4, b5] := by
 unfold AtC at h ⊢
 simp only [World.setCell, Array.getElem?_modify, if_true, h]
 rfl
theorem exc_new {w w' : World} {S : Nat → Prop} (h : Exc (fun k => S k ∨ w.heap.size ≤ k) w w') : Exc S w w' := ⟨h.os, h.tape, h.output, h.size, fun k hk ht => h.block k hk fun e => e.elim ht fun e => by omega⟩
theorem exc_six {w : World} {g : Nat} {b0 b1 b2 b3 b4 b5 : Value} : Exc (fun k => k = g) w ((((((w.setCell ⟨g, 0, none⟩ b0).setCell ⟨g, 1, none⟩ b1).setCell ⟨g, 2, none⟩ b2).setCell ⟨g, 3, none⟩ b3).setCell ⟨g, 4, none⟩ b4).setCell ⟨g, 5, none⟩ b5) := by
 have h : ∀ (W : World) (j : Nat) (b : Value), Exc (fun k => k = g) W (W.setCell ⟨g, j, none⟩ b) := fun W j b => Exc.setCell (S := fun k => k = g) (p := ⟨g, j, none⟩) rfl b
 exact (((((h _ 0 b0).trans (h _ 1 b1)).trans (h _ 2 b2)).trans (h _ 3 b3)).trans (h _ 4 b4)).trans (h _ 5 b5)
theorem elm_end {w w6 w7 : World} {C : Pc} {Z : Except Err (F × St)} {NM : ByteArray} {A3 : Option Addr} {n3 c3 : Nat} (hE : Exc (fun k => C.two k ∨ w.heap.size ≤ k) w w6) (hs : Exc (fun k => k = w.heap.size) w6 w7) (hO : PsO w6 C (Z.map (·.2)))
 (o : C.g < w.heap.size ∧ C.mb < w.heap.size ∧ 0 < w.heap.size ∧ (∀ ad, C.A = some ad → ad.block < w.heap.size))
 (hf : ∀ f st, Z = .ok (f, st) → ∃ g, f = .one 11 [] NM.data.toList [] .nil g ∧ FwS w6 (fun k => w.heap.size < k) g (.slice A3 n3 c3)) :
 RetP w C Z (.returned (.agg #[.int .i64 11, .string ⟨#[]⟩, .string NM, .string ⟨#[]⟩, .slice none 0 0, .slice A3 n3 c3])) w7 := by
 obtain ⟨o1, o2, o3, o4⟩ := o
 refine ⟨⟨11, ⟨#[]⟩, NM, ⟨#[]⟩, none, 0, 0, A3, n3, c3, rfl, fun f st hZ => ?_⟩, hO.exc hs (fun e => by omega) (fun e => by omega) (fun e => by omega) (fun ad hA e => by have := o4 ad hA; omega), exc_new (hE.trans (hs.mono fun k e => .inr (by rw [e]; exact Nat.le_refl _)))⟩
 obtain ⟨g, rfl, hg⟩ := hf f st hZ
 refine ⟨rfl, ?_⟩
 exact Fw_one (CwS.nil _ _) (hg.exc hs (fun k hk e => by omega) (fun k hk => Nat.le_of_lt hk))
def zP : Array Value := #[.int .i64 0, .string ⟨#[]⟩, .string ⟨#[]⟩, .string ⟨#[]⟩, .slice none 0 0, .slice none 0 0]
set_option maxHeartbeats 8000000 in
theorem pelm_any (N : Nat) (hN : MsgH N) (C : Pc) (t : Tok) (r : List Tok) (ns : List By) (d : Nat) (c : Bool) (w : World) (h : PsO w C (.ok ⟨t :: r, ns⟩)) (h5 : t.k = 5) (hr : r.length < N) (hd : d ≤ 99) :
 Calls Tryz.prog 98 #[.pointer (some ⟨C.g, 0, none⟩), .int .i64 ((d : Int) + 1), .bool c] w (RetP w C (elmP C.s.size d c ⟨t :: r, ns⟩)) := by
 have hold : C.g < w.heap.size ∧ C.mb < w.heap.size ∧ 0 < w.heap.size ∧ (∀ ad, C.A = some ad → ad.block < w.heap.size) := by
  obtain ⟨n, hp, hdr⟩ := h
  have hn : n < C.all.length := by
   rcases Nat.lt_or_ge n C.all.length with h1 | h1
   ·exact h1
   ·rw [List.drop_eq_nil_of_le h1] at hdr
    cases hdr
  exact ⟨hp.old.1, hp.old.2.1, hp.old.2.2.1, hp.old.2.2.2 hn⟩
 obtain ⟨X1, e1⟩ : ∃ X1, X1 = (Except.ok ⟨t :: r, ns⟩ : Except Err St).bind (deepX C.s.size (d + 1)) := ⟨_, rfl⟩
 obtain ⟨X2, e2⟩ : ∃ X2, X2 = X1.bind (takeX C.s.size 5) := ⟨_, rfl⟩
 obtain ⟨Y, e3⟩ : ∃ Y, Y = X2.bind (msgC C.s.size (d + 1) c) := ⟨_, rfl⟩
 have hl2 : ∀ st, X2 = .ok st → st.left.length < N ∧ d + 1 ≤ 8 := by
  intro st hst
  by_cases h8 : d < 8
  ·have a1 : X1 = .ok ⟨t :: r, ns⟩ := by rw [e1]; exact if_neg (by omega)
   have a2 : X2 = .ok ⟨r, ns⟩ := by
    rw [e2, a1]
    show Except.map _ (if t.k = 5 then .ok (t.t, r) else .error (3, t.a)) = _
    rw [if_pos h5]; rfl
   rw [hst] at a2
   injection a2 with a2
   rw [a2]
   exact ⟨hr, by omega⟩
  ·have a1 : X1 = .error (6, t.a) := by rw [e1]; exact if_pos (by omega)
   rw [e2, a1] at hst
   cases hst
 have K1 := hid (fun W (hW : PsO W C (.ok ⟨t :: r, ns⟩)) => pdeep_any C _ (d + 1) W hW (by omega))
 rw [← e1] at K1
 have K2 := hid (fun W (hW : PsO W C X1) => ptake_any C X1 5 W hW (by decide))
 rw [← e2] at K2
 have K3 := hid (fun W (hW : PsO W C X2) => hN C X2 (d + 1) c W hW hl2 (by omega))
 rw [← e3] at K3
 have HO := hid h
 have HOLD := hid hold
 have HB0 := hid (AtC.new w zP : AtC 96 _ _ _)
 have HX0 := hid ((Ext.refl w).alloc (.cells zP 96))
 clear h hold hN hl2
 rw [show ((d : Int) + 1) = ((d + 1 : Nat) : Int) from rfl]
 generalize hdd : d + 1 = dd at K1 K3 ⊢
 unfold zP at HB0 HX0
 go_enter Tryz.func98, Tryz.ntmps98
 go_wp2_with fail
 refine (K1.out _ (HO.out.ext HX0.out)).mono ?_
 rintro e w1 ⟨rfl, ho1, hx1⟩
 have HO1 := hid ho1
 have HX1 := hid hx1
 clear ho1 hx1
 go_wp2_with fail
 refine (K2.out _ HO1.out).mono ?_
 rintro e w2 ⟨rfl, ho2, hx2⟩
 have HX2 := hid (HX1.out.trans hx2)
 have HO2 := hid ho2
 clear ho2 hx2 HX1
 generalize hNM : takeS 5 X1 = NM
 have HNM := hid hNM
 clear hNM
 have HN2 := hid (AtC.new w2 #[.int .i64 11, .string ⟨#[]⟩, .string NM, .string ⟨#[]⟩, .slice none 0 0, .slice none 0 0] : AtC 96 _ _ _)
 have HX3 := hid ((Ext.refl w2).alloc (.cells #[.int .i64 11, .string ⟨#[]⟩, .string NM, .string ⟨#[]⟩, .slice none 0 0, .slice none 0 0] 96))
 go_wp2_with fail
 refine (K3.out _ (HO2.out.ext HX3.out)).mono ?_
 rintro e w3 ⟨⟨A3, n3, c3, rfl, hf3⟩, ho3, hx3⟩
 replace hf3 := fun f st h => (hf3 f st h).1
 obtain ⟨o1, o2, o3, o4⟩ := HOLD.out
 have hz2 : w.heap.size < w2.heap.size := by
  have h1 := HX2.out.size
  have h2 : (w.alloc (.cells #[.int .i64 0, .string ⟨#[]⟩, .string ⟨#[]⟩, .string ⟨#[]⟩, .slice none 0 0, .slice none 0 0] 96)).heap.size = w.heap.size + 1 := by simp
  omega
 have hz3 : (w2.alloc (.cells #[.int .i64 11, .string ⟨#[]⟩, .string NM, .string ⟨#[]⟩, .slice none 0 0, .slice none 0 0] 96)).heap.size = w2.heap.size + 1 := by simp
 have nx : ¬ C.two w2.heap.size := fun e => by rcases e with e | e <;> omega
 have nr : ¬ C.two w.heap.size := fun e => by rcases e with e | e <;> omega
 have HB3 := hid (HN2.out.exc hx3 nx)
 have HR2 := hid (HB0.out.exc HX2.out nr)
 have HR3 := hid ((HR2.out.ext HX3.out).exc hx3 nr)
 have HB4 := hid (at_six5 (b5 := .slice A3 n3 c3) HB3.out)
 have hS : Exc (fun k => k = w2.heap.size) w3 (w3.setCell ⟨w2.heap.size, 5, none⟩ (.slice A3 n3 c3)) := Exc.setCell (S := fun k => k = w2.heap.size) (p := ⟨w2.heap.size, 5, none⟩) rfl _
 have HO4 := hid (ho3.exc hS (fun e => by omega) (fun e => by omega) (fun e => by omega) (fun ad hA e => by have := o4 ad hA; omega))
 have HR4 := hid (HR3.out.exc hS (fun e => by omega))
 have HF4 := hid (fun f st hy => (hf3 f st hy).exc hS (fun k hk e => by rw [hz3] at hk; omega) (ok' := fun k => w.heap.size < k) (fun k hk => by rw [hz3] at hk; omega))
 have HE4 := hid (show Exc (fun k => C.two k ∨ w.heap.size ≤ k) w (w3.setCell ⟨w2.heap.size, 5, none⟩ (.slice A3 n3 c3)) from ((((Exc.of_ext HX0.out).trans (HX2.out.mono fun k hk => .inl hk)).trans (Exc.of_ext HX3.out)).trans (hx3.mono fun k hk => .inl hk)).trans (Exc.setCell (S := fun k => C.two k ∨ w.heap.size ≤ k) (p := ⟨w2.heap.size, 5, none⟩) (.inr (by show w.heap.size ≤ w2.heap.size; omega)) _))
 have y5 := HB3.out.cell 5 _ rfl
 have f5 := frz_of HB3.out 5
 clear hf3 ho3 hx3 hS nx nr hz3
 go_wp2_with fail
 generalize w3.setCell ⟨w2.heap.size, 5, none⟩ (.slice A3 n3 c3) = w4 at *
 obtain ⟨X3, hX3⟩ : ∃ X3, X3 = Y.map (·.2) := ⟨_, rfl⟩
 have HXE := hid hX3
 rw [← hX3] at HO4
 clear hX3
 have KK := hid (fun n => pkind_any C X3 (w4.drewN n) (HO4.out.ext ((Ext.refl w4).drewN n)))
 have KF := hid (fun q => pfail_any C X3 3 (w4.drewN q) (HO4.out.ext ((Ext.refl w4).drewN q)) (by decide))
 by_cases hk : kindX X3 = 6
 rotate_left
 ·have b1 : ((kindX X3 : Int) != 6) = true := by rw [bne_iff_ne]; omega
  clear y5 f5
  go_quiet ((go_at_call 94; exact Calls.quiet_of (KK.out _)))
  go_wp2_with fail
  refine (KF.out _).mono ?_
  rintro e w5 ⟨rfl, ho5, hx5⟩
  have KT := hid (ptake_any C _ 6 w5 ho5 (by decide))
  go_wp2_with fail
  refine KT.out.mono ?_
  rintro e w6 ⟨rfl, ho6, hx6⟩
  have HX6 := hid ((Exc.of_ext ((Ext.refl w4).drewN _)).trans (hx5.trans hx6))
  have HR6 := hid ((HR4.out.ext ((Ext.refl w4).drewN _)).exc (hx5.trans hx6) (fun e => by rcases e with e | e <;> omega))
  have HB6 := hid ((HB4.out.ext ((Ext.refl w4).drewN _)).exc (hx5.trans hx6) (fun e => by rcases e with e | e <;> omega))
  have HO6 := hid ho6
  clear hx6 ho6 ho5 hx5
  have q0 := HB6.out.cell 0 _ rfl
  have q1 := HB6.out.cell 1 _ rfl
  have q2 := HB6.out.cell 2 _ rfl
  have q3 := HB6.out.cell 3 _ rfl
  have q4 := HB6.out.cell 4 _ rfl
  have q5 := HB6.out.cell 5 _ rfl
  have r0 := HR6.out.cell 0 _ rfl
  have r1 := HR6.out.cell 1 _ rfl
  have r2 := HR6.out.cell 2 _ rfl
  have r3 := HR6.out.cell 3 _ rfl
  have r4 := HR6.out.cell 4 _ rfl
  have r5 := HR6.out.cell 5 _ rfl
  have u0 := frz_of HR6.out 0
  have u1 := frz_of HR6.out 1
  have u2 := frz_of HR6.out 2
  have u3 := frz_of HR6.out 3
  have u4 := frz_of HR6.out 4
  have u5 := frz_of HR6.out 5
  go_wp2
  have hat := at_six (b0 := .int .i64 11) (b1 := .string ⟨#[]⟩) (b2 := .string NM) (b3 := .string ⟨#[]⟩) (b4 := .slice none 0 0) (b5 := .slice A3 n3 c3) HR6.out
  clear q0 q1 q2 q3 q4 q5 r0 r1 r2 r3 r4 r5 u0 u1 u2 u3 u4 u5
  refine bodyPost_ret (results_cell_row rfl _ _ w.heap.size 96 _ (0, 0) _ rfl hat Tryz.underlying96 rfl (by kernel_rfl)) rfl ?_
  clear hat
  obtain ⟨er, a1, a2⟩ := elm_bad h5 e1 e2 e3 (fun u q yn f hy e => hk (by rw [HXE.out, hy]; exact e.1))
  rw [← HXE.out] at a2
  rw [a1]
  exact elm_end (HE4.out.trans (HX6.out.mono fun k e => .inl e)) exc_six (by rw [a2] at HO6; exact HO6.out) ⟨o1, o2, o3, o4⟩ (fun f st h => by cases h)
 rcases X3 with er | ⟨_ | ⟨u, q⟩, yn⟩
 ·exact absurd (show (0 : Nat) = 6 from hk) (by decide)
 ·exact absurd (show (0 : Nat) = 6 from hk) (by decide)
 have hu6 : u.k = 6 := hk
 obtain ⟨f, hY⟩ : ∃ f, Y = .ok (f, ⟨u :: q, yn⟩) := by
  have h := HXE.out
  rcases Y with er | ⟨f, st⟩
  ·cases h
  ·injection h with h
   exact ⟨f, by rw [h]⟩
 have hnm := elm_name h5 e1 e2 e3 hY
 have KT0 := hid (fun q' => ptake_any C (.ok ⟨u :: q, yn⟩) 6 (w4.drewN q') (HO4.out.ext ((Ext.refl w4).drewN q')) (by decide))
 have ho4 := HO4.out
 obtain ⟨n4, hw4, hd4⟩ := ho4
 have hn : n4 < C.all.length := by
  rcases Nat.lt_or_ge n4 C.all.length with h1 | h1
  ·exact h1
  ·rw [List.drop_eq_nil_of_le h1] at hd4
   cases hd4
 obtain ⟨t', b, o, g1, hm, hA, t0, t1, t2⟩ := hw4.tok hn
 rw [hd4] at g1
 injection g1 with g1 g2
 subst g1
 have b1 : ((kindX (.ok ⟨u :: q, yn⟩) : Int) != 6) = false := by rw [hk]; rfl
 obtain ⟨c0, c1, c2, _, _, _⟩ := hw4.cells
 have hl := hw4.len
 rw [hA] at c1
 have x2 := HB4.out.cell 2 _ rfl
 obtain ⟨UT, hUT⟩ : ∃ UT : ByteArray, UT = ⟨u.t.toArray⟩ := ⟨_, rfl⟩
 rw [← hUT] at t1
 have hUd : UT.data.toList = u.t := by rw [hUT]
 have hNd : NM.data.toList = t.t := by rw [← HNM.out, hnm]
 have HY := hid hY
 clear hY hnm hw4 hd4 hm hA t0 t2 c0 hUT g2 y5 f5 hu6
 cases hq : (UT.toList == NM.toList)
 ·have hne : ¬ u.t = t.t := fun e => by
   rw [ByteArray.toList_eq, ByteArray.toList_eq, hUd, hNd, e, beq_self_eq_true] at hq
   cases hq
  have hq2 : ¬ UT.toList = NM.toList := fun e => by rw [e, beq_self_eq_true] at hq; cases hq
  have HNE := hid hne
  clear hne hUd hNd
  go_quiet ((go_at_call 94; exact Calls.quiet_of (KK.out _)))
  clear hq hq2
  go_wp2_with fail
  refine (KF.out _).mono ?_
  rintro e w5 ⟨rfl, ho5, hx5⟩
  have KT := hid (ptake_any C _ 6 w5 ho5 (by decide))
  go_wp2_with fail
  refine KT.out.mono ?_
  rintro e w6 ⟨rfl, ho6, hx6⟩
  have HX6 := hid ((Exc.of_ext ((Ext.refl w4).drewN _)).trans (hx5.trans hx6))
  have HR6 := hid ((HR4.out.ext ((Ext.refl w4).drewN _)).exc (hx5.trans hx6) (fun e => by rcases e with e | e <;> omega))
  have HB6 := hid ((HB4.out.ext ((Ext.refl w4).drewN _)).exc (hx5.trans hx6) (fun e => by rcases e with e | e <;> omega))
  have HO6 := hid ho6
  clear hx6 ho6 ho5 hx5
  have q0 := HB6.out.cell 0 _ rfl
  have q1 := HB6.out.cell 1 _ rfl
  have q2 := HB6.out.cell 2 _ rfl
  have q3 := HB6.out.cell 3 _ rfl
  have q4 := HB6.out.cell 4 _ rfl
  have q5 := HB6.out.cell 5 _ rfl
  have r0 := HR6.out.cell 0 _ rfl
  have r1 := HR6.out.cell 1 _ rfl
  have r2 := HR6.out.cell 2 _ rfl
  have r3 := HR6.out.cell 3 _ rfl
  have r4 := HR6.out.cell 4 _ rfl
  have r5 := HR6.out.cell 5 _ rfl
  have u0 := frz_of HR6.out 0
  have u1 := frz_of HR6.out 1
  have u2 := frz_of HR6.out 2
  have u3 := frz_of HR6.out 3
  have u4 := frz_of HR6.out 4
  have u5 := frz_of HR6.out 5
  go_wp2
  have hat := at_six (b0 := .int .i64 11) (b1 := .string ⟨#[]⟩) (b2 := .string NM) (b3 := .string ⟨#[]⟩) (b4 := .slice none 0 0) (b5 := .slice A3 n3 c3) HR6.out
  clear q0 q1 q2 q3 q4 q5 r0 r1 r2 r3 r4 r5 u0 u1 u2 u3 u4 u5
  refine bodyPost_ret (results_cell_row rfl _ _ w.heap.size 96 _ (0, 0) _ rfl hat Tryz.underlying96 rfl (by kernel_rfl)) rfl ?_
  clear hat
  obtain ⟨er, a1, a2⟩ := elm_bad h5 e1 e2 e3 (fun u' q' yn' f' hy e => HNE.out (by rw [HY.out] at hy; injection hy with hy; injection hy with _ hy; injection hy with hy _; injection hy with hy _; rw [hy]; exact e.2))
  rw [← HXE.out] at a2
  rw [a1]
  exact elm_end (HE4.out.trans (HX6.out.mono fun k e => .inl e)) exc_six (by rw [a2] at HO6; exact HO6.out) ⟨o1, o2, o3, o4⟩ (fun f st h => by cases h)
 ·have hqe : UT.toList = NM.toList := eq_of_beq hq
  have hue : u.t = NM.data.toList := by rw [ByteArray.toList_eq, ByteArray.toList_eq] at hqe; rw [← hUd, hqe]
  have HUE := hid hue
  have HND := hid hNd
  have HK6 := hid (show u.k = 6 from hk)
  clear hue hUd hNd
  go_quiet ((go_at_call 94; exact Calls.quiet_of (KK.out _)))
  clear hq hqe
  go_wp2_with fail
  refine (KT0.out _).mono ?_
  rintro e w6 ⟨rfl, ho6, hx6⟩
  have HX6 := hid ((Exc.of_ext ((Ext.refl w4).drewN _)).trans hx6)
  have HR6 := hid ((HR4.out.ext ((Ext.refl w4).drewN _)).exc hx6 (fun e => by rcases e with e | e <;> omega))
  have HB6 := hid ((HB4.out.ext ((Ext.refl w4).drewN _)).exc hx6 (fun e => by rcases e with e | e <;> omega))
  have HO6 := hid ho6
  clear hx6 ho6 
  have q0 := HB6.out.cell 0 _ rfl
  have q1 := HB6.out.cell 1 _ rfl
  have q2 := HB6.out.cell 2 _ rfl
  have q3 := HB6.out.cell 3 _ rfl
  have q4 := HB6.out.cell 4 _ rfl
  have q5 := HB6.out.cell 5 _ rfl
  have r0 := HR6.out.cell 0 _ rfl
  have r1 := HR6.out.cell 1 _ rfl
  have r2 := HR6.out.cell 2 _ rfl
  have r3 := HR6.out.cell 3 _ rfl
  have r4 := HR6.out.cell 4 _ rfl
  have r5 := HR6.out.cell 5 _ rfl
  have u0 := frz_of HR6.out 0
  have u1 := frz_of HR6.out 1
  have u2 := frz_of HR6.out 2
  have u3 := frz_of HR6.out 3
  have u4 := frz_of HR6.out 4
  have u5 := frz_of HR6.out 5
  go_wp2
  have hat := at_six (b0 := .int .i64 11) (b1 := .string ⟨#[]⟩) (b2 := .string NM) (b3 := .string ⟨#[]⟩) (b4 := .slice none 0 0) (b5 := .slice A3 n3 c3) HR6.out
  clear q0 q1 q2 q3 q4 q5 r0 r1 r2 r3 r4 r5 u0 u1 u2 u3 u4 u5
  refine bodyPost_ret (results_cell_row rfl _ _ w.heap.size 96 _ (0, 0) _ rfl hat Tryz.underlying96 rfl (by kernel_rfl)) rfl ?_
  clear hat
  have hg := elm_good h5 e1 e2 e3 HY.out ⟨HK6.out, by rw [HNM.out]; exact HUE.out⟩
  obtain ⟨g1, g2, g3⟩ := hg
  rw [← HXE.out] at g2
  rw [g2] at HO6
  rw [g1]
  refine elm_end (HE4.out.trans (HX6.out.mono fun k e => .inl e)) exc_six HO6.out ⟨o1, o2, o3, o4⟩ (fun f' st' h => ?_)
  injection h with h
  injection h with h _
  refine ⟨f, by rw [← h, HND.out], (HF4.out f _ HY.out).exc HX6.out (fun k hk e => by rcases e with e | e <;> omega) (fun k hk => hk)⟩
end Go.Proofs.YtiijdojihleggaaGreatDoor
