import Derived.Test.YtpfmojeigjmlfaaGreatDoorNQ1
import Derived.Test.YtpfmojeigjmlfaaGreatDoorKs
import Derived.BigQuiet
import Derived.Deep.RegionHeld3
import Derived.Test.YtpfmojeigjmlfaaGreatDoorNP1
set_option maxRecDepth 100000
set_option linter.unusedSimpArgs false
set_option linter.unusedVariables false
open Go.Lib (hid)
namespace Go.Proofs.YtpfmojeigjmlfaaGreatDoor
open Go.RowKit
theorem hash_take {E : Nat} {Y Z : Except Err (F × St)} (h : HashR Y Z) : (Z.map (·.2)).bind (takeX E 3) = (Y.map (·.2)).bind (takeX E 3) := by
 rcases h with rfl | ⟨f, t, r, ns, rfl, h4, rfl⟩
 ·rfl
 ·show Except.map _ (if t.k = 3 then .ok (t.t, r) else .error (3, t.a)) = _
  rw [if_neg (by omega)]
  rfl
theorem hash_ok {Y Z : Except Err (F × St)} {y : F × St} (h : HashR Y Z) (hy : Y = .ok y) : Z = .ok y := by
 rcases h with rfl | ⟨f, t, r, ns, rfl, h4, rfl⟩
 ·exact hy
 ·cases hy
theorem rkeyB_any (k : Nat) (s : By) (w : World) (hs : s.length ≤ 4000) : Calls Tryz.prog 68 #[.int .i64 k, .string ⟨s.toArray⟩] w fun e w' => e = .returned (.bool (keyB k s)) ∧ Ext w w' := by
 have h := rkey_any k ⟨s.toArray⟩ w (by show s.length ≤ _; omega)
 have e : (if (k : Int) = 9 then nameB (⟨s.toArray⟩ : ByteArray).data.toList else classB (⟨s.toArray⟩ : ByteArray).data.toList || ((⟨s.toArray⟩ : ByteArray).data.toList.head? == some 61 && decB ((⟨s.toArray⟩ : ByteArray).data.toList.drop 1))) = keyB k s := by
  unfold keyB
  by_cases h9 : k = 9
  ·rw [if_pos h9, if_pos (by omega)]
  ·rw [if_neg h9, if_neg (by omega)]
 rw [e] at h
 exact h
def RetKQ (g tb bx : Nat) (nb : Option Nat) (w : World) (E kd : Nat) (nm : ByteArray) (Y : Except Err (F × St)) (e : Ending) (w' : World) : Prop :=
 ∃ nb' A n c, e = .returned (.tuple #[]) ∧ AtC 50 w' bx #[.int .i64 kd, .string ⟨#[]⟩, .string nm, .string ⟨#[]⟩, .slice A n c, .slice none 0 0] ∧ (∀ f st, Y = .ok (f, st) → CwS w' (fun k => w.heap.size ≤ k ∧ some k ≠ nb') f (.slice A n c)) ∧
   Exc (fun k => qB g nb k ∨ k = bx) w w' ∧ RqO g tb nb' E w' (Y.map (·.2)) ∧ (nb' = nb ∨ ∀ k, nb' = some k → w.heap.size ≤ k)
def CasQ (N : Nat) : Prop := ∀ (g tb bx : Nat) (nb : Option Nat) (E : Nat) (X : Except Err St) (kd d : Nat) (c : Bool) (nm : ByteArray) (w : World), RqO g tb nb E w X → tb < w.heap.size →
 AtC 50 w bx #[.int .i64 kd, .string ⟨#[]⟩, .string nm, .string ⟨#[]⟩, .slice none 0 0, .slice none 0 0] → bx ≠ g → bx ≠ tb → nb ≠ some bx → (∀ st, X = .ok st → st.left.length < N ∧ d ≤ 7) → d ≤ 98 →
 Calls Tryz.prog 161 #[.pointer (some ⟨g, 0, none⟩), .pointer (some ⟨bx, 0, none⟩), .int .i64 ((d : Int) + 1), .bool c] w (RetKQ g tb bx nb w E kd nm (X.bind (casC E kd d c [])))
structure KqW (w : World) (g tb bx : Nat) (nb nb' : Option Nat) (kd : Nat) (nm : ByteArray) (B : Option Addr) (kn bc : Nat) (ks : List By) (A : Option Addr) (cc m : Nat) (xs : List Value) (G : Prop) (fc : F) (W : World) : Prop where
 box : AtC 50 W bx #[.int .i64 kd, .string ⟨#[]⟩, .string nm, .string ⟨#[]⟩, .slice A m cc, .slice none 0 0]
 own : W.ownsRow w.heap.size 52 2 (.slice A m cc) m xs
 key : W.ownsRow w.heap.size 9 1 (.slice B kn bc) kn (strC ks)
 kne : ∀ k, (Value.slice B kn bc).ownBlock = some k → nb' ≠ some k
 exc : Exc (fun k => qB g nb k ∨ k = bx ∨ w.heap.size ≤ k) w W
 nbb : nb' = nb ∨ ∀ k, nb' = some k → w.heap.size ≤ k
 cws : G → m = fc.len ∧ Cw W (fun k => w.heap.size ≤ k ∧ some k ≠ (Value.slice A m cc).ownBlock ∧ some k ≠ (Value.slice B kn bc).ownBlock ∧ some k ≠ nb') fc xs
 old : g < w.heap.size ∧ tb < w.heap.size ∧ bx < w.heap.size ∧ bx ≠ g ∧ bx ≠ tb ∧ nb ≠ some bx
section
variable {w : World} {g tb bx E : Nat} {nb nb1 nb2 : Option Nat} {kd : Nat} {nm : ByteArray} {B B' : Option Addr} {kn bc bc' : Nat} {ks : List By} {A A' : Option Addr} {cc c' m : Nat} {xs : List Value} {G G' : Prop} {fc fc' : F} {W W1 W' : World} {X : Except Err St}
theorem KqW.len (h : KqW w g tb bx nb nb1 kd nm B kn bc ks A cc m xs G fc W) : kn = ks.length := by
 have h1 := h.key.1
 unfold strC at h1
 rw [List.length_map] at h1
 omega
theorem KqW.bq (h : KqW w g tb bx nb nb1 kd nm B kn bc ks A cc m xs G fc W) : ¬ qB g nb1 bx := fun e => by
 obtain ⟨o1, o2, o3, o4, o5, o6⟩ := h.old
 rcases e with e | e
 ·exact o4 e
 ·rcases h.nbb with hn | hn
  ·exact o6 (by rw [← hn, e])
  ·have := hn bx e.symm
   omega
theorem KqW.go (h : KqW w g tb bx nb nb1 kd nm B kn bc ks A cc m xs G fc W) (hO : RqO g tb nb1 E W X) (hS : Exc (qB g nb1) W W') (hn : nb2 = nb1 ∨ ∀ k, nb2 = some k → W.heap.size ≤ k) : KqW w g tb bx nb nb2 kd nm B kn bc ks A cc m xs G fc W' := by
 obtain ⟨o1, o2, o3, o4, o5, o6⟩ := h.old
 refine ⟨h.box.exc hS h.bq, own_excQ h.own hS (fun k hk hq => ?_), own_excQ h.key hS (fun k hk hq => ?_), fun k hk => ?_, h.exc.trans (excMono hS fun k e => ?_), nb_step h.nbb hn h.exc.size, fun hG => ⟨(h.cws hG).1, ?_⟩, h.old⟩
 ·rcases hq with hq | hq
  ·have := (h.own.lt k hk).1; omega
  ·exact hO.row_ne h.own (by decide) k hq.symm hk
 ·rcases hq with hq | hq
  ·have := (h.key.lt k hk).1; omega
  ·exact h.kne k hk hq.symm
 ·rcases hn with hn | hn
  ·rw [hn]; exact h.kne k hk
  ·intro e
   have := hn k e
   have := (h.key.lt k hk).2
   omega
 ·rcases e with e | e
  ·exact .inl (.inl e)
  ·rcases h.nbb with h' | h'
   ·exact .inl (.inr (by rw [e, h']))
   ·exact .inr (.inr (h' k e.symm))
 ·refine (FCw_exc hS (fun k hk e => ?_) (fun k hk => ⟨hk.1.1, hk.1.2.1, hk.1.2.2.1, fun e => ?_⟩) fc).2 _ ((FCw_in W _ fc).2 _ (h.cws hG).2)
  ·rcases e with e | e
   ·have := hk.1.1; omega
   ·exact hk.1.2.2.2 e
  ·rcases hn with hn | hn
   ·exact hk.1.2.2.2 (e.trans hn)
   ·have := hn k e.symm
    have := hk.2
    omega
theorem KqW.ext (h : KqW w g tb bx nb nb1 kd nm B kn bc ks A cc m xs G fc W) (hO : RqO g tb nb1 E W X) (hx : Ext W W') : KqW w g tb bx nb nb1 kd nm B kn bc ks A cc m xs G fc W' := h.go hO (Exc.of_ext hx) (.inl rfl)
theorem KqW.keys {s : ByteArray} (h : KqW w g tb bx nb nb1 kd nm B kn bc ks A cc m xs G fc W) (hO : RqO g tb nb1 E W X) (hx : Ext W W1) (hg : W1.grownBy W' (Value.slice B kn bc).ownBlock) (hown : W'.ownsRow w.heap.size 9 1 (.slice B' (kn + 1) bc') (kn + 1) (strC ks ++ [.string s]))
 (hwh : (Value.slice B' (kn + 1) bc').ownBlock = (Value.slice B kn bc).ownBlock ∨ ∀ b, (Value.slice B' (kn + 1) bc').ownBlock = some b → W1.heap.size ≤ b) :
 KqW w g tb bx nb nb1 kd nm B' (kn + 1) bc' (ks ++ [s.data.toList]) A cc m xs G fc W' ∧ RqO g tb nb1 E W' X := by
 obtain ⟨o1, o2, o3, o4, o5, o6⟩ := h.old
 have ha : Exc (fun k => some k = (Value.slice B kn bc).ownBlock) W W' := (Exc.of_ext hx).trans ⟨hg.os, hg.tape, hg.output, hg.size, fun k hk ht => hg.block k hk ht⟩
 have kb : ∀ k, (Value.slice B kn bc).ownBlock = some k → w.heap.size ≤ k ∧ k < W.heap.size := fun k hk => h.key.lt k hk
 have hX := hx.size
 refine ⟨⟨h.box.exc ha (fun e => by have := kb _ e.symm; omega), own_excQ h.own ha (fun k hk e => own_neQ h.own h.key (by decide) k hk e.symm), ?_, fun k hk e => ?_, h.exc.trans (excMono ha fun k e => .inr (.inr (kb k e.symm).1)), h.nbb, fun hG => ⟨(h.cws hG).1, ?_⟩, h.old⟩,
  hO.exc ha (fun e => by have := kb _ e.symm; omega) (fun e => by have := kb _ e.symm; omega) (fun k hk e => h.kne k e.symm hk)⟩
 ·have e : strC (ks ++ [s.data.toList]) = strC ks ++ [.string s] := by unfold strC; rw [List.map_append]; rfl
  rw [e]
  exact hown
 ·rcases hwh with hw | hw
  ·exact h.kne k (by rw [← hw]; exact hk) e
  ·have := hw k hk
   have := hO.nlt k e
   omega
 ·refine (FCw_exc ha (fun k hk e => hk.1.2.2.1 e) (fun k hk => ⟨hk.1.1, hk.1.2.1, fun e => ?_, hk.1.2.2.2⟩) fc).2 _ ((FCw_in W _ fc).2 _ (h.cws hG).2)
  rcases hwh with hw | hw
  ·exact hk.1.2.2.1 (e.trans hw)
  ·have := hw k e.symm
   have := hk.2
   omega
theorem at_q64 {T : TypeId} {w : World} {g : Nat} {a0 a1 a2 a3 a4 a5 b4 : Value} (h : AtC T w g #[a0, a1, a2, a3, a4, a5]) : AtC T (w.setCell ⟨g, 4, none⟩ b4) g #[a0, a1, a2, a3, b4, a5] := by
 unfold AtC at h ⊢
 simp only [World.setCell, Array.getElem?_modify, if_true, h]
 rfl
theorem KqW.case {s : ByteArray} {vA : Option Addr} {vn vc : Nat} (h : KqW w g tb bx nb nb1 kd nm B kn bc ks A cc m xs G fc W) (hO : RqO g tb nb1 E W X) (hx : Ext W W1) (hg : W1.grownBy W' (Value.slice A m cc).ownBlock)
 (hown : W'.ownsRow w.heap.size 52 2 (.slice A' (m + 1) c') (m + 1) (xs ++ [.string s, .slice vA vn vc])) (hwh : (Value.slice A' (m + 1) c').ownBlock = (Value.slice A m cc).ownBlock ∨ ∀ b, (Value.slice A' (m + 1) c').ownBlock = some b → W1.heap.size ≤ b)
 (hG : G' → G ∧ ∃ gp t, fc' = fc.app (.one 0 [] t [] .nil gp) ∧ s = ⟨t.toArray⟩ ∧ FwS W (fun k => w.heap.size ≤ k ∧ some k ≠ (Value.slice A m cc).ownBlock ∧ some k ≠ (Value.slice B kn bc).ownBlock ∧ some k ≠ nb1) gp (.slice vA vn vc)) :
 KqW w g tb bx nb nb1 kd nm B kn bc ks A' c' (m + 1) (xs ++ [.string s, .slice vA vn vc]) G' fc' (W'.setCell ⟨bx, 4, none⟩ (.slice A' (m + 1) c')) ∧ RqO g tb nb1 E (W'.setCell ⟨bx, 4, none⟩ (.slice A' (m + 1) c')) X := by
 obtain ⟨o1, o2, o3, o4, o5, o6⟩ := h.old
 have ha : Exc (fun k => some k = (Value.slice A m cc).ownBlock) W W' := (Exc.of_ext hx).trans ⟨hg.os, hg.tape, hg.output, hg.size, fun k hk ht => hg.block k hk ht⟩
 have hs : Exc (fun k => k = bx) W' (W'.setCell ⟨bx, 4, none⟩ (.slice A' (m + 1) c')) := exc_q 4 _
 have kb : ∀ k, (Value.slice A m cc).ownBlock = some k → w.heap.size ≤ k ∧ k < W.heap.size := fun k hk => h.own.lt k hk
 have hX := hx.size
 refine ⟨⟨at_q64 (h.box.exc ha (fun e => by have := kb _ e.symm; omega)), own_excQ hown hs (fun k hk e => by have := (hown.lt k hk).1; omega), own_excQ (own_excQ h.key ha (fun k hk e => own_neQ h.key h.own (by decide) k hk e.symm)) hs (fun k hk e => by have := (h.key.lt k hk).1; omega), h.kne,
  (h.exc.trans (excMono ha fun k e => .inr (.inr (kb k e.symm).1))).trans (excMono hs fun k e => .inr (.inl e)), h.nbb, fun hg' => ?_, h.old⟩,
  (hO.exc ha (fun e => by have := kb _ e.symm; omega) (fun e => by have := kb _ e.symm; omega) (fun k hk e => hO.row_ne h.own (by decide) k hk e.symm)).exc hs (fun e => o4 e.symm) (fun e => o5 e.symm) (fun k hk e => h.bq (.inr (by rw [← e, hk])))⟩
 obtain ⟨hg0, gp, t, rfl, rfl, hf⟩ := hG hg'
 obtain ⟨q1, q2⟩ := h.cws hg0
 refine ⟨by rw [F.len_app, q1]; rfl, ?_⟩
 have q3 := (FCw_in W _ (fc.app (.one 0 [] t [] .nil gp))).2 _ ((FCw_app W _ (.one 0 [] t [] .nil gp) fc).2 _ _ q2 (Cw_one hf))
 refine (FCw_exc hs (ok' := fun k => w.heap.size ≤ k ∧ some k ≠ (Value.slice A' (m + 1) c').ownBlock ∧ some k ≠ (Value.slice B kn bc).ownBlock ∧ some k ≠ nb1) (fun k hk e => ?_) (fun k hk => hk) _).2 _ ((FCw_exc ha (fun k hk e => hk.1.2.1 e) (fun k hk => ⟨hk.1.1, fun e => ?_, hk.1.2.2.1, hk.1.2.2.2⟩) _).2 _ q3)
 ·have := hk.1; omega
 ·rcases hwh with hw | hw
  ·exact hk.1.2.1 (e.trans hw)
  ·have := hw k e.symm
   have := hk.2
   omega
end
def KqI (w : World) (g tb bx : Nat) (nb : Option Nat) (E : Nat) (X0 : Except Err St) (N kd d : Nat) (c : Bool) (nm : ByteArray) (keys : Value) (wr : World) : Prop :=
 ∃ X fc ks nb' B kn bc A cc m xs, keys = .slice B kn bc ∧ X0.bind (casC E kd d c []) = prepF fc (X.bind (casC E kd d c ks)) ∧ RqO g tb nb' E wr X ∧ (∀ st, X = .ok st → st.left.length < N ∧ d ≤ 7) ∧
   KqW w g tb bx nb nb' kd nm B kn bc ks A cc m xs (∃ st, X = .ok st) fc wr ∧ m + lenX X ≤ 4003 ∧ m = kn
def LimR (E kd d : Nat) (c : Bool) (ks : List By) (X Xa : Except Err St) : Prop := (∀ st, Xa = .ok st → X = .ok st) ∧
 ∀ W Xb Xc Ym Xd, W = wrdS (keyB kd) Xa → Xb = Xa.bind (wrdX E (keyB kd)) → Xc = Xb.bind (takeX E 2) → Ym = Xc.bind (msgC E (d + 1) c) → Xd = (Ym.map (·.2)).bind (takeX E 3) → RdK E kd d c ks X W Ym Xd
theorem lim_not {E kd d : Nat} {c : Bool} {ks : List By} {st : St} (h9 : ¬ kindL st.left = 9) (h3 : ks = [] ∨ ¬ kindL st.left = 3) : LimR E kd d c ks (.ok st) (.ok st) := by
 refine ⟨fun st h => h, fun W Xb Xc Ym Xd hW hb hc hm hd => ?_⟩
 have e1 : (Except.ok st : Except Err St).bind (wrdX E (keyB kd)) = .error (3, plE E st.left) := (wrd_not (X := .ok st) h9).1
 refine rd_err (hb.trans e1) ?_ hc hm hd
 show casC E kd d c ks st = _
 by_cases hk : ks = []
 ·exact cas_none h9 hk
 ·rw [cas_stop hk h9, if_neg (h3.resolve_left hk)]
theorem lim_unfit {E kd d : Nat} {c : Bool} {ks : List By} {t : Tok} {r : List Tok} {ns : List By} (h9 : t.k = 9) (hp : keyB kd t.t = false) : LimR E kd d c ks (.ok ⟨t :: r, ns⟩) (.ok ⟨t :: r, ns⟩) := by
 refine ⟨fun st h => h, fun W Xb Xc Ym Xd hW hb hc hm hd => ?_⟩
 obtain ⟨e, e1, e2⟩ := rd_unfit (E := E) (k := kd) (d := d) (c := c) (ks := ks) (r := r) (ns := ns) h9 hp
 exact rd_err (hb.trans e1) e2 hc hm hd
theorem lim_many {E kd d : Nat} {c : Bool} {ks : List By} {t : Tok} {r : List Tok} {ns : List By} (h9 : t.k = 9) (hp : keyB kd t.t = true) (h20 : 20 ≤ ks.length) : LimR E kd d c ks (.ok ⟨t :: r, ns⟩) (.error (6, t.a)) :=
 ⟨fun st h => (by cases h), fun W Xb Xc Ym Xd hW hb hc hm hd => rd_err hb (rd_many h9 hp h20) hc hm hd⟩
theorem lim_twice {E kd d : Nat} {c : Bool} {ks : List By} {t : Tok} {r : List Tok} {ns : List By} (h9 : t.k = 9) (hp : keyB kd t.t = true) (h20 : ¬ 20 ≤ ks.length) (hin : t.t ∈ ks) : LimR E kd d c ks (.ok ⟨t :: r, ns⟩) (.error (9, t.a)) :=
 ⟨fun st h => (by cases h), fun W Xb Xc Ym Xd hW hb hc hm hd => rd_err hb (rd_twice h9 hp h20 hin) hc hm hd⟩
theorem lim_good {E kd d : Nat} {c : Bool} {ks : List By} {t : Tok} {r : List Tok} {ns : List By} (h9 : t.k = 9) (hp : keyB kd t.t = true) (h20 : ¬ 20 ≤ ks.length) (hin : t.t ∉ ks) : LimR E kd d c ks (.ok ⟨t :: r, ns⟩) (.ok ⟨t :: r, ns⟩) :=
 ⟨fun st h => h, fun W Xb Xc Ym Xd hW hb hc hm hd => rd_good h9 hp (by omega) hin hW hb hc hm hd⟩
theorem kq_ret {w wr W' : World} {g tb bx E : Nat} {nb nb' nb2 : Option Nat} {X0 X Z : Except Err St} {kd d : Nat} {c : Bool} {nm : ByteArray} {fc : F} {ks : List By} {B A : Option Addr} {kn bc cc m : Nat} {xs : List Value}
 (hY : X0.bind (casC E kd d c []) = prepF fc (X.bind (casC E kd d c ks))) (hO : RqO g tb nb' E wr X) (hW : KqW w g tb bx nb nb' kd nm B kn bc ks A cc m xs (∃ st, X = .ok st) fc wr) (hS : Exc (qB g nb') wr W') (hn : nb2 = nb' ∨ ∀ k, nb2 = some k → wr.heap.size ≤ k) (hZ : RqO g tb nb2 E W' Z)
 (h : (∃ e, X = .error e ∧ Z = .error e) ∨ ∃ st, X = .ok st ∧ ks ≠ [] ∧ kindL st.left = 3 ∧ ((otherP ∈ ks ∧ Z = .ok st) ∨ (otherP ∉ ks ∧ Z = .error (13, plE E st.left)))) :
 RetKQ g tb bx nb w E kd nm (X0.bind (casC E kd d c [])) (.returned (.tuple #[])) W' := by
 have hW2 := hW.go hO hS hn
 have hxx : Exc (fun k => qB g nb k ∨ k = bx) w W' := ⟨hW2.exc.os, hW2.exc.tape, hW2.exc.output, hW2.exc.size, fun k hk hS => hW2.exc.block k hk (fun e => by rcases e with e | e | e; exact hS (.inl e); exact hS (.inr e); omega)⟩
 rw [hY]
 rcases h with ⟨e, rfl, rfl⟩ | ⟨st, rfl, hne, h3, h⟩
 ·exact ⟨nb2, A, m, cc, rfl, hW2.box, fun f st h => (by cases h), hxx, hZ, hW2.nbb⟩
 ·have e1 : (Except.ok st : Except Err St).bind (casC E kd d c ks) = if otherP ∈ ks then .ok (.nil, st) else .error (13, plE E st.left) := by
   show casC E kd d c ks st = _
   rw [cas_stop hne (by omega), if_pos h3]
  rw [e1]
  rcases h with ⟨h, rfl⟩ | ⟨h, rfl⟩
  ·rw [if_pos h]
   refine ⟨nb2, A, m, cc, rfl, hW2.box, fun f st h => ?_, hxx, hZ, hW2.nbb⟩
   injection h with h
   injection h with h _
   subst h
   rw [F.app_nil]
   obtain ⟨q1, q2⟩ := hW2.cws ⟨_, rfl⟩
   subst q1
   obtain ⟨A', c', hv, hs⟩ := own_slN hW2.own
   injection hv with e1 _ e3
   subst e1 e3
   refine ⟨A, cc, xs, rfl, hs, fun _ ad hA => ?_, (FCw_exc (Exc.refl (fun _ => False) W') (fun _ _ h => h) (fun _ h => ⟨h.1, h.2.2.2⟩) fc).2 _ q2⟩
   have hob : (Value.slice A fc.len cc).ownBlock = some ad.block := by rw [hA]; rfl
   exact ⟨(hW2.own.lt _ hob).1, fun e0 => hZ.row_ne hW2.own (by decide) ad.block e0.symm hob⟩
  ·rw [if_neg h]
   exact ⟨nb2, A, m, cc, rfl, hW2.box, fun f st h => (by cases h), hxx, hZ, hW2.nbb⟩
theorem kq_go {w W W1 W' : World} {g tb bx E : Nat} {nb nb8 : Option Nat} {X0 Xd : Except Err St} {sx : St} {N kd d : Nat} {c : Bool} {nm S : ByteArray} {fc : F} {ks : List By} {B A A8 : Option Addr} {kn bc cc c8 m : Nat} {xs : List Value} {vA : Option Addr} {vn vc : Nat} {Ym Z : Except Err (F × St)}
 (hY : X0.bind (casC E kd d c []) = prepF fc ((Except.ok sx : Except Err St).bind (casC E kd d c ks))) (hl : sx.left.length < N ∧ d ≤ 7) (hm : m + (sx.left.length + 1) ≤ 4003) (hmk : m = kn) (hR : RdK E kd d c ks (.ok sx) S Ym Xd) (hz : HashR Ym Z)
 (hW : KqW w g tb bx nb nb8 kd nm B (kn + 1) bc (ks ++ [S.data.toList]) A cc m xs (∃ st, (Except.ok sx : Except Err St) = .ok st) fc W) (hO : RqO g tb nb8 E W Xd)
 (hf : ∀ gp st, Z = .ok (gp, st) → FwS W (fun k => w.heap.size ≤ k ∧ some k ≠ (Value.slice A m cc).ownBlock ∧ some k ≠ (Value.slice B (kn + 1) bc).ownBlock ∧ some k ≠ nb8) gp (.slice vA vn vc))
 (hx : Ext W W1) (hg : W1.grownBy W' (Value.slice A m cc).ownBlock) (hown : W'.ownsRow w.heap.size 52 2 (.slice A8 (m + 1) c8) (m + 1) (xs ++ [.string S, .slice vA vn vc]))
 (hwh : (Value.slice A8 (m + 1) c8).ownBlock = (Value.slice A m cc).ownBlock ∨ ∀ b, (Value.slice A8 (m + 1) c8).ownBlock = some b → W1.heap.size ≤ b) :
 KqI w g tb bx nb E X0 N kd d c nm (.slice B (kn + 1) bc) (W'.setCell ⟨bx, 4, none⟩ (.slice A8 (m + 1) c8)) ∧ mQ g (W'.setCell ⟨bx, 4, none⟩ (.slice A8 (m + 1) c8)) < sx.left.length + 1 := by
 cases Xd with
 | error e =>
   obtain ⟨h1, h2⟩ := hW.case (G' := ∃ st, (Except.error e : Except Err St) = .ok st) (fc' := fc) hO hx hg hown hwh (fun ⟨st, h⟩ => by cases h)
   refine ⟨⟨.error e, fc, _, nb8, B, kn + 1, bc, A8, c8, m + 1, _, rfl, ?_, h2, fun st h => (by cases h), h1, ?_, by omega⟩, ?_⟩
   ·rw [hY, hR.1 e rfl]; rfl
   ·show m + 1 + 0 ≤ 4003
    omega
   ·rw [mQ_eq h2]
    exact Nat.succ_pos _
 | ok st' =>
   obtain ⟨gp, st, t, hYm, hWt, hlt, hXe⟩ := hR.2 st' rfl
   have hlt2 : st'.left.length + 1 < sx.left.length + 1 := hlt
   obtain ⟨h1, h2⟩ := hW.case (G' := ∃ st, (Except.ok st' : Except Err St) = .ok st) (fc' := fc.app (.one 0 [] t [] .nil gp)) hO hx hg hown hwh (fun _ => ⟨⟨_, rfl⟩, gp, t, rfl, hWt, hf gp st (hash_ok hz hYm)⟩)
   refine ⟨⟨.ok st', fc.app (.one 0 [] t [] .nil gp), ks ++ [S.data.toList], nb8, B, kn + 1, bc, A8, c8, m + 1, _, rfl, ?_, h2, fun st2 h => ?_, h1, ?_, by omega⟩, ?_⟩
   ·rw [hY, hXe, prepF_prepF, hWt]; rfl
   ·injection h with h
    subst h
    exact ⟨by omega, hl.2⟩
   ·show m + 1 + (st'.left.length + 1) ≤ 4003
    omega
   ·rw [mQ_eq h2]
    exact hlt2
end Go.Proofs.YtpfmojeigjmlfaaGreatDoor
namespace Go.Proofs.YtpfmojeigjmlfaaGreatDoor
open Go.RowKit
def CqL (g tb : Nat) (nb : Option Nat) (E kd d : Nat) (c : Bool) (ks : List By) (X : Except Err St) (w3 wr : World) : Prop := ∃ nb' Xa, Exc (qB g nb) w3 wr ∧ RqO g tb nb' E wr Xa ∧ (nb' = nb ∨ ∀ k, nb' = some k → w3.heap.size ≤ k) ∧ LimR E kd d c ks X Xa
def CqK (g tb : Nat) (nb : Option Nat) (E : Nat) (S : ByteArray) (Xb : Except Err St) (w4 : World) (v : Value) (wr : World) : Prop := v = .string S ∧ ∃ nb', Exc (qB g nb) w4 wr ∧ RqO g tb nb' E wr Xb ∧ (nb' = nb ∨ ∀ k, nb' = some k → w4.heap.size ≤ k)
theorem str_one (s : ByteArray) : ∀ u ∈ ([.string s] : List Value), u.oneCell' = true := by simp [Value.oneCell']
set_option maxHeartbeats 16000000 in
theorem rcas (N : Nat) (hM : MsgQ N) : CasQ N := by
 intro g tb bx nb E X0 kd d c nm w h htb hbx hbg hbt hbn hX hd
 obtain ⟨i0, hi, hz0, hz1, hz2⟩ := info_parts (show (Tryz.prog.info? 52).map (fun i => (i.zero, i.size, i.bytes)) = some (some (.agg #[.string ⟨#[]⟩, .slice none 0 0]), 2, 40) from by kernel_rfl)
 obtain ⟨j0, hj, hy0, hy1, hy2⟩ := info_parts (show (Tryz.prog.info? 9).map (fun i => (i.zero, i.size, i.bytes)) = some (some (.string ⟨#[]⟩), 1, 16) from by kernel_rfl)
 have hlx : lenX X0 ≤ 4003 := by
  rcases X0 with e | st
  ·exact Nat.zero_le _
  ·have := h.1.len
   show st.left.length + 1 ≤ 4003
   omega
 have H0 := hid (show KqI w g tb bx nb E X0 N kd d c nm (.slice none 0 0) w from
  ⟨X0, .nil, [], nb, none, 0, 0, none, 0, 0, [], rfl, (prepF_nil _).symm, h, hX, ⟨hbx, World.ownsRow_nil _ _ _ _, World.ownsRow_nil _ _ _ _, fun k hk => (by cases hk), Exc.refl _ _, .inl rfl, fun _ => ⟨rfl, by rw [Cw]⟩, ⟨h.lt, htb, hbx.lt, hbg, hbt, hbn⟩⟩, by omega, rfl⟩)
 clear h hX hlx htb hbx hbg hbt hbn
 go_enter Tryz.func161, Tryz.ntmps161
 go_wp2_with fail
 go_loopw [8] (KqI w g tb bx nb E X0 N kd d c nm) (fun _ wr => mQ g wr)
 case atStart => exact H0.out
 case round =>
  obtain ⟨X, fc, ks, nb1, B, kn, bc, A, cc, m, xs, rfl, hY, hO, hl, hW, hm, hmk⟩ := hrel
  obtain ⟨wo, rfl⟩ : ∃ wo : World, wo = wr := ⟨_, rfl⟩
  rw [mQ_eq hO]
  obtain rfl := hW.len
  have HY := hid hY
  have HO := hid hO
  have HW := hid hW
  have c40 := hO.cell4
  rcases X with x | ⟨left, ns⟩
  ·have b1 : (x.1 == 0) = false := by rw [beq_eq_false_iff_ne]; exact hO.1
   have c4 : wo.cell? ⟨g, 4, none⟩ = some (.int .i64 x.1) := c40
   clear hY hO hl hW hm hmk c40
   go_wp2
   go_end0
   exact kq_ret HY.out HO.out HW.out (Exc.refl _ _) (.inl rfl) HO.out (.inl ⟨_, rfl, rfl⟩)
  have c4 : wo.cell? ⟨g, 4, none⟩ = some (.int .i64 0) := c40
  clear c40
  obtain ⟨hbb, hfew, a0, hwq⟩ := hO
  have hbb : RqB E left ns := hbb
  have hwq : RqW g tb nb1 E wo left ns a0 0 := hwq
  have KP := hid (fun W (hx : Ext wo W) => rpeek_any (hwq.ext hx) hbb.len hbb.e4)
  obtain ⟨T, hT⟩ : ∃ T, T = hdT E left := ⟨_, rfl⟩
  rw [← hT] at KP
  unfold tokV at KP
  have HTK := hid (show T.k = kindL left from by rw [hT, hdT_k])
  have HTT := hid hT
  have HTZ := hid (show T.t.length ≤ 4000 from by
   rw [hT]
   rcases left with _ | ⟨t, r⟩
   ·exact Nat.zero_le _
   ·exact (hbb.tok t List.mem_cons_self).1)
  have HLL : left.length < N ∧ d ≤ 7 := hl _ rfl
  have HLL := hid HLL
  have HMM := hid (show m + (left.length + 1) ≤ 4003 from hm)
  have HMK := hid hmk
  have hmb : m ≤ 4003 := by have : m + (left.length + 1) ≤ 4003 := hm; omega
  have hkb : ks.length ≤ 4003 := by omega
  have HLT := hid hwq.lt
  have HSZ := hid hW.exc.size
  have hfd0 := tokF0
  clear hY hl hW hbb hfew hwq hT hm hmk
  by_cases hex : ¬ ks.length = 0 ∧ T.k = 3
  ·obtain ⟨hk0, h3⟩ := hex
   have bk0 : ((ks.length : Int) == 0) = false := by rw [beq_eq_false_iff_ne]; omega
   have b3 : ((T.k : Int) == 3) = true := by rw [h3]; rfl
   have b3n : ((T.k : Int) != 3) = false := by rw [h3]; rfl
   have HKN := hid (show ks ≠ [] from fun e => hk0 (by rw [e]; rfl))
   have HK3 := hid (show kindL left = 3 from by rw [← HTK.out]; exact h3)
   have KI := hid (fun W (hx : Ext wo W) => (show Calls Tryz.prog 69 #[.slice B ks.length bc, .string ⟨#[111, 116, 104, 101, 114]⟩] W _ from rin26_any ks B bc otherP W (by
    obtain ⟨A', c', hv, hs⟩ := own_slN (HW.out.ext HO.out hx).key
    injection hv with e1 _ e3
    subst e1 e3
    exact hs) (by omega)))
   have KF := hid (fun W (hx : Ext wo W) => rfail_any 13 (by decide) (HO.out.ext hx))
   have c4x := fun W (hx : Ext wo W) => (HO.out.ext hx).cell4
   have HC4 := hid c4x
   clear hk0 h3 c4x
   cases ho : decide (otherP ∈ ks)
   ·rw [ho] at KI
    go_wp2_with (first
     | (go_at_call 114; (with_reducible refine (KP.out _ (Ext.refl _)).mono ?_); rintro e w2 ⟨rfl, hx2⟩; have HX2 := hid hx2; have c4 : w2.cell? ⟨g, 4, none⟩ = some (.int .i64 0) := HC4.out _ hx2; clear hx2)
     | (go_at_call 69; (with_reducible refine (KI.out _ HX2.out).mono ?_); rintro e w3 ⟨rfl, rfl⟩))
    refine (KF.out _ HX2.out).mono ?_
    rintro e w4 ⟨rfl, hs4⟩
    obtain ⟨nb4, e4, o4, n4⟩ := (RqS.back HX2.out hs4).parts
    have HR := hid (kq_ret HY.out HO.out HW.out e4 n4 o4 (.inr ⟨_, rfl, HKN.out, HK3.out, .inr ⟨of_decide_eq_false ho, rfl⟩⟩))
    clear hs4 e4 o4 n4
    go_wp2
    go_end0
    exact HR.out
   ·rw [ho] at KI
    go_wp2_with (first
     | (go_at_call 114; (with_reducible refine (KP.out _ (Ext.refl _)).mono ?_); rintro e w2 ⟨rfl, hx2⟩; have HX2 := hid hx2; have c4 : w2.cell? ⟨g, 4, none⟩ = some (.int .i64 0) := HC4.out _ hx2; clear hx2)
     | (go_at_call 69; (with_reducible refine (KI.out _ HX2.out).mono ?_); rintro e w3 ⟨rfl, rfl⟩))
    go_end0
    exact kq_ret HY.out HO.out HW.out (Exc.of_ext HX2.out) (.inl rfl) (HO.out.ext HX2.out) (.inr ⟨_, rfl, HKN.out, HK3.out, .inl ⟨of_decide_eq_true ho, rfl⟩⟩)
  have HH3 := hid (show ks = [] ∨ ¬ kindL left = 3 from by
   by_cases hk : ks = []
   ·exact .inl hk
   ·exact .inr fun h3 => hex ⟨fun e => hk (List.eq_nil_of_length_eq_zero e), by rw [HTK.out]; exact h3⟩)
  have HEX := hid hex
  clear hex
  go_upto_region 1 with (fail)
  go_cut [27] (BWr true wo)
  case first =>
   by_cases hk0 : ks.length = 0
   ·have bk0 : ((ks.length : Int) == 0) = true := by rw [hk0]; rfl
    clear hk0
    go_wp2_with fail
    go_meet
    exact ⟨rfl, Ext.refl _⟩
   ·have bk0 : ((ks.length : Int) == 0) = false := by rw [beq_eq_false_iff_ne]; omega
    have b3 : ((T.k : Int) == 3) = false := by rw [beq_eq_false_iff_ne]; intro e; exact HEX.out ⟨hk0, by omega⟩
    have b3n : ((T.k : Int) != 3) = true := by rw [bne, b3]; rfl
    clear hk0
    go_wp2_with (go_at_call 114; (with_reducible refine (KP.out _ (Ext.refl _)).mono ?_); rintro e w2 ⟨rfl, hx2⟩; have HX2 := hid hx2; clear hx2)
    go_meet
    exact ⟨rfl, HX2.out⟩
  case rest =>
  obtain ⟨rfl, hxc⟩ := hcut
  obtain ⟨w1, hw1⟩ : ∃ w1 : World, w1 = wc := ⟨_, rfl⟩
  rw [← hw1] at hxc
  have HX1 := hid hxc
  clear hxc c4
  go_upto_if 27 with (fail)
  rw [← hw1]
  clear hw1
  go_upto_region 3 with (first | (go_at_call 114; (with_reducible refine (KP.out _ HX1.out).mono ?_); rintro e w2 ⟨rfl, hx2⟩; have HX2 := hid (HX1.out.trans hx2); clear hx2))
  obtain ⟨w3, hw3⟩ : ∃ w3, w3 = w2.alloc (.cells #[.int .i64 T.k, .string ⟨T.t.toArray⟩, .int .i64 T.a, .int .i64 T.b] 137) := ⟨_, rfl⟩
  rw [← hw3]
  have HX3 := hid (show Ext wo w3 from by rw [hw3]; exact HX2.out.alloc _)
  have HBX := hid (show AtC 137 w3 w2.heap.size #[.int .i64 T.k, .string ⟨T.t.toArray⟩, .int .i64 T.a, .int .i64 T.b] from by rw [hw3]; exact AtC.new w2 _)
  have HBG := hid (show ¬ qB g nb1 w2.heap.size from fun h => by
   have h1 := HLT.out
   have h2 := HX2.out.size
   rcases h with h | h
   ·omega
   ·have := HO.out.nlt _ h.symm
    omega)
  have HW3 := hid (HW.out.ext HO.out HX3.out)
  have HO3 := hid (HO.out.ext HX3.out)
  have y0 : ∀ y : ExtW w3, y.v.cell? ⟨w2.heap.size, 0, none⟩ = some (.int .i64 T.k) := fun y => (HBX.out.ext y.h).cell 0 _ rfl
  have y1 : ∀ y : ExtW w3, y.v.cell? ⟨w2.heap.size, 1, none⟩ = some (.string ⟨T.t.toArray⟩) := fun y => (HBX.out.ext y.h).cell 1 _ rfl
  have y2 : ∀ y : ExtW w3, y.v.cell? ⟨bx, 0, none⟩ = some (.int .i64 kd) := fun y => (HW3.out.box.ext y.h).cell 0 _ rfl
  clear hw3
  have KY := hid (fun y : ExtW w3 => rkeyB_any kd T.t y.v HTZ.out)
  obtain ⟨bq, hbq⟩ : ∃ bq, bq = (T.k == 9 && keyB kd T.t) := ⟨_, rfl⟩
  have HBQ := hid hbq
  clear hbq
  go_cut [41] (BWr bq w3)
  case first =>
   by_cases h9 : T.k = 9
   ·have b9 : ((T.k : Int) == 9) = true := by rw [h9]; rfl
    have HB2 := hid (show bq = keyB kd T.t from by rw [HBQ.out, h9]; rfl)
    clear h9
    refine wp_region_ext (by kernel_rfl) (by kernel_rfl) ?_
    repeat (go_big_quiet_step ((go_at_call 68; exact ExtW.call (KY.out _))))
    refine wpQuiet_nil ?_
    intro wb hwb
    have HWB := hid (ext_ofQ hwb)
    clear hwb y0 y1 y2
    try go_wp2
    go_meet
    exact ⟨by rw [HB2.out], HWB.out⟩
   ·have b9 : ((T.k : Int) == 9) = false := by rw [beq_eq_false_iff_ne]; omega
    have HB2 := hid (show bq = false from by rw [HBQ.out, beq_eq_false_iff_ne.2 h9]; rfl)
    clear h9
    refine wp_region_ext (by kernel_rfl) (by kernel_rfl) ?_
    repeat (go_big_quiet_step (fail))
    refine wpQuiet_nil ?_
    intro wb hwb
    have HWB := hid (ext_ofQ hwb)
    clear hwb y0 y1 y2
    try go_wp2
    go_meet
    exact ⟨by rw [HB2.out], HWB.out⟩
  case rest =>
  obtain ⟨rfl, hxc⟩ := hcut
  obtain ⟨wx, hwx⟩ : ∃ wx : World, wx = wc := ⟨_, rfl⟩
  rw [← hwx] at hxc
  have HX6 := hid hxc
  have HW6 := hid (HW3.out.ext HO3.out hxc)
  have z1 : wx.cell? ⟨w2.heap.size, 1, none⟩ = some (.string ⟨T.t.toArray⟩) := (HBX.out.ext hxc).cell 1 _ rfl
  clear hxc y0 y1 y2 KY
  go_upto_if 41 with (fail)
  rw [← hwx]
  clear hwx
  go_cut [] (CqL g tb nb1 E kd d c ks (.ok ⟨left, ns⟩) w3)
  case first =>
   cases hbq : bq
   ·have HLIM := hid (show LimR E kd d c ks (.ok ⟨left, ns⟩) (.ok ⟨left, ns⟩) from by
     by_cases h9 : T.k = 9
     ·obtain ⟨t, r, rfl⟩ : ∃ t r, left = t :: r := by
       rcases left with _ | ⟨t, r⟩
       ·rw [HTK.out] at h9
        exact absurd h9 (by decide)
       ·exact ⟨t, r, rfl⟩
      obtain rfl : T = t := HTT.out
      refine lim_unfit h9 ?_
      have h := HBQ.out
      rw [hbq, h9] at h
      exact h.symm
     ·exact lim_not (by show ¬ kindL left = 9; rw [← HTK.out]; exact h9) HH3.out)
    clear hbq z1
    go_wp2_with fail
    go_meet
    exact ⟨nb1, _, Exc.of_ext HX6.out, HO3.out.ext HX6.out, .inl rfl, HLIM.out⟩
   have H9 := hid (show T.k = 9 from by
    have h := HBQ.out
    rw [hbq] at h
    have h2 : T.k = 9 ∧ keyB kd T.t = true := by simpa using h.symm
    exact h2.1)
   have HKP := hid (show keyB kd T.t = true from by
    have h := HBQ.out
    rw [hbq] at h
    have h2 : T.k = 9 ∧ keyB kd T.t = true := by simpa using h.symm
    exact h2.2)
   obtain ⟨t, r, rfl⟩ : ∃ t r, left = t :: r := by
    rcases left with _ | ⟨t, r⟩
    ·have h9 := H9.out
     rw [HTK.out] at h9
     exact absurd h9 (by decide)
    ·exact ⟨t, r, rfl⟩
   obtain rfl : T = t := HTT.out
   have KI := hid (fun nb2 W (hW : KqW w g tb bx nb nb2 kd nm B ks.length bc ks A cc m xs (∃ st, (Except.ok ⟨T :: r, ns⟩ : Except Err St) = .ok st) fc W) => (show Calls Tryz.prog 69 #[.slice B ks.length bc, .string ⟨T.t.toArray⟩] W _ from rin26_any ks B bc T.t W (by
    obtain ⟨A', c', hv, hs⟩ := own_slN hW.key
    injection hv with e1 _ e3
    subst e1 e3
    exact hs) (by omega)))
   have KF := hid (fun code (h0 : code ≠ 0) W (hx : Ext w3 W) => rfail_any code h0 (HO3.out.ext hx))
   clear hbq
   by_cases h20 : 20 ≤ ks.length
   ·have h20I : (20 : Int) ≤ (ks.length : Int) := by omega
    have H20 := hid h20
    clear h20 z1
    go_wp2_with fail
    refine (KF.out 6 (by decide) _ HX6.out).mono ?_
    rintro e w4 ⟨rfl, hs4⟩
    obtain ⟨nb4, e4, o4, n4⟩ := (RqS.back HX6.out hs4).parts
    have HW4 := hid (HW3.out.go HO3.out e4 n4)
    have HE4 := hid e4
    have HN4 := hid n4
    have HO4 := hid (show RqO g tb nb4 E w4 (.error (6, T.a)) from o4)
    have z1 : w4.cell? ⟨w2.heap.size, 1, none⟩ = some (.string ⟨T.t.toArray⟩) := (HBX.out.exc e4 HBG.out).cell 1 _ rfl
    have KF4 := hid (rfail_any 9 (by decide) HO4.out)
    have KI4 := hid (KI.out _ _ HW4.out)
    have HR := hid (lim_many (E := E) (d := d) (c := c) (r := r) (ns := ns) H9.out HKP.out H20.out)
    clear hs4 e4 o4 n4 KI KF
    cases hin : decide (T.t ∈ ks)
    ·rw [hin] at KI4
     clear hin
     go_wp2_with (go_at_call 69; (with_reducible refine KI4.out.mono ?_); rintro e w5 ⟨rfl, rfl⟩)
     go_meet
     exact ⟨nb4, _, HE4.out, HO4.out, HN4.out, HR.out⟩
    ·rw [hin] at KI4
     clear hin
     go_wp2_with (go_at_call 69; (with_reducible refine KI4.out.mono ?_); rintro e w5 ⟨rfl, rfl⟩)
     refine KF4.out.mono ?_
     rintro e w5 ⟨rfl, hs5⟩
     obtain ⟨nb5, e5, o5, n5⟩ := (RqS.step HE4.out HN4.out hs5).parts
     have HQ := hid (show CqL g tb nb1 E kd d c ks (.ok ⟨T :: r, ns⟩) w3 w5 from ⟨nb5, _, e5, o5, n5, HR.out⟩)
     clear hs5 e5 o5 n5
     go_wp2
     go_meet
     exact HQ.out
   ·have h20I : ¬ (20 : Int) ≤ (ks.length : Int) := by omega
    have H20 := hid h20
    have KI4 := hid (KI.out _ _ HW6.out)
    clear h20 KI
    cases hin : decide (T.t ∈ ks)
    ·rw [hin] at KI4
     have HR := hid (lim_good (E := E) (d := d) (c := c) (r := r) (ns := ns) H9.out HKP.out H20.out (of_decide_eq_false hin))
     clear hin
     go_wp2_with (go_at_call 69; (with_reducible refine KI4.out.mono ?_); rintro e w5 ⟨rfl, rfl⟩)
     go_meet
     exact ⟨nb1, _, Exc.of_ext HX6.out, HO3.out.ext HX6.out, .inl rfl, HR.out⟩
    ·rw [hin] at KI4
     have HR := hid (lim_twice (E := E) (d := d) (c := c) (r := r) (ns := ns) H9.out HKP.out H20.out (of_decide_eq_true hin))
     clear hin
     go_wp2_with (go_at_call 69; (with_reducible refine KI4.out.mono ?_); rintro e w5 ⟨rfl, rfl⟩)
     refine (KF.out 9 (by decide) _ HX6.out).mono ?_
     rintro e w4 ⟨rfl, hs4⟩
     obtain ⟨nb4, e4, o4, n4⟩ := (RqS.back HX6.out hs4).parts
     have HQ := hid (show CqL g tb nb1 E kd d c ks (.ok ⟨T :: r, ns⟩) w3 w4 from ⟨nb4, _, e4, o4, n4, HR.out⟩)
     clear hs4 e4 o4 n4
     go_wp2
     go_meet
     exact HQ.out
  case rest =>
  obtain ⟨nb4, Xa, e4, o4, n4, hlim⟩ := hcut
  obtain ⟨w4, hw4⟩ : ∃ w4 : World, w4 = wc := ⟨_, rfl⟩
  rw [← hw4] at e4 o4
  have HE4 := hid e4
  have HN4 := hid n4
  have HO4 := hid o4
  have HLIM := hid hlim
  have HW4 := hid (HW3.out.go HO3.out e4 n4)
  have HB4 := hid (HBX.out.exc e4 HBG.out)
  clear e4 o4 n4 hlim z1 HBQ
  go_upto_region 8 with (fail)
  rw [← hw4]
  clear hw4
  obtain ⟨S, hS⟩ : ∃ S, S = wrdS (keyB kd) Xa := ⟨_, rfl⟩
  obtain ⟨Xb, hXb⟩ : ∃ Xb, Xb = Xa.bind (wrdX E (keyB kd)) := ⟨_, rfl⟩
  obtain ⟨Xc, hXc⟩ : ∃ Xc, Xc = Xb.bind (takeX E 2) := ⟨_, rfl⟩
  obtain ⟨Ym, hYm⟩ : ∃ Ym, Ym = Xc.bind (msgC E (d + 1) c) := ⟨_, rfl⟩
  obtain ⟨Xd, hXd⟩ : ∃ Xd, Xd = (Ym.map (·.2)).bind (takeX E 3) := ⟨_, rfl⟩
  have HRD := hid (show RdK E kd d c ks (.ok ⟨left, ns⟩) S Ym Xd from HLIM.out.2 S Xb Xc Ym Xd hS hXb hXc hYm hXd)
  have HCL : ∀ st, Xc = .ok st → st.left.length < N ∧ d + 1 ≤ 8 := by
   intro st hst
   rw [hst] at hXc
   obtain ⟨st1, a1, a2⟩ := bind_ok.1 hXc.symm
   rw [a1] at hXb
   obtain ⟨st0, b1, b2⟩ := bind_ok.1 hXb.symm
   have c1 := takeX_len a2
   have c2 := wrdX_len b2
   have c3 := HLIM.out.1 st0 b1
   injection c3 with c3
   have c4 := HLL.out
   subst c3
   simp only at c1 c2
   omega
  have hPk : ∀ t r ns', Xa = .ok ⟨t :: r, ns'⟩ → t.k = 9 → keyB kd T.t = keyB kd t.t := fun t r ns' e _ => by
   have h := HLIM.out.1 _ e
   injection h with h
   injection h with h _
   rw [HTT.out, h]
   rfl
  have KW := hid (fun W (hx : Ext w4 W) => rword_any (keyB kd) (keyB kd T.t) (HO4.out.ext hx) hPk)
  have KY := hid (fun W => rkeyB_any kd T.t W HTZ.out)
  rw [← hS, ← hXb] at KW
  have KT2 := hid (fun W nb' (h : RqO g tb nb' E W Xb) => rtake_any 2 (by decide) h)
  rw [← hXc] at KT2
  have KM := hid (fun W nb' (h : RqO g tb nb' E W Xc) (ht : tb < W.heap.size) => (show Calls Tryz.prog 78 #[.pointer (some ⟨g, 0, none⟩), .int .i64 ((d : Int) + 1 + 1), .bool c] W _ from hM g tb nb' E Xc (d + 1) c W h ht HCL (by omega)))
  rw [← hYm] at KM
  have KT3 := hid (fun W nb' Z (hz : HashR Ym Z) (h : RqO g tb nb' E W (Z.map (·.2))) => (show Calls Tryz.prog 116 #[.pointer (some ⟨g, 0, none⟩), .int .i64 3] W (fun e w' => e = .returned (.string (takeS 3 (Z.map (·.2)))) ∧ RqS g tb nb' W E Xd w') from by
   have h2 := rtake_any 3 (by decide) h
   rw [hash_take hz, ← hXd] at h2
   exact h2))
  generalize keyB kd T.t = kb at KW KY
  have HBG4 := hid (show ¬ qB g nb4 w2.heap.size from fun h => by
   rcases h with h | h
   ·exact HBG.out (.inl h)
   ·rcases HN4.out with hn | hn
    ·exact HBG.out (.inr (by rw [← hn, h]))
    ·have := hn _ h.symm
     have := HBX.out.lt
     omega)
  clear hS hXb hXc hYm hXd HCL hPk
  go_cut [10] (CqK g tb nb4 E S Xb w4)
  case first =>
   go_region_held3 (fun w' => w'.cell? ⟨bx, 0, none⟩ = some (.int .i64 kd) ∧ w'.cell? ⟨w2.heap.size, 1, none⟩ = some (.string ⟨T.t.toArray⟩))
    (first | exact ⟨(HW4.out.box.ext ((Ext.refl w4).drew)).cell 0 _ rfl, (HB4.out.ext ((Ext.refl w4).drew)).cell 1 _ rfl⟩ | exact ⟨(HW4.out.box.ext HX5.out).cell 0 _ rfl, (HB4.out.ext HX5.out).cell 1 _ rfl⟩ | exact ⟨HK6.out.box.cell 0 _ rfl, HK7.out.cell 1 _ rfl⟩ | go_keep)
    (first
     | (go_at_call 68; refine (KY.out _).mono ?_; rintro e w5 ⟨rfl, hx5⟩; have HX5 := hid (((Ext.refl w4).drew).trans hx5); clear hx5)
     | (go_at_call 159; refine (KW.out _ HX5.out).mono ?_; rintro e w6 ⟨rfl, hs6⟩; obtain ⟨nb6, e6, o6, n6⟩ := (RqS.back HX5.out hs6).parts; have HE6 := hid e6; have HO6 := hid o6; have HN6 := hid n6; have HK6 := hid (HW4.out.go HO4.out e6 n6); have HK7 := hid (HB4.out.exc e6 HBG4.out); clear hs6 e6 o6 n6)
     | fail)
   all_goals go_wp2
   all_goals go_meet
   all_goals exact ⟨rfl, nb6, HE6.out, HO6.out, HN6.out⟩
  case rest =>
  obtain ⟨rfl, nb5, e5, o5, n5⟩ := hcut
  obtain ⟨w5, hw5⟩ : ∃ w5 : World, w5 = wc := ⟨_, rfl⟩
  rw [← hw5] at e5 o5
  have HW5 := hid (HW4.out.go HO4.out e5 n5)
  have HO5 := hid o5
  have HS5 := hid (show wo.heap.size ≤ w5.heap.size from Nat.le_trans HX3.out.size (Nat.le_trans HE4.out.size e5.size))
  clear e5 o5 n5 KW KY
  go_upto_region 9 with (fail)
  rw [← hw5]
  clear hw5
  have HNC := hid (new_cells w5 #[.string S] 9)
  have HOX := hid (own_ext HW5.out.key ((Ext.refl w5).alloc (.cells #[.string S] 9)))
  have HZ := hid (show w.heap.size ≤ (w5.alloc (.cells #[.string S] 9)).heap.size from Nat.le_trans (Nat.le_trans HSZ.out HS5.out) ((Ext.refl w5).alloc (.cells #[.string S] 9)).size)
  go_upto_region 10 with (first
   | (at_builtin; refine wpList_appN _ rfl _ _ 26 rfl w.heap.size 9 j0 _ 1 16 Tryz.underlying26 hj hy0 hy1 hy2 rfl (by decide) _ ks.length _ rfl HOX.out ⟨w5.heap.size, 0, none⟩ 1 1 [.string S] rfl rfl HNC.out (str_one S) (by unfold maxLen; omega) (by omega) HZ.out ?_; intro v6 w6 hown6 hgrow6 hwh6; obtain ⟨B6, c6, hv6, _⟩ := own_slN hown6; subst hv6; have HO6 := hid hown6; have HG6 := hid hgrow6; have HH6 := hid hwh6; clear hown6 hgrow6 hwh6))
  obtain ⟨q6, r6⟩ := HW5.out.keys HO5.out ((Ext.refl w5).alloc (.cells #[.string S] 9)) HG6.out HO6.out HH6.out
  have HW6 := hid q6
  have HR6 := hid r6
  have HS6 := hid (show wo.heap.size ≤ w6.heap.size from by
   have h1 := HG6.out.size
   have h2 := ((Ext.refl w5).alloc (.cells #[.string S] 9)).size
   have h3 := HS5.out
   omega)
  have KT := hid (KT2.out _ _ r6)
  clear q6 r6 KT2 HNC HOX HZ HG6 HO6 HH6
  go_wp2_with fail
  refine KT.out.mono ?_
  rintro e w7 ⟨rfl, hs7⟩
  obtain ⟨nb7, e7, o7, n7⟩ := hs7.parts
  have HW7 := hid (HW6.out.go HR6.out e7 n7)
  have HO7 := hid o7
  have HS7 := hid (show wo.heap.size ≤ w7.heap.size ∧ w6.heap.size ≤ w7.heap.size from ⟨Nat.le_trans HS6.out e7.size, e7.size⟩)
  have KM7 := hid (KM.out _ _ o7 (by have := HW.out.old.2.1; have := HSZ.out; have := HS6.out; have := e7.size; omega))
  clear hs7 e7 o7 n7 KM KT
  go_wp2_with fail
  refine KM7.out.mono ?_
  rintro e w8 ⟨Z, nb8, hz, ⟨vA, vn, vc, rfl, hf8⟩, e8, o8, n8⟩
  have HW8 := hid (HW7.out.go HO7.out e8 n8)
  have HO8 := hid o8
  have HZZ := hid hz
  have HF8 := hid (show ∀ gp st, Z = .ok (gp, st) → FwS w8 (fun k => (w7.heap.size ≤ k ∧ some k ≠ nb8) ∧ k < w8.heap.size) gp (.slice vA vn vc) from fun gp st h => (hf8 gp st h).1.inQ)
  have HS8 := hid e8.size
  have KT8 := hid (KT3.out _ _ Z hz o8)
  clear hz hf8 e8 o8 n8 KM7 KT3
  go_wp2_with fail
  refine KT8.out.mono ?_
  rintro e w9 ⟨rfl, hs9⟩
  obtain ⟨nb9, e9, o9, n9⟩ := hs9.parts
  have HW9 := hid (HW8.out.go HO8.out e9 n9)
  have HO9 := hid o9
  have HF9 := hid (show ∀ gp st, Z = .ok (gp, st) → FwS w9 (fun k => w.heap.size ≤ k ∧ some k ≠ (Value.slice A m cc).ownBlock ∧ some k ≠ (Value.slice B6 (ks.length + 1) c6).ownBlock ∧ some k ≠ nb9) gp (.slice vA vn vc) from fun gp st h => by
   have hz1 := HSZ.out
   have hz2 := HS7.out
   refine (HF8.out gp st h).exc e9 (fun k hk hq => ?_) (fun k hk => ⟨?_, fun e0 => ?_, fun e0 => ?_, fun e0 => ?_⟩)
   ·rcases hq with hq | hq
    ·have := HLT.out; have := hk.1.1; omega
    ·exact hk.1.2 hq
   ·have := hk.1.1; omega
   ·have := (HW.out.own.lt _ e0.symm).2; have := hk.1.1; omega
   ·have := (HW6.out.key.lt _ e0.symm).2; have := hk.1.1; omega
   ·rcases n9 with h | h
    ·exact hk.1.2 (e0.trans h)
    ·have := h k e0.symm
     have := hk.2
     omega)
  have HS9 := hid (show w.heap.size ≤ (w9.alloc (.cells #[.string S, .slice vA vn vc] 52)).heap.size from Nat.le_trans (Nat.le_trans HSZ.out (Nat.le_trans HS7.out.1 (Nat.le_trans HS8.out e9.size))) ((Ext.refl w9).alloc (.cells #[.string S, .slice vA vn vc] 52)).size)
  have hbx9 := HW9.out.box
  have d4 := hbx9.cell 4 _ rfl
  have HAL := hid ((Ext.refl w9).alloc (.cells #[.string S, .slice vA vn vc] 52))
  have HNC := hid (new_cells w9 #[.string S, .slice vA vn vc] 52)
  have HOX := hid (own_ext HW9.out.own HAL.out)
  have HONE := hid (two_one (.string S : Value) (.slice vA vn vc) ⟨rfl, rfl⟩)
  have HNB := hid (show (Value.slice A m cc).ownBlock ≠ some bx from fun e => by have := (HW9.out.own.lt _ e).1; have := HW9.out.old.2.2.1; omega)
  have HBX9 := hid hbx9
  clear hbx9 hs9 e9 o9 n9 KT8
  go_wp2_with (first
   | (at_builtin; refine wpList_appN _ rfl _ _ 48 rfl w.heap.size 52 i0 _ 2 40 Tryz.underlying48 hi hz0 hz1 hz2 rfl (by decide) _ m _ rfl HOX.out ⟨w9.heap.size, 0, none⟩ 1 1 _ rfl rfl HNC.out HONE.out (by unfold maxLen; omega) (by omega) HS9.out ?_; intro v10 w10 hown10 hgrow10 hwh10; obtain ⟨A10, c10, hv10, _⟩ := own_slN hown10; subst hv10; have HO10 := hid hown10; have HG10 := hid hgrow10; have HH10 := hid hwh10; have hat10 := at_grownQ HBX9.out HNB.out HAL.out hgrow10; have g4 := hat10.cell 4 _ rfl; have f4 := frz_of hat10 4; clear hown10 hgrow10 hwh10 hat10))
  exact kq_go HY.out HLL.out HMM.out HMK.out HRD.out HZZ.out HW9.out HO9.out HF9.out HAL.out HG10.out HO10.out HH10.out
end Go.Proofs.YtpfmojeigjmlfaaGreatDoor
namespace Go.Proofs.YtpfmojeigjmlfaaGreatDoor
open Go.RowKit
def usW : List By := [[110, 117, 109, 98, 101, 114], [117, 110, 105, 116], [100, 97, 116, 101], [108, 105, 115, 116], [112, 108, 117, 114, 97, 108], [111, 114, 100, 105, 110, 97, 108], [115, 101, 108, 101, 99, 116]]
def ufN (s : By) : Nat → List By → Nat
 | _, [] => 0
 | n, x :: r => if s = x then n else ufN s (n + 1) r
def KdI (W0 : World) (s : By) (R : Nat) (i : Value) (wr : World) : Prop := ∃ k : Nat, k ≤ 7 ∧ i = .int .i64 k ∧ R = ufN s (3 + k) (usW.drop k) ∧ W0 = wr
def usV : Array Value := #[.string ⟨#[110, 117, 109, 98, 101, 114]⟩, .string ⟨#[117, 110, 105, 116]⟩, .string ⟨#[100, 97, 116, 101]⟩, .string ⟨#[108, 105, 115, 116]⟩, .string ⟨#[112, 108, 117, 114, 97, 108]⟩, .string ⟨#[111, 114, 100, 105, 110, 97, 108]⟩, .string ⟨#[115, 101, 108, 101, 99, 116]⟩]
theorem usV_get : ∀ (k : Nat) (h : k < usW.length), usV[k]? = some (.string ⟨usW[k].toArray⟩)
 | 0, _ => rfl
 | 1, _ => rfl
 | 2, _ => rfl
 | 3, _ => rfl
 | 4, _ => rfl
 | 5, _ => rfl
 | 6, _ => rfl
 | n + 7, h => absurd h (by show ¬ n + 7 < 7; omega)
set_option maxHeartbeats 2000000 in
theorem rkind26_any (s : By) (w : World) : Calls Tryz.prog 160 #[.string ⟨s.toArray⟩] w fun e w' => e = .returned (.int .i64 (useP s)) ∧ Ext w w' := by
 obtain ⟨R, hR⟩ : ∃ R, R = useP s := ⟨_, rfl⟩
 rw [← hR]
 obtain ⟨W0, hW0⟩ : ∃ W0, W0 = w.alloc (.cells usV 9) := ⟨_, rfl⟩
 have HX0 := hid (show Ext w W0 from by rw [hW0]; exact (Ext.refl w).alloc _)
 have HU := hid (show AtC 9 W0 w.heap.size usV from by rw [hW0]; exact AtC.new w _)
 have H0 := hid (show KdI W0 s R (.int .i64 0) W0 from ⟨0, Nat.zero_le _, rfl, hR, rfl⟩)
 unfold usV at hW0
 clear hR
 go_enter Tryz.func160, Tryz.ntmps160
 go_wp2_with fail
 rw [← hW0]
 clear hW0
 go_loopw [4] (KdI W0 s R) (fun i _ => 7 - (intOf i).toNat)
 case atStart => exact H0.out
 case round =>
  obtain ⟨k, hk, rfl, hr, rfl⟩ := hrel
  by_cases hkl : k < 7
  rotate_left
  ·have hkI : ¬ (k : Int) < 7 := by omega
   have hR0 : R = 0 := by rw [hr, List.drop_eq_nil_of_le (show usW.length ≤ k from by show 7 ≤ k; omega)]; rfl
   subst hR0
   clear hr
   go_wp2
   go_ret
   exact ⟨rfl, HX0.out⟩
  have hkI : (k : Int) < 7 := by omega
  have hkl2 : k < usW.length := hkl
  have hx : usW.drop k = usW[k] :: usW.drop (k + 1) := List.drop_eq_getElem_cons hkl2
  obtain ⟨x, hxk⟩ : ∃ x, x = usW[k] := ⟨_, rfl⟩
  have hc : W0.cell? ⟨w.heap.size, k, none⟩ = some (.string ⟨x.toArray⟩) := by
   refine HU.out.cell k _ ?_
   rw [hxk]
   exact usV_get k hkl2
  rw [hx, ← hxk, ufN] at hr
  clear hx hxk hkl2
  cases q : (x == s)
  ·have HR := hid (show R = ufN s (3 + (k + 1)) (usW.drop (k + 1)) from by
    rw [hr, if_neg (fun e => by rw [e] at q; simp at q)]; rfl)
   clear hr
   go_wp2
   exact ⟨⟨k + 1, hkl, by go_num, HR.out, rfl⟩, by simp [intOf]; omega⟩
  ·have hR1 : R = 3 + k := by
    rw [hr, if_pos (by simpa using (beq_iff_eq.1 q).symm)]
   have HR1 := hid hR1
   clear hr hR1
   go_wp2
   go_ret
   exact ⟨by rw [HR1.out]; go_num, HX0.out⟩
end Go.Proofs.YtpfmojeigjmlfaaGreatDoor
namespace Go.Proofs.YtpfmojeigjmlfaaGreatDoor
open Go.RowKit
structure UqW (w : World) (g tb bx : Nat) (nb nb' : Option Nat) (k : Int) (NM ST : ByteArray) (cv : Value) (W : World) : Prop where
 box : AtC 50 W bx #[.int .i64 k, .string ⟨#[]⟩, .string NM, .string ST, cv, .slice none 0 0]
 exc : Exc (fun j => qB g nb j ∨ j = bx) w W
 nbb : nb' = nb ∨ ∀ j, nb' = some j → w.heap.size ≤ j
 old : g < w.heap.size ∧ tb < w.heap.size ∧ bx < w.heap.size ∧ bx ≠ g ∧ bx ≠ tb ∧ nb ≠ some bx
section
variable {w W W' : World} {g tb bx E : Nat} {nb nb1 nb2 : Option Nat} {k k' : Int} {NM ST ST' : ByteArray} {cv cv' : Value} {X : Except Err St}
theorem UqW.bq (h : UqW w g tb bx nb nb1 k NM ST cv W) : ¬ qB g nb1 bx := fun e => by
 obtain ⟨o1, o2, o3, o4, o5, o6⟩ := h.old
 rcases e with e | e
 ·exact o4 e
 ·rcases h.nbb with hn | hn
  ·exact o6 (by rw [← hn, e])
  ·have := hn bx e.symm
   omega
theorem UqW.cas (h : UqW w g tb bx nb nb1 k NM ST cv W) (hS : Exc (fun j => qB g nb1 j ∨ j = bx) W W') (hb : AtC 50 W' bx #[.int .i64 k', .string ⟨#[]⟩, .string NM, .string ST', cv', .slice none 0 0]) (hn : nb2 = nb1 ∨ ∀ j, nb2 = some j → W.heap.size ≤ j) : UqW w g tb bx nb nb2 k' NM ST' cv' W' := by
 refine ⟨hb, exc_newQ ((excMono h.exc fun j e => .inl e).trans (excMono hS fun j e => ?_)), nb_step h.nbb hn h.exc.size, h.old⟩
 rcases e with (e | e) | e
 ·exact .inl (.inl (.inl e))
 ·rcases h.nbb with h' | h'
  ·exact .inl (.inl (.inr (by rw [e, h'])))
  ·exact .inr (h' j e.symm)
 ·exact .inl (.inr e)
theorem UqW.go (h : UqW w g tb bx nb nb1 k NM ST cv W) (hS : Exc (qB g nb1) W W') (hn : nb2 = nb1 ∨ ∀ j, nb2 = some j → W.heap.size ≤ j) : UqW w g tb bx nb nb2 k NM ST cv W' := h.cas (excMono hS fun j e => .inl e) (h.box.exc hS h.bq) hn
theorem UqW.set (h : UqW w g tb bx nb nb1 k NM ST cv W) (hO : RqO g tb nb1 E W X) (hs : Exc (fun j => j = bx) W W') (hb : AtC 50 W' bx #[.int .i64 k', .string ⟨#[]⟩, .string NM, .string ST', cv', .slice none 0 0]) : UqW w g tb bx nb nb1 k' NM ST' cv' W' ∧ RqO g tb nb1 E W' X := by
 obtain ⟨o1, o2, o3, o4, o5, o6⟩ := h.old
 exact ⟨h.cas (excMono hs fun j e => .inr e) hb (.inl rfl), hO.exc hs (fun e => o4 e.symm) (fun e => o5 e.symm) (fun j hj e => h.bq (.inr (by rw [← e, hj])))⟩
theorem rpeekX (h : RqO g tb nb E w X) : ∃ T : Tok, (∀ st, X = .ok st → T = hdT E st.left) ∧ T.t.length ≤ 4000 ∧ ∀ W, Ext w W → Calls Tryz.prog 114 #[.pointer (some ⟨g, 0, none⟩)] W fun e w' => e = .returned (.agg #[.int .i64 T.k, .string ⟨T.t.toArray⟩, .int .i64 T.a, .int .i64 T.b]) ∧ Ext W w' := by
 obtain ⟨l, ns, a, e, hb, hw, hok, _⟩ := h.any
 refine ⟨hdT E l, fun st hs => by rw [(hok st hs).1], ?_, fun W hx => rpeek_any (hw.ext hx) hb.len hb.e4⟩
 rcases l with _ | ⟨t, r⟩
 ·exact Nat.zero_le _
 ·exact (hb.tok t List.mem_cons_self).1
end
def RetUQ (g tb bx : Nat) (nb : Option Nat) (w : World) (E : Nat) (NM : ByteArray) (Y : Except Err (F × St)) (e : Ending) (w' : World) : Prop :=
 ∃ nb' k ST A n cc Z, e = .returned (.tuple #[]) ∧ UqW w g tb bx nb nb' k NM ST (.slice A n cc) w' ∧ RqO g tb nb' E w' Z ∧ Z.bind (takeX E 3) = Y.map (·.2) ∧
   ∀ f st, Y = .ok (f, st) → ∃ gg, f = .one k [] NM.data.toList ST.data.toList gg .nil ∧ CwS w' (fun j => w.heap.size ≤ j ∧ some j ≠ nb') gg (.slice A n cc)
def UseQ (N : Nat) : Prop := ∀ (g tb bx : Nat) (nb : Option Nat) (E : Nat) (l : List Tok) (n1 : List By) (d : Nat) (c : Bool) (NM : ByteArray) (w : World), RqO g tb nb E w (.ok ⟨l, n1⟩) → tb < w.heap.size →
 AtC 50 w bx #[.int .i64 2, .string ⟨#[]⟩, .string NM, .string ⟨#[]⟩, .slice none 0 0, .slice none 0 0] → bx ≠ g → bx ≠ tb → nb ≠ some bx → l.length < N → d ≤ 8 →
 Calls Tryz.prog 144 #[.pointer (some ⟨g, 0, none⟩), .pointer (some ⟨bx, 0, none⟩), .int .i64 ((d : Int) + 1), .bool c] w (RetUQ g tb bx nb w E NM (useC E d c NM.data.toList n1 l))
def SplU (E d : Nat) (c : Bool) (nm : By) (n1 : List By) (l : List Tok) (X : Except Err St) : Prop := (∃ e, X.bind (wrdX E useB) = .error e ∧ useC E d c nm n1 l = .error e) ∨
 ∃ u q, l = u :: q ∧ X = .ok ⟨u :: q, n1⟩ ∧ u.k = 9 ∧ useP u.t ≠ 0 ∧ (selB (useP u.t) = true → d < 8)
theorem spl_no {E d : Nat} {c : Bool} {nm : By} {n1 : List By} {l : List Tok} (h : ¬ ((hdT E l).k = 9 ∧ selB (useP (hdT E l).t) = true)) : SplU E d c nm n1 l (.ok ⟨l, n1⟩) := by
 rcases l with _ | ⟨u, q⟩
 ·exact .inl ⟨(3, E), rfl, rfl⟩
 ·by_cases hu : u.k = 9 ∧ ¬ useP u.t = 0
  ·exact .inr ⟨u, q, rfl, rfl, hu.1, hu.2, fun hs => absurd ⟨hu.1, hs⟩ h⟩
  ·refine .inl ⟨(3, u.a), ?_, by rw [useC, if_neg hu]⟩
   show Except.map _ (if u.k = 9 ∧ useB u.t = true then .ok (u.t, q) else .error (3, u.a)) = _
   rw [if_neg (fun e => hu ⟨e.1, by have := e.2; unfold useB at this; exact bne_iff_ne.1 this⟩)]
   rfl
theorem sel_ne {k : Nat} (h : selB k = true) : k ≠ 0 := by rintro rfl; exact absurd h (by decide)
theorem spl_deep {E d : Nat} {c : Bool} {nm : By} {n1 : List By} {l : List Tok} (h : (hdT E l).k = 9 ∧ selB (useP (hdT E l).t) = true) : SplU E d c nm n1 l ((Except.ok ⟨l, n1⟩ : Except Err St).bind (deepX E (d + 1))) := by
 rcases l with _ | ⟨u, q⟩
 ·exact absurd (show (0 : Nat) = 9 from h.1) (by decide)
 ·have h1 : u.k = 9 := h.1
  have h2 : selB (useP u.t) = true := h.2
  by_cases hd : d < 8
  ·refine .inr ⟨u, q, rfl, if_neg (by omega), h1, sel_ne h2, fun _ => hd⟩
  ·have e1 : (Except.ok ⟨u :: q, n1⟩ : Except Err St).bind (deepX E (d + 1)) = .error (6, u.a) := if_pos (by omega)
   refine .inl ⟨(6, u.a), by rw [e1]; rfl, ?_⟩
   rw [useC, if_pos ⟨h1, sel_ne h2⟩, useK, if_pos h2, if_neg hd]
theorem sel_int (k : Nat) : ((k : Int) == 7 || (k : Int) == 8 || (k : Int) == 9) = selB k := by
 unfold selB
 rw [Bool.eq_iff_iff]
 simp only [Bool.or_eq_true, beq_iff_eq]
 omega
def CqU (g tb : Nat) (nb : Option Nat) (E d : Nat) (c : Bool) (nm : By) (n1 : List By) (l : List Tok) (w4 wr : World) : Prop := ∃ nb' X, Exc (qB g nb) w4 wr ∧ RqO g tb nb' E wr X ∧ (nb' = nb ∨ ∀ k, nb' = some k → w4.heap.size ≤ k) ∧ (∀ st, X = .ok st → st = ⟨l, n1⟩) ∧ SplU E d c nm n1 l X
theorem uq_style {w w11 : World} {g tb bx E kd d : Nat} {nb nb11 : Option Nat} {NM : ByteArray} {X6 : Except Err St} {P : By → Bool} {u : Tok} {q : List Tok} {n1 : List By} {c : Bool} (hu : UqW w g tb bx nb nb11 kd NM ⟨#[]⟩ (.slice none 0 0) w11) (ho : RqO g tb nb11 E w11 (X6.bind (wrdX E P)))
 (hkd : kd = useP u.t) (hs : selB kd = false) (h3 : kd = 3 → kindL q = 8) (hP : (if kd = 3 then numStyleB else if kd = 5 then skelB else nameB) = P) (h6 : X6 = (Except.ok ⟨q, n1⟩ : Except Err St).bind (takeX E 8)) (hUC : useC E d c NM.data.toList n1 (u :: q) = useK E d c NM.data.toList n1 u q) :
 RetUQ g tb bx nb w E NM (useC E d c NM.data.toList n1 (u :: q)) (.returned (.tuple #[])) (w11.setCell ⟨bx, 3, none⟩ (.string (wrdS P X6))) := by
 subst hkd
 obtain ⟨h1, h2⟩ := use_style (d := d) (c := c) (nm := NM.data.toList) hs h3 hP h6
 obtain ⟨hu2, ho2⟩ := hu.set ho (exc_q 3 _) (at_six3 (b3 := .string (wrdS P X6)) hu.box)
 rw [hUC]
 exact ⟨nb11, _, _, none, 0, 0, _, rfl, hu2, ho2, h1.symm, fun f st h => ⟨.nil, h2 f st h, CwS.nil _ _⟩⟩
set_option maxHeartbeats 16000000 in
theorem ruse (N : Nat) (hK : CasQ N) : UseQ N := by
 intro g tb bx nb E l n1 d c NM w h htb hbx hbg hbt hbn hl hd
 obtain ⟨T, hT⟩ : ∃ T, T = hdT E l := ⟨_, rfl⟩
 have KP := hid (fun W nb' (h : RqO g tb nb' E W (.ok ⟨l, n1⟩)) => (show Calls Tryz.prog 114 #[.pointer (some ⟨g, 0, none⟩)] W fun e w' => e = .returned (.agg #[.int .i64 T.k, .string ⟨T.t.toArray⟩, .int .i64 T.a, .int .i64 T.b]) ∧ Ext W w' from by
  obtain ⟨hb, _, a, hw⟩ := h
  have h2 := rpeek_any hw hb.len hb.e4
  rw [show hdT E (⟨l, n1⟩ : St).left = T from hT.symm] at h2
  exact h2))
 have HT := hid hT
 obtain ⟨kd, hkd⟩ : ∃ kd, kd = useP T.t := ⟨_, rfl⟩
 have KK := hid (fun W => rkind26_any T.t W)
 rw [← hkd] at KK
 have HKD := hid hkd
 have HU := hid (show UqW w g tb bx nb nb 2 NM ⟨#[]⟩ (.slice none 0 0) w from ⟨hbx, Exc.refl _ _, .inl rfl, ⟨h.lt, htb, hbx.lt, hbg, hbt, hbn⟩⟩)
 have HO := hid h
 have hfd0 := tokF0
 have hfd1 := tokF1
 have HL := hid hl
 clear h htb hbx hbg hbt hbn hT hkd hl
 go_enter Tryz.func144, Tryz.ntmps144
 go_upto_region 1 with (first
  | (go_at_call 114; (with_reducible refine (KP.out _ _ HO.out).mono ?_); rintro e w2 ⟨rfl, hx2⟩; have HX2 := hid hx2; clear hx2)
  | (go_at_call 160; (with_reducible refine (KK.out _).mono ?_); rintro e w3 ⟨rfl, hx3⟩; have HX3 := hid (HX2.out.trans hx3); have y0 := (HU.out.box.ext HX3.out).cell 0 _ rfl; have f0 := frz_of (HU.out.box.ext HX3.out) 0; clear hx3))
 obtain ⟨w4, hw4⟩ : ∃ w4, w4 = w3.setCell ⟨bx, 0, none⟩ (.int .i64 kd) := ⟨_, rfl⟩
 rw [← hw4]
 obtain ⟨q4, r4⟩ := (HU.out.go (Exc.of_ext HX3.out) (.inl rfl)).set (HO.out.ext HX3.out) (W' := w4) (k' := kd) (ST' := ⟨#[]⟩) (cv' := .slice none 0 0) (by rw [hw4]; exact exc_q 0 _) (by rw [hw4]; exact at_six0 (HU.out.box.ext HX3.out))
 have HU4 := hid q4
 have HO4 := hid r4
 clear hw4 y0 f0 q4 r4
 obtain ⟨bq, hbq⟩ : ∃ bq, bq = (T.k == 9 && selB kd) := ⟨_, rfl⟩
 have HBQ := hid hbq
 have KS := hid (fun W => rsel26_any kd W)
 rw [sel_int] at KS
 clear hbq
 go_cut [26] (BWr bq w4)
 case first =>
  by_cases h9 : T.k = 9
  ·have b9 : ((T.k : Int) == 9) = true := by rw [h9]; rfl
   have HB2 := hid (show bq = selB kd from by rw [HBQ.out, h9]; rfl)
   clear h9
   go_wp2_with (first
    | (go_at_call 114; (with_reducible refine (KP.out _ _ HO4.out).mono ?_); rintro e w5 ⟨rfl, hx5⟩; have HX5 := hid hx5; have y0 := (HU4.out.box.ext HX5.out).cell 0 _ rfl; clear hx5)
    | (go_at_call 43; (with_reducible refine (KS.out _).mono ?_); rintro e w6 ⟨rfl, rfl⟩))
   go_meet
   exact ⟨by rw [HB2.out], HX5.out⟩
  ·have b9 : ((T.k : Int) == 9) = false := by rw [beq_eq_false_iff_ne]; omega
   have HB2 := hid (show bq = false from by rw [HBQ.out, beq_eq_false_iff_ne.2 h9]; rfl)
   clear h9
   go_wp2_with (first
    | (go_at_call 114; (with_reducible refine (KP.out _ _ HO4.out).mono ?_); rintro e w5 ⟨rfl, hx5⟩; have HX5 := hid hx5; clear hx5))
   go_meet
   exact ⟨by rw [HB2.out], HX5.out⟩
 case rest =>
 obtain ⟨rfl, hxc⟩ := hcut
 obtain ⟨w5, hw5⟩ : ∃ w5 : World, w5 = wc := ⟨_, rfl⟩
 rw [← hw5] at hxc
 have HX5 := hid hxc
 clear hxc
 go_upto_if 26 with (fail)
 rw [← hw5]
 clear hw5
 go_cut [] (CqU g tb nb E d c NM.data.toList n1 l w4)
 case first =>
  cases hbq : bq
  ·have HS := hid (show SplU E d c NM.data.toList n1 l (.ok ⟨l, n1⟩) from spl_no (fun hh => by
    have h := HBQ.out
    rw [hbq, HKD.out, HT.out, hh.1, hh.2] at h
    exact absurd h (by decide)))
   clear hbq HBQ
   go_wp2_with fail
   go_meet
   exact ⟨nb, _, Exc.of_ext HX5.out, HO4.out.ext HX5.out, .inl rfl, fun st h => (by injection h with h; exact h.symm), HS.out⟩
  ·have HS := hid (show SplU E d c NM.data.toList n1 l ((Except.ok ⟨l, n1⟩ : Except Err St).bind (deepX E (d + 1))) from spl_deep (by
    have h := HBQ.out
    rw [hbq, HKD.out, HT.out] at h
    simpa using h.symm))
   have KD := hid (show Calls Tryz.prog 117 #[.pointer (some ⟨g, 0, none⟩), .int .i64 ((d : Int) + 1)] w5 _ from rdeep_any (X := .ok ⟨l, n1⟩) (d + 1) (HO4.out.ext HX5.out) (by omega))
   clear hbq HBQ
   go_wp2_with fail
   refine KD.out.mono ?_
   rintro e w6 ⟨rfl, hs6⟩
   obtain ⟨nb6, e6, o6, n6⟩ := (RqS.back HX5.out hs6).parts
   have HQ := hid (show CqU g tb nb E d c NM.data.toList n1 l w4 w6 from ⟨nb6, _, e6, o6, n6, fun st h => (by
    obtain ⟨y, h1, h2⟩ := bind_ok.1 h
    injection h1 with h1
    subst h1
    unfold deepX at h2
    split at h2
    ·cases h2
    ·injection h2 with h2
     exact h2.symm), HS.out⟩)
   clear hs6 e6 o6 n6
   go_wp2
   go_meet
   exact HQ.out
 case rest =>
 obtain ⟨nb6, X, e6, o6, n6, hXl, hspl⟩ := hcut
 obtain ⟨w6, hw6⟩ : ∃ w6 : World, w6 = wc := ⟨_, rfl⟩
 rw [← hw6] at e6 o6
 have HU6 := hid (HU4.out.go e6 n6)
 have HS6 := hid (show w.heap.size ≤ w6.heap.size from HU6.out.exc.size)
 have HSPL := hid hspl
 have y0 := HU6.out.box.cell 0 _ rfl
 have KW := hid (rword_any useB ((kd : Int) != 0) o6 (fun t r ns e _ => by
  have h := hXl _ e
  injection h with h _
  unfold useB
  rw [HKD.out, HT.out, ← h]
  show ((useP t.t : Int) != 0) = (useP t.t != 0)
  rw [Bool.eq_iff_iff, bne_iff_ne, bne_iff_ne]
  omega))
 clear e6 o6 n6 hspl
 go_upto_region 3 with (fail)
 rw [← hw6]
 clear hw6
 go_upto_region 4 with (go_at_call 159; refine KW.out.mono ?_; rintro e w7 ⟨rfl, hs7⟩)
 obtain ⟨nb7, e7, o7, n7⟩ := hs7.parts
 have HU7 := hid (HU6.out.go e7 n7)
 have HO7 := hid o7
 have c4 := o7.cell4
 clear hs7 e7 o7 n7 KW y0
 rcases HSPL.out with ⟨er, h1, h2⟩ | ⟨u, q, hlq, hX, hu9, hun, hus⟩
 ·rw [h1] at HO7 c4
  have b4 : (er.1 == 0) = false := by rw [beq_eq_false_iff_ne]; exact HO7.out.ne
  have b4n : (er.1 != 0) = true := by rw [bne, b4]; rfl
  replace c4 : w7.cell? ⟨g, 4, none⟩ = some (.int .i64 er.1) := c4
  have H2 := hid h2
  clear h1 h2
  go_wp2
  go_end0
  rw [H2.out]
  exact ⟨nb7, kd, ⟨#[]⟩, none, 0, 0, .error er, rfl, HU7.out, HO7.out, rfl, fun f st h => (by cases h)⟩
 subst hlq
 subst hX
 obtain rfl : T = u := HT.out
 have hub : useB T.t = true := by unfold useB; exact bne_iff_ne.2 hun
 rw [(wrd_ok (E := E) (r := q) (ns := n1) (P := useB) hu9 hub).1] at HO7 c4
 replace c4 : w7.cell? ⟨g, 4, none⟩ = some (.int .i64 0) := c4
 have HSEL := hid (show selB kd = true → d < 8 from by rw [HKD.out]; exact hus)
 have HUC := hid (show useC E d c NM.data.toList n1 (T :: q) = useK E d c NM.data.toList n1 T q from by rw [useC, if_pos ⟨hu9, hun⟩])
 have y0 := HU7.out.box.cell 0 _ rfl
 have KT := hid (fun W (hx : Ext w7 W) => rtake_any 8 (by decide) (HO7.out.ext hx))
 obtain ⟨X6, hX6⟩ : ∃ X6, X6 = (Except.ok ⟨q, n1⟩ : Except Err St).bind (takeX E 8) := ⟨_, rfl⟩
 rw [← hX6] at KT
 have HX6 := hid hX6
 have KP7 := hid (fun W (hx : Ext w7 W) => (show Calls Tryz.prog 114 #[.pointer (some ⟨g, 0, none⟩)] W fun e w' => e = .returned (.agg #[.int .i64 (hdT E q).k, .string ⟨(hdT E q).t.toArray⟩, .int .i64 (hdT E q).a, .int .i64 (hdT E q).b]) ∧ Ext W w' from by
  obtain ⟨hb, _, a, hw⟩ := HO7.out.ext hx
  exact rpeek_any hw hb.len hb.e4))
 have HQK := hid (hdT_k E q)
 generalize hdT E q = T7 at KP7 HQK
 have HLQ := hid (show q.length < N from by have := HL.out; rw [List.length_cons] at this; omega)
 have HUN := hid (show kd ≠ 0 from by rw [HKD.out]; exact hun)
 clear hub hu9 hun hus hX6 KP KK HX2 HX3 HX5 KS
 have HKN := hid (show kd = 3 ∨ kd = 4 ∨ kd = 5 ∨ kd = 6 ∨ selB kd = true from by
  rcases useP_cases T.t with h | h | h | h | h | h | h | h <;> rw [← HKD.out] at h
  ·exact absurd h HUN.out
  ·exact .inl h
  ·exact .inr (.inl h)
  ·exact .inr (.inr (.inl h))
  ·exact .inr (.inr (.inr (.inl h)))
  ·exact .inr (.inr (.inr (.inr (by rw [h]; rfl))))
  ·exact .inr (.inr (.inr (.inr (by rw [h]; rfl))))
  ·exact .inr (.inr (.inr (.inr (by rw [h]; rfl)))))
 by_cases hsel : selB kd = true
 ·have HS := hid hsel
  have hk : kd = 7 ∨ kd = 8 ∨ kd = 9 := by
   unfold selB at hsel
   simp only [Bool.or_eq_true, beq_iff_eq] at hsel
   omega
  have HKK := hid hk
  have b3 : ((kd : Int) == 3) = false := by rw [beq_eq_false_iff_ne]; omega
  have b4 : ((kd : Int) == 4) = false := by rw [beq_eq_false_iff_ne]; omega
  have b5 : ((kd : Int) == 5) = false := by rw [beq_eq_false_iff_ne]; omega
  have b6 : ((kd : Int) == 6) = false := by rw [beq_eq_false_iff_ne]; omega
  have hd8 := HSEL.out hsel
  clear hsel hk
  go_upto_region 7 with (go_at_call 116; refine (KT.out _ (Ext.refl _)).mono ?_; rintro e w8 ⟨rfl, hs8⟩)
  obtain ⟨nb8, e8, o8, n8⟩ := hs8.parts
  have HU8 := hid (HU7.out.go e8 n8)
  have HO8 := hid o8
  obtain ⟨T8, _, _, hp8⟩ := rpeekX o8
  have KP8 := hid (hp8 _ (Ext.refl _))
  clear hs8 e8 o8 n8 hp8 y0 c4 KT KP7
  have HCN := hid (show c = true ∨ (c || kd != 9) = (kd != 9) from by cases c; exact .inr rfl; exact .inl rfl)
  have HN6 := hid (show ∀ st, X6 = .ok st → st.left.length < N ∧ d ≤ 7 from fun st hst => by
   have h1 := takeX_len (E := E) (k := 8) (st := ⟨q, n1⟩) (st' := st) (by rw [hst] at HX6; exact HX6.out.symm)
   have h2 := HLQ.out
   have h3 : st.left.length < q.length := h1
   exact ⟨by omega, by omega⟩)
  obtain ⟨Y, hYc⟩ : ∃ Y, Y = X6.bind (casC E kd d (c || kd != 9) []) := ⟨_, rfl⟩
  have KC := hid (fun W (hx : Ext w8 W) => (show Calls Tryz.prog 161 #[.pointer (some ⟨g, 0, none⟩), .pointer (some ⟨bx, 0, none⟩), .int .i64 ((d : Int) + 1), .bool (c || kd != 9)] W (RetKQ g tb bx nb8 W E kd NM Y) from by
   have o := HU8.out.old
   have h1 := HU8.out.exc.size
   have h2 := hx.size
   rw [hYc]
   exact hK g tb bx nb8 E X6 kd d (c || kd != 9) NM W (HO8.out.ext hx) (by omega) (HU8.out.box.ext hx) o.2.2.2.1 o.2.2.2.2.1 (fun e => HU8.out.bq (.inr e.symm)) HN6.out (by omega)))
  obtain ⟨u1, u2⟩ := use_sel (c := c) (nm := NM.data.toList) (show selB (useP T.t) = true from by rw [← HKD.out]; exact HS.out) hd8 HX6.out (Y := Y) (by rw [hYc, HKD.out])
  have HU1 := hid u1
  have HU2 := hid u2
  clear hYc u1 u2
  have KCT := hid (fun W => rcnt26_any kd W)
  rw [show (((kd : Int) == 7) || ((kd : Int) == 8)) = (kd != 9) from by
   have h := HKK.out
   rcases h with h | h | h <;> rw [h] <;> rfl] at KCT
  go_upto_region 8 with (go_at_call 114; refine KP8.out.mono ?_; rintro e w9 ⟨rfl, hx9⟩)
  have HX9 := hid hx9
  have y0 := (HU8.out.box.ext hx9).cell 0 _ rfl
  clear hx9 KP8
  have HEND := hid (show ∀ e w', RetKQ g tb bx nb8 w9 E kd NM Y e w' → e = .returned (.tuple #[]) ∧ RetUQ g tb bx nb w E NM (useC E d c NM.data.toList n1 (T :: q)) (.returned (.tuple #[])) w' from fun e w' ⟨nb10, A, n, cc, he, hb, hf, hx, ho, hn⟩ => by
   have hu := (HU8.out.go (Exc.of_ext HX9.out) (.inl rfl)).cas hx hb hn
   rw [HUC.out]
   refine ⟨he, nb10, kd, ⟨#[]⟩, A, n, cc, _, rfl, hu, ho, HU1.out.symm, fun f st h => ?_⟩
   obtain ⟨gg, st2, h1, h2⟩ := HU2.out f st h
   refine ⟨gg, ?_, (hf gg st2 h1).exc (Exc.refl (fun _ => False) w') (fun _ _ h => h) (fun k hk => ⟨Nat.le_trans (Nat.le_trans HU8.out.exc.size HX9.out.size) hk.1, hk.2⟩)⟩
   rw [h2, HKD.out])
  cases c
  ·go_wp2_with (first
    | (go_at_call 61; (with_reducible refine (KCT.out _).mono ?_); rintro e w10 ⟨rfl, rfl⟩)
    | (go_at_call 161; refine (KC.out _ HX9.out).mono ?_; intro e w11 hr; obtain ⟨rfl, hr2⟩ := HEND.out e w11 hr; have HR2 := hid hr2; clear hr hr2))
   go_end0
   exact HR2.out
  ·go_wp2_with (first
    | (go_at_call 161; refine (KC.out _ HX9.out).mono ?_; intro e w11 hr; obtain ⟨rfl, hr2⟩ := HEND.out e w11 hr; have HR2 := hid hr2; clear hr hr2))
   go_end0
   exact HR2.out
 have HSF := hid (show selB kd = false from by cases h : selB kd; rfl; exact absurd h hsel)
 have HKK := hid (show kd = 3 ∨ kd = 4 ∨ kd = 5 ∨ kd = 6 from by
  rcases HKN.out with h | h | h | h | h
  ·exact .inl h
  ·exact .inr (.inl h)
  ·exact .inr (.inr (.inl h))
  ·exact .inr (.inr (.inr h))
  ·exact absurd h hsel)
 clear hsel HSEL
 by_cases hbare : kd = 3 ∧ ¬ T7.k = 8
 ·obtain ⟨h3, h8⟩ := hbare
  have b3 : ((kd : Int) == 3) = true := by rw [h3]; rfl
  have b8 : ((T7.k : Int) == 8) = false := by rw [beq_eq_false_iff_ne]; omega
  have b8n : ((T7.k : Int) != 8) = true := by rw [bne, b8]; rfl
  obtain ⟨u1, u2⟩ := use_bare (E := E) (d := d) (c := c) (nm := NM.data.toList) (n1 := n1) (u := T) (q := q) (by rw [← HKD.out]; exact h3) (by rw [← HQK.out]; exact h8)
  have HU1 := hid u1
  have HU2 := hid u2
  have H3 := hid h3
  clear h3 h8 u1 u2
  go_wp2_with (first | (go_at_call 114; (with_reducible refine (KP7.out _ (Ext.refl _)).mono ?_); rintro e w8 ⟨rfl, hx8⟩; have HX8 := hid hx8; clear hx8))
  go_end0
  rw [HUC.out]
  exact ⟨nb7, kd, ⟨#[]⟩, none, 0, 0, _, rfl, HU7.out.go (Exc.of_ext HX8.out) (.inl rfl), HO7.out.ext HX8.out, HU1.out.symm, fun f st h => ⟨.nil, by rw [HU2.out f st h, H3.out]; rfl, CwS.nil _ _⟩⟩
 have HT8 := hid (show kd = 3 → T7.k = 8 from fun h => by
  by_cases h8 : T7.k = 8
  ·exact h8
  ·exact absurd ⟨h, h8⟩ hbare)
 clear hbare
 have HX8 := hid (Ext.refl w7)
 by_cases h3 : kd = 3
 ·have b3 : ((kd : Int) == 3) = true := by rw [h3]; rfl
  have b8 : ((T7.k : Int) == 8) = true := by rw [HT8.out h3]; rfl
  have b8n : ((T7.k : Int) != 8) = false := by rw [bne, b8]; rfl
  have HPP := hid (show (if kd = 3 then numStyleB else if kd = 5 then skelB else nameB) = numStyleB from if_pos h3)
  clear h3
  have HK3 := hid (show kd = 3 → kindL q = 8 from fun h => by rw [← HQK.out]; exact HT8.out h)
  go_upto_region 7 with (first
   | (go_at_call 114; (with_reducible refine (KP7.out _ (Ext.refl _)).mono ?_); rintro e w8 ⟨rfl, hx8⟩; have HX8 := hid hx8; clear hx8)
   | (go_at_call 116; refine (KT.out _ HX8.out).mono ?_; rintro e w9 ⟨rfl, hs9⟩))
  obtain ⟨nb9, e9, o9, n9⟩ := (RqS.back HX8.out hs9).parts
  have HU9 := hid (HU7.out.go e9 n9)
  have HO9 := hid o9
  obtain ⟨T9, hT9, hz9, hp9⟩ := rpeekX o9
  obtain ⟨TB, hTB⟩ : ∃ TB : ByteArray, TB = ⟨T9.t.toArray⟩ := ⟨_, rfl⟩
  rw [← hTB] at hp9
  have hTD : TB.data.toList = T9.t := by rw [hTB]
  have KP9 := hid (hp9 _ (Ext.refl _))
  have hPk : ∀ t r ns, X6 = .ok ⟨t :: r, ns⟩ → t.k = 9 → numStyleB TB.data.toList = numStyleB t.t := fun t r ns e _ => by rw [hTD, hT9 _ e]; rfl
  have KW := hid (fun W (hx : Ext w9 W) => rword_any numStyleB (numStyleB TB.data.toList) (HO9.out.ext hx) hPk)
  have hTs : TB.size ≤ 4000 := by rw [hTB]; exact hz9
  obtain ⟨Xw, hXw⟩ : ∃ Xw, Xw = X6.bind (wrdX E numStyleB) := ⟨_, rfl⟩
  obtain ⟨ST, hST⟩ : ∃ ST, ST = wrdS numStyleB X6 := ⟨_, rfl⟩
  rw [← hXw, ← hST] at KW
  have HXw := hid hXw
  have HST := hid hST
  clear hs9 e9 o9 n9 hp9 y0 c4 KT KP7 hT9 hz9 hTB hTD hPk hXw hST
  go_upto_region 8 with (go_at_call 114; refine KP9.out.mono ?_; rintro e w10 ⟨rfl, hx10⟩)
  have HX10 := hid hx10
  have y0 := (HU9.out.box.ext hx10).cell 0 _ rfl
  clear hx10 KP9
  have HF := hid (show numStyleB TB.data.toList = (TB.toList == [105, 110, 116, 101, 103, 101, 114] || TB.toList == [112, 101, 114, 99, 101, 110, 116]) from by rw [ByteArray.toList_eq]; rfl)
  generalize numStyleB TB.data.toList = R at HF KW
  by_cases c0 : TB.toList = [105, 110, 116, 101, 103, 101, 114]
  ·have b0 : (TB.toList == [105, 110, 116, 101, 103, 101, 114]) = true := by rw [beq_iff_eq]; exact c0
   obtain rfl : R = true := by rw [HF.out, b0]; rfl
   clear c0 HF
   go_wp2_with (go_at_call 159; refine (KW.out _ HX10.out).mono ?_; rintro e w11 ⟨rfl, hs11⟩; obtain ⟨nb11, e11, o11, n11⟩ := (RqS.back HX10.out hs11).parts; have HU11 := hid (HU9.out.go e11 n11); have HO11 := hid o11; have y3 := HU11.out.box.cell 3 _ rfl; have f3 := frz_of HU11.out.box 3; clear hs11 e11 o11 n11)
   go_end0
   rw [HST.out]
   exact uq_style HU11.out (by rw [← HXw.out]; exact HO11.out) HKD.out HSF.out HK3.out HPP.out HX6.out HUC.out
  have b0 : (TB.toList == [105, 110, 116, 101, 103, 101, 114]) = false := by rw [beq_eq_false_iff_ne]; exact c0
  cases hb1 : (TB.toList == [112, 101, 114, 99, 101, 110, 116])
  ·obtain rfl : R = false := by rw [HF.out, b0, hb1]; rfl
   clear c0 HF
   go_wp2_with (go_at_call 159; refine (KW.out _ HX10.out).mono ?_; rintro e w11 ⟨rfl, hs11⟩; obtain ⟨nb11, e11, o11, n11⟩ := (RqS.back HX10.out hs11).parts; have HU11 := hid (HU9.out.go e11 n11); have HO11 := hid o11; have y3 := HU11.out.box.cell 3 _ rfl; have f3 := frz_of HU11.out.box 3; clear hs11 e11 o11 n11)
   go_end0
   rw [HST.out]
   exact uq_style HU11.out (by rw [← HXw.out]; exact HO11.out) HKD.out HSF.out HK3.out HPP.out HX6.out HUC.out
  ·obtain rfl : R = true := by rw [HF.out, b0, hb1]; rfl
   clear c0 HF
   go_wp2_with (go_at_call 159; refine (KW.out _ HX10.out).mono ?_; rintro e w11 ⟨rfl, hs11⟩; obtain ⟨nb11, e11, o11, n11⟩ := (RqS.back HX10.out hs11).parts; have HU11 := hid (HU9.out.go e11 n11); have HO11 := hid o11; have y3 := HU11.out.box.cell 3 _ rfl; have f3 := frz_of HU11.out.box 3; clear hs11 e11 o11 n11)
   go_end0
   rw [HST.out]
   exact uq_style HU11.out (by rw [← HXw.out]; exact HO11.out) HKD.out HSF.out HK3.out HPP.out HX6.out HUC.out
 have b3 : ((kd : Int) == 3) = false := by rw [beq_eq_false_iff_ne]; omega
 by_cases h5 : kd = 5
 ·have b5 : ((kd : Int) == 5) = true := by rw [h5]; rfl
  have HPP := hid (show (if kd = 3 then numStyleB else if kd = 5 then skelB else nameB) = skelB from by rw [if_neg (by omega), if_pos h5])
  clear h5
  have HK3 := hid (show kd = 3 → kindL q = 8 from fun h => by rw [← HQK.out]; exact HT8.out h)
  go_upto_region 7 with (first
   | (go_at_call 114; (with_reducible refine (KP7.out _ (Ext.refl _)).mono ?_); rintro e w8 ⟨rfl, hx8⟩; have HX8 := hid hx8; clear hx8)
   | (go_at_call 116; refine (KT.out _ HX8.out).mono ?_; rintro e w9 ⟨rfl, hs9⟩))
  obtain ⟨nb9, e9, o9, n9⟩ := (RqS.back HX8.out hs9).parts
  have HU9 := hid (HU7.out.go e9 n9)
  have HO9 := hid o9
  obtain ⟨T9, hT9, hz9, hp9⟩ := rpeekX o9
  obtain ⟨TB, hTB⟩ : ∃ TB : ByteArray, TB = ⟨T9.t.toArray⟩ := ⟨_, rfl⟩
  rw [← hTB] at hp9
  have hTD : TB.data.toList = T9.t := by rw [hTB]
  have KP9 := hid (hp9 _ (Ext.refl _))
  have hPk : ∀ t r ns, X6 = .ok ⟨t :: r, ns⟩ → t.k = 9 → skelB TB.data.toList = skelB t.t := fun t r ns e _ => by rw [hTD, hT9 _ e]; rfl
  have KW := hid (fun W (hx : Ext w9 W) => rword_any skelB (skelB TB.data.toList) (HO9.out.ext hx) hPk)
  have hTs : TB.size ≤ 4000 := by rw [hTB]; exact hz9
  have KN := hid (fun W => rskel_any TB W (by unfold maxLen; omega))
  obtain ⟨Xw, hXw⟩ : ∃ Xw, Xw = X6.bind (wrdX E skelB) := ⟨_, rfl⟩
  obtain ⟨ST, hST⟩ : ∃ ST, ST = wrdS skelB X6 := ⟨_, rfl⟩
  rw [← hXw, ← hST] at KW
  have HXw := hid hXw
  have HST := hid hST
  clear hs9 e9 o9 n9 hp9 y0 c4 KT KP7 hT9 hz9 hTB hTD hPk hXw hST
  go_upto_region 8 with (go_at_call 114; refine KP9.out.mono ?_; rintro e w10 ⟨rfl, hx10⟩)
  have HX10 := hid hx10
  have y0 := (HU9.out.box.ext hx10).cell 0 _ rfl
  clear hx10 KP9
  generalize skelB TB.data.toList = R at KN KW
  go_wp2_with (first
   | (go_at_call 97; (with_reducible refine (KN.out _).mono ?_); rintro e w12 ⟨rfl, rfl⟩)
   | (go_at_call 159; refine (KW.out _ HX10.out).mono ?_; rintro e w11 ⟨rfl, hs11⟩; obtain ⟨nb11, e11, o11, n11⟩ := (RqS.back HX10.out hs11).parts; have HU11 := hid (HU9.out.go e11 n11); have HO11 := hid o11; have y3 := HU11.out.box.cell 3 _ rfl; have f3 := frz_of HU11.out.box 3; clear hs11 e11 o11 n11))
  go_end0
  rw [HST.out]
  exact uq_style HU11.out (by rw [← HXw.out]; exact HO11.out) HKD.out HSF.out HK3.out HPP.out HX6.out HUC.out
 have b5 : ((kd : Int) == 5) = false := by rw [beq_eq_false_iff_ne]; omega
 have HPP := hid (show (if kd = 3 then numStyleB else if kd = 5 then skelB else nameB) = nameB from by rw [if_neg h3, if_neg h5])
 have HK3 := hid (show kd = 3 → kindL q = 8 from fun h => by rw [← HQK.out]; exact HT8.out h)
 go_upto_region 7 with (first
  | (go_at_call 114; (with_reducible refine (KP7.out _ (Ext.refl _)).mono ?_); rintro e w8 ⟨rfl, hx8⟩; have HX8 := hid hx8; clear hx8)
  | (go_at_call 116; refine (KT.out _ HX8.out).mono ?_; rintro e w9 ⟨rfl, hs9⟩))
 obtain ⟨nb9, e9, o9, n9⟩ := (RqS.back HX8.out hs9).parts
 have HU9 := hid (HU7.out.go e9 n9)
 have HO9 := hid o9
 obtain ⟨T9, hT9, hz9, hp9⟩ := rpeekX o9
 obtain ⟨TB, hTB⟩ : ∃ TB : ByteArray, TB = ⟨T9.t.toArray⟩ := ⟨_, rfl⟩
 rw [← hTB] at hp9
 have hTD : TB.data.toList = T9.t := by rw [hTB]
 have KP9 := hid (hp9 _ (Ext.refl _))
 have hPk : ∀ t r ns, X6 = .ok ⟨t :: r, ns⟩ → t.k = 9 → nameB TB.data.toList = nameB t.t := fun t r ns e _ => by rw [hTD, hT9 _ e]; rfl
 have KW := hid (fun W (hx : Ext w9 W) => rword_any nameB (nameB TB.data.toList) (HO9.out.ext hx) hPk)
 have hTs : TB.size ≤ 4000 := by rw [hTB]; exact hz9
 have KN := hid (fun W => rname_any TB W (by unfold maxLen; omega))
 obtain ⟨Xw, hXw⟩ : ∃ Xw, Xw = X6.bind (wrdX E nameB) := ⟨_, rfl⟩
 obtain ⟨ST, hST⟩ : ∃ ST, ST = wrdS nameB X6 := ⟨_, rfl⟩
 rw [← hXw, ← hST] at KW
 have HXw := hid hXw
 have HST := hid hST
 clear hs9 e9 o9 n9 hp9 y0 c4 KT KP7 hT9 hz9 hTB hTD hPk hXw hST
 go_upto_region 8 with (go_at_call 114; refine KP9.out.mono ?_; rintro e w10 ⟨rfl, hx10⟩)
 have HX10 := hid hx10
 have y0 := (HU9.out.box.ext hx10).cell 0 _ rfl
 clear hx10 KP9
 generalize nameB TB.data.toList = R at KN KW
 rcases (show kd = 4 ∨ kd = 6 from by have h := HKK.out; omega) with h4 | h6
 ·have b4 : ((kd : Int) == 4) = true := by rw [h4]; rfl
  clear h3 h5 h4
  go_wp2_with (first
   | (go_at_call 67; (with_reducible refine (KN.out _).mono ?_); rintro e w12 ⟨rfl, rfl⟩)
   | (go_at_call 159; refine (KW.out _ HX10.out).mono ?_; rintro e w11 ⟨rfl, hs11⟩; obtain ⟨nb11, e11, o11, n11⟩ := (RqS.back HX10.out hs11).parts; have HU11 := hid (HU9.out.go e11 n11); have HO11 := hid o11; have y3 := HU11.out.box.cell 3 _ rfl; have f3 := frz_of HU11.out.box 3; clear hs11 e11 o11 n11))
  go_end0
  rw [HST.out]
  exact uq_style HU11.out (by rw [← HXw.out]; exact HO11.out) HKD.out HSF.out HK3.out HPP.out HX6.out HUC.out
 ·have b4 : ((kd : Int) == 4) = false := by rw [beq_eq_false_iff_ne]; omega
  have b6 : ((kd : Int) == 6) = true := by rw [h6]; rfl
  clear h3 h5 h6
  go_wp2_with (first
   | (go_at_call 67; (with_reducible refine (KN.out _).mono ?_); rintro e w12 ⟨rfl, rfl⟩)
   | (go_at_call 159; refine (KW.out _ HX10.out).mono ?_; rintro e w11 ⟨rfl, hs11⟩; obtain ⟨nb11, e11, o11, n11⟩ := (RqS.back HX10.out hs11).parts; have HU11 := hid (HU9.out.go e11 n11); have HO11 := hid o11; have y3 := HU11.out.box.cell 3 _ rfl; have f3 := frz_of HU11.out.box 3; clear hs11 e11 o11 n11))
  go_end0
  rw [HST.out]
  exact uq_style HU11.out (by rw [← HXw.out]; exact HO11.out) HKD.out HSF.out HK3.out HPP.out HX6.out HUC.out
end Go.Proofs.YtpfmojeigjmlfaaGreatDoor
