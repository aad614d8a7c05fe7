import Derived.Test.YtiijdojihleggaaGreatDoorQMs
set_option maxRecDepth 100000
set_option linter.unusedSimpArgs false
set_option linter.unusedVariables false
open Go.Lib (hid)
namespace Go.Proofs.YtiijdojihleggaaGreatDoor
open Go.RowKit
theorem cas_stop {E k d : Nat} {c : Bool} {ks : List By} {st : St} (hk : ks ≠ []) (h9 : ¬ kindL st.left = 9) :
 casC E k d c ks st = if kindL st.left = 3 then (if otherP ∈ ks then .ok (.nil, st) else .error (13, plE E st.left)) else .error (3, plE E st.left) := by
 obtain ⟨l, ns⟩ := st
 rcases l with _ | ⟨t, r⟩
 ·rw [casC_nil]; rfl
 ·rw [casC_cons, if_neg (fun e => h9 e.1)]
  show (if ks ≠ [] ∧ t.k = 3 then _ else _) = if t.k = 3 then _ else _
  by_cases h3 : t.k = 3
  ·rw [if_pos ⟨hk, h3⟩, if_pos h3]; rfl
  ·rw [if_neg (fun e => h3 e.2), if_neg h3]; rfl
theorem cas_none {E k d : Nat} {c : Bool} {ks : List By} {st : St} (h : ¬ (kindL st.left = 9)) (hk : ks = []) : casC E k d c ks st = .error (3, plE E st.left) := by
 obtain ⟨l, ns⟩ := st
 rcases l with _ | ⟨t, r⟩
 ·rw [casC_nil]; rfl
 ·rw [casC_cons, if_neg (fun e => h e.1), if_neg (fun e => e.1 hk)]; rfl
def RdK (E k d : Nat) (c : Bool) (ks : List By) (X : Except Err St) (W : ByteArray) (Ym : Except Err (F × St)) (Xd : Except Err St) : Prop :=
 (∀ e, Xd = .error e → X.bind (casC E k d c ks) = .error e) ∧
 (∀ st', Xd = .ok st' → ∃ g st t, Ym = .ok (g, st) ∧ W = ⟨t.toArray⟩ ∧ st'.left.length + 1 < lenX X ∧ X.bind (casC E k d c ks) = prepF (.one 0 [] t [] .nil g) (casC E k d c (ks ++ [t]) st'))
theorem rd_err {E k d : Nat} {c : Bool} {ks : List By} {X Xb Xc Xd : Except Err St} {W : ByteArray} {Ym : Except Err (F × St)} {e : Err} (hb : Xb = .error e) (h : X.bind (casC E k d c ks) = .error e)
 (hc : Xc = Xb.bind (takeX E 2)) (hm : Ym = Xc.bind (msgC E (d + 1) c)) (hd : Xd = (Ym.map (·.2)).bind (takeX E 3)) : RdK E k d c ks X W Ym Xd := by
 subst hb
 subst hc
 subst hm
 subst hd
 refine ⟨fun e' h' => ?_, fun st' h' => by cases h'⟩
 have h2 : (Except.error e : Except Err St) = .error e' := h'
 injection h2 with h2
 rw [h, h2]
theorem rd_good {E k d : Nat} {c : Bool} {ks : List By} {t : Tok} {r : List Tok} {ns : List By} {Xb Xc Xd : Except Err St} {W : ByteArray} {Ym : Except Err (F × St)} (hk : t.k = 9) (hp : keyB k t.t = true) (h20 : ks.length < 20) (hin : t.t ∉ ks)
 (hW : W = wrdS (keyB k) (.ok ⟨t :: r, ns⟩)) (hb : Xb = (Except.ok ⟨t :: r, ns⟩ : Except Err St).bind (wrdX E (keyB k)))
 (hc : Xc = Xb.bind (takeX E 2)) (hm : Ym = Xc.bind (msgC E (d + 1) c)) (hd : Xd = (Ym.map (·.2)).bind (takeX E 3)) : RdK E k d c ks (.ok ⟨t :: r, ns⟩) W Ym Xd := by
 have e0 : Xb = .ok ⟨r, ns⟩ := by
  rw [hb]
  show Except.map _ (if t.k = 9 ∧ keyB k t.t = true then .ok (t.t, r) else .error (3, t.a)) = _
  rw [if_pos ⟨hk, hp⟩]
  rfl
 have e1 : W = ⟨t.t.toArray⟩ := by
  rw [hW]
  show (if t.k = 9 ∧ keyB k t.t = true then (⟨t.t.toArray⟩ : ByteArray) else ⟨#[]⟩) = _
  rw [if_pos ⟨hk, hp⟩]
 have e2 : (Except.ok ⟨t :: r, ns⟩ : Except Err St).bind (casC E k d c ks) = (takeP E 2 r).bind fun z => (msgC E (d + 1) c ⟨z.2, ns⟩).bind fun y => (takeP E 3 y.2.left).bind fun e =>
  (casC E k d c (ks ++ [t.t]) ⟨e.2, y.2.names⟩).map fun x => (.cons 0 [] t.t [] .nil y.1 x.1, x.2) := by
  show casC E k d c ks ⟨t :: r, ns⟩ = _
  rw [casC_cons, if_pos ⟨hk, hp⟩, if_neg (by omega), if_neg hin]
 unfold RdK
 rw [e2]
 have e3 : Xc = (takeP E 2 r).map fun y => ⟨y.2, ns⟩ := by rw [hc, e0]; rfl
 cases h2 : takeP E 2 r with
 | error e =>
   rw [h2] at e3
   have : Xd = .error e := by rw [hd, hm, e3]; rfl
   rw [this]
   exact ⟨fun e' h' => by injection h' with h'; rw [← h']; rfl, fun st' h' => by cases h'⟩
 | ok z =>
   rw [h2] at e3
   have l2 : z.2.length < r.length := by
    obtain ⟨t1, r1, rfl, _, rfl⟩ := takeP_ok.1 h2
    exact Nat.lt_succ_self _
   have e4 : Ym = msgC E (d + 1) c ⟨z.2, ns⟩ := by rw [hm, e3]; rfl
   rw [bind_okE, ← e4]
   cases Ym with
   | error e =>
     have : Xd = .error e := by rw [hd]; rfl
     rw [this]
     exact ⟨fun e' h' => by injection h' with h'; rw [← h']; rfl, fun st' h' => by cases h'⟩
   | ok y =>
     have l3 := msgC_len e4.symm
     have e5 : Xd = (takeP E 3 y.2.left).map fun q => ⟨q.2, y.2.names⟩ := by rw [hd]; rfl
     rw [bind_okE]
     cases h3 : takeP E 3 y.2.left with
     | error e =>
       rw [h3] at e5
       rw [e5]
       exact ⟨fun e' h' => by injection h' with h'; rw [← h']; rfl, fun st' h' => by cases h'⟩
     | ok q =>
       rw [h3] at e5
       rw [e5]
       refine ⟨fun e' h' => ?_, fun st' h' => ?_⟩
       ·have h2 : (Except.ok (⟨q.2, y.2.names⟩ : St) : Except Err St) = .error e' := h'
        cases h2
       have h2 : (Except.ok (⟨q.2, y.2.names⟩ : St) : Except Err St) = .ok st' := h'
       injection h2 with h2
       subst h2
       obtain ⟨t1, r1, e6, _, rfl⟩ := takeP_ok.1 h3
       refine ⟨y.1, y.2, t.t, rfl, e1, ?_, rfl⟩
       rw [e6, List.length_cons] at l3
       show r1.length + 1 < (t :: r).length + 1
       rw [List.length_cons]
       simp only at l3
       omega
theorem rd_none {E k d : Nat} {c : Bool} {ks : List By} {X : Except Err St} (h9 : ¬ kindX X = 9) (hk : ∀ st, X = .ok st → ks = []) : ∃ e, X.bind (wrdX E (keyB k)) = .error e ∧ X.bind (casC E k d c ks) = .error e := by
 rw [(wrd_not h9).1]
 rcases X with e | st
 ·exact ⟨e, rfl, rfl⟩
 ·exact ⟨_, rfl, cas_none h9 (hk st rfl)⟩
theorem rd_unfit {E k d : Nat} {c : Bool} {ks : List By} {t : Tok} {r : List Tok} {ns : List By} (h9 : t.k = 9) (hp : keyB k t.t = false) :
 ∃ e, (Except.ok ⟨t :: r, ns⟩ : Except Err St).bind (wrdX E (keyB k)) = .error e ∧ (Except.ok ⟨t :: r, ns⟩ : Except Err St).bind (casC E k d c ks) = .error e := by
 rw [(wrd_unfit hp).1]
 refine ⟨(3, t.a), rfl, ?_⟩
 show casC E k d c ks ⟨t :: r, ns⟩ = _
 rw [casC_cons, if_neg (fun e => by rw [hp] at e; exact absurd e.2 (by decide)), if_neg (fun e => by have := e.2; omega)]
theorem rd_many {E k d : Nat} {c : Bool} {ks : List By} {t : Tok} {r : List Tok} {ns : List By} (h9 : t.k = 9) (hp : keyB k t.t = true) (h20 : 20 ≤ ks.length) : (Except.ok ⟨t :: r, ns⟩ : Except Err St).bind (casC E k d c ks) = .error (6, t.a) := by
 show casC E k d c ks ⟨t :: r, ns⟩ = _
 rw [casC_cons, if_pos ⟨h9, hp⟩, if_pos h20]
theorem rd_twice {E k d : Nat} {c : Bool} {ks : List By} {t : Tok} {r : List Tok} {ns : List By} (h9 : t.k = 9) (hp : keyB k t.t = true) (h20 : ¬ 20 ≤ ks.length) (hin : t.t ∈ ks) : (Except.ok ⟨t :: r, ns⟩ : Except Err St).bind (casC E k d c ks) = .error (9, t.a) := by
 show casC E k d c ks ⟨t :: r, ns⟩ = _
 rw [casC_cons, if_pos ⟨h9, hp⟩, if_neg h20, if_pos hin]
theorem PsW.tok_at {w : World} {C : Pc} {n : Nat} {ns : List By} {a e : Int} {t : Tok} {r : List Tok} {b o : Nat} (h : PsW w C n ns a e) (hd : C.all.drop n = t :: r) (hA : C.A = some ⟨b, o, none⟩) : w.cell? ⟨b, o + n * 4 + 1, none⟩ = some (.string ⟨t.t.toArray⟩) := by
 have hn : n < C.all.length := by
  rcases Nat.lt_or_ge n C.all.length with h1 | h1
  ·exact h1
  ·rw [List.drop_eq_nil_of_le h1] at hd
   cases hd
 obtain ⟨t', b', o', e1, _, hA', _, t1, _⟩ := h.tok hn
 rw [hd] at e1
 injection e1 with e1 _
 rw [hA] at hA'
 injection hA' with hA'
 injection hA' with e2 e3
 subst e1 e2 e3
 exact t1
theorem takeX_len {E k : Nat} {st st' : St} (h : takeX E k st = .ok st') : st'.left.length < st.left.length := by
 obtain ⟨y, hy, rfl⟩ := map_ok.1 h
 obtain ⟨t1, r1, e1, _, rfl⟩ := takeP_ok.1 hy
 rw [e1]
 exact Nat.lt_succ_self _
theorem wrdX_len {E : Nat} {P : By → Bool} {st st' : St} (h : wrdX E P st = .ok st') : st'.left.length < st.left.length := by
 obtain ⟨y, hy, rfl⟩ := map_ok.1 h
 obtain ⟨t1, r1, e1, _, _, rfl⟩ := wrdP_ok.1 hy
 rw [e1]
 exact Nat.lt_succ_self _
theorem wrd_size {w : World} {C : Pc} {X : Except Err St} {P : By → Bool} (h : PsO w C X) : (wrdS P X).size ≤ 4000 := by
 rcases X with e | ⟨_ | ⟨t, r⟩, ns⟩
 ·exact Nat.zero_le _
 ·exact Nat.zero_le _
 ·obtain ⟨n, hp, hdr⟩ := h
  have hmem : t ∈ C.all := List.mem_of_mem_drop (i := n) (by rw [hdr]; exact List.mem_cons_self)
  show ((if t.k = 9 ∧ P t.t = true then (⟨t.t.toArray⟩ : ByteArray) else ⟨#[]⟩)).size ≤ 4000
  split
  ·exact (hp.ok t hmem).1
  ·exact Nat.zero_le _
theorem pfailW_any (C : Pc) (n : Nat) (ns : List By) (code : Int) (w : World) (h : PsW w C n ns 0 0) (h0 : code ≠ 0) :
 Calls Tryz.prog 68 #[.pointer (some ⟨C.g, 0, none⟩), .int .i64 code] w fun e w' => e = .returned (.tuple #[]) ∧ PsW w' C n ns (plE C.s.size (C.all.drop n)) code ∧ Exc C.two w w' := by
 obtain ⟨c0, c1, c2, c3, c4, c5⟩ := h.cells
 have f4 := frz_of h.blk 4
 have f5 := frz_of h.blk 5
 have HH := hid h
 have K := hid (pplace_any C n ns 0 0 w h)
 have H0 := hid h0
 clear h h0
 go_enter Tryz.func68, Tryz.ntmps68
 go_wp2_with fail
 refine K.out.mono ?_
 rintro e w2 ⟨rfl, q, rfl⟩
 have x4 : (w.drewN q).cell? ⟨C.g, 4, none⟩ = some (.int .i64 0) := c4
 have x5 : (w.drewN q).cell? ⟨C.g, 5, none⟩ = some (.int .i64 0) := c5
 have z4 : (w.drewN q).frozen? ⟨C.g, 4, none⟩ = false := f4
 have z5 : (w.drewN q).frozen? ⟨C.g, 5, none⟩ = false := f5
 go_wp2
 go_end0
 refine ⟨rfl, ?_, ?_⟩
 ·refine HH.out.step (((Exc.of_ext ((Ext.refl w).drewN q)).trans (Exc.setCell (S := fun k => k = C.g) (p := ⟨C.g, 4, none⟩) rfl _)).trans (Exc.setCell (S := fun k => k = C.g) (p := ⟨C.g, 5, none⟩) rfl _)) ?_ (Nat.le_refl _) HH.out.nx
  exact at_set45 (HH.out.ext ((Ext.refl w).drewN q)).blk
 ·exact (((Exc.of_ext ((Ext.refl w).drewN q)).trans (Exc.setCell PsW.g_two _)).trans (Exc.setCell PsW.g_two _))
def RetK (w : World) (C : Pc) (Y : Except Err (F × St)) (e : Ending) (w' : World) : Prop :=
 ∃ Z A n c, e = .returned (.slice A n c) ∧ PsO w' C Z ∧ Z.bind (takeX C.s.size 3) = (Y.map (·.2)).bind (takeX C.s.size 3) ∧ Exc C.two w w' ∧ (∀ f st, Y = .ok (f, st) → Z = .ok st ∧ CwS w' (fun k => w.heap.size ≤ k) f (.slice A n c))
def CasH (N : Nat) : Prop := ∀ (C : Pc) (X : Except Err St) (k d : Nat) (c : Bool) (w : World), PsO w C X → (∀ st, X = .ok st → st.left.length < N ∧ d ≤ 7) → d ≤ 99 →
 Calls Tryz.prog 145 #[.pointer (some ⟨C.g, 0, none⟩), .int .i64 k, .int .i64 ((d : Int) + 1), .bool c] w (RetK w C (X.bind (casC C.s.size k d (c || k != 9) [])))
structure KsW (w : World) (C : Pc) (k : Nat) (out : Value) (m : Nat) (xs : List Value) (seen : List By) (W : World) : Prop where
 own : W.ownsRow (w.heap.size + 2) 106 2 out m xs
 map : MapS Tryz.prog 9 4 W (w.heap.size + 1) m seen
 box : AtC 3 W w.heap.size #[.int .i64 k]
 exc : Exc (fun k => C.two k ∨ w.heap.size ≤ k) w W
 old : C.g < w.heap.size ∧ C.mb < w.heap.size ∧ 0 < w.heap.size ∧ (0 < C.all.length → ∀ ad, C.A = some ad → ad.block < w.heap.size)
theorem KsW.go {w : World} {C : Pc} {k : Nat} {out : Value} {m : Nat} {xs : List Value} {seen : List By} {W W' : World} (h : KsW w C k out m xs seen W) (hx : Exc C.two W W') : KsW w C k out m xs seen W' := by
 have h1 := h.old
 refine ⟨own_exc h.own hx (fun j hj e => ?_), h.map.exc hx (fun e => ?_), h.box.exc hx (fun e => ?_), h.exc.trans (hx.mono fun j e => .inl e), h.old⟩
 ·have := (h.own.lt j hj).1
  rcases e with e | e <;> omega
 ·rcases e with e | e <;> omega
 ·rcases e with e | e <;> omega
theorem PsW.exc0 {S : Nat → Prop} {w w' : World} {C : Pc} {n : Nat} {ns : List By} {a e : Int} (h : PsW w C n ns a e) (hw : Exc S w w') (hg : ¬ S C.g) (hm : ¬ S C.mb) (h0 : ¬ S 0) (hA : 0 < C.all.length → ∀ ad, C.A = some ad → ¬ S ad.block) : PsW w' C n ns a e :=
 ⟨h.blk.exc hw hg, h.toks.exc0 hw hA, h.map.exc hw hm, h.ne, h.away, h.size, h.len, h.nx, h.ok, h.nd, h.few, mx_exc h.mx hw h0, h.g0, h.m0, h.good⟩
theorem PsO.exc0 {S : Nat → Prop} {w w' : World} {C : Pc} {X : Except Err St} (h : PsO w C X) (hw : Exc S w w') (hg : ¬ S C.g) (hm : ¬ S C.mb) (h0 : ¬ S 0) (hA : 0 < C.all.length → ∀ ad, C.A = some ad → ¬ S ad.block) : PsO w' C X := by
 rcases X with ⟨e, a⟩ | st
 ·obtain ⟨h1, n, ns, h⟩ := h
  exact ⟨h1, n, ns, h.exc0 hw hg hm h0 hA⟩
 ·obtain ⟨n, h, hd⟩ := h
  exact ⟨n, h.exc0 hw hg hm h0 hA, hd⟩
theorem PsO.olds {w : World} {C : Pc} {X : Except Err St} (h : PsO w C X) : C.g < w.heap.size ∧ C.mb < w.heap.size ∧ 0 < w.heap.size ∧ (0 < C.all.length → ∀ ad, C.A = some ad → ad.block < w.heap.size) := by
 obtain ⟨n, ns, a, e, hp⟩ := h.any
 exact ⟨hp.old.1, hp.old.2.1, hp.old.2.2.1, fun h0 => hp.toks.inside (by decide) h0⟩
theorem PsO.mxx {w : World} {C : Pc} {X : Except Err St} (h : PsO w C X) : Mx w := by
 obtain ⟨n, ns, a, e, hp⟩ := h.any
 exact hp.mx
theorem PsO.tsz {w : World} {C : Pc} {X : Except Err St} (h : PsO w C X) : ∀ t ∈ C.all, t.t.length ≤ 4000 := by
 obtain ⟨n, ns, a, e, hp⟩ := h.any
 exact fun t ht => (hp.ok t ht).1
theorem kword_any (C : Pc) (X : Except Err St) (k kb : Nat) (w : World) (h : PsO w C X) (hb : AtC 3 w kb #[.int .i64 k]) :
 Calls Tryz.prog 143 #[.pointer (some ⟨C.g, 0, none⟩), .func (.func 181) #[] #[.pointer (some ⟨kb, 0, none⟩)]] w fun e w' => e = .returned (.string (wrdS (keyB k) X)) ∧ PsO w' C (X.bind (wrdX C.s.size (keyB k))) ∧ Exc C.two w w' :=
 pword_key C X (keyB k) kb w h (fun t ht y => key1_any k 3 kb ⟨t.t.toArray⟩ y.v (hb.ext y.h) (h.ext y.h).mxx (by have := h.tsz t ht; show t.t.length ≤ _; omega))
def boolN : Value → Nat
 | .bool true => 1
 | _ => 0
def KsI (w : World) (C : Pc) (X0 : Except Err St) (N k d : Nat) (c : Bool) (out fi : Value) (wr : World) : Prop :=
 ∃ X f ks m xs seen b A cc, out = .slice A m cc ∧ fi = .bool b ∧ X0.bind (casC C.s.size k d c []) = prepF f (X.bind (casC C.s.size k d c ks)) ∧ PsO wr C X ∧ (∀ st, X = .ok st → st.left.length < N ∧ d ≤ 7) ∧
   KsW w C k out m xs seen wr ∧ (∀ st, X = .ok st → m = f.len ∧ m = ks.length ∧ b = ks.isEmpty ∧ (∀ x, x ∈ seen ↔ x ∈ ks) ∧ Cw wr (fun k => w.heap.size + 2 ≤ k ∧ some k ≠ out.ownBlock) f xs) ∧ m + lenX X + boolN fi ≤ 4002
theorem two_one (a b : Value) (h : a.oneCell' = true ∧ b.oneCell' = true) : ∀ u ∈ [a, b], u.oneCell' = true := by
 intro u hu
 simp only [List.mem_cons, List.not_mem_nil, or_false] at hu
 rcases hu with rfl | rfl
 ·exact h.1
 ·exact h.2
theorem at_two1 {T : TypeId} {w : World} {g : Nat} {a0 a1 b1 : Value} (h : AtC T w g #[a0, a1]) : AtC T (w.setCell ⟨g, 1, none⟩ b1) g #[a0, b1] := by
 unfold AtC at h ⊢
 simp only [World.setCell, Array.getElem?_modify, if_true, h]
 rfl
theorem kas_ret {w wr W' : World} {C : Pc} {X0 X Z : Except Err St} {k d : Nat} {c : Bool} {f : F} {ks : List By} {m : Nat} {xs : List Value} {seen : List By} {A : Option Addr} {cc : Nat}
 (hY : X0.bind (casC C.s.size k d c []) = prepF f (X.bind (casC C.s.size k d c ks))) (hW : KsW w C k (.slice A m cc) m xs seen wr)
 (hok : ∀ st, X = .ok st → m = f.len ∧ m = ks.length ∧ false = ks.isEmpty ∧ (∀ x, x ∈ seen ↔ x ∈ ks) ∧ Cw wr (fun k => w.heap.size + 2 ≤ k ∧ some k ≠ (Value.slice A m cc).ownBlock) f xs)
 (h9 : ¬ kindX X = 9) (hx : Exc C.two wr W') (hO : PsO W' C Z) (hZ : (∀ e, X = .error e → Z = .error e) ∧ (∀ st, X = .ok st → (¬ kindL st.left = 3 → Z = .ok st) ∧ (kindL st.left = 3 → (otherP ∈ seen → Z = .ok st) ∧ (otherP ∉ seen → Z = .error (13, plE C.s.size st.left))))) :
 RetK w C (X0.bind (casC C.s.size k d c [])) (.returned (.slice A m cc)) W' := by
 have hW2 := hW.go hx
 have hxx : Exc C.two w W' := exc_new hW2.exc
 rw [hY]
 rcases X with e | st
 ·refine ⟨Z, A, m, cc, rfl, hO, ?_, hxx, fun f' st' h => by cases h⟩
  rw [hZ.1 e rfl]
  rfl
 ·obtain ⟨h1, h2, h3, h4, h5⟩ := hok st rfl
  have hne : ks ≠ [] := by intro e; rw [e] at h3; cases h3
  obtain ⟨z1, z2⟩ := hZ.2 st rfl
  show RetK w C (prepF f (casC C.s.size k d c ks st)) _ _
  rw [cas_stop hne h9]
  by_cases k3 : kindL st.left = 3
  ·rw [if_pos k3]
   obtain ⟨z3, z4⟩ := z2 k3
   by_cases ho : otherP ∈ ks
   ·rw [if_pos ho]
    have hz := z3 ((h4 _).2 ho)
    subst hz
    refine ⟨.ok st, A, m, cc, rfl, hO, rfl, hxx, fun f' st' h => ?_⟩
    injection h with h
    injection h with ha hb
    subst ha hb
    refine ⟨rfl, ?_⟩
    rw [F.app_nil]
    subst h1
    exact CwS_own hW2.own ((FCw_exc hx (fun j hj e => by have := hW.old; rcases e with e | e <;> omega) (fun _ h => Nat.le_trans (Nat.le_add_right _ 2) h.1) f).2 _ h5) (fun j hj => by omega)
   ·rw [if_neg ho]
    have hz := z4 (fun e => ho ((h4 _).1 e))
    subst hz
    exact ⟨_, A, m, cc, rfl, hO, rfl, hxx, fun f' st' h => by cases h⟩
  ·rw [if_neg k3]
   have hz := z1 k3
   subst hz
   refine ⟨_, A, m, cc, rfl, hO, ?_, hxx, fun f' st' h => by cases h⟩
   obtain ⟨l, ns⟩ := st
   rcases l with _ | ⟨t, r⟩
   ·rfl
   ·have k4 : ¬ t.k = 3 := k3
    show Except.map _ (if t.k = 3 then .ok (t.t, r) else .error (3, t.a)) = _
    rw [if_neg k4]
    rfl
theorem kas_go {w wr w6 w8 : World} {C : Pc} {X0 X Xd : Except Err St} {N k d : Nat} {c b : Bool} {f : F} {ks : List By} {m : Nat} {xs : List Value} {seen : List By} {A A8 : Option Addr} {cc c8 : Nat} {W : ByteArray} {Ym : Except Err (F × St)} {vA : Option Addr} {vn vc : Nat} {o : Obj}
 (hY : X0.bind (casC C.s.size k d c []) = prepF f (X.bind (casC C.s.size k d c ks))) (hl : ∀ st, X = .ok st → st.left.length < N ∧ d ≤ 7) (hW : KsW w C k (.slice A m cc) m xs seen wr)
 (hok : ∀ st, X = .ok st → m = f.len ∧ m = ks.length ∧ b = ks.isEmpty ∧ (∀ x, x ∈ seen ↔ x ∈ ks) ∧ Cw wr (fun k => w.heap.size + 2 ≤ k ∧ some k ≠ (Value.slice A m cc).ownBlock) f xs)
 (hm : m + lenX X + boolN (.bool b) ≤ 4002) (hbe : ∀ e, X = .error e → b = true) (hR : RdK C.s.size k d c ks X W Ym Xd)
 (h5 : Exc (fun j => C.two j ∨ j = w.heap.size + 1 ∨ wr.heap.size ≤ j) wr w6) (hO : PsO w6 C Xd) (hf : ∀ g st, Ym = .ok (g, st) → FwS w6 (fun k => wr.heap.size < k) g (.slice vA vn vc))
 (hmap : MapS Tryz.prog 9 4 w6 (w.heap.size + 1) (m + 1) (seen ++ [W.data.toList]))
 (hown : w8.ownsRow (w.heap.size + 2) 106 2 (.slice A8 (m + 1) c8) (m + 1) (xs ++ [.string W, .slice vA vn vc])) (hg : (w6.alloc o).grownBy w8 (Value.slice A m cc).ownBlock)
 (hwh : (Value.slice A8 (m + 1) c8).ownBlock = (Value.slice A m cc).ownBlock ∨ ∀ j, (Value.slice A8 (m + 1) c8).ownBlock = some j → (w6.alloc o).heap.size ≤ j) :
 KsI w C X0 N k d c (.slice A8 (m + 1) c8) (.bool false) w8 ∧ mW C w8 + boolN (.bool false) < lenX X + boolN (.bool b) := by
 have old := hW.old
 have hvb : ∀ j, (Value.slice A m cc).ownBlock = some j → w.heap.size + 2 ≤ j ∧ j < wr.heap.size := fun j hj => hW.own.lt j hj
 have ha : Exc (fun j => some j = (Value.slice A m cc).ownBlock) w6 w8 := (Exc.of_ext ((Ext.refl w6).alloc o)).trans ⟨hg.os, hg.tape, hg.output, hg.size, fun j hj ht => hg.block j hj ht⟩
 have hz : (w6.alloc o).heap.size = w6.heap.size + 1 := by simp
 have hsz := hW.exc.size
 have hsz5 := h5.size
 have hbx := hW.box.lt
 have hmb := hW.map.lt
 have hO8 : PsO w8 C Xd := hO.exc0 ha (fun e => by have := hvb _ e.symm; omega) (fun e => by have := hvb _ e.symm; omega) (fun e => by have := hvb _ e.symm; omega) (fun h0 ad hA e => by have := hvb _ e.symm; have := old.2.2.2 h0 ad hA; omega)
 have hW8 : KsW w C k (.slice A8 (m + 1) c8) (m + 1) (xs ++ [.string W, .slice vA vn vc]) (seen ++ [W.data.toList]) w8 := by
  refine ⟨hown, hmap.exc ha (fun e => by have := hvb _ e.symm; omega), (hW.box.exc h5 (fun e => ?_)).exc ha (fun e => by have := hvb _ e.symm; omega), (hW.exc.trans (h5.mono fun j e => ?_)).trans (ha.mono fun j e => .inr (by have := hvb _ e.symm; omega)), old⟩
  ·rcases e with (e | e) | e | e <;> omega
  ·rcases e with e | e | e
   ·exact .inl e
   ·exact .inr (by omega)
   ·exact .inr (by omega)
 rw [mW_eq hO8]
 cases Xd with
 | error e =>
   have h1 : 0 < lenX X + boolN (.bool b) := by
    rcases X with e' | st
    ·rw [hbe e' rfl]; exact Nat.one_pos
    ·show 0 < st.left.length + 1 + _
     omega
   refine ⟨⟨.error e, f, ks, m + 1, _, _, false, A8, c8, rfl, rfl, ?_, hO8, (fun st h => by cases h), hW8, (fun st h => by cases h), ?_⟩, h1⟩
   ·rw [hY, hR.1 e rfl]; rfl
   ·show m + 1 + 0 + 0 ≤ 4002
    omega
 | ok st' =>
   obtain ⟨g, st, t, hYm, hWt, hlt, hXe⟩ := hR.2 st' rfl
   rcases X with e' | sx
   ·exact absurd hlt (Nat.not_lt_zero _)
   have hlt2 : st'.left.length + 1 < sx.left.length + 1 := hlt
   obtain ⟨q1, q2, q3, q4, q5⟩ := hok sx rfl
   obtain ⟨l1, l2⟩ := hl sx rfl
   have hm2 : m + (sx.left.length + 1) + boolN (.bool b) ≤ 4002 := hm
   refine ⟨⟨.ok st', f.app (.one 0 [] t [] .nil g), ks ++ [t], m + 1, _, _, false, A8, c8, rfl, rfl, ?_, hO8, fun st2 h => ?_, hW8, fun st2 h => ⟨?_, ?_, ?_, fun x => ?_, ?_⟩, ?_⟩, ?_⟩
   ·rw [hY, hXe, prepF_prepF]; rfl
   ·injection h with h
    subst h
    exact ⟨by omega, l2⟩
   ·rw [F.len_app, q1]; rfl
   ·rw [List.length_append, q2]; rfl
   ·cases ks <;> rfl
   ·rw [hWt, List.mem_append, List.mem_append, q4]
   ·have f3 : Cw w6 (fun j => w.heap.size + 2 ≤ j ∧ some j ≠ (Value.slice A m cc).ownBlock) f xs :=
     (FCw_exc h5 (fun j hj e => by rcases e with (e | e) | e | e <;> omega) (fun j hj => hj.1) f).2 _ ((FCw_in wr _ f).2 _ q5)
    have hgf := hf g st hYm
    have g3 : FwS w6 (fun j => w.heap.size + 2 ≤ j ∧ some j ≠ (Value.slice A m cc).ownBlock) g (.slice vA vn vc) :=
     hgf.exc (Exc.refl (fun _ => False) w6) (fun _ _ h => h) (fun j hj => ⟨by omega, fun e => by have := hvb _ e.symm; omega⟩)
    have g4 : Cw w6 (fun j => w.heap.size + 2 ≤ j ∧ some j ≠ (Value.slice A m cc).ownBlock) (.one 0 [] t [] .nil g) [.string W, .slice vA vn vc] := by rw [hWt]; exact Cw_one g3
    have fg := (FCw_in w6 _ (f.app (.one 0 [] t [] .nil g))).2 _ ((FCw_app w6 _ (.one 0 [] t [] .nil g) f).2 _ _ f3 g4)
    refine (FCw_exc ha (fun j hj e => hj.1.2 e) (fun j hj => ⟨hj.1.1, fun e => ?_⟩) (f.app (.one 0 [] t [] .nil g))).2 _ fg
    rcases hwh with h | h
    ·exact hj.1.2 (e.trans h)
    ·have := h j e.symm
     have := hj.2
     omega
   ·show m + 1 + (st'.left.length + 1) + 0 ≤ 4002
    omega
   ·show st'.left.length + 1 + 0 < sx.left.length + 1 + _
    omega
def ErB (X : Except Err St) (b : Bool) : Prop := ∀ e, X = .error e → b = true
def KsG (wr wq : World) (C : Pc) (X : Except Err St) (k d : Nat) (c : Bool) (ks : List By) (b : Bool) : Prop :=
 ∃ Xq : Except Err St, Exc C.two wr wq ∧ PsO wq C Xq ∧ (∀ W Xb Xc Ym Xd, W = wrdS (keyB k) Xq → Xb = Xq.bind (wrdX C.s.size (keyB k)) → Xc = Xb.bind (takeX C.s.size 2) → Ym = Xc.bind (msgC C.s.size (d + 1) c) →
   Xd = (Ym.map (·.2)).bind (takeX C.s.size 3) → RdK C.s.size k d c ks X W Ym Xd) ∧ (∀ st0, Xq = .ok st0 → X = .ok st0) ∧ ErB X b
set_option maxHeartbeats 16000000 in
theorem pcas (N : Nat) (hM : MsgH N) : CasH N := by
 intro C X0 k d c0 w h hX hd
 obtain ⟨i0, hi, hz0, hz1, hz2⟩ := info_parts (show (Tryz.prog.info? 106).map (fun i => (i.zero, i.size, i.bytes)) = some (some (.agg #[.string ⟨#[]⟩, .slice none 0 0]), 2, 40) from by kernel_rfl)
 obtain ⟨c, hc⟩ : ∃ c, c = (c0 || k != 9) := ⟨_, rfl⟩
 rw [← hc]
 have HC := hid hc
 have hlx : lenX X0 ≤ 4001 := by
  rcases X0 with e | st
  ·exact Nat.zero_le _
  ·obtain ⟨n, hp, hdr⟩ := h
   have h1 := hp.len
   show st.left.length + 1 ≤ 4001
   rw [← hdr, List.length_drop]
   omega
 have H0 := hid (show KsI w C X0 N k d c (.slice none 0 0) (.bool true) ((w.alloc (.cells #[.int .i64 k] 3)).alloc (.map #[] 0)) from by
  have x1 : Ext w (w.alloc (.cells #[.int .i64 k] 3)) := (Ext.refl w).alloc _
  have x2 : Ext w ((w.alloc (.cells #[.int .i64 k] 3)).alloc (.map #[] 0)) := x1.alloc _
  have hs : (w.alloc (.cells #[.int .i64 k] 3)).heap.size = w.heap.size + 1 := by simp
  have hmp := MapS.made Tryz.prog 9 4 (w.alloc (.cells #[.int .i64 k] 3))
  rw [hs] at hmp
  refine ⟨X0, .nil, [], 0, [], [], true, none, 0, rfl, rfl, (prepF_nil _).symm, h.ext x2, hX, ⟨World.ownsRow_nil _ _ _ _, hmp, ?_, Exc.of_ext x2, h.olds⟩, fun st _ => ⟨rfl, rfl, rfl, fun x => Iff.rfl, by rw [Cw]⟩, ?_⟩
  ·exact (AtC.new w _).ext ((Ext.refl _).alloc _)
  ·show 0 + lenX X0 + 1 ≤ 4002
   omega)
 clear h hX hlx hc
 have hmm := @run_makeMap Tryz.prog
 go_enter Tryz.func145, Tryz.ntmps145
 go_wp2_with fail
 clear hmm
 go_loopw [9, 11] (KsI w C X0 N k d c) (fun _ fi wr => mW C wr + boolN fi)
 case atStart => exact H0.out
 case round =>
  obtain ⟨X, f, ks, m, xs, seen, b, A, cc, rfl, rfl, hY, hO, hl, hW, hok, hm⟩ := hrel
  rw [mW_eq hO]
  have HY := hid hY
  have HO := hid hO
  have HL := hid hl
  have HW := hid hW
  have HOK := hid hok
  have HMM := hid hm
  have K1 := hid (fun W (hW : PsO W C X) => pkind_any C X W hW)
  have hmb : m ≤ 4002 := by omega
  have hkb := hW.box
  clear hY hO hl hW hok hm
  cases b
  by_cases h9 : kindX X = 9
  rcases X with e | ⟨_ | ⟨t, r⟩, ns⟩
  ·exact absurd (show (0 : Nat) = 9 from h9) (by decide)
  ·exact absurd (show (0 : Nat) = 9 from h9) (by decide)
  have hk9 : t.k = 9 := h9
  have h0 := HO.out
  obtain ⟨n, hp, hd9⟩ := h0
  have hn : n < C.all.length := by
   rcases Nat.lt_or_ge n C.all.length with h1 | h1
   ·exact h1
   ·rw [List.drop_eq_nil_of_le h1] at hd9
    cases hd9
  obtain ⟨t', bb, oo, e1, hm9, hA, t0, t1, t2⟩ := hp.tok hn
  rw [hd9] at e1
  injection e1 with e1 e2
  subst e1
  clear e2 t0 t2
  have b9 : ((kindX (.ok ⟨t :: r, ns⟩) : Int) == 9) = true := by rw [h9]; rfl
  obtain ⟨TB, hTB⟩ : ∃ TB : ByteArray, TB = ⟨t.t.toArray⟩ := ⟨_, rfl⟩
  rw [← hTB] at t1
  have hTd : TB.data.toList = t.t := by rw [hTB]
  have htz := (hp.ok t hm9).1
  have hl9 := hp.len
  have HP := hid hp
  have HA9 := hid hA
  have HD9 := hid hd9
  have HTB := hid hTB
  have HTD := hid hTd
  have HMN := hid (HOK.out _ rfl)
  have KY0 := hid (fun Y (hY : Ext wr Y) => (key_any k TB Y ((HO.out.ext hY).mxx) (by show TB.data.toList.length ≤ _; rw [hTd]; omega)))
  rw [hTd] at KY0
  go_wp2_with fail
  refine (K1.out _ HO.out).mono ?_
  rintro e w2 ⟨rfl, q, rfl⟩
  have KK := hid (fun y : ExtW (wr.drewN q) => (pkind_any C (.ok ⟨t :: r, ns⟩) y.v (HO.out.ext ((((Ext.refl wr).drewN q)).trans y.h))).mono (fun e w' (hh : _ ∧ ∃ q, w' = y.v.drewN q) => (show _ ∧ Ext y.v w' from ⟨hh.1, by obtain ⟨q, e⟩ := hh.2; rw [e]; exact (Ext.refl _).drewN q⟩)))
  have KY := hid (fun y : ExtW (wr.drewN q) => KY0.out y.v ((((Ext.refl wr).drewN q)).trans y.h))
  have y1 : ∀ y : ExtW (wr.drewN q), y.v.cell? ⟨C.g, 1, none⟩ = some (.slice (some ⟨bb, oo, none⟩) C.all.length C.c) := fun y => by rw [← HA9.out]; exact (HP.out.ext ((((Ext.refl wr).drewN q)).trans y.h)).cells.2.1
  have y2 : ∀ y : ExtW (wr.drewN q), y.v.cell? ⟨C.g, 2, none⟩ = some (.int .i64 n) := fun y => (HP.out.ext ((((Ext.refl wr).drewN q)).trans y.h)).cells.2.2.1
  have y3 : ∀ y : ExtW (wr.drewN q), y.v.cell? ⟨bb, oo + n * 4 + 1, none⟩ = some (.string TB) := fun y => by rw [HTB.out]; exact (HP.out.ext ((((Ext.refl wr).drewN q)).trans y.h)).tok_at HD9.out HA9.out
  have y4 : ∀ y : ExtW (wr.drewN q), y.v.cell? ⟨w.heap.size, 0, none⟩ = some (.int .i64 k) := fun y => (HW.out.box.ext ((((Ext.refl wr).drewN q)).trans y.h)).cell 0 _ rfl
  clear hp hA hd9 hTB hTd hm9 t1
  cases hkp : keyB k t.t
  rw [hkp] at KY
  go_wp2_with fail
  refine wp_region_ext (by kernel_rfl) (by kernel_rfl) ?_
  repeat (go_big_quiet_step (first | (go_at_call 94; exact ExtW.call (KK.out _)) | (go_at_call 165; exact ExtW.call (KY.out _))))
  refine wpQuiet_nil ?_
  intro wx hx
  have HX6 := hid (show Ext (wr.drewN q) wx from by obtain ⟨y, hy⟩ := hx; rw [hy]; exact y.h)
  clear hx
  clear y1 y2 y3 y4
  have GQ0 : KsG wr (wx) C ((.ok ⟨t :: r, ns⟩)) k d c ks false := ⟨(.ok ⟨t :: r, ns⟩), Exc.of_ext ((((Ext.refl wr).drewN q)).trans HX6.out), HO.out.ext ((((Ext.refl wr).drewN q)).trans HX6.out), (fun W Xb Xc Ym Xd hWd hXb hXc hYm hXd => by
   obtain ⟨e, e1, e2⟩ := rd_unfit (E := C.s.size) (k := k) (d := d) (c := c) (ks := ks) (r := r) (ns := ns) hk9 hkp
   exact rd_err (hXb.trans e1) e2 hXc hYm hXd), (fun st0 b1 => b1), (fun e h => by cases h)⟩
  obtain ⟨wq, hwq⟩ : ∃ wq, wq = wx := ⟨_, rfl⟩
  rw [← hwq] at GQ0 ⊢
  have GQ := hid GQ0
  clear GQ0 hwq
  rotate_left
  rw [hkp] at KY
  by_cases h20 : 20 ≤ m
  have hmI : (20 : Int) ≤ (m : Int) := by omega
  go_wp2_with fail
  refine wp_region_ext (by kernel_rfl) (by kernel_rfl) ?_
  repeat (go_big_quiet_step (first | (go_at_call 94; exact ExtW.call (KK.out _)) | (go_at_call 165; exact ExtW.call (KY.out _))))
  refine wpQuiet_nil ?_
  intro wx hx
  have HX6 := hid (show Ext (wr.drewN q) wx from by obtain ⟨y, hy⟩ := hx; rw [hy]; exact y.h)
  clear hx
  clear y1 y2 y3 y4
  have KF6 := hid (pfailW_any C n ns 6 wx (HP.out.ext ((((Ext.refl wr).drewN q)).trans HX6.out)) (by decide))
  go_wp2_with fail
  refine KF6.out.mono ?_
  rintro e w7 ⟨rfl, hp7, hx7⟩
  have HPV := hid hp7
  have HE7 := hid ((Exc.of_ext ((((Ext.refl wr).drewN q)).trans HX6.out)).trans hx7)
  have HMV := hid (HW.out.go HE7.out).map
  have HO7 := hid (show PsO w7 C (.error (6, t.a)) from ⟨by decide, n, ns, by have h := hp7; rw [HD9.out] at h; exact h⟩)
  clear hp7 hx7 KF6
  cases hse : decide (t.t ∈ seen)
  have q1 : (w7).cell? ⟨C.g, 1, none⟩ = some (.slice (some ⟨bb, oo, none⟩) C.all.length C.c) := by rw [← HA9.out]; exact HPV.out.cells.2.1
  have q2 : (w7).cell? ⟨C.g, 2, none⟩ = some (.int .i64 n) := HPV.out.cells.2.2.1
  have q3 : (w7).cell? ⟨bb, oo + n * 4 + 1, none⟩ = some (.string TB) := by rw [HTB.out]; exact HPV.out.tok_at HD9.out HA9.out
  have hlk : ∀ a, (Instr.lookup 122 (.map (some (w.heap.size + 1))) (.string TB) false).run Tryz.prog ((w7).drewN a) = .ok (.bool (decide (t.t ∈ seen))) ((w7).drewN a) := fun a => by
   rw [← HTD.out]
   exact (HMV.out.ext ((Ext.refl _).drewN a)).lookup Tryz.underlying9 Tryz.underlying4 Tryz.underlying122 (by kernel_rfl) TB (by unfold maxLen; rw [← size_list, HTD.out]; omega)
  rw [hse] at hlk
  have HLK := hid hlk
  clear hlk
  go_wp2_with fail
  go_quiet ((rw [HLK.out]; exact ⟨rfl, rfl⟩))
  clear q1 q2 q3 HLK
  have GQ0 : KsG wr (w7.drewN nq) C ((.ok ⟨t :: r, ns⟩)) k d c ks false := ⟨(.error (6, t.a)), HE7.out.trans (Exc.of_ext ((Ext.refl w7).drewN nq)), HO7.out.ext ((Ext.refl w7).drewN nq), (fun W Xb Xc Ym Xd hWd hXb hXc hYm hXd => rd_err (show Xb = .error (6, t.a) from hXb) (rd_many hk9 hkp (by have h1 := HMN.out.2.1; omega)) hXc hYm hXd), (fun st0 b1 => by cases b1), (fun e h => by cases h)⟩
  obtain ⟨wq, hwq⟩ : ∃ wq, wq = w7.drewN nq := ⟨_, rfl⟩
  rw [← hwq] at GQ0 ⊢
  have GQ := hid GQ0
  clear GQ0 hwq
  rotate_left
  have q1 : (w7).cell? ⟨C.g, 1, none⟩ = some (.slice (some ⟨bb, oo, none⟩) C.all.length C.c) := by rw [← HA9.out]; exact HPV.out.cells.2.1
  have q2 : (w7).cell? ⟨C.g, 2, none⟩ = some (.int .i64 n) := HPV.out.cells.2.2.1
  have q3 : (w7).cell? ⟨bb, oo + n * 4 + 1, none⟩ = some (.string TB) := by rw [HTB.out]; exact HPV.out.tok_at HD9.out HA9.out
  have hlk : ∀ a, (Instr.lookup 122 (.map (some (w.heap.size + 1))) (.string TB) false).run Tryz.prog ((w7).drewN a) = .ok (.bool (decide (t.t ∈ seen))) ((w7).drewN a) := fun a => by
   rw [← HTD.out]
   exact (HMV.out.ext ((Ext.refl _).drewN a)).lookup Tryz.underlying9 Tryz.underlying4 Tryz.underlying122 (by kernel_rfl) TB (by unfold maxLen; rw [← size_list, HTD.out]; omega)
  rw [hse] at hlk
  have HLK := hid hlk
  clear hlk
  go_wp2_with fail
  go_quiet ((rw [HLK.out]; exact ⟨rfl, rfl⟩))
  clear q1 q2 q3 HLK
  have KF9 := hid (pfail_any C (.error (6, t.a)) 9 (w7.drewN nq) (HO7.out.ext ((Ext.refl w7).drewN nq)) (by decide))
  go_wp2_with fail
  refine KF9.out.mono ?_
  rintro e w8a ⟨rfl, ho8, hx8⟩
  have HO8A := hid ho8
  have HE8 := hid ((HE7.out.trans (Exc.of_ext ((Ext.refl w7).drewN nq))).trans hx8)
  clear ho8 hx8 KF9
  have GQ0 : KsG wr (w8a) C ((.ok ⟨t :: r, ns⟩)) k d c ks false := ⟨(.error (6, t.a)), HE8.out, HO8A.out, (fun W Xb Xc Ym Xd hWd hXb hXc hYm hXd => rd_err (show Xb = .error (6, t.a) from hXb) (rd_many hk9 hkp (by have h1 := HMN.out.2.1; omega)) hXc hYm hXd), (fun st0 b1 => by cases b1), (fun e h => by cases h)⟩
  obtain ⟨wq, hwq⟩ : ∃ wq, wq = w8a := ⟨_, rfl⟩
  rw [← hwq] at GQ0 ⊢
  have GQ := hid GQ0
  clear GQ0 hwq
  rotate_left
  have hmI : ¬ (20 : Int) ≤ (m : Int) := by omega
  cases hse : decide (t.t ∈ seen)
  go_wp2_with fail
  refine wp_region_ext (by kernel_rfl) (by kernel_rfl) ?_
  repeat (go_big_quiet_step (first | (go_at_call 94; exact ExtW.call (KK.out _)) | (go_at_call 165; exact ExtW.call (KY.out _))))
  refine wpQuiet_nil ?_
  intro wx hx
  have HX6 := hid (show Ext (wr.drewN q) wx from by obtain ⟨y, hy⟩ := hx; rw [hy]; exact y.h)
  clear hx
  clear y1 y2 y3 y4
  have HPV := hid (HP.out.ext ((((Ext.refl wr).drewN q)).trans HX6.out))
  have HMV := hid (HW.out.map.ext ((((Ext.refl wr).drewN q)).trans HX6.out))
  have q1 : (wx).cell? ⟨C.g, 1, none⟩ = some (.slice (some ⟨bb, oo, none⟩) C.all.length C.c) := by rw [← HA9.out]; exact HPV.out.cells.2.1
  have q2 : (wx).cell? ⟨C.g, 2, none⟩ = some (.int .i64 n) := HPV.out.cells.2.2.1
  have q3 : (wx).cell? ⟨bb, oo + n * 4 + 1, none⟩ = some (.string TB) := by rw [HTB.out]; exact HPV.out.tok_at HD9.out HA9.out
  have hlk : ∀ a, (Instr.lookup 122 (.map (some (w.heap.size + 1))) (.string TB) false).run Tryz.prog ((wx).drewN a) = .ok (.bool (decide (t.t ∈ seen))) ((wx).drewN a) := fun a => by
   rw [← HTD.out]
   exact (HMV.out.ext ((Ext.refl _).drewN a)).lookup Tryz.underlying9 Tryz.underlying4 Tryz.underlying122 (by kernel_rfl) TB (by unfold maxLen; rw [← size_list, HTD.out]; omega)
  rw [hse] at hlk
  have HLK := hid hlk
  clear hlk
  go_wp2_with fail
  go_quiet ((rw [HLK.out]; exact ⟨rfl, rfl⟩))
  clear q1 q2 q3 HLK
  have GQ0 : KsG wr (wx.drewN nq) C ((.ok ⟨t :: r, ns⟩)) k d c ks false := ⟨(.ok ⟨t :: r, ns⟩), Exc.of_ext (((((Ext.refl wr).drewN q)).trans HX6.out).drewN nq), HO.out.ext (((((Ext.refl wr).drewN q)).trans HX6.out).drewN nq), (fun W Xb Xc Ym Xd hWd hXb hXc hYm hXd => rd_good hk9 hkp (by have h1 := HMN.out.2.1; omega) (fun e => by have h1 := (HMN.out.2.2.2.1 _).2 e; exact absurd h1 (of_decide_eq_false hse)) hWd hXb hXc hYm hXd), (fun st0 b1 => b1), (fun e h => by cases h)⟩
  obtain ⟨wq, hwq⟩ : ∃ wq, wq = wx.drewN nq := ⟨_, rfl⟩
  rw [← hwq] at GQ0 ⊢
  have GQ := hid GQ0
  clear GQ0 hwq
  rotate_left
  go_wp2_with fail
  refine wp_region_ext (by kernel_rfl) (by kernel_rfl) ?_
  repeat (go_big_quiet_step (first | (go_at_call 94; exact ExtW.call (KK.out _)) | (go_at_call 165; exact ExtW.call (KY.out _))))
  refine wpQuiet_nil ?_
  intro wx hx
  have HX6 := hid (show Ext (wr.drewN q) wx from by obtain ⟨y, hy⟩ := hx; rw [hy]; exact y.h)
  clear hx
  clear y1 y2 y3 y4
  have HPV := hid (HP.out.ext ((((Ext.refl wr).drewN q)).trans HX6.out))
  have HMV := hid (HW.out.map.ext ((((Ext.refl wr).drewN q)).trans HX6.out))
  have q1 : (wx).cell? ⟨C.g, 1, none⟩ = some (.slice (some ⟨bb, oo, none⟩) C.all.length C.c) := by rw [← HA9.out]; exact HPV.out.cells.2.1
  have q2 : (wx).cell? ⟨C.g, 2, none⟩ = some (.int .i64 n) := HPV.out.cells.2.2.1
  have q3 : (wx).cell? ⟨bb, oo + n * 4 + 1, none⟩ = some (.string TB) := by rw [HTB.out]; exact HPV.out.tok_at HD9.out HA9.out
  have hlk : ∀ a, (Instr.lookup 122 (.map (some (w.heap.size + 1))) (.string TB) false).run Tryz.prog ((wx).drewN a) = .ok (.bool (decide (t.t ∈ seen))) ((wx).drewN a) := fun a => by
   rw [← HTD.out]
   exact (HMV.out.ext ((Ext.refl _).drewN a)).lookup Tryz.underlying9 Tryz.underlying4 Tryz.underlying122 (by kernel_rfl) TB (by unfold maxLen; rw [← size_list, HTD.out]; omega)
  rw [hse] at hlk
  have HLK := hid hlk
  clear hlk
  go_wp2_with fail
  go_quiet ((rw [HLK.out]; exact ⟨rfl, rfl⟩))
  clear q1 q2 q3 HLK
  have KF9 := hid (pfail_any C (.ok ⟨t :: r, ns⟩) 9 (wx.drewN nq) (HO.out.ext (((((Ext.refl wr).drewN q)).trans HX6.out).drewN nq)) (by decide))
  go_wp2_with fail
  refine KF9.out.mono ?_
  rintro e w8a ⟨rfl, ho8, hx8⟩
  have HO8A := hid ho8
  have HE8 := hid ((Exc.of_ext (((((Ext.refl wr).drewN q)).trans HX6.out).drewN nq)).trans hx8)
  clear ho8 hx8 KF9
  have GQ0 : KsG wr (w8a) C ((.ok ⟨t :: r, ns⟩)) k d c ks false := ⟨(.error (9, t.a)), HE8.out, HO8A.out, (fun W Xb Xc Ym Xd hWd hXb hXc hYm hXd => rd_err (show Xb = .error (9, t.a) from hXb) (rd_twice hk9 hkp (by have h1 := HMN.out.2.1; omega) ((HMN.out.2.2.2.1 _).1 (of_decide_eq_true hse))) hXc hYm hXd), (fun st0 b1 => by cases b1), (fun e h => by cases h)⟩
  obtain ⟨wq, hwq⟩ : ∃ wq, wq = w8a := ⟨_, rfl⟩
  rw [← hwq] at GQ0 ⊢
  have GQ := hid GQ0
  clear GQ0 hwq
  rotate_left
  ·have b9 : ((kindX X : Int) == 9) = false := by rw [beq_eq_false_iff_ne]; omega
   go_wp2_with fail
   refine (K1.out _ HO.out).mono ?_
   rintro e w2 ⟨rfl, q, rfl⟩
   have xq : Ext wr (wr.drewN q) := (Ext.refl wr).drewN q
   by_cases h3 : kindX X = 3
   rotate_left
   ·have b3 : ((kindX X : Int) == 3) = false := by rw [beq_eq_false_iff_ne]; omega
    go_wp2_with fail
    refine (K1.out _ (HO.out.ext xq)).mono ?_
    rintro e w3 ⟨rfl, q2, rfl⟩
    go_wp2
    go_ret
    have xx : Ext wr (wr.drewN (q + q2)) := (Ext.refl wr).drewN (q + q2)
    refine kas_ret HY.out HW.out HOK.out h9 (Exc.of_ext xx) (HO.out.ext xx) ⟨fun e h => h, fun st h => ⟨fun _ => h, fun e => absurd (by rw [h]; exact e) h3⟩⟩
   ·have b3 : ((kindX X : Int) == 3) = true := by rw [h3]; rfl
    have KF := hid (fun Y (hY : PsO Y C X) => pfail_any C X 13 Y hY (by decide))
    cases ho : decide (otherP ∈ seen)
    ·go_wp2_with fail
     refine (K1.out _ (HO.out.ext xq)).mono ?_
     rintro e w3 ⟨rfl, q2, rfl⟩
     have xx : Ext wr (wr.drewN (q + q2)) := (Ext.refl wr).drewN (q + q2)
     have hlk := (HW.out.map.ext xx).lookup Tryz.underlying9 Tryz.underlying4 Tryz.underlying122 (by kernel_rfl) ⟨#[111, 116, 104, 101, 114]⟩ (by decide)
     rw [show decide ((⟨#[111, 116, 104, 101, 114]⟩ : ByteArray).data.toList ∈ seen) = false from ho] at hlk
     go_wp2_with fail
     refine (KF.out _ (HO.out.ext xx)).mono ?_
     rintro e w4 ⟨rfl, ho4, hx4⟩
     have HO4 := hid ho4
     have HX4 := hid hx4
     clear ho4 hx4
     go_wp2
     go_ret
     refine kas_ret HY.out HW.out HOK.out h9 ((Exc.of_ext xx).trans HX4.out) HO4.out ⟨fun e h => by rw [h]; rfl, fun st h => ⟨fun h4 => absurd (by rw [h] at h3; exact h3) h4, fun _ => ⟨fun h4 => absurd h4 (of_decide_eq_false ho), fun _ => by rw [h]; rfl⟩⟩⟩
    ·go_wp2_with fail
     refine (K1.out _ (HO.out.ext xq)).mono ?_
     rintro e w3 ⟨rfl, q2, rfl⟩
     have xx : Ext wr (wr.drewN (q + q2)) := (Ext.refl wr).drewN (q + q2)
     have hlk := (HW.out.map.ext xx).lookup Tryz.underlying9 Tryz.underlying4 Tryz.underlying122 (by kernel_rfl) ⟨#[111, 116, 104, 101, 114]⟩ (by decide)
     rw [show decide ((⟨#[111, 116, 104, 101, 114]⟩ : ByteArray).data.toList ∈ seen) = true from ho] at hlk
     go_wp2_with fail
     go_ret
     refine kas_ret HY.out HW.out HOK.out h9 (Exc.of_ext xx) (HO.out.ext xx) ⟨fun e h => h, fun st h => ⟨fun _ => h, fun _ => ⟨fun _ => h, fun h4 => absurd (of_decide_eq_true ho) h4⟩⟩⟩
  by_cases h9 : kindX X = 9
  rcases X with e | ⟨_ | ⟨t, r⟩, ns⟩
  ·exact absurd (show (0 : Nat) = 9 from h9) (by decide)
  ·exact absurd (show (0 : Nat) = 9 from h9) (by decide)
  have hk9 : t.k = 9 := h9
  have h0 := HO.out
  obtain ⟨n, hp, hd9⟩ := h0
  have hn : n < C.all.length := by
   rcases Nat.lt_or_ge n C.all.length with h1 | h1
   ·exact h1
   ·rw [List.drop_eq_nil_of_le h1] at hd9
    cases hd9
  obtain ⟨t', bb, oo, e1, hm9, hA, t0, t1, t2⟩ := hp.tok hn
  rw [hd9] at e1
  injection e1 with e1 e2
  subst e1
  clear e2 t0 t2
  have b9 : ((kindX (.ok ⟨t :: r, ns⟩) : Int) == 9) = true := by rw [h9]; rfl
  obtain ⟨TB, hTB⟩ : ∃ TB : ByteArray, TB = ⟨t.t.toArray⟩ := ⟨_, rfl⟩
  rw [← hTB] at t1
  have hTd : TB.data.toList = t.t := by rw [hTB]
  have htz := (hp.ok t hm9).1
  have hl9 := hp.len
  have HP := hid hp
  have HA9 := hid hA
  have HD9 := hid hd9
  have HTB := hid hTB
  have HTD := hid hTd
  have HMN := hid (HOK.out _ rfl)
  have KY0 := hid (fun Y (hY : Ext wr Y) => (key_any k TB Y ((HO.out.ext hY).mxx) (by show TB.data.toList.length ≤ _; rw [hTd]; omega)))
  rw [hTd] at KY0
  have KK := hid (fun y : ExtW (wr) => (pkind_any C (.ok ⟨t :: r, ns⟩) y.v (HO.out.ext (((Ext.refl wr)).trans y.h))).mono (fun e w' (hh : _ ∧ ∃ q, w' = y.v.drewN q) => (show _ ∧ Ext y.v w' from ⟨hh.1, by obtain ⟨q, e⟩ := hh.2; rw [e]; exact (Ext.refl _).drewN q⟩)))
  have KY := hid (fun y : ExtW (wr) => KY0.out y.v (((Ext.refl wr)).trans y.h))
  have y1 : ∀ y : ExtW (wr), y.v.cell? ⟨C.g, 1, none⟩ = some (.slice (some ⟨bb, oo, none⟩) C.all.length C.c) := fun y => by rw [← HA9.out]; exact (HP.out.ext (((Ext.refl wr)).trans y.h)).cells.2.1
  have y2 : ∀ y : ExtW (wr), y.v.cell? ⟨C.g, 2, none⟩ = some (.int .i64 n) := fun y => (HP.out.ext (((Ext.refl wr)).trans y.h)).cells.2.2.1
  have y3 : ∀ y : ExtW (wr), y.v.cell? ⟨bb, oo + n * 4 + 1, none⟩ = some (.string TB) := fun y => by rw [HTB.out]; exact (HP.out.ext (((Ext.refl wr)).trans y.h)).tok_at HD9.out HA9.out
  have y4 : ∀ y : ExtW (wr), y.v.cell? ⟨w.heap.size, 0, none⟩ = some (.int .i64 k) := fun y => (HW.out.box.ext (((Ext.refl wr)).trans y.h)).cell 0 _ rfl
  clear hp hA hd9 hTB hTd hm9 t1
  cases hkp : keyB k t.t
  rw [hkp] at KY
  go_wp2_with fail
  refine wp_region_ext (by kernel_rfl) (by kernel_rfl) ?_
  repeat (go_big_quiet_step (first | (go_at_call 94; exact ExtW.call (KK.out _)) | (go_at_call 165; exact ExtW.call (KY.out _))))
  refine wpQuiet_nil ?_
  intro wx hx
  have HX6 := hid (show Ext (wr) wx from by obtain ⟨y, hy⟩ := hx; rw [hy]; exact y.h)
  clear hx
  clear y1 y2 y3 y4
  have GQ0 : KsG wr (wx) C ((.ok ⟨t :: r, ns⟩)) k d c ks true := ⟨(.ok ⟨t :: r, ns⟩), Exc.of_ext (((Ext.refl wr)).trans HX6.out), HO.out.ext (((Ext.refl wr)).trans HX6.out), (fun W Xb Xc Ym Xd hWd hXb hXc hYm hXd => by
   obtain ⟨e, e1, e2⟩ := rd_unfit (E := C.s.size) (k := k) (d := d) (c := c) (ks := ks) (r := r) (ns := ns) hk9 hkp
   exact rd_err (hXb.trans e1) e2 hXc hYm hXd), (fun st0 b1 => b1), (fun _ _ => rfl)⟩
  obtain ⟨wq, hwq⟩ : ∃ wq, wq = wx := ⟨_, rfl⟩
  rw [← hwq] at GQ0 ⊢
  have GQ := hid GQ0
  clear GQ0 hwq
  rotate_left
  have hks : ks = [] := by
   have h1 := HMN.out.2.2.1
   cases ks with
   | nil => rfl
   | cons a l => cases h1
  have hm0 : m = 0 := by rw [HMN.out.2.1, hks]; rfl
  have hmI : ¬ (20 : Int) ≤ (m : Int) := by omega
  have hse : decide (t.t ∈ seen) = false := decide_eq_false (fun e => by have h1 := (HMN.out.2.2.2.1 _).1 e; rw [hks] at h1; cases h1)
  clear hm0 hks
  rw [hkp] at KY
  go_wp2_with fail
  refine wp_region_ext (by kernel_rfl) (by kernel_rfl) ?_
  repeat (go_big_quiet_step (first | (go_at_call 94; exact ExtW.call (KK.out _)) | (go_at_call 165; exact ExtW.call (KY.out _))))
  refine wpQuiet_nil ?_
  intro wx hx
  have HX6 := hid (show Ext (wr) wx from by obtain ⟨y, hy⟩ := hx; rw [hy]; exact y.h)
  clear hx
  clear y1 y2 y3 y4
  have HPV := hid (HP.out.ext (((Ext.refl wr)).trans HX6.out))
  have HMV := hid (HW.out.map.ext (((Ext.refl wr)).trans HX6.out))
  have q1 : (wx).cell? ⟨C.g, 1, none⟩ = some (.slice (some ⟨bb, oo, none⟩) C.all.length C.c) := by rw [← HA9.out]; exact HPV.out.cells.2.1
  have q2 : (wx).cell? ⟨C.g, 2, none⟩ = some (.int .i64 n) := HPV.out.cells.2.2.1
  have q3 : (wx).cell? ⟨bb, oo + n * 4 + 1, none⟩ = some (.string TB) := by rw [HTB.out]; exact HPV.out.tok_at HD9.out HA9.out
  have hlk : ∀ a, (Instr.lookup 122 (.map (some (w.heap.size + 1))) (.string TB) false).run Tryz.prog ((wx).drewN a) = .ok (.bool (decide (t.t ∈ seen))) ((wx).drewN a) := fun a => by
   rw [← HTD.out]
   exact (HMV.out.ext ((Ext.refl _).drewN a)).lookup Tryz.underlying9 Tryz.underlying4 Tryz.underlying122 (by kernel_rfl) TB (by unfold maxLen; rw [← size_list, HTD.out]; omega)
  rw [hse] at hlk
  have HLK := hid hlk
  clear hlk
  go_wp2_with fail
  go_quiet ((rw [HLK.out]; exact ⟨rfl, rfl⟩))
  clear q1 q2 q3 HLK
  have GQ0 : KsG wr (wx.drewN nq) C ((.ok ⟨t :: r, ns⟩)) k d c ks true := ⟨(.ok ⟨t :: r, ns⟩), Exc.of_ext ((((Ext.refl wr)).trans HX6.out).drewN nq), HO.out.ext ((((Ext.refl wr)).trans HX6.out).drewN nq), (fun W Xb Xc Ym Xd hWd hXb hXc hYm hXd => rd_good hk9 hkp (by have h1 := HMN.out.2.1; omega) (fun e => by have h1 := (HMN.out.2.2.2.1 _).2 e; exact absurd h1 (of_decide_eq_false hse)) hWd hXb hXc hYm hXd), (fun st0 b1 => b1), (fun _ _ => rfl)⟩
  obtain ⟨wq, hwq⟩ : ∃ wq, wq = wx.drewN nq := ⟨_, rfl⟩
  rw [← hwq] at GQ0 ⊢
  have GQ := hid GQ0
  clear GQ0 hwq
  rotate_left
  have KK := hid (fun y : ExtW (wr) => (pkind_any C X y.v (HO.out.ext ((Ext.refl wr).trans y.h))).mono (fun e w' (hh : _ ∧ ∃ q, w' = y.v.drewN q) => (show _ ∧ Ext y.v w' from ⟨hh.1, by obtain ⟨q, e⟩ := hh.2; rw [e]; exact (Ext.refl _).drewN q⟩)))
  have b9 : ((kindX X : Int) == 9) = false := by rw [beq_eq_false_iff_ne]; omega
  go_wp2_with fail
  refine wp_region_ext (by kernel_rfl) (by kernel_rfl) ?_
  repeat (go_big_quiet_step (first | (go_at_call 94; exact ExtW.call (KK.out _)) | (go_at_call 165; exact ExtW.call (KY.out _))))
  refine wpQuiet_nil ?_
  intro wx hx
  have HX6 := hid (show Ext (wr) wx from by obtain ⟨y, hy⟩ := hx; rw [hy]; exact y.h)
  clear hx
  have GQ0 : KsG wr (wx) C (X) k d c ks true := ⟨X, (Exc.of_ext ((Ext.refl wr).trans HX6.out)), HO.out.ext ((Ext.refl wr).trans HX6.out), (fun W Xb Xc Ym Xd hWd hXb hXc hYm hXd => by
   obtain ⟨e, e1, e2⟩ := rd_none (E := C.s.size) (k := k) (d := d) (c := c) (ks := ks) h9 (fun st h => by have h1 := (HOK.out st h).2.2.1; cases ks with | nil => rfl | cons a l => cases h1)
   exact rd_err (hXb.trans e1) e2 hXc hYm hXd), (fun st0 b1 => b1), (fun _ _ => rfl)⟩
  obtain ⟨wq, hwq⟩ : ∃ wq, wq = wx := ⟨_, rfl⟩
  rw [← hwq] at GQ0 ⊢
  have GQ := hid GQ0
  clear GQ0 hwq
  rotate_left
  all_goals
   obtain ⟨Xq, hxa, hoa, hrd, hox, hbe⟩ := GQ.out
   have HXA := hid hxa
   have HOA := hid hoa
   have HBE := hid hbe
   have HWA := hid (HW.out.go HXA.out)
   have KW := hid (kword_any C Xq k w.heap.size wq HOA.out HWA.out.box)
   clear GQ hxa hoa hbe
   obtain ⟨W, hWd⟩ : ∃ W, W = wrdS (keyB k) Xq := ⟨_, rfl⟩
   obtain ⟨Xb, hXb⟩ : ∃ Xb, Xb = Xq.bind (wrdX C.s.size (keyB k)) := ⟨_, rfl⟩
   rw [← hWd, ← hXb] at KW
   obtain ⟨Xc, hXc⟩ : ∃ Xc, Xc = Xb.bind (takeX C.s.size 2) := ⟨_, rfl⟩
   obtain ⟨Ym, hYm⟩ : ∃ Ym, Ym = Xc.bind (msgC C.s.size (d + 1) c) := ⟨_, rfl⟩
   obtain ⟨Xd, hXd⟩ : ∃ Xd, Xd = (Ym.map (·.2)).bind (takeX C.s.size 3) := ⟨_, rfl⟩
   have HRD := hid (hrd W Xb Xc Ym Xd hWd hXb hXc hYm hXd)
   have HWS := hid (show W.size ≤ 4000 from by rw [hWd]; exact wrd_size HOA.out)
   have HCL : ∀ st, Xc = .ok st → st.left.length < N ∧ d + 1 ≤ 8 := by
    intro st hst
    rw [hst] at hXc
    obtain ⟨st1, a1, a2⟩ := bind_ok.1 hXc.symm
    rw [a1] at hXb
    obtain ⟨st0, b1, b2⟩ := bind_ok.1 hXb.symm
    have c1 := takeX_len a2
    have c2 := wrdX_len b2
    have c3 := HL.out st0 (hox st0 b1)
    omega
   have KT2 := hid (fun Y (hY : PsO Y C Xb) => ptake_any C Xb 2 Y hY (by decide))
   rw [← hXc] at KT2
   have KM := hid (fun Y (hY : PsO Y C Xc) => (show Calls Tryz.prog 67 #[.pointer (some ⟨C.g, 0, none⟩), .int .i64 ((d : Int) + 1), .bool c] Y _ from hM C Xc (d + 1) c Y hY HCL (by omega)))
   rw [← hYm] at KM
   have KT3 := hid (fun Y (hY : PsO Y C (Ym.map (·.2))) => ptake_any C _ 3 Y hY (by decide))
   rw [← hXd] at KT3
   clear hWd hXb hXc hYm hXd HCL hrd hox
   go_wp2_with fail
   refine KW.out.mono ?_
   rintro e w3 ⟨rfl, ho3, hx3⟩
   have HX3 := hid (HXA.out.trans hx3)
   have HW3 := hid (HW.out.go HX3.out)
   have HO3 := hid ho3
   clear ho3 hx3 KW
   go_wp2_with (first
    | (at_mapUpdate; refine wpList_mapUpdateS rfl _ _ _ 122 9 4 rfl Tryz.underlying9 Tryz.underlying4 Tryz.underlying122 (w.heap.size + 1) _ _ rfl (HW3.out.map.ext ((Ext.refl w3).alloc _)) (by unfold maxLen; omega) W rfl rfl (by unfold maxLen; have := HWS.out; omega) ?_; intro w4 hm4 hg4; have HM4 := hid hm4; have HG4 := hid hg4; clear hm4 hg4))
   have HX3A := hid ((Ext.refl w3).alloc (.cells #[.string W, .slice none 0 0] 106))
   have HG4X := hid (Exc.grown (S := fun j => j = w.heap.size + 1) HG4.out rfl)
   have HSZ := hid (show w.heap.size + 2 ≤ wr.heap.size ∧ wr.heap.size ≤ w3.heap.size ∧ w3.heap.size < w4.heap.size from by
    have h1 := HW.out.map.lt
    have h2 := HX3.out.size
    have h3 := HG4X.out.size
    have h4 : (w3.alloc (.cells #[.string W, .slice none 0 0] 106)).heap.size = w3.heap.size + 1 := by simp
    omega)
   have HB4 := hid ((AtC.new w3 #[.string W, .slice none 0 0] : AtC 106 _ _ _).exc HG4X.out (fun e => by have := HSZ.out; omega))
   have HO4 := hid ((HO3.out.ext HX3A.out).exc0 HG4X.out (fun e => by have := HW.out.old; omega) (fun e => by have := HW.out.old; omega) (fun e => by omega) (fun h0 ad hA e => by have := HW.out.old.2.2.2 h0 ad hA; omega))
   have HBX4 := hid ((HW3.out.box.ext HX3A.out).exc HG4X.out (fun e => by omega))
   have HX4 := hid (show Exc (fun j => C.two j ∨ j = w.heap.size + 1 ∨ wr.heap.size ≤ j) wr w4 from ((HX3.out.mono fun j e => .inl e).trans (Exc.of_ext HX3A.out)).trans (HG4X.out.mono fun j e => .inr (.inl e)))
   have nsb : ¬ C.two (w.heap.size + 1) := fun e => by have := HW.out.old; rcases e with e | e <;> omega
   have nkb : ¬ C.two w.heap.size := fun e => by have := HW.out.old; rcases e with e | e <;> omega
   have ncb : ¬ C.two w3.heap.size := fun e => by have := HW.out.old; have := HSZ.out; rcases e with e | e <;> omega
   clear HG4
   refine (KT2.out _ HO4.out).mono ?_
   rintro e w5 ⟨rfl, ho5, hx5⟩
   have HM5 := hid (HM4.out.exc hx5 nsb)
   have HB5 := hid (HB4.out.exc hx5 ncb)
   have hbx5 := (HBX4.out.exc hx5 nkb).cell 0 _ rfl
   have HO5 := hid ho5
   have HX5 := hid (HX4.out.trans (hx5.mono fun j e => .inl e))
   have HZ5 := hid hx5.size
   clear ho5 hx5 KT2
   cases c0
   all_goals go_wp2_with fail
   all_goals first
    | (have hcv : c = true := HC.out; rw [hcv] at KM; clear hcv)
    | (have hcv : c = ((k : Int) != 9) := HC.out.trans (show (k != 9) = ((k : Int) != 9) from by rw [Bool.eq_iff_iff, bne_iff_ne, bne_iff_ne]; omega); rw [hcv] at KM; clear hcv)
   all_goals
    refine (KM.out _ HO5.out).mono ?_
    rintro e w6 ⟨⟨vA, vn, vc, rfl, hf6⟩, ho6, hx6⟩
    replace hf6 := fun f st h => (hf6 f st h).1
    have HB6 := hid (HB5.out.exc hx6 ncb)
    have y1 := HB6.out.cell 1 _ rfl
    have f1 := frz_of HB6.out 1
    have HS := hid (Exc.setCell (S := fun j => j = w3.heap.size) (w := w6) (p := ⟨w3.heap.size, 1, none⟩) rfl (.slice vA vn vc))
    have HB7 := hid (at_two1 (b1 := .slice vA vn vc) HB6.out)
    have HO7 := hid (ho6.exc0 HS.out (fun e => by have := HW.out.old; have := HSZ.out; omega) (fun e => by have := HW.out.old; have := HSZ.out; omega) (fun e => by have := HSZ.out; omega) (fun h0 ad hA e => by have := HW.out.old.2.2.2 h0 ad hA; have := HSZ.out; omega))
    have HM7 := hid ((HM5.out.exc hx6 nsb).exc HS.out (fun e => by have := HSZ.out; omega))
    have HX7 := hid (show Exc (fun j => C.two j ∨ j = w.heap.size + 1 ∨ wr.heap.size ≤ j) wr (w6.setCell ⟨w3.heap.size, 1, none⟩ (.slice vA vn vc)) from (HX5.out.trans (hx6.mono fun j e => .inl e)).trans (HS.out.mono fun j e => .inr (.inr (by have := HSZ.out; omega))))
    have HF7 := hid (fun g st hy => (hf6 g st hy).exc HS.out (fun j hj e => by have h1 := HSZ.out; have h2 := HZ5.out; omega) (ok' := fun j => wr.heap.size < j) (fun j hj => by have h1 := HSZ.out; have h2 := HZ5.out; omega))
    clear hf6 ho6 hx6 HS hbx5
    go_wp2_with fail
    generalize w6.setCell ⟨w3.heap.size, 1, none⟩ (.slice vA vn vc) = w7 at *
    clear y1 f1
    refine (KT3.out _ HO7.out).mono ?_
    rintro e w8 ⟨rfl, ho8, hx8⟩
    have HB8 := hid (HB7.out.exc hx8 ncb)
    have HO8 := hid ho8
    have HM8 := hid (HM7.out.exc hx8 nsb)
    have HX8 := hid (HX7.out.trans (hx8.mono fun j e => .inl e))
    have HF8 := hid (fun g st hy => (HF7.out g st hy).exc hx8 (fun j hj e => by have h1 := HSZ.out; have h2 := HW.out.old; have h3 := HW.out.exc.size; rcases e with e | e <;> omega) (ok' := fun j => wr.heap.size < j) (fun j hj => hj))
    clear ho8 hx8
    have y0 := HB8.out.cell 0 _ rfl
    have y1 := HB8.out.cell 1 _ rfl
    have HAL := hid ((Ext.refl w8).alloc (.cells #[.string W, .slice vA vn vc] 106))
    have HNC := hid (new_cells w8 #[.string W, .slice vA vn vc] 106)
    have OW : wr.ownsRow (w.heap.size + 2) 106 2 (.slice A m cc) m xs := HW.out.own
    have HOX := hid (own_ext (own_exc OW HX8.out (fun j hj e => by have h := OW.lt j hj; have h2 := HW.out.old; rcases e with (e | e) | e | e <;> omega)) HAL.out)
    have HONE := hid (two_one (.string W : Value) (.slice vA vn vc) ⟨rfl, rfl⟩)
    have HZ := hid (show w.heap.size + 2 ≤ (w8.alloc (.cells #[.string W, .slice vA vn vc] 106)).heap.size from Nat.le_trans (Nat.le_trans HSZ.out.1 HX8.out.size) HAL.out.size)
    go_wp2_with (first
     | (at_builtin; refine wpList_appN _ rfl _ _ 94 rfl (w.heap.size + 2) 106 i0 _ 2 40 Tryz.underlying94 hi hz0 hz1 hz2 rfl (by decide) _ m _ rfl HOX.out ⟨w8.heap.size, 0, none⟩ 1 1 _ rfl rfl HNC.out HONE.out (by unfold maxLen; omega) (by omega) HZ.out ?_; intro v9 w9 hown9 hgrow9 hwhere9; have HO9 := hid hown9; have HG9 := hid hgrow9; have HW9 := hid hwhere9; clear hown9 hgrow9 hwhere9))
    obtain ⟨g9, c9, rfl⟩ := own_succ HO9.out
    exact kas_go HY.out HL.out HW.out HOK.out HMM.out HBE.out HRD.out HX8.out HO8.out HF8.out HM8.out HO9.out HG9.out HW9.out
end Go.Proofs.YtiijdojihleggaaGreatDoor
