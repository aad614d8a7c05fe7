import Derived.Test.YtiijdojihleggaaGreatDoorQTw
import Derived.Test.YtiijdojihleggaaGreatDoorQNB1
set_option maxRecDepth 100000
set_option linter.unusedSimpArgs false
set_option linter.unusedVariables false
open Go.Lib (hid)
namespace Go.Proofs.YtiijdojihleggaaGreatDoor
open Go.RowKit Go.Maps Go.Sort Go.WideMaps
theorem dr2 (w : World) (a b : Nat) : ∃ q, (w.drewN a).drewN b = w.drewN q := ⟨a + b, by simp [World.drewN, Nat.add_assoc]⟩
theorem tokC_len (t : Tok) : (tokC t).length = 4 := rfl
theorem MapS.exc {P : Program} {k e : TypeId} {b n : Nat} {ks : List (List UInt8)} {S : Nat → Prop} {w w' : World} (h : MapS P k e w b n ks) (hw : Exc S w w') (hb : ¬ S b) : MapS P k e w' b n ks := by
 have hlt := h.lt
 obtain ⟨D, ⟨es, clock, hh, r⟩, h2⟩ := h
 exact ⟨D, ⟨es, clock, (hw.block b hlt hb).trans hh, r⟩, h2⟩
theorem MapS.sized {P : Program} {k e : TypeId} {b n : Nat} {ks : List (List UInt8)} {w : World} (h : MapS P k e w b n ks) (hk : P.underlying k = some .string) (hnd : ks.Nodup) :
 ∃ D : DataW Unit, w.ownsMap P k (plainElem P e) b ks.length D ∧ Maps.size D = ks.length := by
 obtain ⟨D, ho, hs, hn, hm⟩ := h.keys hk
 have hl : (strKeys D).length = ks.length := ((List.perm_ext_iff_of_nodup hn hnd).2 hm).length_eq
 obtain ⟨es, hD, _⟩ := ho.entries (string_keyed hk)
 have hz : Maps.size D = ks.length := by
  rw [← hl]
  subst hD
  show es.length = (es.map fun p => strOf p.1).length
  rw [List.length_map]
 refine ⟨D, ?_, hz⟩
 obtain ⟨es', clock, h1, h2, h3, h4⟩ := ho
 refine ⟨es', clock, h1, h2, ?_, h4⟩
 rw [← hz, h4]
 simp [Maps.size, length_sorted]
theorem MapS.tight {P : Program} {k e : TypeId} {b n : Nat} {ks : List (List UInt8)} {w : World} (h : MapS P k e w b n ks) (hk : P.underlying k = some .string) (hnd : ks.Nodup) : MapS P k e w b ks.length ks := by
 obtain ⟨D, ho, h1, h2⟩ := h
 have hm : Maps.size D = ks.length := by
  obtain ⟨D', ho', hz⟩ := MapS.sized ⟨D, ho, h1, h2⟩ hk hnd
  have e1 : D' = D := by
   obtain ⟨es, c, a1, _, _, a4⟩ := ho
   obtain ⟨es', c', b1, _, _, b4⟩ := ho'
   rw [a1] at b1
   injection b1 with b1
   injection b1 with b1 _
   rw [a4, b4, b1]
  rw [← e1]; exact hz
 obtain ⟨es', clock, a1, a2, a3, a4⟩ := ho
 refine ⟨D, ⟨es', clock, a1, a2, ?_, a4⟩, h1, h2⟩
 rw [← hm, a4]
 simp [Maps.size, length_sorted]
structure Pc where
 g : Nat
 mb : Nat
 s : ByteArray
 A : Option Addr
 c : Nat
 all : List Tok
abbrev Pc.E (C : Pc) : Nat := C.s.size
def Pc.two (C : Pc) : Nat → Prop := fun k => k = C.g ∨ k = C.mb
structure PsW (w : World) (C : Pc) (next : Nat) (names : List By) (at_ e : Int) : Prop where
 blk : AtC 124 w C.g #[.string C.s, .slice C.A C.all.length C.c, .int .i64 next, .map (some C.mb), .int .i64 at_, .int .i64 e]
 toks : SlN w C.A C.all.length 4 (C.all.flatMap tokC)
 map : MapS Tryz.prog 9 4 w C.mb names.length names
 ne : C.g ≠ C.mb
 away : ∀ ad, C.A = some ad → ad.block ≠ C.g ∧ ad.block ≠ C.mb
 size : C.s.size ≤ 4000
 len : C.all.length ≤ 4000
 nx : next ≤ C.all.length
 ok : ∀ t ∈ C.all, t.t.length ≤ 4000 ∧ t.a ≤ 4000
 nd : names.Nodup
 few : names.length ≤ 20
 mx : ∃ m : Int, w.cell? ⟨0, 0, none⟩ = some (.int .i64 m)
 g0 : C.g ≠ 0
 m0 : C.mb ≠ 0
 good : ∀ t ∈ C.all, tokB t = true
theorem mx_exc {S : Nat → Prop} {w w' : World} (h : ∃ m : Int, w.cell? ⟨0, 0, none⟩ = some (.int .i64 m)) (hw : Exc S w w') (h0 : ¬ S 0) : ∃ m : Int, w'.cell? ⟨0, 0, none⟩ = some (.int .i64 m) := by
 obtain ⟨m, hm⟩ := h
 exact ⟨m, (hw.cell (World.block_lt_of_cell? _ _ hm) h0).trans hm⟩
theorem PsW.ext {w w' : World} {C : Pc} {n : Nat} {ns : List By} {a e : Int} (h : PsW w C n ns a e) (hw : Ext w w') : PsW w' C n ns a e :=
 ⟨h.blk.ext hw, h.toks.ext hw, h.map.ext hw, h.ne, h.away, h.size, h.len, h.nx, h.ok, h.nd, h.few, mx_exc h.mx (Exc.of_ext (S := fun _ => False) hw) id, h.g0, h.m0, h.good⟩
def PsO (w : World) (C : Pc) : Except Err St → Prop
 | .ok st => ∃ n, PsW w C n st.names 0 0 ∧ C.all.drop n = st.left
 | .error (e, a) => e ≠ 0 ∧ ∃ n ns, PsW w C n ns a e
theorem PsO.ext {w w' : World} {C : Pc} {X : Except Err St} (h : PsO w C X) (hw : Ext w w') : PsO w' C X := by
 rcases X with ⟨e, a⟩ | st
 ·obtain ⟨h0, n, ns, h⟩ := h
  exact ⟨h0, n, ns, h.ext hw⟩
 ·obtain ⟨n, h, hd⟩ := h
  exact ⟨n, h.ext hw, hd⟩
theorem PsO.any {w : World} {C : Pc} {X : Except Err St} (h : PsO w C X) : ∃ n ns a e, PsW w C n ns a e := by
 rcases X with ⟨e, a⟩ | st
 ·obtain ⟨h0, n, ns, h⟩ := h
  exact ⟨n, ns, _, _, h⟩
 ·obtain ⟨n, h, hd⟩ := h
  exact ⟨n, _, _, _, h⟩
def kindL : List Tok → Nat
 | [] => 0
 | t :: _ => t.k
def kindX : Except Err St → Nat
 | .ok st => kindL st.left
 | .error _ => 0
theorem PsW.cells {w : World} {C : Pc} {n : Nat} {ns : List By} {a e : Int} (h : PsW w C n ns a e) :
 w.cell? ⟨C.g, 0, none⟩ = some (.string C.s) ∧ w.cell? ⟨C.g, 1, none⟩ = some (.slice C.A C.all.length C.c) ∧ w.cell? ⟨C.g, 2, none⟩ = some (.int .i64 n) ∧
 w.cell? ⟨C.g, 3, none⟩ = some (.map (some C.mb)) ∧ w.cell? ⟨C.g, 4, none⟩ = some (.int .i64 a) ∧ w.cell? ⟨C.g, 5, none⟩ = some (.int .i64 e) :=
 ⟨h.blk.cell 0 _ rfl, h.blk.cell 1 _ rfl, h.blk.cell 2 _ rfl, h.blk.cell 3 _ rfl, h.blk.cell 4 _ rfl, h.blk.cell 5 _ rfl⟩
theorem PsW.tok {w : World} {C : Pc} {n : Nat} {ns : List By} {a e : Int} (h : PsW w C n ns a e) (hn : n < C.all.length) :
 ∃ t b o, C.all.drop n = t :: C.all.drop (n + 1) ∧ t ∈ C.all ∧ C.A = some ⟨b, o, none⟩ ∧ w.cell? ⟨b, o + n * 4, none⟩ = some (.int .i64 t.k) ∧ w.cell? ⟨b, o + n * 4 + 1, none⟩ = some (.string ⟨t.t.toArray⟩) ∧
   w.cell? ⟨b, o + n * 4 + 2, none⟩ = some (.int .i64 t.a) := by
 obtain ⟨t, ht⟩ : ∃ t, C.all[n]? = some t := ⟨_, List.getElem?_eq_getElem hn⟩
 obtain ⟨b, o, hA, hb, hc⟩ := flat_at tokC_len (by decide) h.toks ht
 refine ⟨t, b, o, ?_, List.mem_of_getElem? ht, hA, hc 0 _ rfl, hc 1 _ rfl, hc 2 _ rfl⟩
 rw [List.drop_eq_getElem_cons hn]
 congr 1
 exact (List.getElem?_eq_some_iff.1 ht).2
theorem kind_of {C : Pc} {n : Nat} (hn : ¬ n < C.all.length) : C.all.drop n = [] := List.drop_eq_nil_of_le (by omega)
set_option maxHeartbeats 2000000 in
theorem pkind_any (C : Pc) (X : Except Err St) (w : World) (h : PsO w C X) : Calls Tryz.prog 94 #[.pointer (some ⟨C.g, 0, none⟩)] w fun e w' => e = .returned (.int .i64 (kindX X)) ∧ ∃ q, w' = w.drewN q := by
 rcases X with ⟨ee, a⟩ | st
 ·obtain ⟨h0, n, ns, h⟩ := h
  obtain ⟨c0, c1, c2, c3, c4, c5⟩ := h.cells
  have b1 : (ee != 0) = true := by rw [bne_iff_ne]; exact h0
  clear h
  go_enter Tryz.func94, Tryz.ntmps94
  go_wp2
  go_quiet (fail)
  all_goals go_wp2
  all_goals go_ret
  all_goals exact ⟨rfl, _, rfl⟩
 ·obtain ⟨n, h, hd⟩ := h
  obtain ⟨c0, c1, c2, c3, c4, c5⟩ := h.cells
  have hl := h.len
  by_cases hn : n < C.all.length
  ·obtain ⟨t, b, o, e1, hm, hA, t0, t1, t2⟩ := h.tok hn
   have HF := hid (show kindX (.ok st) = t.k from by show kindL st.left = _; rw [← hd, e1]; rfl)
   have hnI : ¬ (C.all.length : Int) ≤ (n : Int) := by omega
   have hnJ : (n : Int) < (C.all.length : Int) := by omega
   rw [hA] at c1
   clear h hA hm e1 hd
   go_enter Tryz.func94, Tryz.ntmps94
   go_wp2
   go_quiet (fail)
   all_goals go_wp2
   all_goals go_quiet (fail)
   all_goals go_wp2
   all_goals go_ret
   all_goals exact ⟨by rw [HF.out]; rfl, dr2 _ _ _⟩
  ·have HF := hid (show kindX (.ok st) = 0 from by show kindL st.left = _; rw [← hd, kind_of hn]; rfl)
   have hnI : (C.all.length : Int) ≤ (n : Int) := by omega
   clear h hd
   go_enter Tryz.func94, Tryz.ntmps94
   go_wp2
   go_quiet (fail)
   all_goals go_wp2
   all_goals go_ret
   all_goals exact ⟨by rw [HF.out]; rfl, _, rfl⟩
set_option maxHeartbeats 2000000 in
theorem pplace_any (C : Pc) (n : Nat) (ns : List By) (a e : Int) (w : World) (h : PsW w C n ns a e) : Calls Tryz.prog 100 #[.pointer (some ⟨C.g, 0, none⟩)] w fun e w' => e = .returned (.int .i64 (plE C.s.size (C.all.drop n))) ∧ ∃ q, w' = w.drewN q := by
 obtain ⟨c0, c1, c2, c3, c4, c5⟩ := h.cells
 have hl := h.len
 have hz := h.size
 by_cases hn : n < C.all.length
 ·obtain ⟨t, b, o, e1, hm, hA, t0, t1, t2⟩ := h.tok hn
  have HF := hid (show plE C.s.size (C.all.drop n) = t.a from by rw [e1]; rfl)
  have hnJ : (n : Int) < (C.all.length : Int) := by omega
  rw [hA] at c1
  clear h hA hm e1
  go_enter Tryz.func100, Tryz.ntmps100
  go_wp2
  go_quiet (fail)
  all_goals go_wp2
  all_goals go_quiet (fail)
  all_goals go_wp2
  all_goals go_ret
  all_goals exact ⟨by rw [HF.out]; rfl, dr2 _ _ _⟩
 ·have HF := hid (show plE C.s.size (C.all.drop n) = C.s.size from by rw [kind_of hn]; rfl)
  have hnJ : ¬ (n : Int) < (C.all.length : Int) := by omega
  clear h
  go_enter Tryz.func100, Tryz.ntmps100
  go_wp2
  go_quiet (fail)
  all_goals go_wp2
  all_goals go_ret
  all_goals exact ⟨by rw [HF.out]; rfl, _, rfl⟩
end Go.Proofs.YtiijdojihleggaaGreatDoor
namespace Go.Proofs.YtiijdojihleggaaGreatDoor
open Go.RowKit
theorem at_set45 {T : TypeId} {w : World} {g : Nat} {a0 a1 a2 a3 a4 a5 b4 b5 : Value} (h : AtC T w g #[a0, a1, a2, a3, a4, a5]) :
 AtC T ((w.setCell ⟨g, 4, none⟩ b4).setCell ⟨g, 5, none⟩ b5) g #[a0, a1, a2, a3, b4, b5] := by
 unfold AtC at h ⊢
 simp only [World.setCell, Array.getElem?_modify, if_true, h]
 rfl
theorem at_set2 {T : TypeId} {w : World} {g : Nat} {a0 a1 a2 a3 a4 a5 b2 : Value} (h : AtC T w g #[a0, a1, a2, a3, a4, a5]) :
 AtC T (w.setCell ⟨g, 2, none⟩ b2) g #[a0, a1, b2, a3, a4, a5] := by
 unfold AtC at h ⊢
 simp only [World.setCell, Array.getElem?_modify, if_true, h]
 rfl
theorem PsW.g_two {C : Pc} : C.two C.g := .inl rfl
theorem PsW.mb_two {C : Pc} : C.two C.mb := .inr rfl
theorem PsW.step {w w' : World} {C : Pc} {n m : Nat} {ns : List By} {a e a' e' : Int} (h : PsW w C n ns a e) (hw : Exc (fun k => k = C.g) w w')
 (hb : AtC 124 w' C.g #[.string C.s, .slice C.A C.all.length C.c, .int .i64 m, .map (some C.mb), .int .i64 a', .int .i64 e']) (hm : n ≤ m) (hl : m ≤ C.all.length) : PsW w' C m ns a' e' :=
 ⟨hb, h.toks.exc hw (fun ad hA => (h.away ad hA).1), h.map.exc hw (fun e => h.ne e.symm), h.ne, h.away, h.size, h.len, hl, h.ok, h.nd, h.few, mx_exc h.mx hw (fun e => h.g0 e.symm), h.g0, h.m0, h.good⟩
theorem Exc.mono {S T : Nat → Prop} {w w' : World} (h : Exc S w w') (hs : ∀ k, S k → T k) : Exc T w w' := ⟨h.os, h.tape, h.output, h.size, fun k hk ht => h.block k hk fun e => ht (hs k e)⟩
set_option maxHeartbeats 2000000 in
theorem pfail_any (C : Pc) (X : Except Err St) (code : Int) (w : World) (h : PsO w C X) (h0 : code ≠ 0) :
 Calls Tryz.prog 68 #[.pointer (some ⟨C.g, 0, none⟩), .int .i64 code] w fun e w' => e = .returned (.tuple #[]) ∧ PsO w' C (X.bind fun st => .error (code, plE C.s.size st.left)) ∧ Exc C.two w w' := by
 rcases X with ⟨ee, a⟩ | st
 ·have HO := hid h
  obtain ⟨he, n, ns, h⟩ := h
  obtain ⟨c0, c1, c2, c3, c4, c5⟩ := h.cells
  have b1 : (ee == 0) = false := by rw [beq_eq_false_iff_ne]; exact he
  clear h
  go_enter Tryz.func68, Tryz.ntmps68
  go_wp2
  go_end0
  exact ⟨rfl, HO.out, Exc.refl _ _⟩
 ·obtain ⟨n, h, hd⟩ := h
  obtain ⟨c0, c1, c2, c3, c4, c5⟩ := h.cells
  have f4 := frz_of h.blk 4
  have f5 := frz_of h.blk 5
  have HH := hid h
  have HD := hid hd
  have K := hid (pplace_any C n st.names 0 0 w h)
  have H0 := hid h0
  clear h hd h0
  go_enter Tryz.func68, Tryz.ntmps68
  go_wp2_with fail
  refine K.out.mono ?_
  rintro e w2 ⟨rfl, q, rfl⟩
  have x4 : (w.drewN q).cell? ⟨C.g, 4, none⟩ = some (.int .i64 0) := c4
  have x5 : (w.drewN q).cell? ⟨C.g, 5, none⟩ = some (.int .i64 0) := c5
  have z4 : (w.drewN q).frozen? ⟨C.g, 4, none⟩ = false := f4
  have z5 : (w.drewN q).frozen? ⟨C.g, 5, none⟩ = false := f5
  go_wp2
  go_end0
  refine ⟨rfl, ⟨H0.out, n, st.names, ?_⟩, ?_⟩
  ·rw [← HD.out]
   refine HH.out.step (((Exc.of_ext ((Ext.refl w).drewN q)).trans (Exc.setCell (S := fun k => k = C.g) (p := ⟨C.g, 4, none⟩) rfl _)).trans (Exc.setCell (S := fun k => k = C.g) (p := ⟨C.g, 5, none⟩) rfl _)) ?_ (Nat.le_refl _) HH.out.nx
   exact at_set45 (HH.out.ext ((Ext.refl w).drewN q)).blk
  ·exact (((Exc.of_ext ((Ext.refl w).drewN q)).trans (Exc.setCell PsW.g_two _)).trans (Exc.setCell PsW.g_two _))
def takeX (E k : Nat) (st : St) : Except Err St := (takeP E k st.left).map fun y => ⟨y.2, st.names⟩
def takeS (k : Nat) : Except Err St → ByteArray
 | .ok ⟨t :: _, _⟩ => if t.k = k then ⟨t.t.toArray⟩ else ⟨#[]⟩
 | _ => ⟨#[]⟩
theorem take_not {E k : Nat} {X : Except Err St} (hk : k ≠ 0) (h : ¬ kindX X = k) : X.bind (takeX E k) = X.bind (fun st => .error (3, plE E st.left)) ∧ takeS k X = ⟨#[]⟩ := by
 rcases X with e | ⟨_ | ⟨t, r⟩, ns⟩
 ·exact ⟨rfl, rfl⟩
 ·exact ⟨rfl, rfl⟩
 ·have h2 : ¬ t.k = k := h
  refine ⟨?_, by show (if t.k = k then (⟨t.t.toArray⟩ : ByteArray) else ⟨#[]⟩) = _; rw [if_neg h2]⟩
  show Except.map _ (if t.k = k then .ok (t.t, r) else .error (3, t.a)) = _
  rw [if_neg h2]
  rfl
set_option maxHeartbeats 2000000 in
theorem ptake_any (C : Pc) (X : Except Err St) (k : Nat) (w : World) (h : PsO w C X) (h0 : k ≠ 0) :
 Calls Tryz.prog 96 #[.pointer (some ⟨C.g, 0, none⟩), .int .i64 k] w fun e w' => e = .returned (.string (takeS k X)) ∧ PsO w' C (X.bind (takeX C.s.size k)) ∧ Exc C.two w w' := by
 have K1 := hid (pkind_any C X w h)
 by_cases hk : kindX X = k
 rotate_left
 ·obtain ⟨e1, e2⟩ := take_not (E := C.s.size) h0 hk
  rw [e1, e2]
  have K2 := hid (fun q => pfail_any C X 3 (w.drewN q) (h.ext ((Ext.refl w).drewN q)) (by decide))
  have b1 : ((kindX X : Int) != (k : Int)) = true := by rw [bne_iff_ne]; omega
  clear h e1 e2 h0
  go_enter Tryz.func96, Tryz.ntmps96
  go_wp2_with fail
  refine K1.out.mono ?_
  rintro e w2 ⟨rfl, q, rfl⟩
  go_wp2_with fail
  refine (K2.out q).mono ?_
  rintro e w3 ⟨rfl, ho, hx⟩
  have HO := hid ho
  have HX := hid hx
  clear ho hx
  go_wp2
  go_ret
  exact ⟨rfl, HO.out, (Exc.of_ext ((Ext.refl w).drewN q)).trans HX.out⟩
 ·rcases X with e | ⟨_ | ⟨t, r⟩, ns⟩
  ·exact absurd hk.symm h0
  ·exact absurd hk.symm h0
  ·have hk2 : t.k = k := hk
   obtain ⟨n, h, hd⟩ := h
   have hn : n < C.all.length := by
    rcases Nat.lt_or_ge n C.all.length with h1 | h1
    ·exact h1
    ·rw [List.drop_eq_nil_of_le h1] at hd
     cases hd
   obtain ⟨t', b, o, e1, hm, hA, t0, t1, t2⟩ := h.tok hn
   rw [hd] at e1
   injection e1 with e1 e2
   subst e1
   have b1 : ((kindX (.ok ⟨t :: r, ns⟩) : Int) != (k : Int)) = false := by rw [hk]; exact bne_self_eq_false _
   obtain ⟨c0, c1, c2, c3, c4, c5⟩ := h.cells
   have hal := h.away _ hA
   have f2 := frz_of h.blk 2
   have hl := h.len
   have HH := hid h
   have HE := hid e2
   have HS := hid (show takeS k (.ok ⟨t :: r, ns⟩) = ⟨t.t.toArray⟩ from by show (if t.k = k then (⟨t.t.toArray⟩ : ByteArray) else ⟨#[]⟩) = _; rw [if_pos hk2])
   have HT := hid (show (Except.ok ⟨t :: r, ns⟩ : Except Err St).bind (takeX C.s.size k) = .ok ⟨r, ns⟩ from by
    show Except.map _ (if t.k = k then .ok (t.t, r) else .error (3, t.a)) = _
    rw [if_pos hk2]
    rfl)
   have hnJ : (n : Int) + 1 ≤ (C.all.length : Int) := by omega
   have hnK : n + 1 ≤ C.all.length := hn
   rw [hA] at c1
   have HA := hid hA
   clear h hA hm hk hk2 hd e2
   go_enter Tryz.func96, Tryz.ntmps96
   go_wp2_with fail
   refine K1.out.mono ?_
   rintro e w2 ⟨rfl, q, rfl⟩
   have x1 : (w.drewN q).cell? ⟨C.g, 1, none⟩ = some (.slice (some ⟨b, o, none⟩) C.all.length C.c) := c1
   have x2 : (w.drewN q).cell? ⟨C.g, 2, none⟩ = some (.int .i64 n) := c2
   have z2 : (w.drewN q).frozen? ⟨C.g, 2, none⟩ = false := f2
   have xt : (w.drewN q).cell? ⟨b, o + n * 4 + 1, none⟩ = some (.string ⟨t.t.toArray⟩) := t1
   have hbg : b ≠ C.g := hal.1
   clear c0 c1 c2 c3 c4 c5 f2 t0 t1 t2 hal
   go_wp2
   have hB := at_set2 (b2 := .int .i64 ((n : Int) + 1)) (HH.out.ext ((Ext.refl w).drewN q)).blk
   have y1 : ((w.drewN q).setCell ⟨C.g, 2, none⟩ (.int .i64 ((n : Int) + 1))).cell? ⟨C.g, 1, none⟩ = some (.slice (some ⟨b, o, none⟩) C.all.length C.c) := by rw [← HA.out]; exact hB.cell 1 _ rfl
   have y2 : ((w.drewN q).setCell ⟨C.g, 2, none⟩ (.int .i64 ((n : Int) + 1))).cell? ⟨C.g, 2, none⟩ = some (.int .i64 ((n : Int) + 1)) := hB.cell 2 _ rfl
   have yt : ((w.drewN q).setCell ⟨C.g, 2, none⟩ (.int .i64 ((n : Int) + 1))).cell? ⟨b, o + n * 4 + 1, none⟩ = some (.string ⟨t.t.toArray⟩) := by
    exact ((Exc.setCell (S := fun k => k = C.g) (p := ⟨C.g, 2, none⟩) rfl _).cell (World.block_lt_of_cell? _ _ xt) hbg).trans xt
   have HX3 := hid (show Exc (fun k => k = C.g) w ((w.drewN q).setCell ⟨C.g, 2, none⟩ (.int .i64 ((n : Int) + 1))) from (Exc.of_ext ((Ext.refl w).drewN q)).trans (Exc.setCell (S := fun k => k = C.g) (p := ⟨C.g, 2, none⟩) rfl _))
   have HB3 := hid hB
   clear hB x1 x2 z2 xt
   generalize (w.drewN q).setCell ⟨C.g, 2, none⟩ (.int .i64 ((n : Int) + 1)) = w3 at *
   have zw : IntKind.i64.wrap ((n : Int) + 1 - 1) = (n : Int) := by
    rw [show (n : Int) + 1 - 1 = (n : Int) from by omega]
    exact IntWalk.i64_in _ (by omega)
   go_quiet (fail)
   go_wp2
   go_ret
   refine ⟨by rw [HS.out]; rfl, ?_, ?_⟩
   ·rw [HT.out]
    have hx := HX3.out.trans (Exc.of_ext ((Ext.refl w3).drewN nq))
    exact ⟨n + 1, HH.out.step hx (HB3.out.ext ((Ext.refl w3).drewN nq)) (Nat.le_succ n) hnK, HE.out.symm⟩
   ·exact (HX3.out.trans (Exc.of_ext ((Ext.refl w3).drewN nq))).mono (fun k e => .inl e)
end Go.Proofs.YtiijdojihleggaaGreatDoor
