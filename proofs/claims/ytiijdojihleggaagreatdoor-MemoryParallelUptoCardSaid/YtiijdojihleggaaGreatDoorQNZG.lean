import Derived.Test.YtiijdojihleggaaGreatDoorQNZE
import Derived.Test.YtiijdojihleggaaGreatDoorQNZF
set_option maxRecDepth 100000
set_option linter.unusedSimpArgs false
set_option linter.unusedVariables false
open Go.Lib (hid)
namespace Go.Proofs.YtiijdojihleggaaGreatDoor
open Go.RowKit
theorem simV_nn {n m d : Nat} (hd : d ≤ max n m) : 0 ≤ simV n m d := by
 unfold simV
 split
 ·decide
 ·exact Int.ediv_nonneg (Int.mul_nonneg (by omega) (by decide)) (by omega)
theorem simB_nn (a b : List ByteArray) : 0 ≤ simB a b := simV_nn (D6.D_max a b)
def mbAt (m : List SgP) (text : ByteArray) (i : Nat) : Mb := ⟨mtAt m text i, by have : (mtAt m text i).n = simB (wsB (m.getD i (⟨#[]⟩, ⟨#[]⟩)).1) (wsB text) := rfl; rw [this]; have := simB_nn (wsB (m.getD i (⟨#[]⟩, ⟨#[]⟩)).1) (wsB text); omega, simV_le⟩
def fitB (m : List SgP) (text : ByteArray) (least : Int) (J : List Nat) : List Mb := (J.map (mbAt m text)).filter fun x => decide (least ≤ x.1.n)
theorem fitB_map (m : List SgP) (text : ByteArray) (least : Int) (J : List Nat) : (fitB m text least J).map (·.1) = (J.map (mtAt m text)).filter fun x => decide (least ≤ x.n) := by
 unfold fitB
 induction J with
 | nil => rfl
 | cons i J ih =>
   rw [List.map_cons, List.map_cons, List.filter_cons, List.filter_cons]
   show (if decide (least ≤ (mtAt m text i).n) = true then _ else _ : List Mb).map (·.1) = if decide (least ≤ (mtAt m text i).n) = true then _ else _
   split
   ·rw [List.map_cons, ih]; rfl
   ·exact ih
theorem fitB_len (m : List SgP) (text : ByteArray) (least : Int) (J : List Nat) : (fitB m text least J).length ≤ J.length := by
 unfold fitB
 have := List.length_filter_le (fun x : Mb => decide (least ≤ x.1.n)) (J.map (mbAt m text))
 rwa [List.length_map] at this
theorem fitB_next {m : List SgP} {text : ByteArray} {least : Int} {J : List Nat} {j i : Nat} (h : J[j]? = some i) : fitB m text least (J.take (j + 1)) = fitB m text least (J.take j) ++ (if decide (least ≤ (mtAt m text i).n) = true then [mbAt m text i] else []) := by
 unfold fitB
 rw [take_next h, List.map_append, List.filter_append]
 congr 1
 show List.filter _ [mbAt m text i] = _
 rw [List.filter_cons]
 rfl
theorem mb_flat (l : List Mb) : l.flatMap mbC = (l.map (·.1)).flatMap mtC := by
 induction l with
 | nil => rfl
 | cons x l ih => rw [List.flatMap_cons, List.map_cons, List.flatMap_cons, ih]; rfl
theorem cand_len {m : List SgP} {ws : List ByteArray} {least : Int} {J : List Nat} (h : CandM m ws least J) : J.length ≤ m.length := by
 have e : J = (List.range m.length).filter fun i => decide (i ∈ J) := cand_eq h.1 fun i => ⟨fun hi => ⟨((h.2 i).1 hi).1, decide_eq_true hi⟩, fun hi => of_decide_eq_true hi.2⟩
 rw [e]
 have := List.length_filter_le (fun i => decide (i ∈ J)) (List.range m.length)
 rwa [List.length_range] at this
theorem all_long {m : List SgP} {text : ByteArray} {least : Int} (h : longB text = true) : allM m text least = [] := by unfold allM; rw [if_pos h]
def ShortM (m : List SgP) : Prop := ∀ x ∈ m, (wsB x.1).length ≤ 400
theorem short_nil : ShortM [] := fun x h => by cases h
theorem short_add {m : List SgP} (h : ShortM m) (s t : ByteArray) : ShortM (addM m s t).1 := by
 cases hl : limB s t m.length with
 | true => rw [add_lim hl]; exact h
 | false =>
   by_cases h2 : (s, t) ∈ m
   ·rw [add_dup hl h2]; exact h
   ·rw [add_new hl h2]
    intro x hx
    rcases List.mem_append.1 hx with hx | hx
    ·exact h x hx
    ·rw [List.mem_singleton.1 hx]
     unfold limB longB at hl
     have := of_decide_eq_false hl
     simp at this
     show (wsB s).length ≤ 400
     omega
theorem sim_any2 {xs ys : List ByteArray} {A B : Option Addr} {n m ca cb : Nat} {w : World} (hA : Sl w A n (xs.map .string)) (hB : Sl w B m (ys.map .string)) (hn : n ≤ 400) (hm : m ≤ 400) :
 Calls Tryz.prog 33 #[.slice A n ca, .slice B m cb] w fun e w' => e = .returned (.int .i64 (simB xs ys)) ∧ Ext w w' := by
 have h := D6.sim_any xs ys A B n m ca cb w hA hB hn hm
 have e1 : n = xs.length := by have := hA.1; rw [List.length_map] at this; exact this.symm
 have e2 : m = ys.length := by have := hB.1; rw [List.length_map] at this; exact this.symm
 subst e1 e2
 exact h
def RetAll (w : World) (R : List Mt) (e : Ending) (w' : World) : Prop := ∃ A c, e = .returned (.slice A R.length c) ∧ SlN w' A R.length 4 (R.flatMap mtC) ∧ Ext w w'
def AllI (w2 : World) (m : List SgP) (text : ByteArray) (least : Int) (J : List Nat) (v i : Value) (wr : World) : Prop :=
 ∃ j : Nat, i = .int .i64 j ∧ j ≤ J.length ∧ wr.ownsRow w2.heap.size 39 4 v (fitB m text least (J.take j)).length ((fitB m text least (J.take j)).flatMap mbC) ∧ Ext w2 wr
set_option maxHeartbeats 4000000 in
theorem tAll_any {T : Nat → Prop} {w : World} {gm N : Nat} {m : List SgP} (h : MemT T w gm m) (hsh : ShortM m) (hS : StabM N) (hmN : m.length ≤ N) (hml : m.length ≤ 2000) (text : ByteArray) (ht : text.size ≤ 1048576) (least : Int) :
 Calls Tryz.prog 14 #[.pointer (some ⟨gm, 0, none⟩), .string text, .int .i64 least] w (RetAll w (allM m text least)) := by
 obtain ⟨i0, hi, hz0, hz1, hz2⟩ := info_parts (show (Tryz.prog.info? 39).map (fun i => (i.zero, i.size, i.bytes)) = some (some (.agg #[.int .i64 0, .int .i64 0, .string ⟨#[]⟩, .string ⟨#[]⟩]), 4, 48) from by kernel_rfl)
 have HM := hid h
 obtain ⟨⟨v, mb, f, g, L, h1, h2, h3, h4, h5, h6, h7, h8, h9⟩, hmi, hlt⟩ := h
 obtain ⟨A, c, rfl, hsl⟩ := own_slN h3
 obtain ⟨R, hR⟩ : ∃ R, R = allM m text least := ⟨_, rfl⟩
 rw [← hR]
 have hml2 : m.length = L.length := by rw [← h2, List.length_map]
 have H1 := hid h1
 have H2 := hid h2
 have H4 := hid h4
 have HSL := hid hsl
 have HR := hid hR
 have HML := hid hml2
 have HSH := hid hsh
 have HS := hid hS
 have HMN := hid hmN
 clear h1 h2 h3 h4 h5 h6 h7 h8 h9 hmi hlt hsl hR hml2 hsh hS hmN
 go_enter Tryz.func14, Tryz.ntmps14
 go_upto_region 2 with (go_at_call 31; refine (D6.words_any text _ ht).mono ?_; rintro e w1 ⟨A1, n1, c1, rfl, hs1, hx1, _⟩; have HS1 := hid hs1; have HX1 := hid hx1; clear hs1 hx1)
 have HN1 := hid (show n1 = (wsB text).length from by have := HS1.out.1; unfold wsB; rw [List.length_map] at this ⊢; exact this.symm)
 obtain ⟨lng, hlng⟩ : ∃ b, b = longB text := ⟨_, rfl⟩
 have HLG := hid (show lng = (decide (4000 < text.size) || decide (400 < n1)) from by rw [hlng]; unfold longB; rw [HN1.out])
 have HLNG := hid hlng
 clear hlng
 go_cut [26] (BWz lng w1)
 case first =>
  as_aux_lemma =>
  go_wp2_with fail
  all_goals
   go_meet
   exact ⟨by rw [HLG.out]; first | (congr 1; rw [Bool.eq_iff_iff]; simp; omega), rfl⟩
 case rest =>
 obtain ⟨rfl, rfl⟩ := hcut
 cases lng
 rotate_left
 ·go_wp2
  go_ret
  have hr := HR.out
  rw [all_long HLNG.out.symm] at hr
  subst hr
  exact ⟨none, 0, rfl, SlN.nil _ _ _, HX1.out⟩
 have HS1b := hid (show Sl w1 A1 n1 ((wsB text).map .string) from by have := HS1.out; unfold wsB; rw [List.map_map]; exact this)
 have hn4 : n1 ≤ 400 ∧ text.size ≤ 4000 := by have h1 := HLG.out; simp at h1; omega
 obtain ⟨hn1, hts⟩ := hn4
 have KC := hid (tcand_any (HM.out.ext HX1.out) (wsB text) A1 n1 c1 HS1b.out (fun k hk => ws_size hk (by unfold maxLen; omega)) hn1 least hml)
 clear HLG
 go_wp2_with (go_at_call 32; refine KC.out.mono ?_; rintro e w2 ⟨B2, d2, J, rfl, hs2, hJ, hx2⟩; have HS2 := hid hs2; have HX2 := hid hx2; have HJ := hid hJ; clear hs2 hx2 hJ)
 have hJl : J.length ≤ 2000 := by have := cand_len HJ.out; omega
 have HI0 := hid (show AllI w2 m text least J (.slice none 0 0) (.int .i64 0) w2 from ⟨0, rfl, Nat.zero_le _, World.ownsRow_nil _ _ _ _, Ext.refl _⟩)
 go_loopw [8, 32] (AllI w2 m text least J) (fun _ i _ => J.length - (intOf i).toNat)
 case atStart => exact HI0.out
 case round =>
  obtain ⟨j, rfl, hj, ho, hx⟩ := hrel
  obtain ⟨wo, rfl⟩ : ∃ wo : World, wo = wr := ⟨_, rfl⟩
  have HO := hid ho
  have HX := hid hx
  have HXX := hid (HX1.out.trans (HX2.out.trans hx))
  clear ho hx
  by_cases hlt : j < J.length
  ·as_aux_lemma =>
   obtain ⟨ad, ix, rfl, hix, ck⟩ := (HS2.out.ext HX.out).at_map hlt
   obtain ⟨bk, ok, rfl, hbk⟩ := addr_flat HS2.out (by omega)
   rw [add_flat] at ck
   unfold iV at ck
   have hil : ix < L.length := by rw [← HML.out]; exact ((HJ.out.2 ix).1 (List.mem_of_getElem? hix)).1
   obtain ⟨b, o, rfl, hb, s0, s1, s2⟩ := sg_at (HSL.out.ext HXX.out) (List.getElem?_eq_getElem hil)
   obtain ⟨p, hp⟩ : ∃ p, p = L[ix] := ⟨_, rfl⟩
   rw [← hp] at s0 s1 s2
   obtain ⟨A2, n2, k2, hu, hw2, _⟩ := H4.out L[ix] (List.getElem_mem hil)
   rw [← hp] at hu hw2
   obtain ⟨⟨x, y⟩, u⟩ := p
   simp only at hu s0 s1 s2 hw2
   subst hu
   have hmx : m[ix]? = some (x, y) := by rw [← H2.out, List.getElem?_map, List.getElem?_eq_getElem hil, ← hp]; rfl
   have hmt : mtAt m text ix = ⟨ix, simB (wsB x) (wsB text), x, y⟩ := by
    unfold mtAt mtOf
    rw [List.getD_eq_getElem?_getD, hmx]
    rfl
   have HMT := hid hmt
   have HIX := hid hix
   have HW2 := hid hw2
   have hn2 : n2 ≤ 400 := by
    have h1 : (wsB x).length ≤ 400 := HSH.out (x, y) (List.mem_of_getElem? hmx)
    have h2 := hw2.1
    rw [List.length_map] at h2
    omega
   have d0 := (H1.out.ext HXX.out).cell 0 _ rfl
   clear hp hmx hmt hix hw2
   go_upto_region 9 with (fail)
   obtain ⟨wb, hwb⟩ : ∃ wb, wb = wo.alloc (.cells #[.string x, .string y, .slice A2 n2 k2] 83) := ⟨_, rfl⟩
   have hxb : Ext wo wb := by rw [hwb]; exact (Ext.refl wo).alloc _
   have HB := hid (show AtC 83 wb wo.heap.size #[.string x, .string y, .slice A2 n2 k2] from by rw [hwb]; exact AtC.new wo _)
   rw [← hwb]
   clear hwb s0 s1 s2 d0 ck
   have b2 := HB.out.cell 2 _ rfl
   have HXb := hid hxb
   have KS := hid (sim_any2 (xs := wsB x) (ys := wsB text) (ca := k2) (cb := c1) (HW2.out.ext (HXX.out.trans hxb)) (HS1b.out.ext (HX2.out.trans (HX.out.trans hxb))) hn2 hn1)
   clear hxb
   obtain ⟨sm, hsm⟩ : ∃ sm, sm = simB (wsB x) (wsB text) := ⟨_, rfl⟩
   rw [← hsm] at KS HMT
   clear hsm
   have HO2 := hid (own_ext HO.out HXb.out)
   have hfl := fitB_len m text least (J.take j)
   rw [List.length_take] at hfl
   obtain ⟨FL, hFL⟩ : ∃ FL, FL = (fitB m text least (J.take j)).length := ⟨_, rfl⟩
   rw [← hFL] at HO2 hfl
   have HFL := hid hFL
   clear hFL
   by_cases hle : least ≤ sm
   ·have HN9 := hid (show fitB m text least (J.take (j + 1)) = fitB m text least (J.take j) ++ [mbAt m text ix] from by
     rw [fitB_next HIX.out, HMT.out, if_pos (decide_eq_true hle)])
    have HC9 := hid (show mbC (mbAt m text ix) = [.int .i64 ix, .int .i64 sm, .string x, .string y] from by
     show mtC (mtAt m text ix) = _
     rw [HMT.out]; rfl)
    go_wp2_with (first
     | (go_at_call 33; refine KS.out.mono ?_; rintro e w7 ⟨rfl, hx7⟩; have HX7 := hid hx7; have b0 := (HB.out.ext hx7).cell 0 _ rfl; have b1 := (HB.out.ext hx7).cell 1 _ rfl; clear hx7)
     | (at_builtin; refine wpList_appN _ rfl _ _ 33 rfl w2.heap.size 39 i0 _ 4 48 Tryz.underlying33 hi hz0 hz1 hz2 rfl (by decide) _ _ _ rfl (own_ext HO2.out (HX7.out.alloc _)) ⟨w7.heap.size, 0, none⟩ 1 1 [.int .i64 ix, .int .i64 sm, .string x, .string y] rfl rfl (new_cells w7 #[.int .i64 ix, .int .i64 sm, .string x, .string y] 39) (by simp [Value.oneCell']) (by unfold maxLen; omega) (by omega) (Nat.le_trans (Ext.size HX.out) (Nat.le_trans (Ext.size HXb.out) (Ext.size (HX7.out.alloc _)))) ?_; intro v9 w9 ho9 hg9 _; have HO9 := hid ho9; have HG9 := hid hg9; clear ho9 hg9))
    refine ⟨⟨j + 1, by go_num, hlt, ?_, ?_⟩, by simp [intOf]; omega⟩
    ·have h9 := HO9.out
     rw [HN9.out, List.flatMap_append, List.length_append, ← HFL.out, List.length_singleton, List.flatMap_cons, List.flatMap_nil, List.append_nil, HC9.out]
     exact h9
    ·exact (HX.out.trans (HXb.out.trans (HX7.out.alloc _))).grown HG9.out (own_lt HO2.out)
   ·have HN9 := hid (show fitB m text least (J.take (j + 1)) = fitB m text least (J.take j) from by
     rw [fitB_next HIX.out, HMT.out, if_neg (by simpa using hle), List.append_nil])
    go_wp2_with (go_at_call 33; refine KS.out.mono ?_; rintro e w7 ⟨rfl, hx7⟩; have HX7 := hid hx7; clear hx7)
    refine ⟨⟨j + 1, by go_num, hlt, ?_, ?_⟩, by simp [intOf]; omega⟩
    ·rw [HN9.out, ← HFL.out]
     exact own_ext HO2.out HX7.out
    ·exact HX.out.trans (HXb.out.trans HX7.out)
  ·have hjl : j = J.length := by omega
   subst hjl
   rw [List.take_length] at HO
   obtain ⟨F, hF⟩ : ∃ F, F = fitB m text least J := ⟨_, rfl⟩
   have hFl : F.length ≤ J.length := by rw [hF]; exact fitB_len m text least J
   rw [← hF] at HO
   obtain ⟨A5, c5, rfl, _⟩ := own_slN HO.out
   have HF := hid hF
   have hFn : F.length ≤ N := by have := cand_len HJ.out; have := HMN.out; omega
   have KZ := hid (HS.out F A5 F.length c5 w2.heap.size wo hFn HO.out)
   obtain ⟨FL, hFL⟩ : ∃ FL, FL = F.length := ⟨_, rfl⟩
   rw [← hFL] at KZ ⊢
   have HFL := hid hFL
   clear hF hFl hFn HO hFL
   go_wp2_with (go_at_call 34; refine KZ.out.mono ?_; rintro e w8 ⟨rfl, ho8, hx8⟩; have HO8 := hid ho8; have HX8 := hid (HX.out.trans_below hx8); clear ho8 hx8)
   go_ret
   have hR : R = (isoS leB F).map (·.1) := by
    rw [HR.out, isoB_map, HF.out, fitB_map]
    exact (all_cand HLNG.out.symm HJ.out.1 HJ.out.2).symm
   have hRl : R.length = FL := by rw [hR, List.length_map, isoS_len, HFL.out]
   obtain ⟨A9, c9, he9, hs9⟩ := own_slN HO8.out
   injection he9 with e1 e2 e3
   subst e1; subst e3
   refine ⟨A5, c5, by rw [hRl]; rfl, ?_, (HX1.out.trans HX2.out).trans HX8.out⟩
   rw [hRl, hR, ← mb_flat]
   exact hs9
end Go.Proofs.YtiijdojihleggaaGreatDoor
namespace Go.Proofs.YtiijdojihleggaaGreatDoor
open Go.RowKit
def RetBest (w : World) (R : List Mt) (e : Ending) (w' : World) : Prop :=
 ((R = [] ∧ e = .returned (.tuple #[.agg #[.int .i64 0, .int .i64 0, .string ⟨#[]⟩, .string ⟨#[]⟩], .bool false])) ∨ ∃ x r, R = x :: r ∧ e = .returned (.tuple #[.agg #[.int .i64 x.i, .int .i64 x.n, .string x.s, .string x.t], .bool true])) ∧ Ext w w'
theorem mt_at {w : World} {A : Option Addr} {x : Mt} {r : List Mt} {n : Nat} (h : SlN w A n 4 ((x :: r).flatMap mtC)) : ∃ b o, A = some ⟨b, o, none⟩ ∧ b < w.heap.size ∧ w.cell? ⟨b, o, none⟩ = some (.int .i64 x.i) ∧ w.cell? ⟨b, o + 1, none⟩ = some (.int .i64 x.n) ∧ w.cell? ⟨b, o + 2, none⟩ = some (.string x.s) ∧ w.cell? ⟨b, o + 3, none⟩ = some (.string x.t) := by
 obtain ⟨b, o, rfl, hb, h0⟩ := h.2 0 (.int .i64 x.i) rfl
 obtain ⟨b1, o1, e1, _, h1⟩ := h.2 1 (.int .i64 x.n) rfl
 obtain ⟨b2, o2, e2, _, h2⟩ := h.2 2 (.string x.s) rfl
 obtain ⟨b3, o3, e3, _, h3⟩ := h.2 3 (.string x.t) rfl
 injection e1 with e1; injection e1 with p1 q1 _
 injection e2 with e2; injection e2 with p2 q2 _
 injection e3 with e3; injection e3 with p3 q3 _
 subst p1 q1 p2 q2 p3 q3
 exact ⟨b, o, rfl, hb, h0, h1, h2, h3⟩
set_option maxHeartbeats 2000000 in
theorem tBest_of {p : Option Addr} {text : ByteArray} {least : Int} {R : List Mt} (w : World) (K : ∀ W, Ext w W → Calls Tryz.prog 14 #[.pointer p, .string text, .int .i64 least] W (RetAll W R)) :
 Calls Tryz.prog 16 #[.pointer p, .string text, .int .i64 least] w (RetBest w R) := by
 have HK := hid K
 clear K
 have HX := hid (show Ext w (w.alloc (.cells #[.int .i64 0, .int .i64 0, .string ⟨#[]⟩, .string ⟨#[]⟩] 39)) from (Ext.refl w).alloc _)
 have HB := hid (show AtC 39 (w.alloc (.cells #[.int .i64 0, .int .i64 0, .string ⟨#[]⟩, .string ⟨#[]⟩] 39)) w.heap.size #[.int .i64 0, .int .i64 0, .string ⟨#[]⟩, .string ⟨#[]⟩] from AtC.new w _)
 go_enter Tryz.func16, Tryz.ntmps16
 go_upto_region 2 with (go_at_call 14; refine (HK.out _ HX.out).mono ?_; rintro e w2 ⟨A, c, rfl, hs, hx⟩; have HS := hid hs; have HX2 := hid hx; clear hs hx)
 have HB2 := hid (HB.out.ext HX2.out)
 have q0 := HB2.out.cell 0 _ rfl
 have q1 := HB2.out.cell 1 _ rfl
 have q2 := HB2.out.cell 2 _ rfl
 have q3 := HB2.out.cell 3 _ rfl
 have f0 := frz_of HB2.out 0
 have f1 := frz_of HB2.out 1
 have f2 := frz_of HB2.out 2
 have f3 := frz_of HB2.out 3
 have hset : ∀ (v0 v1 v2 v3 : Value), AtC 39 ((((w2.setCell ⟨w.heap.size, 0, none⟩ v0).setCell ⟨w.heap.size, 1, none⟩ v1).setCell ⟨w.heap.size, 2, none⟩ v2).setCell ⟨w.heap.size, 3, none⟩ v3) w.heap.size #[v0, v1, v2, v3] := fun v0 v1 v2 v3 => by
  have g1 := heap_setCell_same w2 w.heap.size 0 _ _ v0 HB2.out
  have g2 := heap_setCell_same _ w.heap.size 1 _ _ v1 g1
  have g3 := heap_setCell_same _ w.heap.size 2 _ _ v2 g2
  exact heap_setCell_same _ w.heap.size 3 _ _ v3 g3
 have hext : ∀ (v0 v1 v2 v3 : Value), Ext w ((((w2.setCell ⟨w.heap.size, 0, none⟩ v0).setCell ⟨w.heap.size, 1, none⟩ v1).setCell ⟨w.heap.size, 2, none⟩ v2).setCell ⟨w.heap.size, 3, none⟩ v3) := fun v0 v1 v2 v3 =>
  ((((HX.out.trans HX2.out).setCell (Nat.le_refl _) v0).setCell (Nat.le_refl _) v1).setCell (Nat.le_refl _) v2).setCell (Nat.le_refl _) v3
 have HSET := hid hset
 have HEXT := hid hext
 clear hset hext
 cases R with
 | nil =>
   go_wp2
   have hat := HSET.out (.int .i64 0) (.int .i64 0) (.string ⟨#[]⟩) (.string ⟨#[]⟩)
   have h0 := hat.cell 0 _ rfl
   have h1 := hat.cell 1 _ rfl
   have h2 := hat.cell 2 _ rfl
   have h3 := hat.cell 3 _ rfl
   refine bodyPost_ret (v := .tuple #[.agg #[.int .i64 0, .int .i64 0, .string ⟨#[]⟩, .string ⟨#[]⟩], .bool false]) (by rw [results_cell_tmp rfl]; go_simp) rfl ?_
   exact ⟨.inl ⟨rfl, rfl⟩, HEXT.out _ _ _ _⟩
 | cons x r =>
   obtain ⟨b, o, rfl, hb, s0, s1, s2, s3⟩ := mt_at HS.out
   go_wp2
   have hat := HSET.out (.int .i64 x.i) (.int .i64 x.n) (.string x.s) (.string x.t)
   have h0 := hat.cell 0 _ rfl
   have h1 := hat.cell 1 _ rfl
   have h2 := hat.cell 2 _ rfl
   have h3 := hat.cell 3 _ rfl
   refine bodyPost_ret (v := .tuple #[.agg #[.int .i64 x.i, .int .i64 x.n, .string x.s, .string x.t], .bool true]) (by rw [results_cell_tmp rfl]; go_simp) rfl ?_
   exact ⟨.inr ⟨x, r, rfl, rfl⟩, HEXT.out _ _ _ _⟩
theorem tBest_any {T : Nat → Prop} {w : World} {gm N : Nat} {m : List SgP} (h : MemT T w gm m) (hsh : ShortM m) (hS : StabM N) (hmN : m.length ≤ N) (hml : m.length ≤ 2000) (text : ByteArray) (ht : text.size ≤ 1048576) (least : Int) :
 Calls Tryz.prog 16 #[.pointer (some ⟨gm, 0, none⟩), .string text, .int .i64 least] w (RetBest w (allM m text least)) :=
 tBest_of w fun W hW => tAll_any (h.ext hW) hsh hS hmN hml text ht least
end Go.Proofs.YtiijdojihleggaaGreatDoor
