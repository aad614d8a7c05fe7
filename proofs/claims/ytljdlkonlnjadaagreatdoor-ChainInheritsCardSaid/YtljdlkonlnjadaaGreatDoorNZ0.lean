import Derived.Test.YtljdlkonlnjadaaGreatDoorNXJ
import Derived.Outline
set_option maxRecDepth 100000
set_option linter.unusedSimpArgs false
set_option linter.unusedVariables false
open Go.Lib (hid)
namespace Go.Proofs.YtljdlkonlnjadaaGreatDoor
open Go.RowKit
def cN (p : Nat) (tg : TagP) (r : List (List UInt8)) : TagP × Int := match p with
 | 0 => c0 EC r
 | 1 => c1 EC tg r
 | 2 => c2 EC tg r
 | _ => c3 EC tg r
def TB (w : World) (gt : Nat) (A : Option Addr) (n : Nat) (P : List (List UInt8)) (tg : TagP) (vs : Value) (wr : World) : Prop :=
 Sl wr A n (P.map strv) ∧ (∀ ad, A = some ad → ad.block < gt) ∧ AtT 143 wr w.heap.size (strv []) (strv []) (strv []) (.slice none 0 0) ∧ w.heap.size < gt ∧
  AtT 143 wr gt (strv tg.lang) (strv tg.script) (strv tg.region) vs ∧ wr.ownsRow (gt + 1) 9 1 vs tg.vars.length (tg.vars.map strv) ∧ Ext w wr
theorem TB.ext {w : World} {gt : Nat} {A : Option Addr} {n : Nat} {P : List (List UInt8)} {tg : TagP} {vs : Value} {wr w3 : World} (h : TB w gt A n P tg vs wr) (hw : Ext wr w3) : TB w gt A n P tg vs w3 := by
 obtain ⟨h1, h2, h3, h4, h5, h6, h7⟩ := h
 exact ⟨h1.ext hw, h2, h3.ext hw, h4, h5.ext hw, own_ext h6 hw, h7.trans hw⟩
theorem TB.slot {w : World} {gt : Nat} {A : Option Addr} {n : Nat} {P : List (List UInt8)} {tg tg' : TagP} {vs : Value} {wr : World} {j : Nat} {u : Value} (h : TB w gt A n P tg vs wr)
 (ha : AtT 143 (wr.setCell ⟨gt, j, none⟩ u) gt (strv tg'.lang) (strv tg'.script) (strv tg'.region) vs) (hv : tg'.vars = tg.vars) : TB w gt A n P tg' vs (wr.setCell ⟨gt, j, none⟩ u) := by
 obtain ⟨h1, h2, h3, h4, h5, h6, h7⟩ := h
 refine ⟨h1.othr _ (fun ad h => ?_) _, h2, h3.other _ ?_ _, h4, ha, ?_, h7.setCell ?_ _⟩
 ·have := h2 ad h
  show ad.block ≠ gt
  omega
 ·show w.heap.size ≠ gt
  omega
 ·rw [hv]
  exact ownsRow_setCell_below h6 (by show gt < gt + 1; omega) u
 ·show w.heap.size ≤ gt
  omega
theorem Ext.trans' {a b c : World} {B : Nat} (h : Ext a b) (k : Below B b c) (hB : a.heap.size ≤ B) : Ext a c := Below.trans h (k.mono hB)
def TSt (w : World) (R : TagP × Int) (gt : Nat) (A : Option Addr) (n : Nat) (P : List (List UInt8)) (p i : Value) (wr : World) : Prop :=
 ∃ (k pn : Nat) (tg : TagP) (vs : Value), k ≤ n ∧ i = .int .i64 k ∧ pn ≤ 3 ∧ p = .int .i64 pn ∧ TB w gt A n P tg vs wr ∧ R = cN pn tg ((P.drop k).map low) ∧ (0 < k → 0 < pn) ∧ (pn < 3 → tg.vars = []) ∧ (pn = 0 → tg = TagP.zero) ∧ tg.vars.length ≤ k
def PSt2 (w : World) (R : TagP × Int) (gt : Nat) (A : Option Addr) (n : Nat) (P : List (List UInt8)) (k : Nat) (p : Value) (wr : World) : Prop :=
 ∃ (pn : Nat) (tg : TagP) (vs : Value), pn ≤ 3 ∧ p = .int .i64 pn ∧ TB w gt A n P tg vs wr ∧ R = cN pn tg ((P.drop k).map low) ∧ (pn < 3 → tg.vars = []) ∧ (pn = 0 → tg = TagP.zero) ∧ tg.vars.length ≤ k
theorem TB.res {w : World} {gt : Nat} {A : Option Addr} {n : Nat} {P : List (List UInt8)} {tg : TagP} {vs : Value} {wr : World} (h : TB w gt A n P tg vs wr) :
 (wr.cell? ⟨w.heap.size, 0, none⟩ = some (.string ⟨#[]⟩) ∧ wr.cell? ⟨w.heap.size, 1, none⟩ = some (.string ⟨#[]⟩) ∧ wr.cell? ⟨w.heap.size, 2, none⟩ = some (.string ⟨#[]⟩) ∧ wr.cell? ⟨w.heap.size, 3, none⟩ = some (.slice none 0 0)) ∧
  (wr.frozen? ⟨w.heap.size, 0, none⟩ = false ∧ wr.frozen? ⟨w.heap.size, 1, none⟩ = false ∧ wr.frozen? ⟨w.heap.size, 2, none⟩ = false ∧ wr.frozen? ⟨w.heap.size, 3, none⟩ = false) := h.2.2.1.cells
theorem TB.tag {w : World} {gt : Nat} {A : Option Addr} {n : Nat} {P : List (List UInt8)} {tg : TagP} {vs : Value} {wr : World} (h : TB w gt A n P tg vs wr) :
 (wr.cell? ⟨gt, 0, none⟩ = some (.string ⟨tg.lang.toArray⟩) ∧ wr.cell? ⟨gt, 1, none⟩ = some (.string ⟨tg.script.toArray⟩) ∧ wr.cell? ⟨gt, 2, none⟩ = some (.string ⟨tg.region.toArray⟩) ∧ wr.cell? ⟨gt, 3, none⟩ = some vs) ∧
  (wr.frozen? ⟨gt, 0, none⟩ = false ∧ wr.frozen? ⟨gt, 1, none⟩ = false ∧ wr.frozen? ⟨gt, 2, none⟩ = false ∧ wr.frozen? ⟨gt, 3, none⟩ = false) := h.2.2.2.2.1.cells
theorem TB.set0 {w : World} {gt : Nat} {A : Option Addr} {n : Nat} {P : List (List UInt8)} {tg : TagP} {vs : Value} {wr : World} (h : TB w gt A n P tg vs wr) (x : List UInt8) : TB w gt A n P { tg with lang := x } vs (wr.setCell ⟨gt, 0, none⟩ (strv x)) :=
 h.slot (h.2.2.2.2.1.set0 _) rfl
theorem TB.set1 {w : World} {gt : Nat} {A : Option Addr} {n : Nat} {P : List (List UInt8)} {tg : TagP} {vs : Value} {wr : World} (h : TB w gt A n P tg vs wr) (x : List UInt8) : TB w gt A n P { tg with script := x } vs (wr.setCell ⟨gt, 1, none⟩ (strv x)) :=
 h.slot (h.2.2.2.2.1.set1 _) rfl
theorem TB.set2 {w : World} {gt : Nat} {A : Option Addr} {n : Nat} {P : List (List UInt8)} {tg : TagP} {vs : Value} {wr : World} (h : TB w gt A n P tg vs wr) (x : List UInt8) : TB w gt A n P { tg with region := x } vs (wr.setCell ⟨gt, 2, none⟩ (strv x)) :=
 h.slot (h.2.2.2.2.1.set2 _) rfl
theorem TB.more {w : World} {gt : Nat} {A : Option Addr} {n : Nat} {P : List (List UInt8)} {tg : TagP} {vs v' : Value} {wr w3 : World} {x : List UInt8} (h : TB w gt A n P tg vs wr) (hw : Below (gt + 1) wr w3) (ho : w3.ownsRow (gt + 1) 9 1 v' (tg.vars.length + 1) (tg.vars.map strv ++ [strv x])) :
 TB w gt A n P { tg with vars := tg.vars ++ [x] } v' (w3.setCell ⟨gt, 3, none⟩ v') := by
 obtain ⟨h1, h2, h3, h4, h5, h6, h7⟩ := h
 refine ⟨(h1.below hw fun ad h => by have := h2 ad h; omega).othr _ (fun ad h => ?_) _, h2, (h3.below hw (by omega)).other _ ?_ _, h4, (h5.below hw (by omega)).set3 _, ?_, Ext.setCell (h7.trans' hw (by omega)) ?_ _⟩
 ·have := h2 ad h
  show ad.block ≠ gt
  omega
 ·show w.heap.size ≠ gt
  omega
 ·have := ownsRow_setCell_below ho (a := ⟨gt, 3, none⟩) (by show gt < gt + 1; omega) v'
  simpa using this
 ·show w.heap.size ≤ gt
  omega
theorem R_err {R : TagP × Int} {w : World} {e : Int} (h : R = (TagP.zero, e)) (w' : World) (hw : Ext w w') :
 ∃ A n c, Ending.returned (.tuple #[tagV TagP.zero none 0 0, .int .i64 e]) = Ending.returned (.tuple #[tagV R.1 A n c, .int .i64 R.2]) ∧ Sl w' A n (R.1.vars.map strv) ∧ n ≤ c ∧ Ext w w' ∧ ∀ ad, A = some ad → w.heap.size ≤ ad.block := by
 subst h
 exact ⟨none, 0, 0, rfl, Sl.nil _ _, Nat.le_refl _, hw, fun _ h => by cases h⟩
theorem res_set {w wr : World} (h : Ext w wr) (v0 v1 v2 v3 : Value) : Ext w ((((wr.setCell ⟨w.heap.size, 0, none⟩ v0).setCell ⟨w.heap.size, 1, none⟩ v1).setCell ⟨w.heap.size, 2, none⟩ v2).setCell ⟨w.heap.size, 3, none⟩ v3) :=
 (((h.setCell (Nat.le_refl _) _).setCell (Nat.le_refl _) _).setCell (Nat.le_refl _) _).setCell (Nat.le_refl _) _
theorem TB.w {w : World} {gt : Nat} {A : Option Addr} {n : Nat} {P : List (List UInt8)} {tg : TagP} {vs : Value} {wr : World} (h : TB w gt A n P tg vs wr) : Ext w wr := h.2.2.2.2.2.2
theorem mix_eq (xb : ByteArray) : ((⟨(List.take 1 (List.map upC xb.data.toList)).toArray⟩ : ByteArray) ++ ⟨(List.take (xb.size - 1) (List.map lowC xb.data.toList).tail).toArray⟩).data.toList = upOf (xb.data.toList.take 1) ++ low (xb.data.toList.drop 1) := by
 rw [mk_app]
 show List.take 1 (List.map upC xb.data.toList) ++ List.take (xb.size - 1) (List.map lowC xb.data.toList).tail = _
 rw [List.take_of_length_le (l := (List.map lowC xb.data.toList).tail) (by simp [size_list])]
 simp [upOf, low, List.map_take, List.map_drop, List.drop_one, List.map_tail]
theorem mix_val (xb : ByteArray) : Value.string ((⟨(List.take 1 (List.map upC xb.data.toList)).toArray⟩ : ByteArray) ++ ⟨(List.take (xb.size - 1) (List.map lowC xb.data.toList).tail).toArray⟩) = strv (titleOf (low xb.data.toList)) := by
 rw [← title_eq, ← mix_eq, strv_mk]
theorem c3_more (E : Codes) (tg : TagP) (x : List UInt8) (r : List (List UInt8)) (h : variantB x = true) : c3 E tg (x :: r) = c3 E { tg with vars := tg.vars ++ [x] } r := by
 unfold c3
 rw [List.all_cons, h, Bool.true_and]
 simp
theorem cN_end {pn : Nat} {tg : TagP} (h0 : 0 < pn) : cN pn tg [] = finT EC tg := by
 have h3 : c3 EC tg [] = finT EC tg := by
  unfold c3
  simp
 match pn, h0 with
 | 1, _ => exact h3
 | 2, _ => exact h3
 | n + 3, _ => exact h3
def BoolSt (b : Bool) (wr : World) (v : Value) (wx : World) : Prop := v = .bool b ∧ Ext wr wx
set_option maxHeartbeats 8000000 in
theorem tparse_fresh (s : ByteArray) (w : World) (hm : Mx w) (hs : s.size ≤ 60000) :
 Calls Tryz.prog 105 #[.string s] w fun e w' => ∃ A n c, e = .returned (.tuple #[tagV (parseP EC s.data.toList).1 A n c, .int .i64 (parseP EC s.data.toList).2]) ∧ Sl w' A n ((parseP EC s.data.toList).1.vars.map strv) ∧ n ≤ c ∧ Ext w w' ∧ ∀ ad, A = some ad → w.heap.size ≤ ad.block := by
 obtain ⟨i0, hi, hz0, hz1, hz2⟩ := info_parts (show (Tryz.prog.info? 9).map (fun i => (i.zero, i.size, i.bytes)) = some (some (.string ⟨#[]⟩), 1, 16) from by kernel_rfl)
 obtain ⟨R, hR⟩ : ∃ R, R = parseP EC s.data.toList := ⟨_, rfl⟩
 rw [← hR]
 have HR := hid hR
 have HMX := hid (hm.ext ((Ext.refl w).alloc (.cells #[.string ⟨#[]⟩, .string ⟨#[]⟩, .string ⟨#[]⟩, .slice none 0 0] 143)))
 clear hR hm
 go_enter Tryz.func105, Tryz.ntmps105
 go_wp2_with fail
 go_step3
 go_wp2_with fail
 refine (repl_any s _ HMX.out (by omega)).mono ?_
 rintro e w1 ⟨rfl, hw1⟩
 have HW1 := hid hw1
 clear hw1
 unfold strv
 go_wp2_with fail
 refine (parts_any _ _ (HMX.out.ext HW1.out) (by rw [size_list]; omega)).mono ?_
 rintro e w2 ⟨n, rfl, hsl, hw2⟩
 have hn : (spOf s.data.toList).length = n := by have := hsl.1; rwa [List.length_map] at this
 have hlen : n ≤ s.size + 1 := by rw [← hn]; exact spOf_len _
 have hmem : ∀ x ∈ spOf s.data.toList, x.length ≤ 60000 := fun x hx => Nat.le_trans (spOf_mem _ x hx) hs
 have hne : spOf s.data.toList ≠ [] := spOf_ne _
 have hR : R = c0 EC ((spOf s.data.toList).map low) := HR.out
 have hn0 : 0 < n := by rw [← hn]; exact List.length_pos_iff.2 hne
 generalize spOf s.data.toList = P at hsl hn hmem hR
 have HSL := hid hsl
 have HN := hid hn
 have HM := hid hmem
 have HR := hid hR
 have HW2 := hid (HW1.out.trans hw2)
 have hlow := Ext.size HW1.out
 clear hsl hn hmem hR hne hw2
 have hbig : n ≤ 60001 := by omega
 go_wp2
 go_step3
 go_wp2
 go_loopw [6, 15] (TSt w R w2.heap.size (some ⟨w1.heap.size, 0, none⟩) n P) (fun _ i _ => n - (intOf i).toNat)
 case atStart =>
  refine ⟨0, 0, TagP.zero, .slice none 0 0, Nat.zero_le _, rfl, by omega, rfl, ⟨HSL.out.ext ((Ext.refl w2).alloc _), fun ad h => ?_, ?_, ?_, AtT.new w2, World.ownsRow_nil _ _ _ _, ?_⟩, by rw [List.drop_zero]; exact HR.out, fun h => absurd h (Nat.lt_irrefl _), fun _ => rfl, fun _ => rfl, Nat.zero_le _⟩
  ·injection h with h
   subst h
   have := HSL.out.2 0
   obtain ⟨ad, u, ha, _, hc⟩ := HSL.out.at_ hn0
   injection ha with ha
   subst ha
   have := World.block_lt_of_cell? w2 _ hc
   rwa [addr_block] at this
  ·exact AtT.ext (AtT.new w) (HW2.out.alloc _)
  ·have := Ext.size HW2.out
   simp at this
   omega
  ·exact ((Ext.refl w).alloc _).trans (HW2.out.alloc _)
 case round =>
  generalize w2.heap.size = gt at hrel
  obtain ⟨k, pn, tg, vs, hk, rfl, hpn, rfl, hT, hR2, hkp, hpv, hpz, hvl⟩ := hrel
  have HT := hid hT
  have HR2 := hid hR2
  have HPV := hid hpv
  have HPZ := hid hpz
  clear hT hR2 hpv hpz HMX HW1 HW2 HSL
  by_cases hlt : k < n
  ·obtain ⟨ad, x, hax, hu, hc⟩ := HT.out.1.at_map hlt
   injection hax with hax
   subst hax
   obtain ⟨xb, hx1, rfl⟩ := strv_b x
   rw [hx1, add_at] at hc
   have hxs : xb.size ≤ 60000 := by rw [← size_list]; exact HM.out _ (List.mem_of_getElem? hu)
   have hdrop : (P.drop k).map low = low xb.data.toList :: (P.drop (k + 1)).map low := by
    rw [List.drop_eq_getElem_cons (by rw [HN.out]; exact hlt), List.map_cons]
    rw [List.getElem?_eq_getElem (by rw [HN.out]; exact hlt)] at hu
    injection hu with hu
    rw [hu]
   have HD := hid hdrop
   clear hx1 hu hdrop
   go_wp2
   obtain ⟨wo, rfl⟩ : ∃ wo : World, wo = wr := ⟨_, rfl⟩
   go_loopw [6] (PSt2 w R gt (some ⟨w1.heap.size, 0, none⟩) n P k) (fun p _ => 4 - (intOf p).toNat)
   case atStart => exact ⟨pn, tg, vs, hpn, rfl, HT.out, HR2.out, HPV.out, HPZ.out, hvl⟩
   case round =>
    clear HT HR2 HPV HPZ hvl hc hkp
    obtain ⟨pn, tg, vs, hpn, rfl, hT, hR2, hpv, hpz, hvl⟩ := hrel
    rw [HD.out] at hR2
    have HT2 := hid hT
    have HPV := hid hpv
    have HPZ := hid hpz
    clear hT hpv hpz
    have hcase : pn = 0 ∨ pn = 1 ∨ pn = 2 ∨ pn = 3 := by omega
    rcases hcase with rfl | rfl | rfl | rfl
    ·have HZ := HPZ.out rfl
     subst HZ
     go_wp2_with fail
     refine (lower_any xb _ (by omega)).mono ?_
     rintro e w3 ⟨rfl, hw3⟩
     have HT3 := hid (HT2.out.ext hw3)
     clear hw3
     unfold strv
     cases hl : langB (low xb.data.toList) with
     | false =>
       have HE := hid (show R = (TagP.zero, 3) from by
        rw [hR2]
        show (if langB _ then _ else _) = _
        rw [if_neg (by simp [hl])]
        rfl)
       have HL := hid hl
       obtain ⟨⟨q0, q1, q2, q3⟩, ⟨f0, f1, f2, f3⟩⟩ := HT3.out.res
       clear hl hR2
       go_wp2_with (go_at_call 158; refine (lang_low_any _ _ HL.out _ (by omega)).mono ?_; rintro e w' ⟨rfl, rfl⟩)
       rw [Exit.noGoto_ret]
       refine bodyPost_ret (v := .tuple #[tagV TagP.zero none 0 0, .int .i64 3]) ?_ rfl (R_err HE.out _ (res_set HT3.out.w _ _ _ _))
       simp [results, Tryz.results105, go_sem, q0, q1, q2, q3, f0, f1, f2, f3]
       rfl
     | true =>
       have HE := hid (show R = c1 EC ⟨low xb.data.toList, [], [], []⟩ ((P.drop (k + 1)).map low) from by
        rw [hR2]
        show (if langB _ then _ else _) = _
        rw [if_pos hl])
       have HL := hid hl
       clear hl hR2
       go_wp2_with (go_at_call 158; refine (lang_low_any _ _ HL.out _ (by omega)).mono ?_; rintro e w' ⟨rfl, rfl⟩)
       refine (lower_any xb _ (by omega)).mono ?_
       rintro e w4 ⟨rfl, hw4⟩
       have HT4 := hid (HT3.out.ext hw4)
       obtain ⟨⟨p0, p1, p2, p3⟩, ⟨e0, e1, e2, e3⟩⟩ := HT4.out.tag
       clear hw4
       unfold strv
       go_wp2
       exact ⟨⟨k + 1, 1, _, vs, by omega, by go_num, by omega, rfl, HT4.out.set0 _, HE.out, fun _ => by omega, fun _ => rfl, fun h => by omega, Nat.zero_le _⟩, by simp [intOf]; omega⟩
    ·go_upto_region 16 with (fail)
     go_cut [49] (BoolSt (scriptL (low xb.data.toList)) wr)
     case first =>
      by_cases hx0 : xb.size = 0
      ·have hxe : xb = ⟨#[]⟩ := by
        apply ByteArray.ext
        apply Array.eq_empty_of_size_eq_zero
        exact hx0
       subst hxe
       clear HD hR2
       go_quiet (fail)
       all_goals go_wp2
       all_goals go_meet
       all_goals exact ⟨rfl, (Ext.refl wr).drewN _⟩
      ·have hne : xb.data.toList ≠ [] := by intro h; apply hx0; rw [← size_list, h]; rfl
       have hb1 : (!xb.toList == []) = true := by rw [ByteArray.toList_eq]; simpa using hne
       have hb2 : (!xb.toList.isEmpty) = true := by rw [ByteArray.toList_eq]; simpa using hne
       have hb3 : ¬ xb.toList = [] := by rw [ByteArray.toList_eq]; exact hne
       have e1 : (xb.extract 0 1).size = 1 := extract_size xb 0 1 (by omega)
       have e2 : (xb.extract 1 xb.size).size = xb.size - 1 := extract_size xb 1 xb.size (Nat.le_refl _)
       have h1' : (1 : Int) ≤ (xb.size : Int) := by omega
       clear HD hR2 hne
       go_region_with (first
        | (go_at_call 165; refine (upper_any _ _ (by omega)).mono ?_; rintro e w3 ⟨rfl, hw3⟩; have HU := hid hw3; clear hw3; unfold strv)
        | (go_at_call 164; refine (lower_any _ _ (by omega)).mono ?_; rintro e w3 ⟨rfl, hw3⟩; have HL := hid hw3; clear hw3; unfold strv)
        | (go_at_call 159; refine (script_mix_any xb _ _ rfl (mix_eq xb) _ (by omega)).mono ?_; rintro e w' ⟨rfl, rfl⟩))
       all_goals go_wp2
       all_goals go_meet
       all_goals first
        | exact ⟨rfl, ((Ext.refl wr).drew.trans HU.out).trans HL.out⟩
        | exact ⟨rfl, ((Ext.refl wr).drew.trans HL.out).trans HU.out⟩
     case rest =>
      obtain ⟨rfl, hx⟩ := hcut
      have HT3 := hid (HT2.out.ext hx)
      clear hx
      cases hl : scriptL (low xb.data.toList) with
      | false =>
        have HE := hid (show R = c2 EC tg (low xb.data.toList :: (P.drop (k + 1)).map low) from by
         rw [hR2]
         rw [show cN 1 tg = c1 EC tg from rfl, c1_cons, if_neg (by simp [hl])])
        have HL := hid hl
        clear hl hR2
        go_wp2
        exact ⟨⟨2, tg, vs, by omega, rfl, HT3.out, by rw [HD.out]; exact HE.out, fun _ => HPV.out (by omega), fun h => by omega, hvl⟩, by simp [intOf]⟩
      | true =>
        have HE := hid (show R = c2 EC { tg with script := titleOf (low xb.data.toList) } ((P.drop (k + 1)).map low) from by
         rw [hR2]
         rw [show cN 1 tg = c1 EC tg from rfl, c1_cons, if_pos hl])
        have hx0 : xb.size = 4 := by
         have : (low xb.data.toList).length = 4 := by simp [scriptL] at hl; exact hl.1
         rw [show (low xb.data.toList).length = xb.size from by simp [low, size_list]] at this
         exact this
        have HL := hid hl
        have e1 : (xb.extract 0 1).size = 1 := extract_size xb 0 1 (by omega)
        have e2 : (xb.extract 1 xb.size).size = xb.size - 1 := extract_size xb 1 xb.size (Nat.le_refl _)
        have HX0 := hid hx0
        have h1' : (1 : Int) ≤ (xb.size : Int) := by omega
        have gf : ∀ W, Ext wc W → (W.cell? ⟨gt, 1, none⟩ = some (.string ⟨tg.script.toArray⟩) ∧ W.frozen? ⟨gt, 1, none⟩ = false) := fun W hW => ⟨(HT3.out.ext hW).tag.1.2.1, (HT3.out.ext hW).tag.2.2.1⟩
        have GF := hid gf
        have HC := hid ((Ext.refl wc).drew)
        clear hl hR2 gf hx0
        go_wp2
        go_region_with (first
         | (go_at_call 165; refine (upper_any _ _ (by omega)).mono ?_; rintro e w3 ⟨rfl, hw3⟩; have HC := hid (HC.out.trans hw3); obtain ⟨y0, y1⟩ := GF.out _ HC.out; clear hw3; unfold strv)
         | (go_at_call 164; refine (lower_any _ _ (by have := HX0.out; omega)).mono ?_; rintro e w3 ⟨rfl, hw3⟩; have HC := hid (HC.out.trans hw3); obtain ⟨y0, y1⟩ := GF.out _ HC.out; clear hw3; unfold strv))
        all_goals go_wp2
        all_goals
         rw [mix_val]
         exact ⟨⟨k + 1, 2, _, vs, by omega, by go_num, by omega, rfl, (HT3.out.ext HC.out).set1 _, HE.out, fun _ => by omega, fun _ => HPV.out (by omega), fun h => by omega, Nat.le_trans hvl (Nat.le_succ _)⟩, by simp [intOf]; omega⟩
    ·go_wp2_with fail
     refine (upper_any xb _ (by omega)).mono ?_
     rintro e w3 ⟨rfl, hw3⟩
     have HT3 := hid (HT2.out.ext hw3)
     clear hw3
     unfold strv
     cases hl : regionL (low xb.data.toList) with
     | false =>
       have HE := hid (show R = c3 EC tg (low xb.data.toList :: (P.drop (k + 1)).map low) from by
        rw [hR2]
        rw [show cN 2 tg = c2 EC tg from rfl, c2_cons, if_neg (by simp [hl])])
       have HL := hid hl
       clear hl hR2
       go_wp2_with (go_at_call 160; refine (region_up_any _ _ HL.out _ (by omega)).mono ?_; rintro e w' ⟨rfl, rfl⟩)
       exact ⟨⟨3, tg, vs, by omega, rfl, HT3.out, by rw [HD.out]; exact HE.out, fun h => by omega, fun h => by omega, hvl⟩, by simp [intOf]⟩
     | true =>
       have HE := hid (show R = c3 EC { tg with region := upOf (low xb.data.toList) } ((P.drop (k + 1)).map low) from by
        rw [hR2]
        rw [show cN 2 tg = c2 EC tg from rfl, c2_cons, if_pos hl])
       have HL := hid hl
       clear hl hR2
       go_wp2_with (go_at_call 160; refine (region_up_any _ _ HL.out _ (by omega)).mono ?_; rintro e w' ⟨rfl, rfl⟩)
       refine (upper_any xb _ (by omega)).mono ?_
       rintro e w4 ⟨rfl, hw4⟩
       have HT4 := hid (HT3.out.ext hw4)
       obtain ⟨⟨p0, p1, p2, p3⟩, ⟨e0, e1, e2, e3⟩⟩ := HT4.out.tag
       clear hw4
       unfold strv
       go_wp2
       have HU := upOf_low xb.data.toList
       have HE2 := HE.out
       rw [HU] at HE2
       exact ⟨⟨k + 1, 3, _, vs, by omega, by go_num, by omega, rfl, HT4.out.set2 _, HE2, fun _ => by omega, fun h => by omega, fun h => by omega, Nat.le_trans hvl (Nat.le_succ _)⟩, by simp [intOf]; omega⟩
    ·go_wp2_with fail
     refine (lower_any xb _ (by omega)).mono ?_
     rintro e w3 ⟨rfl, hw3⟩
     have HT3 := hid (HT2.out.ext hw3)
     clear hw3
     unfold strv
     cases hl : variantB (low xb.data.toList) with
     | false =>
       have HE := hid (show R = (TagP.zero, 3) from by
        rw [hR2]
        exact c3_bad (k := 0) rfl hl)
       have HL := hid hl
       obtain ⟨⟨q0, q1, q2, q3⟩, ⟨f0, f1, f2, f3⟩⟩ := HT3.out.res
       clear hl hR2
       go_wp2_with (go_at_call 157; refine (variant_low_any _ _ HL.out _ (by omega)).mono ?_; rintro e w' ⟨rfl, rfl⟩)
       rw [Exit.noGoto_ret]
       refine bodyPost_ret (v := .tuple #[tagV TagP.zero none 0 0, .int .i64 3]) ?_ rfl (R_err HE.out _ (res_set HT3.out.w _ _ _ _))
       simp [results, Tryz.results105, go_sem, q0, q1, q2, q3, f0, f1, f2, f3]
       rfl
     | true =>
       have HE := hid (show R = c3 EC { tg with vars := tg.vars ++ [low xb.data.toList] } ((P.drop (k + 1)).map low) from by
        rw [hR2]
        rw [show cN 3 tg = c3 EC tg from rfl, c3_more _ _ _ _ hl])
       have HL := hid hl
       obtain ⟨⟨p0, p1, p2, p3⟩, ⟨e0, e1, e2, e3⟩⟩ := HT3.out.tag
       have hg3 : gt < w3.heap.size := HT3.out.2.2.2.2.1.lt
       clear hl hR2
       go_wp2_with (go_at_call 157; refine (variant_low_any _ _ HL.out _ (by omega)).mono ?_; rintro e w' ⟨rfl, rfl⟩)
       have tok1 : True := trivial
       go_region_law (first
        | (have _t := tok1; refine step_app _ rfl _ _ 35 rfl (gt + 1) 9 i0 _ 16 Tryz.underlying35 hi hz0 hz1 hz2 rfl vs tg.vars.length _ rfl (HT4.out.2.2.2.2.2.1.alloc _) _ 1 _ [strv (low xb.data.toList)] rfl (Sl.one _ _ _) (by simp [Value.oneCell', strv]) (by unfold maxLen; omega) (by omega) (by simp; omega) ?_; intro v5 w5 hown5 hgrow5; obtain ⟨g5, c5, rfl, _, _, _⟩ := own_some hown5 (by omega); have HB5 := hid (Below.grown (Below.alloc (Below.refl (gt + 1) w4) (by omega) _) hgrow5 (by simp; omega) (own_lt HT4.out.2.2.2.2.2.1)); have HO5 := hid hown5; have y3 := (Below.cell HB5.out (p := ⟨gt, 3, none⟩) (Nat.lt_succ_self _)).trans HT4.out.tag.1.2.2.2; have y4 := (Below.frozen HB5.out (p := ⟨gt, 3, none⟩) (Nat.lt_succ_self _)).trans HT4.out.tag.2.2.2.2; clear hown5 hgrow5 tok1)
        | (go_simp; go_at_call 164; refine (lower_any xb _ (by omega)).mono ?_; rintro e w4 ⟨rfl, hw4⟩; have HT4 := hid (HT3.out.ext ((Ext.refl w3).drew.trans hw4)); have z3 := HT4.out.tag.1.2.2.2; have hg4 : gt < w4.heap.size := HT4.out.2.2.2.2.1.lt; clear hw4; unfold strv))
       all_goals go_wp2
       all_goals exact ⟨⟨k + 1, 3, _, _, by omega, by go_num, by omega, rfl, TB.more HT4.out HB5.out HO5.out, HE.out, fun _ => by omega, fun h => by omega, fun h => by omega, by simp; omega⟩, by simp [intOf]; omega⟩
  ·have hkn : k = n := by omega
   subst hkn
   have hfin : R = finT EC tg := by
    rw [HR2.out, List.drop_of_length_le (by rw [HN.out]; exact Nat.le_refl _)]
    exact cN_end (hkp hn0)
   have hown := HT.out.2.2.2.2.2.1
   obtain ⟨A, c, rfl, hsl0, hc0⟩ := own_sl hown
   have hgw : gt < wr.heap.size := HT.out.2.2.2.2.1.lt
   have hgl := HT.out.2.2.2.1
   have HOW := hid hown
   have HFIN := hid hfin
   have HTG := hid HT.out.2.2.2.2.1
   have HRS := hid HT.out.2.2.1
   have HW := hid HT.out.w
   have HVL := hid (show tg.vars.length ≤ 60001 by omega)
   have HWL := hid (Ext.size HT.out.w)
   obtain ⟨⟨p0, p1, p2, p3⟩, ⟨e0, e1, e2, e3⟩⟩ := HT.out.tag
   clear hown hfin hsl0 HT HR2 HPV HPZ hkp hvl
   generalize hL : tg.vars.length = L at HOW HVL
   have HL := hid hL
   go_wp2_with fail
   refine (sort_any tg.vars A L c (gt + 1) wr (by rw [HL.out]; exact HOW.out) (by rw [HL.out]; have := HVL.out; omega) (by omega)).mono ?_
   rintro e w3 ⟨rfl, ho3, hb3⟩
   have HTG3 := hid (HTG.out.below hb3 (Nat.lt_succ_self _))
   have HRS3 := hid (HRS.out.below hb3 (by omega))
   have HW3 := hid (HW.out.trans' hb3 (by omega))
   have hg3 : gt < w3.heap.size := HTG3.out.lt
   have HO3 := hid ho3
   obtain ⟨⟨_, _, _, y3⟩, ⟨_, _, _, y7⟩⟩ := HTG3.out.cells
   clear hb3 ho3 p0 p1 p2 p3 e0 e1 e2 e3
   go_wp2_with fail
   refine (compact_any (sortS tg.vars) A L c (gt + 1) w3 (by rw [sortS_len]; exact HO3.out) (by rw [sortS_len, HL.out]; have := HVL.out; omega) (by omega)).mono ?_
   rintro e w4 ⟨A', c', rfl, hs4, hc4, hb4, hA4⟩
   have HTG4 := hid (HTG3.out.below hb4 (Nat.lt_succ_self _))
   have HRS4 := hid (HRS3.out.below hb4 (by omega))
   have HW4 := hid (HW3.out.trans' hb4 (by omega))
   have hmn : isNodup tg.vars = decide ((Lib.compact (sortS tg.vars)).length = L) := by rw [compact_sort, HL.out]
   have hml : (Lib.compact (sortS tg.vars)).length ≤ L := by have := compact_le (sortS tg.vars); rw [sortS_len, HL.out] at this; exact this
   have HND := hid (show isNodup tg.vars = true → Lib.compact (sortS tg.vars) = sortS tg.vars from fun h => compact_nodup ((sortS_perm _).nodup_iff.2 (by simpa [isNodup] using h)))
   generalize hM : Lib.compact (sortS tg.vars) = C at hs4 hc4 hmn hml HND
   generalize hMl : C.length = M at hs4 hc4 hmn hml
   have HS4 := hid hs4
   have HA4 := hid hA4
   have HMN := hid hmn
   have HML := hid hMl
   have HE5 := hid (HW4.out.setCell (p := ⟨gt, 3, none⟩) (by show w.heap.size ≤ gt; omega) (.slice A' M c'))
   have HT5 := hid (HTG4.out.set3 (.slice A' M c'))
   have HR5 := hid (HRS4.out.other ⟨gt, 3, none⟩ (by show w.heap.size ≠ gt; omega) (.slice A' M c'))
   obtain ⟨⟨x0, x1, x2, x3⟩, ⟨y0, y1, y2, y3⟩⟩ := HTG4.out.cells
   unfold strv at x0 x1 x2
   have hgne : ¬ gt = w.heap.size := by omega
   have hgne2 : ¬ w.heap.size = gt := by omega
   obtain ⟨⟨q0, q1, q2, q3⟩, ⟨f0, f1, f2, f3⟩⟩ := HRS4.out.cells
   clear hs4 hA4 hmn hMl hb4 hM
   by_cases hlt2 : M < L
   ·have h9 := hid (show R = (TagP.zero, 9) from by
     rw [HFIN.out]
     unfold finT
     rw [if_neg (by rw [HMN.out]; simp; omega)]
     rfl)
    go_wp2
    rw [Exit.noGoto_ret]
    refine bodyPost_ret (v := .tuple #[tagV TagP.zero none 0 0, .int .i64 9]) ?_ rfl (R_err h9.out _ (res_set HE5.out _ _ _ _))
    simp [results, Tryz.results105, go_sem, q0, q1, q2, q3, f0, f1, f2, f3]
    rfl
   ·have hML : M = L := by omega
    have HML2 := hid hML
    by_cases h4 : L ≤ 4
    ·have hok := hid (show R = ({ tg with vars := sortS tg.vars }, 0) from by
      rw [HFIN.out]
      unfold finT
      rw [if_pos (by rw [HMN.out]; simp; exact HML2.out), if_pos (by rw [HL.out]; exact h4)])
     have hC := hid (HND.out (by rw [HMN.out]; simp; exact HML2.out))
     clear hML
     go_wp2
     rw [Exit.noGoto_ret]
     refine bodyPost_ret (v := .tuple #[tagV { tg with vars := sortS tg.vars } A' M c', .int .i64 0]) ?_ rfl ?_
     ·simp [results, Tryz.results105, go_sem, q0, q1, q2, q3, f0, f1, f2, f3, hgne, hgne2]
      rfl
     ·rw [hok.out]
      have ne : ∀ g j ad, g < gt + 1 → A' = some ad → ad.block ≠ (⟨g, j, none⟩ : Addr).block := fun g j ad hg h => by have := HA4.out ad h; show ad.block ≠ g; omega
      have hs := HS4.out
      rw [hC.out] at hs
      exact ⟨A', M, c', rfl, ((((hs.othr _ (ne gt 3 · (by omega)) _).othr _ (ne _ 0 · (by omega)) _).othr _ (ne _ 1 · (by omega)) _).othr _ (ne _ 2 · (by omega)) _).othr _ (ne _ 3 · (by omega)) _, hc4, res_set HE5.out _ _ _ _, fun ad h => by have := HA4.out ad h; omega⟩
    ·have h6 := hid (show R = (TagP.zero, 6) from by
      rw [HFIN.out]
      unfold finT
      rw [if_pos (by rw [HMN.out]; simp; exact HML2.out), if_neg (by rw [HL.out]; exact h4)]
      rfl)
     clear hML
     go_wp2
     rw [Exit.noGoto_ret]
     refine bodyPost_ret (v := .tuple #[tagV TagP.zero none 0 0, .int .i64 6]) ?_ rfl (R_err h6.out _ (res_set HE5.out _ _ _ _))
     simp [results, Tryz.results105, go_sem, q0, q1, q2, q3, f0, f1, f2, f3]
     rfl
theorem tparse_any (s : ByteArray) (w : World) (hm : Mx w) (hs : s.size ≤ 60000) :
 Calls Tryz.prog 105 #[.string s] w fun e w' => ∃ A n c, e = .returned (.tuple #[tagV (parseP EC s.data.toList).1 A n c, .int .i64 (parseP EC s.data.toList).2]) ∧ Sl w' A n ((parseP EC s.data.toList).1.vars.map strv) ∧ n ≤ c ∧ Ext w w' :=
 (tparse_fresh s w hm hs).mono fun _ _ ⟨A, n, c, h1, h2, h3, h4, _⟩ => ⟨A, n, c, h1, h2, h3, h4⟩
end Go.Proofs.YtljdlkonlnjadaaGreatDoor
namespace Go.Proofs.YtljdlkonlnjadaaGreatDoor
open Go.RowKit
def TL (t : TagP) : Prop := t.lang.length ≤ 9223372036854775807 ∧ t.script.length ≤ 9223372036854775807 ∧ t.region.length ≤ 9223372036854775807 ∧ (∀ x ∈ t.vars, x.length ≤ 9223372036854775807) ∧ t.vars.length ≤ 60000
def VInv (T : TypeId) (w : World) (t : TagP) (A : Option Addr) (n c : Nat) (i : Value) (wr : World) : Prop :=
 ∃ k : Nat, k ≤ n ∧ i = .int .i64 k ∧ AtT T wr w.heap.size (strv t.lang) (strv t.script) (strv t.region) (.slice A n c) ∧ Sl wr A n (t.vars.map strv) ∧ Ext w wr ∧ (t.vars.take k).all variantB = true ∧ incB (t.vars.take k) = true
theorem valid_bad {t : TagP} {k : Nat} {x : List UInt8} (hx : t.vars[k]? = some x) (h : variantB x = false) : validP t = false := by
 rw [Bool.eq_false_iff]
 intro h2
 simp only [validP, Bool.and_eq_true] at h2
 have := List.all_eq_true.1 h2.1.1.2 x (List.mem_of_getElem? hx)
 rw [h] at this
 cases this
theorem valid_desc {t : TagP} {k : Nat} {x y : List UInt8} (hy : t.vars[k]? = some y) (hx : t.vars[k + 1]? = some x) (h : ¬ y < x) : validP t = false := by
 rw [Bool.eq_false_iff]
 intro h2
 simp only [validP, Bool.and_eq_true] at h2
 exact h ((incB_adj _).1 h2.1.2 k y x hy hx)
theorem vinv_next {l : List (List UInt8)} {k : Nat} {x : List UInt8} (hx : l[k]? = some x) (h1 : (l.take k).all variantB = true) (h2 : incB (l.take k) = true) (hv : variantB x = true) (hy : ∀ y j, j + 1 = k → l[j]? = some y → y < x) :
 (l.take (k + 1)).all variantB = true ∧ incB (l.take (k + 1)) = true := by
 refine ⟨?_, ?_⟩
 ·rw [take_next hx, List.all_append, h1]; simp [hv]
 ·rw [incB_adj] at h2 ⊢
  intro j a b ha hb
  have hjk : j + 1 < k + 1 := by
   rcases Nat.lt_or_ge (j + 1) (k + 1) with h | h
   ·exact h
   ·rw [List.getElem?_take_eq_none (by omega)] at hb; cases hb
  rw [List.getElem?_take_of_lt (by omega)] at ha
  rw [List.getElem?_take_of_lt (by omega)] at hb
  by_cases hj : j + 1 = k
  ·rw [hj, hx] at hb
   injection hb with hb
   subst hb
   exact hy a j hj ha
  ·refine h2 j a b ?_ ?_
   ·rw [List.getElem?_take_of_lt (by omega)]; exact ha
   ·rw [List.getElem?_take_of_lt (by omega)]; exact hb
theorem three (x y : ByteArray) : (Op.bytesLess x.toList y.toList = true ∧ ¬ y.data.toList < x.data.toList) ∨ (Op.bytesLess x.toList y.toList = false ∧ (x.toList == y.toList) = true ∧ ¬ y.data.toList < x.data.toList) ∨ (Op.bytesLess x.toList y.toList = false ∧ (x.toList == y.toList) = false ∧ y.data.toList < x.data.toList) := by
 rw [less_b, eq_b]
 generalize x.data.toList = a
 generalize y.data.toList = b
 by_cases h1 : a < b
 ·exact .inl ⟨by simpa using h1, fun h => List.lt_irrefl a (List.lt_trans h1 h)⟩
 ·by_cases h2 : a = b
  ·subst h2
   exact .inr (.inl ⟨by simp, by simp, h1⟩)
  ·exact .inr (.inr ⟨by simpa using h1, by simpa using h2, le_ne_lt (nlt_le h1) (Ne.symm h2)⟩)
set_option maxHeartbeats 4000000 in
theorem tvalid_any (t : TagP) (A : Option Addr) (n c : Nat) (w : World) (hA : Sl w A n (t.vars.map strv)) (ht : TL t) :
 Calls Tryz.prog 103 #[tagV t A n c] w fun e w' => e = .returned (.bool (validP t)) ∧ Ext w w' := by
 have hl : t.vars.length = n := by have := hA.1; rwa [List.length_map] at this
 obtain ⟨t1, t2, t3, t4, t5⟩ := ht
 rw [hl] at t5
 have HL := hid hl
 have HA := hid hA
 have HT4 := hid t4
 generalize hv : validP t = V
 have HV := hid hv
 clear hl hA t4 hv
 unfold tagV strv
 go_enter Tryz.func103, Tryz.ntmps103
 go_wp2
 go_loopw [8] (VInv 143 w t A n c) (fun i _ => n - (intOf i).toNat)
 case atStart => exact ⟨0, Nat.zero_le _, rfl, AtT.new w, HA.out.ext ((Ext.refl w).alloc _), (Ext.refl w).alloc _, rfl, rfl⟩
 case round =>
  obtain ⟨k, hk, rfl, hat, hsl, hw, hall, hinc⟩ := hrel
  obtain ⟨⟨p0, p1, p2, p3⟩, ⟨e0, e1, e2, e3⟩⟩ := hat.cells
  unfold strv at p0 p1 p2
  have HAT := hid hat
  have HSL := hid hsl
  have HW := hid hw
  have HALL := hid hall
  have HINC := hid hinc
  clear hat hsl hw hall hinc
  by_cases hlt : k < n
  ·obtain ⟨ad, x, rfl, hu, hc⟩ := HSL.out.at_map hlt
   obtain ⟨xb, hx1, rfl⟩ := strv_b x
   rw [hx1] at hc
   have hxs : xb.size ≤ 9223372036854775807 := by rw [← size_list]; exact HT4.out _ (List.mem_of_getElem? hu)
   have HU := hid hu
   clear hx1 hu
   cases hvx : variantB xb.data.toList with
   | false =>
     have HB := hid (HV.out.symm.trans (valid_bad HU.out hvx))
     have HX := hid hvx
     clear hvx
     go_wp2_with (go_at_call 157; refine (variant_any _ _ (by omega)).mono ?_; rintro e w' ⟨rfl, rfl⟩; rw [HX.out])
     go_ret
     exact ⟨ret_bool HB.out.symm, HW.out⟩
   | true =>
     have HX := hid hvx
     clear hvx
     by_cases hk0 : k = 0
     ·have HN := hid (vinv_next HU.out HALL.out HINC.out HX.out (fun y j hj _ => by omega))
      have hkI : ¬ (0 : Int) < (k : Int) := by omega
      clear hk0
      go_wp2_with (go_at_call 157; refine (variant_any _ _ (by omega)).mono ?_; rintro e w' ⟨rfl, rfl⟩; rw [HX.out])
      exact ⟨⟨k + 1, by omega, by go_num, HAT.out, HSL.out, HW.out, HN.out.1, HN.out.2⟩, by simp [intOf]; omega⟩
     ·obtain ⟨ad', y, had, hu2, hc2⟩ := HSL.out.at_map (k := k - 1) (by omega)
      injection had with had
      subst had
      obtain ⟨yb, hy1, rfl⟩ := strv_b y
      rw [hy1] at hc2
      have HU2 := hid hu2
      have hu' : t.vars[k - 1 + 1]? = some xb.data.toList := by rw [show k - 1 + 1 = k from by omega]; exact HU.out
      have HU' := hid hu'
      have e1 : (1 : Int) ≤ (k : Int) := by omega
      have e2 : ((k : Int) - 1).toNat = k - 1 := by omega
      have e3 : (0 : Int) < (k : Int) := by omega
      have e4 : (k : Int) - 1 < (n : Int) := by omega
      clear hy1 hu2 hu' hk0
      rcases three xb yb with ⟨h1, h3⟩ | ⟨h1, h2, h3⟩ | ⟨h1, h2, h3⟩
      ·have HB := hid (HV.out.symm.trans (valid_desc HU2.out HU'.out h3))
       clear h3
       go_wp2_with (go_at_call 157; refine (variant_any _ _ (by omega)).mono ?_; rintro e w' ⟨rfl, rfl⟩; rw [HX.out])
       go_ret
       exact ⟨ret_bool HB.out.symm, HW.out⟩
      ·have HB := hid (HV.out.symm.trans (valid_desc HU2.out HU'.out h3))
       clear h3
       go_wp2_with (go_at_call 157; refine (variant_any _ _ (by omega)).mono ?_; rintro e w' ⟨rfl, rfl⟩; rw [HX.out])
       go_ret
       exact ⟨ret_bool HB.out.symm, HW.out⟩
      ·have HN := hid (vinv_next HU.out HALL.out HINC.out HX.out (fun y i hi hy => by
        have : i = k - 1 := by omega
        subst this
        rw [HU2.out] at hy
        injection hy with hy
        subst hy
        exact h3))
       clear h3
       go_wp2_with (go_at_call 157; refine (variant_any _ _ (by omega)).mono ?_; rintro e w' ⟨rfl, rfl⟩; rw [HX.out])
       exact ⟨⟨k + 1, by omega, by go_num, HAT.out, HSL.out, HW.out, HN.out.1, HN.out.2⟩, by simp [intOf]; omega⟩
  ·have hkn : k = n := by omega
   subst hkn
   have hall := HALL.out
   have hinc := HINC.out
   rw [List.take_of_length_le (by rw [HL.out]; exact Nat.le_refl _)] at hall hinc
   have hval : V = (langB t.lang && (t.script == [] || scriptB t.script) && (t.region == [] || regionB t.region) && decide (k ≤ 4)) := by
    rw [← HV.out]
    unfold validP
    rw [hall, hinc, HL.out]
    simp
   have HVAL := hid hval
   clear hall hinc hval HALL HINC
   obtain ⟨lb, hl1, hl2⟩ := strv_b t.lang
   obtain ⟨sb, hs1, hs2⟩ := strv_b t.script
   obtain ⟨rb, hr1, hr2⟩ := strv_b t.region
   rw [← hl2] at t1
   rw [← hs2] at t2
   rw [← hr2] at t3
   rw [size_list] at t1 t2 t3
   rw [show (Value.string ⟨t.lang.toArray⟩) = .string lb from hl1] at p0
   rw [show (Value.string ⟨t.script.toArray⟩) = .string sb from hs1] at p1
   rw [show (Value.string ⟨t.region.toArray⟩) = .string rb from hr1] at p2
   have HVAL2 := HVAL.out
   rw [← hl2, ← hs2, ← hr2] at HVAL2
   have HVAL := hid HVAL2
   clear HVAL2 hl1 hl2 hs1 hs2 hr1 hr2
   go_wp2_with (first
    | (go_at_call 158; refine (lang_any _ _ (by omega)).mono ?_; rintro e w' ⟨rfl, rfl⟩; cases hA1 : langB lb.data.toList)
    | (go_at_call 159; refine (script_any _ _ (by omega)).mono ?_; rintro e w' ⟨rfl, rfl⟩; cases hA2 : scriptB sb.data.toList)
    | (go_at_call 160; refine (region_any _ _ (by omega)).mono ?_; rintro e w' ⟨rfl, rfl⟩; cases hA3 : regionB rb.data.toList))
   all_goals go_ret
   all_goals refine ⟨ret_bool ?_, HW.out⟩
   all_goals rw [HVAL.out]
   all_goals simp_all [ByteArray.toList_eq]
   all_goals omega
end Go.Proofs.YtljdlkonlnjadaaGreatDoor
