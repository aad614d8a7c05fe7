import Derived.Test.YtljdlkonlnjadaaGreatDoorNXE
import Derived.Test.YtljdlkonlnjadaaGreatDoorNX6
set_option maxRecDepth 100000
set_option linter.unusedSimpArgs false
set_option linter.unusedVariables false
open Go.Lib (hid)
namespace Go.Proofs.YtljdlkonlnjadaaGreatDoor
open Go.RowKit
def stepR (o : Option TagP) : TagP × Bool := match o with
 | some u => (u, true)
 | none => (TagP.zero, false)
def RetStep (w : World) (o : Option TagP) (e : Ending) (w' : World) : Prop :=
 ∃ A n c, e = .returned (.tuple #[tagV (stepR o).1 A n c, .bool (stepR o).2]) ∧ Sl w' A n ((stepR o).1.vars.map strv) ∧ n ≤ c ∧ Ext w w' ∧ ∀ ad, A = some ad → w.heap.size ≤ ad.block
def SInv (Wb : World) (xs : List RV) (t : TagP) (n : Nat) (i : Value) (wr : World) : Prop :=
 ∃ k : Nat, k ≤ n ∧ i = .int .i64 k ∧ stepP ((xs.take k).map (·.r)) t = none ∧ Ext Wb wr
theorem sinv_next {xs : List RV} {t : TagP} {k : Nat} {x : RV} (hx : xs[k]? = some x) (h : stepP ((xs.take k).map (·.r)) t = none) (h2 : (fitsP x.r t && !eqT (replP x.r t) t) = false) : stepP ((xs.take (k + 1)).map (·.r)) t = none := by
 rw [take_next hx, List.map_append, stepP_app, h]
 simp only [List.map_cons, List.map_nil, stepP]
 rw [h2]
 rfl
theorem sinv_hit {xs : List RV} {t : TagP} {k : Nat} {x : RV} (hx : xs[k]? = some x) (h : stepP ((xs.take k).map (·.r)) t = none) (h2 : (fitsP x.r t && !eqT (replP x.r t) t) = true) : stepP (xs.map (·.r)) t = some (replP x.r t) := by
 have e : xs = xs.take k ++ (x :: xs.drop (k + 1)) := by
  obtain ⟨hk, hx'⟩ := List.getElem?_eq_some_iff.1 hx
  rw [← hx', ← List.drop_eq_getElem_cons hk, List.take_append_drop]
 have e2 : xs.map (·.r) = (xs.take k).map (·.r) ++ (x.r :: (xs.drop (k + 1)).map (·.r)) := by
  conv => lhs; rw [e]
  simp
 rw [e2, stepP_app, h]
 simp only [stepP]
 rw [h2]
 rfl
set_option maxHeartbeats 2000000 in
theorem tstep_any (xs : List RV) (t : TagP) (A B : Option Addr) (n c m d : Nat) (w : World) (hR : Rules w A n xs) (hB : Sl w B m (t.vars.map strv)) (hok : ∀ x ∈ xs, okR x.r) (ht : validP t = true) (hn : n ≤ 100000) :
 Calls Tryz.prog 107 #[.slice A n c, tagV t B m d] w (RetStep w (stepP (xs.map (·.r)) t)) := by
 have hl := hR.len
 have hmn : m ≤ 60000 := n_le hB (TL_of ht)
 have htn := (valid_parts ht).2.2.2.2.2.1
 have htl := TL_of ht
 have heq := fun u A' B' n' c' m' d' W h1 h2 h3 h4 => tequal_any u t A' B' n' c' m' d' W h1 h2 h3 h4
 have hfit := fun x W (h : RvOk W x) (hB : Sl W B m (t.vars.map strv)) (h3 : x.n ≤ 60000) => fits_any x t B m d W h hB hmn h3
 have hrep := fun x W (h : RvOk W x) (hB : Sl W B m (t.vars.map strv)) (h3 : x.n ≤ 60000) (h4 : x.m ≤ 60000) h5 h6 => trep_any x t B m d W h hB hmn h3 h4 h5 htn htl h6
 obtain ⟨lb, hlb, _⟩ := strv_b t.lang
 obtain ⟨sb, hsb, _⟩ := strv_b t.script
 obtain ⟨rb, hrb, _⟩ := strv_b t.region
 unfold tagV at hfit hrep heq ⊢
 rw [hlb, hsb, hrb] at hfit hrep heq ⊢
 have HR := hid hR
 have HB := hid hB
 have HOK := hid hok
 have HL := hid hl
 have HFIT := hid hfit
 have HREP := hid hrep
 have HEQ := hid heq
 clear hR hB hok hl hfit hrep heq hlb hsb hrb htn htl
 go_enter Tryz.func107, Tryz.ntmps107
 go_wp2_with fail
 have k1 : AtT 143 ((w.alloc (.cells #[.string lb, .string sb, .string rb, .slice B m d] 143)).alloc (.cells #[.string ⟨#[]⟩, .string ⟨#[]⟩, .string ⟨#[]⟩, .slice none 0 0] 143)) w.heap.size (.string lb) (.string sb) (.string rb) (.slice B m d) :=
  (AtT.new w).ext ((Ext.refl _).alloc _)
 have k2 : AtT 143 ((w.alloc (.cells #[.string lb, .string sb, .string rb, .slice B m d] 143)).alloc (.cells #[.string ⟨#[]⟩, .string ⟨#[]⟩, .string ⟨#[]⟩, .slice none 0 0] 143)) (w.heap.size + 1) (.string ⟨#[]⟩) (.string ⟨#[]⟩) (.string ⟨#[]⟩) (.slice none 0 0) := by
  have h := (AtT.new (w.alloc (.cells #[.string lb, .string sb, .string rb, .slice B m d] 143)) : AtT 143 _ _ (.string ⟨#[]⟩) (.string ⟨#[]⟩) (.string ⟨#[]⟩) (.slice none 0 0))
  rwa [show (w.alloc (.cells #[.string lb, .string sb, .string rb, .slice B m d] 143)).heap.size = w.heap.size + 1 from by simp] at h
 have k3 : Ext w ((w.alloc (.cells #[.string lb, .string sb, .string rb, .slice B m d] 143)).alloc (.cells #[.string ⟨#[]⟩, .string ⟨#[]⟩, .string ⟨#[]⟩, .slice none 0 0] 143)) := ((Ext.refl w).alloc _).alloc _
 generalize ((w.alloc (.cells #[.string lb, .string sb, .string rb, .slice B m d] 143)).alloc (.cells #[.string ⟨#[]⟩, .string ⟨#[]⟩, .string ⟨#[]⟩, .slice none 0 0] 143)) = Wb at k1 k2 k3 ⊢
 have K1 := hid k1
 have K2 := hid k2
 have K3 := hid k3
 clear k1 k2 k3
 go_loopw [11] (SInv Wb xs t n) (fun i _ => n - (intOf i).toNat)
 case atStart => exact ⟨0, Nat.zero_le _, rfl, rfl, Ext.refl _⟩
 case round =>
  obtain ⟨k, hk, rfl, hst, hw⟩ := hrel
  have HST := hid hst
  have HW := hid hw
  obtain ⟨⟨p0, p1, p2, p3⟩, _⟩ := (K1.out.ext hw).cells
  clear hst hw
  by_cases hkn : k < n
  ·obtain ⟨x, hx⟩ : ∃ x, xs[k]? = some x := ⟨_, List.getElem?_eq_getElem (by have := HL.out; omega)⟩
   have hxm := List.mem_of_getElem? hx
   obtain ⟨b, o, rfl, hb, hcs⟩ := (HR.out.ext (K3.out.trans HW.out)).at2 hx
   have hrv := fun W (h : Ext w W) => (HR.out.ext h).2 x hxm
   have hokx := HOK.out x hxm
   have hn1 : x.n ≤ 60000 := n_le (hrv w (Ext.refl w)).1 (TL_of hokx.1)
   have hn2 : x.m ≤ 60000 := n_le (hrv w (Ext.refl w)).2 (TL_of hokx.2)
   have hfit := fun W h1 h2 => HFIT.out x W h1 h2 hn1
   have hrep := fun W h1 h2 => HREP.out x W h1 h2 hn1 hn2 (valid_parts hokx.2).2.2.2.2.2.1 (TL_of hokx.2)
   have HX := hid hx
   obtain ⟨b0, b1, b2, b3, b4, b5, hrc⟩ := rvC_b x
   rw [hrc] at hfit hrep hcs
   have c0 := hcs 0 _ rfl
   have c1 := hcs 1 _ rfl
   have c2 := hcs 2 _ rfl
   have c3 := hcs 3 _ rfl
   have c4 := hcs 4 _ rfl
   have c5 := hcs 5 _ rfl
   have c6 := hcs 6 _ rfl
   have c7 := hcs 7 _ rfl
   rw [Nat.add_zero] at c0
   have HRV := hid hrv
   have HLEN := hid (repl_len hokx ht)
   clear hrv hxm hokx hcs hn1 hn2 hrc
   cases hft : fitsP x.r t with
   | false =>
     rw [hft] at hfit
     have HFT := hid hfit
     have HN := hid (sinv_next hx HST.out (by rw [hft]; rfl))
     clear hft hfit hrep hx
     obtain ⟨⟨q0, q1, q2, q3⟩, _⟩ := ((K1.out.ext HW.out).ext ((Ext.refl wr).alloc (.cells #[.string b0, .string b1, .string b2, .slice x.A x.n x.c, .string b3, .string b4, .string b5, .slice x.B x.m x.d] 210))).cells
     go_wp2_with fail
     refine (HFT.out _ ((HRV.out _ (K3.out.trans HW.out)).ext ((Ext.refl _).alloc _)) (HB.out.ext ((K3.out.trans HW.out).alloc _))).mono ?_
     rintro e w2 ⟨rfl, hw2⟩
     have HW2 := hid ((HW.out.alloc _).trans hw2)
     clear hw2
     go_wp2
     exact ⟨⟨k + 1, by omega, by go_num, HN.out, HW2.out⟩, by simp [intOf]; omega⟩
   | true =>
     rw [hft] at hfit
     have hnx := sinv_next hx HST.out
     have hht := sinv_hit hx HST.out
     rw [hft] at hnx hht
     have hlen : (replP x.r t).vars.length ≤ 8 := HLEN.out
     generalize replP x.r t = u at hrep hnx hht hlen
     have hequ := fun A' n' c' W h1 h2 h3 => HEQ.out u A' B n' c' m d W h1 h2 h3 hmn
     obtain ⟨ul, hul, _⟩ := strv_b u.lang
     obtain ⟨us, hus, _⟩ := strv_b u.script
     obtain ⟨ur, hur, _⟩ := strv_b u.region
     unfold RetTag at hrep
     unfold tagV at hrep
     rw [hul, hus, hur] at hrep hequ
     have HFT := hid hfit
     have HRP := hid hrep
     have HNX := hid hnx
     have HHT := hid hht
     have HEU := hid hequ
     have HU := hid (And.intro hul (And.intro hus hur))
     clear hft hfit hrep hx hnx hht hequ hul hus hur
     obtain ⟨⟨q0, q1, q2, q3⟩, _⟩ := ((K1.out.ext HW.out).ext ((Ext.refl wr).alloc (.cells #[.string b0, .string b1, .string b2, .slice x.A x.n x.c, .string b3, .string b4, .string b5, .slice x.B x.m x.d] 210))).cells
     go_wp2_with fail
     have hk7 := (AtC.new wr #[.string b0, .string b1, .string b2, .slice x.A x.n x.c, .string b3, .string b4, .string b5, .slice x.B x.m x.d] : AtC 210 _ _ _)
     have hkt := (K1.out.ext HW.out).ext ((Ext.refl wr).alloc (.cells #[.string b0, .string b1, .string b2, .slice x.A x.n x.c, .string b3, .string b4, .string b5, .slice x.B x.m x.d] 210))
     refine (HFT.out _ ((HRV.out _ (K3.out.trans HW.out)).ext ((Ext.refl _).alloc _)) (HB.out.ext ((K3.out.trans HW.out).alloc _))).mono ?_
     rintro e w2 ⟨rfl, hw2⟩
     have HW2 := hid ((HW.out.alloc (.cells #[.string b0, .string b1, .string b2, .slice x.A x.n x.c, .string b3, .string b4, .string b5, .slice x.B x.m x.d] 210)).trans hw2)
     have HK7 := hid (hk7.ext hw2)
     have HKT := hid (hkt.ext hw2)
     clear hk7 hkt hw2 c0 c1 c2 c3 c4 c5 c6 c7 p0 p1 p2 p3 q0 q1 q2 q3
     have c0 := HK7.out.cell 0 _ rfl
     have c1 := HK7.out.cell 1 _ rfl
     have c2 := HK7.out.cell 2 _ rfl
     have c3 := HK7.out.cell 3 _ rfl
     have c4 := HK7.out.cell 4 _ rfl
     have c5 := HK7.out.cell 5 _ rfl
     have c6 := HK7.out.cell 6 _ rfl
     have c7 := HK7.out.cell 7 _ rfl
     obtain ⟨⟨p0, p1, p2, p3⟩, _⟩ := HKT.out.cells
     go_wp2_with fail
     refine (HRP.out _ (HRV.out _ (K3.out.trans HW2.out)) (HB.out.ext (K3.out.trans HW2.out))).mono ?_
     rintro e w3 ⟨A5, n5, c5', rfl, hs5, hnc5, hw3, hf5⟩
     have HW3 := hid (HW2.out.trans hw3)
     have HKT3 := hid ((HKT.out.ext hw3).ext ((Ext.refl w3).alloc (.cells #[.string ul, .string us, .string ur, .slice A5 n5 c5'] 143)))
     have HS5 := hid (hs5.ext ((Ext.refl w3).alloc (.cells #[.string ul, .string us, .string ur, .slice A5 n5 c5'] 143)))
     have HF5 := hid hf5
     have hs5' := hs5.1
     have hkn5 := (AtT.new w3 : AtT 143 (w3.alloc (.cells #[.string ul, .string us, .string ur, .slice A5 n5 c5'] 143)) w3.heap.size (.string ul) (.string us) (.string ur) (.slice A5 n5 c5'))
     have HKN5 := hid hkn5
     clear c0 c1 c2 c3 c4 c5 c6 c7 p0 p1 p2 p3 hs5 hw3 hf5 hkn5
     obtain ⟨⟨p0, p1, p2, p3⟩, _⟩ := HKT3.out.cells
     have hn5 : n5 ≤ 60000 := by have h := hs5'; rw [List.length_map] at h; omega
     clear hs5'
     cases hq : eqP u t with
     | true =>
       have hq2 : eqT u t = true := hq
       have HN := hid (HNX.out (by rw [hq2]; rfl))
       have heu := fun A' n' c' W => HEU.out A' n' c' W
       rw [hq] at heu
       have HEV := hid heu
       clear hq hq2 heu
       go_wp2_with fail
       refine (HEV.out A5 n5 c5' _ HS5.out (HB.out.ext ((K3.out.trans HW3.out).alloc _)) hn5).mono ?_
       rintro e w4 ⟨rfl, hw4⟩
       have HW4 := hid ((HW3.out.alloc _).trans hw4)
       clear hw4
       go_wp2
       exact ⟨⟨k + 1, by omega, by go_num, HN.out, HW4.out⟩, by simp [intOf]; omega⟩
     | false =>
       have hq2 : eqT u t = false := hq
       have HH := hid (HHT.out (by rw [hq2]; rfl))
       have heu := fun A' n' c' W => HEU.out A' n' c' W
       rw [hq] at heu
       have HEV := hid heu
       clear hq hq2 heu
       go_wp2_with fail
       refine (HEV.out A5 n5 c5' _ HS5.out (HB.out.ext ((K3.out.trans HW3.out).alloc _)) hn5).mono ?_
       rintro e w4 ⟨rfl, hw4⟩
       have HW4 := hid ((HW3.out.alloc (.cells #[.string ul, .string us, .string ur, .slice A5 n5 c5'] 143)).trans hw4)
       have HS6 := hid (HS5.out.ext hw4)
       obtain ⟨⟨q0, q1, q2, q3⟩, _⟩ := (HKN5.out.ext hw4).cells
       obtain ⟨⟨r0, r1, r2, r3⟩, ⟨f0, f1, f2, f3⟩⟩ := (K2.out.ext HW4.out).cells
       clear hw4 p0 p1 p2 p3
       go_wp2
       refine bodyPost_ret (v := .tuple #[.agg #[.string ul, .string us, .string ur, .slice A5 n5 c5'], .bool true]) ?_ rfl ⟨A5, n5, c5', ?_, ?_, hnc5, ?_, ?_⟩
       ·simp [results, Tryz.results107, go_sem, q0, q1, q2, q3, r0, r1, r2, r3, f0, f1, f2, f3]
       ·rw [HH.out]
        unfold stepR tagV
        simp only
        rw [HU.out.1, HU.out.2.1, HU.out.2.2]
       ·rw [HH.out]
        have hbig : w.heap.size + 1 < w2.heap.size := Nat.lt_of_lt_of_le K2.out.lt HW2.out.size
        have ne : ∀ q, ∀ ad, A5 = some ad → ad.block ≠ (⟨w.heap.size + 1, q, none⟩ : Addr).block := fun q ad had => by
         have h1 := HF5.out ad had
         show ad.block ≠ w.heap.size + 1
         omega
        exact (((HS6.out.othr _ (ne _) _).othr _ (ne _) _).othr _ (ne _) _).othr _ (ne _) _
       ·exact (((((K3.out.trans HW4.out).setCell (Nat.le_succ _) _).setCell (Nat.le_succ _) _).setCell (Nat.le_succ _) _).setCell (Nat.le_succ _) _)
       ·intro ad had
        have h1 := HF5.out ad had
        have h2 := (K3.out.trans HW2.out).size
        omega
  ·have hkk : k = n := by omega
   subst hkk
   have HN := hid (show stepP (xs.map (·.r)) t = none from by
    have h := HST.out
    rwa [List.take_of_length_le (by have := HL.out; omega)] at h)
   obtain ⟨⟨r0, r1, r2, r3⟩, ⟨f0, f1, f2, f3⟩⟩ := (K2.out.ext HW.out).cells
   go_wp2
   refine bodyPost_ret (v := .tuple #[.agg #[.string ⟨#[]⟩, .string ⟨#[]⟩, .string ⟨#[]⟩, .slice none 0 0], .bool false]) ?_ rfl ⟨none, 0, 0, ?_, ?_, Nat.le_refl _, ?_, ?_⟩
   ·simp [results, Tryz.results107, go_sem, r0, r1, r2, r3, f0, f1, f2, f3]
   ·rw [HN.out]
    rfl
   ·rw [HN.out]
    exact Sl.nil _ _
   ·exact (((((K3.out.trans HW.out).setCell (Nat.le_succ _) _).setCell (Nat.le_succ _) _).setCell (Nat.le_succ _) _).setCell (Nat.le_succ _) _)
   ·intro ad had
    cases had
end Go.Proofs.YtljdlkonlnjadaaGreatDoor
namespace Go.Proofs.YtljdlkonlnjadaaGreatDoor
open Go.RowKit
def comb (pre : List TagP) (R : List TagP × Int) : List TagP × Int := if R.2 = 0 then (pre ++ R.1, 0) else ([], R.2)
theorem comb_nil (R : List TagP × Int) (h : R.2 ≠ 0 → R.1 = []) : comb [] R = R := by
 unfold comb
 obtain ⟨a, b⟩ := R
 by_cases h0 : b = 0
 ·subst h0; rfl
 ·simp only at h
  rw [if_neg h0, h h0]
theorem comb_next {L : List RuleP} {k : Nat} {cur u : TagP} (pre : List TagP) (h : stepP L cur = some u) (h4 : ¬ 4 < u.vars.length) : comb pre (stepsP 6 15 L (k + 1) cur) = comb (pre ++ [cur]) (stepsP 6 15 L k u) := by
 rw [steps_go h h4]
 unfold comb
 by_cases h0 : (stepsP 6 15 L k u).2 = 0
 ·rw [if_pos h0, if_pos h0]
  simp
 ·rw [if_neg h0, if_neg h0]
  simp [h0]
def lenOf (v : Value) : Nat := match v with
 | .slice _ n _ => n
 | _ => 0
def RetStrs (w : World) (R : List (List UInt8) × Int) (e : Ending) (w' : World) : Prop :=
 ∃ A n c, e = .returned (.tuple #[.slice A n c, .int .i64 R.2]) ∧ Sl w' A n (R.1.map strv) ∧ n ≤ c ∧ Ext w w'
def StInv (W1 : World) (gt : Nat) (L : List RuleP) (R : List TagP × Int) (out : Value) (wr : World) : Prop :=
 ∃ (pre : List TagP) (cur : TagP) (B : Option Addr) (m d : Nat), pre.length ≤ 20 ∧ wr.ownsRow W1.heap.size 9 1 out (pre.length + 1) ((pre ++ [cur]).map fun t => strv (textP t)) ∧
   AtT 143 wr gt (strv cur.lang) (strv cur.script) (strv cur.region) (.slice B m d) ∧ (∀ W0, Kept out.ownBlock wr W0 → Sl W0 B m (cur.vars.map strv)) ∧ validP cur = true ∧
   (∀ g, out.ownBlock = some g → g ≠ gt) ∧ R = comb pre (stepsP 6 15 L (20 - pre.length) cur) ∧ Ext W1 wr
theorem Sl.kept2 {w W0 : World} {row : Option Nat} {A : Option Addr} {n : Nat} {xs : List Value} (h : Sl w A n xs) (hk : Kept row w W0) (hr : ∀ ad, A = some ad → ad.block < w.heap.size → some ad.block ≠ row) : Sl W0 A n xs :=
 ⟨h.1, fun j u hu => by
  obtain ⟨ad, ha, hb, hc⟩ := h.2 j u hu
  refine ⟨ad, ha, Nat.lt_of_lt_of_le hb hk.1, ?_⟩
  rw [← hc]
  exact World.cell?_of_block (by rw [addr_block]; exact hk.2 ad.block hb (hr ad ha hb))⟩
theorem own_kept {w w' : World} {B : Nat} {e : TypeId} {size : Nat} {v : Value} {n : Nat} {xs : List Value} (h : w.ownsRow B e size v n xs) (hk : ∀ g, v.ownBlock = some g → w'.heap[g]? = w.heap[g]?) : w'.ownsRow B e size v n xs := by
 obtain ⟨h1, h2⟩ := h
 refine ⟨h1, ?_⟩
 rcases h2 with h2 | ⟨g, cap, cur, hv, hb, hg, r⟩
 ·exact .inl h2
 ·exact .inr ⟨g, cap, cur, hv, hb, (hk g (by rw [hv]; rfl)).trans hg, r⟩
theorem kept_set4 (w : World) (g : Nat) (u0 u1 u2 u3 : Value) : Kept (some g) w ((((w.setCell ⟨g, 0, none⟩ u0).setCell ⟨g, 1, none⟩ u1).setCell ⟨g, 2, none⟩ u2).setCell ⟨g, 3, none⟩ u3) :=
 (((kept_set _ _ _ _).trans (kept_set _ _ _ _) (.inl rfl)).trans (kept_set _ _ _ _) (.inl rfl)).trans (kept_set _ _ _ _) (.inl rfl)
theorem own_one (w : World) (B : Nat) (hB : B ≤ w.heap.size) (u : Value) (e : TypeId) : (w.alloc (.cells #[u] e)).ownsRow B e 1 (.slice (some ⟨w.heap.size, 0, none⟩) 1 1) 1 [u] :=
 ⟨rfl, .inr ⟨w.heap.size, 1, #[u], rfl, hB, heap_alloc_new w _, Nat.le_refl _, by decide, rfl, rfl⟩⟩
set_option maxHeartbeats 4000000 in
theorem tsteps_any (l : List Ali) (s : ByteArray) (A : Option Addr) (n c : Nat) (w : World) (hm : Mx w) (hA : Als w A n l) (hn : n ≤ 100000) (hz : ∀ a ∈ l, a.1.size ≤ 60000 ∧ a.2.size ≤ 60000) (hs : s.size ≤ 60000) :
 Calls Tryz.prog 84 #[.slice A n c, .string s] w (RetStrs w (stepsL l s.data.toList)) := by
 obtain ⟨i0, hi, hz0, hz1, hz2⟩ := info_parts (show (Tryz.prog.info? 9).map (fun i => (i.zero, i.size, i.bytes)) = some (some (.string ⟨#[]⟩), 1, 16) from by kernel_rfl)
 have hrd := readAll_any l A n c w hm hA hn hz
 have hokl := rules_ok (l := l)
 cases hall : l.all aliB with
 | false =>
   have hR : stepsL l s.data.toList = ([], 1) := by unfold stepsL; rw [if_neg (by rw [hall]; simp)]
   rw [hR]
   unfold RetRules at hrd
   rw [hall] at hrd
   have HRD := hid hrd
   clear hrd hR hall hokl
   go_enter Tryz.func84, Tryz.ntmps84
   go_wp2_with fail
   refine HRD.out.mono ?_
   rintro e w1 ⟨A1, n1, c1, xs, rfl, _, _, hw1⟩
   have HW1 := hid hw1
   clear hw1
   go_wp2
   go_ret2
   exact ⟨none, 0, 0, rfl, Sl.nil _ _, Nat.le_refl _, HW1.out⟩
 | true =>
   have hR : stepsL l s.data.toList = if (parseP EC s.data.toList).2 = 0 then ((stepsP 6 15 (l.map ruleOf) 20 (parseP EC s.data.toList).1).1.map textP, (stepsP 6 15 (l.map ruleOf) 20 (parseP EC s.data.toList).1).2) else ([], (parseP EC s.data.toList).2) := by
    unfold stepsL; rw [if_pos hall]
   rw [hR]
   have hok := hokl hall
   unfold RetRules at hrd
   rw [hall] at hrd
   have hpa := fun W hW => tparse_fresh s W hW hs
   have hvt := @parse_ok s.data.toList
   generalize parseP EC s.data.toList = PR at hpa hvt ⊢
   obtain ⟨t0, e0⟩ := PR
   simp only at hpa hvt ⊢
   have HRD := hid hrd
   have HOK := hid hok
   clear hrd hR hall hokl hok
   by_cases he0 : e0 = 0
   ·subst he0
    have hv0 := hvt rfl
    simp only [if_true]
    have htx := fun A n c W h => tText_any t0 A n c W h (TL_of hv0)
    rw [show txtOf t0 = textP t0 from by unfold txtOf; rw [if_pos hv0]] at htx
    obtain ⟨lb, hlb, _⟩ := strv_b t0.lang
    obtain ⟨sb, hsb, _⟩ := strv_b t0.script
    obtain ⟨rb, hrb, _⟩ := strv_b t0.region
    obtain ⟨xb, hxb, _⟩ := strv_b (textP t0)
    unfold tagV at hpa htx
    rw [hlb, hsb, hrb] at hpa htx
    rw [hxb] at htx
    have hbad : (stepsP 6 15 (l.map ruleOf) 20 t0).2 ≠ 0 → (stepsP 6 15 (l.map ruleOf) 20 t0).1 = [] := steps_err (by decide) (by decide) _ _ _
    obtain ⟨R0, hR0⟩ : ∃ R, R = stepsP 6 15 (l.map ruleOf) 20 t0 := ⟨_, rfl⟩
    rw [← hR0] at hbad ⊢
    have HR0 := hid hR0
    have HBAD := hid hbad
    clear hR0 hbad
    have HPA := hid hpa
    have HTX := hid htx
    have HB := hid (And.intro hlb (And.intro hsb (And.intro hrb hxb)))
    have HV0 := hid hv0
    clear hpa hvt htx hlb hsb hrb hxb hv0
    go_enter Tryz.func84, Tryz.ntmps84
    go_wp2_with fail
    refine HRD.out.mono ?_
    rintro e w1 ⟨A1, n1, c1, xs, rfl, hru, hmp, hw1⟩
    have HRU := hid hru
    have HMP := hid (hmp trivial)
    have HW1 := hid hw1
    clear hru hmp hw1
    go_wp2_with fail
    refine (HPA.out _ (hm.ext HW1.out)).mono ?_
    rintro e w2 ⟨A2, n2, c2, rfl, hs2, hnc2, hw2, hf2⟩
    have HW2 := hid hw2
    have HS2 := hid hs2
    have HF2 := hid hf2
    have hbx := (AtT.new w2 : AtT 143 (w2.alloc (.cells #[.string lb, .string sb, .string rb, .slice A2 n2 c2] 143)) w2.heap.size (.string lb) (.string sb) (.string rb) (.slice A2 n2 c2))
    have HBX := hid hbx
    clear hw2 hs2 hf2 hbx
    go_wp2_with fail
    refine (HTX.out A2 n2 c2 _ (HS2.out.ext ((Ext.refl _).alloc _))).mono ?_
    rintro e w4 ⟨rfl, hw4⟩
    have HW4 := hid hw4
    have HBX4 := hid (HBX.out.ext hw4)
    clear hw4
    go_wp2_with fail
    have HA2 := hid hA
    have HZ2 := hid hz
    clear hA hz
    go_loopw [10] (StInv w1 w2.heap.size (l.map ruleOf) R0) (fun o _ => 22 - lenOf o)
    case atStart =>
     have hsz : w2.heap.size < w4.heap.size := HBX4.out.lt
     refine ⟨[], t0, A2, n2, c2, by simp, ?_, ?_, ?_, HV0.out, ?_, ?_, ((HW2.out.alloc _).trans HW4.out).alloc _⟩
     ·have h := own_one w4 w1.heap.size (Nat.le_trans HW2.out.size (Nat.le_of_lt hsz)) (.string xb) 9
      show World.ownsRow _ _ _ _ _ 1 [strv (textP t0)]
      rw [HB.out.2.2.2]
      exact h
     ·have h := HBX4.out.ext ((Ext.refl w4).alloc (.cells #[.string xb] 9))
      rw [← HB.out.1, ← HB.out.2.1, ← HB.out.2.2.1] at h
      exact h
     ·intro W0 hk0
      refine HS2.out.kept2 (Kept.trans (Kept.ext _ (((Ext.refl w2).alloc _).trans HW4.out)) (Kept.trans (Kept.ext _ ((Ext.refl w4).alloc _)) hk0 (.inl rfl)) (.inl rfl)) ?_
      intro ad had hlt h
      injection h with h
      change ad.block = w4.heap.size at h
      omega
     ·intro g hg h
      have hg2 : w4.heap.size = g := Option.some.inj hg
      rw [← hg2] at h
      exact Nat.lt_irrefl _ (h ▸ hsz)
     ·rw [HR0.out]
      exact (comb_nil _ (steps_err (by decide) (by decide) _ _ _)).symm
    case round =>
     obtain ⟨pre, cur, B, m, d, hp, how, hat, hsl, hv, hgt, hR, hw⟩ := hrel
     obtain ⟨A7, c7, hv7, hs7, hc7⟩ := own_sl how
     subst hv7
     have hxl : xs.length = n1 := HRU.out.len
     have hn1 : n1 ≤ 100000 := by
      have h1 := congrArg List.length HMP.out
      rw [List.length_map, List.length_map] at h1
      have h2 := HA2.out.len
      omega
     have hstc := tstep_any xs cur A1 B n1 c1 m d wr (HRU.out.ext hw) (hsl wr (Kept.refl _ _)) (fun x hx => HOK.out x.r (by rw [← HMP.out]; exact List.mem_map.2 ⟨x, hx, rfl⟩)) hv hn1
     rw [HMP.out] at hstc
     have hsv := fun u (h : stepP (l.map ruleOf) cur = some u) (h4 : ¬ 4 < u.vars.length) => stepP_valid HOK.out hv h h4
     have hsn := fun (h : stepP (l.map ruleOf) cur = none) => @steps_none 6 15 (l.map ruleOf) (20 - pre.length) cur h
     obtain ⟨cl, hcl, _⟩ := strv_b cur.lang
     obtain ⟨cs, hcs, _⟩ := strv_b cur.script
     obtain ⟨cr, hcr, _⟩ := strv_b cur.region
     rw [hcl, hcs, hcr] at hat
     unfold tagV at hstc
     rw [hcl, hcs, hcr] at hstc
     obtain ⟨⟨p0, p1, p2, p3⟩, ⟨f0, f1, f2, f3⟩⟩ := hat.cells
     have HOW := hid how
     have HAT := hid hat
     have HSL := hid hsl
     have HV := hid hv
     have HGT := hid hgt
     have HR := hid hR
     have HW := hid hw
     have HS7 := hid hs7
     have HSV := hid hsv
     have HSN := hid hsn
     clear how hat hsl hv hgt hR hw hs7 hcl hcs hcr hxl hn1 hsv hsn
     cases hst : stepP (l.map ruleOf) cur with
     | none =>
       rw [hst] at hstc
       unfold RetStep stepR tagV TagP.zero strv at hstc
       simp only at hstc
       have HST := hid hstc
       have HRR := hid (show R0 = (pre ++ [cur], 0) from by rw [HR.out, HSN.out hst]; rfl)
       clear hstc hst
       go_wp2_with fail
       refine HST.out.mono ?_
       rintro e w5 ⟨A5, n5, c5, rfl, _, _, hw5, _⟩
       have HW5 := hid hw5
       clear hw5
       go_wp2
       go_ret2
       refine ⟨A7, pre.length + 1, c7, by rw [HRR.out]; rfl, ?_, hc7, (HW1.out.trans HW.out).trans (HW5.out.alloc _)⟩
       rw [HRR.out]
       rw [List.map_map]
       exact HS7.out.ext (HW5.out.alloc _)
     | some u =>
       rw [hst] at hstc
       unfold RetStep stepR tagV at hstc
       simp only at hstc
       obtain ⟨ul, hul, _⟩ := strv_b u.lang
       obtain ⟨us, hus, _⟩ := strv_b u.script
       obtain ⟨ur, hur, _⟩ := strv_b u.region
       rw [hul, hus, hur] at hstc
       have HST := hid hstc
       have HSS := hid hst
       have HU := hid (And.intro hul (And.intro hus hur))
       clear hstc hst hul hus hur
       by_cases h4 : 4 < u.vars.length
       ·have HRR := hid (show R0 = ([], 6) from by rw [HR.out, steps_many HSS.out h4]; rfl)
        go_wp2_with fail
        refine HST.out.mono ?_
        rintro e w5 ⟨A5, n5, c5, rfl, hs5, _, hw5, _⟩
        have h5n : (4 : Int) < (n5 : Int) := by have h := hs5.1; rw [List.length_map] at h; omega
        have HW5 := hid hw5
        clear hw5 hs5 h4
        go_wp2
        go_ret2
        exact ⟨none, 0, 0, by rw [HRR.out]; rfl, by rw [HRR.out]; exact Sl.nil _ _, Nat.le_refl _, (HW1.out.trans HW.out).trans (HW5.out.alloc _)⟩
       ·have hvu := HSV.out u HSS.out h4
        by_cases h20 : pre.length = 20
        ·have HRR := hid (show R0 = ([], 15) from by rw [HR.out, h20, steps_cyc HSS.out h4]; rfl)
         have h20I : (20 : Int) < ((pre.length + 1 : Nat) : Int) := by omega
         go_wp2_with fail
         refine HST.out.mono ?_
         rintro e w5 ⟨A5, n5, c5, rfl, hs5, _, hw5, _⟩
         have h5n : ¬ (4 : Int) < (n5 : Int) := by have h := hs5.1; rw [List.length_map] at h; omega
         have HW5 := hid hw5
         clear hw5 hs5 h4
         go_wp2
         go_ret2
         exact ⟨none, 0, 0, by rw [HRR.out]; rfl, by rw [HRR.out]; exact Sl.nil _ _, Nat.le_refl _, (HW1.out.trans HW.out).trans (HW5.out.alloc _)⟩
        ·have hp19 : pre.length ≤ 19 := by omega
         have HRR := hid (show R0 = comb (pre ++ [cur]) (stepsP 6 15 (l.map ruleOf) (20 - (pre ++ [cur]).length) u) from by
          rw [HR.out, show 20 - pre.length = (20 - (pre ++ [cur]).length) + 1 from by simp; omega]
          exact comb_next pre HSS.out h4)
         have h20I : ¬ (20 : Int) < ((pre.length + 1 : Nat) : Int) := by omega
         have htxu := fun A n c W h => tText_any u A n c W h (TL_of hvu)
         rw [show txtOf u = textP u from by unfold txtOf; rw [if_pos hvu]] at htxu
         obtain ⟨ub, hub, _⟩ := strv_b (textP u)
         unfold tagV at htxu
         rw [HU.out.1, HU.out.2.1, HU.out.2.2, hub] at htxu
         have HTU := hid htxu
         have HUB := hid hub
         have HVU := hid hvu
         clear htxu hub hvu h20
         go_wp2_with fail
         refine HST.out.mono ?_
         rintro e w5 ⟨A5, n5, c5, rfl, hs5, _, hw5, hf5⟩
         have h5n : ¬ (4 : Int) < (n5 : Int) := by have h := hs5.1; rw [List.length_map] at h; omega
         have HW5 := hid hw5
         have HF5 := hid hf5
         have HS5 := hid (hs5.ext ((Ext.refl w5).alloc (.cells #[.string ul, .string us, .string ur, .slice A5 n5 c5] 143)))
         have HAT5 := hid ((HAT.out.ext hw5).ext ((Ext.refl w5).alloc (.cells #[.string ul, .string us, .string ur, .slice A5 n5 c5] 143)))
         have hnb := (AtT.new w5 : AtT 143 (w5.alloc (.cells #[.string ul, .string us, .string ur, .slice A5 n5 c5] 143)) w5.heap.size (.string ul) (.string us) (.string ur) (.slice A5 n5 c5))
         obtain ⟨⟨q0, q1, q2, q3⟩, ⟨g0, g1, g2, g3⟩⟩ := HAT5.out.cells
         obtain ⟨⟨r0, r1, r2, r3⟩, _⟩ := hnb.cells
         clear hw5 hs5 hf5 h4 p0 p1 p2 p3 f0 f1 f2 f3 hnb
         go_wp2_with fail
         have hgl : w2.heap.size < wr.heap.size := HAT.out.lt
         have hkp := kept_set4 (w5.alloc (.cells #[.string ul, .string us, .string ur, .slice A5 n5 c5] 143)) w2.heap.size (.string ul) (.string us) (.string ur) (.slice A5 n5 c5)
         have hst5 := set4 HAT5.out (.string ul) (.string us) (.string ur) (.slice A5 n5 c5)
         have hsl5 : Sl (((((w5.alloc (.cells #[.string ul, .string us, .string ur, .slice A5 n5 c5] 143)).setCell ⟨w2.heap.size, 0, none⟩ (.string ul)).setCell ⟨w2.heap.size, 1, none⟩ (.string us)).setCell ⟨w2.heap.size, 2, none⟩ (.string ur)).setCell ⟨w2.heap.size, 3, none⟩ (.slice A5 n5 c5)) A5 n5 (u.vars.map strv) := HS5.out.kept hkp (fun ad had h => by
          injection h with h
          have h1 := HF5.out ad had
          omega)
         have hex : Ext w1 (((((w5.alloc (.cells #[.string ul, .string us, .string ur, .slice A5 n5 c5] 143)).setCell ⟨w2.heap.size, 0, none⟩ (.string ul)).setCell ⟨w2.heap.size, 1, none⟩ (.string us)).setCell ⟨w2.heap.size, 2, none⟩ (.string ur)).setCell ⟨w2.heap.size, 3, none⟩ (.slice A5 n5 c5)) := (((((HW.out.trans HW5.out).alloc _).setCell HW2.out.size _).setCell HW2.out.size _).setCell HW2.out.size _).setCell HW2.out.size _
         have hkr : ∀ g, g < wr.heap.size → g ≠ w2.heap.size → ((((((w5.alloc (.cells #[.string ul, .string us, .string ur, .slice A5 n5 c5] 143)).setCell ⟨w2.heap.size, 0, none⟩ (.string ul)).setCell ⟨w2.heap.size, 1, none⟩ (.string us)).setCell ⟨w2.heap.size, 2, none⟩ (.string ur)).setCell ⟨w2.heap.size, 3, none⟩ (.slice A5 n5 c5))).heap[g]? = wr.heap[g]? := fun g hg hne => by
          have h1 := hkp.2 g (Nat.lt_of_lt_of_le hg (HW5.out.alloc (.cells #[.string ul, .string us, .string ur, .slice A5 n5 c5] 143)).size) (by intro h; injection h with h; exact hne h)
          rw [h1]
          exact Below.block (HW5.out.alloc (.cells #[.string ul, .string us, .string ur, .slice A5 n5 c5] 143)) g hg
         have hsz : wr.heap.size ≤ ((((((w5.alloc (.cells #[.string ul, .string us, .string ur, .slice A5 n5 c5] 143)).setCell ⟨w2.heap.size, 0, none⟩ (.string ul)).setCell ⟨w2.heap.size, 1, none⟩ (.string us)).setCell ⟨w2.heap.size, 2, none⟩ (.string ur)).setCell ⟨w2.heap.size, 3, none⟩ (.slice A5 n5 c5))).heap.size := Nat.le_trans (HW5.out.alloc (.cells #[.string ul, .string us, .string ur, .slice A5 n5 c5] 143)).size hkp.1
         generalize (((((w5.alloc (.cells #[.string ul, .string us, .string ur, .slice A5 n5 c5] 143)).setCell ⟨w2.heap.size, 0, none⟩ (.string ul)).setCell ⟨w2.heap.size, 1, none⟩ (.string us)).setCell ⟨w2.heap.size, 2, none⟩ (.string ur)).setCell ⟨w2.heap.size, 3, none⟩ (.slice A5 n5 c5)) = Wt at hkp hst5 hsl5 hex hkr hsz ⊢
         have HST5 := hid hst5
         have HSL5 := hid hsl5
         have HEX := hid hex
         have HKR := hid hkr
         have HSZ := hid hsz
         have HGL := hid hgl
         clear hkp hst5 hsl5 hex hkr hsz hgl q0 q1 q2 q3 g0 g1 g2 g3 r0 r1 r2 r3
         obtain ⟨⟨q0, q1, q2, q3⟩, _⟩ := HST5.out.cells
         refine (HTU.out A5 n5 c5 _ HSL5.out).mono ?_
         rintro e w6 ⟨rfl, hw6⟩
         have HW6 := hid hw6
         have HX6 := hid (hw6.alloc (.cells #[.string ub] 9))
         have HOX := hid (show (w6.alloc (.cells #[.string ub] 9)).ownsRow w1.heap.size 9 1 (.slice A7 (pre.length + 1) c7) (pre.length + 1) ((pre ++ [cur]).map fun t => strv (textP t)) from by
          refine own_ext (own_kept HOW.out fun g hg => ?_) HX6.out
          exact HKR.out g (HOW.out.lt g hg).2 (HGT.out g hg))
         clear hw6
         go_wp2_with (at_builtin; refine wpList_app2 _ rfl _ _ 35 rfl w1.heap.size 9 i0 _ 16 Tryz.underlying35 hi hz0 hz1 hz2 rfl _ _ _ rfl HOX.out ⟨w6.heap.size, 0, none⟩ 1 1 _ rfl (Sl.lit w6 #[.string ub] 9 1 rfl) (string_one [ub]) (by unfold maxLen; omega) (by omega) (HEX.out.trans HX6.out).size ?_; intro v' w7 hown' hgrow hwhere; have HO' := hid hown'; have HG' := hid hgrow; have HWH := hid hwhere; clear hown' hgrow hwhere)
         have hkx : ∀ W0, Kept v'.ownBlock w7 W0 → Kept (Value.slice A7 (pre.length + 1) c7).ownBlock (w6.alloc (.cells #[.string ub] 9)) W0 := fun W0 hk0 => Kept.trans (Kept.grown HG'.out) hk0 HWH.out
         have hlen7 : ∃ A' c', v' = .slice A' (pre.length + 1 + 1) c' := by
          obtain ⟨A', c', h, _⟩ := own_sl HO'.out
          exact ⟨A', c', h⟩
         obtain ⟨A', c', rfl⟩ := hlen7
         have hgtn : ∀ g, (Value.slice A7 (pre.length + 1) c7).ownBlock = some g → g ≠ w2.heap.size := HGT.out
         refine ⟨⟨pre ++ [cur], u, A5, n5, c5, by simp; omega, ?_, ?_, ?_, HVU.out, ?_, HRR.out, ?_⟩, by simp [lenOf]; omega⟩
         ·have h := HO'.out
          rw [List.map_append, List.length_append]
          show World.ownsRow _ _ _ _ _ (pre.length + 1 + 1) (_ ++ [strv (textP u)])
          rw [HUB.out]
          exact h
         ·have h := ((HST5.out.ext HX6.out).kept (Kept.grown HG'.out) (by intro h; exact hgtn _ h.symm rfl))
          rw [HU.out.1, HU.out.2.1, HU.out.2.2]
          exact h
         ·intro W0 hk0
          refine (HSL5.out.ext HX6.out).kept (hkx W0 hk0) ?_
          intro ad had h
          have h1 := (HOW.out.lt _ h.symm).2
          have h2 := HF5.out ad had
          omega
         ·intro g hg
          rcases HWH.out with h | h
          ·exact hgtn g (h.symm.trans hg)
          ·have h1 := h g hg
           have h2 := HX6.out.size
           have h3 := HSZ.out
           have h4 := HGL.out
           omega
         ·exact (HEX.out.trans HX6.out).grown HG'.out (own_lt HOW.out)
   ·simp only [if_neg he0]
    have hb1 : (e0 == 0) = false := by simpa using he0
    obtain ⟨lb, hlb, _⟩ := strv_b t0.lang
    obtain ⟨sb, hsb, _⟩ := strv_b t0.script
    obtain ⟨rb, hrb, _⟩ := strv_b t0.region
    unfold tagV at hpa
    rw [hlb, hsb, hrb] at hpa
    have HPA := hid hpa
    clear hpa hvt hlb hsb hrb
    go_enter Tryz.func84, Tryz.ntmps84
    go_wp2_with fail
    refine HRD.out.mono ?_
    rintro e w1 ⟨A1, n1, c1, xs, rfl, _, _, hw1⟩
    have HW1 := hid hw1
    clear hw1
    go_wp2_with fail
    refine (HPA.out _ (hm.ext HW1.out)).mono ?_
    rintro e w2 ⟨A2, n2, c2, rfl, hs2, hnc2, hw2, _⟩
    have HW2 := hid (HW1.out.trans hw2)
    clear hw2 hs2
    go_wp2
    go_ret2
    exact ⟨none, 0, 0, rfl, Sl.nil _ _, Nat.le_refl _, HW2.out.alloc _⟩
end Go.Proofs.YtljdlkonlnjadaaGreatDoor
namespace Go.Proofs.YtljdlkonlnjadaaGreatDoor
open Go.RowKit
theorem tacan_any (l : List Ali) (s : ByteArray) (A : Option Addr) (n c : Nat) (w : World) (hm : Mx w) (hA : Als w A n l) (hn : n ≤ 100000) (hz : ∀ a ∈ l, a.1.size ≤ 60000 ∧ a.2.size ≤ 60000) (hs : s.size ≤ 60000) :
 Calls Tryz.prog 57 #[.slice A n c, .string s] w fun e w' => e = .returned (.tuple #[strv (canL l s.data.toList).1, .int .i64 (canL l s.data.toList).2]) ∧ Ext w w' := by
 have hst := tsteps_any l s A n c w hm hA hn hz hs
 have hsh := fun h => steps_shape (l := l) (s := s.data.toList) h
 unfold canL
 generalize stepsL l s.data.toList = R at hst hsh
 obtain ⟨xs, code⟩ := R
 simp only at hsh ⊢
 have HST := hid hst
 clear hst
 by_cases h0 : code = 0
 ·subst h0
  obtain ⟨ys, e, _, hx, h20, _⟩ := hsh rfl
  simp only [if_true]
  have hlast : xs.getLastD [] = textP e := by rw [hx, last_map]
  have hget : xs[xs.length - 1]? = some (textP e) := by rw [hx]; simp
  have hlen : xs.length ≤ 21 ∧ 0 < xs.length := by rw [hx]; simp; omega
  rw [hlast]
  obtain ⟨eb, heb, _⟩ := strv_b (textP e)
  rw [heb]
  have HG := hid hget
  have HE := hid heb
  clear hsh hx h20 hlast hget heb
  go_enter Tryz.func57, Tryz.ntmps57
  go_wp2_with fail
  refine HST.out.mono ?_
  rintro e w1 ⟨A1, n1, c1, rfl, hs1, _, hw1⟩
  have hn1 : xs.length = n1 := by have := hs1.1; rwa [List.length_map] at this
  have HW1 := hid hw1
  have HS1 := hid hs1
  have h1 : 1 ≤ n1 := by omega
  have h2 : n1 ≤ 21 := by omega
  cases A1 with
  | none => exact absurd (none_nil HS1.out) (by omega)
  | some ad =>
    obtain ⟨b, o, rfl, _⟩ := addr_flat HS1.out (by omega)
    have hc : w1.cell? ⟨b, o + (n1 - 1), none⟩ = some (.string eb) := by
     obtain ⟨ad, ha, _, hc⟩ := HS1.out.2 (n1 - 1) (.string eb) (by rw [List.getElem?_map, ← hn1, HG.out, ← HE.out]; rfl)
     injection ha with ha
     subst ha
     rwa [add_flat] at hc
    have hI : ((n1 : Int) - 1).toNat = n1 - 1 := by omega
    have h1I : (1 : Int) ≤ (n1 : Int) := by omega
    have hlt : (n1 : Int) - 1 < (n1 : Int) := by omega
    clear hn1 hs1 hw1 hlen
    go_wp2
    go_ret2
    exact ⟨rfl, HW1.out⟩
 ·simp only [if_neg h0]
  have hb1 : (code == 0) = false := by simpa using h0
  clear hsh
  go_enter Tryz.func57, Tryz.ntmps57
  go_wp2_with fail
  refine HST.out.mono ?_
  rintro e w1 ⟨A1, n1, c1, rfl, hs1, _, hw1⟩
  have HW1 := hid hw1
  clear hw1 hs1
  go_wp2
  go_ret2
  exact ⟨rfl, HW1.out⟩
end Go.Proofs.YtljdlkonlnjadaaGreatDoor
