import Derived.Test.YtcfgphhhgemkdaaDoorARdA
import Derived.Test.YtcfgphhhgemkdaaDoorTEq
namespace Go.Proofs.YtcfgphhhgemkdaaDoor
open Go.RowKit
set_option linter.unusedSimpArgs false
set_option linter.unusedVariables false

def stepR (o : Option TagP) : TagP × Bool := match o with
  | some u => (u, true)
  | none => (TagP.zero, false)
def RetStep (w : World) (o : Option TagP) (e : Ending) (w' : World) : Prop :=
  ∃ A n c, e = .returned (.tuple #[tagV (stepR o).1 A n c, .bool (stepR o).2]) ∧ Sl w' A n ((stepR o).1.vars.map strv) ∧ n ≤ c ∧ Ext w w' ∧ ∀ ad, A = some ad → w.heap.size ≤ ad.block
def SInv (Wb : World) (xs : List RV) (t : TagP) (n : Nat) (i : Value) (wr : World) : Prop :=
  ∃ k : Nat, k ≤ n ∧ i = .int .i64 k ∧ stepP ((xs.take k).map (·.r)) t = none ∧ Ext Wb wr
theorem sinv_next {xs : List RV} {t : TagP} {k : Nat} {x : RV} (hx : xs[k]? = some x) (h : stepP ((xs.take k).map (·.r)) t = none) (h2 : (fitsP x.r t && !eqT (replP x.r t) t) = false) : stepP ((xs.take (k + 1)).map (·.r)) t = none := by
  rw [take_next hx, List.map_append, stepP_app, h]
  simp only [List.map_cons, List.map_nil, stepP]
  rw [h2]
  rfl
theorem sinv_hit {xs : List RV} {t : TagP} {k : Nat} {x : RV} (hx : xs[k]? = some x) (h : stepP ((xs.take k).map (·.r)) t = none) (h2 : (fitsP x.r t && !eqT (replP x.r t) t) = true) : stepP (xs.map (·.r)) t = some (replP x.r t) := by
  have e : xs = xs.take k ++ (x :: xs.drop (k + 1)) := by
    obtain ⟨hk, hx'⟩ := List.getElem?_eq_some_iff.1 hx
    rw [← hx', ← List.drop_eq_getElem_cons hk, List.take_append_drop]
  have e2 : xs.map (·.r) = (xs.take k).map (·.r) ++ (x.r :: (xs.drop (k + 1)).map (·.r)) := by
    conv => lhs; rw [e]
    simp
  rw [e2, stepP_app, h]
  simp only [stepP]
  rw [h2]
  rfl

set_option maxHeartbeats 2000000 in
set_option maxRecDepth 100000 in
theorem tstep_any (xs : List RV) (t : TagP) (A B : Option Addr) (n c m d : Nat) (w : World) (hR : Rules w A n xs) (hB : Sl w B m (t.vars.map strv)) (hok : ∀ x ∈ xs, okR x.r) (ht : validP t = true) (hn : n ≤ 100000) :
    Calls Tryd.prog 23 #[.slice A n c, tagV t B m d] w (RetStep w (stepP (xs.map (·.r)) t)) := by
  have hl := hR.len
  have hmn : m ≤ 60000 := n_le hB (TL_of ht)
  have htn := (valid_parts ht).2.2.2.2.2.1
  have htl := TL_of ht
  have heq := fun u A' B' n' c' m' d' W h1 h2 h3 h4 => tequal_any u t A' B' n' c' m' d' W h1 h2 h3 h4
  have hfit := fun x W (h : RvOk W x) (hB : Sl W B m (t.vars.map strv)) (h3 : x.n ≤ 60000) => fits_any x t B m d W h hB hmn h3
  have hrep := fun x W (h : RvOk W x) (hB : Sl W B m (t.vars.map strv)) (h3 : x.n ≤ 60000) (h4 : x.m ≤ 60000) h5 h6 => trep_any x t B m d W h hB hmn h3 h4 h5 htn htl h6
  obtain ⟨lb, hlb, _⟩ := strv_b t.lang
  obtain ⟨sb, hsb, _⟩ := strv_b t.script
  obtain ⟨rb, hrb, _⟩ := strv_b t.region
  unfold tagV at hfit hrep heq ⊢
  rw [hlb, hsb, hrb] at hfit hrep heq ⊢
  have HR := Lib.hid hR
  have HB := Lib.hid hB
  have HOK := Lib.hid hok
  have HL := Lib.hid hl
  have HFIT := Lib.hid hfit
  have HREP := Lib.hid hrep
  have HEQ := Lib.hid heq
  clear hR hB hok hl hfit hrep heq hlb hsb hrb htn htl
  go_enter Tryd.func23, Tryd.ntmps23
  go_wp2_with fail
  have k1 : AtT 42 ((w.alloc (.cells #[.string lb, .string sb, .string rb, .slice B m d] 42)).alloc (.cells #[.string ⟨#[]⟩, .string ⟨#[]⟩, .string ⟨#[]⟩, .slice none 0 0] 42)) w.heap.size (.string lb) (.string sb) (.string rb) (.slice B m d) :=
    (AtT.new w).ext ((Ext.refl _).alloc _)
  have k2 : AtT 42 ((w.alloc (.cells #[.string lb, .string sb, .string rb, .slice B m d] 42)).alloc (.cells #[.string ⟨#[]⟩, .string ⟨#[]⟩, .string ⟨#[]⟩, .slice none 0 0] 42)) (w.heap.size + 1) (.string ⟨#[]⟩) (.string ⟨#[]⟩) (.string ⟨#[]⟩) (.slice none 0 0) := by
    have h := (AtT.new (w.alloc (.cells #[.string lb, .string sb, .string rb, .slice B m d] 42)) : AtT 42 _ _ (.string ⟨#[]⟩) (.string ⟨#[]⟩) (.string ⟨#[]⟩) (.slice none 0 0))
    rwa [show (w.alloc (.cells #[.string lb, .string sb, .string rb, .slice B m d] 42)).heap.size = w.heap.size + 1 from by simp] at h
  have k3 : Ext w ((w.alloc (.cells #[.string lb, .string sb, .string rb, .slice B m d] 42)).alloc (.cells #[.string ⟨#[]⟩, .string ⟨#[]⟩, .string ⟨#[]⟩, .slice none 0 0] 42)) := ((Ext.refl w).alloc _).alloc _
  generalize ((w.alloc (.cells #[.string lb, .string sb, .string rb, .slice B m d] 42)).alloc (.cells #[.string ⟨#[]⟩, .string ⟨#[]⟩, .string ⟨#[]⟩, .slice none 0 0] 42)) = Wb at k1 k2 k3 ⊢
  have K1 := Lib.hid k1
  have K2 := Lib.hid k2
  have K3 := Lib.hid k3
  clear k1 k2 k3
  go_loopw [11] (SInv Wb xs t n) (fun i _ => n - (intOf i).toNat)
  case atStart => exact ⟨0, Nat.zero_le _, rfl, rfl, Ext.refl _⟩
  case round =>
    obtain ⟨k, hk, rfl, hst, hw⟩ := hrel
    have HST := Lib.hid hst
    have HW := Lib.hid hw
    obtain ⟨⟨p0, p1, p2, p3⟩, _⟩ := (K1.out.ext hw).cells
    clear hst hw
    by_cases hkn : k < n
    · obtain ⟨x, hx⟩ : ∃ x, xs[k]? = some x := ⟨_, List.getElem?_eq_getElem (by have := HL.out; omega)⟩
      have hxm := List.mem_of_getElem? hx
      obtain ⟨b, o, rfl, hb, hcs⟩ := (HR.out.ext (K3.out.trans HW.out)).at2 hx
      have hrv := fun W (h : Ext w W) => (HR.out.ext h).2 x hxm
      have hokx := HOK.out x hxm
      have hn1 : x.n ≤ 60000 := n_le (hrv w (Ext.refl w)).1 (TL_of hokx.1)
      have hn2 : x.m ≤ 60000 := n_le (hrv w (Ext.refl w)).2 (TL_of hokx.2)
      have hfit := fun W h1 h2 => HFIT.out x W h1 h2 hn1
      have hrep := fun W h1 h2 => HREP.out x W h1 h2 hn1 hn2 (valid_parts hokx.2).2.2.2.2.2.1 (TL_of hokx.2)
      have HX := Lib.hid hx
      obtain ⟨b0, b1, b2, b3, b4, b5, hrc⟩ := rvC_b x
      rw [hrc] at hfit hrep hcs
      have c0 := hcs 0 _ rfl
      have c1 := hcs 1 _ rfl
      have c2 := hcs 2 _ rfl
      have c3 := hcs 3 _ rfl
      have c4 := hcs 4 _ rfl
      have c5 := hcs 5 _ rfl
      have c6 := hcs 6 _ rfl
      have c7 := hcs 7 _ rfl
      rw [Nat.add_zero] at c0
      have HRV := Lib.hid hrv
      have HLEN := Lib.hid (repl_len hokx ht)
      clear hrv hxm hokx hcs hn1 hn2 hrc
      cases hft : fitsP x.r t with
      | false =>
        rw [hft] at hfit
        have HFT := Lib.hid hfit
        have HN := Lib.hid (sinv_next hx HST.out (by rw [hft]; rfl))
        clear hft hfit hrep hx
        obtain ⟨⟨q0, q1, q2, q3⟩, _⟩ := ((K1.out.ext HW.out).ext ((Ext.refl wr).alloc (.cells #[.string b0, .string b1, .string b2, .slice x.A x.n x.c, .string b3, .string b4, .string b5, .slice x.B x.m x.d] 47))).cells
        go_wp2_with fail
        refine (HFT.out _ ((HRV.out _ (K3.out.trans HW.out)).ext ((Ext.refl _).alloc _)) (HB.out.ext ((K3.out.trans HW.out).alloc _))).mono ?_
        rintro e w2 ⟨rfl, hw2⟩
        have HW2 := Lib.hid ((HW.out.alloc _).trans hw2)
        clear hw2
        go_wp2
        exact ⟨⟨k + 1, by omega, by go_num, HN.out, HW2.out⟩, by simp [intOf]; omega⟩
      | true =>
        rw [hft] at hfit
        have hnx := sinv_next hx HST.out
        have hht := sinv_hit hx HST.out
        rw [hft] at hnx hht
        have hlen : (replP x.r t).vars.length ≤ 8 := HLEN.out
        generalize replP x.r t = u at hrep hnx hht hlen
        have hequ := fun A' n' c' W h1 h2 h3 => HEQ.out u A' B n' c' m d W h1 h2 h3 hmn
        obtain ⟨ul, hul, _⟩ := strv_b u.lang
        obtain ⟨us, hus, _⟩ := strv_b u.script
        obtain ⟨ur, hur, _⟩ := strv_b u.region
        unfold RetTag at hrep
        unfold tagV at hrep
        rw [hul, hus, hur] at hrep hequ
        have HFT := Lib.hid hfit
        have HRP := Lib.hid hrep
        have HNX := Lib.hid hnx
        have HHT := Lib.hid hht
        have HEU := Lib.hid hequ
        have HU := Lib.hid (And.intro hul (And.intro hus hur))
        clear hft hfit hrep hx hnx hht hequ hul hus hur
        obtain ⟨⟨q0, q1, q2, q3⟩, _⟩ := ((K1.out.ext HW.out).ext ((Ext.refl wr).alloc (.cells #[.string b0, .string b1, .string b2, .slice x.A x.n x.c, .string b3, .string b4, .string b5, .slice x.B x.m x.d] 47))).cells
        go_wp2_with fail
        have hk7 := (AtC.new wr #[.string b0, .string b1, .string b2, .slice x.A x.n x.c, .string b3, .string b4, .string b5, .slice x.B x.m x.d] : AtC 47 _ _ _)
        have hkt := (K1.out.ext HW.out).ext ((Ext.refl wr).alloc (.cells #[.string b0, .string b1, .string b2, .slice x.A x.n x.c, .string b3, .string b4, .string b5, .slice x.B x.m x.d] 47))
        refine (HFT.out _ ((HRV.out _ (K3.out.trans HW.out)).ext ((Ext.refl _).alloc _)) (HB.out.ext ((K3.out.trans HW.out).alloc _))).mono ?_
        rintro e w2 ⟨rfl, hw2⟩
        have HW2 := Lib.hid ((HW.out.alloc (.cells #[.string b0, .string b1, .string b2, .slice x.A x.n x.c, .string b3, .string b4, .string b5, .slice x.B x.m x.d] 47)).trans hw2)
        have HK7 := Lib.hid (hk7.ext hw2)
        have HKT := Lib.hid (hkt.ext hw2)
        clear hk7 hkt hw2 c0 c1 c2 c3 c4 c5 c6 c7 p0 p1 p2 p3 q0 q1 q2 q3
        have c0 := HK7.out.cell 0 _ rfl
        have c1 := HK7.out.cell 1 _ rfl
        have c2 := HK7.out.cell 2 _ rfl
        have c3 := HK7.out.cell 3 _ rfl
        have c4 := HK7.out.cell 4 _ rfl
        have c5 := HK7.out.cell 5 _ rfl
        have c6 := HK7.out.cell 6 _ rfl
        have c7 := HK7.out.cell 7 _ rfl
        obtain ⟨⟨p0, p1, p2, p3⟩, _⟩ := HKT.out.cells
        go_wp2_with fail
        refine (HRP.out _ (HRV.out _ (K3.out.trans HW2.out)) (HB.out.ext (K3.out.trans HW2.out))).mono ?_
        rintro e w3 ⟨A5, n5, c5', rfl, hs5, hnc5, hw3, hf5⟩
        have HW3 := Lib.hid (HW2.out.trans hw3)
        have HKT3 := Lib.hid ((HKT.out.ext hw3).ext ((Ext.refl w3).alloc (.cells #[.string ul, .string us, .string ur, .slice A5 n5 c5'] 42)))
        have HS5 := Lib.hid (hs5.ext ((Ext.refl w3).alloc (.cells #[.string ul, .string us, .string ur, .slice A5 n5 c5'] 42)))
        have HF5 := Lib.hid hf5
        have hs5' := hs5.1
        have hkn5 := (AtT.new w3 : AtT 42 (w3.alloc (.cells #[.string ul, .string us, .string ur, .slice A5 n5 c5'] 42)) w3.heap.size (.string ul) (.string us) (.string ur) (.slice A5 n5 c5'))
        have HKN5 := Lib.hid hkn5
        clear c0 c1 c2 c3 c4 c5 c6 c7 p0 p1 p2 p3 hs5 hw3 hf5 hkn5
        obtain ⟨⟨p0, p1, p2, p3⟩, _⟩ := HKT3.out.cells
        have hn5 : n5 ≤ 60000 := by have h := hs5'; rw [List.length_map] at h; omega
        clear hs5'
        cases hq : eqP u t with
        | true =>
          have hq2 : eqT u t = true := hq
          have HN := Lib.hid (HNX.out (by rw [hq2]; rfl))
          have heu := fun A' n' c' W => HEU.out A' n' c' W
          rw [hq] at heu
          have HEV := Lib.hid heu
          clear hq hq2 heu
          go_wp2_with fail
          refine (HEV.out A5 n5 c5' _ HS5.out (HB.out.ext ((K3.out.trans HW3.out).alloc _)) hn5).mono ?_
          rintro e w4 ⟨rfl, hw4⟩
          have HW4 := Lib.hid ((HW3.out.alloc _).trans hw4)
          clear hw4
          go_wp2
          exact ⟨⟨k + 1, by omega, by go_num, HN.out, HW4.out⟩, by simp [intOf]; omega⟩
        | false =>
          have hq2 : eqT u t = false := hq
          have HH := Lib.hid (HHT.out (by rw [hq2]; rfl))
          have heu := fun A' n' c' W => HEU.out A' n' c' W
          rw [hq] at heu
          have HEV := Lib.hid heu
          clear hq hq2 heu
          go_wp2_with fail
          refine (HEV.out A5 n5 c5' _ HS5.out (HB.out.ext ((K3.out.trans HW3.out).alloc _)) hn5).mono ?_
          rintro e w4 ⟨rfl, hw4⟩
          have HW4 := Lib.hid ((HW3.out.alloc (.cells #[.string ul, .string us, .string ur, .slice A5 n5 c5'] 42)).trans hw4)
          have HS6 := Lib.hid (HS5.out.ext hw4)
          obtain ⟨⟨q0, q1, q2, q3⟩, _⟩ := (HKN5.out.ext hw4).cells
          obtain ⟨⟨r0, r1, r2, r3⟩, ⟨f0, f1, f2, f3⟩⟩ := (K2.out.ext HW4.out).cells
          clear hw4 p0 p1 p2 p3
          go_wp2
          refine bodyPost_ret (v := .tuple #[.agg #[.string ul, .string us, .string ur, .slice A5 n5 c5'], .bool true]) ?_ rfl ⟨A5, n5, c5', ?_, ?_, hnc5, ?_, ?_⟩
          · simp [results, Tryd.results23, go_sem, q0, q1, q2, q3, r0, r1, r2, r3, f0, f1, f2, f3]
          · rw [HH.out]
            unfold stepR tagV
            simp only
            rw [HU.out.1, HU.out.2.1, HU.out.2.2]
          · rw [HH.out]
            have hbig : w.heap.size + 1 < w2.heap.size := Nat.lt_of_lt_of_le K2.out.lt HW2.out.size
            have ne : ∀ q, ∀ ad, A5 = some ad → ad.block ≠ (⟨w.heap.size + 1, q, none⟩ : Addr).block := fun q ad had => by
              have h1 := HF5.out ad had
              show ad.block ≠ w.heap.size + 1
              omega
            exact (((HS6.out.othr _ (ne _) _).othr _ (ne _) _).othr _ (ne _) _).othr _ (ne _) _
          · exact (((((K3.out.trans HW4.out).setCell (Nat.le_succ _) _).setCell (Nat.le_succ _) _).setCell (Nat.le_succ _) _).setCell (Nat.le_succ _) _)
          · intro ad had
            have h1 := HF5.out ad had
            have h2 := (K3.out.trans HW2.out).size
            omega
    · have hkk : k = n := by omega
      subst hkk
      have HN := Lib.hid (show stepP (xs.map (·.r)) t = none from by
        have h := HST.out
        rwa [List.take_of_length_le (by have := HL.out; omega)] at h)
      obtain ⟨⟨r0, r1, r2, r3⟩, ⟨f0, f1, f2, f3⟩⟩ := (K2.out.ext HW.out).cells
      go_wp2
      refine bodyPost_ret (v := .tuple #[.agg #[.string ⟨#[]⟩, .string ⟨#[]⟩, .string ⟨#[]⟩, .slice none 0 0], .bool false]) ?_ rfl ⟨none, 0, 0, ?_, ?_, Nat.le_refl _, ?_, ?_⟩
      · simp [results, Tryd.results23, go_sem, r0, r1, r2, r3, f0, f1, f2, f3]
      · rw [HN.out]
        rfl
      · rw [HN.out]
        exact Sl.nil _ _
      · exact (((((K3.out.trans HW.out).setCell (Nat.le_succ _) _).setCell (Nat.le_succ _) _).setCell (Nat.le_succ _) _).setCell (Nat.le_succ _) _)
      · intro ad had
        cases had
end Go.Proofs.YtcfgphhhgemkdaaDoor
