import Derived.Test.YtiijdojihleggaaGreatDoorQNPC
set_option maxRecDepth 100000
set_option linter.unusedSimpArgs false
set_option linter.unusedVariables false
open Go.Lib (hid)
namespace Go.Proofs.YtiijdojihleggaaGreatDoor
open Go.RowKit
theorem extract_tail (s : ByteArray) (k : Nat) : (s.extract k s.size).data.toList = s.data.toList.drop k := by
 simp only [ByteArray.data_extract, Array.toList_extract, List.extract_eq_take_drop]
 exact List.take_of_length_le (by rw [List.length_drop, size_list]; exact Nat.le_refl _)
theorem own_succ {W : World} {base : Nat} {e : TypeId} {size : Nat} {v : Value} {k : Nat} {xs : List Value} (h : W.ownsRow base e size v (k + 1) xs) : ∃ g cap, v = .slice (some ⟨g, 0, none⟩) (k + 1) cap := by
 rcases h.2 with ⟨_, h0⟩ | ⟨g, cap, _, hv, _⟩
 ·omega
 ·exact ⟨g, cap, hv⟩
theorem tok_one1 (kk : Nat) (x : By) (k m : Nat) : ∀ u ∈ tokC ⟨kk, x, k, k + m⟩, u.oneCell' = true := by
 intro u hu
 exact tok_one [⟨kk, x, k, k + m⟩] u (by simpa using hu)
theorem odd_succ (d : Nat) : ((d + 1) % 2 == 1) = !(d % 2 == 1) := by
 rcases Nat.mod_two_eq_zero_or_one d with h | h
 ·rw [h, show (d + 1) % 2 = 1 from by omega]; rfl
 ·rw [h, show (d + 1) % 2 = 0 from by omega]; rfl
theorem flat_snoc (ts : List Tok) (t : Tok) : (ts ++ [t]).flatMap tokC = ts.flatMap tokC ++ tokC t := by
 rw [List.flatMap_append]
 simp
set_option maxHeartbeats 8000000 in
theorem tokens_any (s : ByteArray) (w : World) (hs : s.size ≤ 1048576) : Calls Tryz.prog 66 #[.string s] w (RetTk w (tokensP s.data.toList)) := by
 obtain ⟨i0, hi, hz0, hz1, hz2⟩ := info_parts (show (Tryz.prog.info? 162).map (fun i => (i.zero, i.size, i.bytes)) = some (some (.agg #[.int .i64 0, .string ⟨#[]⟩, .int .i64 0, .int .i64 0]), 4, 40) from by kernel_rfl)
 obtain ⟨j0, hj, hy0, hy1, hy2⟩ := info_parts (show (Tryz.prog.info? 4).map (fun i => (i.zero, i.size, i.bytes)) = some (some (.bool false), 1, 1) from by kernel_rfl)
 obtain ⟨R, hR⟩ : ∃ R, R = tokensP s.data.toList := ⟨_, rfl⟩
 rw [← hR]
 unfold tokensP at hR
 rw [size_list] at hR
 by_cases h4 : 4000 < s.size
 ·rw [if_pos h4] at hR
  have HF := hid hR
  have h4I : (4000 : Int) < (s.size : Int) := by omega
  clear hR
  go_enter Tryz.func66, Tryz.ntmps66
  go_wp2
  go_ret3
  exact ret_tk_bad HF.out rfl (Ext.refl w)
 rw [if_neg h4] at hR
 have h4I : ¬ (4000 : Int) < (s.size : Int) := by omega
 have h4b : s.size ≤ 4000 := by omega
 have HR := hid (hR.trans (ahd_start _ (toks_code _ _ _ _)))
 clear hR
 go_enter Tryz.func66, Tryz.ntmps66
 go_wp2_with fail
 go_loopw [2, 3, 5, 6] (TkI w s R) (fun _ i _ _ _ => s.size - (intOf i).toNat)
 case atStart => exact ⟨0, 0, s.size + 1, [], Nat.zero_le _, rfl, rfl, by omega, Nat.le_refl _, Nat.le_refl _, by rw [List.drop_zero]; exact HR.out, World.ownsRow_nil _ _ _ _, World.ownsRow_nil _ _ _ _, Ext.refl _⟩
 case round =>
  obtain ⟨k, d, n, ts, hk, rfl, rfl, hn, hd, hts, hR, hms, hl, hw⟩ := hrel
  have HW := hid hw
  have HMS := hid hms
  have HL := hid hl
  clear hw HR
  by_cases hks : k < s.size
  rotate_left
  ·obtain rfl : k = s.size := by omega
   obtain ⟨n, rfl⟩ : ∃ n', n = n' + 1 := ⟨n - 1, by omega⟩
   rw [show s.data.toList.drop s.size = [] from by rw [← size_list, List.drop_length], ahd_end] at hR
   have hlI : ¬ (s.size : Int) < (s.size : Int) := by omega
   obtain ⟨Am, cm, rfl, hsm⟩ := own_slN hms
   obtain ⟨Al, cl, rfl, hsl⟩ := own_slN hl
   have HSL := hid hsl
   have HLT := hid (fun ad (h : Al = some ad) => (hl.lt ad.block (by rw [h]; rfl)).2)
   clear hms hl hsm hsl
   by_cases h0 : 0 < d
   ·rw [if_pos h0] at hR
    have HF := hid hR
    have h0I : (0 : Int) < (d : Int) := by omega
    clear hR
    go_wp2
    go_ret3
    exact ret_tk_bad HF.out rfl HW.out
   ·rw [if_neg h0] at hR
    have HF := hid hR
    obtain rfl : d = 0 := by omega
    clear hR
    go_wp2
    go_ret3
    rw [HF.out]
    exact ⟨Al, cl, rfl, HSL.out, HW.out, HLT.out⟩
  have hkI : (k : Int) < (s.size : Int) := by omega
  have hkL : (k : Int) ≤ (s.size : Int) := by omega
  have hdr := drop_at hks
  obtain ⟨n, rfl⟩ : ∃ n', n = n' + 1 := ⟨n - 1, by omega⟩
  rw [hdr] at hR
  have hq : (s.extract k s.size).data.toList = s[k] :: s.data.toList.drop (k + 1) := by rw [extract_tail, hdr]
  have hqs : (s.extract k s.size).size ≤ 1048576 := by rw [← size_list, hq, ← hdr, List.length_drop, size_list]; omega
  by_cases hbl : (d % 2 == 1 && blankB s[k]) = true
  ·have HR2 := hid (hR.trans (ahd_blank hbl))
   rw [Bool.and_eq_true] at hbl
   obtain ⟨ho, hb⟩ := hbl
   unfold blankB at hb
   rw [← u8_beq s[k] 32, ← u8_beq s[k] 9, ← u8_beq s[k] 10] at hb
   have HB := hid hb
   clear hR hdr hq hqs hms hl hb
   rw [ho]
   cases b1 : ((s[k].toNat : Int) == 32)
   ·cases b2 : ((s[k].toNat : Int) == 9)
    ·have b3 : ((s[k].toNat : Int) == 10) = true := by
      have h := HB.out
      rw [show ((s[k].toNat : Int) == ((32 : UInt8).toNat : Int)) = false from b1, show ((s[k].toNat : Int) == ((9 : UInt8).toNat : Int)) = false from b2] at h
      exact h
     go_wp2
     exact ⟨⟨k + 1, d, n, ts, hks, by go_num, by rw [ho], by omega, by omega, by omega, HR2.out, HMS.out, HL.out, HW.out⟩, by simp [intOf]; omega⟩
    ·go_wp2
     exact ⟨⟨k + 1, d, n, ts, hks, by go_num, by rw [ho], by omega, by omega, by omega, HR2.out, HMS.out, HL.out, HW.out⟩, by simp [intOf]; omega⟩
   ·go_wp2
    exact ⟨⟨k + 1, d, n, ts, hks, by go_num, by rw [ho], by omega, by omega, by omega, HR2.out, HMS.out, HL.out, HW.out⟩, by simp [intOf]; omega⟩
  have hblF : (d % 2 == 1 && blankB s[k]) = false := by simpa using hbl
  have KN := hid (fun W => tnext_any (s.extract k s.size) s[k] (s.data.toList.drop (k + 1)) (d % 2 == 1) W hqs hq)
  have HBL := hid hblF
  have hls : s.data.toList.drop k = s[k] :: s.data.toList.drop (k + 1) := hdr
  have HLS := hid hls
  clear hbl hq hqs hdr hls
  have hgo : ∀ o, o = (d % 2 == 1) → (o = true → ((s[k].toNat : Int) == 32) = false ∧ ((s[k].toNat : Int) == 9) = false ∧ ((s[k].toNat : Int) == 10) = false) := by
   intro o ho h1
   subst ho
   have h := hblF
   rw [h1, Bool.true_and] at h
   unfold blankB at h
   rw [← u8_beq s[k] 32, ← u8_beq s[k] 9, ← u8_beq s[k] 10, Bool.or_eq_false_iff, Bool.or_eq_false_iff] at h
   exact ⟨h.1.1, h.1.2, h.2⟩
  have HGO := hid hgo
  clear hgo hblF
  obtain ⟨o, ho⟩ : ∃ o, o = (d % 2 == 1) := ⟨_, rfl⟩
  have HOD := hid ho
  rw [← ho] at KN ⊢
  have hb := HGO.out o ho
  have HP := hid (fun (h : nextP (s[k] :: s.data.toList.drop (k + 1)) o = none) => hR.trans (ahd_bad HBL.out (by rw [← HOD.out]; exact h)))
  have HRR := hid hR
  clear hR
  generalize hnx : nextP (s[k] :: s.data.toList.drop (k + 1)) o = nx at KN
  have HNX := hid hnx
  clear hnx ho HGO
  rcases nx with _ | ⟨kk, x, m⟩
  ·have HF := hid (HP.out HNX.out)
   clear HP
   cases o
   ·clear hb hms hl
    go_wp2_with fail
    refine (KN.out _).mono ?_
    rintro e w2 ⟨rfl, q, rfl⟩
    unfold nxV
    simp only []
    go_wp2
    go_ret3
    exact ret_tk_bad HF.out rfl (HW.out.drewN q)
   ·obtain ⟨b1, b2, b3⟩ := hb rfl
    clear hms hl
    go_wp2_with fail
    refine (KN.out _).mono ?_
    rintro e w2 ⟨rfl, q, rfl⟩
    unfold nxV
    simp only []
    go_wp2
    go_ret3
    exact ret_tk_bad HF.out rfl (HW.out.drewN q)
  clear HP
  have hk1 := nextP_pos HNX.out
  have hm := nextP_some HNX.out
  have hm2 : 1 ≤ m ∧ k + m ≤ s.size := by
   have h := congrArg List.length HLS.out
   rw [List.length_drop, size_list] at h
   omega
  clear hm
  have b0 : ((kk : Int) == 0) = false := by rw [beq_eq_false_iff_ne]; omega
  cases o
  ·clear hb
   by_cases h3 : kk = 3
   ·subst h3
    rcases d with _ | d
    ·have HF := hid (HRR.out.trans (ahd_shut HNX.out))
     clear hms hl
     go_wp2_with fail
     refine (KN.out _).mono ?_
     rintro e w2 ⟨rfl, q, hq⟩
     have hx2 : Ext wr w2 := by rw [hq]; exact (Ext.refl wr).drewN q
     have HW2 := hid (HW.out.trans hx2)
     have HMS2 := hid (own_ext HMS.out hx2)
     have HL2 := hid (own_ext HL.out hx2)
     clear hq hx2 HW HMS HL
     unfold nxV
     simp only []
     have h0 := HMS2.out
     obtain ⟨Am, cm, rfl, _⟩ := own_slN h0
     clear h0
     go_wp2
     go_ret3
     exact ret_tk_bad HF.out rfl HW2.out
    ·have HR3 := hid (HRR.out.trans (ahd_tok HBL.out (by rw [← HOD.out]; exact HNX.out) (by omega)))
     rw [show deepN 3 (d + 1) = d from rfl, ← HLS.out, List.drop_drop] at HR3
     obtain ⟨g, cap, rfl⟩ := own_succ hms
     clear hms hl
     go_wp2_with fail
     refine (KN.out _).mono ?_
     rintro e w2 ⟨rfl, q, hq⟩
     have hx2 : Ext wr w2 := by rw [hq]; exact (Ext.refl wr).drewN q
     have HW2 := hid (HW.out.trans hx2)
     have HMS2 := hid (own_ext HMS.out hx2)
     have HL2 := hid (own_ext HL.out hx2)
     clear hq hx2 HW HMS HL
     unfold nxV
     simp only []
     have hm0 := HMS2.out
     rw [dsV_succ] at hm0
     have hcap : d + 1 ≤ cap := by
      rcases hm0.2 with ⟨h, _⟩ | ⟨_, _, _, h, _, _, h2, _⟩
      ·cases h
      ·cases h
       exact h2
     obtain ⟨A5, c5, hv5, hs5⟩ := own_slN hm0
     obtain ⟨b5, o5, ha5, _, hc5⟩ := hs5.2 d (.bool (d % 2 == 1)) (by rw [List.getElem?_append_right (by rw [dsV_len]; exact Nat.le_refl _), dsV_len, Nat.sub_self]; rfl)
     injection hv5 with e5 _ e7
     subst e7
     rw [← e5] at ha5
     injection ha5 with ha5
     injection ha5 with ha5 ho5 _
     subst ha5 ho5
     rw [Nat.zero_add] at hc5
     have HPO := hid (ownsRow_pop (by rw [dsV_len, Nat.mul_one]) hm0)
     clear hm0 hs5 e5 HMS2
     have HY2 := hid ((Ext.refl w2).alloc (.cells #[.int .i64 (3 : Nat), .string ⟨x.toArray⟩, .int .i64 (k : Nat), .int .i64 ((k : Int) + (m : Int))] 162))
     have HNC2 := hid (show ∀ j u, (tokC ⟨3, x, k, k + m⟩)[j]? = some u → (w2.alloc (.cells #[.int .i64 (3 : Nat), .string ⟨x.toArray⟩, .int .i64 (k : Nat), .int .i64 ((k : Int) + (m : Int))] 162)).cell? ((⟨w2.heap.size, 0, none⟩ : Addr).add j) = some u from new_cells w2 #[.int .i64 (3 : Nat), .string ⟨x.toArray⟩, .int .i64 (k : Nat), .int .i64 ((k : Int) + (m : Int))] 162)
     have HOX2 := hid (own_ext HL2.out HY2.out)
     have HMX2 := hid (own_ext HPO.out HY2.out)
     have HZ2 := hid (HW2.out.trans HY2.out)
     go_wp2_with (first
      | (at_builtin; refine wpList_appN _ rfl _ _ 118 rfl w.heap.size 162 i0 _ 4 40 Tryz.underlying118 hi hz0 hz1 hz2 rfl (by decide) _ ts.length _ rfl HOX2.out ⟨w2.heap.size, 0, none⟩ 1 1 _ rfl rfl HNC2.out (tok_one1 3 x k m) (by unfold maxLen; omega) (by omega) HZ2.out.size ?_; intro v3 w3 hown3 hgrow3 hwhere3; have HO3 := hid hown3; have HG3 := hid hgrow3; clear hown3 hgrow3 hwhere3))
     exact ⟨⟨k + m, d, n, ts ++ [⟨3, x, k, k + m⟩], hm2.2, by go_num, rfl, by omega, by omega, by rw [List.length_append]; exact Nat.le_trans (Nat.add_le_add_left (Nat.le_refl 1) _) (by omega), HR3.out, own_other HMX2.out HOX2.out HG3.out (by decide), by rw [flat_snoc, List.length_append]; exact HO3.out, ext_grown HZ2.out HOX2.out (Nat.le_refl _) HG3.out⟩, by simp [intOf]; omega⟩
   have HR3 := hid (HRR.out.trans (ahd_tok HBL.out (by rw [← HOD.out]; exact HNX.out) (fun e => h3 e.1)))
   rw [← HLS.out, List.drop_drop] at HR3
   by_cases h2 : kk = 2
   ·subst h2
    rw [show deepN 2 d = d + 1 from rfl] at HR3
    clear hms hl
    go_wp2_with fail
    refine (KN.out _).mono ?_
    rintro e w2 ⟨rfl, q, hq⟩
    have hx2 : Ext wr w2 := by rw [hq]; exact (Ext.refl wr).drewN q
    have HW2 := hid (HW.out.trans hx2)
    have HMS2 := hid (own_ext HMS.out hx2)
    have HL2 := hid (own_ext HL.out hx2)
    clear hq hx2 HW HMS HL
    unfold nxV
    simp only []
    have HYB := hid ((Ext.refl w2).alloc (.cells #[.bool false] 4))
    have HNB := hid (new_cells w2 #[.bool false] 4)
    have HMB := hid (own_ext HMS2.out HYB.out)
    have HLB := hid (own_ext HL2.out HYB.out)
    have HZB := hid (HW2.out.trans HYB.out)
    clear HMS2 HL2 HW2
    go_wp2_with (first
     | (at_builtin; refine wpList_appN _ rfl _ _ 158 rfl w.heap.size 4 j0 _ 1 1 Tryz.underlying158 hj hy0 hy1 hy2 rfl (by decide) _ d _ rfl HMB.out ⟨w2.heap.size, 0, none⟩ 1 1 [.bool false] rfl rfl HNB.out (by simp [Value.oneCell']) (by unfold maxLen; omega) (by omega) HZB.out.size ?_; intro v4 w4 hown4 hgrow4 hwhere4; have HMS4 := hid hown4; have HL4 := hid (own_other HLB.out HMB.out hgrow4 (by decide)); have HW4 := hid (ext_grown HZB.out HMB.out (Nat.le_refl _) hgrow4); clear hown4 hgrow4 hwhere4; have HY4 := hid ((Ext.refl w4).alloc (.cells #[.int .i64 (2 : Nat), .string ⟨x.toArray⟩, .int .i64 (k : Nat), .int .i64 ((k : Int) + (m : Int))] 162)); have HNC4 := hid (show ∀ j u, (tokC ⟨2, x, k, k + m⟩)[j]? = some u → (w4.alloc (.cells #[.int .i64 (2 : Nat), .string ⟨x.toArray⟩, .int .i64 (k : Nat), .int .i64 ((k : Int) + (m : Int))] 162)).cell? ((⟨w4.heap.size, 0, none⟩ : Addr).add j) = some u from new_cells w4 #[.int .i64 (2 : Nat), .string ⟨x.toArray⟩, .int .i64 (k : Nat), .int .i64 ((k : Int) + (m : Int))] 162); have HOX4 := hid (own_ext HL4.out HY4.out); have HMX4 := hid (own_ext HMS4.out HY4.out); have HZ4 := hid (HW4.out.trans HY4.out))
     | (at_builtin; refine wpList_appN _ rfl _ _ 118 rfl w.heap.size 162 i0 _ 4 40 Tryz.underlying118 hi hz0 hz1 hz2 rfl (by decide) _ ts.length _ rfl HOX4.out ⟨w4.heap.size, 0, none⟩ 1 1 _ rfl rfl HNC4.out (tok_one1 2 x k m) (by unfold maxLen; omega) (by omega) HZ4.out.size ?_; intro v3 w3 hown3 hgrow3 hwhere3; have HO3 := hid hown3; have HG3 := hid hgrow3; clear hown3 hgrow3 hwhere3))
    exact ⟨⟨k + m, d + 1, n, ts ++ [⟨2, x, k, k + m⟩], hm2.2, by go_num, by rw [odd_succ, ← HOD.out]; rfl, by omega, by omega, by rw [List.length_append]; exact Nat.le_trans (Nat.add_le_add_left (Nat.le_refl 1) _) (by omega), HR3.out, by rw [dsV_succ, ← HOD.out]; exact own_other HMX4.out HOX4.out HG3.out (by decide), by rw [flat_snoc, List.length_append]; exact HO3.out, ext_grown HZ4.out HOX4.out (Nat.le_refl _) HG3.out⟩, by simp [intOf]; omega⟩
   ·rw [show deepN kk d = d from by unfold deepN; rw [if_neg h2, if_neg h3]] at HR3
    have k2 : ((kk : Int) == 2) = false := by rw [beq_eq_false_iff_ne]; omega
    have k3 : ((kk : Int) == 3) = false := by rw [beq_eq_false_iff_ne]; omega
    clear hms hl
    go_wp2_with fail
    refine (KN.out _).mono ?_
    rintro e w2 ⟨rfl, q, hq⟩
    have hx2 : Ext wr w2 := by rw [hq]; exact (Ext.refl wr).drewN q
    have HW2 := hid (HW.out.trans hx2)
    have HMS2 := hid (own_ext HMS.out hx2)
    have HL2 := hid (own_ext HL.out hx2)
    clear hq hx2 HW HMS HL
    unfold nxV
    simp only []
    have HY2 := hid ((Ext.refl w2).alloc (.cells #[.int .i64 (kk : Nat), .string ⟨x.toArray⟩, .int .i64 (k : Nat), .int .i64 ((k : Int) + (m : Int))] 162))
    have HNC2 := hid (show ∀ j u, (tokC ⟨kk, x, k, k + m⟩)[j]? = some u → (w2.alloc (.cells #[.int .i64 (kk : Nat), .string ⟨x.toArray⟩, .int .i64 (k : Nat), .int .i64 ((k : Int) + (m : Int))] 162)).cell? ((⟨w2.heap.size, 0, none⟩ : Addr).add j) = some u from new_cells w2 #[.int .i64 (kk : Nat), .string ⟨x.toArray⟩, .int .i64 (k : Nat), .int .i64 ((k : Int) + (m : Int))] 162)
    have HOX2 := hid (own_ext HL2.out HY2.out)
    have HMX2 := hid (own_ext HMS2.out HY2.out)
    have HZ2 := hid (HW2.out.trans HY2.out)
    go_wp2_with (first
     | (at_builtin; refine wpList_appN _ rfl _ _ 118 rfl w.heap.size 162 i0 _ 4 40 Tryz.underlying118 hi hz0 hz1 hz2 rfl (by decide) _ ts.length _ rfl HOX2.out ⟨w2.heap.size, 0, none⟩ 1 1 _ rfl rfl HNC2.out (tok_one1 kk x k m) (by unfold maxLen; omega) (by omega) HZ2.out.size ?_; intro v3 w3 hown3 hgrow3 hwhere3; have HO3 := hid hown3; have HG3 := hid hgrow3; clear hown3 hgrow3 hwhere3))
    exact ⟨⟨k + m, d, n, ts ++ [⟨kk, x, k, k + m⟩], hm2.2, by go_num, by rw [← HOD.out], by omega, by omega, by rw [List.length_append]; exact Nat.le_trans (Nat.add_le_add_left (Nat.le_refl 1) _) (by omega), HR3.out, own_other HMX2.out HOX2.out HG3.out (by decide), by rw [flat_snoc, List.length_append]; exact HO3.out, ext_grown HZ2.out HOX2.out (Nat.le_refl _) HG3.out⟩, by simp [intOf]; omega⟩
  ·obtain ⟨b1, b2, b3⟩ := hb rfl
   clear hb
   by_cases h3 : kk = 3
   ·subst h3
    rcases d with _ | d
    ·exact absurd HOD.out (by decide)
    ·have HR3 := hid (HRR.out.trans (ahd_tok HBL.out (by rw [← HOD.out]; exact HNX.out) (by omega)))
     rw [show deepN 3 (d + 1) = d from rfl, ← HLS.out, List.drop_drop] at HR3
     obtain ⟨g, cap, rfl⟩ := own_succ hms
     clear hms hl
     go_wp2_with fail
     refine (KN.out _).mono ?_
     rintro e w2 ⟨rfl, q, hq⟩
     have hx2 : Ext wr w2 := by rw [hq]; exact (Ext.refl wr).drewN q
     have HW2 := hid (HW.out.trans hx2)
     have HMS2 := hid (own_ext HMS.out hx2)
     have HL2 := hid (own_ext HL.out hx2)
     clear hq hx2 HW HMS HL
     unfold nxV
     simp only []
     have hm0 := HMS2.out
     rw [dsV_succ] at hm0
     have hcap : d + 1 ≤ cap := by
      rcases hm0.2 with ⟨h, _⟩ | ⟨_, _, _, h, _, _, h2, _⟩
      ·cases h
      ·cases h
       exact h2
     obtain ⟨A5, c5, hv5, hs5⟩ := own_slN hm0
     obtain ⟨b5, o5, ha5, _, hc5⟩ := hs5.2 d (.bool (d % 2 == 1)) (by rw [List.getElem?_append_right (by rw [dsV_len]; exact Nat.le_refl _), dsV_len, Nat.sub_self]; rfl)
     injection hv5 with e5 _ e7
     subst e7
     rw [← e5] at ha5
     injection ha5 with ha5
     injection ha5 with ha5 ho5 _
     subst ha5 ho5
     rw [Nat.zero_add] at hc5
     have HPO := hid (ownsRow_pop (by rw [dsV_len, Nat.mul_one]) hm0)
     clear hm0 hs5 e5 HMS2
     have HY2 := hid ((Ext.refl w2).alloc (.cells #[.int .i64 (3 : Nat), .string ⟨x.toArray⟩, .int .i64 (k : Nat), .int .i64 ((k : Int) + (m : Int))] 162))
     have HNC2 := hid (show ∀ j u, (tokC ⟨3, x, k, k + m⟩)[j]? = some u → (w2.alloc (.cells #[.int .i64 (3 : Nat), .string ⟨x.toArray⟩, .int .i64 (k : Nat), .int .i64 ((k : Int) + (m : Int))] 162)).cell? ((⟨w2.heap.size, 0, none⟩ : Addr).add j) = some u from new_cells w2 #[.int .i64 (3 : Nat), .string ⟨x.toArray⟩, .int .i64 (k : Nat), .int .i64 ((k : Int) + (m : Int))] 162)
     have HOX2 := hid (own_ext HL2.out HY2.out)
     have HMX2 := hid (own_ext HPO.out HY2.out)
     have HZ2 := hid (HW2.out.trans HY2.out)
     go_wp2_with (first
      | (at_builtin; refine wpList_appN _ rfl _ _ 118 rfl w.heap.size 162 i0 _ 4 40 Tryz.underlying118 hi hz0 hz1 hz2 rfl (by decide) _ ts.length _ rfl HOX2.out ⟨w2.heap.size, 0, none⟩ 1 1 _ rfl rfl HNC2.out (tok_one1 3 x k m) (by unfold maxLen; omega) (by omega) HZ2.out.size ?_; intro v3 w3 hown3 hgrow3 hwhere3; have HO3 := hid hown3; have HG3 := hid hgrow3; clear hown3 hgrow3 hwhere3))
     exact ⟨⟨k + m, d, n, ts ++ [⟨3, x, k, k + m⟩], hm2.2, by go_num, rfl, by omega, by omega, by rw [List.length_append]; exact Nat.le_trans (Nat.add_le_add_left (Nat.le_refl 1) _) (by omega), HR3.out, own_other HMX2.out HOX2.out HG3.out (by decide), by rw [flat_snoc, List.length_append]; exact HO3.out, ext_grown HZ2.out HOX2.out (Nat.le_refl _) HG3.out⟩, by simp [intOf]; omega⟩
   have HR3 := hid (HRR.out.trans (ahd_tok HBL.out (by rw [← HOD.out]; exact HNX.out) (fun e => h3 e.1)))
   rw [← HLS.out, List.drop_drop] at HR3
   by_cases h2 : kk = 2
   ·subst h2
    rw [show deepN 2 d = d + 1 from rfl] at HR3
    clear hms hl
    go_wp2_with fail
    refine (KN.out _).mono ?_
    rintro e w2 ⟨rfl, q, hq⟩
    have hx2 : Ext wr w2 := by rw [hq]; exact (Ext.refl wr).drewN q
    have HW2 := hid (HW.out.trans hx2)
    have HMS2 := hid (own_ext HMS.out hx2)
    have HL2 := hid (own_ext HL.out hx2)
    clear hq hx2 HW HMS HL
    unfold nxV
    simp only []
    have HYB := hid ((Ext.refl w2).alloc (.cells #[.bool true] 4))
    have HNB := hid (new_cells w2 #[.bool true] 4)
    have HMB := hid (own_ext HMS2.out HYB.out)
    have HLB := hid (own_ext HL2.out HYB.out)
    have HZB := hid (HW2.out.trans HYB.out)
    clear HMS2 HL2 HW2
    go_wp2_with (first
     | (at_builtin; refine wpList_appN _ rfl _ _ 158 rfl w.heap.size 4 j0 _ 1 1 Tryz.underlying158 hj hy0 hy1 hy2 rfl (by decide) _ d _ rfl HMB.out ⟨w2.heap.size, 0, none⟩ 1 1 [.bool true] rfl rfl HNB.out (by simp [Value.oneCell']) (by unfold maxLen; omega) (by omega) HZB.out.size ?_; intro v4 w4 hown4 hgrow4 hwhere4; have HMS4 := hid hown4; have HL4 := hid (own_other HLB.out HMB.out hgrow4 (by decide)); have HW4 := hid (ext_grown HZB.out HMB.out (Nat.le_refl _) hgrow4); clear hown4 hgrow4 hwhere4; have HY4 := hid ((Ext.refl w4).alloc (.cells #[.int .i64 (2 : Nat), .string ⟨x.toArray⟩, .int .i64 (k : Nat), .int .i64 ((k : Int) + (m : Int))] 162)); have HNC4 := hid (show ∀ j u, (tokC ⟨2, x, k, k + m⟩)[j]? = some u → (w4.alloc (.cells #[.int .i64 (2 : Nat), .string ⟨x.toArray⟩, .int .i64 (k : Nat), .int .i64 ((k : Int) + (m : Int))] 162)).cell? ((⟨w4.heap.size, 0, none⟩ : Addr).add j) = some u from new_cells w4 #[.int .i64 (2 : Nat), .string ⟨x.toArray⟩, .int .i64 (k : Nat), .int .i64 ((k : Int) + (m : Int))] 162); have HOX4 := hid (own_ext HL4.out HY4.out); have HMX4 := hid (own_ext HMS4.out HY4.out); have HZ4 := hid (HW4.out.trans HY4.out))
     | (at_builtin; refine wpList_appN _ rfl _ _ 118 rfl w.heap.size 162 i0 _ 4 40 Tryz.underlying118 hi hz0 hz1 hz2 rfl (by decide) _ ts.length _ rfl HOX4.out ⟨w4.heap.size, 0, none⟩ 1 1 _ rfl rfl HNC4.out (tok_one1 2 x k m) (by unfold maxLen; omega) (by omega) HZ4.out.size ?_; intro v3 w3 hown3 hgrow3 hwhere3; have HO3 := hid hown3; have HG3 := hid hgrow3; clear hown3 hgrow3 hwhere3))
    exact ⟨⟨k + m, d + 1, n, ts ++ [⟨2, x, k, k + m⟩], hm2.2, by go_num, by rw [odd_succ, ← HOD.out]; rfl, by omega, by omega, by rw [List.length_append]; exact Nat.le_trans (Nat.add_le_add_left (Nat.le_refl 1) _) (by omega), HR3.out, by rw [dsV_succ, ← HOD.out]; exact own_other HMX4.out HOX4.out HG3.out (by decide), by rw [flat_snoc, List.length_append]; exact HO3.out, ext_grown HZ4.out HOX4.out (Nat.le_refl _) HG3.out⟩, by simp [intOf]; omega⟩
   ·rw [show deepN kk d = d from by unfold deepN; rw [if_neg h2, if_neg h3]] at HR3
    have k2 : ((kk : Int) == 2) = false := by rw [beq_eq_false_iff_ne]; omega
    have k3 : ((kk : Int) == 3) = false := by rw [beq_eq_false_iff_ne]; omega
    clear hms hl
    go_wp2_with fail
    refine (KN.out _).mono ?_
    rintro e w2 ⟨rfl, q, hq⟩
    have hx2 : Ext wr w2 := by rw [hq]; exact (Ext.refl wr).drewN q
    have HW2 := hid (HW.out.trans hx2)
    have HMS2 := hid (own_ext HMS.out hx2)
    have HL2 := hid (own_ext HL.out hx2)
    clear hq hx2 HW HMS HL
    unfold nxV
    simp only []
    have HY2 := hid ((Ext.refl w2).alloc (.cells #[.int .i64 (kk : Nat), .string ⟨x.toArray⟩, .int .i64 (k : Nat), .int .i64 ((k : Int) + (m : Int))] 162))
    have HNC2 := hid (show ∀ j u, (tokC ⟨kk, x, k, k + m⟩)[j]? = some u → (w2.alloc (.cells #[.int .i64 (kk : Nat), .string ⟨x.toArray⟩, .int .i64 (k : Nat), .int .i64 ((k : Int) + (m : Int))] 162)).cell? ((⟨w2.heap.size, 0, none⟩ : Addr).add j) = some u from new_cells w2 #[.int .i64 (kk : Nat), .string ⟨x.toArray⟩, .int .i64 (k : Nat), .int .i64 ((k : Int) + (m : Int))] 162)
    have HOX2 := hid (own_ext HL2.out HY2.out)
    have HMX2 := hid (own_ext HMS2.out HY2.out)
    have HZ2 := hid (HW2.out.trans HY2.out)
    go_wp2_with (first
     | (at_builtin; refine wpList_appN _ rfl _ _ 118 rfl w.heap.size 162 i0 _ 4 40 Tryz.underlying118 hi hz0 hz1 hz2 rfl (by decide) _ ts.length _ rfl HOX2.out ⟨w2.heap.size, 0, none⟩ 1 1 _ rfl rfl HNC2.out (tok_one1 kk x k m) (by unfold maxLen; omega) (by omega) HZ2.out.size ?_; intro v3 w3 hown3 hgrow3 hwhere3; have HO3 := hid hown3; have HG3 := hid hgrow3; clear hown3 hgrow3 hwhere3))
    exact ⟨⟨k + m, d, n, ts ++ [⟨kk, x, k, k + m⟩], hm2.2, by go_num, by rw [← HOD.out], by omega, by omega, by rw [List.length_append]; exact Nat.le_trans (Nat.add_le_add_left (Nat.le_refl 1) _) (by omega), HR3.out, own_other HMX2.out HOX2.out HG3.out (by decide), by rw [flat_snoc, List.length_append]; exact HO3.out, ext_grown HZ2.out HOX2.out (Nat.le_refl _) HG3.out⟩, by simp [intOf]; omega⟩
end Go.Proofs.YtiijdojihleggaaGreatDoor
