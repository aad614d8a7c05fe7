import Derived.Test.YtpfmojeigjmlfaaGreatDoorNPV
import Derived.Test.YtpfmojeigjmlfaaGreatDoorMs
import Derived.Test.YtpfmojeigjmlfaaGreatDoorNPG
import Derived.Test.YtpfmojeigjmlfaaGreatDoorJb
import Derived.Test.YtpfmojeigjmlfaaGreatDoorNPF
import Derived.Test.YtpfmojeigjmlfaaGreatDoorNPP
import Derived.Test.YtpfmojeigjmlfaaGreatDoorNPW
set_option maxRecDepth 100000
set_option linter.unusedSimpArgs false
set_option linter.unusedVariables false
open Go.Lib (hid)
namespace Go.Proofs.YtpfmojeigjmlfaaGreatDoor
open Go.RowKit
def RetTk2 (w : World) (x : List Tok × Nat × Int) (e : Ending) (w' : World) : Prop := ∃ A c, e = .returned (.tuple #[.slice A x.1.length c, .int .i64 x.2.1, .int .i64 x.2.2]) ∧ SlN w' A x.1.length 4 (x.1.flatMap tokC) ∧ Ext w w' ∧ (∀ ad, A = some ad → ad.block < w'.heap.size) ∧ x.1.length ≤ c
theorem ret_tk_bad2 {w w' : World} {x : List Tok × Nat × Int} {a : Nat} {at_ e : Int} (h : x = ([], a, e)) (ha : at_ = a) (hw : Ext w w') : RetTk2 w x (.returned (.tuple #[.slice none 0 0, .int .i64 at_, .int .i64 e])) w' := by
 subst h ha
 exact ⟨none, 0, rfl, SlN.nil _ _ _, hw, (fun ad h => by cases h), Nat.le_refl _⟩
set_option maxHeartbeats 8000000 in
theorem rtokens2_any (s : ByteArray) (w : World) (hs : s.size ≤ 1048576) : Calls Tryz.prog 77 #[.string s] w (RetTk2 w (tokensP s.data.toList)) := by
 obtain ⟨i0, hi, hz0, hz1, hz2⟩ := info_parts (show (Tryz.prog.info? 137).map (fun i => (i.zero, i.size, i.bytes)) = some (some (.agg #[.int .i64 0, .string ⟨#[]⟩, .int .i64 0, .int .i64 0]), 4, 40) from by kernel_rfl)
 obtain ⟨R, hR⟩ : ∃ R, R = tokensP s.data.toList := ⟨_, rfl⟩
 rw [← hR]
 unfold tokensP at hR
 rw [size_list] at hR
 by_cases h4 : 4000 < s.size
 ·rw [if_pos h4] at hR
  have HF := hid hR
  have h4I : (4000 : Int) < (s.size : Int) := by omega
  clear hR
  go_enter Tryz.func77, Tryz.ntmps77
  go_wp2
  go_ret3
  exact ret_tk_bad2 HF.out rfl (Ext.refl w)
 rw [if_neg h4] at hR
 have h4I : ¬ (4000 : Int) < (s.size : Int) := by omega
 have h4b : s.size ≤ 4000 := by omega
 have HR := hid (hR.trans (ahd_start _ (toks_code _ _ _ _)))
 clear hR
 go_enter Tryz.func77, Tryz.ntmps77
 go_wp2_with fail
 go_loopw [5, 6, 7] (RkI w s R) (fun _ i _ _ => s.size - (intOf i).toNat)
 case atStart => exact ⟨0, 0, s.size + 1, [], Nat.zero_le _, rfl, rfl, by omega, Nat.le_refl _, Nat.le_refl _, by rw [List.drop_zero]; exact HR.out, World.ownsRow_nil _ _ _ _, Ext.refl _⟩
 case round =>
  obtain ⟨k, d, n, ts, hk, rfl, rfl, hn, hd, hts, hR, hl, hw⟩ := hrel
  have HW := hid hw
  have HL := hid hl
  clear hw HR
  by_cases hks : k < s.size
  rotate_left
  ·obtain rfl : k = s.size := by omega
   obtain ⟨n, rfl⟩ : ∃ n', n = n' + 1 := ⟨n - 1, by omega⟩
   rw [show s.data.toList.drop s.size = [] from by rw [← size_list, List.drop_length], ahd_end] at hR
   have hlI : ¬ (s.size : Int) < (s.size : Int) := by omega
   obtain ⟨Al, cl, rfl, hsl⟩ := own_slN hl
   have HCP := hid (own_cap hl)
   have HSL := hid hsl
   have HLT := hid (fun ad (h : Al = some ad) => (hl.lt ad.block (by rw [h]; rfl)).2)
   clear hl hsl
   by_cases h0 : 0 < d
   ·rw [if_pos h0] at hR
    have HF := hid hR
    have h0I : (0 : Int) < (d : Int) := by omega
    clear hR
    go_wp2
    go_ret3
    exact ret_tk_bad2 HF.out rfl HW.out
   ·rw [if_neg h0] at hR
    have HF := hid hR
    obtain rfl : d = 0 := by omega
    clear hR
    go_wp2
    go_ret3
    rw [HF.out]
    exact ⟨Al, cl, rfl, HSL.out, HW.out, HLT.out, HCP.out⟩
  have hkI : (k : Int) < (s.size : Int) := by omega
  have hkL : (k : Int) ≤ (s.size : Int) := by omega
  have hdr := drop_at hks
  have HLS := hid hdr
  obtain ⟨n, rfl⟩ : ∃ n', n = n' + 1 := ⟨n - 1, by omega⟩
  rw [hdr] at hR
  have HRR := hid hR
  clear hR hdr hl
  rcases Nat.mod_two_eq_zero_or_one d with ho | ho
  ·have hwm : (d : Int) % 2 = 0 := by omega
   have HOD := hid (show false = (d % 2 == 1) from by rw [ho]; rfl)
   have HBL := hid (show (d % 2 == 1 && blankB s[k]) = false from by rw [ho]; rfl)
   have KN := hid (fun W => rplain_any s k d W hs hks)
   have HX1 := hid ((Ext.refl wr).alloc (.cells #[.int .i64 0, .string ⟨#[]⟩, .int .i64 0, .int .i64 0] 137))
   have HB1 := hid (AtC.new wr #[.int .i64 0, .string ⟨#[]⟩, .int .i64 0, .int .i64 0] : AtC 137 _ _ _)
   clear ho
   generalize hnx : pltP (s.data.toList.drop k) d = nx at KN
   rw [HLS.out] at hnx
   rcases nx with _ | ⟨kk, x, m⟩
   ·have HF := hid (show R = ([], k, 3) from by
     rcases pltP_none hnx with h | ⟨x, m, h, rfl⟩
     ·exact HRR.out.trans (ahd_bad HBL.out (by rw [← HOD.out]; exact h))
     ·exact HRR.out.trans (ahd_shut h))
    rw [rtV] at KN
    clear hnx
    go_wp2_with fail
    refine (KN.out _).mono ?_
    rintro e w2 ⟨rfl, hx2⟩
    have HX2 := hid (Ext.trans HX1.out hx2)
    have HB2 := hid (HB1.out.ext hx2)
    clear hx2 KN
    have r0 := HB2.out.cell 0 _ rfl
    have r1 := HB2.out.cell 1 _ rfl
    have r2 := HB2.out.cell 2 _ rfl
    have r3 := HB2.out.cell 3 _ rfl
    have u0 := frz_of HB2.out 0
    have u1 := frz_of HB2.out 1
    have u2 := frz_of HB2.out 2
    have u3 := frz_of HB2.out 3
    go_wp2
    go_ret3
    exact ret_tk_bad2 HF.out rfl (HW.out.trans (ext_four HX2.out (Nat.le_refl _)))
   obtain ⟨hn1, hn2⟩ := pltP_some hnx
   have HNX := hid hn1
   have HNK := hid hn2
   clear hn1 hn2 hnx
   have hm2 : 1 ≤ m ∧ k + m ≤ s.size := by
    have hm := nextP_some HNX.out
    have h := congrArg List.length HLS.out
    rw [List.length_drop, size_list] at h
    omega
   have hk1 := nextP_pos HNX.out
   rw [rtV] at KN
   have HR3 := hid (HRR.out.trans (ahd_tok HBL.out (by rw [← HOD.out]; exact HNX.out) HNK.out))
   rw [← HLS.out, List.drop_drop] at HR3
   have b0 : ((kk : Int) == 0) = false := by rw [beq_eq_false_iff_ne]; omega
   by_cases h2 : kk = 2
   ·subst h2
    rw [show deepN 2 d = d + 1 from rfl] at HR3
    clear b0
    go_wp2_with fail
    refine (KN.out _).mono ?_
    rintro e w2 ⟨rfl, hx2⟩
    have HX2 := hid (Ext.trans HX1.out hx2)
    have HB2 := hid (HB1.out.ext hx2)
    clear hx2 KN
    have hz3 : ((((w2.setCell ⟨wr.heap.size, 0, none⟩ (.int .i64 2)).setCell ⟨wr.heap.size, 1, none⟩ (.string ⟨x.toArray⟩)).setCell ⟨wr.heap.size, 2, none⟩ (.int .i64 k)).setCell ⟨wr.heap.size, 3, none⟩ (.int .i64 ((k : Int) + (m : Int)))).heap.size = w2.heap.size := by simp [World.setCell]
    have HX3 := hid (show Ext wr ((((w2.setCell ⟨wr.heap.size, 0, none⟩ (.int .i64 2)).setCell ⟨wr.heap.size, 1, none⟩ (.string ⟨x.toArray⟩)).setCell ⟨wr.heap.size, 2, none⟩ (.int .i64 k)).setCell ⟨wr.heap.size, 3, none⟩ (.int .i64 ((k : Int) + (m : Int)))) from ext_four HX2.out (Nat.le_refl _))
    have HAT := hid (at_four (b0 := .int .i64 2) (b1 := .string ⟨x.toArray⟩) (b2 := .int .i64 k) (b3 := .int .i64 ((k : Int) + (m : Int))) HB2.out)
    have HY3 := hid (HX3.out.trans ((Ext.refl _).alloc (.cells #[.int .i64 2, .string ⟨x.toArray⟩, .int .i64 k, .int .i64 ((k : Int) + (m : Int))] 137)))
    have HNC : Hid (∀ j u, (tokC ⟨2, x, k, k + m⟩)[j]? = some u → (((((w2.setCell ⟨wr.heap.size, 0, none⟩ (.int .i64 2)).setCell ⟨wr.heap.size, 1, none⟩ (.string ⟨x.toArray⟩)).setCell ⟨wr.heap.size, 2, none⟩ (.int .i64 k)).setCell ⟨wr.heap.size, 3, none⟩ (.int .i64 ((k : Int) + (m : Int)))).alloc (.cells #[.int .i64 2, .string ⟨x.toArray⟩, .int .i64 k, .int .i64 ((k : Int) + (m : Int))] 137)).cell? ((⟨w2.heap.size, 0, none⟩ : Addr).add j) = some u) := hid (by
     have h := new_cells ((((w2.setCell ⟨wr.heap.size, 0, none⟩ (.int .i64 2)).setCell ⟨wr.heap.size, 1, none⟩ (.string ⟨x.toArray⟩)).setCell ⟨wr.heap.size, 2, none⟩ (.int .i64 k)).setCell ⟨wr.heap.size, 3, none⟩ (.int .i64 ((k : Int) + (m : Int)))) #[.int .i64 2, .string ⟨x.toArray⟩, .int .i64 k, .int .i64 ((k : Int) + (m : Int))] 137
     rw [hz3] at h
     exact h)
    have HOX := hid (own_ext HL.out HY3.out)
    have HZ := hid (HW.out.trans HY3.out)
    have HAX := hid (HAT.out.alloc (.cells #[.int .i64 2, .string ⟨x.toArray⟩, .int .i64 k, .int .i64 ((k : Int) + (m : Int))] 137))
    have HL0 := HL
    clear hz3
    have r0 := HB2.out.cell 0 _ rfl
    have r1 := HB2.out.cell 1 _ rfl
    have r2 := HB2.out.cell 2 _ rfl
    have r3 := HB2.out.cell 3 _ rfl
    have u0 := frz_of HB2.out 0
    have u1 := frz_of HB2.out 1
    have u2 := frz_of HB2.out 2
    have u3 := frz_of HB2.out 3
    go_wp2_with (at_builtin; refine wpList_appN _ rfl _ _ 97 rfl w.heap.size 137 i0 _ 4 40 Tryz.underlying97 hi hz0 hz1 hz2 rfl (by decide) _ ts.length _ rfl HOX.out ⟨w2.heap.size, 0, none⟩ 1 1 _ rfl rfl HNC.out (tok_one1 2 x k m) (by unfold maxLen; omega) (by omega) HZ.out.size ?_; intro v4 w4 hown4 hgrow4 hwhere4; have HO4 := hid hown4; have HG4 := hid hgrow4; have z3 := (own_at HL.out HAX.out hgrow4 (Nat.le_refl _)).cell 3 _ rfl; clear hown4 hgrow4 hwhere4 r0 r1 r2 r3 u0 u1 u2 u3)
    exact ⟨⟨k + m, d + 1, n, ts ++ [⟨2, x, k, k + m⟩], hm2.2, by first | rfl | go_num, by go_num, by omega, by omega, by rw [List.length_append]; exact Nat.le_trans (Nat.add_le_add_left (Nat.le_refl 1) _) (by omega), HR3.out, by rw [flat_snoc, List.length_append]; exact HO4.out, ext_grown HZ.out HOX.out (Nat.le_refl _) HG4.out⟩, by simp [intOf]; omega⟩
   have k2 : ((kk : Int) == 2) = false := by rw [beq_eq_false_iff_ne]; omega
   by_cases h3 : kk = 3
   ·subst h3
    rcases d with _ | d
    ·exact absurd ⟨rfl, rfl⟩ HNK.out
    rw [show deepN 3 (d + 1) = d from rfl] at HR3
    clear b0 k2
    go_wp2_with fail
    refine (KN.out _).mono ?_
    rintro e w2 ⟨rfl, hx2⟩
    have HX2 := hid (Ext.trans HX1.out hx2)
    have HB2 := hid (HB1.out.ext hx2)
    clear hx2 KN
    have hz3 : ((((w2.setCell ⟨wr.heap.size, 0, none⟩ (.int .i64 3)).setCell ⟨wr.heap.size, 1, none⟩ (.string ⟨x.toArray⟩)).setCell ⟨wr.heap.size, 2, none⟩ (.int .i64 k)).setCell ⟨wr.heap.size, 3, none⟩ (.int .i64 ((k : Int) + (m : Int)))).heap.size = w2.heap.size := by simp [World.setCell]
    have HX3 := hid (show Ext wr ((((w2.setCell ⟨wr.heap.size, 0, none⟩ (.int .i64 3)).setCell ⟨wr.heap.size, 1, none⟩ (.string ⟨x.toArray⟩)).setCell ⟨wr.heap.size, 2, none⟩ (.int .i64 k)).setCell ⟨wr.heap.size, 3, none⟩ (.int .i64 ((k : Int) + (m : Int)))) from ext_four HX2.out (Nat.le_refl _))
    have HAT := hid (at_four (b0 := .int .i64 3) (b1 := .string ⟨x.toArray⟩) (b2 := .int .i64 k) (b3 := .int .i64 ((k : Int) + (m : Int))) HB2.out)
    have HY3 := hid (HX3.out.trans ((Ext.refl _).alloc (.cells #[.int .i64 3, .string ⟨x.toArray⟩, .int .i64 k, .int .i64 ((k : Int) + (m : Int))] 137)))
    have HNC : Hid (∀ j u, (tokC ⟨3, x, k, k + m⟩)[j]? = some u → (((((w2.setCell ⟨wr.heap.size, 0, none⟩ (.int .i64 3)).setCell ⟨wr.heap.size, 1, none⟩ (.string ⟨x.toArray⟩)).setCell ⟨wr.heap.size, 2, none⟩ (.int .i64 k)).setCell ⟨wr.heap.size, 3, none⟩ (.int .i64 ((k : Int) + (m : Int)))).alloc (.cells #[.int .i64 3, .string ⟨x.toArray⟩, .int .i64 k, .int .i64 ((k : Int) + (m : Int))] 137)).cell? ((⟨w2.heap.size, 0, none⟩ : Addr).add j) = some u) := hid (by
     have h := new_cells ((((w2.setCell ⟨wr.heap.size, 0, none⟩ (.int .i64 3)).setCell ⟨wr.heap.size, 1, none⟩ (.string ⟨x.toArray⟩)).setCell ⟨wr.heap.size, 2, none⟩ (.int .i64 k)).setCell ⟨wr.heap.size, 3, none⟩ (.int .i64 ((k : Int) + (m : Int)))) #[.int .i64 3, .string ⟨x.toArray⟩, .int .i64 k, .int .i64 ((k : Int) + (m : Int))] 137
     rw [hz3] at h
     exact h)
    have HOX := hid (own_ext HL.out HY3.out)
    have HZ := hid (HW.out.trans HY3.out)
    have HAX := hid (HAT.out.alloc (.cells #[.int .i64 3, .string ⟨x.toArray⟩, .int .i64 k, .int .i64 ((k : Int) + (m : Int))] 137))
    have HL0 := HL
    clear hz3
    have r0 := HB2.out.cell 0 _ rfl
    have r1 := HB2.out.cell 1 _ rfl
    have r2 := HB2.out.cell 2 _ rfl
    have r3 := HB2.out.cell 3 _ rfl
    have u0 := frz_of HB2.out 0
    have u1 := frz_of HB2.out 1
    have u2 := frz_of HB2.out 2
    have u3 := frz_of HB2.out 3
    go_wp2_with (at_builtin; refine wpList_appN _ rfl _ _ 97 rfl w.heap.size 137 i0 _ 4 40 Tryz.underlying97 hi hz0 hz1 hz2 rfl (by decide) _ ts.length _ rfl HOX.out ⟨w2.heap.size, 0, none⟩ 1 1 _ rfl rfl HNC.out (tok_one1 3 x k m) (by unfold maxLen; omega) (by omega) HZ.out.size ?_; intro v4 w4 hown4 hgrow4 hwhere4; have HO4 := hid hown4; have HG4 := hid hgrow4; have z3 := (own_at HL.out HAX.out hgrow4 (Nat.le_refl _)).cell 3 _ rfl; clear hown4 hgrow4 hwhere4 r0 r1 r2 r3 u0 u1 u2 u3)
    exact ⟨⟨k + m, d, n, ts ++ [⟨3, x, k, k + m⟩], hm2.2, by first | rfl | go_num, by first | go_num | (congr 1; omega), by omega, by omega, by rw [List.length_append]; exact Nat.le_trans (Nat.add_le_add_left (Nat.le_refl 1) _) (by omega), HR3.out, by rw [flat_snoc, List.length_append]; exact HO4.out, ext_grown HZ.out HOX.out (Nat.le_refl _) HG4.out⟩, by simp [intOf]; omega⟩
   have k3 : ((kk : Int) == 3) = false := by rw [beq_eq_false_iff_ne]; omega
   rw [show deepN kk d = d from by unfold deepN; rw [if_neg h2, if_neg h3]] at HR3
   clear h2 h3
   go_wp2_with fail
   refine (KN.out _).mono ?_
   rintro e w2 ⟨rfl, hx2⟩
   have HX2 := hid (Ext.trans HX1.out hx2)
   have HB2 := hid (HB1.out.ext hx2)
   clear hx2 KN
   have hz3 : ((((w2.setCell ⟨wr.heap.size, 0, none⟩ (.int .i64 kk)).setCell ⟨wr.heap.size, 1, none⟩ (.string ⟨x.toArray⟩)).setCell ⟨wr.heap.size, 2, none⟩ (.int .i64 k)).setCell ⟨wr.heap.size, 3, none⟩ (.int .i64 ((k : Int) + (m : Int)))).heap.size = w2.heap.size := by simp [World.setCell]
   have HX3 := hid (show Ext wr ((((w2.setCell ⟨wr.heap.size, 0, none⟩ (.int .i64 kk)).setCell ⟨wr.heap.size, 1, none⟩ (.string ⟨x.toArray⟩)).setCell ⟨wr.heap.size, 2, none⟩ (.int .i64 k)).setCell ⟨wr.heap.size, 3, none⟩ (.int .i64 ((k : Int) + (m : Int)))) from ext_four HX2.out (Nat.le_refl _))
   have HAT := hid (at_four (b0 := .int .i64 kk) (b1 := .string ⟨x.toArray⟩) (b2 := .int .i64 k) (b3 := .int .i64 ((k : Int) + (m : Int))) HB2.out)
   have HY3 := hid (HX3.out.trans ((Ext.refl _).alloc (.cells #[.int .i64 kk, .string ⟨x.toArray⟩, .int .i64 k, .int .i64 ((k : Int) + (m : Int))] 137)))
   have HNC : Hid (∀ j u, (tokC ⟨kk, x, k, k + m⟩)[j]? = some u → (((((w2.setCell ⟨wr.heap.size, 0, none⟩ (.int .i64 kk)).setCell ⟨wr.heap.size, 1, none⟩ (.string ⟨x.toArray⟩)).setCell ⟨wr.heap.size, 2, none⟩ (.int .i64 k)).setCell ⟨wr.heap.size, 3, none⟩ (.int .i64 ((k : Int) + (m : Int)))).alloc (.cells #[.int .i64 kk, .string ⟨x.toArray⟩, .int .i64 k, .int .i64 ((k : Int) + (m : Int))] 137)).cell? ((⟨w2.heap.size, 0, none⟩ : Addr).add j) = some u) := hid (by
    have h := new_cells ((((w2.setCell ⟨wr.heap.size, 0, none⟩ (.int .i64 kk)).setCell ⟨wr.heap.size, 1, none⟩ (.string ⟨x.toArray⟩)).setCell ⟨wr.heap.size, 2, none⟩ (.int .i64 k)).setCell ⟨wr.heap.size, 3, none⟩ (.int .i64 ((k : Int) + (m : Int)))) #[.int .i64 kk, .string ⟨x.toArray⟩, .int .i64 k, .int .i64 ((k : Int) + (m : Int))] 137
    rw [hz3] at h
    exact h)
   have HOX := hid (own_ext HL.out HY3.out)
   have HZ := hid (HW.out.trans HY3.out)
   have HAX := hid (HAT.out.alloc (.cells #[.int .i64 kk, .string ⟨x.toArray⟩, .int .i64 k, .int .i64 ((k : Int) + (m : Int))] 137))
   have HL0 := HL
   clear hz3
   have r0 := HB2.out.cell 0 _ rfl
   have r1 := HB2.out.cell 1 _ rfl
   have r2 := HB2.out.cell 2 _ rfl
   have r3 := HB2.out.cell 3 _ rfl
   have u0 := frz_of HB2.out 0
   have u1 := frz_of HB2.out 1
   have u2 := frz_of HB2.out 2
   have u3 := frz_of HB2.out 3
   go_wp2_with (at_builtin; refine wpList_appN _ rfl _ _ 97 rfl w.heap.size 137 i0 _ 4 40 Tryz.underlying97 hi hz0 hz1 hz2 rfl (by decide) _ ts.length _ rfl HOX.out ⟨w2.heap.size, 0, none⟩ 1 1 _ rfl rfl HNC.out (tok_one1 kk x k m) (by unfold maxLen; omega) (by omega) HZ.out.size ?_; intro v4 w4 hown4 hgrow4 hwhere4; have HO4 := hid hown4; have HG4 := hid hgrow4; have z3 := (own_at HL.out HAX.out hgrow4 (Nat.le_refl _)).cell 3 _ rfl; clear hown4 hgrow4 hwhere4 r0 r1 r2 r3 u0 u1 u2 u3)
   exact ⟨⟨k + m, d, n, ts ++ [⟨kk, x, k, k + m⟩], hm2.2, by first | rfl | go_num, rfl, by omega, by omega, by rw [List.length_append]; exact Nat.le_trans (Nat.add_le_add_left (Nat.le_refl 1) _) (by omega), HR3.out, by rw [flat_snoc, List.length_append]; exact HO4.out, ext_grown HZ.out HOX.out (Nat.le_refl _) HG4.out⟩, by simp [intOf]; omega⟩
  ·have hwm : (d : Int) % 2 = 1 := by omega
   have HOD := hid (show true = (d % 2 == 1) from by rw [ho]; rfl)
   have KB := hid (fun W => rblank_any s[k] W)
   cases hb : blankB s[k]
   rotate_left
   ·rw [hb] at KB
    have HR2 := hid (HRR.out.trans (ahd_blank (by rw [ho, hb]; rfl)))
    clear hb ho
    go_wp2_with fail
    refine (KB.out _).mono ?_
    rintro e w2 ⟨rfl, rfl⟩
    go_wp2
    exact ⟨⟨k + 1, d, n, ts, hks, by go_num, rfl, by omega, by omega, by omega, HR2.out, HL.out, HW.out⟩, by simp [intOf]; omega⟩
   rw [hb] at KB
   have HBL := hid (show (d % 2 == 1 && blankB s[k]) = false from by rw [hb, Bool.and_false])
   have HD0 := hid (show d ≠ 0 from by intro e; rw [e] at ho; exact absurd ho (by decide))
   have KN := hid (fun W => rbraces_any s k W hs hks)
   have HX1 := hid ((Ext.refl wr).alloc (.cells #[.int .i64 0, .string ⟨#[]⟩, .int .i64 0, .int .i64 0] 137))
   have HB1 := hid (AtC.new wr #[.int .i64 0, .string ⟨#[]⟩, .int .i64 0, .int .i64 0] : AtC 137 _ _ _)
   clear ho hb
   generalize hnx : nextP (s.data.toList.drop k) true = nx at KN
   rw [HLS.out] at hnx
   have HNX := hid hnx
   clear hnx
   rcases nx with _ | ⟨kk, x, m⟩
   ·have HF := hid (show R = ([], k, 3) from HRR.out.trans (ahd_bad HBL.out (by rw [← HOD.out]; exact HNX.out)))
    rw [rtV] at KN
    go_wp2_with fail
    refine (KB.out _).mono ?_
    rintro e wb ⟨rfl, rfl⟩
    go_wp2_with fail
    refine (KN.out _).mono ?_
    rintro e w2 ⟨rfl, hx2⟩
    have HX2 := hid (Ext.trans HX1.out hx2)
    have HB2 := hid (HB1.out.ext hx2)
    clear hx2 KN
    have r0 := HB2.out.cell 0 _ rfl
    have r1 := HB2.out.cell 1 _ rfl
    have r2 := HB2.out.cell 2 _ rfl
    have r3 := HB2.out.cell 3 _ rfl
    have u0 := frz_of HB2.out 0
    have u1 := frz_of HB2.out 1
    have u2 := frz_of HB2.out 2
    have u3 := frz_of HB2.out 3
    go_wp2
    go_ret3
    exact ret_tk_bad2 HF.out rfl (HW.out.trans (ext_four HX2.out (Nat.le_refl _)))
   have HNK := hid (show ¬ (kk = 3 ∧ d = 0) from fun e => HD0.out e.2)
   have hm2 : 1 ≤ m ∧ k + m ≤ s.size := by
    have hm := nextP_some HNX.out
    have h := congrArg List.length HLS.out
    rw [List.length_drop, size_list] at h
    omega
   have hk1 := nextP_pos HNX.out
   rw [rtV] at KN
   have HR3 := hid (HRR.out.trans (ahd_tok HBL.out (by rw [← HOD.out]; exact HNX.out) HNK.out))
   rw [← HLS.out, List.drop_drop] at HR3
   have b0 : ((kk : Int) == 0) = false := by rw [beq_eq_false_iff_ne]; omega
   by_cases h2 : kk = 2
   ·subst h2
    rw [show deepN 2 d = d + 1 from rfl] at HR3
    clear b0
    go_wp2_with fail
    refine (KB.out _).mono ?_
    rintro e wb ⟨rfl, rfl⟩
    go_wp2_with fail
    refine (KN.out _).mono ?_
    rintro e w2 ⟨rfl, hx2⟩
    have HX2 := hid (Ext.trans HX1.out hx2)
    have HB2 := hid (HB1.out.ext hx2)
    clear hx2 KN
    have hz3 : ((((w2.setCell ⟨wr.heap.size, 0, none⟩ (.int .i64 2)).setCell ⟨wr.heap.size, 1, none⟩ (.string ⟨x.toArray⟩)).setCell ⟨wr.heap.size, 2, none⟩ (.int .i64 k)).setCell ⟨wr.heap.size, 3, none⟩ (.int .i64 ((k : Int) + (m : Int)))).heap.size = w2.heap.size := by simp [World.setCell]
    have HX3 := hid (show Ext wr ((((w2.setCell ⟨wr.heap.size, 0, none⟩ (.int .i64 2)).setCell ⟨wr.heap.size, 1, none⟩ (.string ⟨x.toArray⟩)).setCell ⟨wr.heap.size, 2, none⟩ (.int .i64 k)).setCell ⟨wr.heap.size, 3, none⟩ (.int .i64 ((k : Int) + (m : Int)))) from ext_four HX2.out (Nat.le_refl _))
    have HAT := hid (at_four (b0 := .int .i64 2) (b1 := .string ⟨x.toArray⟩) (b2 := .int .i64 k) (b3 := .int .i64 ((k : Int) + (m : Int))) HB2.out)
    have HY3 := hid (HX3.out.trans ((Ext.refl _).alloc (.cells #[.int .i64 2, .string ⟨x.toArray⟩, .int .i64 k, .int .i64 ((k : Int) + (m : Int))] 137)))
    have HNC : Hid (∀ j u, (tokC ⟨2, x, k, k + m⟩)[j]? = some u → (((((w2.setCell ⟨wr.heap.size, 0, none⟩ (.int .i64 2)).setCell ⟨wr.heap.size, 1, none⟩ (.string ⟨x.toArray⟩)).setCell ⟨wr.heap.size, 2, none⟩ (.int .i64 k)).setCell ⟨wr.heap.size, 3, none⟩ (.int .i64 ((k : Int) + (m : Int)))).alloc (.cells #[.int .i64 2, .string ⟨x.toArray⟩, .int .i64 k, .int .i64 ((k : Int) + (m : Int))] 137)).cell? ((⟨w2.heap.size, 0, none⟩ : Addr).add j) = some u) := hid (by
     have h := new_cells ((((w2.setCell ⟨wr.heap.size, 0, none⟩ (.int .i64 2)).setCell ⟨wr.heap.size, 1, none⟩ (.string ⟨x.toArray⟩)).setCell ⟨wr.heap.size, 2, none⟩ (.int .i64 k)).setCell ⟨wr.heap.size, 3, none⟩ (.int .i64 ((k : Int) + (m : Int)))) #[.int .i64 2, .string ⟨x.toArray⟩, .int .i64 k, .int .i64 ((k : Int) + (m : Int))] 137
     rw [hz3] at h
     exact h)
    have HOX := hid (own_ext HL.out HY3.out)
    have HZ := hid (HW.out.trans HY3.out)
    have HAX := hid (HAT.out.alloc (.cells #[.int .i64 2, .string ⟨x.toArray⟩, .int .i64 k, .int .i64 ((k : Int) + (m : Int))] 137))
    have HL0 := HL
    clear hz3
    have r0 := HB2.out.cell 0 _ rfl
    have r1 := HB2.out.cell 1 _ rfl
    have r2 := HB2.out.cell 2 _ rfl
    have r3 := HB2.out.cell 3 _ rfl
    have u0 := frz_of HB2.out 0
    have u1 := frz_of HB2.out 1
    have u2 := frz_of HB2.out 2
    have u3 := frz_of HB2.out 3
    go_wp2_with (at_builtin; refine wpList_appN _ rfl _ _ 97 rfl w.heap.size 137 i0 _ 4 40 Tryz.underlying97 hi hz0 hz1 hz2 rfl (by decide) _ ts.length _ rfl HOX.out ⟨w2.heap.size, 0, none⟩ 1 1 _ rfl rfl HNC.out (tok_one1 2 x k m) (by unfold maxLen; omega) (by omega) HZ.out.size ?_; intro v4 w4 hown4 hgrow4 hwhere4; have HO4 := hid hown4; have HG4 := hid hgrow4; have z3 := (own_at HL.out HAX.out hgrow4 (Nat.le_refl _)).cell 3 _ rfl; clear hown4 hgrow4 hwhere4 r0 r1 r2 r3 u0 u1 u2 u3)
    exact ⟨⟨k + m, d + 1, n, ts ++ [⟨2, x, k, k + m⟩], hm2.2, by first | rfl | go_num, by go_num, by omega, by omega, by rw [List.length_append]; exact Nat.le_trans (Nat.add_le_add_left (Nat.le_refl 1) _) (by omega), HR3.out, by rw [flat_snoc, List.length_append]; exact HO4.out, ext_grown HZ.out HOX.out (Nat.le_refl _) HG4.out⟩, by simp [intOf]; omega⟩
   have k2 : ((kk : Int) == 2) = false := by rw [beq_eq_false_iff_ne]; omega
   by_cases h3 : kk = 3
   ·subst h3
    rcases d with _ | d
    ·exact absurd ⟨rfl, rfl⟩ HNK.out
    rw [show deepN 3 (d + 1) = d from rfl] at HR3
    clear b0 k2
    go_wp2_with fail
    refine (KB.out _).mono ?_
    rintro e wb ⟨rfl, rfl⟩
    go_wp2_with fail
    refine (KN.out _).mono ?_
    rintro e w2 ⟨rfl, hx2⟩
    have HX2 := hid (Ext.trans HX1.out hx2)
    have HB2 := hid (HB1.out.ext hx2)
    clear hx2 KN
    have hz3 : ((((w2.setCell ⟨wr.heap.size, 0, none⟩ (.int .i64 3)).setCell ⟨wr.heap.size, 1, none⟩ (.string ⟨x.toArray⟩)).setCell ⟨wr.heap.size, 2, none⟩ (.int .i64 k)).setCell ⟨wr.heap.size, 3, none⟩ (.int .i64 ((k : Int) + (m : Int)))).heap.size = w2.heap.size := by simp [World.setCell]
    have HX3 := hid (show Ext wr ((((w2.setCell ⟨wr.heap.size, 0, none⟩ (.int .i64 3)).setCell ⟨wr.heap.size, 1, none⟩ (.string ⟨x.toArray⟩)).setCell ⟨wr.heap.size, 2, none⟩ (.int .i64 k)).setCell ⟨wr.heap.size, 3, none⟩ (.int .i64 ((k : Int) + (m : Int)))) from ext_four HX2.out (Nat.le_refl _))
    have HAT := hid (at_four (b0 := .int .i64 3) (b1 := .string ⟨x.toArray⟩) (b2 := .int .i64 k) (b3 := .int .i64 ((k : Int) + (m : Int))) HB2.out)
    have HY3 := hid (HX3.out.trans ((Ext.refl _).alloc (.cells #[.int .i64 3, .string ⟨x.toArray⟩, .int .i64 k, .int .i64 ((k : Int) + (m : Int))] 137)))
    have HNC : Hid (∀ j u, (tokC ⟨3, x, k, k + m⟩)[j]? = some u → (((((w2.setCell ⟨wr.heap.size, 0, none⟩ (.int .i64 3)).setCell ⟨wr.heap.size, 1, none⟩ (.string ⟨x.toArray⟩)).setCell ⟨wr.heap.size, 2, none⟩ (.int .i64 k)).setCell ⟨wr.heap.size, 3, none⟩ (.int .i64 ((k : Int) + (m : Int)))).alloc (.cells #[.int .i64 3, .string ⟨x.toArray⟩, .int .i64 k, .int .i64 ((k : Int) + (m : Int))] 137)).cell? ((⟨w2.heap.size, 0, none⟩ : Addr).add j) = some u) := hid (by
     have h := new_cells ((((w2.setCell ⟨wr.heap.size, 0, none⟩ (.int .i64 3)).setCell ⟨wr.heap.size, 1, none⟩ (.string ⟨x.toArray⟩)).setCell ⟨wr.heap.size, 2, none⟩ (.int .i64 k)).setCell ⟨wr.heap.size, 3, none⟩ (.int .i64 ((k : Int) + (m : Int)))) #[.int .i64 3, .string ⟨x.toArray⟩, .int .i64 k, .int .i64 ((k : Int) + (m : Int))] 137
     rw [hz3] at h
     exact h)
    have HOX := hid (own_ext HL.out HY3.out)
    have HZ := hid (HW.out.trans HY3.out)
    have HAX := hid (HAT.out.alloc (.cells #[.int .i64 3, .string ⟨x.toArray⟩, .int .i64 k, .int .i64 ((k : Int) + (m : Int))] 137))
    have HL0 := HL
    clear hz3
    have r0 := HB2.out.cell 0 _ rfl
    have r1 := HB2.out.cell 1 _ rfl
    have r2 := HB2.out.cell 2 _ rfl
    have r3 := HB2.out.cell 3 _ rfl
    have u0 := frz_of HB2.out 0
    have u1 := frz_of HB2.out 1
    have u2 := frz_of HB2.out 2
    have u3 := frz_of HB2.out 3
    go_wp2_with (at_builtin; refine wpList_appN _ rfl _ _ 97 rfl w.heap.size 137 i0 _ 4 40 Tryz.underlying97 hi hz0 hz1 hz2 rfl (by decide) _ ts.length _ rfl HOX.out ⟨w2.heap.size, 0, none⟩ 1 1 _ rfl rfl HNC.out (tok_one1 3 x k m) (by unfold maxLen; omega) (by omega) HZ.out.size ?_; intro v4 w4 hown4 hgrow4 hwhere4; have HO4 := hid hown4; have HG4 := hid hgrow4; have z3 := (own_at HL.out HAX.out hgrow4 (Nat.le_refl _)).cell 3 _ rfl; clear hown4 hgrow4 hwhere4 r0 r1 r2 r3 u0 u1 u2 u3)
    exact ⟨⟨k + m, d, n, ts ++ [⟨3, x, k, k + m⟩], hm2.2, by first | rfl | go_num, by first | go_num | (congr 1; omega), by omega, by omega, by rw [List.length_append]; exact Nat.le_trans (Nat.add_le_add_left (Nat.le_refl 1) _) (by omega), HR3.out, by rw [flat_snoc, List.length_append]; exact HO4.out, ext_grown HZ.out HOX.out (Nat.le_refl _) HG4.out⟩, by simp [intOf]; omega⟩
   have k3 : ((kk : Int) == 3) = false := by rw [beq_eq_false_iff_ne]; omega
   rw [show deepN kk d = d from by unfold deepN; rw [if_neg h2, if_neg h3]] at HR3
   clear h2 h3
   go_wp2_with fail
   refine (KB.out _).mono ?_
   rintro e wb ⟨rfl, rfl⟩
   go_wp2_with fail
   refine (KN.out _).mono ?_
   rintro e w2 ⟨rfl, hx2⟩
   have HX2 := hid (Ext.trans HX1.out hx2)
   have HB2 := hid (HB1.out.ext hx2)
   clear hx2 KN
   have hz3 : ((((w2.setCell ⟨wr.heap.size, 0, none⟩ (.int .i64 kk)).setCell ⟨wr.heap.size, 1, none⟩ (.string ⟨x.toArray⟩)).setCell ⟨wr.heap.size, 2, none⟩ (.int .i64 k)).setCell ⟨wr.heap.size, 3, none⟩ (.int .i64 ((k : Int) + (m : Int)))).heap.size = w2.heap.size := by simp [World.setCell]
   have HX3 := hid (show Ext wr ((((w2.setCell ⟨wr.heap.size, 0, none⟩ (.int .i64 kk)).setCell ⟨wr.heap.size, 1, none⟩ (.string ⟨x.toArray⟩)).setCell ⟨wr.heap.size, 2, none⟩ (.int .i64 k)).setCell ⟨wr.heap.size, 3, none⟩ (.int .i64 ((k : Int) + (m : Int)))) from ext_four HX2.out (Nat.le_refl _))
   have HAT := hid (at_four (b0 := .int .i64 kk) (b1 := .string ⟨x.toArray⟩) (b2 := .int .i64 k) (b3 := .int .i64 ((k : Int) + (m : Int))) HB2.out)
   have HY3 := hid (HX3.out.trans ((Ext.refl _).alloc (.cells #[.int .i64 kk, .string ⟨x.toArray⟩, .int .i64 k, .int .i64 ((k : Int) + (m : Int))] 137)))
   have HNC : Hid (∀ j u, (tokC ⟨kk, x, k, k + m⟩)[j]? = some u → (((((w2.setCell ⟨wr.heap.size, 0, none⟩ (.int .i64 kk)).setCell ⟨wr.heap.size, 1, none⟩ (.string ⟨x.toArray⟩)).setCell ⟨wr.heap.size, 2, none⟩ (.int .i64 k)).setCell ⟨wr.heap.size, 3, none⟩ (.int .i64 ((k : Int) + (m : Int)))).alloc (.cells #[.int .i64 kk, .string ⟨x.toArray⟩, .int .i64 k, .int .i64 ((k : Int) + (m : Int))] 137)).cell? ((⟨w2.heap.size, 0, none⟩ : Addr).add j) = some u) := hid (by
    have h := new_cells ((((w2.setCell ⟨wr.heap.size, 0, none⟩ (.int .i64 kk)).setCell ⟨wr.heap.size, 1, none⟩ (.string ⟨x.toArray⟩)).setCell ⟨wr.heap.size, 2, none⟩ (.int .i64 k)).setCell ⟨wr.heap.size, 3, none⟩ (.int .i64 ((k : Int) + (m : Int)))) #[.int .i64 kk, .string ⟨x.toArray⟩, .int .i64 k, .int .i64 ((k : Int) + (m : Int))] 137
    rw [hz3] at h
    exact h)
   have HOX := hid (own_ext HL.out HY3.out)
   have HZ := hid (HW.out.trans HY3.out)
   have HAX := hid (HAT.out.alloc (.cells #[.int .i64 kk, .string ⟨x.toArray⟩, .int .i64 k, .int .i64 ((k : Int) + (m : Int))] 137))
   have HL0 := HL
   clear hz3
   have r0 := HB2.out.cell 0 _ rfl
   have r1 := HB2.out.cell 1 _ rfl
   have r2 := HB2.out.cell 2 _ rfl
   have r3 := HB2.out.cell 3 _ rfl
   have u0 := frz_of HB2.out 0
   have u1 := frz_of HB2.out 1
   have u2 := frz_of HB2.out 2
   have u3 := frz_of HB2.out 3
   go_wp2_with (at_builtin; refine wpList_appN _ rfl _ _ 97 rfl w.heap.size 137 i0 _ 4 40 Tryz.underlying97 hi hz0 hz1 hz2 rfl (by decide) _ ts.length _ rfl HOX.out ⟨w2.heap.size, 0, none⟩ 1 1 _ rfl rfl HNC.out (tok_one1 kk x k m) (by unfold maxLen; omega) (by omega) HZ.out.size ?_; intro v4 w4 hown4 hgrow4 hwhere4; have HO4 := hid hown4; have HG4 := hid hgrow4; have z3 := (own_at HL.out HAX.out hgrow4 (Nat.le_refl _)).cell 3 _ rfl; clear hown4 hgrow4 hwhere4 r0 r1 r2 r3 u0 u1 u2 u3)
   exact ⟨⟨k + m, d, n, ts ++ [⟨kk, x, k, k + m⟩], hm2.2, by first | rfl | go_num, rfl, by omega, by omega, by rw [List.length_append]; exact Nat.le_trans (Nat.add_le_add_left (Nat.le_refl 1) _) (by omega), HR3.out, by rw [flat_snoc, List.length_append]; exact HO4.out, ext_grown HZ.out HOX.out (Nat.le_refl _) HG4.out⟩, by simp [intOf]; omega⟩
end Go.Proofs.YtpfmojeigjmlfaaGreatDoor
namespace Go.Proofs.YtpfmojeigjmlfaaGreatDoor
open Go.RowKit
def qB (g : Nat) (nb : Option Nat) : Nat → Prop := fun k => k = g ∨ some k = nb
def hdT (E : Nat) : List Tok → Tok
 | [] => ⟨0, [], E, E⟩
 | t :: _ => t
theorem hdT_k (E : Nat) (l : List Tok) : (hdT E l).k = kindL l := by cases l <;> rfl
theorem hdT_a (E : Nat) (l : List Tok) : (hdT E l).a = plE E l := by cases l <;> rfl
def RqW (g tb : Nat) (nb : Option Nat) (E : Nat) (w : World) (l : List Tok) (ns : List By) (a e : Int) : Prop :=
 ∃ (A : Option Addr) (c : Nat) (nv : Value), AtC 102 w g #[.slice A l.length c, .int .i64 E, nv, .int .i64 a, .int .i64 e] ∧ SlN w A l.length 4 (l.flatMap tokC) ∧
   (0 < l.length → l.length ≤ c ∧ ∃ b o, A = some ⟨b, o, none⟩ ∧ b = tb ∧ b ≠ g ∧ nb ≠ some b) ∧ w.ownsRow 0 9 1 nv ns.length (strC ns) ∧ nv.ownBlock = nb ∧ nb ≠ some g
structure RqB (E : Nat) (l : List Tok) (ns : List By) : Prop where
 e4 : E ≤ 4000
 len : l.length ≤ 4001
 tok : ∀ t ∈ l, t.t.length ≤ 4000 ∧ t.a ≤ 4000 ∧ tokB t = true
 few : ns.length ≤ 30
def RqO (g tb : Nat) (nb : Option Nat) (E : Nat) (w : World) : Except Err St → Prop
 | .ok st => RqB E st.left st.names ∧ st.names.length ≤ 20 ∧ ∃ a, RqW g tb nb E w st.left st.names a 0
 | .error x => x.1 ≠ 0 ∧ ∃ l ns, RqB E l ns ∧ RqW g tb nb E w l ns x.2 x.1
def RqS (g tb : Nat) (nb0 : Option Nat) (w0 : World) (E : Nat) (X : Except Err St) (w : World) : Prop := Exc (qB g nb0) w0 w ∧ ∃ nb, RqO g tb nb E w X ∧ (nb = nb0 ∨ ∀ k, nb = some k → w0.heap.size ≤ k)
section
variable {g tb E : Nat} {nb nb0 : Option Nat} {w w0 w' : World} {X X' : Except Err St} {l : List Tok} {ns : List By} {a e : Int}
theorem RqW.ext (h : RqW g tb nb E w l ns a e) (hx : Ext w w') : RqW g tb nb E w' l ns a e := by
 obtain ⟨A, c, nv, h1, h2, h3, h4, h5⟩ := h
 exact ⟨A, c, nv, h1.ext hx, h2.ext hx, h3, own_ext h4 hx, h5⟩
theorem RqW.lt (h : RqW g tb nb E w l ns a e) : g < w.heap.size := by
 obtain ⟨A, c, nv, h1, _⟩ := h
 exact h1.lt
theorem RqW.nlt (h : RqW g tb nb E w l ns a e) : ∀ k, nb = some k → k < w.heap.size := by
 obtain ⟨A, c, nv, _, _, _, h4, h5, _⟩ := h
 intro k hk
 exact (h4.lt k (by rw [h5, hk])).2
theorem RqO.any (h : RqO g tb nb E w X) : ∃ l ns a e, RqB E l ns ∧ RqW g tb nb E w l ns a e ∧ (∀ st, X = .ok st → l = st.left ∧ ns = st.names ∧ e = 0) ∧ (∀ x, X = .error x → a = x.2 ∧ e = x.1 ∧ x.1 ≠ 0) := by
 rcases X with x | st
 ·obtain ⟨h0, l, ns, hb, h⟩ := h
  exact ⟨l, ns, _, _, hb, h, fun st h => (by cases h), fun y hy => by injection hy with hy; subst hy; exact ⟨rfl, rfl, h0⟩⟩
 ·obtain ⟨hb, hf, a, h⟩ := h
  exact ⟨_, _, a, _, hb, h, fun st' hs => by injection hs with hs; subst hs; exact ⟨rfl, rfl, rfl⟩, fun x h => (by cases h)⟩
theorem RqO.ext (h : RqO g tb nb E w X) (hx : Ext w w') : RqO g tb nb E w' X := by
 rcases X with x | st
 ·obtain ⟨h0, l, ns, hb, h⟩ := h
  exact ⟨h0, l, ns, hb, h.ext hx⟩
 ·obtain ⟨hb, hf, a, h⟩ := h
  exact ⟨hb, hf, a, h.ext hx⟩
theorem RqO.lt (h : RqO g tb nb E w X) : g < w.heap.size := by
 obtain ⟨_, _, _, _, _, h, _⟩ := h.any
 exact h.lt
theorem RqO.nlt (h : RqO g tb nb E w X) : ∀ k, nb = some k → k < w.heap.size := by
 obtain ⟨_, _, _, _, _, h, _⟩ := h.any
 exact h.nlt
theorem RqO.refl (h : RqO g tb nb E w X) : RqS g tb nb w E X w := ⟨Exc.refl _ _, nb, h, .inl rfl⟩
theorem RqS.step (h1 : Exc (qB g nb0) w0 w) (h3 : nb = nb0 ∨ ∀ k, nb = some k → w0.heap.size ≤ k) (k : RqS g tb nb w E X' w') : RqS g tb nb0 w0 E X' w' := by
 obtain ⟨k1, g', k2, k3⟩ := k
 refine ⟨⟨k1.os.trans h1.os, k1.tape.trans h1.tape, k1.output.trans h1.output, Nat.le_trans h1.size k1.size, fun j hj hS => ?_⟩, g', k2, ?_⟩
 ·refine (k1.block j (Nat.lt_of_lt_of_le hj h1.size) fun hq => ?_).trans (h1.block j hj hS)
  rcases hq with hq | hq
  ·exact hS (.inl hq)
  ·rcases h3 with h3 | h3
   ·exact hS (.inr (by rw [hq, h3]))
   ·exact absurd (h3 j hq.symm) (by omega)
 ·rcases k3 with k3 | k3
  ·rcases h3 with h3 | h3
   ·exact .inl (k3.trans h3)
   ·exact .inr fun j hj => h3 j (by rw [← k3]; exact hj)
  ·exact .inr fun j hj => Nat.le_trans h1.size (k3 j hj)
theorem RqS.ext (h : RqS g tb nb0 w0 E X w) (hx : Ext w w') : RqS g tb nb0 w0 E X w' := by
 obtain ⟨h1, nb, h2, h3⟩ := h
 exact ⟨h1.trans (Exc.of_ext hx), nb, h2.ext hx, h3⟩
theorem RqS.back (hx : Ext w0 w) (h : RqS g tb nb w E X w') : RqS g tb nb w0 E X w' := RqS.step (Exc.of_ext hx) (.inl rfl) h
theorem own_excQ {S : Nat → Prop} {B : Nat} {e : TypeId} {size : Nat} {v : Value} {n : Nat} {xs : List Value} (h : w.ownsRow B e size v n xs) (hw : Exc S w w') (hS : ∀ k, v.ownBlock = some k → ¬ S k) : w'.ownsRow B e size v n xs := by
 obtain ⟨h1, h2⟩ := h
 refine ⟨h1, ?_⟩
 rcases h2 with h2 | ⟨g, cap, cur, hv, hb, hg, r⟩
 ·exact .inl h2
 ·exact .inr ⟨g, cap, cur, hv, hb, (hw.block g (Array.getElem?_eq_some_iff.1 hg).1 (hS g (by rw [hv]; rfl))).trans hg, r⟩
theorem at_q43 {T : TypeId} {a0 a1 a2 a3 a4 b3 b4 : Value} (h : AtC T w g #[a0, a1, a2, a3, a4]) : AtC T ((w.setCell ⟨g, 4, none⟩ b4).setCell ⟨g, 3, none⟩ b3) g #[a0, a1, a2, b3, b4] := by
 unfold AtC at h ⊢
 simp only [World.setCell, Array.getElem?_modify, if_true, h]
 rfl
theorem at_q0 {T : TypeId} {a0 a1 a2 a3 a4 b0 : Value} (h : AtC T w g #[a0, a1, a2, a3, a4]) : AtC T (w.setCell ⟨g, 0, none⟩ b0) g #[b0, a1, a2, a3, a4] := by
 unfold AtC at h ⊢
 simp only [World.setCell, Array.getElem?_modify, if_true, h]
 rfl
theorem at_q2 {T : TypeId} {a0 a1 a2 a3 a4 b2 : Value} (h : AtC T w g #[a0, a1, a2, a3, a4]) : AtC T (w.setCell ⟨g, 2, none⟩ b2) g #[a0, a1, b2, a3, a4] := by
 unfold AtC at h ⊢
 simp only [World.setCell, Array.getElem?_modify, if_true, h]
 rfl
theorem exc_q (o : Nat) (v : Value) : Exc (fun k => k = g) w (w.setCell ⟨g, o, none⟩ v) := Exc.setCell (S := fun k => k = g) (p := ⟨g, o, none⟩) rfl v
theorem excMono {S T : Nat → Prop} (h : Exc S w w') (hs : ∀ k, S k → T k) : Exc T w w' := ⟨h.os, h.tape, h.output, h.size, fun k hk ht => h.block k hk fun e => ht (hs k e)⟩
theorem RqW.err (h : RqW g tb nb E w l ns a e) (a' e' : Int) : RqW g tb nb E ((w.setCell ⟨g, 4, none⟩ (.int .i64 e')).setCell ⟨g, 3, none⟩ (.int .i64 a')) l ns a' e' := by
 obtain ⟨A, c, nv, h1, h2, h3, h4, h5, h6⟩ := h
 have hx : Exc (fun k => k = g) w ((w.setCell ⟨g, 4, none⟩ (.int .i64 e')).setCell ⟨g, 3, none⟩ (.int .i64 a')) := (exc_q _ _).trans (exc_q _ _)
 refine ⟨A, c, nv, at_q43 h1, h2.exc0 hx (fun h0 ad hA => ?_), h3, own_excQ h4 hx (fun k hk e0 => h6 (by rw [← h5, hk, e0])), h5, h6⟩
 obtain ⟨_, b, o, e1, _, e2, _⟩ := h3 h0
 rw [hA] at e1
 injection e1 with e1
 rw [e1]
 exact e2
theorem RqW.left {l' : List Tok} {A' : Option Addr} {c' : Nat} (h : RqW g tb nb E w l ns a e) (hl : SlN w A' l'.length 4 (l'.flatMap tokC)) (hA : 0 < l'.length → l'.length ≤ c' ∧ ∃ b o, A' = some ⟨b, o, none⟩ ∧ b = tb ∧ b ≠ g ∧ nb ≠ some b) :
 RqW g tb nb E (w.setCell ⟨g, 0, none⟩ (.slice A' l'.length c')) l' ns a e := by
 obtain ⟨A, c, nv, h1, h2, h3, h4, h5, h6⟩ := h
 have hx : Exc (fun k => k = g) w (w.setCell ⟨g, 0, none⟩ (.slice A' l'.length c')) := exc_q _ _
 refine ⟨A', c', nv, at_q0 h1, hl.exc0 hx (fun h0 ad hA' => ?_), hA, own_excQ h4 hx (fun k hk e0 => h6 (by rw [← h5, hk, e0])), h5, h6⟩
 obtain ⟨_, b, o, e1, _, e2, _⟩ := hA h0
 rw [hA'] at e1
 injection e1 with e1
 rw [e1]
 exact e2
end
theorem tokF0 (k : Int) (s : ByteArray) (a b : Int) (W : World) : (Instr.field 137 (.agg #[.int .i64 k, .string s, .int .i64 a, .int .i64 b]) 0).run Tryz.prog W = .ok (.int .i64 k) W := by kernel_rfl
theorem tokF1 (k : Int) (s : ByteArray) (a b : Int) (W : World) : (Instr.field 137 (.agg #[.int .i64 k, .string s, .int .i64 a, .int .i64 b]) 1).run Tryz.prog W = .ok (.string s) W := by kernel_rfl
theorem tokF2 (k : Int) (s : ByteArray) (a b : Int) (W : World) : (Instr.field 137 (.agg #[.int .i64 k, .string s, .int .i64 a, .int .i64 b]) 2).run Tryz.prog W = .ok (.int .i64 a) W := by kernel_rfl
def tokV (t : Tok) : Value := .agg #[.int .i64 t.k, .string ⟨t.t.toArray⟩, .int .i64 t.a, .int .i64 t.b]
set_option maxHeartbeats 2000000 in
theorem rpeek_any {g tb E : Nat} {nb : Option Nat} {w : World} {l : List Tok} {ns : List By} {a e : Int} (h : RqW g tb nb E w l ns a e) (hl : l.length ≤ 4001) (hE : E ≤ 4000) :
 Calls Tryz.prog 114 #[.pointer (some ⟨g, 0, none⟩)] w fun e w' => e = .returned (tokV (hdT E l)) ∧ Ext w w' := by
 obtain ⟨A, c, nv, h1, h2, h3, _⟩ := h
 have hx := (Ext.refl w).alloc (.cells #[.int .i64 0, .string ⟨#[]⟩, .int .i64 0, .int .i64 0] 137)
 have HX := hid hx
 have HB := hid (AtC.new w #[.int .i64 0, .string ⟨#[]⟩, .int .i64 0, .int .i64 0] : AtC 137 _ _ _)
 have p0 := (h1.ext hx).cell 0 _ rfl
 have p1 := (h1.ext hx).cell 1 _ rfl
 cases l with
 | nil =>
   have f0 := frz_of HB.out 0
   have f1 := frz_of HB.out 1
   have f2 := frz_of HB.out 2
   have f3 := frz_of HB.out 3
   clear h1 h2 h3 hx
   unfold hdT tokV
   go_enter Tryz.func114, Tryz.ntmps114
   go_wp2_with fail
   go_region_law (fail)
   all_goals go_wp2
   all_goals
    refine bodyPost_ret (results_cell_row rfl _ _ w.heap.size 137 _ (0, 0) _ rfl (heap_alloc_new w _) Tryz.underlying137 rfl (by kernel_rfl)) rfl ?_
    exact ⟨rfl, ((Ext.refl w).alloc _).drew⟩
 | cons t r =>
   obtain ⟨hc, b, o, rfl, hbt, hbg, _⟩ := h3 (Nat.succ_pos _)
   clear hbt
   have hk : ∀ j u, (tokC t)[j]? = some u → w.cell? ⟨b, o + j, none⟩ = some u := by
    intro j u hu
    obtain ⟨b', o', e1, _, hcell⟩ := h2.2 j u (by rw [List.flatMap_cons, List.getElem?_append_left (List.getElem?_eq_some_iff.1 hu).1]; exact hu)
    injection e1 with e1
    injection e1 with e2 e3
    subst e2 e3
    exact hcell
   have hbl : b < w.heap.size := World.block_lt_of_cell? _ _ (hk 0 _ rfl)
   have t0 := (Ext.cell (p := ⟨b, o + 0, none⟩) hx hbl).trans (hk 0 _ rfl)
   have t1 := (Ext.cell (p := ⟨b, o + 1, none⟩) hx hbl).trans (hk 1 _ rfl)
   have t2 := (Ext.cell (p := ⟨b, o + 2, none⟩) hx hbl).trans (hk 2 _ rfl)
   have t3 := (Ext.cell (p := ⟨b, o + 3, none⟩) hx hbl).trans (hk 3 _ rfl)
   rw [Nat.add_zero] at t0
   have hlI : ¬ ((r.length : Int) + 1 = 0) := by omega
   have hlb : (((t :: r).length : Int) == 0) = false := by rw [beq_eq_false_iff_ne]; simp only [List.length_cons]; omega
   have h0l : (0 : Int) < ((t :: r).length : Int) := by simp only [List.length_cons]; omega
   clear h1 h2 h3 hx hk
   unfold hdT tokV
   generalize (t :: r).length = n at *
   go_enter Tryz.func114, Tryz.ntmps114
   go_wp2_with fail
   refine bodyPost_ret (results_cell_row rfl _ _ w.heap.size 137 _ (0, 0) _ rfl (heap_alloc_new w _) Tryz.underlying137 rfl (by kernel_rfl)) rfl ?_
   exact ⟨rfl, (Ext.refl w).alloc _⟩
set_option maxHeartbeats 2000000 in
theorem rfail_any {g tb E : Nat} {nb : Option Nat} {w : World} {X : Except Err St} (code : Int) (h0 : code ≠ 0) (h : RqO g tb nb E w X) :
 Calls Tryz.prog 79 #[.pointer (some ⟨g, 0, none⟩), .int .i64 code] w fun e w' => e = .returned (.tuple #[]) ∧ RqS g tb nb w E (X.bind fun st => .error (code, plE E st.left)) w' := by
 rcases X with ⟨er, ae⟩ | st
 ·have HO := hid h
  obtain ⟨he, l, ns, hb, A, c, nv, h1, _⟩ := h
  have c4 := h1.cell 4 _ rfl
  have b1 : (er == 0) = false := by rw [beq_eq_false_iff_ne]; exact he
  clear h1 hb he
  go_enter Tryz.func79, Tryz.ntmps79
  go_wp2
  go_end0
  exact ⟨rfl, HO.out.refl⟩
 ·obtain ⟨hb, hf, a, hw⟩ := h
  have HB := hid hb
  have HW := hid hw
  have HLT := hid hw.lt
  have K := hid (rpeek_any hw hb.len hb.e4)
  obtain ⟨A, c, nv, h1, _⟩ := hw
  have c4 := h1.cell 4 _ rfl
  have H1 := hid h1
  have H0 := hid h0
  unfold tokV at K
  have HAA := hid (hdT_a E st.left)
  generalize hdT E st.left = T at K HAA
  have hfd := tokF2
  clear hb hf h1 h0
  go_enter Tryz.func79, Tryz.ntmps79
  go_wp2_with fail
  refine K.out.mono ?_
  rintro e w2 ⟨rfl, hx2⟩
  have HX2 := hid hx2
  have f4 := frz_of (H1.out.ext hx2) 4
  have f3 := frz_of (H1.out.ext hx2) 3
  have d4 := (H1.out.ext hx2).cell 4 _ rfl
  have d3 := (H1.out.ext hx2).cell 3 _ rfl
  clear hx2 K
  go_wp2
  go_end0
  have hn : nb ≠ some g := by
   obtain ⟨_, _, _, _, _, _, _, _, h6⟩ := HW.out
   exact h6
  refine ⟨rfl, (Exc.of_ext HX2.out).trans (excMono ((exc_q _ _).trans (exc_q _ _)) (fun k hk => .inl hk)), nb, ⟨H0.out, _, _, HB.out, ?_⟩, .inl rfl⟩
  have h := (HW.out.ext HX2.out).err (T.a : Int) code
  rw [show (code, plE E st.left).2 = T.a from HAA.out.symm]
  exact h
end Go.Proofs.YtpfmojeigjmlfaaGreatDoor
namespace Go.Proofs.YtpfmojeigjmlfaaGreatDoor
open Go.RowKit
def errQ : Except Err St → Int
 | .ok _ => 0
 | .error x => x.1
theorem RqO.cell4 {g tb E : Nat} {nb : Option Nat} {w : World} {X : Except Err St} (h : RqO g tb nb E w X) : w.cell? ⟨g, 4, none⟩ = some (.int .i64 (errQ X)) := by
 rcases X with x | st
 ·obtain ⟨_, _, _, _, A, c, nv, h1, _⟩ := h
  exact h1.cell 4 _ rfl
 ·obtain ⟨_, _, _, A, c, nv, h1, _⟩ := h
  exact h1.cell 4 _ rfl
theorem RqO.ne {g tb E : Nat} {nb : Option Nat} {w : World} {x : Err} (h : RqO g tb nb E w (.error x)) : x.1 ≠ 0 := h.1
theorem RqB.tail {E : Nat} {t : Tok} {r : List Tok} {ns : List By} (h : RqB E (t :: r) ns) : RqB E r ns := ⟨h.e4, by have := h.len; rw [List.length_cons] at this; omega, fun u hu => h.tok u (List.mem_cons_of_mem _ hu), h.few⟩
set_option maxHeartbeats 4000000 in
theorem rtake_any {g tb E : Nat} {nb : Option Nat} {w : World} {X : Except Err St} (k : Nat) (h0 : k ≠ 0) (h : RqO g tb nb E w X) :
 Calls Tryz.prog 116 #[.pointer (some ⟨g, 0, none⟩), .int .i64 k] w fun e w' => e = .returned (.string (takeS k X)) ∧ RqS g tb nb w E (X.bind (takeX E k)) w' := by
 obtain ⟨l, ns, a, er, hb, hw, hok, herr⟩ := h.any
 have K1 := hid (rpeek_any hw hb.len hb.e4)
 have HO := hid h
 have HLT := hid h.lt
 obtain ⟨T, hT⟩ : ∃ T, T = hdT E l := ⟨_, rfl⟩
 rw [← hT] at K1
 unfold tokV at K1
 have KF := hid (fun W (hx : Ext w W) => rfail_any (X := X) 3 (by decide) (h.ext hx))
 have hTk : T.k = kindL l := by rw [hT, hdT_k]
 by_cases hk : T.k = k ∧ ∃ st, X = .ok st
 ·obtain ⟨hk1, st, rfl⟩ := hk
  obtain ⟨rfl, rfl, rfl⟩ := hok st rfl
  obtain ⟨left, names⟩ := st
  cases left with
  | nil => rw [hTk] at hk1; exact absurd hk1.symm h0
  | cons t r =>
    have hTt : T = t := hT
    subst hTt
    have HTK := hid (show takeS k (.ok ⟨T :: r, names⟩) = ⟨T.t.toArray⟩ from by show (if T.k = k then (⟨T.t.toArray⟩ : ByteArray) else ⟨#[]⟩) = _; rw [if_pos hk1])
    have HTX := hid (show (Except.ok ⟨T :: r, names⟩ : Except Err St).bind (takeX E k) = .ok ⟨r, names⟩ from by
     show Except.map _ (if T.k = k then .ok (T.t, r) else .error (3, T.a)) = _
     rw [if_pos hk1]
     rfl)
    rw [HTK.out, HTX.out]
    have b1 : ((T.k : Int) != (k : Int)) = false := by rw [hk1]; exact bne_self_eq_false _
    have HW := hid hw
    have HBB := hid hb
    obtain ⟨A, c, nv, h1, h2, h3, h4, h5, h6⟩ := hw
    obtain ⟨hc, b, o, rfl, hbt, hbg, hnb⟩ := h3 (Nat.succ_pos _)
    have hc1 : r.length + 1 ≤ c := hc
    have H1 := hid h1
    have HSR := hid (show SlN w (some ⟨b, o + 4, none⟩) r.length 4 (r.flatMap tokC) from by
     refine ⟨?_, fun j u hu => ?_⟩
     ·have := h2.1
      rw [List.flatMap_cons, List.length_append, tokC_len, List.length_cons] at this
      omega
     ·obtain ⟨b', o', e1, hb', hcell⟩ := h2.2 (4 + j) u (by rw [List.flatMap_cons, List.getElem?_append_right (by rw [tokC_len]; omega), tokC_len, Nat.add_sub_cancel_left]; exact hu)
      injection e1 with e1
      injection e1 with e2 e3
      subst e2 e3
      exact ⟨b, o + 4, rfl, hb', by rw [Nat.add_assoc]; exact hcell⟩)
    have HNB := hid (And.intro hbt (And.intro hbg hnb))
    clear hbt
    have HF := hid (show names.length ≤ 20 from h.2.1)
    have H6 := hid h6
    clear h h1 h2 h3 h4 h5 hok herr hT hTk hk1 hb h0
    go_enter Tryz.func116, Tryz.ntmps116
    go_wp2_with fail
    refine K1.out.mono ?_
    rintro e w2 ⟨rfl, hx2⟩
    obtain ⟨w3, hw3⟩ : ∃ w3, w3 = w2.alloc (.cells #[.int .i64 T.k, .string ⟨T.t.toArray⟩, .int .i64 T.a, .int .i64 T.b] 137) := ⟨_, rfl⟩
    have hx3 : Ext w w3 := by rw [hw3]; exact hx2.alloc _
    have HX3 := hid hx3
    have HBX := hid (show AtC 137 w3 w2.heap.size #[.int .i64 T.k, .string ⟨T.t.toArray⟩, .int .i64 T.a, .int .i64 T.b] from by rw [hw3]; exact AtC.new w2 _)
    have HSZ := hid (show w2.heap.size ≠ g from by have := HLT.out; have := hx2.size; omega)
    have d0 := (H1.out.ext hx3).cell 0 _ rfl
    have d4 := (H1.out.ext hx3).cell 4 _ rfl
    have f0 := frz_of (H1.out.ext hx3) 0
    have x0 := HBX.out.cell 0 _ rfl
    clear hx2 hx3 K1
    go_upto_region 2 with (fail)
    rw [← hw3]
    clear hw3
    have h1I : (1 : Int) ≤ (r.length : Int) + 1 := by omega
    have h1J : (1 : Int) ≤ (c : Int) := by omega
    have h1K : (r.length : Int) + 1 ≤ (c : Int) := by omega
    by_cases hc2 : c = 1
    ·subst hc2
     have hr0 : r = [] := List.eq_nil_of_length_eq_zero (by omega)
     subst hr0
     have y1 := (HBX.out.exc (exc_q (g := g) 0 (.slice (some ⟨b, o, none⟩) 0 0)) HSZ.out).cell 1 _ rfl
     clear hc hc1 h1K h1I h1J
     go_wp2
     go_ret
     refine ⟨rfl, (Exc.of_ext HX3.out).trans (excMono (exc_q 0 _) (fun k hk => .inl hk)), nb, ⟨HBB.out.tail, HF.out, a, ?_⟩, .inl rfl⟩
     exact (HW.out.ext HX3.out).left (l' := []) (SlN.nil _ _ _) (fun h => absurd h (Nat.lt_irrefl _))
    ·have hc3 : ¬ c = 1 := hc2
     have y1 := (HBX.out.exc (exc_q (g := g) 0 (.slice (some ⟨b, o + 4, none⟩) r.length (c - 1))) HSZ.out).cell 1 _ rfl
     have HC := hid (show r.length ≤ c - 1 from by omega)
     clear hc hc1
     go_wp2
     go_ret
     refine ⟨rfl, (Exc.of_ext HX3.out).trans (excMono (exc_q 0 _) (fun k hk => .inl hk)), nb, ⟨HBB.out.tail, HF.out, a, ?_⟩, .inl rfl⟩
     exact (HW.out.ext HX3.out).left (HSR.out.ext HX3.out) (fun h => ⟨HC.out, b, o + 4, rfl, HNB.out⟩)
 ·have hbad : takeS k X = ⟨#[]⟩ ∧ ((∃ x, X = .error x) ∨ (X.bind (takeX E k) = X.bind (fun st => .error (3, plE E st.left)) ∧ ¬ T.k = k)) := by
   rcases X with x | st
   ·exact ⟨rfl, .inl ⟨x, rfl⟩⟩
   ·obtain ⟨rfl, rfl, rfl⟩ := hok st rfl
    have hne : ¬ kindX (.ok st) = k := fun e => hk ⟨by rw [hTk]; exact e, st, rfl⟩
    obtain ⟨e1, e2⟩ := take_not (E := E) h0 hne
    exact ⟨e2, .inr ⟨e1, fun e => hne (by rw [hTk] at e; exact e)⟩⟩
  rw [hbad.1]
  by_cases hkk : T.k = k
  ·obtain ⟨x, rfl⟩ : ∃ x, X = .error x := by
    rcases hbad.2 with h | h
    ·exact h
    ·exact absurd hkk h.2
   have b1 : ((T.k : Int) != (k : Int)) = false := by rw [hkk]; exact bne_self_eq_false _
   have hne := h.ne
   have b2 : (x.1 != 0) = true := by rw [bne_iff_ne]; exact hne
   have HC4 := hid (fun W (hx : Ext w W) => (h.ext hx).cell4)
   clear hbad hk hok herr hw hT hTk h hkk hne hb KF
   go_enter Tryz.func116, Tryz.ntmps116
   go_wp2_with fail
   refine K1.out.mono ?_
   rintro e w2 ⟨rfl, hx2⟩
   have HX3 := hid (hx2.alloc (.cells #[.int .i64 T.k, .string ⟨T.t.toArray⟩, .int .i64 T.a, .int .i64 T.b] 137))
   have d4 : _ = some (Value.int .i64 x.1) := HC4.out _ HX3.out
   clear hx2 K1
   go_wp2
   go_ret
   exact ⟨rfl, RqS.ext (HO.out.refl) HX3.out⟩
  ·have b1 : ((T.k : Int) != (k : Int)) = true := by rw [bne_iff_ne]; omega
   obtain ⟨X', hX', hX2⟩ : ∃ x : Err, X.bind (fun st => .error (3, plE E st.left)) = .error x ∧ X.bind (takeX E k) = .error x := by
    rcases hbad.2 with ⟨x, rfl⟩ | ⟨h1, _⟩
    ·exact ⟨x, rfl, rfl⟩
    ·rcases X with x | st
     ·exact ⟨x, rfl, rfl⟩
     ·exact ⟨_, rfl, h1⟩
   rw [hX'] at KF
   rw [hX2]
   clear hbad hk hok herr hw hT hTk h hkk hX' hX2 hb HO h0
   go_enter Tryz.func116, Tryz.ntmps116
   go_wp2_with fail
   refine K1.out.mono ?_
   rintro e w2 ⟨rfl, hx2⟩
   have HX3 := hid (hx2.alloc (.cells #[.int .i64 T.k, .string ⟨T.t.toArray⟩, .int .i64 T.a, .int .i64 T.b] 137))
   clear hx2 K1
   go_wp2_with fail
   refine (KF.out _ HX3.out).mono ?_
   rintro e w4 ⟨rfl, hs4⟩
   have HS4 := hid (RqS.back HX3.out hs4)
   obtain ⟨_, nb4, ho4, _⟩ := hs4
   have d4 : w4.cell? ⟨g, 4, none⟩ = some (Value.int .i64 X'.1) := ho4.cell4
   have b2 : (X'.1 != 0) = true := by rw [bne_iff_ne]; exact ho4.ne
   clear ho4 KF
   go_wp2
   go_ret
   exact ⟨rfl, HS4.out⟩
end Go.Proofs.YtpfmojeigjmlfaaGreatDoor
namespace Go.Proofs.YtpfmojeigjmlfaaGreatDoor
open Go.RowKit
set_option maxHeartbeats 2000000 in
theorem rword_any {g tb E : Nat} {nb : Option Nat} {w : World} {X : Except Err St} (P : By → Bool) (b : Bool) (h : RqO g tb nb E w X) (hP : ∀ t r ns, X = .ok ⟨t :: r, ns⟩ → t.k = 9 → b = P t.t) :
 Calls Tryz.prog 159 #[.pointer (some ⟨g, 0, none⟩), .bool b] w fun e w' => e = .returned (.string (wrdS P X)) ∧ RqS g tb nb w E (X.bind (wrdX E P)) w' := by
 obtain ⟨l, ns, a, er, hb, hw, hok, herr⟩ := h.any
 have K1 := hid (rpeek_any hw hb.len hb.e4)
 have hTk : (hdT E l).k = kindL l := hdT_k E l
 generalize hdT E l = T at K1 hTk
 unfold tokV at K1
 have hfd := tokF0
 by_cases hfit : T.k = 9 ∧ b = true
 ·obtain ⟨h9, rfl⟩ := hfit
  have hq : takeS 9 X = wrdS P X ∧ X.bind (takeX E 9) = X.bind (wrdX E P) := by
   rcases X with x | ⟨_ | ⟨t, r⟩, ns'⟩
   ·exact ⟨rfl, rfl⟩
   ·obtain ⟨rfl, _, _⟩ := hok _ rfl
    rw [hTk] at h9
    have h9 : (0 : Nat) = 9 := h9
    omega
   ·obtain ⟨rfl, _, _⟩ := hok _ rfl
    have hk : t.k = 9 := by rw [hTk] at h9; exact h9
    obtain ⟨e1, e2⟩ := wrd_fit (E := E) (r := r) (ns := ns') hk (hP t r ns' rfl hk).symm
    exact ⟨e2.symm, e1.symm⟩
  rw [← hq.1, ← hq.2]
  have K2 := hid (fun W (hx : Ext w W) => (show Calls Tryz.prog 116 #[.pointer (some ⟨g, 0, none⟩), .int .i64 9] W _ from rtake_any (X := X) 9 (by decide) (h.ext hx)))
  have b1 : ((T.k : Int) != 9) = false := by rw [h9]; rfl
  clear hq hok herr hw hb hTk h h9 hP
  go_enter Tryz.func159, Tryz.ntmps159
  go_wp2_with (first
   | (go_at_call 114; (with_reducible refine K1.out.mono ?_); rintro e w2 ⟨rfl, hx2⟩; have HX2 := hid hx2; clear hx2)
   | (go_at_call 116; (with_reducible refine (K2.out _ HX2.out).mono ?_); rintro e w3 ⟨rfl, hs3⟩; have HS3 := hid hs3; clear hs3))
  go_ret
  exact ⟨rfl, RqS.back HX2.out HS3.out⟩
 ·have hq : wrdS P X = ⟨#[]⟩ ∧ X.bind (wrdX E P) = X.bind (fun st => .error (3, plE E st.left)) := by
   rcases X with x | ⟨_ | ⟨t, r⟩, ns'⟩
   ·exact ⟨rfl, rfl⟩
   ·exact ⟨rfl, rfl⟩
   ·obtain ⟨rfl, _, _⟩ := hok _ rfl
    by_cases hk : t.k = 9
    ·have hbf : b = false := by
      cases b
      ·rfl
      ·exact absurd ⟨by rw [hTk]; exact hk, rfl⟩ hfit
     have hPf : P t.t = false := by rw [← hP t r ns' rfl hk]; exact hbf
     obtain ⟨e1, e2⟩ := wrd_unfit (E := E) (r := r) (ns := ns') hPf
     exact ⟨e2, e1⟩
    ·obtain ⟨e1, e2⟩ := wrd_not (E := E) (P := P) (X := .ok ⟨t :: r, ns'⟩) hk
     exact ⟨e2, e1⟩
  rw [hq.1, hq.2]
  obtain ⟨x, hx⟩ : ∃ x : Err, X.bind (fun st => .error (3, plE E st.left)) = .error x := by
   rcases X with x | st
   ·exact ⟨x, rfl⟩
   ·exact ⟨_, rfl⟩
  have K2 := hid (fun W (hx : Ext w W) => rfail_any (X := X) 3 (by decide) (h.ext hx))
  rw [hx] at K2 ⊢
  have K3 := hid (fun W nb' (h : RqO g tb nb' E W (.error x)) => rtake_any 9 (by decide) h)
  have HB := hid (show T.k = 9 → b = false from fun h9 => by
   cases b
   ·rfl
   ·exact absurd ⟨h9, rfl⟩ hfit)
  clear hq hok herr hw hb hTk h hP hfit hx
  by_cases h9 : T.k = 9
  ·obtain rfl : b = false := HB.out h9
   have b1 : ((T.k : Int) != 9) = false := by rw [h9]; rfl
   clear HB h9
   go_enter Tryz.func159, Tryz.ntmps159
   go_wp2_with (first | (go_at_call 114; (with_reducible refine K1.out.mono ?_); rintro e w2 ⟨rfl, hx2⟩; have HX2 := hid hx2; clear hx2))
   refine (K2.out _ HX2.out).mono ?_
   rintro e w3 ⟨rfl, hs3⟩
   obtain ⟨e3, nb3, ho3, n3⟩ := RqS.back HX2.out hs3
   have K4 := hid (K3.out w3 nb3 ho3)
   have HE3 := hid e3
   have HN3 := hid n3
   clear ho3 hs3 e3 n3 K2 K3 K1
   go_wp2_with fail
   refine K4.out.mono ?_
   rintro e w4 ⟨rfl, hs4⟩
   have HS4 := hid (RqS.step HE3.out HN3.out hs4)
   clear hs4
   go_wp2
   go_ret
   exact ⟨rfl, HS4.out⟩
  ·have b1 : ((T.k : Int) != 9) = true := by rw [bne_iff_ne]; omega
   clear HB h9
   go_enter Tryz.func159, Tryz.ntmps159
   go_wp2_with (first | (go_at_call 114; (with_reducible refine K1.out.mono ?_); rintro e w2 ⟨rfl, hx2⟩; have HX2 := hid hx2; clear hx2))
   refine (K2.out _ HX2.out).mono ?_
   rintro e w3 ⟨rfl, hs3⟩
   obtain ⟨e3, nb3, ho3, n3⟩ := RqS.back HX2.out hs3
   have K4 := hid (K3.out w3 nb3 ho3)
   have HE3 := hid e3
   have HN3 := hid n3
   clear ho3 hs3 e3 n3 K2 K3 K1
   go_wp2_with fail
   refine K4.out.mono ?_
   rintro e w4 ⟨rfl, hs4⟩
   have HS4 := hid (RqS.step HE3.out HN3.out hs4)
   clear hs4
   go_wp2
   go_ret
   exact ⟨rfl, HS4.out⟩
set_option maxHeartbeats 1000000 in
theorem rdeep_any {g tb E : Nat} {nb : Option Nat} {w : World} {X : Except Err St} (d : Nat) (h : RqO g tb nb E w X) (hd : d ≤ 100) :
 Calls Tryz.prog 117 #[.pointer (some ⟨g, 0, none⟩), .int .i64 d] w fun e w' => e = .returned (.tuple #[]) ∧ RqS g tb nb w E (X.bind (deepX E d)) w' := by
 by_cases h8 : 8 < d
 ·have K := hid (rfail_any (X := X) 6 (by decide) h)
  have hE : X.bind (deepX E d) = X.bind (fun st => .error (6, plE E st.left)) := by
   cases X with
   | error e => rfl
   | ok st => exact if_pos h8
  rw [hE]
  have hI : (8 : Int) < (d : Int) := by omega
  clear hE h
  go_enter Tryz.func117, Tryz.ntmps117
  go_wp2_with fail
  refine K.out.mono ?_
  rintro e w3 ⟨rfl, ho⟩
  have HO := hid ho
  clear ho
  go_wp2
  go_end0
  exact ⟨rfl, HO.out⟩
 ·have hE : X.bind (deepX E d) = X := by
   cases X with
   | error e => rfl
   | ok st => exact if_neg h8
  rw [hE]
  have hI : ¬ (8 : Int) < (d : Int) := by omega
  have HO := hid h
  clear hE h
  go_enter Tryz.func117, Tryz.ntmps117
  go_wp2
  go_end0
  exact ⟨rfl, HO.out.refl⟩
end Go.Proofs.YtpfmojeigjmlfaaGreatDoor
namespace Go.Proofs.YtpfmojeigjmlfaaGreatDoor
open Go.RowKit
set_option maxHeartbeats 2000000 in
theorem rfail_ok {g tb E : Nat} {nb : Option Nat} {w : World} {l : List Tok} {ns : List By} {a : Int} (code : Int) (hw : RqW g tb nb E w l ns a 0) (hb : RqB E l ns) :
 Calls Tryz.prog 79 #[.pointer (some ⟨g, 0, none⟩), .int .i64 code] w fun e w' => e = .returned (.tuple #[]) ∧ Exc (qB g nb) w w' ∧ RqW g tb nb E w' l ns (plE E l) code := by
 have HW := hid hw
 have K := hid (rpeek_any hw hb.len hb.e4)
 obtain ⟨A, c, nv, h1, _⟩ := hw
 have c4 := h1.cell 4 _ rfl
 have H1 := hid h1
 unfold tokV at K
 have HAA := hid (hdT_a E l)
 generalize hdT E l = T at K HAA
 have hfd := tokF2
 clear hb h1
 go_enter Tryz.func79, Tryz.ntmps79
 go_wp2_with fail
 refine K.out.mono ?_
 rintro e w2 ⟨rfl, hx2⟩
 have HX2 := hid hx2
 have f4 := frz_of (H1.out.ext hx2) 4
 have f3 := frz_of (H1.out.ext hx2) 3
 have d4 := (H1.out.ext hx2).cell 4 _ rfl
 have d3 := (H1.out.ext hx2).cell 3 _ rfl
 clear hx2 K
 go_wp2
 go_end0
 refine ⟨rfl, (Exc.of_ext HX2.out).trans (excMono ((exc_q _ _).trans (exc_q _ _)) (fun k hk => .inl hk)), ?_⟩
 rw [← HAA.out]
 exact (HW.out.ext HX2.out).err (T.a : Int) code
theorem RqW.named {g tb E : Nat} {nb : Option Nat} {w w1 w' : World} {l : List Tok} {ns : List By} {a e : Int} {s : ByteArray} {A : Option Addr} {c : Nat} {nv v' : Value} (h1 : AtC 102 w g #[.slice A l.length c, .int .i64 E, nv, .int .i64 a, .int .i64 e])
 (h2 : SlN w A l.length 4 (l.flatMap tokC)) (h3 : 0 < l.length → l.length ≤ c ∧ ∃ b o, A = some ⟨b, o, none⟩ ∧ b = tb ∧ b ≠ g ∧ nb ≠ some b) (h4 : w.ownsRow 0 9 1 nv ns.length (strC ns)) (h5 : nv.ownBlock = nb) (h6 : nb ≠ some g)
 (hx : Ext w w1) (hg : w1.grownBy w' nv.ownBlock) (ho : w'.ownsRow 0 9 1 v' (ns.length + 1) (strC ns ++ [.string s])) (hwh : v'.ownBlock = nv.ownBlock ∨ ∀ b, v'.ownBlock = some b → w1.heap.size ≤ b) :
 RqW g tb v'.ownBlock E (w'.setCell ⟨g, 2, none⟩ v') l (ns ++ [s.data.toList]) a e ∧ Exc (qB g nb) w (w'.setCell ⟨g, 2, none⟩ v') ∧ (v'.ownBlock = nb ∨ ∀ k, v'.ownBlock = some k → w.heap.size ≤ k) := by
 have hgx : Exc (fun k => some k = nb) w1 w' := ⟨hg.os, hg.tape, hg.output, hg.size, fun k hk hS => hg.block k hk (fun e0 => hS (by rw [e0, h5]))⟩
 have hlt := h1.lt
 have hsz := hx.size
 have hat : AtC 102 w' g #[.slice A l.length c, .int .i64 E, nv, .int .i64 a, .int .i64 e] := (h1.ext hx).exc hgx (fun e0 => h6 e0.symm)
 have hvg : v'.ownBlock ≠ some g := by
  rcases hwh with h | h
  ·rw [h, h5]; exact h6
  ·intro e0
   have := h g e0
   omega
 have hx2 : Exc (fun k => k = g) w' (w'.setCell ⟨g, 2, none⟩ v') := exc_q _ _
 refine ⟨⟨A, c, v', at_q2 hat, ?_, fun h0 => ?_, ?_, rfl, hvg⟩, ?_, ?_⟩
 ·refine ((h2.ext hx).exc0 hgx fun h0 ad hA => ?_).exc0 hx2 fun h0 ad hA => ?_
  ·obtain ⟨_, b, o, e1, _, _, e3⟩ := h3 h0
   rw [hA] at e1
   injection e1 with e1
   rw [e1]
   exact fun e0 => e3 e0.symm
  ·obtain ⟨_, b, o, e1, _, e2, _⟩ := h3 h0
   rw [hA] at e1
   injection e1 with e1
   rw [e1]
   exact e2
 ·obtain ⟨hc, b, o, e1, eT, e2, e3⟩ := h3 h0
  refine ⟨hc, b, o, e1, eT, e2, ?_⟩
  rcases hwh with h | h
  ·rw [h, h5]; exact e3
  ·intro e0
   have h7 := h b e0
   have h8 := h2.inside (by decide) h0 _ e1
   have h9 : b < w.heap.size := h8
   omega
 ·have e1 : (ns ++ [s.data.toList]).length = ns.length + 1 := by simp
  have e2 : strC (ns ++ [s.data.toList]) = strC ns ++ [.string s] := by unfold strC; simp
  rw [e1, e2]
  exact own_excQ ho hx2 (fun k hk e0 => hvg (by rw [hk, e0]))
 ·refine ((Exc.of_ext hx).trans (excMono hgx fun k hk => .inr hk)).trans (excMono hx2 fun k hk => .inl hk)
 ·rcases hwh with h | h
  ·exact .inl (h.trans h5)
  ·exact .inr fun k hk => Nat.le_trans hsz (h k hk)
theorem at_grownQ {T : TypeId} {g : Nat} {w w1 w' : World} {cs : Array Value} {row : Option Nat} (h1 : AtC T w g cs) (h6 : row ≠ some g) (hx : Ext w w1) (hg : w1.grownBy w' row) : AtC T w' g cs := (hg.block g (h1.ext hx).lt (fun e => h6 e.symm)).trans (h1.ext hx)
theorem namX_ok {E : Nat} {t : Tok} {r : List Tok} {ns : List By} (hk : t.k = 9) (hn : nameB t.t = true) :
 (t.t ∈ ns → namS E (.ok ⟨t :: r, ns⟩) = ⟨t.t.toArray⟩ ∧ (Except.ok ⟨t :: r, ns⟩ : Except Err St).bind (namX E) = .ok ⟨r, ns⟩) ∧
 (t.t ∉ ns → 20 ≤ ns.length → namS E (.ok ⟨t :: r, ns⟩) = ⟨#[]⟩ ∧ (Except.ok ⟨t :: r, ns⟩ : Except Err St).bind (namX E) = .error (6, t.a)) ∧
 (t.t ∉ ns → ¬ 20 ≤ ns.length → namS E (.ok ⟨t :: r, ns⟩) = ⟨t.t.toArray⟩ ∧ (Except.ok ⟨t :: r, ns⟩ : Except Err St).bind (namX E) = .ok ⟨r, ns ++ [t.t]⟩) := by
 refine ⟨fun hin => ?_, fun hin h20 => ?_, fun hin h20 => ?_⟩
 ·have e5 : namP E ⟨t :: r, ns⟩ = .ok (t.t, ⟨r, ns⟩) := (if_pos ⟨hk, hn⟩).trans (if_pos hin)
  refine ⟨?_, ?_⟩
  ·show (match namP E ⟨t :: r, ns⟩ with | .ok y => (⟨y.1.toArray⟩ : ByteArray) | .error _ => ⟨#[]⟩) = _
   rw [e5]
  ·show Except.map _ (namP E ⟨t :: r, ns⟩) = _
   rw [e5]; rfl
 ·have e5 : namP E ⟨t :: r, ns⟩ = .error (6, t.a) := (if_pos ⟨hk, hn⟩).trans ((if_neg hin).trans (if_pos h20))
  refine ⟨?_, ?_⟩
  ·show (match namP E ⟨t :: r, ns⟩ with | .ok y => (⟨y.1.toArray⟩ : ByteArray) | .error _ => ⟨#[]⟩) = _
   rw [e5]
  ·show Except.map _ (namP E ⟨t :: r, ns⟩) = _
   rw [e5]; rfl
 ·have e5 : namP E ⟨t :: r, ns⟩ = .ok (t.t, ⟨r, ns ++ [t.t]⟩) := (if_pos ⟨hk, hn⟩).trans ((if_neg hin).trans (if_neg h20))
  refine ⟨?_, ?_⟩
  ·show (match namP E ⟨t :: r, ns⟩ with | .ok y => (⟨y.1.toArray⟩ : ByteArray) | .error _ => ⟨#[]⟩) = _
   rw [e5]
  ·show Except.map _ (namP E ⟨t :: r, ns⟩) = _
   rw [e5]; rfl
theorem RqB.more {E : Nat} {l : List Tok} {ns : List By} (h : RqB E l ns) (s : By) (hn : ns.length ≤ 20) : RqB E l (ns ++ [s]) := ⟨h.e4, h.len, h.tok, by rw [List.length_append]; show ns.length + 1 ≤ 30; omega⟩
theorem wrd_ok {E : Nat} {P : By → Bool} {t : Tok} {r : List Tok} {ns : List By} (hk : t.k = 9) (h : P t.t = true) : (Except.ok ⟨t :: r, ns⟩ : Except Err St).bind (wrdX E P) = .ok ⟨r, ns⟩ ∧ wrdS P (.ok ⟨t :: r, ns⟩) = ⟨t.t.toArray⟩ := by
 refine ⟨?_, ?_⟩
 ·show Except.map _ (if t.k = 9 ∧ P t.t = true then .ok (t.t, r) else .error (3, t.a)) = _
  rw [if_pos ⟨hk, h⟩]
  rfl
 ·show (if t.k = 9 ∧ P t.t = true then (⟨t.t.toArray⟩ : ByteArray) else ⟨#[]⟩) = _
  rw [if_pos ⟨hk, h⟩]
set_option maxHeartbeats 4000000 in
theorem rnamQ_any {g tb E : Nat} {nb : Option Nat} {w : World} {st : St} (h : RqO g tb nb E w (.ok st)) :
 Calls Tryz.prog 143 #[.pointer (some ⟨g, 0, none⟩)] w fun e w' => e = .returned (.string (namS E (.ok st))) ∧ RqS g tb nb w E ((Except.ok st : Except Err St).bind (namX E)) w' := by
 obtain ⟨i0, hi, hz0, hz1, hz2⟩ := info_parts (show (Tryz.prog.info? 9).map (fun i => (i.zero, i.size, i.bytes)) = some (some (.string ⟨#[]⟩), 1, 16) from by kernel_rfl)
 have HO := hid h
 obtain ⟨l, ns⟩ := st
 obtain ⟨hb, hf, a, hw⟩ := h
 have hb : RqB E l ns := hb
 have hf : ns.length ≤ 20 := hf
 have hw : RqW g tb nb E w l ns a 0 := hw
 have K1 := hid (fun W (hx : Ext w W) => rpeek_any (hw.ext hx) hb.len hb.e4)
 have hTk : (hdT E l).k = kindL l := hdT_k E l
 obtain ⟨T, hT⟩ : ∃ T, T = hdT E l := ⟨_, rfl⟩
 rw [← hT] at K1 hTk
 unfold tokV at K1
 have hTz : T.t.length ≤ 4000 := by
  rw [hT]
  cases l with
  | nil => exact Nat.zero_le _
  | cons t r => exact (hb.tok t List.mem_cons_self).1
 have KN := hid (fun W => rname_any ⟨T.t.toArray⟩ W (by show T.t.length ≤ _; unfold maxLen; omega))
 rw [show (⟨T.t.toArray⟩ : ByteArray).data.toList = T.t from rfl] at KN
 have hfd0 := tokF0
 have hfd1 := tokF1
 obtain ⟨A, c, nv, h1, h2, h3, h4, h5, h6⟩ := hw
 have H1 := hid h1
 have H4 := hid h4
 obtain ⟨An, cn, hnv, hsn⟩ := own_slN h4
 subst hnv
 have hP : ∀ t r ns', (Except.ok ⟨l, ns⟩ : Except Err St) = .ok ⟨t :: r, ns'⟩ → t.k = 9 → nameB T.t = nameB t.t := by
  intro t r ns' e _
  injection e with e
  injection e with e1 e2
  rw [hT, e1]
  rfl
 by_cases hg : T.k = 9 ∧ nameB T.t = true
 rotate_left
 ·obtain ⟨e1, e2, e3⟩ := nam_not (E := E) (X := .ok ⟨l, ns⟩) (fun t r ns' e hh => hg (by injection e with e; injection e with e1 e2; rw [hT, e1]; exact hh))
  rw [e1, e2]
  have KW := hid (fun W (hx : Ext w W) => rword_any nameB (nameB T.t) (HO.out.ext hx) hP)
  rw [e3] at KW
  have HB := hid (show T.k = 9 → nameB T.t = false from fun h9 => by
   cases hn : nameB T.t
   ·rfl
   ·exact absurd ⟨h9, hn⟩ hg)
  generalize nameB T.t = bn at KN KW HB
  clear h1 h2 h3 h4 h5 h6 hT hTk hTz hb hf hP hg e1 e2 e3 hsn
  by_cases h9 : T.k = 9
  ·obtain rfl : bn = false := HB.out h9
   have b1 : ((T.k : Int) == 9) = true := by rw [h9]; rfl
   clear HB h9
   go_enter Tryz.func143, Tryz.ntmps143
   go_wp2_with fail
   refine (K1.out _ (Ext.refl _)).mono ?_
   rintro e w2 ⟨rfl, hx2⟩
   have HX2 := hid hx2
   clear hx2
   go_wp2_with fail
   refine (K1.out _ HX2.out).mono ?_
   rintro e w3 ⟨rfl, hx3⟩
   have HX3 := hid (HX2.out.trans hx3)
   clear hx3
   go_wp2_with (first
    | (go_at_call 67; (with_reducible refine (KN.out _).mono ?_); rintro e w4 ⟨rfl, rfl⟩)
    | (go_at_call 159; (with_reducible refine (KW.out _ HX3.out).mono ?_); rintro e w5 ⟨rfl, hs5⟩; have HS5 := hid hs5; clear hs5))
   go_ret
   exact ⟨rfl, RqS.back HX3.out HS5.out⟩
  ·have b1 : ((T.k : Int) == 9) = false := by rw [beq_eq_false_iff_ne]; omega
   clear HB h9
   go_enter Tryz.func143, Tryz.ntmps143
   go_wp2_with fail
   refine (K1.out _ (Ext.refl _)).mono ?_
   rintro e w2 ⟨rfl, hx2⟩
   have HX2 := hid hx2
   clear hx2
   go_wp2_with fail
   refine (K1.out _ HX2.out).mono ?_
   rintro e w3 ⟨rfl, hx3⟩
   have HX3 := hid (HX2.out.trans hx3)
   clear hx3
   go_wp2_with (first
    | (go_at_call 67; (with_reducible refine (KN.out _).mono ?_); rintro e w4 ⟨rfl, rfl⟩)
    | (go_at_call 159; (with_reducible refine (KW.out _ HX3.out).mono ?_); rintro e w5 ⟨rfl, hs5⟩; have HS5 := hid hs5; clear hs5))
   go_ret
   exact ⟨rfl, RqS.back HX3.out HS5.out⟩
 obtain ⟨h9, hnb⟩ := hg
 obtain ⟨t, r, rfl⟩ : ∃ t r, l = t :: r := by
  cases l with
  | nil => rw [hTk] at h9; have h9 : (0 : Nat) = 9 := h9; omega
  | cons t r => exact ⟨t, r, rfl⟩
 obtain rfl : T = t := hT
 obtain ⟨m1, m2, m3⟩ := namX_ok (E := E) (r := r) (ns := ns) h9 hnb
 have KI := hid (fun W (hx : Ext w W) => rin26_any ns An cn T.t W (hsn.ext hx) (by omega))
 rw [hnb] at KN
 have b1 : ((T.k : Int) == 9) = true := by rw [h9]; rfl
 have c2 := fun W (hx : Ext w W) => (H1.out.ext hx).cell 2 _ rfl
 have HC2 := hid c2
 by_cases hin : T.t ∈ ns
 ·obtain ⟨q1, q2⟩ := m1 hin
  rw [q1, q2]
  rw [decide_eq_true hin] at KI
  have KW := hid (fun W (hx : Ext w W) => rword_any nameB true (HO.out.ext hx) (fun t r ns' e h => by rw [← hP t r ns' e h, hnb]))
  obtain ⟨u1, u2⟩ := wrd_ok (E := E) (r := r) (ns := ns) (P := nameB) h9 hnb
  rw [u1, u2] at KW
  clear h1 h2 h3 h4 h5 h6 hTk hTz hb hf hP h9 hnb m1 m2 m3 hin q1 q2 u1 u2 hsn c2
  go_enter Tryz.func143, Tryz.ntmps143
  go_wp2_with fail
  refine (K1.out _ (Ext.refl _)).mono ?_
  rintro e w2 ⟨rfl, hx2⟩
  have HX2 := hid hx2
  clear hx2
  go_wp2_with fail
  refine (K1.out _ HX2.out).mono ?_
  rintro e w3 ⟨rfl, hx3⟩
  have HX3 := hid (HX2.out.trans hx3)
  clear hx3
  have y2 := HC2.out _ HX3.out
  go_wp2_with (first
   | (go_at_call 67; (with_reducible refine (KN.out _).mono ?_); rintro e w4 ⟨rfl, rfl⟩)
   | (go_at_call 69; (with_reducible refine (KI.out _ HX3.out).mono ?_); rintro e w4 ⟨rfl, rfl⟩)
   | (go_at_call 159; (with_reducible refine (KW.out _ HX3.out).mono ?_); rintro e w5 ⟨rfl, hs5⟩; have HS5 := hid hs5; clear hs5))
  go_ret
  exact ⟨rfl, RqS.back HX3.out HS5.out⟩
 rw [decide_eq_false hin] at KI
 have HIN := hid hin
 by_cases h20 : 20 ≤ ns.length
 ·obtain ⟨q1, q2⟩ := m2 hin h20
  rw [q1, q2]
  have h20I : (20 : Int) ≤ (ns.length : Int) := by omega
  have HWQ : RqW g tb nb E w (T :: r) ns a 0 := ⟨A, c, _, h1, h2, h3, h4, h5, h6⟩
  have KF := hid (fun W (hx : Ext w W) => rfail_ok 6 (HWQ.ext hx) hb)
  have HBB := hid hb
  have HFF := hid hf
  have HPP := hid hP
  have KW := hid (fun W nb' (h : RqO g tb nb' E W (.error (6, T.a))) => rword_any nameB true h (fun t r ns' e _ => by cases e))
  clear h1 h2 h3 h4 h5 h6 hTk hTz hb hf hP h9 hnb m1 m2 m3 hin q1 q2 hsn c2 HWQ h20
  go_enter Tryz.func143, Tryz.ntmps143
  go_wp2_with fail
  refine (K1.out _ (Ext.refl _)).mono ?_
  rintro e w2 ⟨rfl, hx2⟩
  have HX2 := hid hx2
  clear hx2
  go_wp2_with fail
  refine (K1.out _ HX2.out).mono ?_
  rintro e w3 ⟨rfl, hx3⟩
  have HX3 := hid (HX2.out.trans hx3)
  clear hx3
  have y2 := HC2.out _ HX3.out
  go_wp2_with (first
   | (go_at_call 67; (with_reducible refine (KN.out _).mono ?_); rintro e w4 ⟨rfl, rfl⟩)
   | (go_at_call 69; (with_reducible refine (KI.out _ HX3.out).mono ?_); rintro e w4 ⟨rfl, rfl⟩))
  refine (KF.out _ HX3.out).mono ?_
  rintro e w5 ⟨rfl, hx5, hw5⟩
  have HX5 := hid ((Exc.of_ext HX3.out).trans hx5)
  obtain ⟨A5, c5, nv5, g1, g2, g3, g4, g5, g6⟩ := hw5
  obtain ⟨An5, cn5, hnv5, hsn5⟩ := own_slN g4
  subst hnv5
  have HOWN := hid g4
  have HAT := hid g1
  have HNG := hid (show (Value.slice An5 ns.length cn5).ownBlock ≠ some g from by rw [g5]; exact g6)
  have HG2 := hid g2
  have HG3 := hid g3
  have HG5 := hid g5
  have HGN := hid g6
  have z2 := g1.cell 2 _ rfl
  have hfn : ns.length ≤ 20 := HFF.out
  clear hx5 g1 g2 g3 g4 g5 g6 hsn5 y2
  have HNC := hid (new_cells w5 #[.string ⟨T.t.toArray⟩] 9)
  have HONE := hid (show ∀ u ∈ ([.string ⟨T.t.toArray⟩] : List Value), u.oneCell' = true from by simp [Value.oneCell'])
  have tok : True := trivial
  go_wp2_with (first
   | (have _t := tok; at_builtin; refine wpList_appN _ rfl _ _ 26 rfl 0 9 i0 _ 1 16 Tryz.underlying26 hi hz0 hz1 hz2 rfl (by decide) _ ns.length _ rfl (own_ext HOWN.out ((Ext.refl w5).alloc (.cells #[.string ⟨T.t.toArray⟩] 9))) ⟨w5.heap.size, 0, none⟩ 1 1 [.string ⟨T.t.toArray⟩] rfl rfl HNC.out HONE.out (by unfold maxLen; omega) (by omega) (Nat.zero_le _) ?_; intro v6 w6 hown6 hgrow6 hwh6; obtain ⟨A6, c6, hv6, _⟩ := own_slN hown6; subst hv6; have HO6 := hid hown6; have HG6 := hid hgrow6; have HH6 := hid hwh6; have hat6 := at_grownQ HAT.out HNG.out ((Ext.refl w5).alloc (.cells #[.string ⟨T.t.toArray⟩] 9)) hgrow6; have d2 := hat6.cell 2 _ rfl; have f2 := frz_of hat6 2; clear hown6 hgrow6 hwh6 hat6 tok)
   | (go_at_call 67; (with_reducible refine (KN.out _).mono ?_); rintro e w7 ⟨rfl, rfl⟩))
  obtain ⟨r1, r2, r3⟩ := RqW.named HAT.out HG2.out HG3.out HOWN.out HG5.out HGN.out ((Ext.refl w5).alloc (.cells #[.string ⟨T.t.toArray⟩] 9)) HG6.out HO6.out HH6.out
  have KW2 := hid (KW.out _ _ (show RqO g tb (Value.slice A6 (ns.length + 1) c6).ownBlock E (w6.setCell ⟨g, 2, none⟩ (.slice A6 (ns.length + 1) c6)) (.error (6, T.a)) from ⟨(by show (6 : Int) ≠ 0; decide), _, _, HBB.out.more _ HFF.out, r1⟩))
  have HE6 := hid (HX5.out.trans r2)
  have HN6 := hid (show (Value.slice A6 (ns.length + 1) c6).ownBlock = nb ∨ ∀ k, (Value.slice A6 (ns.length + 1) c6).ownBlock = some k → w.heap.size ≤ k from by
   rcases r3 with r3 | r3
   ·exact .inl r3
   ·exact .inr fun k hk => Nat.le_trans HX5.out.size (r3 k hk))
  clear r1 r2 r3
  refine KW2.out.mono ?_
  rintro e w8 ⟨rfl, hs8⟩
  have HS8 := hid (RqS.step HE6.out HN6.out hs8)
  clear hs8
  go_wp2
  go_ret
  exact ⟨rfl, HS8.out⟩
 ·obtain ⟨q1, q2⟩ := m3 hin h20
  rw [q1, q2]
  have h20I : ¬ (20 : Int) ≤ (ns.length : Int) := by omega
  obtain ⟨u1, u2⟩ := wrd_ok (E := E) (r := r) (ns := ns ++ [T.t]) (P := nameB) h9 hnb
  have KW := hid (fun W nb' (h : RqO g tb nb' E W (.ok ⟨T :: r, ns ++ [T.t]⟩)) => rword_any nameB true h (fun t r' ns' e _ => by
   injection e with e
   injection e with e1 e2
   injection e1 with e1
   rw [← e1, hnb]))
  rw [u1, u2] at KW
  have HBB := hid hb
  have hfn : ns.length ≤ 19 := by omega
  have HFN := hid hfn
  have HG2 := hid h2
  have HG3 := hid h3
  have HG5 := hid h5
  have HGN := hid h6
  have HNG := hid (show (Value.slice An ns.length cn).ownBlock ≠ some g from by rw [h5]; exact h6)
  clear h1 h2 h3 h4 h5 h6 hTk hTz hb hf hP h9 hnb m1 m2 m3 hin q1 q2 hsn c2 h20 u1 u2
  go_enter Tryz.func143, Tryz.ntmps143
  go_wp2_with fail
  refine (K1.out _ (Ext.refl _)).mono ?_
  rintro e w2 ⟨rfl, hx2⟩
  have HX2 := hid hx2
  clear hx2
  go_wp2_with fail
  refine (K1.out _ HX2.out).mono ?_
  rintro e w3 ⟨rfl, hx3⟩
  have HX3 := hid (HX2.out.trans hx3)
  clear hx3
  have y2 := HC2.out _ HX3.out
  have HOWN := hid (own_ext H4.out HX3.out)
  have HAT := hid (H1.out.ext HX3.out)
  have HNC := hid (new_cells w3 #[.string ⟨T.t.toArray⟩] 9)
  have HONE := hid (show ∀ u ∈ ([.string ⟨T.t.toArray⟩] : List Value), u.oneCell' = true from by simp [Value.oneCell'])
  have tok : True := trivial
  go_wp2_with (first
   | (have _t := tok; at_builtin; refine wpList_appN _ rfl _ _ 26 rfl 0 9 i0 _ 1 16 Tryz.underlying26 hi hz0 hz1 hz2 rfl (by decide) _ ns.length _ rfl (own_ext HOWN.out ((Ext.refl w3).alloc (.cells #[.string ⟨T.t.toArray⟩] 9))) ⟨w3.heap.size, 0, none⟩ 1 1 [.string ⟨T.t.toArray⟩] rfl rfl HNC.out HONE.out (by unfold maxLen; omega) (by omega) (Nat.zero_le _) ?_; intro v6 w6 hown6 hgrow6 hwh6; obtain ⟨A6, c6, hv6, _⟩ := own_slN hown6; subst hv6; have HO6 := hid hown6; have HG6 := hid hgrow6; have HH6 := hid hwh6; have hat6 := at_grownQ HAT.out HNG.out ((Ext.refl w3).alloc (.cells #[.string ⟨T.t.toArray⟩] 9)) hgrow6; have d2 := hat6.cell 2 _ rfl; have f2 := frz_of hat6 2; clear hown6 hgrow6 hwh6 hat6 tok)
   | (go_at_call 69; (with_reducible refine (KI.out _ HX3.out).mono ?_); rintro e w4 ⟨rfl, rfl⟩)
   | (go_at_call 67; (with_reducible refine (KN.out _).mono ?_); rintro e w7 ⟨rfl, rfl⟩))
  obtain ⟨r1, r2, r3⟩ := RqW.named HAT.out (HG2.out.ext HX3.out) HG3.out HOWN.out HG5.out HGN.out ((Ext.refl w3).alloc (.cells #[.string ⟨T.t.toArray⟩] 9)) HG6.out HO6.out HH6.out
  have KW2 := hid (KW.out _ _ (show RqO g tb (Value.slice A6 (ns.length + 1) c6).ownBlock E (w6.setCell ⟨g, 2, none⟩ (.slice A6 (ns.length + 1) c6)) (.ok ⟨T :: r, ns ++ [T.t]⟩) from ⟨HBB.out.more _ (by have := HFN.out; omega), by rw [List.length_append]; have := HFN.out; show ns.length + 1 ≤ 20; omega, a, r1⟩))
  have HE6 := hid ((Exc.of_ext HX3.out).trans r2)
  have HN6 := hid (show (Value.slice A6 (ns.length + 1) c6).ownBlock = nb ∨ ∀ k, (Value.slice A6 (ns.length + 1) c6).ownBlock = some k → w.heap.size ≤ k from by
   rcases r3 with r3 | r3
   ·exact .inl r3
   ·exact .inr fun k hk => Nat.le_trans HX3.out.size (r3 k hk))
  clear r1 r2 r3
  refine KW2.out.mono ?_
  rintro e w8 ⟨rfl, hs8⟩
  have HS8 := hid (RqS.step HE6.out HN6.out hs8)
  clear hs8
  go_wp2
  go_ret
  exact ⟨rfl, HS8.out⟩
end Go.Proofs.YtpfmojeigjmlfaaGreatDoor
namespace Go.Proofs.YtpfmojeigjmlfaaGreatDoor
open Go.RowKit
def HashR (Y Z : Except Err (F × St)) : Prop := Z = Y ∨ ∃ f t r ns, Z = .ok (f, ⟨t :: r, ns⟩) ∧ t.k = 4 ∧ Y = .error (3, t.a)
def RetMQ (g tb : Nat) (nb : Option Nat) (w : World) (E : Nat) (Y : Except Err (F × St)) (e : Ending) (w' : World) : Prop :=
 ∃ Z nb', HashR Y Z ∧ (∃ A n c, e = .returned (.slice A n c) ∧ (∀ f st, Z = .ok (f, st) → FwS w' (fun k => w.heap.size ≤ k ∧ some k ≠ nb') f (.slice A n c) ∧ n ≤ c)) ∧ Exc (qB g nb) w w' ∧ RqO g tb nb' E w' (Z.map (·.2)) ∧ (nb' = nb ∨ ∀ k, nb' = some k → w.heap.size ≤ k)
def MsgQ (N : Nat) : Prop := ∀ (g tb : Nat) (nb : Option Nat) (E : Nat) (X : Except Err St) (d : Nat) (c : Bool) (w : World), RqO g tb nb E w X → tb < w.heap.size → (∀ st, X = .ok st → st.left.length < N ∧ d ≤ 8) → d ≤ 100 →
 Calls Tryz.prog 78 #[.pointer (some ⟨g, 0, none⟩), .int .i64 ((d : Int) + 1), .bool c] w (RetMQ g tb nb w E (X.bind (msgC E d c)))
def RetPQ (g tb : Nat) (nb : Option Nat) (w : World) (E : Nat) (Y : Except Err (F × St)) (e : Ending) (w' : World) : Prop :=
 ∃ nb', (∃ (k : Int) (t n s : ByteArray) (Ac : Option Addr) (nc cc : Nat) (Ap : Option Addr) (np cp : Nat), e = .returned (.agg #[.int .i64 k, .string t, .string n, .string s, .slice Ac nc cc, .slice Ap np cp]) ∧
   (∀ f st, Y = .ok (f, st) → f.len = 1 ∧ Fw w' (fun k => w.heap.size ≤ k ∧ some k ≠ nb') f [.int .i64 k, .string t, .string n, .string s, .slice Ac nc cc, .slice Ap np cp])) ∧ Exc (qB g nb) w w' ∧ RqO g tb nb' E w' (Y.map (·.2)) ∧ (nb' = nb ∨ ∀ k, nb' = some k → w.heap.size ≤ k)
def ArgQ (N : Nat) : Prop := ∀ (g tb : Nat) (nb : Option Nat) (E : Nat) (t : Tok) (r : List Tok) (ns : List By) (d : Nat) (c : Bool) (w : World), RqO g tb nb E w (.ok ⟨t :: r, ns⟩) → tb < w.heap.size → t.k = 2 → r.length < N → d ≤ 8 →
 Calls Tryz.prog 118 #[.pointer (some ⟨g, 0, none⟩), .int .i64 ((d : Int) + 1), .bool c] w (RetPQ g tb nb w E (argC E d c ⟨r, ns⟩))
def lenVQ : Option Value → Nat
 | some (.slice _ n _) => n
 | _ => 0
def mQ (g : Nat) (w : World) : Nat := if intV (w.cell? ⟨g, 4, none⟩) = 0 then lenVQ (w.cell? ⟨g, 0, none⟩) + 1 else 0
theorem mQ_eq {g tb E : Nat} {nb : Option Nat} {w : World} {X : Except Err St} (h : RqO g tb nb E w X) : mQ g w = lenX X := by
 unfold mQ
 rw [h.cell4]
 rcases X with x | st
 ·exact if_neg h.1
 ·obtain ⟨_, _, a, A, c, nv, h1, _⟩ := h
  rw [show w.cell? ⟨g, 0, none⟩ = some (.slice A st.left.length c) from h1.cell 0 _ rfl]
  exact if_pos rfl
theorem own_neQ {w : World} {B B2 : Nat} {e e2 : TypeId} {size s2 : Nat} {v v2 : Value} {n n2 : Nat} {xs x2 : List Value} (h : w.ownsRow B e size v n xs) (h2 : w.ownsRow B2 e2 s2 v2 n2 x2) (he : e ≠ e2) : ∀ k, v.ownBlock = some k → v2.ownBlock ≠ some k := by
 intro k hk hk2
 rcases h.2 with ⟨hv, _⟩ | ⟨g, cap, cur, hv, _, hc, _⟩
 ·rw [hv] at hk; cases hk
 ·rcases h2.2 with ⟨hv2, _⟩ | ⟨g2, cap2, cur2, hv2, _, hc2, _⟩
  ·rw [hv2] at hk2; cases hk2
  ·rw [hv] at hk
   rw [hv2] at hk2
   obtain rfl : g = k := by simpa [Value.ownBlock] using hk
   obtain rfl : g2 = g := by simpa [Value.ownBlock] using hk2
   rw [hc] at hc2
   injection hc2 with hc2
   injection hc2 with _ h3
   exact he h3
section
variable {g tb E : Nat} {nb : Option Nat} {w w' : World} {X : Except Err St}
theorem RqW.exc {S : Nat → Prop} {l : List Tok} {ns : List By} {a e : Int} (h : RqW g tb nb E w l ns a e) (hx : Exc S w w') (hg : ¬ S g) (ht : ¬ S tb) (hn : ∀ k, nb = some k → ¬ S k) : RqW g tb nb E w' l ns a e := by
 obtain ⟨A, c, nv, h1, h2, h3, h4, h5, h6⟩ := h
 refine ⟨A, c, nv, h1.exc hx hg, h2.exc0 hx (fun h0 ad hA => ?_), h3, own_excQ h4 hx (fun k hk => hn k (by rw [← h5, hk])), h5, h6⟩
 obtain ⟨_, b, o, e1, eb, _⟩ := h3 h0
 rw [hA] at e1
 injection e1 with e1
 rw [e1]
 show ¬ S b
 rw [eb]
 exact ht
theorem RqO.exc {S : Nat → Prop} (h : RqO g tb nb E w X) (hx : Exc S w w') (hg : ¬ S g) (ht : ¬ S tb) (hn : ∀ k, nb = some k → ¬ S k) : RqO g tb nb E w' X := by
 rcases X with x | st
 ·obtain ⟨h0, l, ns, hb, h⟩ := h
  exact ⟨h0, l, ns, hb, h.exc hx hg ht hn⟩
 ·obtain ⟨hb, hf, a, h⟩ := h
  exact ⟨hb, hf, a, h.exc hx hg ht hn⟩
theorem RqO.row_ne {B : Nat} {e : TypeId} {size n : Nat} {v : Value} {xs : List Value} (h : RqO g tb nb E w X) (hv : w.ownsRow B e size v n xs) (he : 9 ≠ e) : ∀ k, nb = some k → v.ownBlock ≠ some k := by
 obtain ⟨_, _, _, _, _, ⟨A, c, nv, _, _, _, h4, h5, _⟩, _⟩ := h.any
 intro k hk
 exact own_neQ h4 hv he k (by rw [h5, hk])
end
def MqI (w : World) (g tb : Nat) (nb : Option Nat) (E : Nat) (X0 : Except Err St) (N d : Nat) (c : Bool) (out : Value) (wr : World) : Prop :=
 ∃ X f m xs nb', X0.bind (msgC E d c) = prepF f (X.bind (msgC E d c)) ∧ RqO g tb nb' E wr X ∧ (∀ st, X = .ok st → st.left.length < N ∧ d ≤ 8) ∧ wr.ownsRow w.heap.size 50 6 out m xs ∧
   (∀ st, X = .ok st → m = f.len ∧ Fw wr (fun k => w.heap.size ≤ k ∧ some k ≠ out.ownBlock ∧ some k ≠ nb') f xs) ∧ Exc (fun k => qB g nb k ∨ w.heap.size ≤ k) w wr ∧ (nb' = nb ∨ ∀ k, nb' = some k → w.heap.size ≤ k) ∧ m + lenX X ≤ 4003
theorem exc_newQ {S : Nat → Prop} {w w' : World} (h : Exc (fun k => S k ∨ w.heap.size ≤ k) w w') : Exc S w w' := ⟨h.os, h.tape, h.output, h.size, fun k hk hS => h.block k hk (fun e => by rcases e with e | e; exact hS e; omega)⟩
theorem mq_ret {w wr : World} {g tb E : Nat} {nb nb' : Option Nat} {X0 X : Except Err St} {d : Nat} {c : Bool} {f : F} {m : Nat} {xs : List Value} {A : Option Addr} {cc : Nat} (hY : X0.bind (msgC E d c) = prepF f (X.bind (msgC E d c))) (hO : RqO g tb nb' E wr X)
 (hown : wr.ownsRow w.heap.size 50 6 (.slice A m cc) m xs) (hF : ∀ st, X = .ok st → m = f.len ∧ Fw wr (fun k => w.heap.size ≤ k ∧ some k ≠ (Value.slice A m cc).ownBlock ∧ some k ≠ nb') f xs) (hE : Exc (fun k => qB g nb k ∨ w.heap.size ≤ k) w wr)
 (hn : nb' = nb ∨ ∀ k, nb' = some k → w.heap.size ≤ k) (hs : ∀ st, X = .ok st → HashR (msgC E d c st) (.ok (.nil, st))) : RetMQ g tb nb w E (X0.bind (msgC E d c)) (.returned (.slice A m cc)) wr := by
 rcases X with x | st
 ·refine ⟨.error x, nb', .inl (by rw [hY]; rfl), ⟨A, m, cc, rfl, fun f st h => (by cases h)⟩, exc_newQ hE, hO, hn⟩
 ·refine ⟨.ok (f, st), nb', ?_, ⟨A, m, cc, rfl, fun f' st' h => ?_⟩, exc_newQ hE, hO, hn⟩
  ·rw [hY]
   rcases hs st rfl with h | ⟨f2, t, r, ns, h1, h2, h3⟩
   ·refine .inl ?_
    show _ = prepF f (msgC E d c st)
    rw [← h]
    show _ = Except.ok (f.app .nil, st)
    rw [F.app_nil]
   ·injection h1 with h1
    injection h1 with h1 h4
    subst h4
    refine .inr ⟨f, t, r, ns, rfl, h2, ?_⟩
    show prepF f (msgC E d c ⟨t :: r, ns⟩) = _
    rw [h3]
    rfl
  ·injection h with h
   injection h with h _
   subst h
   obtain ⟨h2, h3⟩ := hF st rfl
   subst h2
   refine ⟨?_, own_cap hown⟩
   obtain ⟨A', c', hv, hs⟩ := own_slN hown
   injection hv with e1 _ e3
   subst e1 e3
   refine ⟨A, cc, xs, rfl, hs, fun _ ad hA => ?_, (FCw_exc (Exc.refl (fun _ => False) wr) (fun _ _ h => h) (fun _ h => ⟨h.1, h.2.2⟩) f).1 _ h3⟩
   have hob : (Value.slice A f.len cc).ownBlock = some ad.block := by rw [hA]; rfl
   refine ⟨(hown.lt _ hob).1, fun e0 => ?_⟩
   exact hO.row_ne hown (by decide) ad.block e0.symm hob
theorem mq_go {w wr w3 w4 : World} {g tb E : Nat} {nb nb' nb3 : Option Nat} {X0 : Except Err St} {N d : Nat} {c : Bool} {t : Tok} {r : List Tok} {ns : List By} {f : F} {m : Nat} {xs cs : List Value} {v v' : Value} {o : Obj}
 (hY : X0.bind (msgC E d c) = prepF f ((Except.ok ⟨t :: r, ns⟩ : Except Err St).bind (msgC E d c))) (hb : begB t.k = true) (hl : (t :: r).length < N ∧ d ≤ 8) (hm : m + lenX (.ok ⟨t :: r, ns⟩) ≤ 4003)
 (hF : m = f.len ∧ Fw wr (fun k => w.heap.size ≤ k ∧ some k ≠ v.ownBlock ∧ some k ≠ nb') f xs) (hv : wr.ownsRow w.heap.size 50 6 v m xs) (hE : Exc (fun k => qB g nb k ∨ w.heap.size ≤ k) w wr) (hnb : nb' = nb ∨ ∀ k, nb' = some k → w.heap.size ≤ k)
 (hO0 : RqO g tb nb' E wr (.ok ⟨t :: r, ns⟩)) (h3 : Exc (qB g nb') wr w3) (hnb3 : nb3 = nb' ∨ ∀ k, nb3 = some k → wr.heap.size ≤ k) (hO : RqO g tb nb3 E w3 ((partP E d c t r ns).map (·.2)))
 (hlen : ∀ gp st, partP E d c t r ns = .ok (gp, st) → st.left.length ≤ r.length ∧ gp.len = 1 ∧ Fw w3 (fun k => wr.heap.size ≤ k ∧ some k ≠ nb3) gp cs) (old : g < w.heap.size ∧ tb < w.heap.size)
 (hown : w4.ownsRow w.heap.size 50 6 v' (m + 1) (xs ++ cs)) (hg : (w3.alloc o).grownBy w4 v.ownBlock) (hwh : v'.ownBlock = v.ownBlock ∨ ∀ b, v'.ownBlock = some b → (w3.alloc o).heap.size ≤ b) :
 MqI w g tb nb E X0 N d c v' w4 ∧ mQ g w4 < lenX (.ok ⟨t :: r, ns⟩) := by
 have hvb : ∀ k, v.ownBlock = some k → w.heap.size ≤ k ∧ k < wr.heap.size := fun k hk => hv.lt k hk
 have hv3 : w3.ownsRow w.heap.size 50 6 v m xs := own_excQ hv h3 (fun k hk hq => by
  rcases hq with hq | hq
  ·have := (hvb k hk).1; omega
  ·exact hO0.row_ne hv (by decide) k hq.symm hk)
 have ha : Exc (fun k => some k = v.ownBlock) w3 w4 := (Exc.of_ext ((Ext.refl w3).alloc o)).trans ⟨hg.os, hg.tape, hg.output, hg.size, fun k hk ht => hg.block k hk ht⟩
 have hz : (w3.alloc o).heap.size = w3.heap.size + 1 := by simp
 have hsz := hE.size
 have hO4 : RqO g tb nb3 E w4 ((partP E d c t r ns).map (·.2)) := hO.exc ha (fun e => by have := hvb _ e.symm; omega) (fun e => by have := hvb _ e.symm; omega) (fun k hk e => hO.row_ne hv3 (by decide) k hk e.symm)
 have hE4 : Exc (fun k => qB g nb k ∨ w.heap.size ≤ k) w w4 := (hE.trans (excMono h3 fun k e => by
  rcases e with e | e
  ·exact .inl (.inl e)
  ·rcases hnb with h | h
   ·exact .inl (.inr (by rw [e, h]))
   ·exact .inr (h k e.symm))).trans (excMono ha fun k e => .inr (hvb k e.symm).1)
 have hnb4 : nb3 = nb ∨ ∀ k, nb3 = some k → w.heap.size ≤ k := by
  rcases hnb3 with h | h
  ·rcases hnb with h' | h'
   ·exact .inl (h.trans h')
   ·exact .inr fun k hk => h' k (by rw [← h]; exact hk)
  ·exact .inr fun k hk => Nat.le_trans hsz (h k hk)
 have hYp : X0.bind (msgC E d c) = prepF f ((partP E d c t r ns).bind fun y => prepF y.1 (msgC E d c y.2)) := by
  rw [hY]
  show prepF f (msgC E d c ⟨t :: r, ns⟩) = _
  rw [msgC_part hb]
 have hme : mQ g w4 < lenX (.ok ⟨t :: r, ns⟩) := by
  rw [mQ_eq hO4]
  show _ < (t :: r).length + 1
  cases hp : partP E d c t r ns with
  | error e => exact Nat.succ_pos _
  | ok y =>
    have := (hlen y.1 y.2 hp).1
    show y.2.left.length + 1 < (t :: r).length + 1
    rw [List.length_cons]
    omega
 refine ⟨?_, hme⟩
 have hmm : m + (r.length + 2) ≤ 4003 := hm
 cases hp : partP E d c t r ns with
 | error e =>
   rw [hp] at hO4 hYp
   exact ⟨.error e, f, m + 1, xs ++ cs, nb3, hYp, hO4, (fun st h => by cases h), hown, (fun st h => by cases h), hE4, hnb4, by show m + 1 + 0 ≤ 4003; omega⟩
 | ok y =>
   obtain ⟨gp, st⟩ := y
   rw [hp] at hO4 hYp
   obtain ⟨l1, l2, l3⟩ := hlen gp st hp
   refine ⟨.ok st, f.app gp, m + 1, xs ++ cs, nb3, ?_, hO4, fun st' h => ?_, hown, fun st' h => ⟨?_, ?_⟩, hE4, hnb4, ?_⟩
   ·rw [hYp]
    show prepF f (prepF gp (msgC E d c st)) = prepF (f.app gp) (msgC E d c st)
    exact prepF_prepF _ _ _
   ·injection h with h
    subst h
    have := hl.1
    rw [List.length_cons] at this
    exact ⟨by omega, hl.2⟩
   ·rw [F.len_app, l2, hF.1]
   ·have f0 := (FCw_in wr _ f).1 _ hF.2
    have f3 : Fw w3 (fun k => w.heap.size ≤ k ∧ some k ≠ v.ownBlock ∧ some k ≠ nb3) f xs := (FCw_exc h3 (fun k hk e => by
     rcases e with e | e
     ·have := hk.1.1; omega
     ·exact hk.1.2.2 e) (fun k hk => ⟨hk.1.1, hk.1.2.1, fun e => by
     rcases hnb3 with h | h
     ·exact hk.1.2.2 (e.trans h)
     ·have := h k e.symm
      have := hk.2
      omega⟩) f).1 _ f0
    have g3 : Fw w3 (fun k => w.heap.size ≤ k ∧ some k ≠ v.ownBlock ∧ some k ≠ nb3) gp cs := (FCw_exc (Exc.refl (fun _ => False) w3) (fun _ _ h => h) (fun k hk => ⟨Nat.le_trans hsz hk.1, fun e => by have := hvb k e.symm; have := hk.1; omega, hk.2⟩) gp).1 _ l3
    have fg := (FCw_in w3 _ (f.app gp)).1 _ ((FCw_app w3 _ gp f).1 _ _ f3 g3)
    refine (FCw_exc ha (fun k hk e => hk.1.2.1 e) (fun k hk => ⟨hk.1.1, fun e => ?_, hk.1.2.2⟩) (f.app gp)).1 _ fg
    rcases hwh with h | h
    ·exact hk.1.2.1 (e.trans h)
    ·have := h k e.symm
     have := hk.2
     omega
   ·show m + 1 + (st.left.length + 1) ≤ 4003
    omega
theorem FwS.inQ {w : World} {ok : Nat → Prop} {f : F} {v : Value} (h : FwS w ok f v) : FwS w (fun k => ok k ∧ k < w.heap.size) f v := by
 obtain ⟨A, c, ps, e, h1, h2, h3⟩ := h
 exact ⟨A, c, ps, e, h1, fun h0 ad hA => ⟨h2 h0 ad hA, h1.inside (by decide) h0 ad hA⟩, (FCw_in w ok f).1 _ h3⟩
theorem ext_ofQ {W wx : World} (hx : ∃ x : ExtW W, wx = x.v) : Ext W wx := by obtain ⟨y, hy⟩ := hx; rw [hy]; exact y.h
theorem exc_stepQ {g : Nat} {nb nb0 : Option Nat} {w0 w w' : World} (h1 : Exc (qB g nb0) w0 w) (h3 : nb = nb0 ∨ ∀ k, nb = some k → w0.heap.size ≤ k) (k1 : Exc (fun k => qB g nb k ∨ w0.heap.size ≤ k) w w') : Exc (qB g nb0) w0 w' := by
 refine ⟨k1.os.trans h1.os, k1.tape.trans h1.tape, k1.output.trans h1.output, Nat.le_trans h1.size k1.size, fun j hj hS => ?_⟩
 refine (k1.block j (Nat.lt_of_lt_of_le hj h1.size) fun hq => ?_).trans (h1.block j hj hS)
 rcases hq with (hq | hq) | hq
 ·exact hS (.inl hq)
 ·rcases h3 with h3 | h3
  ·exact hS (.inr (by rw [hq, h3]))
  ·exact absurd (h3 j hq.symm) (by omega)
 ·omega
theorem nb_step {nb0 nb1 nb2 : Option Nat} {a b : Nat} (h1 : nb1 = nb0 ∨ ∀ k, nb1 = some k → a ≤ k) (h2 : nb2 = nb1 ∨ ∀ k, nb2 = some k → b ≤ k) (hab : a ≤ b) : nb2 = nb0 ∨ ∀ k, nb2 = some k → a ≤ k := by
 rcases h2 with h2 | h2
 ·rcases h1 with h1 | h1
  ·exact .inl (h2.trans h1)
  ·exact .inr fun k hk => h1 k (by rw [← h2]; exact hk)
 ·exact .inr fun k hk => Nat.le_trans hab (h2 k hk)
def BWr (b : Bool) (W : World) (v : Value) (wx : World) : Prop := v = .bool b ∧ Ext W wx
theorem RqS.parts {g tb E : Nat} {nb0 : Option Nat} {w0 w : World} {X : Except Err St} (h : RqS g tb nb0 w0 E X w) : ∃ nb, Exc (qB g nb0) w0 w ∧ RqO g tb nb E w X ∧ (nb = nb0 ∨ ∀ k, nb = some k → w0.heap.size ≤ k) := by
 obtain ⟨h1, nb, h2, h3⟩ := h
 exact ⟨nb, h1, h2, h3⟩
end Go.Proofs.YtpfmojeigjmlfaaGreatDoor
namespace Go.Proofs.YtpfmojeigjmlfaaGreatDoor
open Go.RowKit
theorem esc_step {c : UInt8} {r : By} (h : escOK (c :: r) = true) : (specB c = false ∧ c ≠ 92 ∧ escOK r = true) ∨ (c = 92 ∧ ∃ d r', r = d :: r' ∧ specB d = true ∧ escOK r' = true) := by
 cases hc : specB c with
 | false =>
   left
   refine ⟨rfl, by rintro rfl; exact absurd hc (by decide), ?_⟩
   cases r with
   | nil => rfl
   | cons d r => rwa [escOK, if_neg (by rw [hc]; decide)] at h
 | true =>
   right
   cases r with
   | nil => simp only [escOK, hc] at h; exact absurd h (by decide)
   | cons d r =>
     rw [escOK, if_pos hc, Bool.and_eq_true, Bool.and_eq_true] at h
     exact ⟨eq_of_beq h.1.1, d, r, rfl, h.1.2, h.2⟩
def UeI (s : ByteArray) (w : World) (out i : Value) (wr : World) : Prop := ∃ (k : Nat) (acc : By), k ≤ s.size ∧ i = .int .i64 k ∧ acc.length ≤ k ∧ unescP s.data.toList = acc ++ unescP (s.data.toList.drop k) ∧ escOK (s.data.toList.drop k) = true ∧
 wr.ownsRow w.heap.size 5 1 out acc.length (Lib.byteCells acc) ∧ Ext w wr
set_option maxHeartbeats 2000000 in
theorem runesc_any (s : ByteArray) (w : World) (hs : s.size ≤ 4000) (h : escOK s.data.toList = true) : Calls Tryz.prog 115 #[.string s] w fun e w' => e = .returned (.tuple #[.string ⟨(unescP s.data.toList).toArray⟩, .int .i64 0, .int .i64 0]) ∧ Ext w w' := by
 obtain ⟨i0, hi, hz0, hz1, hz2⟩ := info_parts (show (Tryz.prog.info? 5).map (fun i => (i.zero, i.size, i.bytes)) = some (some (.int .u8 0), 1, 1) from by kernel_rfl)
 obtain ⟨R, hR⟩ : ∃ R : ByteArray, R = ⟨(unescP s.data.toList).toArray⟩ := ⟨_, rfl⟩
 rw [← hR]
 have HR := hid hR
 have HES := hid h
 clear hR h
 go_enter Tryz.func115, Tryz.ntmps115
 go_wp2_with fail
 go_loopw [5, 6] (UeI s w) (fun _ i _ => s.size - (intOf i).toNat)
 case atStart => exact ⟨0, [], Nat.zero_le _, rfl, Nat.le_refl _, by rw [List.drop_zero]; rfl, by rw [List.drop_zero]; exact HES.out, World.ownsRow_nil _ _ _ _, Ext.refl _⟩
 case round =>
  obtain ⟨k, acc, hk, rfl, hal, ha, hes, ho, hw⟩ := hrel
  have HO := hid ho
  have HW := hid hw
  have HA := hid ha
  clear ho hw ha
  by_cases hks : k < s.size
  ·have hkI : (k : Int) < (s.size : Int) := by omega
   rw [drop_at hks] at hes
   have HD := hid (drop_at hks)
   have HK := hid (fun W => rspec_any s[k] W)
   rcases esc_step hes with ⟨hc, hc2, hr⟩ | ⟨hc, d, r', hr, hd, hr2⟩
   ·have HF := hid (show unescP s.data.toList = (acc ++ [s[k]]) ++ unescP (s.data.toList.drop (k + 1)) from by rw [HA.out, HD.out, unesc_cons hc2]; simp)
    have HRR := hid hr
    have b1 : ((s[k].toNat : Int) == 92) = false := u8_ne (n := 92) hc2
    rw [hc] at HK
    clear hes hc hc2 hr
    go_wp2_with (first
     | (go_at_call 71; with_reducible refine (HK.out _).mono ?_; rintro e w2 ⟨rfl, rfl⟩)
     | (at_builtin; refine wpList_app _ rfl _ _ 23 rfl w.heap.size 5 i0 _ 1 Tryz.underlying23 hi hz0 hz1 hz2 rfl _ acc.length _ rfl (HO.out.alloc _) _ 1 _ [_] rfl (Sl.one _ _ _) (by simp [Value.oneCell']) (by unfold maxLen; omega) (by omega) (by have := Ext.size HW.out; simp; omega) ?_; intro v4 w4 hown4 hgrow4; have HO4 := hid hown4; have HX4 := hid (ext_grown (a := w) (HW.out.alloc _) (HO.out.alloc _) (Nat.le_refl _) hgrow4); clear hown4 hgrow4))
    refine ⟨⟨k + 1, acc ++ [s[k]], by omega, by go_num, by rw [List.length_append]; simp only [List.length_singleton]; omega, HF.out, HRR.out, ?_, HX4.out⟩, by simp [intOf]; omega⟩
    rw [List.length_append, Lib.byteCells_append]
    exact HO4.out
   ·have hk1 : k + 1 < s.size := by
     have h2 := congrArg List.length hr
     rw [List.length_drop, size_list, List.length_cons] at h2
     omega
    have hk1I : (k : Int) + 1 < (s.size : Int) := by omega
    have hk10 : (0 : Int) ≤ (k : Int) + 1 := by omega
    rw [drop_at hk1] at hr
    injection hr with hr1 hr3
    subst hr1 hr3
    have HF := hid (show unescP s.data.toList = (acc ++ [s[k + 1]]) ++ unescP (s.data.toList.drop (k + 1 + 1)) from by rw [HA.out, HD.out, hc, drop_at hk1, unescP, if_pos (by decide)]; simp)
    have HRR := hid hr2
    have b1 : ((s[k].toNat : Int) == 92) = true := by rw [hc]; rfl
    have HK1 := hid (fun W => rspec_any s[k + 1] W)
    rw [hd] at HK1
    clear hes hc hd hr2
    go_wp2_with (first
     | (go_at_call 71; with_reducible refine (HK1.out _).mono ?_; rintro e w2 ⟨rfl, rfl⟩)
     | (at_builtin; refine wpList_app _ rfl _ _ 23 rfl w.heap.size 5 i0 _ 1 Tryz.underlying23 hi hz0 hz1 hz2 rfl _ acc.length _ rfl (HO.out.alloc _) _ 1 _ [_] rfl (Sl.one _ _ _) (by simp [Value.oneCell']) (by unfold maxLen; omega) (by omega) (by have := Ext.size HW.out; simp; omega) ?_; intro v4 w4 hown4 hgrow4; have HO4 := hid hown4; have HX4 := hid (ext_grown (a := w) (HW.out.alloc _) (HO.out.alloc _) (Nat.le_refl _) hgrow4); clear hown4 hgrow4))
    refine ⟨⟨k + 1 + 1, acc ++ [s[k + 1]], by omega, by first | go_num | (congr 1; omega), by rw [List.length_append]; simp only [List.length_singleton]; omega, HF.out, HRR.out, ?_, HX4.out⟩, by simp [intOf]; omega⟩
    rw [List.length_append, Lib.byteCells_append]
    exact HO4.out
  ·have hkI : ¬ (k : Int) < (s.size : Int) := by omega
   obtain rfl : k = s.size := by omega
   have HF := hid (show unescP s.data.toList = acc from by rw [HA.out, List.drop_eq_nil_of_le (by rw [size_list]; exact Nat.le_refl _)]; simp [unescP])
   obtain ⟨⟨A, n, c, rfl⟩, hcv⟩ := own_string HO.out
   go_wp2
   go_ret3
   exact ⟨by rw [HR.out, HF.out]; rfl, HW.out⟩
end Go.Proofs.YtpfmojeigjmlfaaGreatDoor
