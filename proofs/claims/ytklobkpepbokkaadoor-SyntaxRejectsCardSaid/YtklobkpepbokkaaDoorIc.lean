import Derived.Test.YtklobkpepbokkaaDoorIb
import Derived.Test.YtklobkpepbokkaaDoorTw
namespace Go.Proofs.YtklobkpepbokkaaDoor
open Go.RowKit
set_option linter.unusedSimpArgs false
set_option linter.unusedVariables false

/-! The tokens of a text, by the reference. -/
theorem own_at {wr W w4 : World} {B : Nat} {e T : TypeId} {size n g : Nat} {v : Value} {xs : List Value} {cs : Array Value} (hl : wr.ownsRow B e size v n xs) (h : AtC T W g cs) (hg : W.grownBy w4 v.ownBlock) (hge : wr.heap.size ≤ g) : AtC T w4 g cs := by
  refine (hg.block g h.lt (fun e => ?_)).trans h
  have := (hl.lt g e.symm).2
  omega
theorem pltP_none {ls : By} {d : Nat} (h : pltP ls d = none) : nextP ls false = none ∨ ∃ x m, nextP ls false = some (3, x, m) ∧ d = 0 := by
  unfold pltP at h
  cases hn : nextP ls false with
  | none => exact .inl rfl
  | some y =>
    obtain ⟨k, x, m⟩ := y
    rw [hn] at h
    simp only [] at h
    split at h
    · rename_i hk
      obtain ⟨rfl, h2⟩ := hk
      exact .inr ⟨x, m, rfl, h2⟩
    · cases h
theorem pltP_some {ls : By} {d k m : Nat} {x : By} (h : pltP ls d = some (k, x, m)) : nextP ls false = some (k, x, m) ∧ ¬ (k = 3 ∧ d = 0) := by
  unfold pltP at h
  cases hn : nextP ls false with
  | none => rw [hn] at h; cases h
  | some y =>
    obtain ⟨k', x', m'⟩ := y
    rw [hn] at h
    simp only [] at h
    split at h
    · cases h
    · rename_i hk
      injection h with h
      injection h with h1 h
      injection h with h2 h3
      subst h1 h2 h3
      exact ⟨rfl, hk⟩
def RkI (w : World) (s : ByteArray) (R : List Tok × Nat × Int) (l i dv : Value) (wr : World) : Prop :=
  ∃ (k d n : Nat) (ts : List Tok), k ≤ s.size ∧ i = .int .i64 k ∧ dv = .int .i64 d ∧ s.size - k < n ∧ d ≤ k ∧ ts.length ≤ k ∧ R = ahdT ts (toksP n (s.data.toList.drop k) k d) ∧ wr.ownsRow w.heap.size 50 4 l ts.length (ts.flatMap tokC) ∧ Ext w wr
set_option maxHeartbeats 8000000 in
set_option maxRecDepth 100000 in
theorem rtokens_any (s : ByteArray) (w : World) (hs : s.size ≤ 1048576) : Calls Tryd.prog 11 #[.string s] w (RetTk w (tokensP s.data.toList)) := by
  obtain ⟨i0, hi, hz0, hz1, hz2⟩ := info_parts (show (Tryd.prog.info? 50).map (fun i => (i.zero, i.size, i.bytes)) = some (some (.agg #[.int .i64 0, .string ⟨#[]⟩, .int .i64 0, .int .i64 0]), 4, 40) from by kernel_rfl)
  obtain ⟨R, hR⟩ : ∃ R, R = tokensP s.data.toList := ⟨_, rfl⟩
  rw [← hR]
  unfold tokensP at hR
  rw [size_list] at hR
  by_cases h4 : 4000 < s.size
  · rw [if_pos h4] at hR
    have HF := Lib.hid hR
    have h4I : (4000 : Int) < (s.size : Int) := by omega
    clear hR
    go_enter Tryd.func11, Tryd.ntmps11
    go_wp2
    go_ret3
    exact ret_tk_bad HF.out rfl (Ext.refl w)
  rw [if_neg h4] at hR
  have h4I : ¬ (4000 : Int) < (s.size : Int) := by omega
  have h4b : s.size ≤ 4000 := by omega
  have HR := Lib.hid (hR.trans (ahd_start _ (toks_code _ _ _ _)))
  clear hR
  go_enter Tryd.func11, Tryd.ntmps11
  go_wp2_with fail
  go_loopw [5, 6, 7] (RkI w s R) (fun _ i _ _ => s.size - (intOf i).toNat)
  case atStart => exact ⟨0, 0, s.size + 1, [], Nat.zero_le _, rfl, rfl, by omega, Nat.le_refl _, Nat.le_refl _, by rw [List.drop_zero]; exact HR.out, World.ownsRow_nil _ _ _ _, Ext.refl _⟩
  case round =>
    obtain ⟨k, d, n, ts, hk, rfl, rfl, hn, hd, hts, hR, hl, hw⟩ := hrel
    have HW := Lib.hid hw
    have HL := Lib.hid hl
    clear hw HR
    by_cases hks : k < s.size
    rotate_left
    · obtain rfl : k = s.size := by omega
      obtain ⟨n, rfl⟩ : ∃ n', n = n' + 1 := ⟨n - 1, by omega⟩
      rw [show s.data.toList.drop s.size = [] from by rw [← size_list, List.drop_length], ahd_end] at hR
      have hlI : ¬ (s.size : Int) < (s.size : Int) := by omega
      obtain ⟨Al, cl, rfl, hsl⟩ := own_slN hl
      have HSL := Lib.hid hsl
      have HLT := Lib.hid (fun ad (h : Al = some ad) => (hl.lt ad.block (by rw [h]; rfl)).2)
      clear hl hsl
      by_cases h0 : 0 < d
      · rw [if_pos h0] at hR
        have HF := Lib.hid hR
        have h0I : (0 : Int) < (d : Int) := by omega
        clear hR
        go_wp2
        go_ret3
        exact ret_tk_bad HF.out rfl HW.out
      · rw [if_neg h0] at hR
        have HF := Lib.hid hR
        obtain rfl : d = 0 := by omega
        clear hR
        go_wp2
        go_ret3
        rw [HF.out]
        exact ⟨Al, cl, rfl, HSL.out, HW.out, HLT.out⟩
    have hkI : (k : Int) < (s.size : Int) := by omega
    have hkL : (k : Int) ≤ (s.size : Int) := by omega
    have hdr := drop_at hks
    have HLS := Lib.hid hdr
    obtain ⟨n, rfl⟩ : ∃ n', n = n' + 1 := ⟨n - 1, by omega⟩
    rw [hdr] at hR
    have HRR := Lib.hid hR
    clear hR hdr hl
    rcases Nat.mod_two_eq_zero_or_one d with ho | ho
    · have hwm : (d : Int) % 2 = 0 := by omega
      have HOD := Lib.hid (show false = (d % 2 == 1) from by rw [ho]; rfl)
      have HBL := Lib.hid (show (d % 2 == 1 && blankB s[k]) = false from by rw [ho]; rfl)
      have KN := Lib.hid (fun W => rplain_any s k d W hs hks)
      have HX1 := Lib.hid ((Ext.refl wr).alloc (.cells #[.int .i64 0, .string ⟨#[]⟩, .int .i64 0, .int .i64 0] 50))
      have HB1 := Lib.hid (AtC.new wr #[.int .i64 0, .string ⟨#[]⟩, .int .i64 0, .int .i64 0] : AtC 50 _ _ _)
      clear ho
      generalize hnx : pltP (s.data.toList.drop k) d = nx at KN
      rw [HLS.out] at hnx
      rcases nx with _ | ⟨kk, x, m⟩
      · have HF := Lib.hid (show R = ([], k, 3) from by
          rcases pltP_none hnx with h | ⟨x, m, h, rfl⟩
          · exact HRR.out.trans (ahd_bad HBL.out (by rw [← HOD.out]; exact h))
          · exact HRR.out.trans (ahd_shut h))
        rw [rtV] at KN
        clear hnx
        go_wp2_with fail
        refine (KN.out _).mono ?_
        rintro e w2 ⟨rfl, hx2⟩
        have HX2 := Lib.hid (Ext.trans HX1.out hx2)
        have HB2 := Lib.hid (HB1.out.ext hx2)
        clear hx2 KN
        have r0 := HB2.out.cell 0 _ rfl
        have r1 := HB2.out.cell 1 _ rfl
        have r2 := HB2.out.cell 2 _ rfl
        have r3 := HB2.out.cell 3 _ rfl
        have u0 := frz_of HB2.out 0
        have u1 := frz_of HB2.out 1
        have u2 := frz_of HB2.out 2
        have u3 := frz_of HB2.out 3
        go_wp2
        go_ret3
        exact ret_tk_bad HF.out rfl (HW.out.trans (ext_four HX2.out (Nat.le_refl _)))
      obtain ⟨hn1, hn2⟩ := pltP_some hnx
      have HNX := Lib.hid hn1
      have HNK := Lib.hid hn2
      clear hn1 hn2 hnx
      have hm2 : 1 ≤ m ∧ k + m ≤ s.size := by
        have hm := nextP_some HNX.out
        have h := congrArg List.length HLS.out
        rw [List.length_drop, size_list] at h
        omega
      have hk1 := nextP_pos HNX.out
      rw [rtV] at KN
      have HR3 := Lib.hid (HRR.out.trans (ahd_tok HBL.out (by rw [← HOD.out]; exact HNX.out) HNK.out))
      rw [← HLS.out, List.drop_drop] at HR3
      have b0 : ((kk : Int) == 0) = false := by rw [beq_eq_false_iff_ne]; omega
      by_cases h2 : kk = 2
      · subst h2
        rw [show deepN 2 d = d + 1 from rfl] at HR3
        clear b0
        go_wp2_with fail
        refine (KN.out _).mono ?_
        rintro e w2 ⟨rfl, hx2⟩
        have HX2 := Lib.hid (Ext.trans HX1.out hx2)
        have HB2 := Lib.hid (HB1.out.ext hx2)
        clear hx2 KN
        have hz3 : ((((w2.setCell ⟨wr.heap.size, 0, none⟩ (.int .i64 2)).setCell ⟨wr.heap.size, 1, none⟩ (.string ⟨x.toArray⟩)).setCell ⟨wr.heap.size, 2, none⟩ (.int .i64 k)).setCell ⟨wr.heap.size, 3, none⟩ (.int .i64 ((k : Int) + (m : Int)))).heap.size = w2.heap.size := by simp [World.setCell]
        have HX3 := Lib.hid (show Ext wr ((((w2.setCell ⟨wr.heap.size, 0, none⟩ (.int .i64 2)).setCell ⟨wr.heap.size, 1, none⟩ (.string ⟨x.toArray⟩)).setCell ⟨wr.heap.size, 2, none⟩ (.int .i64 k)).setCell ⟨wr.heap.size, 3, none⟩ (.int .i64 ((k : Int) + (m : Int)))) from ext_four HX2.out (Nat.le_refl _))
        have HAT := Lib.hid (at_four (b0 := .int .i64 2) (b1 := .string ⟨x.toArray⟩) (b2 := .int .i64 k) (b3 := .int .i64 ((k : Int) + (m : Int))) HB2.out)
        have HY3 := Lib.hid (HX3.out.trans ((Ext.refl _).alloc (.cells #[.int .i64 2, .string ⟨x.toArray⟩, .int .i64 k, .int .i64 ((k : Int) + (m : Int))] 50)))
        have HNC : Hid (∀ j u, (tokC ⟨2, x, k, k + m⟩)[j]? = some u → (((((w2.setCell ⟨wr.heap.size, 0, none⟩ (.int .i64 2)).setCell ⟨wr.heap.size, 1, none⟩ (.string ⟨x.toArray⟩)).setCell ⟨wr.heap.size, 2, none⟩ (.int .i64 k)).setCell ⟨wr.heap.size, 3, none⟩ (.int .i64 ((k : Int) + (m : Int)))).alloc (.cells #[.int .i64 2, .string ⟨x.toArray⟩, .int .i64 k, .int .i64 ((k : Int) + (m : Int))] 50)).cell? ((⟨w2.heap.size, 0, none⟩ : Addr).add j) = some u) := Lib.hid (by
          have h := new_cells ((((w2.setCell ⟨wr.heap.size, 0, none⟩ (.int .i64 2)).setCell ⟨wr.heap.size, 1, none⟩ (.string ⟨x.toArray⟩)).setCell ⟨wr.heap.size, 2, none⟩ (.int .i64 k)).setCell ⟨wr.heap.size, 3, none⟩ (.int .i64 ((k : Int) + (m : Int)))) #[.int .i64 2, .string ⟨x.toArray⟩, .int .i64 k, .int .i64 ((k : Int) + (m : Int))] 50
          rw [hz3] at h
          exact h)
        have HOX := Lib.hid (own_ext HL.out HY3.out)
        have HZ := Lib.hid (HW.out.trans HY3.out)
        have HAX := Lib.hid (HAT.out.alloc (.cells #[.int .i64 2, .string ⟨x.toArray⟩, .int .i64 k, .int .i64 ((k : Int) + (m : Int))] 50))
        have HL0 := HL
        clear hz3
        have r0 := HB2.out.cell 0 _ rfl
        have r1 := HB2.out.cell 1 _ rfl
        have r2 := HB2.out.cell 2 _ rfl
        have r3 := HB2.out.cell 3 _ rfl
        have u0 := frz_of HB2.out 0
        have u1 := frz_of HB2.out 1
        have u2 := frz_of HB2.out 2
        have u3 := frz_of HB2.out 3
        go_wp2_with (at_builtin; refine wpList_appN _ rfl _ _ 32 rfl w.heap.size 50 i0 _ 4 40 Tryd.underlying32 hi hz0 hz1 hz2 rfl (by decide) _ ts.length _ rfl HOX.out ⟨w2.heap.size, 0, none⟩ 1 1 _ rfl rfl HNC.out (tok_one1 2 x k m) (by unfold maxLen; omega) (by omega) HZ.out.size ?_; intro v4 w4 hown4 hgrow4 hwhere4; have HO4 := Lib.hid hown4; have HG4 := Lib.hid hgrow4; have z3 := (own_at HL.out HAX.out hgrow4 (Nat.le_refl _)).cell 3 _ rfl; clear hown4 hgrow4 hwhere4 r0 r1 r2 r3 u0 u1 u2 u3)
        exact ⟨⟨k + m, d + 1, n, ts ++ [⟨2, x, k, k + m⟩], hm2.2, by first | rfl | go_num, by go_num, by omega, by omega, by rw [List.length_append]; exact Nat.le_trans (Nat.add_le_add_left (Nat.le_refl 1) _) (by omega), HR3.out, by rw [flat_snoc, List.length_append]; exact HO4.out, ext_grown HZ.out HOX.out (Nat.le_refl _) HG4.out⟩, by simp [intOf]; omega⟩
      have k2 : ((kk : Int) == 2) = false := by rw [beq_eq_false_iff_ne]; omega
      by_cases h3 : kk = 3
      · subst h3
        rcases d with _ | d
        · exact absurd ⟨rfl, rfl⟩ HNK.out
        rw [show deepN 3 (d + 1) = d from rfl] at HR3
        clear b0 k2
        go_wp2_with fail
        refine (KN.out _).mono ?_
        rintro e w2 ⟨rfl, hx2⟩
        have HX2 := Lib.hid (Ext.trans HX1.out hx2)
        have HB2 := Lib.hid (HB1.out.ext hx2)
        clear hx2 KN
        have hz3 : ((((w2.setCell ⟨wr.heap.size, 0, none⟩ (.int .i64 3)).setCell ⟨wr.heap.size, 1, none⟩ (.string ⟨x.toArray⟩)).setCell ⟨wr.heap.size, 2, none⟩ (.int .i64 k)).setCell ⟨wr.heap.size, 3, none⟩ (.int .i64 ((k : Int) + (m : Int)))).heap.size = w2.heap.size := by simp [World.setCell]
        have HX3 := Lib.hid (show Ext wr ((((w2.setCell ⟨wr.heap.size, 0, none⟩ (.int .i64 3)).setCell ⟨wr.heap.size, 1, none⟩ (.string ⟨x.toArray⟩)).setCell ⟨wr.heap.size, 2, none⟩ (.int .i64 k)).setCell ⟨wr.heap.size, 3, none⟩ (.int .i64 ((k : Int) + (m : Int)))) from ext_four HX2.out (Nat.le_refl _))
        have HAT := Lib.hid (at_four (b0 := .int .i64 3) (b1 := .string ⟨x.toArray⟩) (b2 := .int .i64 k) (b3 := .int .i64 ((k : Int) + (m : Int))) HB2.out)
        have HY3 := Lib.hid (HX3.out.trans ((Ext.refl _).alloc (.cells #[.int .i64 3, .string ⟨x.toArray⟩, .int .i64 k, .int .i64 ((k : Int) + (m : Int))] 50)))
        have HNC : Hid (∀ j u, (tokC ⟨3, x, k, k + m⟩)[j]? = some u → (((((w2.setCell ⟨wr.heap.size, 0, none⟩ (.int .i64 3)).setCell ⟨wr.heap.size, 1, none⟩ (.string ⟨x.toArray⟩)).setCell ⟨wr.heap.size, 2, none⟩ (.int .i64 k)).setCell ⟨wr.heap.size, 3, none⟩ (.int .i64 ((k : Int) + (m : Int)))).alloc (.cells #[.int .i64 3, .string ⟨x.toArray⟩, .int .i64 k, .int .i64 ((k : Int) + (m : Int))] 50)).cell? ((⟨w2.heap.size, 0, none⟩ : Addr).add j) = some u) := Lib.hid (by
          have h := new_cells ((((w2.setCell ⟨wr.heap.size, 0, none⟩ (.int .i64 3)).setCell ⟨wr.heap.size, 1, none⟩ (.string ⟨x.toArray⟩)).setCell ⟨wr.heap.size, 2, none⟩ (.int .i64 k)).setCell ⟨wr.heap.size, 3, none⟩ (.int .i64 ((k : Int) + (m : Int)))) #[.int .i64 3, .string ⟨x.toArray⟩, .int .i64 k, .int .i64 ((k : Int) + (m : Int))] 50
          rw [hz3] at h
          exact h)
        have HOX := Lib.hid (own_ext HL.out HY3.out)
        have HZ := Lib.hid (HW.out.trans HY3.out)
        have HAX := Lib.hid (HAT.out.alloc (.cells #[.int .i64 3, .string ⟨x.toArray⟩, .int .i64 k, .int .i64 ((k : Int) + (m : Int))] 50))
        have HL0 := HL
        clear hz3
        have r0 := HB2.out.cell 0 _ rfl
        have r1 := HB2.out.cell 1 _ rfl
        have r2 := HB2.out.cell 2 _ rfl
        have r3 := HB2.out.cell 3 _ rfl
        have u0 := frz_of HB2.out 0
        have u1 := frz_of HB2.out 1
        have u2 := frz_of HB2.out 2
        have u3 := frz_of HB2.out 3
        go_wp2_with (at_builtin; refine wpList_appN _ rfl _ _ 32 rfl w.heap.size 50 i0 _ 4 40 Tryd.underlying32 hi hz0 hz1 hz2 rfl (by decide) _ ts.length _ rfl HOX.out ⟨w2.heap.size, 0, none⟩ 1 1 _ rfl rfl HNC.out (tok_one1 3 x k m) (by unfold maxLen; omega) (by omega) HZ.out.size ?_; intro v4 w4 hown4 hgrow4 hwhere4; have HO4 := Lib.hid hown4; have HG4 := Lib.hid hgrow4; have z3 := (own_at HL.out HAX.out hgrow4 (Nat.le_refl _)).cell 3 _ rfl; clear hown4 hgrow4 hwhere4 r0 r1 r2 r3 u0 u1 u2 u3)
        exact ⟨⟨k + m, d, n, ts ++ [⟨3, x, k, k + m⟩], hm2.2, by first | rfl | go_num, by first | go_num | (congr 1; omega), by omega, by omega, by rw [List.length_append]; exact Nat.le_trans (Nat.add_le_add_left (Nat.le_refl 1) _) (by omega), HR3.out, by rw [flat_snoc, List.length_append]; exact HO4.out, ext_grown HZ.out HOX.out (Nat.le_refl _) HG4.out⟩, by simp [intOf]; omega⟩
      have k3 : ((kk : Int) == 3) = false := by rw [beq_eq_false_iff_ne]; omega
      rw [show deepN kk d = d from by unfold deepN; rw [if_neg h2, if_neg h3]] at HR3
      clear h2 h3
      go_wp2_with fail
      refine (KN.out _).mono ?_
      rintro e w2 ⟨rfl, hx2⟩
      have HX2 := Lib.hid (Ext.trans HX1.out hx2)
      have HB2 := Lib.hid (HB1.out.ext hx2)
      clear hx2 KN
      have hz3 : ((((w2.setCell ⟨wr.heap.size, 0, none⟩ (.int .i64 kk)).setCell ⟨wr.heap.size, 1, none⟩ (.string ⟨x.toArray⟩)).setCell ⟨wr.heap.size, 2, none⟩ (.int .i64 k)).setCell ⟨wr.heap.size, 3, none⟩ (.int .i64 ((k : Int) + (m : Int)))).heap.size = w2.heap.size := by simp [World.setCell]
      have HX3 := Lib.hid (show Ext wr ((((w2.setCell ⟨wr.heap.size, 0, none⟩ (.int .i64 kk)).setCell ⟨wr.heap.size, 1, none⟩ (.string ⟨x.toArray⟩)).setCell ⟨wr.heap.size, 2, none⟩ (.int .i64 k)).setCell ⟨wr.heap.size, 3, none⟩ (.int .i64 ((k : Int) + (m : Int)))) from ext_four HX2.out (Nat.le_refl _))
      have HAT := Lib.hid (at_four (b0 := .int .i64 kk) (b1 := .string ⟨x.toArray⟩) (b2 := .int .i64 k) (b3 := .int .i64 ((k : Int) + (m : Int))) HB2.out)
      have HY3 := Lib.hid (HX3.out.trans ((Ext.refl _).alloc (.cells #[.int .i64 kk, .string ⟨x.toArray⟩, .int .i64 k, .int .i64 ((k : Int) + (m : Int))] 50)))
      have HNC : Hid (∀ j u, (tokC ⟨kk, x, k, k + m⟩)[j]? = some u → (((((w2.setCell ⟨wr.heap.size, 0, none⟩ (.int .i64 kk)).setCell ⟨wr.heap.size, 1, none⟩ (.string ⟨x.toArray⟩)).setCell ⟨wr.heap.size, 2, none⟩ (.int .i64 k)).setCell ⟨wr.heap.size, 3, none⟩ (.int .i64 ((k : Int) + (m : Int)))).alloc (.cells #[.int .i64 kk, .string ⟨x.toArray⟩, .int .i64 k, .int .i64 ((k : Int) + (m : Int))] 50)).cell? ((⟨w2.heap.size, 0, none⟩ : Addr).add j) = some u) := Lib.hid (by
        have h := new_cells ((((w2.setCell ⟨wr.heap.size, 0, none⟩ (.int .i64 kk)).setCell ⟨wr.heap.size, 1, none⟩ (.string ⟨x.toArray⟩)).setCell ⟨wr.heap.size, 2, none⟩ (.int .i64 k)).setCell ⟨wr.heap.size, 3, none⟩ (.int .i64 ((k : Int) + (m : Int)))) #[.int .i64 kk, .string ⟨x.toArray⟩, .int .i64 k, .int .i64 ((k : Int) + (m : Int))] 50
        rw [hz3] at h
        exact h)
      have HOX := Lib.hid (own_ext HL.out HY3.out)
      have HZ := Lib.hid (HW.out.trans HY3.out)
      have HAX := Lib.hid (HAT.out.alloc (.cells #[.int .i64 kk, .string ⟨x.toArray⟩, .int .i64 k, .int .i64 ((k : Int) + (m : Int))] 50))
      have HL0 := HL
      clear hz3
      have r0 := HB2.out.cell 0 _ rfl
      have r1 := HB2.out.cell 1 _ rfl
      have r2 := HB2.out.cell 2 _ rfl
      have r3 := HB2.out.cell 3 _ rfl
      have u0 := frz_of HB2.out 0
      have u1 := frz_of HB2.out 1
      have u2 := frz_of HB2.out 2
      have u3 := frz_of HB2.out 3
      go_wp2_with (at_builtin; refine wpList_appN _ rfl _ _ 32 rfl w.heap.size 50 i0 _ 4 40 Tryd.underlying32 hi hz0 hz1 hz2 rfl (by decide) _ ts.length _ rfl HOX.out ⟨w2.heap.size, 0, none⟩ 1 1 _ rfl rfl HNC.out (tok_one1 kk x k m) (by unfold maxLen; omega) (by omega) HZ.out.size ?_; intro v4 w4 hown4 hgrow4 hwhere4; have HO4 := Lib.hid hown4; have HG4 := Lib.hid hgrow4; have z3 := (own_at HL.out HAX.out hgrow4 (Nat.le_refl _)).cell 3 _ rfl; clear hown4 hgrow4 hwhere4 r0 r1 r2 r3 u0 u1 u2 u3)
      exact ⟨⟨k + m, d, n, ts ++ [⟨kk, x, k, k + m⟩], hm2.2, by first | rfl | go_num, rfl, by omega, by omega, by rw [List.length_append]; exact Nat.le_trans (Nat.add_le_add_left (Nat.le_refl 1) _) (by omega), HR3.out, by rw [flat_snoc, List.length_append]; exact HO4.out, ext_grown HZ.out HOX.out (Nat.le_refl _) HG4.out⟩, by simp [intOf]; omega⟩
    · have hwm : (d : Int) % 2 = 1 := by omega
      have HOD := Lib.hid (show true = (d % 2 == 1) from by rw [ho]; rfl)
      have KB := Lib.hid (fun W => rblank_any s[k] W)
      cases hb : blankB s[k]
      rotate_left
      · rw [hb] at KB
        have HR2 := Lib.hid (HRR.out.trans (ahd_blank (by rw [ho, hb]; rfl)))
        clear hb ho
        go_wp2_with fail
        refine (KB.out _).mono ?_
        rintro e w2 ⟨rfl, rfl⟩
        go_wp2
        exact ⟨⟨k + 1, d, n, ts, hks, by go_num, rfl, by omega, by omega, by omega, HR2.out, HL.out, HW.out⟩, by simp [intOf]; omega⟩
      rw [hb] at KB
      have HBL := Lib.hid (show (d % 2 == 1 && blankB s[k]) = false from by rw [hb, Bool.and_false])
      have HD0 := Lib.hid (show d ≠ 0 from by intro e; rw [e] at ho; exact absurd ho (by decide))
      have KN := Lib.hid (fun W => rbraces_any s k W hs hks)
      have HX1 := Lib.hid ((Ext.refl wr).alloc (.cells #[.int .i64 0, .string ⟨#[]⟩, .int .i64 0, .int .i64 0] 50))
      have HB1 := Lib.hid (AtC.new wr #[.int .i64 0, .string ⟨#[]⟩, .int .i64 0, .int .i64 0] : AtC 50 _ _ _)
      clear ho hb
      generalize hnx : nextP (s.data.toList.drop k) true = nx at KN
      rw [HLS.out] at hnx
      have HNX := Lib.hid hnx
      clear hnx
      rcases nx with _ | ⟨kk, x, m⟩
      · have HF := Lib.hid (show R = ([], k, 3) from HRR.out.trans (ahd_bad HBL.out (by rw [← HOD.out]; exact HNX.out)))
        rw [rtV] at KN
        go_wp2_with fail
        refine (KB.out _).mono ?_
        rintro e wb ⟨rfl, rfl⟩
        go_wp2_with fail
        refine (KN.out _).mono ?_
        rintro e w2 ⟨rfl, hx2⟩
        have HX2 := Lib.hid (Ext.trans HX1.out hx2)
        have HB2 := Lib.hid (HB1.out.ext hx2)
        clear hx2 KN
        have r0 := HB2.out.cell 0 _ rfl
        have r1 := HB2.out.cell 1 _ rfl
        have r2 := HB2.out.cell 2 _ rfl
        have r3 := HB2.out.cell 3 _ rfl
        have u0 := frz_of HB2.out 0
        have u1 := frz_of HB2.out 1
        have u2 := frz_of HB2.out 2
        have u3 := frz_of HB2.out 3
        go_wp2
        go_ret3
        exact ret_tk_bad HF.out rfl (HW.out.trans (ext_four HX2.out (Nat.le_refl _)))
      have HNK := Lib.hid (show ¬ (kk = 3 ∧ d = 0) from fun e => HD0.out e.2)
      have hm2 : 1 ≤ m ∧ k + m ≤ s.size := by
        have hm := nextP_some HNX.out
        have h := congrArg List.length HLS.out
        rw [List.length_drop, size_list] at h
        omega
      have hk1 := nextP_pos HNX.out
      rw [rtV] at KN
      have HR3 := Lib.hid (HRR.out.trans (ahd_tok HBL.out (by rw [← HOD.out]; exact HNX.out) HNK.out))
      rw [← HLS.out, List.drop_drop] at HR3
      have b0 : ((kk : Int) == 0) = false := by rw [beq_eq_false_iff_ne]; omega
      by_cases h2 : kk = 2
      · subst h2
        rw [show deepN 2 d = d + 1 from rfl] at HR3
        clear b0
        go_wp2_with fail
        refine (KB.out _).mono ?_
        rintro e wb ⟨rfl, rfl⟩
        go_wp2_with fail
        refine (KN.out _).mono ?_
        rintro e w2 ⟨rfl, hx2⟩
        have HX2 := Lib.hid (Ext.trans HX1.out hx2)
        have HB2 := Lib.hid (HB1.out.ext hx2)
        clear hx2 KN
        have hz3 : ((((w2.setCell ⟨wr.heap.size, 0, none⟩ (.int .i64 2)).setCell ⟨wr.heap.size, 1, none⟩ (.string ⟨x.toArray⟩)).setCell ⟨wr.heap.size, 2, none⟩ (.int .i64 k)).setCell ⟨wr.heap.size, 3, none⟩ (.int .i64 ((k : Int) + (m : Int)))).heap.size = w2.heap.size := by simp [World.setCell]
        have HX3 := Lib.hid (show Ext wr ((((w2.setCell ⟨wr.heap.size, 0, none⟩ (.int .i64 2)).setCell ⟨wr.heap.size, 1, none⟩ (.string ⟨x.toArray⟩)).setCell ⟨wr.heap.size, 2, none⟩ (.int .i64 k)).setCell ⟨wr.heap.size, 3, none⟩ (.int .i64 ((k : Int) + (m : Int)))) from ext_four HX2.out (Nat.le_refl _))
        have HAT := Lib.hid (at_four (b0 := .int .i64 2) (b1 := .string ⟨x.toArray⟩) (b2 := .int .i64 k) (b3 := .int .i64 ((k : Int) + (m : Int))) HB2.out)
        have HY3 := Lib.hid (HX3.out.trans ((Ext.refl _).alloc (.cells #[.int .i64 2, .string ⟨x.toArray⟩, .int .i64 k, .int .i64 ((k : Int) + (m : Int))] 50)))
        have HNC : Hid (∀ j u, (tokC ⟨2, x, k, k + m⟩)[j]? = some u → (((((w2.setCell ⟨wr.heap.size, 0, none⟩ (.int .i64 2)).setCell ⟨wr.heap.size, 1, none⟩ (.string ⟨x.toArray⟩)).setCell ⟨wr.heap.size, 2, none⟩ (.int .i64 k)).setCell ⟨wr.heap.size, 3, none⟩ (.int .i64 ((k : Int) + (m : Int)))).alloc (.cells #[.int .i64 2, .string ⟨x.toArray⟩, .int .i64 k, .int .i64 ((k : Int) + (m : Int))] 50)).cell? ((⟨w2.heap.size, 0, none⟩ : Addr).add j) = some u) := Lib.hid (by
          have h := new_cells ((((w2.setCell ⟨wr.heap.size, 0, none⟩ (.int .i64 2)).setCell ⟨wr.heap.size, 1, none⟩ (.string ⟨x.toArray⟩)).setCell ⟨wr.heap.size, 2, none⟩ (.int .i64 k)).setCell ⟨wr.heap.size, 3, none⟩ (.int .i64 ((k : Int) + (m : Int)))) #[.int .i64 2, .string ⟨x.toArray⟩, .int .i64 k, .int .i64 ((k : Int) + (m : Int))] 50
          rw [hz3] at h
          exact h)
        have HOX := Lib.hid (own_ext HL.out HY3.out)
        have HZ := Lib.hid (HW.out.trans HY3.out)
        have HAX := Lib.hid (HAT.out.alloc (.cells #[.int .i64 2, .string ⟨x.toArray⟩, .int .i64 k, .int .i64 ((k : Int) + (m : Int))] 50))
        have HL0 := HL
        clear hz3
        have r0 := HB2.out.cell 0 _ rfl
        have r1 := HB2.out.cell 1 _ rfl
        have r2 := HB2.out.cell 2 _ rfl
        have r3 := HB2.out.cell 3 _ rfl
        have u0 := frz_of HB2.out 0
        have u1 := frz_of HB2.out 1
        have u2 := frz_of HB2.out 2
        have u3 := frz_of HB2.out 3
        go_wp2_with (at_builtin; refine wpList_appN _ rfl _ _ 32 rfl w.heap.size 50 i0 _ 4 40 Tryd.underlying32 hi hz0 hz1 hz2 rfl (by decide) _ ts.length _ rfl HOX.out ⟨w2.heap.size, 0, none⟩ 1 1 _ rfl rfl HNC.out (tok_one1 2 x k m) (by unfold maxLen; omega) (by omega) HZ.out.size ?_; intro v4 w4 hown4 hgrow4 hwhere4; have HO4 := Lib.hid hown4; have HG4 := Lib.hid hgrow4; have z3 := (own_at HL.out HAX.out hgrow4 (Nat.le_refl _)).cell 3 _ rfl; clear hown4 hgrow4 hwhere4 r0 r1 r2 r3 u0 u1 u2 u3)
        exact ⟨⟨k + m, d + 1, n, ts ++ [⟨2, x, k, k + m⟩], hm2.2, by first | rfl | go_num, by go_num, by omega, by omega, by rw [List.length_append]; exact Nat.le_trans (Nat.add_le_add_left (Nat.le_refl 1) _) (by omega), HR3.out, by rw [flat_snoc, List.length_append]; exact HO4.out, ext_grown HZ.out HOX.out (Nat.le_refl _) HG4.out⟩, by simp [intOf]; omega⟩
      have k2 : ((kk : Int) == 2) = false := by rw [beq_eq_false_iff_ne]; omega
      by_cases h3 : kk = 3
      · subst h3
        rcases d with _ | d
        · exact absurd ⟨rfl, rfl⟩ HNK.out
        rw [show deepN 3 (d + 1) = d from rfl] at HR3
        clear b0 k2
        go_wp2_with fail
        refine (KB.out _).mono ?_
        rintro e wb ⟨rfl, rfl⟩
        go_wp2_with fail
        refine (KN.out _).mono ?_
        rintro e w2 ⟨rfl, hx2⟩
        have HX2 := Lib.hid (Ext.trans HX1.out hx2)
        have HB2 := Lib.hid (HB1.out.ext hx2)
        clear hx2 KN
        have hz3 : ((((w2.setCell ⟨wr.heap.size, 0, none⟩ (.int .i64 3)).setCell ⟨wr.heap.size, 1, none⟩ (.string ⟨x.toArray⟩)).setCell ⟨wr.heap.size, 2, none⟩ (.int .i64 k)).setCell ⟨wr.heap.size, 3, none⟩ (.int .i64 ((k : Int) + (m : Int)))).heap.size = w2.heap.size := by simp [World.setCell]
        have HX3 := Lib.hid (show Ext wr ((((w2.setCell ⟨wr.heap.size, 0, none⟩ (.int .i64 3)).setCell ⟨wr.heap.size, 1, none⟩ (.string ⟨x.toArray⟩)).setCell ⟨wr.heap.size, 2, none⟩ (.int .i64 k)).setCell ⟨wr.heap.size, 3, none⟩ (.int .i64 ((k : Int) + (m : Int)))) from ext_four HX2.out (Nat.le_refl _))
        have HAT := Lib.hid (at_four (b0 := .int .i64 3) (b1 := .string ⟨x.toArray⟩) (b2 := .int .i64 k) (b3 := .int .i64 ((k : Int) + (m : Int))) HB2.out)
        have HY3 := Lib.hid (HX3.out.trans ((Ext.refl _).alloc (.cells #[.int .i64 3, .string ⟨x.toArray⟩, .int .i64 k, .int .i64 ((k : Int) + (m : Int))] 50)))
        have HNC : Hid (∀ j u, (tokC ⟨3, x, k, k + m⟩)[j]? = some u → (((((w2.setCell ⟨wr.heap.size, 0, none⟩ (.int .i64 3)).setCell ⟨wr.heap.size, 1, none⟩ (.string ⟨x.toArray⟩)).setCell ⟨wr.heap.size, 2, none⟩ (.int .i64 k)).setCell ⟨wr.heap.size, 3, none⟩ (.int .i64 ((k : Int) + (m : Int)))).alloc (.cells #[.int .i64 3, .string ⟨x.toArray⟩, .int .i64 k, .int .i64 ((k : Int) + (m : Int))] 50)).cell? ((⟨w2.heap.size, 0, none⟩ : Addr).add j) = some u) := Lib.hid (by
          have h := new_cells ((((w2.setCell ⟨wr.heap.size, 0, none⟩ (.int .i64 3)).setCell ⟨wr.heap.size, 1, none⟩ (.string ⟨x.toArray⟩)).setCell ⟨wr.heap.size, 2, none⟩ (.int .i64 k)).setCell ⟨wr.heap.size, 3, none⟩ (.int .i64 ((k : Int) + (m : Int)))) #[.int .i64 3, .string ⟨x.toArray⟩, .int .i64 k, .int .i64 ((k : Int) + (m : Int))] 50
          rw [hz3] at h
          exact h)
        have HOX := Lib.hid (own_ext HL.out HY3.out)
        have HZ := Lib.hid (HW.out.trans HY3.out)
        have HAX := Lib.hid (HAT.out.alloc (.cells #[.int .i64 3, .string ⟨x.toArray⟩, .int .i64 k, .int .i64 ((k : Int) + (m : Int))] 50))
        have HL0 := HL
        clear hz3
        have r0 := HB2.out.cell 0 _ rfl
        have r1 := HB2.out.cell 1 _ rfl
        have r2 := HB2.out.cell 2 _ rfl
        have r3 := HB2.out.cell 3 _ rfl
        have u0 := frz_of HB2.out 0
        have u1 := frz_of HB2.out 1
        have u2 := frz_of HB2.out 2
        have u3 := frz_of HB2.out 3
        go_wp2_with (at_builtin; refine wpList_appN _ rfl _ _ 32 rfl w.heap.size 50 i0 _ 4 40 Tryd.underlying32 hi hz0 hz1 hz2 rfl (by decide) _ ts.length _ rfl HOX.out ⟨w2.heap.size, 0, none⟩ 1 1 _ rfl rfl HNC.out (tok_one1 3 x k m) (by unfold maxLen; omega) (by omega) HZ.out.size ?_; intro v4 w4 hown4 hgrow4 hwhere4; have HO4 := Lib.hid hown4; have HG4 := Lib.hid hgrow4; have z3 := (own_at HL.out HAX.out hgrow4 (Nat.le_refl _)).cell 3 _ rfl; clear hown4 hgrow4 hwhere4 r0 r1 r2 r3 u0 u1 u2 u3)
        exact ⟨⟨k + m, d, n, ts ++ [⟨3, x, k, k + m⟩], hm2.2, by first | rfl | go_num, by first | go_num | (congr 1; omega), by omega, by omega, by rw [List.length_append]; exact Nat.le_trans (Nat.add_le_add_left (Nat.le_refl 1) _) (by omega), HR3.out, by rw [flat_snoc, List.length_append]; exact HO4.out, ext_grown HZ.out HOX.out (Nat.le_refl _) HG4.out⟩, by simp [intOf]; omega⟩
      have k3 : ((kk : Int) == 3) = false := by rw [beq_eq_false_iff_ne]; omega
      rw [show deepN kk d = d from by unfold deepN; rw [if_neg h2, if_neg h3]] at HR3
      clear h2 h3
      go_wp2_with fail
      refine (KB.out _).mono ?_
      rintro e wb ⟨rfl, rfl⟩
      go_wp2_with fail
      refine (KN.out _).mono ?_
      rintro e w2 ⟨rfl, hx2⟩
      have HX2 := Lib.hid (Ext.trans HX1.out hx2)
      have HB2 := Lib.hid (HB1.out.ext hx2)
      clear hx2 KN
      have hz3 : ((((w2.setCell ⟨wr.heap.size, 0, none⟩ (.int .i64 kk)).setCell ⟨wr.heap.size, 1, none⟩ (.string ⟨x.toArray⟩)).setCell ⟨wr.heap.size, 2, none⟩ (.int .i64 k)).setCell ⟨wr.heap.size, 3, none⟩ (.int .i64 ((k : Int) + (m : Int)))).heap.size = w2.heap.size := by simp [World.setCell]
      have HX3 := Lib.hid (show Ext wr ((((w2.setCell ⟨wr.heap.size, 0, none⟩ (.int .i64 kk)).setCell ⟨wr.heap.size, 1, none⟩ (.string ⟨x.toArray⟩)).setCell ⟨wr.heap.size, 2, none⟩ (.int .i64 k)).setCell ⟨wr.heap.size, 3, none⟩ (.int .i64 ((k : Int) + (m : Int)))) from ext_four HX2.out (Nat.le_refl _))
      have HAT := Lib.hid (at_four (b0 := .int .i64 kk) (b1 := .string ⟨x.toArray⟩) (b2 := .int .i64 k) (b3 := .int .i64 ((k : Int) + (m : Int))) HB2.out)
      have HY3 := Lib.hid (HX3.out.trans ((Ext.refl _).alloc (.cells #[.int .i64 kk, .string ⟨x.toArray⟩, .int .i64 k, .int .i64 ((k : Int) + (m : Int))] 50)))
      have HNC : Hid (∀ j u, (tokC ⟨kk, x, k, k + m⟩)[j]? = some u → (((((w2.setCell ⟨wr.heap.size, 0, none⟩ (.int .i64 kk)).setCell ⟨wr.heap.size, 1, none⟩ (.string ⟨x.toArray⟩)).setCell ⟨wr.heap.size, 2, none⟩ (.int .i64 k)).setCell ⟨wr.heap.size, 3, none⟩ (.int .i64 ((k : Int) + (m : Int)))).alloc (.cells #[.int .i64 kk, .string ⟨x.toArray⟩, .int .i64 k, .int .i64 ((k : Int) + (m : Int))] 50)).cell? ((⟨w2.heap.size, 0, none⟩ : Addr).add j) = some u) := Lib.hid (by
        have h := new_cells ((((w2.setCell ⟨wr.heap.size, 0, none⟩ (.int .i64 kk)).setCell ⟨wr.heap.size, 1, none⟩ (.string ⟨x.toArray⟩)).setCell ⟨wr.heap.size, 2, none⟩ (.int .i64 k)).setCell ⟨wr.heap.size, 3, none⟩ (.int .i64 ((k : Int) + (m : Int)))) #[.int .i64 kk, .string ⟨x.toArray⟩, .int .i64 k, .int .i64 ((k : Int) + (m : Int))] 50
        rw [hz3] at h
        exact h)
      have HOX := Lib.hid (own_ext HL.out HY3.out)
      have HZ := Lib.hid (HW.out.trans HY3.out)
      have HAX := Lib.hid (HAT.out.alloc (.cells #[.int .i64 kk, .string ⟨x.toArray⟩, .int .i64 k, .int .i64 ((k : Int) + (m : Int))] 50))
      have HL0 := HL
      clear hz3
      have r0 := HB2.out.cell 0 _ rfl
      have r1 := HB2.out.cell 1 _ rfl
      have r2 := HB2.out.cell 2 _ rfl
      have r3 := HB2.out.cell 3 _ rfl
      have u0 := frz_of HB2.out 0
      have u1 := frz_of HB2.out 1
      have u2 := frz_of HB2.out 2
      have u3 := frz_of HB2.out 3
      go_wp2_with (at_builtin; refine wpList_appN _ rfl _ _ 32 rfl w.heap.size 50 i0 _ 4 40 Tryd.underlying32 hi hz0 hz1 hz2 rfl (by decide) _ ts.length _ rfl HOX.out ⟨w2.heap.size, 0, none⟩ 1 1 _ rfl rfl HNC.out (tok_one1 kk x k m) (by unfold maxLen; omega) (by omega) HZ.out.size ?_; intro v4 w4 hown4 hgrow4 hwhere4; have HO4 := Lib.hid hown4; have HG4 := Lib.hid hgrow4; have z3 := (own_at HL.out HAX.out hgrow4 (Nat.le_refl _)).cell 3 _ rfl; clear hown4 hgrow4 hwhere4 r0 r1 r2 r3 u0 u1 u2 u3)
      exact ⟨⟨k + m, d, n, ts ++ [⟨kk, x, k, k + m⟩], hm2.2, by first | rfl | go_num, rfl, by omega, by omega, by rw [List.length_append]; exact Nat.le_trans (Nat.add_le_add_left (Nat.le_refl 1) _) (by omega), HR3.out, by rw [flat_snoc, List.length_append]; exact HO4.out, ext_grown HZ.out HOX.out (Nat.le_refl _) HG4.out⟩, by simp [intOf]; omega⟩
end Go.Proofs.YtklobkpepbokkaaDoor
