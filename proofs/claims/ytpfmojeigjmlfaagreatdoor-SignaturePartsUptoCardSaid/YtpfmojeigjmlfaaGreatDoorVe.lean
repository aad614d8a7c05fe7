import Derived.Test.YtpfmojeigjmlfaaGreatDoorVd
import Derived.Test.YtpfmojeigjmlfaaGreatDoorNPI
import Derived.Test.YtpfmojeigjmlfaaGreatDoorNP5
namespace Go.Proofs.YtpfmojeigjmlfaaGreatDoor
open Go.RowKit Go.Maps Go.Sort
set_option linter.unusedSimpArgs false
set_option linter.unusedVariables false

/-! The signature of a message, by the program. -/
theorem form_kindV {d : Nat} {c pt : Bool} {k : Int} {t n s : By} {cs ps r : F} (h : formB d c pt (.cons k t n s cs ps r) = true) (hn : cs ≠ .nil) : 7 ≤ k ∧ k ≤ 9 := by
  rw [formB] at h
  simp only [Bool.and_eq_true] at h
  have h2 := h.1.2
  have no : ∀ {p : Prop}, cs.isNil = true → p := fun e => absurd (nil_isNil e) hn
  split at h2
  · simp only [Bool.and_eq_true] at h2; exact no h2.1.2
  split at h2
  · simp only [Bool.and_eq_true] at h2; exact no h2.1.2
  split at h2
  · simp only [Bool.and_eq_true] at h2; exact no h2.1.2
  split at h2
  · simp only [Bool.and_eq_true] at h2; exact no h2.1.2
  split at h2
  · simp only [Bool.and_eq_true] at h2; exact no h2.1.2
  split at h2
  · simp only [Bool.and_eq_true] at h2; exact no h2.1.2
  split at h2
  · simp only [Bool.and_eq_true] at h2; exact no h2.1.2
  split at h2
  · omega
  · cases h2
theorem form_psV {d : Nat} {c pt : Bool} {k : Int} {t n s : By} {cs ps r : F} (h : formB d c pt (.cons k t n s cs ps r) = true) (h11 : ¬ k = 11) : ps = .nil := by
  rw [formB] at h
  simp only [Bool.and_eq_true] at h
  have h2 := h.1.2
  rw [if_neg h11] at h2
  split at h2
  · simp only [Bool.and_eq_true] at h2; exact nil_isNil h2.2
  split at h2
  · simp only [Bool.and_eq_true] at h2; exact nil_isNil h2.2
  split at h2
  · simp only [Bool.and_eq_true] at h2; exact nil_isNil h2.2
  split at h2
  · simp only [Bool.and_eq_true] at h2; exact nil_isNil h2.2
  split at h2
  · simp only [Bool.and_eq_true] at h2; exact nil_isNil h2.2
  split at h2
  · simp only [Bool.and_eq_true] at h2; exact nil_isNil h2.2
  split at h2
  · simp only [Bool.and_eq_true] at h2; exact nil_isNil h2.1.1.1.2
  · cases h2
theorem nodes_txt : ∀ f : F, (∀ d c pt, formB d c pt f = true → f.nodes ≤ (txtP [32] f).length) ∧ (∀ kind d c seen, casB kind d c seen f = true → f.nodes ≤ (casT [32] f).length) := by
  intro f
  induction f with
  | nil => exact ⟨fun _ _ _ _ => Nat.zero_le _, fun _ _ _ _ _ => Nat.zero_le _⟩
  | cons k t n s cs ps r ihc ihp ihr =>
    refine ⟨fun d c pt h => ?_, fun kind d c seen h => ?_⟩
    · have h0 := h
      obtain ⟨h1, _, hk1, hk11, h5⟩ := form_sub h
      have h2 := ihr.1 _ _ _ h1
      have hps : ps = .nil ∨ ps.nodes ≤ (txtP [32] ps).length := by
        rcases h5 with ⟨_, h | ⟨d', c', h6⟩⟩ | ⟨h, _⟩
        · exact .inl h
        · exact .inr (ihp.1 _ _ _ h6)
        · exact .inl h
      have hcs : cs = .nil ∨ (7 ≤ k ∧ k ≤ 9 ∧ ps = .nil ∧ cs.nodes ≤ (casT [32] cs).length) := by
        rcases h5 with ⟨h, _⟩ | ⟨h, kind, d', c', h6⟩
        · exact .inl h
        · by_cases hn : cs = .nil
          · exact .inl hn
          · obtain ⟨a, b⟩ := form_kindV h0 hn
            exact .inr ⟨a, b, h, ihc.2 _ _ _ _ h6⟩
      rw [txtP, List.length_append, F.nodes]
      by_cases k1 : k = 1
      · rw [if_pos k1]
        have ht : t ≠ [] := by
          rintro rfl
          rw [formB, if_pos k1] at h0
          simp at h0
        have := List.length_pos_iff.2 (escP_ne ht)
        rcases hcs with rfl | h
        · rcases h5 with ⟨_, h6 | ⟨d', c', h6⟩⟩ | ⟨h6, _⟩
          · subst h6; simp only [F.nodes]; omega
          · rw [formB, if_pos k1] at h0
            simp only [Bool.and_eq_true] at h0
            have := nil_isNil h0.1.2.2
            subst this
            simp only [F.nodes]; omega
          · subst h6; simp only [F.nodes]; omega
        · omega
      rw [if_neg k1]
      by_cases k10 : k = 10
      · rw [if_pos k10]
        have hn : ps = .nil := by
          rw [formB, if_neg k1, if_pos k10] at h0
          simp only [Bool.and_eq_true] at h0
          exact nil_isNil h0.1.2.2
        subst hn
        rcases hcs with rfl | h
        · simp only [F.nodes, List.length_cons, List.length_nil]; omega
        · omega
      rw [if_neg k10]
      by_cases k11 : k = 11
      · rw [if_pos k11]
        have hn : cs = .nil := by
          rcases hcs with h | h
          · exact h
          · omega
        subst hn
        by_cases hl : ps.len = 0
        · have hq : ps = .nil := nil_of_len hl
          subst hq
          rw [if_pos hl]
          simp only [F.nodes, List.length_append, List.length_cons, List.length_nil]
          omega
        · rw [if_neg hl]
          rcases hps with h | h
          · subst h; exact absurd rfl hl
          · simp only [F.nodes, List.length_append, List.length_cons, List.length_nil]
            omega
      rw [if_neg k11]
      by_cases k2 : k = 2
      · rw [if_pos k2]
        have hn : ps = .nil := by
          rw [formB, if_neg k1, if_neg k10, if_pos k2] at h0
          simp only [Bool.and_eq_true] at h0
          exact nil_isNil h0.1.2.2
        subst hn
        rcases hcs with rfl | h
        · simp only [F.nodes, List.length_append, List.length_cons, List.length_nil]; omega
        · omega
      rw [if_neg k2, if_pos ⟨by omega, by omega⟩]
      have hn : ps = .nil := by
        have h39 := h0
        rcases h5 with ⟨_, h | ⟨d', c', h6⟩⟩ | ⟨h, _⟩
        · exact h
        · exact form_psV h0 k11
        · exact h
      subst hn
      rcases hcs with rfl | h
      · simp only [F.nodes, List.length_append, List.length_cons, List.length_nil]; omega
      · have := h.2.2.2
        simp only [F.nodes, List.length_append, List.length_cons, List.length_nil]; omega
    · obtain ⟨_, h1, h3, h4⟩ := cas_sub h
      subst h1
      have h5 := ihp.1 _ _ _ h3
      have h6 := ihr.2 _ _ _ _ h4
      rw [casT, F.nodes]
      simp only [F.nodes, List.length_append, List.length_cons, List.length_nil]
      omega
theorem FwS.inV {w : World} {ok : Nat → Prop} {f : F} {v : Value} (h : FwS w ok f v) : FwS w (fun k => k < w.heap.size) f v := by
  obtain ⟨A, c, ps, e, h1, h2, h3⟩ := h
  exact ⟨A, c, ps, e, h1, fun h0 ad hA => h1.inside (by decide) h0 ad hA, (FCw_exc (Exc.refl (fun _ => False) w) (fun _ _ h => h) (fun k hk => hk.2) f).1 _ ((FCw_in w ok f).1 _ h3)⟩
set_option maxHeartbeats 4000000 in
set_option maxRecDepth 100000 in
theorem tinfer_any {f : F} {v : Value} {ok : Nat → Prop} {w : World} (hF : FwS w ok f v) (hcan : Can f) (hwt : wt f ≤ 40000000) (hm : Mx w) : Calls Tryz.prog 29 #[v] w (RetMg w (inferV f)) := by
  have hn0 := nodes_wtg f
  have K1 := Lib.hid (tValid_any hF hcan hwt (by omega) hm)
  obtain ⟨A, cc, rfl⟩ := hF.val
  obtain ⟨M, hM⟩ : ∃ M, M = inferV f := ⟨_, rfl⟩
  rw [← hM]
  have hmm := @run_makeMap Tryz.prog
  cases hv : validF false f
  · rw [hv] at K1
    have HF := Lib.hid (show M = ([], 1) from by rw [hM]; unfold inferV; rw [if_neg (by rw [hv]; decide)])
    clear hF hcan hwt hv hM hn0 hm
    go_enter Tryz.func29, Tryz.ntmps29
    go_wp2_with fail
    refine K1.out.mono ?_
    rintro e w2 ⟨rfl, hx2⟩
    have HX2 := Lib.hid hx2
    clear hx2
    go_wp2
    go_ret2
    exact retMg_nil HF.out HX2.out
  rw [hv] at K1
  have hform := (validF_iff.1 hv).1
  have hn4 : f.nodes ≤ 4000 := Nat.le_trans ((nodes_txt f).1 _ _ _ hform) (validF_iff.1 hv).2.2
  have HA := Lib.hid hF.inV
  have HTA := Lib.hid (show (∀ p, foldA [] (usesR f) = some p → M = (p, 0) ∧ TabO ((usesT f).foldl addT ⟨[], false⟩) p ∧ p.length ≤ 20 ∧ ∀ x ∈ p, x.1.length ≤ maxLen) ∧ (foldA [] (usesR f) = none → M = ([], 11) ∧ ((usesT f).foldl addT ⟨[], false⟩).wrong = true) from by
    rw [hM, (uses_same f).1 _ _ _ hform]
    obtain ⟨t1, t2⟩ := tab_fold (usesR f) tab_start
    unfold inferV inferA
    rw [if_pos hv]
    refine ⟨fun p h => ⟨by rw [h], t1 p h, (sig_ok (infer_valid hv h)).2.2, fun x hx => ?_⟩, fun h => ⟨by rw [h], t2 h⟩⟩
    have := name_lenV ((sig_ok (infer_valid hv h)).1 x hx).1
    unfold maxLen
    omega)
  have HFM := Lib.hid hform
  clear hF hcan hwt hv hM hn0 hm hform
  go_enter Tryz.func29, Tryz.ntmps29
  go_wp2_with fail
  refine K1.out.mono ?_
  rintro e w3 ⟨rfl, hw3⟩
  have HW3 := Lib.hid hw3
  have HWC := Lib.hid (show Ext w3 ((w3.alloc (.map #[] 0)).alloc (.cells #[.map (some w3.heap.size), .bool false] 70)) from ((Ext.refl w3).alloc _).alloc _)
  have HT0 := Lib.hid (show TabW ((w3.alloc (.map #[] 0)).alloc (.cells #[.map (some w3.heap.size), .bool false] 70)) (w3.heap.size + 1) w3.heap.size 0 ⟨[], false⟩ from by
    have h := (AtC.new (w3.alloc (.map #[] 0)) #[.map (some w3.heap.size), .bool false] : AtC 70 _ _ _)
    rw [World.size_alloc] at h
    exact ⟨h, (MapI.made Tryz.prog 9 3 w3).alloc _, by omega⟩)
  have HK := Lib.hid (walk_all (f.nodes + 1) f (.slice A f.len cc) _ (w3.heap.size + 1) w3.heap.size 0 ⟨[], false⟩ 0 false false _ (Nat.lt_succ_self _) (HA.out.ext (HW3.out.trans HWC.out)) (fun j hj h => by
    have h1 : j < w.heap.size := hj
    have h2 := Ext.size HW3.out
    rcases h with h | h <;> omega) HFM.out HT0.out (by omega))
  clear hw3 K1
  obtain ⟨T, hT⟩ : ∃ T, T = (usesT f).foldl addT ⟨[], false⟩ := ⟨_, rfl⟩
  rw [← hT] at HK HTA
  clear hT
  go_wp2_with fail
  refine HK.out.mono ?_
  rintro e w5 ⟨rfl, ht5, hw5⟩
  rw [Nat.zero_add] at ht5
  have HT5 := Lib.hid ht5
  have HW5 := Lib.hid (show Ext w w5 from HW3.out.trans (ext_exc HWC.out hw5 (fun j hj => by rcases hj with rfl | rfl <;> omega)))
  have kw := ht5.at_.cell 1 _ rfl
  cases hf : foldA [] (usesR f) with
  | none =>
    obtain ⟨h1, h2⟩ := HTA.out.2 hf
    simp only [List.getElem_toArray, List.getElem_cons_succ, List.getElem_cons_zero, h2] at kw
    have HF := Lib.hid h1
    clear ht5 hw5 hf h1 h2 HTA HK hmm
    go_wp2
    go_ret2
    exact retMg_nil HF.out HW5.out
  | some o =>
    obtain ⟨h1, h2, h3, h4⟩ := HTA.out.1 o hf
    simp only [List.getElem_toArray, List.getElem_cons_succ, List.getElem_cons_zero, h2.2.2] at kw
    have HF := Lib.hid h1
    have HKA := Lib.hid (targs_any (w3.heap.size + 1) w3.heap.size f.nodes T o w5 ht5 h2 (by omega) (by omega) h4)
    clear ht5 hw5 hf h1 h2 h3 h4 HTA HK hmm
    go_wp2_with fail
    refine HKA.out.mono ?_
    rintro e w6 ⟨A6, c6, rfl, hs6, hw6⟩
    have HS6 := Lib.hid hs6
    have HW6 := Lib.hid (HW5.out.trans hw6)
    clear hs6 hw6
    go_wp2
    go_ret2
    refine ⟨A6, o.length, c6, ?_, ?_, HW6.out⟩
    · rw [HF.out]; rfl
    · rw [HF.out]; exact HS6.out
end Go.Proofs.YtpfmojeigjmlfaaGreatDoor
