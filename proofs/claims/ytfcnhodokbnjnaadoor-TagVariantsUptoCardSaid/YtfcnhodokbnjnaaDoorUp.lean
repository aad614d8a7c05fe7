import Derived.Test.YtfcnhodokbnjnaaDoorTagY
namespace Go.Proofs.YtfcnhodokbnjnaaDoor
open Go.RowKit
set_option linter.unusedSimpArgs false
set_option linter.unusedVariables false

/-- The parent, and whether there is one. -/
def upR (t : TagP) : TagP × Bool := match upP t with
  | some u => (u, true)
  | none => (TagP.zero, false)

theorem none_nil {w : World} {n : Nat} {xs : List Value} (h : Sl w none n xs) : n = 0 := by
  rcases Nat.eq_zero_or_pos n with h0 | h0
  · exact h0
  · obtain ⟨ad, u, hA, _⟩ := h.at_ h0
    cases hA
theorem addr_flat {w : World} {ad : Addr} {n : Nat} {xs : List Value} (h : Sl w (some ad) n xs) (hn : 0 < n) : ∃ b o, ad = ⟨b, o, none⟩ ∧ b < w.heap.size := by
  obtain ⟨ad', u, ha, _, hc⟩ := h.at_ hn
  injection ha with ha
  subst ha
  have hb := World.block_lt_of_cell? w _ hc
  have hs := World.cell?_spot hc
  obtain ⟨b, o, sp⟩ := ad
  refine ⟨b, o, ?_, by rwa [addr_block] at hb⟩
  simp [Addr.add] at hs
  rw [hs]
theorem add_flat (b o j : Nat) : (⟨b, o, none⟩ : Addr).add j = ⟨b, o + j, none⟩ := by
  unfold Addr.add
  split
  · subst_vars; rfl
  · rfl

/-- What was new in w' stands in W0. -/
def Later (w w' W0 : World) : Prop := w'.heap.size ≤ W0.heap.size ∧ ∀ b, w.heap.size ≤ b → b < w'.heap.size → W0.heap[b]? = w'.heap[b]?
theorem Later.refl (w w' : World) : Later w w' w' := ⟨Nat.le_refl _, fun _ _ _ => rfl⟩
theorem Sl.later {w w' W0 : World} {A : Option Addr} {n : Nat} {xs : List Value} (h : Sl w' A n xs) (hA : ∀ ad, A = some ad → w.heap.size ≤ ad.block) (hl : Later w w' W0) : Sl W0 A n xs :=
  ⟨h.1, fun j u hu => by
    obtain ⟨ad, ha, hb, hc⟩ := h.2 j u hu
    refine ⟨ad, ha, Nat.lt_of_lt_of_le hb hl.1, ?_⟩
    rw [← hc]
    exact World.cell?_of_block (by rw [addr_block]; exact hl.2 ad.block (hA ad ha) hb)⟩

theorem clone_any (l : List (List UInt8)) (b o n c : Nat) (w : World) (hs : Sl w (some ⟨b, o, none⟩) n (l.map strv)) (hn : n ≤ 1048576) :
    Calls Tryd.prog 65 #[.slice (some ⟨b, o, none⟩) n c] w fun e w' => ∃ A' c', e = .returned (.slice A' n c') ∧ Sl w' A' n (l.map strv) ∧ n ≤ c' ∧ Ext w w' ∧ ∀ ad, A' = some ad → w.heap.size ≤ ad.block := by
  have hl : l.length = n := by have := hs.1; rwa [List.length_map] at this
  have h := Tryd.slices_Clone_string b o n c (l.map fun x => ⟨x.toArray⟩) w (by rw [List.length_map]; omega) (by omega) (fun j hj => by
    rw [List.length_map] at hj
    obtain ⟨ad, ha, _, hcell⟩ := hs.2 j (strv l[j]) (by rw [List.getElem?_map, List.getElem?_eq_getElem hj]; rfl)
    injection ha with ha
    subst ha
    rw [add_flat] at hcell
    rw [hcell]
    simp [List.getD_eq_getElem?_getD, hj, strv])
  refine h.mono ?_
  rintro e w' ⟨v', rfl, ho, hne, hb⟩
  have e1 : ((l.map fun x => (⟨x.toArray⟩ : ByteArray)).take n).map Value.string = l.map strv := by
    rw [List.take_of_length_le (by rw [List.length_map]; omega), List.map_map]
    rfl
  rw [e1] at ho
  obtain ⟨A', c', rfl, hs', hc'⟩ := own_sl ho
  refine ⟨A', c', rfl, hs', hc', hb, fun ad had => ?_⟩
  subst had
  exact (ho.lt ad.block rfl).1

set_option maxHeartbeats 1000000 in
set_option maxRecDepth 100000 in
theorem rup_any (t : TagP) (A : Option Addr) (n c : Nat) (w : World) (hA : Sl w A n (t.vars.map strv)) (hn : n ≤ 60000) (hnc : n ≤ c) (ht : TL t) :
    Calls Tryd.prog 50 #[tagV t A n c] w fun e w' => ∃ A' n' c', e = .returned (.tuple #[tagV (upR t).1 A' n' c', .bool (upR t).2]) ∧ (∀ W0, Sl W0 A n (t.vars.map strv) → Sl W0 A' n' ((upR t).1.vars.map strv)) ∧ n' ≤ c' ∧ Ext w w' := by
  have hl : t.vars.length = n := by have := hA.1; rwa [List.length_map] at this
  obtain ⟨lb, hl1, hl2⟩ := strv_b t.lang
  obtain ⟨sb, hs1, hs2⟩ := strv_b t.script
  obtain ⟨rb, hr1, hr2⟩ := strv_b t.region
  have HA := Lib.hid hA
  have HL := Lib.hid hl
  have HS := Lib.hid (And.intro hl1 (And.intro hs1 hr1))
  have HE := Lib.hid (And.intro hl2 (And.intro hs2 hr2))
  have H0 : Hid (tagV TagP.zero none 0 0 = .agg #[.string ⟨#[]⟩, .string ⟨#[]⟩, .string ⟨#[]⟩, .slice none 0 0]) := Lib.hid rfl
  have fin : ∀ (u : TagP) (A' : Option Addr) (n' c' : Nat) (b : Bool) (v0 v1 v2 : Value) (w' : World), upR t = (u, b) → v0 = strv u.lang → v1 = strv u.script → v2 = strv u.region → (∀ W0, Sl W0 A n (t.vars.map strv) → Sl W0 A' n' (u.vars.map strv)) → n' ≤ c' → Ext w w' →
      ∃ A2 n2 c2, Ending.returned (.tuple #[.agg #[v0, v1, v2, .slice A' n' c'], .bool b]) = Ending.returned (.tuple #[tagV (upR t).1 A2 n2 c2, .bool (upR t).2]) ∧ (∀ W0, Sl W0 A n (t.vars.map strv) → Sl W0 A2 n2 ((upR t).1.vars.map strv)) ∧ n2 ≤ c2 ∧ Ext w w' := by
    intro u A' n' c' b v0 v1 v2 w' h1 h2 h3 h4 h5 h6 h7
    rw [h1]
    subst h2 h3 h4
    exact ⟨A', n', c', rfl, h5, h6, h7⟩
  unfold tagV
  unfold tagV at fin
  rw [hl1, hs1, hr1]
  have FIN := Lib.hid fin
  clear fin hl1 hs1 hr1 hl2 hs2 hr2 hA hl
  by_cases h0 : 0 < n
  · have hup : upR t = ({ t with vars := t.vars.take (n - 1) }, true) := by
      unfold upR upP
      rw [if_pos (by intro h; rw [h] at HL; have := HL.out; simp at this; omega), HL.out]
    have HU := Lib.hid hup
    have h1n : (1 : Int) ≤ (n : Int) := by omega
    have h0I : (0 : Int) < (n : Int) := by omega
    clear hup
    go_enter Tryd.func50, Tryd.ntmps50
    go_wp2
    refine bodyPost_ret (v := .tuple #[.agg #[.string lb, .string sb, .string rb, .slice A (n - 1) c], .bool true]) ?_ rfl (FIN.out _ A (n - 1) c true _ _ _ _ HU.out HS.out.1.symm HS.out.2.1.symm HS.out.2.2.symm ?_ (by omega) (((Ext.refl w).alloc _).alloc _))
    · simp [results, Tryd.results50, go_sem]
    · intro W0 h0
      have h := h0.take (n - 1) (by omega)
      rw [← List.map_take] at h
      exact h
  · have hn0 : n = 0 := by omega
    subst hn0
    have hvn : t.vars = [] := List.eq_nil_of_length_eq_zero HL.out
    have hz : ∀ W, Ext w W → Sl W A 0 (t.vars.map strv) := fun W h => HA.out.ext h
    have HZ := Lib.hid hz
    have HV := Lib.hid hvn
    clear h0 hz hvn
    by_cases hr : rb.data.toList = []
    · by_cases hsn : sb.data.toList = []
      · by_cases hln : lb.data.toList = undP
        · have HU := Lib.hid (show upR t = (TagP.zero, false) from by
            unfold upR upP
            rw [if_neg (by simp [HV.out]), if_neg (by simp [← HE.out.2.2, hr]), if_neg (by simp [← HE.out.2.1, hsn]), if_neg (by simp [← HE.out.1, hln])])
          have h1 : rb.toList = [] := by rw [ByteArray.toList_eq]; exact hr
          have h2 : sb.toList = [] := by rw [ByteArray.toList_eq]; exact hsn
          have h3 : (lb.toList == [117, 110, 100]) = true := by rw [ByteArray.toList_eq, hln]; rfl
          have h4 : lb.toList = [117, 110, 100] := by rw [ByteArray.toList_eq, hln]; rfl
          clear hr hsn hln
          go_enter Tryd.func50, Tryd.ntmps50
          go_wp2
          refine bodyPost_ret (v := .tuple #[.agg #[.string ⟨#[]⟩, .string ⟨#[]⟩, .string ⟨#[]⟩, .slice none 0 0], .bool false]) ?_ rfl (FIN.out TagP.zero none 0 0 false _ _ _ _ HU.out rfl rfl rfl (fun W0 _ => Sl.nil _ _) (Nat.le_refl _) (((Ext.refl w).alloc _).alloc _))
          simp [results, Tryd.results50, go_sem]
        · have HU := Lib.hid (show upR t = ({ t with lang := undP }, true) from by
            unfold upR upP
            rw [if_neg (by simp [HV.out]), if_neg (by simp [← HE.out.2.2, hr]), if_neg (by simp [← HE.out.2.1, hsn]), if_pos (by rw [← HE.out.1]; exact hln)])
          have h1 : rb.toList = [] := by rw [ByteArray.toList_eq]; exact hr
          have h2 : sb.toList = [] := by rw [ByteArray.toList_eq]; exact hsn
          have h3 : (lb.toList == [117, 110, 100]) = false := by rw [ByteArray.toList_eq]; exact beq_eq_false_iff_ne.2 hln
          have h4 : ¬ lb.toList = [117, 110, 100] := by rw [ByteArray.toList_eq]; exact hln
          clear hr hsn hln
          go_enter Tryd.func50, Tryd.ntmps50
          go_wp2
          refine bodyPost_ret (v := .tuple #[.agg #[.string ⟨#[117, 110, 100]⟩, .string sb, .string rb, .slice A 0 c], .bool true]) ?_ rfl (FIN.out _ A 0 c true _ _ _ _ HU.out rfl HS.out.2.1.symm HS.out.2.2.symm (fun W0 h => h) hnc (((Ext.refl w).alloc _).alloc _))
          simp [results, Tryd.results50, go_sem]
      · have HU := Lib.hid (show upR t = ({ t with script := [] }, true) from by
          unfold upR upP
          rw [if_neg (by simp [HV.out]), if_neg (by simp [← HE.out.2.2, hr]), if_pos (by rw [← HE.out.2.1]; exact hsn)])
        have h1 : rb.toList = [] := by rw [ByteArray.toList_eq]; exact hr
        have h2 : ¬ sb.toList = [] := by rw [ByteArray.toList_eq]; exact hsn
        have h3 : sb.toList.isEmpty = false := by rw [ByteArray.toList_eq]; simpa using hsn
        clear hr hsn
        go_enter Tryd.func50, Tryd.ntmps50
        go_wp2
        refine bodyPost_ret (v := .tuple #[.agg #[.string lb, .string ⟨#[]⟩, .string rb, .slice A 0 c], .bool true]) ?_ rfl (FIN.out _ A 0 c true _ _ _ _ HU.out HS.out.1.symm rfl HS.out.2.2.symm (fun W0 h => h) hnc (((Ext.refl w).alloc _).alloc _))
        simp [results, Tryd.results50, go_sem]
    · have HU := Lib.hid (show upR t = ({ t with region := [] }, true) from by
        unfold upR upP
        rw [if_neg (by simp [HV.out]), if_pos (by rw [← HE.out.2.2]; exact hr)])
      have h2 : ¬ rb.toList = [] := by rw [ByteArray.toList_eq]; exact hr
      have h3 : rb.toList.isEmpty = false := by rw [ByteArray.toList_eq]; simpa using hr
      clear hr
      go_enter Tryd.func50, Tryd.ntmps50
      go_wp2
      refine bodyPost_ret (v := .tuple #[.agg #[.string lb, .string sb, .string ⟨#[]⟩, .slice A 0 c], .bool true]) ?_ rfl (FIN.out _ A 0 c true _ _ _ _ HU.out HS.out.1.symm HS.out.2.1.symm rfl (fun W0 h => h) hnc (((Ext.refl w).alloc _).alloc _))
      simp [results, Tryd.results50, go_sem]

set_option maxHeartbeats 1000000 in
set_option maxRecDepth 100000 in
theorem tparent_any (t : TagP) (A : Option Addr) (n c : Nat) (w : World) (hA : Sl w A n (t.vars.map strv)) (hn : n ≤ 60000) (hnc : n ≤ c) (ht : TL t) :
    Calls Tryd.prog 49 #[tagV t A n c] w fun e w' => ∃ A' n' c', e = .returned (.tuple #[tagV (upR t).1 A' n' c', .bool (upR t).2]) ∧ (∀ W0, Later w w' W0 → Sl W0 A n (t.vars.map strv) → Sl W0 A' n' ((upR t).1.vars.map strv)) ∧ n' ≤ c' ∧ Ext w w' := by
  have hl : t.vars.length = n := by have := hA.1; rwa [List.length_map] at this
  obtain ⟨lb, hl1, hl2⟩ := strv_b t.lang
  obtain ⟨sb, hs1, hs2⟩ := strv_b t.script
  obtain ⟨rb, hr1, hr2⟩ := strv_b t.region
  have HA := Lib.hid hA
  have HL := Lib.hid hl
  have HS := Lib.hid (And.intro hl1 (And.intro hs1 hr1))
  have HE := Lib.hid (And.intro hl2 (And.intro hs2 hr2))
  have H0 : Hid (tagV TagP.zero none 0 0 = .agg #[.string ⟨#[]⟩, .string ⟨#[]⟩, .string ⟨#[]⟩, .slice none 0 0]) := Lib.hid rfl
  have fin : ∀ (u : TagP) (A' : Option Addr) (n' c' : Nat) (b : Bool) (v0 v1 v2 : Value) (w' : World), upR t = (u, b) → v0 = strv u.lang → v1 = strv u.script → v2 = strv u.region → (∀ W0, Later w w' W0 → Sl W0 A n (t.vars.map strv) → Sl W0 A' n' (u.vars.map strv)) → n' ≤ c' → Ext w w' →
      ∃ A2 n2 c2, Ending.returned (.tuple #[.agg #[v0, v1, v2, .slice A' n' c'], .bool b]) = Ending.returned (.tuple #[tagV (upR t).1 A2 n2 c2, .bool (upR t).2]) ∧ (∀ W0, Later w w' W0 → Sl W0 A n (t.vars.map strv) → Sl W0 A2 n2 ((upR t).1.vars.map strv)) ∧ n2 ≤ c2 ∧ Ext w w' := by
    intro u A' n' c' b v0 v1 v2 w' h1 h2 h3 h4 h5 h6 h7
    rw [h1]
    subst h2 h3 h4
    exact ⟨A', n', c', rfl, h5, h6, h7⟩
  unfold tagV
  unfold tagV at fin
  rw [hl1, hs1, hr1]
  have FIN := Lib.hid fin
  clear fin hl1 hs1 hr1 hl2 hs2 hr2 hA hl
  by_cases h0 : 0 < n
  · have hup : upR t = ({ t with vars := t.vars.take (n - 1) }, true) := by
      unfold upR upP
      rw [if_pos (by intro h; rw [h] at HL; have := HL.out; simp at this; omega), HL.out]
    have HU := Lib.hid hup
    have h1n : (1 : Int) ≤ (n : Int) := by omega
    have h0I : (0 : Int) < (n : Int) := by omega
    clear hup
    cases A with
    | none => exact absurd (none_nil HA.out) (by omega)
    | some ad =>
      obtain ⟨b, o, rfl, hb⟩ := addr_flat HA.out h0
      go_enter Tryd.func49, Tryd.ntmps49
      go_wp2_with fail
      have hs := (HA.out.take (n - 1) (by omega)).ext (((Ext.refl w).alloc (.cells #[.string lb, .string sb, .string rb, .slice (some ⟨b, o, none⟩) n c] 25)).alloc (.cells #[.string ⟨#[]⟩, .string ⟨#[]⟩, .string ⟨#[]⟩, .slice none 0 0] 25))
      rw [← List.map_take] at hs
      refine (clone_any (t.vars.take (n - 1)) b o (n - 1) c _ hs (by omega)).mono ?_
      rintro e w3 ⟨A3, c3, rfl, hs3, hc3, hw3, hne3⟩
      have HS3 := Lib.hid hs3
      have HW3 := Lib.hid ((((Ext.refl w).alloc (.cells #[.string lb, .string sb, .string rb, .slice (some ⟨b, o, none⟩) n c] 25)).alloc (.cells #[.string ⟨#[]⟩, .string ⟨#[]⟩, .string ⟨#[]⟩, .slice none 0 0] 25)).trans hw3)
      have HN3 := Lib.hid hne3
      obtain ⟨⟨p0, p1, p2, p3⟩, ⟨e0, e1, e2, e3⟩⟩ := ((AtT.new w : AtT 25 (w.alloc (.cells #[.string lb, .string sb, .string rb, .slice (some ⟨b, o, none⟩) n c] 25)) w.heap.size _ _ _ _).ext (Ext.trans ((Ext.refl _).alloc _) hw3)).cells
      have hA2 := ((AtT.new (w.alloc (.cells #[.string lb, .string sb, .string rb, .slice (some ⟨b, o, none⟩) n c] 25)) : AtT 25 ((w.alloc (.cells #[.string lb, .string sb, .string rb, .slice (some ⟨b, o, none⟩) n c] 25)).alloc (.cells #[.string ⟨#[]⟩, .string ⟨#[]⟩, .string ⟨#[]⟩, .slice none 0 0] 25)) _ _ _ _ _).ext hw3)
      rw [show (w.alloc (.cells #[.string lb, .string sb, .string rb, .slice (some ⟨b, o, none⟩) n c] 25)).heap.size = w.heap.size + 1 from by simp] at hA2
      obtain ⟨⟨q0, q1, q2, q3⟩, ⟨f0, f1, f2, f3⟩⟩ := hA2.cells
      clear hs3 hw3 hne3 hA2 hs
      go_wp2
      refine bodyPost_ret (v := .tuple #[.agg #[.string lb, .string sb, .string rb, .slice A3 (n - 1) c3], .bool true]) ?_ rfl (FIN.out _ A3 (n - 1) c3 true _ _ _ _ HU.out HS.out.1.symm HS.out.2.1.symm HS.out.2.2.symm ?_ hc3 ?_)
      · simp [results, Tryd.results49, go_sem, q0, q1, q2, q3, f0, f1, f2, f3]
      · intro W0 hl _
        have h5 := ((((HS3.out.other ⟨w.heap.size, 3, none⟩ (fun ad h => by have := HN3.out ad h; simp at this; show ad.block ≠ w.heap.size; omega) (.slice A3 (n - 1) c3)).other ⟨w.heap.size + 1, 0, none⟩ (fun ad h => by have := HN3.out ad h; simp at this; show ad.block ≠ w.heap.size + 1; omega) (.string lb)).other ⟨w.heap.size + 1, 1, none⟩ (fun ad h => by have := HN3.out ad h; simp at this; show ad.block ≠ w.heap.size + 1; omega) (.string sb)).other ⟨w.heap.size + 1, 2, none⟩ (fun ad h => by have := HN3.out ad h; simp at this; show ad.block ≠ w.heap.size + 1; omega) (.string rb)).other ⟨w.heap.size + 1, 3, none⟩ (fun ad h => by have := HN3.out ad h; simp at this; show ad.block ≠ w.heap.size + 1; omega) (.slice A3 (n - 1) c3)
        exact h5.later (fun ad h => by have := HN3.out ad h; simp at this; omega) hl
      · exact ((((HW3.out.setCell (Nat.le_refl _) _).setCell (Nat.le_succ _) _).setCell (Nat.le_succ _) _).setCell (Nat.le_succ _) _).setCell (Nat.le_succ _) _
  · have hn0 : n = 0 := by omega
    subst hn0
    have hvn : t.vars = [] := List.eq_nil_of_length_eq_zero HL.out
    have hz : ∀ W, Ext w W → Sl W A 0 (t.vars.map strv) := fun W h => HA.out.ext h
    have HZ := Lib.hid hz
    have HV := Lib.hid hvn
    clear h0 hz hvn
    by_cases hr : rb.data.toList = []
    · by_cases hsn : sb.data.toList = []
      · by_cases hln : lb.data.toList = undP
        · have HU := Lib.hid (show upR t = (TagP.zero, false) from by
            unfold upR upP
            rw [if_neg (by simp [HV.out]), if_neg (by simp [← HE.out.2.2, hr]), if_neg (by simp [← HE.out.2.1, hsn]), if_neg (by simp [← HE.out.1, hln])])
          have h1 : rb.toList = [] := by rw [ByteArray.toList_eq]; exact hr
          have h2 : sb.toList = [] := by rw [ByteArray.toList_eq]; exact hsn
          have h3 : (lb.toList == [117, 110, 100]) = true := by rw [ByteArray.toList_eq, hln]; rfl
          have h4 : lb.toList = [117, 110, 100] := by rw [ByteArray.toList_eq, hln]; rfl
          clear hr hsn hln
          go_enter Tryd.func49, Tryd.ntmps49
          go_wp2
          refine bodyPost_ret (v := .tuple #[.agg #[.string ⟨#[]⟩, .string ⟨#[]⟩, .string ⟨#[]⟩, .slice none 0 0], .bool false]) ?_ rfl (FIN.out TagP.zero none 0 0 false _ _ _ _ HU.out rfl rfl rfl (fun W0 _ _ => Sl.nil _ _) (Nat.le_refl _) (((Ext.refl w).alloc _).alloc _))
          simp [results, Tryd.results49, go_sem]
        · have HU := Lib.hid (show upR t = ({ t with lang := undP }, true) from by
            unfold upR upP
            rw [if_neg (by simp [HV.out]), if_neg (by simp [← HE.out.2.2, hr]), if_neg (by simp [← HE.out.2.1, hsn]), if_pos (by rw [← HE.out.1]; exact hln)])
          have h1 : rb.toList = [] := by rw [ByteArray.toList_eq]; exact hr
          have h2 : sb.toList = [] := by rw [ByteArray.toList_eq]; exact hsn
          have h3 : (lb.toList == [117, 110, 100]) = false := by rw [ByteArray.toList_eq]; exact beq_eq_false_iff_ne.2 hln
          have h4 : ¬ lb.toList = [117, 110, 100] := by rw [ByteArray.toList_eq]; exact hln
          clear hr hsn hln
          go_enter Tryd.func49, Tryd.ntmps49
          go_wp2
          refine bodyPost_ret (v := .tuple #[.agg #[.string ⟨#[117, 110, 100]⟩, .string sb, .string rb, .slice A 0 c], .bool true]) ?_ rfl (FIN.out _ A 0 c true _ _ _ _ HU.out rfl HS.out.2.1.symm HS.out.2.2.symm (fun W0 _ h => h) hnc (((Ext.refl w).alloc _).alloc _))
          simp [results, Tryd.results49, go_sem]
      · have HU := Lib.hid (show upR t = ({ t with script := [] }, true) from by
          unfold upR upP
          rw [if_neg (by simp [HV.out]), if_neg (by simp [← HE.out.2.2, hr]), if_pos (by rw [← HE.out.2.1]; exact hsn)])
        have h1 : rb.toList = [] := by rw [ByteArray.toList_eq]; exact hr
        have h2 : ¬ sb.toList = [] := by rw [ByteArray.toList_eq]; exact hsn
        have h3 : sb.toList.isEmpty = false := by rw [ByteArray.toList_eq]; simpa using hsn
        clear hr hsn
        go_enter Tryd.func49, Tryd.ntmps49
        go_wp2
        refine bodyPost_ret (v := .tuple #[.agg #[.string lb, .string ⟨#[]⟩, .string rb, .slice A 0 c], .bool true]) ?_ rfl (FIN.out _ A 0 c true _ _ _ _ HU.out HS.out.1.symm rfl HS.out.2.2.symm (fun W0 _ h => h) hnc (((Ext.refl w).alloc _).alloc _))
        simp [results, Tryd.results49, go_sem]
    · have HU := Lib.hid (show upR t = ({ t with region := [] }, true) from by
        unfold upR upP
        rw [if_neg (by simp [HV.out]), if_pos (by rw [← HE.out.2.2]; exact hr)])
      have h2 : ¬ rb.toList = [] := by rw [ByteArray.toList_eq]; exact hr
      have h3 : rb.toList.isEmpty = false := by rw [ByteArray.toList_eq]; simpa using hr
      clear hr
      go_enter Tryd.func49, Tryd.ntmps49
      go_wp2
      refine bodyPost_ret (v := .tuple #[.agg #[.string lb, .string sb, .string ⟨#[]⟩, .slice A 0 c], .bool true]) ?_ rfl (FIN.out _ A 0 c true _ _ _ _ HU.out HS.out.1.symm HS.out.2.1.symm rfl (fun W0 _ h => h) hnc (((Ext.refl w).alloc _).alloc _))
      simp [results, Tryd.results49, go_sem]
end Go.Proofs.YtfcnhodokbnjnaaDoor
