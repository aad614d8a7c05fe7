import Derived.Test.YtehcldnicefmeaaGreatDoorNX6
import Derived.Test.YtehcldnicefmeaaGreatDoorNXC
namespace Go.Proofs.YtehcldnicefmeaaGreatDoor
open Go.RowKit
set_option linter.unusedSimpArgs false
set_option linter.unusedVariables false

/-- The parent, and whether there is one. -/
def upR (t : TagP) : TagP × Bool := match upP t with
  | some u => (u, true)
  | none => (TagP.zero, false)

theorem clone_any (l : List (List UInt8)) (b o n c : Nat) (w : World) (hs : Sl w (some ⟨b, o, none⟩) n (l.map strv)) (hn : n ≤ 1048576) :
    Calls Tryz.prog 79 #[.slice (some ⟨b, o, none⟩) n c] w fun e w' => ∃ A' c', e = .returned (.slice A' n c') ∧ Sl w' A' n (l.map strv) ∧ n ≤ c' ∧ Ext w w' ∧ ∀ ad, A' = some ad → w.heap.size ≤ ad.block := by
  have hl : l.length = n := by have := hs.1; rwa [List.length_map] at this
  have h := Tryz.slices_Clone_string b o n c (l.map fun x => ⟨x.toArray⟩) w (by rw [List.length_map]; omega) (by omega) (fun j hj => by
    rw [List.length_map] at hj
    obtain ⟨ad, ha, _, hcell⟩ := hs.2 j (strv l[j]) (by rw [List.getElem?_map, List.getElem?_eq_getElem hj]; rfl)
    injection ha with ha
    subst ha
    rw [add_flat] at hcell
    rw [hcell]
    simp [List.getD_eq_getElem?_getD, hj, strv])
  refine h.mono ?_
  rintro e w' ⟨v', rfl, ho, hne, hb⟩
  have e1 : ((l.map fun x => (⟨x.toArray⟩ : ByteArray)).take n).map Value.string = l.map strv := by
    rw [List.take_of_length_le (by rw [List.length_map]; omega), List.map_map]
    rfl
  rw [e1] at ho
  obtain ⟨A', c', rfl, hs', hc'⟩ := own_sl ho
  refine ⟨A', c', rfl, hs', hc', hb, fun ad had => ?_⟩
  subst had
  exact (ho.lt ad.block rfl).1

set_option maxHeartbeats 1000000 in
set_option maxRecDepth 100000 in
theorem rup_any (t : TagP) (A : Option Addr) (n c : Nat) (w : World) (hA : Sl w A n (t.vars.map strv)) (hn : n ≤ 60000) (hnc : n ≤ c) (ht : TL t) :
    Calls Tryz.prog 119 #[tagV t A n c] w fun e w' => ∃ A' n' c', e = .returned (.tuple #[tagV (upR t).1 A' n' c', .bool (upR t).2]) ∧ (∀ W0, Sl W0 A n (t.vars.map strv) → Sl W0 A' n' ((upR t).1.vars.map strv)) ∧ n' ≤ c' ∧ Ext w w' := by
  have hl : t.vars.length = n := by have := hA.1; rwa [List.length_map] at this
  obtain ⟨lb, hl1, hl2⟩ := strv_b t.lang
  obtain ⟨sb, hs1, hs2⟩ := strv_b t.script
  obtain ⟨rb, hr1, hr2⟩ := strv_b t.region
  have HA := Lib.hid hA
  have HL := Lib.hid hl
  have HS := Lib.hid (And.intro hl1 (And.intro hs1 hr1))
  have HE := Lib.hid (And.intro hl2 (And.intro hs2 hr2))
  have H0 : Hid (tagV TagP.zero none 0 0 = .agg #[.string ⟨#[]⟩, .string ⟨#[]⟩, .string ⟨#[]⟩, .slice none 0 0]) := Lib.hid rfl
  have fin : ∀ (u : TagP) (A' : Option Addr) (n' c' : Nat) (b : Bool) (v0 v1 v2 : Value) (w' : World), upR t = (u, b) → v0 = strv u.lang → v1 = strv u.script → v2 = strv u.region → (∀ W0, Sl W0 A n (t.vars.map strv) → Sl W0 A' n' (u.vars.map strv)) → n' ≤ c' → Ext w w' →
      ∃ A2 n2 c2, Ending.returned (.tuple #[.agg #[v0, v1, v2, .slice A' n' c'], .bool b]) = Ending.returned (.tuple #[tagV (upR t).1 A2 n2 c2, .bool (upR t).2]) ∧ (∀ W0, Sl W0 A n (t.vars.map strv) → Sl W0 A2 n2 ((upR t).1.vars.map strv)) ∧ n2 ≤ c2 ∧ Ext w w' := by
    intro u A' n' c' b v0 v1 v2 w' h1 h2 h3 h4 h5 h6 h7
    rw [h1]
    subst h2 h3 h4
    exact ⟨A', n', c', rfl, h5, h6, h7⟩
  unfold tagV
  unfold tagV at fin
  rw [hl1, hs1, hr1]
  have FIN := Lib.hid fin
  clear fin hl1 hs1 hr1 hl2 hs2 hr2 hA hl
  by_cases h0 : 0 < n
  · have hup : upR t = ({ t with vars := t.vars.take (n - 1) }, true) := by
      unfold upR upP
      rw [if_pos (by intro h; rw [h] at HL; have := HL.out; simp at this; omega), HL.out]
    have HU := Lib.hid hup
    have h1n : (1 : Int) ≤ (n : Int) := by omega
    have h0I : (0 : Int) < (n : Int) := by omega
    clear hup
    go_enter Tryz.func119, Tryz.ntmps119
    go_wp2
    refine bodyPost_ret (v := .tuple #[.agg #[.string lb, .string sb, .string rb, .slice A (n - 1) c], .bool true]) ?_ rfl (FIN.out _ A (n - 1) c true _ _ _ _ HU.out HS.out.1.symm HS.out.2.1.symm HS.out.2.2.symm ?_ (by omega) (((Ext.refl w).alloc _).alloc _))
    · simp [results, Tryz.results119, go_sem]
    · intro W0 h0
      have h := h0.take (n - 1) (by omega)
      rw [← List.map_take] at h
      exact h
  · have hn0 : n = 0 := by omega
    subst hn0
    have hvn : t.vars = [] := List.eq_nil_of_length_eq_zero HL.out
    have hz : ∀ W, Ext w W → Sl W A 0 (t.vars.map strv) := fun W h => HA.out.ext h
    have HZ := Lib.hid hz
    have HV := Lib.hid hvn
    clear h0 hz hvn
    by_cases hr : rb.data.toList = []
    · by_cases hsn : sb.data.toList = []
      · by_cases hln : lb.data.toList = undP
        · have HU := Lib.hid (show upR t = (TagP.zero, false) from by
            unfold upR upP
            rw [if_neg (by simp [HV.out]), if_neg (by simp [← HE.out.2.2, hr]), if_neg (by simp [← HE.out.2.1, hsn]), if_neg (by simp [← HE.out.1, hln])])
          have h1 : rb.toList = [] := by rw [ByteArray.toList_eq]; exact hr
          have h2 : sb.toList = [] := by rw [ByteArray.toList_eq]; exact hsn
          have h3 : (lb.toList == [117, 110, 100]) = true := by rw [ByteArray.toList_eq, hln]; rfl
          have h4 : lb.toList = [117, 110, 100] := by rw [ByteArray.toList_eq, hln]; rfl
          clear hr hsn hln
          go_enter Tryz.func119, Tryz.ntmps119
          go_wp2
          refine bodyPost_ret (v := .tuple #[.agg #[.string ⟨#[]⟩, .string ⟨#[]⟩, .string ⟨#[]⟩, .slice none 0 0], .bool false]) ?_ rfl (FIN.out TagP.zero none 0 0 false _ _ _ _ HU.out rfl rfl rfl (fun W0 _ => Sl.nil _ _) (Nat.le_refl _) (((Ext.refl w).alloc _).alloc _))
          simp [results, Tryz.results119, go_sem]
        · have HU := Lib.hid (show upR t = ({ t with lang := undP }, true) from by
            unfold upR upP
            rw [if_neg (by simp [HV.out]), if_neg (by simp [← HE.out.2.2, hr]), if_neg (by simp [← HE.out.2.1, hsn]), if_pos (by rw [← HE.out.1]; exact hln)])
          have h1 : rb.toList = [] := by rw [ByteArray.toList_eq]; exact hr
          have h2 : sb.toList = [] := by rw [ByteArray.toList_eq]; exact hsn
          have h3 : (lb.toList == [117, 110, 100]) = false := by rw [ByteArray.toList_eq]; exact beq_eq_false_iff_ne.2 hln
          have h4 : ¬ lb.toList = [117, 110, 100] := by rw [ByteArray.toList_eq]; exact hln
          clear hr hsn hln
          go_enter Tryz.func119, Tryz.ntmps119
          go_wp2
          refine bodyPost_ret (v := .tuple #[.agg #[.string ⟨#[117, 110, 100]⟩, .string sb, .string rb, .slice A 0 c], .bool true]) ?_ rfl (FIN.out _ A 0 c true _ _ _ _ HU.out rfl HS.out.2.1.symm HS.out.2.2.symm (fun W0 h => h) hnc (((Ext.refl w).alloc _).alloc _))
          simp [results, Tryz.results119, go_sem]
      · have HU := Lib.hid (show upR t = ({ t with script := [] }, true) from by
          unfold upR upP
          rw [if_neg (by simp [HV.out]), if_neg (by simp [← HE.out.2.2, hr]), if_pos (by rw [← HE.out.2.1]; exact hsn)])
        have h1 : rb.toList = [] := by rw [ByteArray.toList_eq]; exact hr
        have h2 : ¬ sb.toList = [] := by rw [ByteArray.toList_eq]; exact hsn
        have h3 : sb.toList.isEmpty = false := by rw [ByteArray.toList_eq]; simpa using hsn
        clear hr hsn
        go_enter Tryz.func119, Tryz.ntmps119
        go_wp2
        refine bodyPost_ret (v := .tuple #[.agg #[.string lb, .string ⟨#[]⟩, .string rb, .slice A 0 c], .bool true]) ?_ rfl (FIN.out _ A 0 c true _ _ _ _ HU.out HS.out.1.symm rfl HS.out.2.2.symm (fun W0 h => h) hnc (((Ext.refl w).alloc _).alloc _))
        simp [results, Tryz.results119, go_sem]
    · have HU := Lib.hid (show upR t = ({ t with region := [] }, true) from by
        unfold upR upP
        rw [if_neg (by simp [HV.out]), if_pos (by rw [← HE.out.2.2]; exact hr)])
      have h2 : ¬ rb.toList = [] := by rw [ByteArray.toList_eq]; exact hr
      have h3 : rb.toList.isEmpty = false := by rw [ByteArray.toList_eq]; simpa using hr
      clear hr
      go_enter Tryz.func119, Tryz.ntmps119
      go_wp2
      refine bodyPost_ret (v := .tuple #[.agg #[.string lb, .string sb, .string ⟨#[]⟩, .slice A 0 c], .bool true]) ?_ rfl (FIN.out _ A 0 c true _ _ _ _ HU.out HS.out.1.symm HS.out.2.1.symm rfl (fun W0 h => h) hnc (((Ext.refl w).alloc _).alloc _))
      simp [results, Tryz.results119, go_sem]

set_option maxHeartbeats 1000000 in
set_option maxRecDepth 100000 in
theorem tparent_any (t : TagP) (A : Option Addr) (n c : Nat) (w : World) (hA : Sl w A n (t.vars.map strv)) (hn : n ≤ 60000) (hnc : n ≤ c) (ht : TL t) :
    Calls Tryz.prog 140 #[tagV t A n c] w fun e w' => ∃ A' n' c', e = .returned (.tuple #[tagV (upR t).1 A' n' c', .bool (upR t).2]) ∧ (∀ W0, Later w w' W0 → Sl W0 A n (t.vars.map strv) → Sl W0 A' n' ((upR t).1.vars.map strv)) ∧ n' ≤ c' ∧ Ext w w' := by
  have hl : t.vars.length = n := by have := hA.1; rwa [List.length_map] at this
  obtain ⟨lb, hl1, hl2⟩ := strv_b t.lang
  obtain ⟨sb, hs1, hs2⟩ := strv_b t.script
  obtain ⟨rb, hr1, hr2⟩ := strv_b t.region
  have HA := Lib.hid hA
  have HL := Lib.hid hl
  have HS := Lib.hid (And.intro hl1 (And.intro hs1 hr1))
  have HE := Lib.hid (And.intro hl2 (And.intro hs2 hr2))
  have H0 : Hid (tagV TagP.zero none 0 0 = .agg #[.string ⟨#[]⟩, .string ⟨#[]⟩, .string ⟨#[]⟩, .slice none 0 0]) := Lib.hid rfl
  have fin : ∀ (u : TagP) (A' : Option Addr) (n' c' : Nat) (b : Bool) (v0 v1 v2 : Value) (w' : World), upR t = (u, b) → v0 = strv u.lang → v1 = strv u.script → v2 = strv u.region → (∀ W0, Later w w' W0 → Sl W0 A n (t.vars.map strv) → Sl W0 A' n' (u.vars.map strv)) → n' ≤ c' → Ext w w' →
      ∃ A2 n2 c2, Ending.returned (.tuple #[.agg #[v0, v1, v2, .slice A' n' c'], .bool b]) = Ending.returned (.tuple #[tagV (upR t).1 A2 n2 c2, .bool (upR t).2]) ∧ (∀ W0, Later w w' W0 → Sl W0 A n (t.vars.map strv) → Sl W0 A2 n2 ((upR t).1.vars.map strv)) ∧ n2 ≤ c2 ∧ Ext w w' := by
    intro u A' n' c' b v0 v1 v2 w' h1 h2 h3 h4 h5 h6 h7
    rw [h1]
    subst h2 h3 h4
    exact ⟨A', n', c', rfl, h5, h6, h7⟩
  unfold tagV
  unfold tagV at fin
  rw [hl1, hs1, hr1]
  have FIN := Lib.hid fin
  clear fin hl1 hs1 hr1 hl2 hs2 hr2 hA hl
  by_cases h0 : 0 < n
  · have hup : upR t = ({ t with vars := t.vars.take (n - 1) }, true) := by
      unfold upR upP
      rw [if_pos (by intro h; rw [h] at HL; have := HL.out; simp at this; omega), HL.out]
    have HU := Lib.hid hup
    have h1n : (1 : Int) ≤ (n : Int) := by omega
    have h0I : (0 : Int) < (n : Int) := by omega
    clear hup
    cases A with
    | none => exact absurd (none_nil HA.out) (by omega)
    | some ad =>
      obtain ⟨b, o, rfl, hb⟩ := addr_flat HA.out h0
      go_enter Tryz.func140, Tryz.ntmps140
      go_wp2_with fail
      have hs := (HA.out.take (n - 1) (by omega)).ext (((Ext.refl w).alloc (.cells #[.string lb, .string sb, .string rb, .slice (some ⟨b, o, none⟩) n c] 159)).alloc (.cells #[.string ⟨#[]⟩, .string ⟨#[]⟩, .string ⟨#[]⟩, .slice none 0 0] 159))
      rw [← List.map_take] at hs
      refine (clone_any (t.vars.take (n - 1)) b o (n - 1) c _ hs (by omega)).mono ?_
      rintro e w3 ⟨A3, c3, rfl, hs3, hc3, hw3, hne3⟩
      have HS3 := Lib.hid hs3
      have HW3 := Lib.hid ((((Ext.refl w).alloc (.cells #[.string lb, .string sb, .string rb, .slice (some ⟨b, o, none⟩) n c] 159)).alloc (.cells #[.string ⟨#[]⟩, .string ⟨#[]⟩, .string ⟨#[]⟩, .slice none 0 0] 159)).trans hw3)
      have HN3 := Lib.hid hne3
      obtain ⟨⟨p0, p1, p2, p3⟩, ⟨e0, e1, e2, e3⟩⟩ := ((AtT.new w : AtT 159 (w.alloc (.cells #[.string lb, .string sb, .string rb, .slice (some ⟨b, o, none⟩) n c] 159)) w.heap.size _ _ _ _).ext (Ext.trans ((Ext.refl _).alloc _) hw3)).cells
      have hA2 := ((AtT.new (w.alloc (.cells #[.string lb, .string sb, .string rb, .slice (some ⟨b, o, none⟩) n c] 159)) : AtT 159 ((w.alloc (.cells #[.string lb, .string sb, .string rb, .slice (some ⟨b, o, none⟩) n c] 159)).alloc (.cells #[.string ⟨#[]⟩, .string ⟨#[]⟩, .string ⟨#[]⟩, .slice none 0 0] 159)) _ _ _ _ _).ext hw3)
      rw [show (w.alloc (.cells #[.string lb, .string sb, .string rb, .slice (some ⟨b, o, none⟩) n c] 159)).heap.size = w.heap.size + 1 from by simp] at hA2
      obtain ⟨⟨q0, q1, q2, q3⟩, ⟨f0, f1, f2, f3⟩⟩ := hA2.cells
      clear hs3 hw3 hne3 hA2 hs
      go_wp2
      refine bodyPost_ret (v := .tuple #[.agg #[.string lb, .string sb, .string rb, .slice A3 (n - 1) c3], .bool true]) ?_ rfl (FIN.out _ A3 (n - 1) c3 true _ _ _ _ HU.out HS.out.1.symm HS.out.2.1.symm HS.out.2.2.symm ?_ hc3 ?_)
      · simp [results, Tryz.results140, go_sem, q0, q1, q2, q3, f0, f1, f2, f3]
      · intro W0 hl _
        have h5 := ((((HS3.out.other ⟨w.heap.size, 3, none⟩ (fun ad h => by have := HN3.out ad h; simp at this; show ad.block ≠ w.heap.size; omega) (.slice A3 (n - 1) c3)).other ⟨w.heap.size + 1, 0, none⟩ (fun ad h => by have := HN3.out ad h; simp at this; show ad.block ≠ w.heap.size + 1; omega) (.string lb)).other ⟨w.heap.size + 1, 1, none⟩ (fun ad h => by have := HN3.out ad h; simp at this; show ad.block ≠ w.heap.size + 1; omega) (.string sb)).other ⟨w.heap.size + 1, 2, none⟩ (fun ad h => by have := HN3.out ad h; simp at this; show ad.block ≠ w.heap.size + 1; omega) (.string rb)).other ⟨w.heap.size + 1, 3, none⟩ (fun ad h => by have := HN3.out ad h; simp at this; show ad.block ≠ w.heap.size + 1; omega) (.slice A3 (n - 1) c3)
        exact h5.later (fun ad h => by have := HN3.out ad h; simp at this; omega) hl
      · exact ((((HW3.out.setCell (Nat.le_refl _) _).setCell (Nat.le_succ _) _).setCell (Nat.le_succ _) _).setCell (Nat.le_succ _) _).setCell (Nat.le_succ _) _
  · have hn0 : n = 0 := by omega
    subst hn0
    have hvn : t.vars = [] := List.eq_nil_of_length_eq_zero HL.out
    have hz : ∀ W, Ext w W → Sl W A 0 (t.vars.map strv) := fun W h => HA.out.ext h
    have HZ := Lib.hid hz
    have HV := Lib.hid hvn
    clear h0 hz hvn
    by_cases hr : rb.data.toList = []
    · by_cases hsn : sb.data.toList = []
      · by_cases hln : lb.data.toList = undP
        · have HU := Lib.hid (show upR t = (TagP.zero, false) from by
            unfold upR upP
            rw [if_neg (by simp [HV.out]), if_neg (by simp [← HE.out.2.2, hr]), if_neg (by simp [← HE.out.2.1, hsn]), if_neg (by simp [← HE.out.1, hln])])
          have h1 : rb.toList = [] := by rw [ByteArray.toList_eq]; exact hr
          have h2 : sb.toList = [] := by rw [ByteArray.toList_eq]; exact hsn
          have h3 : (lb.toList == [117, 110, 100]) = true := by rw [ByteArray.toList_eq, hln]; rfl
          have h4 : lb.toList = [117, 110, 100] := by rw [ByteArray.toList_eq, hln]; rfl
          clear hr hsn hln
          go_enter Tryz.func140, Tryz.ntmps140
          go_wp2
          refine bodyPost_ret (v := .tuple #[.agg #[.string ⟨#[]⟩, .string ⟨#[]⟩, .string ⟨#[]⟩, .slice none 0 0], .bool false]) ?_ rfl (FIN.out TagP.zero none 0 0 false _ _ _ _ HU.out rfl rfl rfl (fun W0 _ _ => Sl.nil _ _) (Nat.le_refl _) (((Ext.refl w).alloc _).alloc _))
          simp [results, Tryz.results140, go_sem]
        · have HU := Lib.hid (show upR t = ({ t with lang := undP }, true) from by
            unfold upR upP
            rw [if_neg (by simp [HV.out]), if_neg (by simp [← HE.out.2.2, hr]), if_neg (by simp [← HE.out.2.1, hsn]), if_pos (by rw [← HE.out.1]; exact hln)])
          have h1 : rb.toList = [] := by rw [ByteArray.toList_eq]; exact hr
          have h2 : sb.toList = [] := by rw [ByteArray.toList_eq]; exact hsn
          have h3 : (lb.toList == [117, 110, 100]) = false := by rw [ByteArray.toList_eq]; exact beq_eq_false_iff_ne.2 hln
          have h4 : ¬ lb.toList = [117, 110, 100] := by rw [ByteArray.toList_eq]; exact hln
          clear hr hsn hln
          go_enter Tryz.func140, Tryz.ntmps140
          go_wp2
          refine bodyPost_ret (v := .tuple #[.agg #[.string ⟨#[117, 110, 100]⟩, .string sb, .string rb, .slice A 0 c], .bool true]) ?_ rfl (FIN.out _ A 0 c true _ _ _ _ HU.out rfl HS.out.2.1.symm HS.out.2.2.symm (fun W0 _ h => h) hnc (((Ext.refl w).alloc _).alloc _))
          simp [results, Tryz.results140, go_sem]
      · have HU := Lib.hid (show upR t = ({ t with script := [] }, true) from by
          unfold upR upP
          rw [if_neg (by simp [HV.out]), if_neg (by simp [← HE.out.2.2, hr]), if_pos (by rw [← HE.out.2.1]; exact hsn)])
        have h1 : rb.toList = [] := by rw [ByteArray.toList_eq]; exact hr
        have h2 : ¬ sb.toList = [] := by rw [ByteArray.toList_eq]; exact hsn
        have h3 : sb.toList.isEmpty = false := by rw [ByteArray.toList_eq]; simpa using hsn
        clear hr hsn
        go_enter Tryz.func140, Tryz.ntmps140
        go_wp2
        refine bodyPost_ret (v := .tuple #[.agg #[.string lb, .string ⟨#[]⟩, .string rb, .slice A 0 c], .bool true]) ?_ rfl (FIN.out _ A 0 c true _ _ _ _ HU.out HS.out.1.symm rfl HS.out.2.2.symm (fun W0 _ h => h) hnc (((Ext.refl w).alloc _).alloc _))
        simp [results, Tryz.results140, go_sem]
    · have HU := Lib.hid (show upR t = ({ t with region := [] }, true) from by
        unfold upR upP
        rw [if_neg (by simp [HV.out]), if_pos (by rw [← HE.out.2.2]; exact hr)])
      have h2 : ¬ rb.toList = [] := by rw [ByteArray.toList_eq]; exact hr
      have h3 : rb.toList.isEmpty = false := by rw [ByteArray.toList_eq]; simpa using hr
      clear hr
      go_enter Tryz.func140, Tryz.ntmps140
      go_wp2
      refine bodyPost_ret (v := .tuple #[.agg #[.string lb, .string sb, .string ⟨#[]⟩, .slice A 0 c], .bool true]) ?_ rfl (FIN.out _ A 0 c true _ _ _ _ HU.out HS.out.1.symm HS.out.2.1.symm rfl (fun W0 _ h => h) hnc (((Ext.refl w).alloc _).alloc _))
      simp [results, Tryz.results140, go_sem]
end Go.Proofs.YtehcldnicefmeaaGreatDoor
namespace Go.Proofs.YtehcldnicefmeaaGreatDoor
open Go.RowKit
set_option linter.unusedSimpArgs false
set_option linter.unusedVariables false

theorem txt_valid {t : TagP} (h : validP t = true) : txtOf t = textP t := by unfold txtOf; rw [if_pos h]
set_option maxRecDepth 100000 in
theorem rcan_any (s : ByteArray) (w : World) (hs : s.size ≤ 2000000) :
    Calls Tryz.prog 106 #[.string s] w fun e w' => e = .returned (.tuple #[strv (canP s.data.toList).1, .int .i64 (canP s.data.toList).2]) ∧ Ext w w' := by
  unfold canP
  have hok := @parse_ok s.data.toList
  have hpa := fun W => rparse_any s W hs
  generalize parseP EC s.data.toList = R at hok hpa
  obtain ⟨t, code⟩ := R
  have HOK := Lib.hid hok
  have HPA := Lib.hid hpa
  clear hok hpa
  by_cases h0 : code = 0
  · subst h0
    have hv := HOK.out rfl
    have HV := Lib.hid hv
    simp only [if_true]
    clear hv
    go_enter Tryz.func106, Tryz.ntmps106
    go_wp2_with fail
    refine (HPA.out _).mono ?_
    rintro e w1 ⟨A, n, c, rfl, hs1, hnc, hw1⟩
    have HS1 := Lib.hid hs1
    have HW1 := Lib.hid hw1
    clear hs1 hw1
    unfold tagV strv
    go_wp2_with fail
    have h3 := rText_any t A n c (w1.alloc (.cells #[strv t.lang, strv t.script, strv t.region, .slice A n c] 167)) (HS1.out.ext ((Ext.refl w1).alloc _)) (TL_of HV.out)
    rw [txt_valid HV.out] at h3
    unfold tagV strv at h3
    with_reducible refine h3.mono ?_
    clear h3
    rintro e w3 ⟨rfl, hw3⟩
    have HW3 := Lib.hid ((HW1.out.alloc _).trans hw3)
    clear hw3
    go_wp2
    go_ret2
    exact ⟨rfl, HW3.out⟩
  · simp only [if_neg h0]
    have hb : (code == 0) = false := by simpa using h0
    have hb2 : (!code == 0) = true := by simpa using h0
    go_enter Tryz.func106, Tryz.ntmps106
    go_wp2_with fail
    refine (HPA.out _).mono ?_
    rintro e w1 ⟨A, n, c, rfl, hs1, hnc, hw1⟩
    have HW1 := Lib.hid hw1
    clear hs1 hw1
    unfold tagV strv
    go_wp2
    go_ret2
    exact ⟨rfl, HW1.out.alloc _⟩

end Go.Proofs.YtehcldnicefmeaaGreatDoor
namespace Go.Proofs.YtehcldnicefmeaaGreatDoor
open Go.RowKit
set_option linter.unusedSimpArgs false
set_option linter.unusedVariables false

set_option maxRecDepth 100000 in
theorem tcan_any (s : ByteArray) (w : World) (hm : Mx w) (hs : s.size ≤ 60000) :
    Calls Tryz.prog 120 #[.string s] w fun e w' => e = .returned (.tuple #[strv (canP s.data.toList).1, .int .i64 (canP s.data.toList).2]) ∧ Ext w w' := by
  unfold canP
  have hok := @parse_ok s.data.toList
  have hpa := fun W hW => tparse_any s W hW hs
  generalize parseP EC s.data.toList = R at hok hpa
  obtain ⟨t, code⟩ := R
  have HOK := Lib.hid hok
  have HPA := Lib.hid hpa
  have HM := Lib.hid hm
  clear hok hpa hm
  by_cases h0 : code = 0
  · subst h0
    have hv := HOK.out rfl
    have HV := Lib.hid hv
    simp only [if_true]
    clear hv
    go_enter Tryz.func120, Tryz.ntmps120
    go_wp2_with fail
    refine (HPA.out _ HM.out).mono ?_
    rintro e w1 ⟨A, n, c, rfl, hs1, hnc, hw1⟩
    have hn : n ≤ 60000 := by
      have h1 := hs1.1
      rw [List.length_map] at h1
      rw [← h1]
      exact (TL_of HV.out).2.2.2.2
    have HS1 := Lib.hid hs1
    have HW1 := Lib.hid hw1
    clear hs1 hw1
    unfold tagV strv
    go_wp2_with fail
    have h3 := ttext_any t A n c (w1.alloc (.cells #[strv t.lang, strv t.script, strv t.region, .slice A n c] 159)) (HS1.out.ext ((Ext.refl w1).alloc _)) hn (by have := textP_len HV.out; omega)
    unfold tagV strv at h3
    with_reducible refine h3.mono ?_
    clear h3
    rintro e w3 ⟨rfl, hw3⟩
    have HW3 := Lib.hid ((HW1.out.alloc _).trans hw3)
    clear hw3
    go_wp2
    go_ret2
    exact ⟨rfl, HW3.out⟩
  · simp only [if_neg h0]
    have hb : (code == 0) = false := by simpa using h0
    have hb2 : (!code == 0) = true := by simpa using h0
    go_enter Tryz.func120, Tryz.ntmps120
    go_wp2_with fail
    refine (HPA.out _ HM.out).mono ?_
    rintro e w1 ⟨A, n, c, rfl, hs1, hnc, hw1⟩
    have HW1 := Lib.hid hw1
    clear hs1 hw1
    unfold tagV strv
    go_wp2
    go_ret2
    exact ⟨rfl, HW1.out.alloc _⟩
end Go.Proofs.YtehcldnicefmeaaGreatDoor
namespace Go.Proofs.YtehcldnicefmeaaGreatDoor
open Go.RowKit
set_option linter.unusedSimpArgs false
set_option linter.unusedVariables false

/-- The parent's text, and the code. -/
def parentP (s : List UInt8) : List UInt8 × Int := if (parseP EC s).2 ≠ 0 then ([], (parseP EC s).2) else match upP (parseP EC s).1 with
  | none => ([], 8)
  | some u => (textP u, 0)

set_option maxHeartbeats 1000000 in
set_option maxRecDepth 100000 in
theorem tparent2_any (s : ByteArray) (w : World) (hm : Mx w) (hs : s.size ≤ 60000) :
    Calls Tryz.prog 110 #[.string s] w fun e w' => e = .returned (.tuple #[strv (parentP s.data.toList).1, .int .i64 (parentP s.data.toList).2]) ∧ Ext w w' := by
  generalize hP : parentP s.data.toList = PR
  have hpr : PR = parentP s.data.toList := hP.symm
  clear hP
  unfold parentP at hpr
  have hok := @parse_ok s.data.toList
  have hpa := fun W (hM : Mx W) => tparse_any s W hM hs
  generalize parseP EC s.data.toList = R at hok hpa hpr
  obtain ⟨t, code⟩ := R
  have HOK := Lib.hid hok
  have HPA := Lib.hid hpa
  clear hok hpa
  by_cases h0 : code = 0
  · subst h0
    have hv := HOK.out rfl
    have HV := Lib.hid hv
    simp only [ne_eq, not_true_eq_false, if_false] at hpr
    have HPR0 := Lib.hid hpr
    clear hv hpr
    go_enter Tryz.func110, Tryz.ntmps110
    go_wp2_with fail
    refine (HPA.out _ hm).mono ?_
    rintro e w1 ⟨A, n, c, rfl, hs1, hnc, hw1⟩
    have hn : n ≤ 60000 := by
      have h1 := hs1.1
      rw [List.length_map] at h1
      rw [← h1]
      exact (TL_of HV.out).2.2.2.2
    have HS1 := Lib.hid hs1
    have HW1 := Lib.hid hw1
    clear hs1 hw1
    unfold tagV strv
    go_wp2_with fail
    have h4 := tparent_any t A n c (w1.alloc (.cells #[strv t.lang, strv t.script, strv t.region, .slice A n c] 159)) (HS1.out.ext ((Ext.refl w1).alloc _)) hn hnc (TL_of HV.out)
    cases hup : upP t with
    | none =>
      have hr : upR t = (TagP.zero, false) := by unfold upR; rw [hup]
      rw [hr] at h4
      unfold tagV strv at h4
      simp only at h4
      have hpr := HPR0.out
      rw [hup] at hpr
      simp only at hpr
      have HPR := Lib.hid hpr
      clear hup hr hpr HPR0
      with_reducible refine h4.mono ?_
      clear h4
      rintro e w3 ⟨A2, n2, c2, rfl, hs2, hc2, hw3⟩
      have HW3 := Lib.hid ((HW1.out.alloc _).trans hw3)
      obtain ⟨⟨p0, p1, p2, p3⟩, ⟨e0, e1, e2, e3⟩⟩ := ((AtT.new w1 : AtT 159 (w1.alloc (.cells #[.string ⟨t.lang.toArray⟩, .string ⟨t.script.toArray⟩, .string ⟨t.region.toArray⟩, .slice A n c] 159)) w1.heap.size _ _ _ _).ext hw3).cells
      have HLE := Lib.hid (Ext.size HW1.out)
      clear hw3 hs2
      go_wp2
      go_ret2
      exact ⟨by rw [HPR.out]; rfl, (HW3.out.alloc _)⟩
    | some u =>
      have hu := up_valid HV.out hup
      have hr : upR t = (u, true) := by unfold upR; rw [hup]
      rw [hr] at h4
      unfold tagV strv at h4
      simp only at h4
      have hpr := HPR0.out
      rw [hup] at hpr
      simp only at hpr
      have HPR := Lib.hid hpr
      clear hup hr hpr HPR0
      with_reducible refine h4.mono ?_
      clear h4
      rintro e w3 ⟨A2, n2, c2, rfl, hs2, hc2, hw3⟩
      have HS2 := Lib.hid hs2
      have HX3 := Lib.hid hw3
      have HU := Lib.hid hu
      have HW3 := Lib.hid ((HW1.out.alloc _).trans hw3)
      obtain ⟨⟨p0, p1, p2, p3⟩, ⟨e0, e1, e2, e3⟩⟩ := ((AtT.new w1 : AtT 159 (w1.alloc (.cells #[.string ⟨t.lang.toArray⟩, .string ⟨t.script.toArray⟩, .string ⟨t.region.toArray⟩, .slice A n c] 159)) w1.heap.size _ _ _ _).ext hw3).cells
      have HLE := Lib.hid (Ext.size HW1.out)
      clear hw3 hs2 hu
      go_wp2_with fail
      have hu := HU.out
      have h5 := ttext_any u A2 n2 c2 _ ((HS2.out w3 (Later.refl _ _) (HS1.out.ext (((Ext.refl w1).alloc (.cells #[strv t.lang, strv t.script, strv t.region, .slice A n c] 159)).trans HX3.out))).ext ((Ext.refl w3).alloc (.cells #[strv u.lang, strv u.script, strv u.region, .slice A2 n2 c2] 159))) (by have h1 := (HS2.out w3 (Later.refl _ _) (HS1.out.ext (((Ext.refl w1).alloc (.cells #[strv t.lang, strv t.script, strv t.region, .slice A n c] 159)).trans HX3.out))).1; rw [List.length_map] at h1; rw [← h1]; exact (TL_of hu.1).2.2.2.2) (by have := textP_len hu.1; omega)
      unfold tagV strv at h5
      with_reducible refine h5.mono ?_
      clear h5
      rintro e w5 ⟨rfl, hw5⟩
      have HW5 := Lib.hid ((HW3.out.alloc _).trans hw5)
      clear hw5
      go_wp2
      go_ret2
      exact ⟨by rw [HPR.out]; rfl, HW5.out⟩
  · simp only [ne_eq, h0, not_false_eq_true, if_true] at hpr
    have HPR := Lib.hid hpr
    clear hpr
    have hb : (code == 0) = false := by simpa using h0
    have hb2 : (!code == 0) = true := by simpa using h0
    go_enter Tryz.func110, Tryz.ntmps110
    go_wp2_with fail
    refine (HPA.out _ hm).mono ?_
    rintro e w1 ⟨A, n, c, rfl, hs1, hnc, hw1⟩
    have HW1 := Lib.hid hw1
    clear hs1 hw1
    unfold tagV strv
    go_wp2
    go_ret2
    exact ⟨by rw [HPR.out]; rfl, HW1.out.alloc _⟩

set_option maxHeartbeats 1000000 in
set_option maxRecDepth 100000 in
theorem rparent2_any (s : ByteArray) (w : World) (hs : s.size ≤ 60000) :
    Calls Tryz.prog 91 #[.string s] w fun e w' => e = .returned (.tuple #[strv (parentP s.data.toList).1, .int .i64 (parentP s.data.toList).2]) ∧ Ext w w' := by
  generalize hP : parentP s.data.toList = PR
  have hpr : PR = parentP s.data.toList := hP.symm
  clear hP
  unfold parentP at hpr
  have hok := @parse_ok s.data.toList
  have hpa := fun W => rparse_any s W (by omega)
  generalize parseP EC s.data.toList = R at hok hpa hpr
  obtain ⟨t, code⟩ := R
  have HOK := Lib.hid hok
  have HPA := Lib.hid hpa
  clear hok hpa
  by_cases h0 : code = 0
  · subst h0
    have hv := HOK.out rfl
    have HV := Lib.hid hv
    simp only [ne_eq, not_true_eq_false, if_false] at hpr
    have HPR0 := Lib.hid hpr
    clear hv hpr
    go_enter Tryz.func91, Tryz.ntmps91
    go_wp2_with fail
    refine (HPA.out _).mono ?_
    rintro e w1 ⟨A, n, c, rfl, hs1, hnc, hw1⟩
    have hn : n ≤ 60000 := by
      have h1 := hs1.1
      rw [List.length_map] at h1
      rw [← h1]
      exact (TL_of HV.out).2.2.2.2
    have HS1 := Lib.hid hs1
    have HW1 := Lib.hid hw1
    clear hs1 hw1
    unfold tagV strv
    go_wp2_with fail
    have h4 := rup_any t A n c (w1.alloc (.cells #[strv t.lang, strv t.script, strv t.region, .slice A n c] 167)) (HS1.out.ext ((Ext.refl w1).alloc _)) hn hnc (TL_of HV.out)
    cases hup : upP t with
    | none =>
      have hr : upR t = (TagP.zero, false) := by unfold upR; rw [hup]
      rw [hr] at h4
      unfold tagV strv at h4
      simp only at h4
      have hpr := HPR0.out
      rw [hup] at hpr
      simp only at hpr
      have HPR := Lib.hid hpr
      clear hup hr hpr HPR0
      with_reducible refine h4.mono ?_
      clear h4
      rintro e w3 ⟨A2, n2, c2, rfl, hs2, hc2, hw3⟩
      have HW3 := Lib.hid ((HW1.out.alloc _).trans hw3)
      obtain ⟨⟨p0, p1, p2, p3⟩, ⟨e0, e1, e2, e3⟩⟩ := ((AtT.new w1 : AtT 167 (w1.alloc (.cells #[.string ⟨t.lang.toArray⟩, .string ⟨t.script.toArray⟩, .string ⟨t.region.toArray⟩, .slice A n c] 167)) w1.heap.size _ _ _ _).ext hw3).cells
      have HLE := Lib.hid (Ext.size HW1.out)
      clear hw3 hs2
      go_wp2
      go_ret2
      exact ⟨by rw [HPR.out]; rfl, (((HW3.out.setCell (p := ⟨w1.heap.size, 0, none⟩) HLE.out _).setCell (p := ⟨w1.heap.size, 1, none⟩) HLE.out _).setCell (p := ⟨w1.heap.size, 2, none⟩) HLE.out _).setCell (p := ⟨w1.heap.size, 3, none⟩) HLE.out _⟩
    | some u =>
      have hu := up_valid HV.out hup
      have hr : upR t = (u, true) := by unfold upR; rw [hup]
      rw [hr] at h4
      unfold tagV strv at h4
      simp only at h4
      have hpr := HPR0.out
      rw [hup] at hpr
      simp only at hpr
      have HPR := Lib.hid hpr
      clear hup hr hpr HPR0
      with_reducible refine h4.mono ?_
      clear h4
      rintro e w3 ⟨A2, n2, c2, rfl, hs2, hc2, hw3⟩
      have HS2 := Lib.hid hs2
      have HX3 := Lib.hid hw3
      have HU := Lib.hid hu
      have HW3 := Lib.hid ((HW1.out.alloc _).trans hw3)
      obtain ⟨⟨p0, p1, p2, p3⟩, ⟨e0, e1, e2, e3⟩⟩ := ((AtT.new w1 : AtT 167 (w1.alloc (.cells #[.string ⟨t.lang.toArray⟩, .string ⟨t.script.toArray⟩, .string ⟨t.region.toArray⟩, .slice A n c] 167)) w1.heap.size _ _ _ _).ext hw3).cells
      have HLE := Lib.hid (Ext.size HW1.out)
      clear hw3 hs2 hu
      go_wp2_with fail
      have hu := HU.out
      have h5 := rText_any u A2 n2 c2 _ (HS2.out _ (HS1.out.ext (((((((Ext.refl w1).alloc (.cells #[strv t.lang, strv t.script, strv t.region, .slice A n c] 167)).trans HX3.out).setCell (p := ⟨w1.heap.size, 0, none⟩) (Nat.le_refl _) (strv u.lang)).setCell (p := ⟨w1.heap.size, 1, none⟩) (Nat.le_refl _) (strv u.script)).setCell (p := ⟨w1.heap.size, 2, none⟩) (Nat.le_refl _) (strv u.region)).setCell (p := ⟨w1.heap.size, 3, none⟩) (Nat.le_refl _) (.slice A2 n2 c2)))) (TL_of hu.1)
      rw [txt_valid hu.1] at h5
      unfold tagV strv at h5
      with_reducible refine h5.mono ?_
      clear h5
      rintro e w5 ⟨rfl, hw5⟩
      have HW5 := Lib.hid (((((HW3.out.setCell (p := ⟨w1.heap.size, 0, none⟩) HLE.out _).setCell (p := ⟨w1.heap.size, 1, none⟩) HLE.out _).setCell (p := ⟨w1.heap.size, 2, none⟩) HLE.out _).setCell (p := ⟨w1.heap.size, 3, none⟩) HLE.out _).trans hw5)
      clear hw5
      go_wp2
      go_ret2
      exact ⟨by rw [HPR.out]; rfl, HW5.out⟩
  · simp only [ne_eq, h0, not_false_eq_true, if_true] at hpr
    have HPR := Lib.hid hpr
    clear hpr
    have hb : (code == 0) = false := by simpa using h0
    have hb2 : (!code == 0) = true := by simpa using h0
    go_enter Tryz.func91, Tryz.ntmps91
    go_wp2_with fail
    refine (HPA.out _).mono ?_
    rintro e w1 ⟨A, n, c, rfl, hs1, hnc, hw1⟩
    have HW1 := Lib.hid hw1
    clear hs1 hw1
    unfold tagV strv
    go_wp2
    go_ret2
    exact ⟨by rw [HPR.out]; rfl, HW1.out.alloc _⟩
end Go.Proofs.YtehcldnicefmeaaGreatDoor
namespace Go.Proofs.YtehcldnicefmeaaGreatDoor
open Go.RowKit
set_option linter.unusedSimpArgs false
set_option linter.unusedVariables false

set_option maxRecDepth 100000 in
theorem ris_any (s : ByteArray) (w : World) (hs : s.size ≤ 2000000) :
    Calls Tryz.prog 70 #[.string s] w fun e w' => e = .returned (.bool (isP s.data.toList)) ∧ Ext w w' := by
  have hc := rcan_any s w hs
  generalize hI : isP s.data.toList = I
  unfold isP at hI
  generalize canP s.data.toList = C at hc hI
  obtain ⟨x, code⟩ := C
  obtain ⟨xb, hx1, rfl⟩ := strv_b x
  simp only at hc hI
  rw [hx1] at hc
  have HI := Lib.hid hI
  have HC := Lib.hid hc
  clear hx1 hI hc
  by_cases h0 : code = 0
  · have hb : (code == 0) = true := by simpa using h0
    have HI2 := Lib.hid (show I = (xb.toList == s.toList) from by rw [← HI.out, hb, eq_b]; rfl)
    go_enter Tryz.func70, Tryz.ntmps70
    go_wp2_with (go_at_call 106; refine (HC.out).mono ?_; rintro e w1 ⟨rfl, hw1⟩; have HW1 := Lib.hid hw1; clear hw1)
    all_goals go_ret
    all_goals exact ⟨ret_bool (by rw [HI2.out]; try simp_all), HW1.out⟩
  · have hb : (code == 0) = false := by simpa using h0
    have HI2 := Lib.hid (show I = false from by rw [← HI.out, hb]; rfl)
    go_enter Tryz.func70, Tryz.ntmps70
    go_wp2_with (go_at_call 106; refine (HC.out).mono ?_; rintro e w1 ⟨rfl, hw1⟩; have HW1 := Lib.hid hw1; clear hw1)
    go_ret
    exact ⟨ret_bool HI2.out.symm, HW1.out⟩
end Go.Proofs.YtehcldnicefmeaaGreatDoor
