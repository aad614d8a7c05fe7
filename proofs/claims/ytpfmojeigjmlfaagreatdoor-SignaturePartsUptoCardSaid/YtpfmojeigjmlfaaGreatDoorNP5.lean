import Derived.Test.YtpfmojeigjmlfaaGreatDoorIter
import Derived.Test.YtpfmojeigjmlfaaGreatDoorNP4
import Derived.Test.YtpfmojeigjmlfaaGreatDoorNB1
import Derived.Test.YtpfmojeigjmlfaaGreatDoorGrwS
namespace Go.Proofs.YtpfmojeigjmlfaaGreatDoor
open Go.RowKit Go.Maps Go.Sort Go.Shelf
set_option linter.unusedSimpArgs false
set_option linter.unusedVariables false

/-! The arguments of a table, by name. -/
theorem keysI_any (mb : Nat) (W : World) : Calls Tryz.prog 85 #[.map (some mb)] W fun e w' =>
    e = .returned (.func (.func 123) #[] #[.pointer (some ⟨W.heap.size, 0, none⟩)]) ∧ W.alloc (.cells #[.map (some mb)] 68) = w' :=
  (callsIn_wide.1 (Tryz.maps_Keys_85 (some mb) W)).mono fun _ _ ⟨h1, h2⟩ => ⟨h1, h2.symm⟩
def SortedOf (W : World) (o : List ArgP) (e : Ending) (w' : World) : Prop :=
  ∃ (A : Option Addr) (c : Nat), e = .returned (.slice A o.length c) ∧ Sl w' A o.length ((o.map (·.1)).map strv) ∧ Ext W w'
theorem sortedI_any (w : World) (b n : Nat) (m o : List ArgP) (h : MapI Tryz.prog 9 3 w b n m) (hn : n ≤ 1048576) (ha : o.Pairwise fun x y => x.1 < y.1) (hg : ∀ x, getA m x = getA o x) :
    Calls Tryz.prog 84 #[.func (.func 123) #[] #[.pointer (some ⟨w.heap.size, 0, none⟩)]] (w.alloc (.cells #[.map (some b)] 68))
      (SortedOf (w.alloc (.cells #[.map (some b)] 68)) o) := by
  obtain ⟨D, hown, hsz, hnd, hlen, hmem⟩ := h.keys Tryz.underlying9
  refine (callsIn_wide.1 (Tryz.slices_Sorted_keys_84_85 b n D _ w hown (by unfold maxLen; omega) (by omega))).mono ?_
  rintro e w' ⟨v, ss, rfl, hp, hrow, _, hb⟩
  have hrow2 : w'.ownsRow (w.alloc (.cells #[.map (some b)] 68)).heap.size 9 1 v ss.length ((sortS ss).map strv) := hrow
  have hnd2 : ss.Nodup := hp.nodup_iff.2 hnd
  have hm2 : ∀ x, x ∈ ss ↔ (getA o x).isSome = true := fun x => by rw [hp.mem_iff, hmem, hg]
  rw [names_sort ha hnd2 hm2, names_len ha hnd2 hm2] at hrow2
  obtain ⟨A, c, rfl, hs, hc⟩ := own_sl hrow2
  exact ⟨A, c, rfl, hs, hb⟩
def agP (x : ArgP) : Ag := ⟨⟨x.1.toArray⟩, x.2⟩
theorem agP_of (x : ArgP) : agOf (agP x) = x := by unfold agP agOf; simp
theorem agP_list (o : List ArgP) : (o.map agP).map agOf = o := by
  rw [List.map_map]
  conv => rhs; rw [← List.map_id o]
  refine List.map_congr_left fun x _ => agP_of x
def ArI (w2 : World) (o : List ArgP) (n : Nat) (out i : Value) (wr : World) : Prop := ∃ k : Nat, k ≤ n ∧ i = .int .i64 k ∧ wr.ownsRow w2.heap.size 66 2 out k (((o.take k).map agP).flatMap agC) ∧ Ext w2 wr
set_option maxHeartbeats 2000000 in
set_option maxRecDepth 100000 in
theorem targs_any (g mb n : Nat) (T : TabP) (o : List ArgP) (w : World) (h : TabW w g mb n T) (hT : TabO T o) (hn : n ≤ 100000) (ho : o.length ≤ 100000) (hz : ∀ x ∈ o, x.1.length ≤ maxLen) :
    Calls Tryz.prog 54 #[.pointer (some ⟨g, 0, none⟩)] w fun e w' => ∃ A c, e = .returned (.slice A o.length c) ∧ Ags w' A o.length (o.map agP) ∧ Ext w w' := by
  obtain ⟨i0, hi, hz0, hz1, hz2⟩ := info_parts (show (Tryz.prog.info? 66).map (fun i => (i.zero, i.size, i.bytes)) = some (some (.agg #[.string ⟨#[]⟩, .int .i64 0]), 2, 24) from by kernel_rfl)
  have h0 := h.at_.cell 0 _ rfl
  have HT := Lib.hid h
  have HO := Lib.hid hT
  have HZ := Lib.hid hz
  have K1 := Lib.hid (keysI_any mb w)
  have K2 := Lib.hid (sortedI_any w mb n T.m o h.map (by omega) hT.1 hT.2.1)
  obtain ⟨N, hN⟩ : ∃ N, N = o.length := ⟨_, rfl⟩
  have HN := Lib.hid hN
  have hN2 : N ≤ 100000 := by omega
  rw [← hN]
  clear h hT hz hN ho
  go_enter Tryz.func54, Tryz.ntmps54
  go_wp2_with fail
  refine K1.out.mono ?_
  rintro e1 w1 ⟨rfl, hw1⟩
  subst hw1
  go_wp2_with fail
  refine K2.out.mono ?_
  rintro e2 w2 ⟨A2, c2, rfl, hs2, hw2⟩
  rw [← HN.out] at hs2 ⊢
  have HS2 := Lib.hid hs2
  have HW2 := Lib.hid (((Ext.refl w).alloc (.cells #[.map (some mb)] 68)).trans hw2)
  clear hw2 hs2 h0
  go_wp2_with fail
  go_loopw [3, 13] (ArI w2 o N) (fun _ i _ => N - (intOf i).toNat)
  case atStart => exact ⟨0, Nat.zero_le _, rfl, World.ownsRow_nil _ _ _ _, Ext.refl _⟩
  case round =>
    obtain ⟨k, hk, rfl, how, hw⟩ := hrel
    have HOW := Lib.hid how
    have HW := Lib.hid hw
    clear how hw
    by_cases hkn : k < N
    · obtain ⟨x, hx⟩ : ∃ x, o[k]? = some x := ⟨_, List.getElem?_eq_getElem (by have := HN.out; omega)⟩
      obtain ⟨ad, u, rfl, hu, hcx⟩ := (HS2.out.ext HW.out).at_map hkn
      have hux : u = x.1 := by rw [List.getElem?_map, hx] at hu; injection hu with hu; exact hu.symm
      subst hux
      have hcx2 : wr.cell? (ad.add k) = some (.string (agP x).n) := hcx
      have hxz : (agP x).n.size ≤ maxLen := HZ.out x (List.mem_of_getElem? hx)
      have hkI : (k : Int) < (N : Int) := by omega
      have HX := Lib.hid hx
      have HAT := Lib.hid (HT.out.at_.ext (HW2.out.trans HW.out))
      have HMP := Lib.hid (HT.out.map.ext (HW2.out.trans HW.out))
      have h0 := HAT.out.cell 0 _ rfl
      have hzz : (zeroValue 3).run Tryz.prog wr = .ok (.int .i64 0) wr := by kernel_rfl
      have HGE := Lib.hid (show (getA T.m (agP x).n.data.toList).getD 0 = (agP x).t from by
        have e : (agP x).n.data.toList = x.1 := by unfold agP; simp
        rw [e, HO.out.2.1, mem_get HO.out.1 (List.mem_of_getElem? hx)]; rfl)
      have hone : ∀ u ∈ agC (agP x), u.oneCell' = true := by intro u hu; unfold agC at hu; simp at hu; rcases hu with rfl | rfl <;> rfl
      have HONE := Lib.hid hone
      have HNC := Lib.hid (new_cells wr #[.string (agP x).n, .int .i64 (agP x).t] 66)
      have HOX := Lib.hid (own_ext HOW.out ((Ext.refl wr).alloc (.cells #[.string (agP x).n, .int .i64 (agP x).t] 66)))
      clear hcx hx hone hu
      generalize hy : agP x = y at *
      have HY := Lib.hid hy
      clear hy
      go_wp2_with (first
        | (at_lookup; refine wpList_lookupI rfl _ _ 68 9 3 rfl Tryz.underlying9 Tryz.underlying3 Tryz.underlying68 hzz mb n T.m rfl HMP.out y.n rfl hxz ?_; rw [HGE.out])
        | (at_builtin; refine wpList_appN _ rfl _ _ 41 rfl w2.heap.size 66 i0 _ 2 24 Tryz.underlying41 hi hz0 hz1 hz2 rfl (by decide) _ k _ rfl HOX.out ⟨wr.heap.size, 0, none⟩ 1 1 _ rfl rfl HNC.out HONE.out (by unfold maxLen; omega) (by omega) (HW.out.alloc _).size ?_; intro v' w3 hown' hgrow hwhere; have HO' := Lib.hid hown'; have HG' := Lib.hid hgrow; clear hown' hgrow hwhere))
      refine ⟨⟨k + 1, by omega, by go_num, ?_, ext_grown (a := w2) (B := w2.heap.size) (HW.out.alloc _) HOX.out (Nat.le_refl _) HG'.out⟩, by simp [intOf]; omega⟩
      rw [take_next HX.out, List.map_append, List.flatMap_append]
      have h := HO'.out
      rw [List.map_singleton, HY.out]
      have e1 : [y].flatMap agC = agC y := by simp
      rw [e1]
      exact h
    · have hkk : k = N := by omega
      subst hkk
      obtain ⟨A5, c5, hv5, hs5⟩ := own_slN HOW.out
      subst hv5
      have HS5 := Lib.hid hs5
      clear hs5
      go_wp2
      go_ret
      refine ⟨A5, c5, rfl, ?_, HW2.out.trans HW.out⟩
      have h := HS5.out
      rw [List.take_of_length_le (by rw [← HN.out]; exact Nat.le_refl _)] at h
      exact h
end Go.Proofs.YtpfmojeigjmlfaaGreatDoor
namespace Go.Proofs.YtpfmojeigjmlfaaGreatDoor
open Go.RowKit Go.Shelf
set_option linter.unusedSimpArgs false
set_option linter.unusedVariables false

/-! Two lists in one: slices.Concat. -/
section
variable {P : Program} (w : World)
/-- append of structs of whatever length, where the second slice may be nil. -/
theorem wpList_appSl {ops : Array Oper} {rest : List Oper} {o : Oper} {a : Act} {Q : Exit → Act → World → Prop} (hgd : o.guard = none) (s x : Operand) (t : TypeId)
    (ho : o.op = .call { callee := .builtin .append, args := #[s, x], argTypes := #[t, t] })
    (base : Nat) (e : TypeId) (i : TypeInfo) (z : Value) (size bytes : Nat) (ht : P.underlying t = some (.slice e)) (hi : P.info? e = some i) (hz : i.zero = some z)
    (hsize : i.size = size) (hby : i.bytes = bytes) (hzs : z.cells.size = size) (hpos : 0 < size)
    (v : Value) (n : Nat) (xs : List Value) (hs : a.eval s = v) (hown : w.ownsRow base e size v n xs)
    (A : Option Addr) (m c : Nat) (news : List Value) (hx : a.eval x = .slice A m c) (hsl : SlN w A m size news) (h1 : ∀ u ∈ news, u.oneCell' = true)
    (h63 : n + m ≤ maxLen) (hbytes : (n + m) * bytes ≤ 140737488355328) (hbase : base ≤ w.heap.size)
    (h : ∀ v' w', w'.ownsRow base e size v' (n + m) (xs ++ news) → w.grownBy w' v.ownBlock → wpList P ops Q rest (a.put o.dst v') w') :
    wpList P ops Q (o :: rest) a w := by
  cases A with
  | none =>
    have hn : news = [] := by
      cases hl : news with
      | nil => rfl
      | cons u r =>
        obtain ⟨b, o', e', _⟩ := hsl.2 0 u (by rw [hl]; rfl)
        cases e'
    have hm : m = 0 := by
      have h2 := hsl.1
      rw [hn] at h2
      have h3 : m * size = 0 := by simpa using h2.symm
      rcases Nat.mul_eq_zero.1 h3 with h3 | h3
      · exact h3
      · omega
    subst hm
    subst hn
    refine wpList_plain hgd fun K hK => ?_
    have hrun := run_append_nil_any (P := P) w base t o.type e i size ht hi v n xs hown c
    unfold Oper.wp execOp
    simp only [ho, resolve, invoke, builtin, Sem.run_bind, Sem.run_pure, Result.andThen_ok, List.map_toArray, List.map_cons, List.map_nil, hs, hx, hrun]
    exact hK _ _ (h v w (by simpa using hown) (World.grownBy.refl w _))
  | some ad =>
    refine wpList_appN w hgd s x t ho base e i z size bytes ht hi hz hsize hby hzs hpos v n xs hs hown ad m c news hx hsl.1 (fun j u hu => ?_) h1 h63 hbytes hbase (fun v' w' a1 a2 _ => h v' w' a1 a2)
    obtain ⟨b, o', e', _, hc⟩ := hsl.2 j u hu
    injection e' with e'
    subst e'
    rw [add_none]
    exact hc
end
theorem agC_one (l : List Ag) : ∀ u ∈ l.flatMap agC, u.oneCell' = true := by
  intro u hu
  obtain ⟨x, _, hx⟩ := List.mem_flatMap.1 hu
  unfold agC at hx
  simp at hx
  rcases hx with rfl | rfl <;> rfl
set_option maxRecDepth 100000 in
theorem grow0_any (N : Nat) (w : World) (hN : N ≤ 100000) : Calls Tryz.prog 89 #[.slice none 0 0, .int .i64 N] w fun e w' => ∃ v, e = .returned v ∧ w'.ownsRow w.heap.size 66 2 v 0 [] ∧ Ext w w' := by
  obtain ⟨i0, hi, hz0, hz1, hz2⟩ := info_parts (show (Tryz.prog.info? 66).map (fun i => (i.zero, i.size, i.bytes)) = some (some (.agg #[.string ⟨#[]⟩, .int .i64 0]), 2, 24) from by kernel_rfl)
  rcases Nat.eq_zero_or_pos N with h0 | h0
  · subst h0
    refine (Any8.slices_Grow_room Tryz.grow none 0 0 0 w (Nat.le_refl _) (by omega) (by omega) (Nat.le_refl _)).mono ?_
    rintro e w' ⟨rfl, rfl⟩
    exact ⟨_, rfl, World.ownsRow_nil _ _ _ _, Ext.refl _⟩
  · refine (Any8.slices_Grow_grow Tryz.grow i0 _ hi hz0 (by omega) none 0 0 N [] w (Nat.le_refl _) (by omega) (by rw [hz2]; omega) (by omega) (by simp) (fun _ => rfl) (fun a h => by cases h)).mono ?_
    rintro e w' ⟨rfl, rfl⟩
    refine ⟨_, rfl, ?_, (Ext.refl w).drew.alloc _⟩
    rw [Nat.zero_add, show Tryz.grow_ren.t 25 = 66 from rfl]
    have hge := grownCap_ge w N 0 66
    have hle := grownCap_le_maxLen w N 0 66 (by unfold maxLen; omega)
    refine World.ownsRow_made w.drew _ (grownCap w N 0 66) (Nat.le_refl _) hle ?_
    simp only [Array.size_append, size_zeroCells]
    have e2 : (Value.agg #[Value.string ⟨#[]⟩, Value.int .i64 0]).cells.size = 2 := rfl
    rw [e2]
    simp
    omega
def szI (n m k : Nat) : Nat := if k = 0 then 0 else if k = 1 then n else n + m
def liI (a b : List Ag) (k : Nat) : List Ag := if k = 0 then [] else if k = 1 then a else a ++ b
def CcI (w : World) (n m : Nat) (s i : Value) (wr : World) : Prop := ∃ k : Nat, k ≤ 2 ∧ i = .int .i64 k ∧ s = .int .i64 (szI n m k) ∧ Ext w wr
def CcJ (w2 : World) (a b : List Ag) (n m : Nat) (out i : Value) (wr : World) : Prop := ∃ k : Nat, k ≤ 2 ∧ i = .int .i64 k ∧ wr.ownsRow w2.heap.size 66 2 out (szI n m k) ((liI a b k).flatMap agC) ∧ Ext w2 wr
set_option maxHeartbeats 2000000 in
set_option maxRecDepth 100000 in
theorem concat_any (a b : List Ag) (A B : Option Addr) (n m c d q : Nat) (w : World) (hq : AtC 41 w q #[.slice A n c, .slice B m d]) (hA : Ags w A n a) (hB : Ags w B m b) (hn : n ≤ 40000) (hm : m ≤ 40000) :
    Calls Tryz.prog 59 #[.slice (some ⟨q, 0, none⟩) 2 2] w fun e w' => ∃ A' c', e = .returned (.slice A' (n + m) c') ∧ Ags w' A' (n + m) (a ++ b) ∧ Ext w w' ∧ ∀ ad, A' = some ad → w.heap.size ≤ ad.block := by
  obtain ⟨i0, hi, hz0, hz1, hz2⟩ := info_parts (show (Tryz.prog.info? 66).map (fun i => (i.zero, i.size, i.bytes)) = some (some (.agg #[.string ⟨#[]⟩, .int .i64 0]), 2, 24) from by kernel_rfl)
  have HQ := Lib.hid hq
  have HA := Lib.hid hA
  have HB := Lib.hid hB
  clear hq hA hB
  go_enter Tryz.func59, Tryz.ntmps59
  go_wp2_with fail
  go_loopw [3, 11] (CcI w n m) (fun _ i _ => 2 - (intOf i).toNat)
  case atStart => exact ⟨0, by omega, rfl, rfl, Ext.refl _⟩
  case round =>
    obtain ⟨k, hk, rfl, rfl, hw⟩ := hrel
    obtain ⟨wo, rfl⟩ : ∃ wo : World, wo = wr := ⟨_, rfl⟩
    have HW := Lib.hid hw
    have g0 := (HQ.out.ext hw).cell 0 _ rfl
    have g1 := (HQ.out.ext hw).cell 1 _ rfl
    clear hw
    have hc : k = 0 ∨ k = 1 ∨ k = 2 := by omega
    rcases hc with rfl | rfl | rfl
    · have e0 : ((szI n m 0 : Nat) : Int) = 0 := rfl
      have s1 : ¬ (n : Int) < 0 := by omega
      have HN := Lib.hid (show szI n m 1 = n from rfl)
      rw [e0]
      go_wp2
      exact ⟨⟨1, by omega, rfl, by rw [HN.out]; first | done | rfl | simp, HW.out⟩, by simp [intOf]⟩
    · have e0 : ((szI n m 1 : Nat) : Int) = n := rfl
      have s1 : ¬ (n : Int) + (m : Int) < 0 := by omega
      have s2 : wrap64 ((n : Int) + (m : Int)) = (n : Int) + (m : Int) := IntWalk.wrap64_in _ (by omega)
      have s3 : IntKind.i64.wrap ((n : Int) + (m : Int)) = (n : Int) + (m : Int) := IntWalk.i64_in _ (by omega)
      have HN := Lib.hid (show szI n m 2 = n + m from rfl)
      rw [e0]
      go_wp2
      exact ⟨⟨2, by omega, rfl, by rw [HN.out]; first | done | rfl | simp, HW.out⟩, by simp [intOf]⟩
    · have e0 : ((szI n m 2 : Nat) : Int) = ((n + m : Nat) : Int) := rfl
      have HG := Lib.hid (grow0_any (n + m) wo (by omega))
      rw [e0]
      go_wp2_with fail
      refine HG.out.mono ?_
      rintro e2 w2 ⟨v2, rfl, hown2, hw2⟩
      have HO2 := Lib.hid hown2
      have HW2 := Lib.hid (HW.out.trans hw2)
      have HX2 := Lib.hid hw2
      clear hown2 hw2 g0 g1
      go_wp2_with fail
      go_loopw [6, 27] (CcJ wo a b n m) (fun _ i _ => 2 - (intOf i).toNat)
      case atStart => exact ⟨0, by omega, rfl, HO2.out, HX2.out⟩
      case round =>
        obtain ⟨k, hk, rfl, how, hw⟩ := hrel
        have HOW := Lib.hid how
        have HW3 := Lib.hid hw
        have g0 := (HQ.out.ext (HW.out.trans hw)).cell 0 _ rfl
        have g1 := (HQ.out.ext (HW.out.trans hw)).cell 1 _ rfl
        clear how hw
        have hc : k = 0 ∨ k = 1 ∨ k = 2 := by omega
        rcases hc with rfl | rfl | rfl
        · go_wp2_with (at_builtin; refine wpList_appSl _ rfl _ _ 41 rfl wo.heap.size 66 i0 _ 2 24 Tryz.underlying41 hi hz0 hz1 hz2 rfl (by decide) _ _ _ rfl HOW.out A n c _ rfl (HA.out.ext (HW.out.trans HW3.out)) (agC_one a) (by unfold szI maxLen; simp; omega) (by unfold szI; simp; omega) (Ext.size HW3.out) ?_; intro v' w9 hown' hgrow; have HO' := Lib.hid hown'; have HG' := Lib.hid hgrow; clear hown' hgrow)
          refine ⟨⟨1, by omega, rfl, ?_, HW3.out.grown HG'.out (own_lt HOW.out)⟩, by simp [intOf]⟩
          have h := HO'.out
          rw [show szI n m 0 + n = szI n m 1 from by unfold szI; simp] at h
          exact h
        · go_wp2_with (at_builtin; refine wpList_appSl _ rfl _ _ 41 rfl wo.heap.size 66 i0 _ 2 24 Tryz.underlying41 hi hz0 hz1 hz2 rfl (by decide) _ _ _ rfl HOW.out B m d _ rfl (HB.out.ext (HW.out.trans HW3.out)) (agC_one b) (by unfold szI maxLen; simp; omega) (by unfold szI; simp; omega) (Ext.size HW3.out) ?_; intro v' w9 hown' hgrow; have HO' := Lib.hid hown'; have HG' := Lib.hid hgrow; clear hown' hgrow)
          refine ⟨⟨2, by omega, rfl, ?_, HW3.out.grown HG'.out (own_lt HOW.out)⟩, by simp [intOf]⟩
          have h := HO'.out
          rw [show szI n m 1 + m = szI n m 2 from by unfold szI; simp] at h
          rw [show (liI a b 2).flatMap agC = (liI a b 1).flatMap agC ++ b.flatMap agC from by unfold liI; simp]
          exact h
        · obtain ⟨A5, c5, hv5, hs5⟩ := own_slN HOW.out
          subst hv5
          have HS5 := Lib.hid hs5
          clear hs5
          go_wp2
          go_ret
          exact ⟨A5, c5, rfl, HS5.out, HW.out.trans HW3.out, fun ad had => by subst had; exact Nat.le_trans (Ext.size HW.out) (HOW.out.lt ad.block rfl).1⟩
end Go.Proofs.YtpfmojeigjmlfaaGreatDoor
