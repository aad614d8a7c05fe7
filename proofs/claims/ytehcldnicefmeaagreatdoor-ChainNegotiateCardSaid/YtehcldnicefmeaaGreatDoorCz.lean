import Derived.Test.YtehcldnicefmeaaGreatDoorCy
namespace Go.Proofs.YtehcldnicefmeaaGreatDoor
open Go.RowKit Go.Shelf
set_option linter.unusedSimpArgs false
set_option linter.unusedVariables false
attribute [local go_sem] Oper.semAt_some

/-! The chain, by the program. -/
theorem hasI_any (o : List Nat) (k : Nat) (A : Option Addr) (n c : Nat) (w : World) (hA : Sl w A n (o.map natV)) (hn : n ≤ 1048576) :
    Calls Tryz.prog 74 #[.slice A n c, .int .i64 (k : Int)] w fun e w' => e = .returned (.bool (decide (k ∈ o))) ∧ w = w' := by
  have hx : o.length = n := by have := hA.1; rwa [List.length_map] at this
  by_cases h0 : n = 0
  · subst h0
    have hx0 : o = [] := List.eq_nil_of_length_eq_zero hx
    subst hx0
    refine (Tryz.slices_Contains_int_empty A c k w).mono ?_
    rintro e w' ⟨rfl, rfl⟩
    exact ⟨ret_bool (by simp), rfl⟩
  · cases A with
    | none => exact absurd (none_nil hA) h0
    | some a =>
      obtain ⟨b, ob, rfl, _⟩ := addr_flat hA (by omega)
      have h := Tryz.slices_Contains_int b ob n c (o.map fun x : Nat => (x : Int)) (k : Int) w (by rw [List.length_map]; omega) (by omega) (fun j hj => by
        rw [List.length_map] at hj
        obtain ⟨ad, ha, _, hcell⟩ := hA.2 j (natV o[j]) (by rw [List.getElem?_map, List.getElem?_eq_getElem hj]; rfl)
        injection ha with ha
        subst ha
        rw [add_flat] at hcell
        rw [hcell]
        simp [List.getD_eq_getElem?_getD, hj, natV])
      refine h.mono ?_
      rintro e w' ⟨rfl, rfl⟩
      refine ⟨ret_bool ?_, rfl⟩
      rw [List.take_of_length_le (by rw [List.length_map]; omega), Bool.eq_iff_iff, List.contains_iff_mem, List.mem_map, decide_eq_true_iff]
      constructor
      · rintro ⟨x, hx, he⟩
        have : x = k := by omega
        exact this ▸ hx
      · intro h; exact ⟨k, h, rfl⟩
set_option maxRecDepth 100000 in
theorem cwalk_any (L A N : Option Addr) (ln lc n c m d : Nat) (s : ByteArray) (w : World) :
    Calls Tryz.prog 73 #[.agg #[.slice L ln lc, .slice A n c, .slice N m d], .string s] w fun e w' => e = .returned (.func (.func 107) #[] #[.pointer (some ⟨w.heap.size, 0, none⟩), .pointer (some ⟨w.heap.size + 1, 0, none⟩)]) ∧ w' = (w.alloc (.cells #[.slice L ln lc, .slice A n c, .slice N m d] 26)).alloc (.cells #[.string s] 9) := by
  go_enter Tryz.func73, Tryz.ntmps73
  go_wp2
  go_ret
  exact ⟨rfl, rfl⟩

theorem AtC.frozen {T : TypeId} {w : World} {g : Nat} {cs : Array Value} (h : AtC T w g cs) (j : Nat) : w.frozen? ⟨g, j, none⟩ = false := by
  unfold AtC at h
  simp [World.frozen?, h]
theorem AtC.set {T : TypeId} {w : World} {g : Nat} {u : Value} (h : AtC T w g #[u]) (v : Value) : AtC T (w.setCell ⟨g, 0, none⟩ v) g #[v] := one_setCell h
theorem AtC.other {T : TypeId} {w : World} {g : Nat} {cs : Array Value} (h : AtC T w g cs) (a : Addr) (hn : g ≠ a.block) (v : Value) : AtC T (w.setCell a v) g cs := (Below.heap_setCell _ _ _ _ hn).trans h
def CX (w : World) (e : Int) (W : World) : Prop := Ext w W ∧ AtC 60 W (w.heap.size + 1) #[.slice none 0 0] ∧ AtC 30 W (w.heap.size + 1 + 1) #[.int .i64 e]
theorem CX.stores {w W : World} (h : Ext w W) {u4 u5 : Value} (h4 : AtC 60 W (w.heap.size + 1) #[u4]) (h5 : AtC 30 W (w.heap.size + 1 + 1) #[u5]) (e : Int) :
    CX w e ((W.setCell ⟨w.heap.size + 1, 0, none⟩ (.slice none 0 0)).setCell ⟨w.heap.size + 1 + 1, 0, none⟩ (.int .i64 e)) :=
  ⟨(h.setCell (p := ⟨w.heap.size + 1, 0, none⟩) (by simp) _).setCell (p := ⟨w.heap.size + 1 + 1, 0, none⟩) (by simp; omega) _, (h4.set _).other _ (by simp) _, (h5.other _ (by simp) _).set _⟩
theorem Sl.put {W : World} {A : Option Addr} {n D : Nat} {xs : List Value} {ob : Obj} (h : Sl W A n xs) (hD : W.heap[D]? = some ob) (hn : ob.isCells = false) (ob' : Obj) : Sl (W.putObj D ob') A n xs :=
  ⟨h.1, fun j u hu => by
    obtain ⟨ad, ha, hb, hc⟩ := h.2 j u hu
    exact ⟨ad, ha, by rw [World.putObj_size]; exact hb, cell_kept hc (grownBy_putObj' _ D ob') (fun r e => by cases e; exact ⟨_, hD, hn⟩)⟩⟩
theorem AtC.put {T : TypeId} {W : World} {g D : Nat} {cs : Array Value} {ob : Obj} (h : AtC T W g cs) (hD : W.heap[D]? = some ob) (hn : ob.isCells = false) (ob' : Obj) : AtC T (W.putObj D ob') g cs := by
  refine (World.putObj_heap_other fun e => ?_).trans h
  unfold AtC at h
  rw [e, hD] at h
  injection h with h
  rw [h] at hn
  cases hn
theorem own_cells {w : World} {B : Nat} {e : TypeId} {size : Nat} {v : Value} {n : Nat} {xs : List Value} (h : w.ownsRow B e size v n xs) {j : Nat} {ob : Obj} (hj : v.ownBlock = some j) (ho : w.heap[j]? = some ob) : ob.isCells = true := by
  obtain ⟨h1, h2⟩ := h
  rcases h2 with ⟨h2, _⟩ | ⟨g, cap, cur, hv, hb, hg, _⟩
  · rw [h2] at hj; cases hj
  · rw [hv] at hj
    simp [Value.ownBlock] at hj
    subst hj
    rw [hg] at ho
    injection ho with ho
    rw [← ho]
    rfl
/-- What lies between two rounds. -/
def CI (w : World) (g1 g2 : Nat) (tb : Array Value) (cb : ByteArray) (B8 base : Nat) (o : List Nat) (W : World) : Prop :=
  base ≤ W.heap.size ∧ Ext w W ∧ AtC 26 W g1 tb ∧ AtC 9 W g2 #[.string cb] ∧ AtC 60 W (w.heap.size + 1) #[.slice none 0 0] ∧ AtC 30 W (w.heap.size + 1 + 1) #[.int .i64 0] ∧
    ∃ v, AtC 60 W B8 #[v] ∧ W.ownsRow base 3 1 v o.length (o.map natV)
theorem CI.ext {w : World} {g1 g2 : Nat} {tb : Array Value} {cb : ByteArray} {B8 base : Nat} {o : List Nat} {W W' : World} (h : CI w g1 g2 tb cb B8 base o W) (hw : Ext W W') : CI w g1 g2 tb cb B8 base o W' := by
  obtain ⟨h0, h1, h2, h3, h4, h5, v, h6, h7⟩ := h
  exact ⟨Nat.le_trans h0 (Ext.size hw), h1.trans hw, h2.ext hw, h3.ext hw, h4.ext hw, h5.ext hw, v, h6.ext hw, own_ext h7 hw⟩
theorem AtC.turn {T : TypeId} {W : World} {g B : Nat} {cs : Array Value} {r : Loop} (h : AtC T W g cs) (hl : AtLoop B r W) (ob : Obj) : AtC T (W.putObj (B + 1) ob) g cs := by
  refine (World.putObj_heap_other fun e => ?_).trans h
  unfold AtC at h
  rw [e, hl.1] at h
  cases h
theorem ext_turn {w W : World} {B : Nat} {r : Loop} (h : Ext w W) (hl : AtLoop B r W) (hB : w.heap.size ≤ B + 1) (ob : Obj) : Ext w (W.putObj (B + 1) ob) :=
  Below.grown h (grownBy_putObj' W (B + 1) ob) (Ext.size h) (fun k e => by cases e; exact hB)
theorem CI.turn {w : World} {g1 g2 : Nat} {tb : Array Value} {cb : ByteArray} {B8 base : Nat} {o : List Nat} {W : World} {B : Nat} {r r' : Loop} (h : CI w g1 g2 tb cb B8 base o W) (hl : AtLoop B r W) (hB : w.heap.size ≤ B + 1) : CI w g1 g2 tb cb B8 base o (W.putObj (B + 1) (.loop r')) := by
  obtain ⟨h0, h1, h2, h3, h4, h5, v, h6, h7⟩ := h
  exact ⟨by rw [World.putObj_size]; exact h0, ext_turn h1 hl hB _, h2.turn hl _, h3.turn hl _, h4.turn hl _, h5.turn hl _, v, h6.turn hl _, ownsRow_putObj h7 _ hl.1 rfl⟩
theorem CX.turn {w : World} {e : Int} {W : World} {B : Nat} {r r' : Loop} (h : CX w e W) (hl : AtLoop B r W) (hB : w.heap.size ≤ B + 1) : CX w e (W.putObj (B + 1) (.loop r')) :=
  ⟨ext_turn h.1 hl hB _, h.2.1.turn hl _, h.2.2.turn hl _⟩

set_option maxHeartbeats 4000000 in
set_option maxRecDepth 100000 in
theorem tchain_any (l : List Lc) (al : List Ali) (L A N : Option Addr) (ln lc n c m d : Nat) (s : ByteArray) (w : World) (hm : Mx w) (hL : Lcs w L ln l) (hln : ln ≤ 100000) (hA : Als w A n al) (hn : n ≤ 100000) (hz : ∀ a ∈ al, a.1.size ≤ 60000 ∧ a.2.size ≤ 60000) (hs : ∀ x ∈ l, x.t.size ≤ 60000) (hss : s.size ≤ 60000) :
    Calls Tryz.prog 30 #[.agg #[.slice L ln lc, .slice A n c, .slice N m d], .string s] w (RetOrd w (locsC (l.map locOf) al s.data.toList)) := by
  obtain ⟨i0, hi, hz0, hz1, hz2⟩ := info_parts (show (Tryz.prog.info? 3).map (fun i => (i.zero, i.size, i.bytes)) = some (some (.int .i64 0), 1, 8) from by kernel_rfl)
  obtain ⟨W2, hW2⟩ : ∃ W2, W2 = ((w.alloc (.cells #[.slice L ln lc, .slice A n c, .slice N m d] 26)).alloc (.cells #[.slice none 0 0] 60)).alloc (.cells #[.int .i64 0] 30) := ⟨_, rfl⟩
  have HE2 := Lib.hid (show Ext w W2 from by rw [hW2]; exact (((Ext.refl w).alloc _).alloc _).alloc _)
  have KB := Lib.hid (show AtC 26 W2 w.heap.size #[.slice L ln lc, .slice A n c, .slice N m d] from by rw [hW2]; exact ((AtC.new w _).alloc _).alloc _)
  have K4 := Lib.hid (show AtC 60 W2 (w.heap.size + 1) #[.slice none 0 0] from by
    rw [hW2]
    have := (AtC.new (w.alloc (.cells #[.slice L ln lc, .slice A n c, .slice N m d] 26)) #[.slice none 0 0] : AtC 60 _ _ _)
    rw [World.size_alloc] at this
    exact this.alloc _)
  have K5 := Lib.hid (show AtC 30 W2 (w.heap.size + 1 + 1) #[.int .i64 0] from by
    rw [hW2]
    have := (AtC.new ((w.alloc (.cells #[.slice L ln lc, .slice A n c, .slice N m d] 26)).alloc (.cells #[.slice none 0 0] 60)) #[.int .i64 0] : AtC 30 _ _ _)
    rw [World.size_alloc, World.size_alloc] at this
    exact this)
  have KU := fun W (h : Ext w W) => cusable_any l al L A N ln lc n c m d W (hm.ext h) (hL.ext h) hln (hA.ext h) hn hz hs
  have KC := fun W (h : Ext w W) => tacan_any al s A n c W (hm.ext h) (hA.ext h) hn hz hss
  have HLN := Lib.hid (show (l.map locOf).length = ln from by rw [List.length_map]; exact hL.len)
  obtain ⟨R, hR⟩ : ∃ R, R = locsC (l.map locOf) al s.data.toList := ⟨_, rfl⟩
  rw [← hR]
  have HR := Lib.hid hR
  have HMX := Lib.hid hm
  have HL := Lib.hid hL
  have HS := Lib.hid hs
  clear hL hA hz hs hR hm
  have h0 := KB.out.cell 0 _ rfl
  have h1 := KB.out.cell 1 _ rfl
  have h2 := KB.out.cell 2 _ rfl
  have h4 := K4.out.cell 0 _ rfl
  have h5 := K5.out.cell 0 _ rfl
  cases hu : usableC (l.map locOf) al with
  | false =>
    rw [hu] at KU
    have HU := Lib.hid KU
    have HF := Lib.hid (HR.out.trans (locs_arg hu))
    clear KU hu KC
    refine (callsIn_wide (n := 5)).1 (callsIn_of_wp_marks Tryz.func30 rfl trivial ?_ rfl)
    simp only [Tryz.ntmps30, List.size_toArray, List.length_cons, List.length_nil, Nat.reduceAdd, Nat.reduceSub, Array.replicate_succ, Array.replicate_zero, List.push_toArray, List.append_toArray, List.nil_append, List.cons_append]
    rw [hW2] at h0 h1 h2 h4 h5
    gi_wp2_with fail
    rw [← hW2]
    clear hW2
    refine ⟨trivial, ?_⟩
    refine (callsIn_wide.2 (HU.out _ HE2.out)).mono ?_
    rintro e w3 ⟨rfl, hw3⟩
    have HE3 := Lib.hid (HE2.out.trans hw3)
    have K43 := Lib.hid (K4.out.ext hw3)
    have K53 := Lib.hid (K5.out.ext hw3)
    clear hw3 h0 h1 h2 h4 h5 HU KB K4 K5
    have p4 := K43.out.cell 0 _ rfl
    have p5 := K53.out.cell 0 _ rfl
    have q4 := K43.out.frozen 0
    have q5 := K53.out.frozen 0
    gi_wp2
    have k4 := (K43.out.set (.slice none 0 0)).other ⟨w.heap.size + 1 + 1, 0, none⟩ (by simp) (.int .i64 1)
    have k5 := (K53.out.other ⟨w.heap.size + 1, 0, none⟩ (by simp) (.slice none 0 0)).set (.int .i64 1)
    have r4 := k4.cell 0 _ rfl
    have r5 := k5.cell 0 _ rfl
    refine ⟨.tuple #[.slice none 0 0, .int .i64 1], by simp [results, Tryz.results30, go_sem, r4, r5], none, 0, 0, by rw [HF.out], by rw [HF.out]; exact Sl.nil _ _, Nat.le_refl _, ?_⟩
    exact (HE3.out.setCell (p := ⟨w.heap.size + 1, 0, none⟩) (by simp) _).setCell (p := ⟨w.heap.size + 1 + 1, 0, none⟩) (by simp; omega) _
  | true =>
    rw [hu] at KU
    have HU := Lib.hid KU
    have HUS := Lib.hid hu
    clear KU hu
    have hcs := can_size (al := al) (s := s.data.toList)
    have hgo := fun hc => HR.out.trans (locs_go (s := s.data.toList) HUS.out hc)
    have hbad := fun hc => HR.out.trans (locs_can (s := s.data.toList) HUS.out hc)
    generalize canL al s.data.toList = C at KC hcs hgo hbad
    obtain ⟨cx, ce⟩ := C
    obtain ⟨cb, hcb, rfl⟩ := strv_b cx
    simp only at KC hcs hgo hbad
    rw [hcb] at KC
    have HC := Lib.hid KC
    have hcb60 : cb.size ≤ 60000 := by have h2 : cb.data.toList.length = cb.size := by simp
                                       omega
    clear KC hcb hcs
    refine (callsIn_wide (n := 5)).1 (callsIn_of_wp_marks Tryz.func30 rfl trivial ?_ rfl)
    simp only [Tryz.ntmps30, List.size_toArray, List.length_cons, List.length_nil, Nat.reduceAdd, Nat.reduceSub, Array.replicate_succ, Array.replicate_zero, List.push_toArray, List.append_toArray, List.nil_append, List.cons_append]
    rw [hW2] at h0 h1 h2 h4 h5
    gi_wp2_with fail
    rw [← hW2]
    clear hW2
    refine ⟨trivial, ?_⟩
    refine (callsIn_wide.2 (HU.out _ HE2.out)).mono ?_
    rintro e w3 ⟨rfl, hw3⟩
    have HE3 := Lib.hid (HE2.out.trans hw3)
    have KB3 := Lib.hid (KB.out.ext hw3)
    have K43 := Lib.hid (K4.out.ext hw3)
    have K53 := Lib.hid (K5.out.ext hw3)
    clear hw3 h0 h1 h2 h4 h5 HU KB K4 K5
    have h1 := KB3.out.cell 1 _ rfl
    gi_wp2_with fail
    refine ⟨trivial, ?_⟩
    refine (callsIn_wide.2 (HC.out _ HE3.out)).mono ?_
    rintro e w4 ⟨rfl, hw4⟩
    have HE4 := Lib.hid (HE3.out.trans hw4)
    have KB4 := Lib.hid (KB3.out.ext hw4)
    have K44 := Lib.hid (K43.out.ext hw4)
    have K54 := Lib.hid (K53.out.ext hw4)
    clear hw4 h1 HC
    by_cases hce : ce = 0
    rotate_left
    · have hnz : (ce == 0) = false := by simpa using hce
      have HF := Lib.hid (hbad hce)
      clear hgo hbad
      have p4 := K44.out.cell 0 _ rfl
      have p5 := K54.out.cell 0 _ rfl
      have q4 := K44.out.frozen 0
      have q5 := K54.out.frozen 0
      gi_wp2
      have k4 := (K44.out.set (.slice none 0 0)).other ⟨w.heap.size + 1 + 1, 0, none⟩ (by simp) (.int .i64 ce)
      have k5 := (K54.out.other ⟨w.heap.size + 1, 0, none⟩ (by simp) (.slice none 0 0)).set (.int .i64 ce)
      have r4 := k4.cell 0 _ rfl
      have r5 := k5.cell 0 _ rfl
      refine ⟨.tuple #[.slice none 0 0, .int .i64 ce], by simp [results, Tryz.results30, go_sem, r4, r5], none, 0, 0, by rw [HF.out], by rw [HF.out]; exact Sl.nil _ _, Nat.le_refl _, ?_⟩
      exact (HE4.out.setCell (p := ⟨w.heap.size + 1, 0, none⟩) (by simp) _).setCell (p := ⟨w.heap.size + 1 + 1, 0, none⟩) (by simp; omega) _
    subst hce
    have HGO := Lib.hid (hgo rfl)
    clear hgo hbad
    obtain ⟨W5, hW5⟩ : ∃ W5, W5 = w4.alloc (.cells #[.slice none 0 0] 60) := ⟨_, rfl⟩
    have HE45 := Lib.hid (show Ext w4 W5 from by rw [hW5]; exact (Ext.refl _).alloc _)
    have hs5 : W5.heap.size = w4.heap.size + 1 := by rw [hW5, World.size_alloc]
    have K85 := Lib.hid (show AtC 60 W5 w4.heap.size #[.slice none 0 0] from by rw [hW5]; exact AtC.new _ _)
    have KB5 := Lib.hid (KB4.out.ext HE45.out)
    have KW := cwalk_any L A N ln lc n c m d cb W5
    rw [hs5] at KW
    have h0 := KB5.out.cell 0 _ rfl
    have h1 := KB5.out.cell 1 _ rfl
    have h2 := KB5.out.cell 2 _ rfl
    rw [hW5] at h0 h1 h2
    gi_wp2_with fail
    rw [← hW5]
    refine ⟨trivial, ?_⟩
    refine (callsIn_wide.2 KW).mono ?_
    rintro e W6 ⟨rfl, hW6⟩
    have hs6 : W6.heap.size = w4.heap.size + 3 := by rw [hW6, World.size_alloc, World.size_alloc, hs5]
    have HE6 := Lib.hid (show Ext w W6 from by rw [hW6]; exact ((HE4.out.trans HE45.out).alloc _).alloc _)
    have KG1 := Lib.hid (show AtC 26 W6 (w4.heap.size + 1) #[.slice L ln lc, .slice A n c, .slice N m d] from by
      rw [hW6]
      have h := (AtC.new W5 #[.slice L ln lc, .slice A n c, .slice N m d] : AtC 26 _ _ _)
      rw [hs5] at h
      exact h.alloc _)
    have KG2 := Lib.hid (show AtC 9 W6 (w4.heap.size + 1 + 1) #[.string cb] from by
      rw [hW6]
      have h := (AtC.new (W5.alloc (.cells #[.slice L ln lc, .slice A n c, .slice N m d] 26)) #[.string cb] : AtC 9 _ _ _)
      rw [World.size_alloc, hs5] at h
      exact h)
    have HCI := Lib.hid (show CI w (w4.heap.size + 1) (w4.heap.size + 1 + 1) #[.slice L ln lc, .slice A n c, .slice N m d] cb w4.heap.size W6.heap.size [] W6 from by
      refine ⟨Nat.le_refl _, HE6.out, KG1.out, KG2.out, ?_, ?_, _, ?_, World.ownsRow_nil _ _ _ _⟩
      · rw [hW6]; exact ((K44.out.ext HE45.out).alloc _).alloc _
      · rw [hW6]; exact ((K54.out.ext HE45.out).alloc _).alloc _
      · rw [hW6]; exact (K85.out.alloc _).alloc _)
    have hsz := Ext.size HE4.out
    have hsz3 : w.heap.size + 3 ≤ w4.heap.size := by have := K54.out.lt; omega
    clear h0 h1 h2 KW hW5 hW6 KG1 KG2 K85 K44 K54 KB5 HE45 KB4
    gi_wp2
    refine range_ints (gf := 107) (lb := #[.pointer (some ⟨w4.heap.size + 1, 0, none⟩), .pointer (some ⟨w4.heap.size + 1 + 1, 0, none⟩)]) rfl (enters_of Tryz.func107 (by kernel_rfl) rfl) (l.map locOf).length R
      (CI w (w4.heap.size + 1) (w4.heap.size + 1 + 1) #[.slice L ln lc, .slice A n c, .slice N m d] cb w4.heap.size W6.heap.size) (CX w 15) (CX w 10) (fun _ _ _ h hw => h.ext hw) (fun _ _ _ _ h hl => h.turn hl (by omega)) (fun _ _ _ h hl => h.turn hl (by omega)) (fun _ _ _ h hl => h.turn hl (by omega))
      HCI.out ?iter ?a1 ?asg ?bdy ?bdyU ?dne ?rt
    case asg =>
      intro l x W K hK
      gi_wp2
      exact hK
    case iter =>
      intro lp J Jc Ju hJ hJI hY hN W h0
      exact walk1_in lp 4 l L A N ln lc n c m d cb (w4.heap.size + 1) (w4.heap.size + 1 + 1) (by have h := HLN.out; rwa [List.length_map] at h) hln HS.out hcb60 (usable_ok HUS.out).1 J Jc Ju hJ
        (fun o W h => ⟨HMX.out.ext (hJI o W h).2.1, HL.out.ext (hJI o W h).2.1, (hJI o W h).2.2.1, (hJI o W h).2.2.2.1⟩) hY hN W h0 R HGO.out
    case bdyU =>
      rintro lp o W ⟨_, h1, h2, h3, h4, h5, v, h6, h7⟩ ho
      have H1 := Lib.hid h1
      have p4 := h4.cell 0 _ rfl
      have p5 := h5.cell 0 _ rfl
      have H4 := Lib.hid h4
      have H5 := Lib.hid h5
      clear h1 h2 h3 h4 h5 h6 h7
      have hneg : decide ((-1 : Int) < 0) = true := by decide
      have q4 := H4.out.frozen 0
      have q5 := H5.out.frozen 0
      gi_wp2
      exact ⟨(KeepsOthers.setCell _ _ _).trans (KeepsOthers.setCell _ _ _), CX.stores H1.out H4.out H5.out 10⟩
    case bdy =>
      rintro lp o k W ⟨hbase, h1, h2, h3, h4, h5, v, h6, h7⟩ hkN ho
      have H1 := Lib.hid h1
      have H2 := Lib.hid h2
      have H3 := Lib.hid h3
      have H4 := Lib.hid h4
      have H5 := Lib.hid h5
      have H6 := Lib.hid h6
      have H7 := Lib.hid h7
      obtain ⟨A8, c8, rfl, hs8, hc8⟩ := own_sl h7
      have hol : o.length ≤ 100000 := by have := HLN.out; omega
      have hsW := Ext.size h1
      have KH := hasI_any o k A8 o.length c8 W hs8 (by omega)
      have p8 := h6.cell 0 _ rfl
      have q8 := h6.frozen 0
      have hneg : decide ((k : Int) < 0) = false := by simp
      clear h1 h2 h3 hs8
      by_cases hk : k ∈ o
      · have p4 := h4.cell 0 _ rfl
        have p5 := h5.cell 0 _ rfl
        have q4 := h4.frozen 0
        have q5 := h5.frozen 0
        rw [decide_eq_true hk] at KH
        have HK := Lib.hid KH
        have HKO := Lib.hid hk
        clear h4 h5 h6 h7 KH hk
        gi_wp2_with (refine ⟨trivial, ?_⟩; refine (CallsIn.inRound lp (callsIn_wide.2 HK.out)).mono ?_; rintro e w7 ⟨rfl, rfl⟩)
        exact ⟨(KeepsOthers.setCell _ _ _).trans (KeepsOthers.setCell _ _ _), HKO.out, CX.stores H1.out H4.out H5.out 15⟩
      · rw [decide_eq_false hk] at KH
        have HK := Lib.hid KH
        have HKO := Lib.hid hk
        clear h4 h5 h6 h7 KH hk
        gi_wp2_with (first
          | (refine ⟨trivial, ?_⟩; refine (CallsIn.inRound lp (callsIn_wide.2 HK.out)).mono ?_; rintro e w7 ⟨rfl, rfl⟩)
          | (gi_at_builtin; refine wpListIn_append_own _ rfl _ _ 60 rfl W6.heap.size 3 i0 (.int .i64 0) 1 8 Tryz.underlying60 hi hz0 hz1 hz2 rfl (by decide) _ _ _ rfl (H7.out.alloc _) ⟨W.heap.size, 0, none⟩ 1 1 [natV k] rfl rfl (cell_one_new _ _ _) (by simp [Value.oneCell', natV]) (by unfold maxLen; omega) (by omega) (by simp; omega) ?_; intro v' w8 hown' hgrow _; obtain ⟨g', cap', rfl, hg', _⟩ := own_some hown' (by omega); have HO8 := Lib.hid hown'; have HG8 := Lib.hid hgrow; clear hown' hgrow; have HK8 := Lib.hid (show AtC 60 w8 w4.heap.size #[.slice A8 o.length c8] from (HG8.out.block _ (by simp; omega) (fun e => by have := own_lt H7.out _ e.symm; omega)).trans (H6.out.alloc _)); have p9 := HK8.out.cell 0 _ rfl; have q9 := HK8.out.frozen 0))
        have HR8 := Lib.hid (Below.grown ((Below.refl W6.heap.size W).alloc (by omega) (.cells #[natV k] 3)) HG8.out (by simp; omega) (own_lt H7.out))
        have hne : ∀ g, g < W6.heap.size → g ≠ g' := fun g h e => by omega
        have hw8 : w.heap.size + 3 ≤ W6.heap.size := by omega
        refine ⟨((KeepsOthers.alloc W (.cells #[natV k] 3)).trans (KeepsOthers.of_grownBy HG8.out (fun j ob hj ho => own_cells (H7.out.alloc _) hj ho))).trans (KeepsOthers.setCell _ _ _), HKO.out, ?_, ?_, ?_, ?_, ?_, ?_, _, HK8.out.set _, ?_⟩
        · have := HR8.out.size; simp; omega
        · exact Ext.setCell (Below.trans H1.out (HR8.out.mono (by omega))) (p := ⟨w4.heap.size, 0, none⟩) (by simp; omega) _
        · exact (H2.out.below HR8.out (by omega)).other _ (show w4.heap.size + 1 ≠ w4.heap.size from by omega) _
        · exact (H3.out.below HR8.out (by omega)).other _ (show w4.heap.size + 1 + 1 ≠ w4.heap.size from by omega) _
        · exact (H4.out.below HR8.out (by omega)).other _ (by simp; omega) _
        · exact (H5.out.below HR8.out (by omega)).other _ (by simp; omega) _
        · rw [List.length_append, List.map_append]
          exact ownsRow_setCell_other HO8.out (by simp [Value.ownBlock]; omega) _
    case dne =>
      rintro o W hRo ⟨_, h1, h2, h3, h4, h5, v, h6, h7⟩ hD
      obtain ⟨A8, c8, rfl, hs8, hc8⟩ := own_sl h7
      have H1 := Lib.hid h1
      have H4 := Lib.hid h4
      have H5 := Lib.hid h5
      have HS8 := Lib.hid hs8
      have HD := Lib.hid hD
      have HRO := Lib.hid hRo
      have p8 := h6.cell 0 _ rfl
      have p4 := h4.cell 0 _ rfl
      have p5 := h5.cell 0 _ rfl
      have q4 := h4.frozen 0
      have q5 := h5.frozen 0
      have hb8 : ∀ ad, A8 = some ad → W6.heap.size ≤ ad.block := fun ad h => own_lt h7 _ (by rw [h]; rfl)
      clear h1 h2 h3 h4 h5 h6 h7 hs8 hD hRo
      gi_wp2
      have hD2 := ((KeepsOthers.setCell W ⟨w.heap.size + 1, 0, none⟩ (.slice A8 o.length c8)).trans (KeepsOthers.setCell _ ⟨w.heap.size + 1 + 1, 0, none⟩ (.int .i64 0))).same _ _ HD.out rfl
      have k4 := ((H4.out.set (.slice A8 o.length c8)).other ⟨w.heap.size + 1 + 1, 0, none⟩ (by simp) (.int .i64 0)).put hD2 rfl (.deferred none)
      have k5 := ((H5.out.other ⟨w.heap.size + 1, 0, none⟩ (by simp) (.slice A8 o.length c8)).set (.int .i64 0)).put hD2 rfl (.deferred none)
      have r4 := k4.cell 0 _ rfl
      have r5 := k5.cell 0 _ rfl
      refine ⟨by simp, .inl ⟨_, _, rfl, run_takeDeferred hD2, ?_⟩⟩
      refine ⟨.tuple #[.slice A8 o.length c8, .int .i64 0], by simp [results, Tryz.results30, go_sem, r4, r5], A8, o.length, c8, by rw [HRO.out], ?_, hc8, ?_⟩
      · rw [HRO.out]
        exact Sl.put ((HS8.out.othr _ (fun ad h => by have := hb8 ad h; simp; omega) _).othr _ (fun ad h => by have := hb8 ad h; simp; omega) _) hD2 rfl _
      · exact Below.grown ((H1.out.setCell (p := ⟨w.heap.size + 1, 0, none⟩) (by simp) _).setCell (p := ⟨w.heap.size + 1 + 1, 0, none⟩) (by simp; omega) _) (grownBy_putObj' _ _ _) (by have := Ext.size H1.out; simp; omega) (fun k e => by cases e; omega)
    case rt =>
      intro W hcase hD
      obtain ⟨e, hRe, hcx⟩ : ∃ e, R = ([], e) ∧ CX w e W := by
        rcases hcase with ⟨h1, h2⟩ | ⟨h1, h2⟩
        · exact ⟨_, h1, h2⟩
        · exact ⟨_, h1, h2⟩
      have k4 := hcx.2.1.put hD rfl (.deferred none)
      have k5 := hcx.2.2.put hD rfl (.deferred none)
      have r4 := k4.cell 0 _ rfl
      have r5 := k5.cell 0 _ rfl
      gi_wp2
      refine ⟨by simp, .inl ⟨_, _, rfl, run_takeDeferred hD, ?_⟩⟩
      refine ⟨.tuple #[.slice none 0 0, .int .i64 e], by simp [results, Tryz.results30, go_sem, r4, r5], none, 0, 0, by rw [hRe], by rw [hRe]; exact Sl.nil _ _, Nat.le_refl _, ?_⟩
      exact Below.grown hcx.1 (grownBy_putObj' _ _ _) (Ext.size hcx.1) (fun k e => by cases e; omega)
end Go.Proofs.YtehcldnicefmeaaGreatDoor
