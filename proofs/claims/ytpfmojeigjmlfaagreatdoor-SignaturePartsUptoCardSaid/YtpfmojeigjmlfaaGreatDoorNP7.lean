import Derived.Test.YtpfmojeigjmlfaaGreatDoorNP6
import Derived.Test.YtpfmojeigjmlfaaGreatDoorNB1
import Derived.Deep.RegionLaw
import Derived.Deep.RegionWith
import Derived.Laws.OwnMore
namespace Go.Proofs.YtpfmojeigjmlfaaGreatDoor
open Go.RowKit
set_option linter.unusedSimpArgs false
set_option linter.unusedVariables false

/-! Appends of structs in a region that draws; slices of slices of structs. -/
section
variable {P : Program} (w : World)
theorem wp_appN {o : Oper} {a : Act} {K : Act → World → Prop} {Q : Exit → Act → World → Prop} (s x : Operand) (t : TypeId)
    (ho : o.op = .call { callee := .builtin .append, args := #[s, x], argTypes := #[t, t] })
    (base : Nat) (e : TypeId) (i : TypeInfo) (z : Value) (size bytes : Nat) (ht : P.underlying t = some (.slice e)) (hi : P.info? e = some i) (hz : i.zero = some z)
    (hsize : i.size = size) (hby : i.bytes = bytes) (hzs : z.cells.size = size) (hpos : 0 < size)
    (v : Value) (n : Nat) (xs : List Value) (hs : a.eval s = v) (hown : w.ownsRow base e size v n xs)
    (A : Option Addr) (m c : Nat) (news : List Value) (hx : a.eval x = .slice A m c) (hsl : SlN w A m size news) (h1 : ∀ u ∈ news, u.oneCell' = true)
    (h63 : n + m ≤ maxLen) (hbytes : (n + m) * bytes ≤ 140737488355328) (hbase : base ≤ w.heap.size)
    (h : ∀ v' w', w'.ownsRow base e size v' (n + m) (xs ++ news) → w.grownBy w' v.ownBlock → K (a.put o.dst v') w') : o.wp P a w K Q := by
  have hm0 : A = none → m = 0 ∧ news = [] := by
    rintro rfl
    have hl := hsl.1
    rcases Nat.eq_zero_or_pos m with h0 | h0
    · subst h0
      exact ⟨rfl, List.eq_nil_of_length_eq_zero (by simpa using hl)⟩
    · have hlt : 0 < news.length := by rw [hl]; exact Nat.mul_pos h0 hpos
      obtain ⟨b, o', hA, _⟩ := hsl.2 0 _ (List.getElem?_eq_getElem hlt)
      cases hA
  cases A with
  | none =>
    obtain ⟨rfl, rfl⟩ := hm0 rfl
    have hrun := run_append_nil_any (P := P) w base t o.type e i size ht hi v n xs hown c
    unfold Oper.wp execOp
    simp only [ho, resolve, invoke, builtin, Sem.run_bind, Sem.run_pure, Result.andThen_ok, List.map_toArray, List.map_cons, List.map_nil, hs, hx, hrun]
    exact h v w (by simpa using hown) (World.grownBy.refl w _)
  | some ad =>
    refine wp_append_own w s x t ho base e i z size bytes ht hi hz hsize hby hzs hpos v n xs hs hown ad m c news hx hsl.1
      (fun j u hu => ?_) h1 h63 hbytes hbase (fun v' w' a1 a2 _ => h v' w' a1 a2)
    obtain ⟨b, o', ha, _, hc⟩ := hsl.2 j u hu
    injection ha with ha
    subst ha
    have ea : (⟨b, o', none⟩ : Addr).add j = ⟨b, o' + j, none⟩ := by
      unfold Addr.add
      split
      · subst_vars; rfl
      · rfl
    rw [ea]
    exact hc
theorem step_appN {ops : Array Oper} {o : Oper} {a : Act} {K : Act → World → Prop} {Q : Exit → Act → World → Prop} {E : Prop} (hgd : o.guard = none) (s x : Operand) (t : TypeId)
    (ho : o.op = .call { callee := .builtin .append, args := #[s, x], argTypes := #[t, t] })
    (base : Nat) (e : TypeId) (i : TypeInfo) (z : Value) (size bytes : Nat) (ht : P.underlying t = some (.slice e)) (hi : P.info? e = some i) (hz : i.zero = some z)
    (hsize : i.size = size) (hby : i.bytes = bytes) (hzs : z.cells.size = size) (hpos : 0 < size)
    (v : Value) (n : Nat) (xs : List Value) (hs : a.eval s = v) (hown : w.ownsRow base e size v n xs)
    (A : Option Addr) (m c : Nat) (news : List Value) (hx : a.eval x = .slice A m c) (hsl : SlN w A m size news) (h1 : ∀ u ∈ news, u.oneCell' = true)
    (h63 : n + m ≤ maxLen) (hbytes : (n + m) * bytes ≤ 140737488355328) (hbase : base ≤ w.heap.size)
    (h : ∀ v' w', w'.ownsRow base e size v' (n + m) (xs ++ news) → w.grownBy w' v.ownBlock → K (a.put o.dst v') w') :
    if Region.wanted o (yielded ops a.tmps) = true then Oper.wp P o a w K Q else E := by
  have hw : Region.wanted o (yielded ops a.tmps) = true := by simp [Region.wanted, hgd]
  rw [if_pos hw]
  exact wp_appN w s x t ho base e i z size bytes ht hi hz hsize hby hzs hpos v n xs hs hown A m c news hx hsl h1 h63 hbytes hbase h
end
theorem two_new (w : World) (a b : Obj) : ((w.alloc a).alloc b).drew.heap[w.heap.size + 1]? = some b := by
  have h := heap_alloc_new (w.alloc a) b
  have e : (w.alloc a).heap.size = w.heap.size + 1 := by simp
  rw [e] at h
  exact h
theorem two_old (w : World) (a b : Obj) : ((w.alloc a).alloc b).drew.heap[w.heap.size]? = some a := by
  have h := heap_alloc_new w a
  have h2 := Below.heap_alloc (w.alloc a) b w.heap.size (by simp)
  exact h2.trans h
theorem own_emptyN (w : World) (e : TypeId) (size : Nat) : (w.alloc (.cells #[] e)).ownsRow w.heap.size e size (.slice (some ⟨w.heap.size, 0, none⟩) 0 0) 0 [] :=
  ⟨by simp, .inr ⟨w.heap.size, 0, #[], rfl, Nat.le_refl _, heap_alloc_new w _, Nat.le_refl _, Nat.zero_le _, by simp, by simp⟩⟩
theorem own_empty2 (w : World) (o : Obj) (e : TypeId) (size : Nat) : ((w.alloc o).alloc (.cells #[] e)).drew.ownsRow w.heap.size e size (.slice (some ⟨w.heap.size + 1, 0, none⟩) 0 0) 0 [] := by
  have h := ((own_emptyN (w.alloc o) e size).drew)
  rw [show (w.alloc o).heap.size = w.heap.size + 1 from by simp] at h
  obtain ⟨h1, h2⟩ := h
  refine ⟨h1, ?_⟩
  rcases h2 with h2 | ⟨g, cap, cur, hv, hb, r⟩
  · exact .inl h2
  · exact .inr ⟨g, cap, cur, hv, by omega, r⟩
theorem slN_at {T : TypeId} {w : World} {g : Nat} {cs : Array Value} {n size : Nat} (h : AtC T w g cs) (hn : cs.size = n * size) : SlN w (some ⟨g, 0, none⟩) n size cs.toList :=
  ⟨by simpa using hn, fun j u hu => ⟨g, 0, rfl, h.lt, by
    rw [Nat.zero_add]
    exact h.cell j u (by simpa using hu)⟩⟩
theorem own3N (w : World) (o : Obj) (T : TypeId) (size : Nat) : ((w.alloc o).alloc (.cells #[] T)).drew.ownsRow w.heap.size T size (.slice (some ⟨w.heap.size + 1, 0, none⟩) 0 0) 0 [] := own_empty2 w o T size
theorem slN_kept {W w' : World} {g : Nat} {cs : Array Value} {T : TypeId} {row : Option Nat} {n size : Nat} (hg : W.grownBy w' row) (hW : W.heap[g]? = some (.cells cs T (0, 0))) (hne : some g ≠ row) (hn : cs.size = n * size) : SlN w' (some ⟨g, 0, none⟩) n size cs.toList :=
  slN_at (T := T) ((hg.block g (Array.getElem?_eq_some_iff.1 hW).1 hne).trans hW) hn
theorem slN_new (w : World) (cs : Array Value) (T : TypeId) (n size : Nat) (hn : cs.size = n * size) : SlN (w.alloc (.cells cs T)) (some ⟨w.heap.size, 0, none⟩) n size cs.toList := slN_at (AtC.new w cs) hn
theorem SlN.take {w : World} {A : Option Addr} {n size : Nat} {xs : List Value} (h : SlN w A n size xs) (k : Nat) (hk : k ≤ n) : SlN w A k size (xs.take (k * size)) :=
  ⟨by rw [List.length_take, h.1]; exact Nat.min_eq_left (Nat.mul_le_mul_right _ hk), fun j u hu => by
    rw [List.getElem?_take] at hu
    split at hu
    · exact h.2 j u hu
    · cases hu⟩
theorem SlN.drop {w : World} {b o n size : Nat} {xs : List Value} (h : SlN w (some ⟨b, o, none⟩) n size xs) (k : Nat) (hk : k ≤ n) : SlN w (some ⟨b, o + k * size, none⟩) (n - k) size (xs.drop (k * size)) :=
  ⟨by rw [List.length_drop, h.1, Nat.sub_mul], fun j u hu => by
    rw [List.getElem?_drop] at hu
    obtain ⟨b', o', hA, hb, hc⟩ := h.2 _ u hu
    injection hA with hA
    injection hA with h1 h2
    subst h1 h2
    exact ⟨_, _, rfl, hb, by rw [Nat.add_assoc]; exact hc⟩⟩
theorem flat_take {α : Type} {f : α → List Value} {m : Nat} (hf : ∀ a, (f a).length = m) : ∀ (l : List α) (k : Nat), (l.flatMap f).take (k * m) = (l.take k).flatMap f
  | [], k => by simp
  | x :: l, 0 => by simp
  | x :: l, k + 1 => by
    rw [List.flatMap_cons, List.take_succ_cons, List.flatMap_cons, List.take_append, hf, List.take_of_length_le (by rw [hf, Nat.succ_mul]; omega), Nat.succ_mul, Nat.add_sub_cancel, flat_take hf l k]
theorem flat_drop {α : Type} {f : α → List Value} {m : Nat} (hf : ∀ a, (f a).length = m) : ∀ (l : List α) (k : Nat), (l.flatMap f).drop (k * m) = (l.drop k).flatMap f
  | [], k => by simp
  | x :: l, 0 => by simp
  | x :: l, k + 1 => by
    rw [List.flatMap_cons, List.drop_succ_cons, List.drop_append, hf, List.drop_eq_nil_of_le (by rw [hf, Nat.succ_mul]; omega), Nat.succ_mul, Nat.add_sub_cancel, flat_drop hf l k, List.nil_append]
/-- What a row's slice is. -/
theorem own_form {w : World} {B : Nat} {e : TypeId} {size : Nat} {v : Value} {n : Nat} {xs : List Value} (h : w.ownsRow B e size v n xs) : ∃ A c, v = .slice A n c ∧ n ≤ c ∧ SlN w A n size xs ∧ (0 < n → ∃ g, A = some ⟨g, 0, none⟩ ∧ B ≤ g ∧ g < w.heap.size) := by
  obtain ⟨A, c, hv, hs⟩ := own_slN h
  obtain ⟨hl, h2⟩ := h
  rcases h2 with ⟨hv2, h0⟩ | ⟨g, cap, cur, hv2, hb, hg, hn, hm, hcs, ht⟩
  · subst h0
    rw [hv] at hv2
    injection hv2 with e1 e2 e3
    subst e1 e3
    exact ⟨none, 0, hv, Nat.le_refl _, hs, fun h => by omega⟩
  · rw [hv] at hv2
    injection hv2 with e1 e2 e3
    subst e1 e3
    exact ⟨_, _, hv, hn, hs, fun _ => ⟨g, rfl, hb, (Array.getElem?_eq_some_iff.1 hg).1⟩⟩
/-! Put, in plain words. -/
def PreAg (L : List ArgP) (x : By) (k : Nat) : Prop := ∀ j y, j < k → L[j]? = some y → y.1 ≠ x ∧ ¬ x < y.1
theorem preAg_zero (L : List ArgP) (x : By) : PreAg L x 0 := fun j y hj => absurd hj (Nat.not_lt_zero _)
theorem preAg_next {L : List ArgP} {x : By} {k : Nat} {y : ArgP} (h : PreAg L x k) (hy : L[k]? = some y) (h1 : y.1 ≠ x) (h2 : ¬ x < y.1) : PreAg L x (k + 1) := fun j z hj hz => by
  by_cases hk : j = k
  · subst hk; rw [hy] at hz; injection hz with hz; subst hz; exact ⟨h1, h2⟩
  · exact h j z (by omega) hz
theorem put_scan : ∀ (L : List ArgP) (x : ArgP) (k : Nat), k ≤ L.length → PreAg L x.1 k → putA L x = (L.take k ++ (putA (L.drop k) x).1, (putA (L.drop k) x).2)
  | L, x, 0, _, _ => by simp
  | [], x, k + 1, h, _ => by simp at h
  | y :: L, x, k + 1, h, hp => by
    have h0 := hp 0 y (by omega) rfl
    have ih := put_scan L x k (by simpa using h) (fun j z hj hz => hp (j + 1) z (by omega) (by simpa using hz))
    rw [List.take_succ_cons, List.drop_succ_cons, putA, if_neg h0.1, if_neg h0.2, ih]
    rfl
theorem put_end {L : List ArgP} {x : ArgP} (hp : PreAg L x.1 L.length) : putA L x = (L ++ [x], true) := by
  rw [put_scan L x L.length (Nat.le_refl _) hp, List.drop_length, List.take_length]
  rfl
theorem put_gt {L : List ArgP} {x y : ArgP} {k : Nat} (hp : PreAg L x.1 k) (hy : L[k]? = some y) (h1 : y.1 ≠ x.1) (h2 : x.1 < y.1) : putA L x = (L.take k ++ x :: L.drop k, true) := by
  have hk : k < L.length := (List.getElem?_eq_some_iff.1 hy).1
  have hd : L.drop k = y :: L.drop (k + 1) := by rw [List.drop_eq_getElem_cons hk]; congr 1; exact (List.getElem?_eq_some_iff.1 hy).2
  rw [put_scan L x k (Nat.le_of_lt hk) hp, hd, putA, if_neg h1, if_pos h2]
theorem put_eq {L : List ArgP} {x y : ArgP} {k : Nat} (hp : PreAg L x.1 k) (hy : L[k]? = some y) (h1 : y.1 = x.1) : putA L x = (L.set k (y.1, (comA y.2 x.2).1), (comA y.2 x.2).2) := by
  have hk : k < L.length := (List.getElem?_eq_some_iff.1 hy).1
  have hd : L.drop k = y :: L.drop (k + 1) := by rw [List.drop_eq_getElem_cons hk]; congr 1; exact (List.getElem?_eq_some_iff.1 hy).2
  rw [put_scan L x k (Nat.le_of_lt hk) hp, hd, putA, if_pos h1, List.set_eq_take_append_cons_drop, if_pos hk]
theorem agP_back {l : List Ag} {M : List ArgP} (h : l.map agOf = M) : l = M.map agP := by
  subst h
  rw [List.map_map]
  conv => lhs; rw [← List.map_id l]
  refine List.map_congr_left fun x _ => ?_
  unfold agOf agP
  simp
theorem set_flat : ∀ (l : List Ag) (k : Nat) (x : Ag) (t : Int), l[k]? = some x → (l.flatMap agC).set (k * 2 + 1) (.int .i64 t) = (l.set k ⟨x.n, t⟩).flatMap agC
  | [], k, x, t, h => by simp at h
  | y :: l, 0, x, t, h => by
    simp at h
    subst h
    rfl
  | y :: l, k + 1, x, t, h => by
    have ih := set_flat l k x t (by simpa using h)
    rw [List.set_cons_succ, List.flatMap_cons, List.flatMap_cons, ← ih]
    have e : (k + 1) * 2 + 1 = k * 2 + 1 + 1 + 1 := by omega
    rw [e]
    rfl
theorem set_of {l : List Ag} {k : Nat} {x : Ag} {t : Int} : (l.set k ⟨x.n, t⟩).map agOf = (l.map agOf).set k ((agOf x).1, t) := by
  rw [List.map_set]
  rfl
def RetPut (w : World) (M : List ArgP × Bool) (e : Ending) (w' : World) : Prop := ∃ A n c, e = .returned (.tuple #[.slice A n c, .bool M.2]) ∧ Ags w' A n (M.1.map agP) ∧ n ≤ c ∧ Ext w w'
end Go.Proofs.YtpfmojeigjmlfaaGreatDoor
namespace Go.Proofs.YtpfmojeigjmlfaaGreatDoor
open Go.RowKit
set_option linter.unusedSimpArgs false
set_option linter.unusedVariables false

/-! Put, by the reference. -/
theorem cell_mid28 {w w' : World} {p : Addr} {u : Value} (h : Ext w w') (hc : w.cell? p = some u) : w'.cell? p = some u :=
  (Ext.cell h (World.block_lt_of_cell? w p hc)).trans hc
theorem none_nilN {w : World} {n : Nat} {l : List Ag} (h : Ags w none n l) : n = 0 := by
  have hl := h.len
  cases l with
  | nil => exact hl.symm
  | cons x r =>
    obtain ⟨b, o, h1, _⟩ := h.at_ (k := 0) (x := x) rfl
    cases h1
theorem ags_of {w : World} {A : Option Addr} {n : Nat} {xs : List Value} {l' : List Ag} {M : List ArgP} (h : SlN w A n 2 xs) (hx : xs = l'.flatMap agC) (hM : l'.map agOf = M) : Ags w A n (M.map agP) := by
  subst hx
  rw [← agP_back hM]
  exact h
def PuI (w2 : World) (L : List ArgP) (x : By) (n : Nat) (i : Value) (wr : World) : Prop := ∃ k : Nat, k ≤ n ∧ i = .int .i64 k ∧ PreAg L x k ∧ Ext w2 wr
set_option maxHeartbeats 8000000 in
set_option maxRecDepth 100000 in
theorem rput_any (l : List Ag) (x : Ag) (A : Option Addr) (n c : Nat) (w : World) (hA : Ags w A n l) (hn : n ≤ 20000) (hnc : n ≤ c) :
    Calls Tryz.prog 56 #[.slice A n c, .agg #[.string x.n, .int .i64 x.t]] w (RetPut w (putA (l.map agOf) (agOf x))) := by
  obtain ⟨i0, hi, hz0, hz1, hz2⟩ := info_parts (show (Tryz.prog.info? 66).map (fun i => (i.zero, i.size, i.bytes)) = some (some (.agg #[.string ⟨#[]⟩, .int .i64 0]), 2, 24) from by kernel_rfl)
  have HX0 := Lib.hid (show Ext w ((w.alloc (.cells #[.string x.n, .int .i64 x.t] 66)).alloc (.cells #[] 66)) from ((Ext.refl w).alloc _).alloc _)
  have HG := Lib.hid ((AtC.new w #[.string x.n, .int .i64 x.t] : AtC 66 _ _ _).alloc (.cells #[] 66))
  have hem := own_emptyN (w.alloc (.cells #[.string x.n, .int .i64 x.t] 66)) 66 2
  rw [World.size_alloc] at hem
  have HEM := Lib.hid hem
  have HA0 := Lib.hid (hA.ext HX0.out)
  have HA := Lib.hid hA
  have HL := Lib.hid hA.len
  obtain ⟨P, hP⟩ : ∃ P, P = putA (l.map agOf) (agOf x) := ⟨_, rfl⟩
  rw [← hP]
  have HP := Lib.hid hP
  clear hA hem hP
  go_enter Tryz.func56, Tryz.ntmps56
  have tok := True.intro
  go_wp2_with (first
    | (have _t := tok; at_builtin; refine wpList_appSl _ rfl _ _ 41 rfl (w.heap.size + 1) 66 i0 _ 2 24 Tryz.underlying41 hi hz0 hz1 hz2 rfl (by decide) _ 0 [] rfl HEM.out A n c _ rfl HA0.out (agC_one l) (by unfold maxLen; omega) (by omega) (by simp) ?_; intro v2 w2 hown hgr; rw [Nat.zero_add, List.nil_append] at hown; have HO2 := Lib.hid hown; have HW2 := Lib.hid (ext_grown (a := w) (B := w.heap.size + 1) HX0.out HEM.out (by omega) hgr); have HG2 := Lib.hid (show AtC 66 w2 w.heap.size #[.string x.n, .int .i64 x.t] from (hgr.block _ HG.out.lt (fun e => by have h := own_lt HEM.out _ e.symm; omega)).trans HG.out); clear hown hgr tok))
  obtain ⟨A2, c2, rfl, hn2, hs2, hg2⟩ := own_form HO2.out
  have HS2 := Lib.hid (show Ags w2 A2 n l from hs2)
  have HF2 := Lib.hid hg2
  clear hs2 hg2
  go_wp2_with fail
  go_loopw [7] (PuI w2 (l.map agOf) (agOf x).1 n) (fun i _ => n - (intOf i).toNat)
  case atStart => exact ⟨0, Nat.zero_le _, rfl, preAg_zero _ _, Ext.refl _⟩
  case round =>
    obtain ⟨k, hk, rfl, hpre, hw⟩ := hrel
    obtain ⟨wo, rfl⟩ : ∃ wo : World, wo = wr := ⟨_, rfl⟩
    have HPRE := Lib.hid hpre
    have HW := Lib.hid hw
    clear hpre hw
    by_cases hkn : k < n
    · have hkI : (k : Int) < (n : Int) := by omega
      obtain ⟨g, rfl, hgl, hgs⟩ := HF2.out (by omega)
      obtain ⟨y, hy⟩ : ∃ y, l[k]? = some y := ⟨_, List.getElem?_eq_getElem (by rw [HL.out]; exact hkn)⟩
      have hyM : (l.map agOf)[k]? = some (agOf y) := by rw [List.getElem?_map, hy]; rfl
      obtain ⟨b, o, hbo, hb, a0, a1⟩ := (HS2.out.ext HW.out).at_ hy
      injection hbo with hbo
      injection hbo with e1 e2
      subst e1 e2
      rw [Nat.zero_add] at a0 a1
      have HY := Lib.hid hy
      have HYM := Lib.hid hyM
      have r0 := fun z : ExtW wo => cell_mid28 z.h a0
      have r1 := fun z : ExtW wo => cell_mid28 z.h a1
      have s0 := fun z : ExtW wo => (HG2.out.ext (HW.out.trans z.h)).cell 0 _ rfl
      have s1 := fun z : ExtW wo => (HG2.out.ext (HW.out.trans z.h)).cell 1 _ rfl
      have HR0 := Lib.hid r0
      have HR1 := Lib.hid r1
      have HSS0 := Lib.hid s0
      have HSS1 := Lib.hid s1
      have HKC := Lib.hid (fun W => rcom_any y.t x.t W)
      have HGL := Lib.hid hgl
      clear a0 a1 hy hyM hgl
      cases t1 : (y.n.toList == x.n.toList)
      · have hne : (agOf y).1 ≠ (agOf x).1 := by
          rw [eq_b] at t1
          intro h
          rw [show y.n.data.toList = x.n.data.toList from h] at t1
          simp at t1
        have HNE := Lib.hid hne
        clear hne
        go_wp2_with fail
        refine wp_region_ext (by kernel_rfl) (by kernel_rfl) ?_
        repeat (go_big_quiet_step (fail))
        refine wpQuiet_nil ?_
        intro wb hwb
        have HWB := Lib.hid (ext_of28 hwb)
        clear hwb r0 r1 s0 s1
        have r0 := fun z : ExtW wb => HR0.out ⟨z.v, HWB.out.trans z.h⟩
        have s0 := fun z : ExtW wb => HSS0.out ⟨z.v, HWB.out.trans z.h⟩
        cases t2 : Op.bytesLess y.n.toList x.n.toList
        rotate_left
        · have HPN := Lib.hid (preAg_next HPRE.out HYM.out HNE.out (by
            rw [less_b] at t2
            exact by_asymm (of_decide_eq_true t2)))
          go_wp2_with fail
          refine wp_region_ext (by kernel_rfl) (by kernel_rfl) ?_
          repeat (go_big_quiet_step (fail))
          refine wpQuiet_nil ?_
          intro wc hwc
          have HWC := Lib.hid (HWB.out.trans (ext_of28 hwc))
          clear hwc r0 s0
          go_wp2
          exact ⟨⟨k + 1, by omega, by go_num, HPN.out, HW.out.trans HWC.out⟩, by simp [intOf]; omega⟩
        · have HPG := Lib.hid (put_gt HPRE.out HYM.out HNE.out (by
            rw [less_b] at t2
            rcases by_tri (agOf x).1 (agOf y).1 with h | h | h
            · exact h
            · exact absurd h.symm HNE.out
            · exact absurd h (of_decide_eq_false t2)))
          go_wp2_with fail
          refine wp_region_ext (by kernel_rfl) (by kernel_rfl) ?_
          repeat (go_big_quiet_step (fail))
          refine wpQuiet_nil ?_
          intro wx hwx
          have HWX := Lib.hid (HWB.out.trans (ext_of28 hwx))
          clear hwx r0 s0
          have HWA := Lib.hid (HW2.out.trans (HW.out.trans HWX.out))
          have HGX := Lib.hid (HG2.out.ext (HW.out.trans HWX.out))
          cases A with
          | none => exact absurd (none_nilN HA.out) (by omega)
          | some adA =>
            obtain ⟨bA, oA, hbA, hbl, _, _⟩ := (HA.out.ext HWA.out).at_ HY.out
            injection hbA with hbA
            subst hbA
            have S1 := Lib.hid (show SlN wx (some ⟨bA, oA, none⟩) k 2 ((l.take k).flatMap agC) from by rw [← flat_take (f := agC) (m := 2) (fun _ => rfl)]; exact SlN.take (HA.out.ext HWA.out) k (by omega))
            have S3 := Lib.hid (show SlN wx (some ⟨bA, oA + k * 2, none⟩) (n - k) 2 ((l.drop k).flatMap agC) from by rw [← flat_drop (f := agC) (m := 2) (fun _ => rfl)]; exact SlN.drop (HA.out.ext HWA.out) k (by omega))
            have hkc : (k : Int) ≤ (c : Int) := by omega
            have hck : ¬ c = k := by omega
            have c0 := HGX.out.cell 0 _ rfl
            have c1 := HGX.out.cell 1 _ rfl
            have c2' : ∀ ob, (wx.alloc ob).cell? ⟨w.heap.size, 0, none⟩ = some (.string x.n) := fun ob => (HGX.out.alloc ob).cell 0 _ rfl
            have c3' : ∀ ob, (wx.alloc ob).cell? ⟨w.heap.size, 1, none⟩ = some (.int .i64 x.t) := fun ob => (HGX.out.alloc ob).cell 1 _ rfl
            go_wp2_with fail
            have tok1 : True := trivial
            have tok2 : True := trivial
            have tok3 : True := trivial
            go_region_law (first
          | (have _t := tok1; refine step_appN _ rfl _ _ 41 rfl wx.heap.size 66 i0 _ 2 24 Tryz.underlying41 hi hz0 hz1 hz2 rfl (by decide) _ 0 [] rfl ((own_emptyN wx 66 2).drew) _ k _ ((l.take k).flatMap agC) rfl (SlN.ext S1.out (((Ext.refl wx).alloc _).drew)) (agC_one _) (by unfold maxLen; omega) (by omega) (by simp; try omega) ?_; intro v1 w1 hown1 hgrow1; have HX1 := Lib.hid (ext_grown (a := wx) (((Ext.refl wx).alloc _).drew) ((own_emptyN wx 66 2).drew) (Nat.le_refl _) hgrow1); have c0 : w1.cell? ⟨w.heap.size, 0, none⟩ = some (.string x.n) := (HGX.out.ext HX1.out).cell 0 _ rfl; have c1 : w1.cell? ⟨w.heap.size, 1, none⟩ = some (.int .i64 x.t) := (HGX.out.ext HX1.out).cell 1 _ rfl; have HO1 := Lib.hid hown1; clear hown1 hgrow1 tok1)
          | (have _t := tok1; refine step_appN _ rfl _ _ 41 rfl wx.heap.size 66 i0 _ 2 24 Tryz.underlying41 hi hz0 hz1 hz2 rfl (by decide) _ 0 [] rfl (((own_emptyN wx 66 2).alloc _).drew) _ k _ ((l.take k).flatMap agC) rfl (SlN.ext S1.out ((((Ext.refl wx).alloc (.cells #[] 66)).alloc (.cells #[.string x.n, .int .i64 x.t] 66)).drew)) (agC_one _) (by unfold maxLen; omega) (by omega) (by simp; try omega) ?_; intro v1 w1 hown1 hgrow1; have HX1 := Lib.hid (ext_grown (a := wx) ((((Ext.refl wx).alloc (.cells #[] 66)).alloc (.cells #[.string x.n, .int .i64 x.t] 66)).drew) (((own_emptyN wx 66 2).alloc _).drew) (Nat.le_refl _) hgrow1); have c0 : w1.cell? ⟨w.heap.size, 0, none⟩ = some (.string x.n) := (HGX.out.ext HX1.out).cell 0 _ rfl; have c1 : w1.cell? ⟨w.heap.size, 1, none⟩ = some (.int .i64 x.t) := (HGX.out.ext HX1.out).cell 1 _ rfl; have HZ1 := Lib.hid (slN_kept (n := 1) (size := 2) (row := some wx.heap.size) hgrow1 (two_new wx _ _) (by simp) rfl); have HO1 := Lib.hid hown1; clear hown1 hgrow1 tok1)
          | (have _t := tok1; refine step_appN _ rfl _ _ 41 rfl wx.heap.size 66 i0 _ 2 24 Tryz.underlying41 hi hz0 hz1 hz2 rfl (by decide) _ 0 [] rfl (own_empty2 wx _ 66 2) _ k _ ((l.take k).flatMap agC) rfl (SlN.ext S1.out ((((Ext.refl wx).alloc (.cells #[.string x.n, .int .i64 x.t] 66)).alloc (.cells #[] 66)).drew)) (agC_one _) (by unfold maxLen; omega) (by omega) (by simp; try omega) ?_; intro v1 w1 hown1 hgrow1; have HX1 := Lib.hid (ext_grown (a := wx) ((((Ext.refl wx).alloc (.cells #[.string x.n, .int .i64 x.t] 66)).alloc (.cells #[] 66)).drew) (own_empty2 wx _ 66 2) (Nat.le_refl _) hgrow1); have c0 : w1.cell? ⟨w.heap.size, 0, none⟩ = some (.string x.n) := (HGX.out.ext HX1.out).cell 0 _ rfl; have c1 : w1.cell? ⟨w.heap.size, 1, none⟩ = some (.int .i64 x.t) := (HGX.out.ext HX1.out).cell 1 _ rfl; have HZ1 := Lib.hid (slN_kept (n := 1) (size := 2) (row := some (wx.heap.size + 1)) hgrow1 (two_old wx _ _) (by simp) rfl); have HO1 := Lib.hid hown1; clear hown1 hgrow1 tok1)
          | (have _t := tok2; refine step_appN _ rfl _ _ 41 rfl wx.heap.size 66 i0 _ 2 24 Tryz.underlying41 hi hz0 hz1 hz2 rfl (by decide) _ (0 + k) _ rfl (HO1.out) _ 1 _ [.string x.n, .int .i64 x.t] rfl (HZ1.out) (agC_one [x]) (by unfold maxLen; omega) (by omega) (by have := Ext.size HX1.out; first | omega | (simp; omega)) ?_; intro v2 w2' hown2 hgrow2; have HX2 := Lib.hid (ext_grown (a := wx) (HX1.out) (HO1.out) (Nat.le_refl _) hgrow2); have HO2' := Lib.hid hown2; clear hown2 hgrow2 tok2)
          | (have _t := tok2; refine step_appN _ rfl _ _ 41 rfl wx.heap.size 66 i0 _ 2 24 Tryz.underlying41 hi hz0 hz1 hz2 rfl (by decide) _ (0 + k) _ rfl (HO1.out.alloc _) _ 1 _ [.string x.n, .int .i64 x.t] rfl (slN_new _ _ _ 1 2 rfl) (agC_one [x]) (by unfold maxLen; omega) (by omega) (by have := Ext.size HX1.out; first | omega | (simp; omega)) ?_; intro v2 w2' hown2 hgrow2; have HX2 := Lib.hid (ext_grown (a := wx) (HX1.out.alloc _) (HO1.out.alloc _) (Nat.le_refl _) hgrow2); have HO2' := Lib.hid hown2; clear hown2 hgrow2 tok2)
          | (have _t := tok3; refine step_appN _ rfl _ _ 41 rfl wx.heap.size 66 i0 _ 2 24 Tryz.underlying41 hi hz0 hz1 hz2 rfl (by decide) _ (0 + k + 1) _ rfl HO2'.out _ (n - k) _ ((l.drop k).flatMap agC) rfl (SlN.ext S3.out HX2.out) (agC_one _) (by unfold maxLen; omega) (by omega) (by have := Ext.size HX2.out; first | omega | (simp; omega)) ?_; intro v3 w3 hown3 hgrow3; have HX3 := Lib.hid (ext_grown (a := wx) HX2.out HO2'.out (Nat.le_refl _) hgrow3); have HO3 := Lib.hid hown3; clear hown3 hgrow3 tok3))
            all_goals
              go_wp2
              obtain ⟨A3, c3, hv3, hn3, hs3, _⟩ := own_form HO3.out
              subst hv3
              go_ret2
              rw [HP.out, HPG.out]
              exact ⟨A3, _, c3, rfl, ags_of hs3 (l' := l.take k ++ [x] ++ l.drop k) (by simp [agC]) (by simp), hn3, HWA.out.trans HX3.out⟩
      · have heq : (agOf y).1 = (agOf x).1 := by
          rw [eq_b] at t1
          exact eq_of_beq t1
        have HPE := Lib.hid (put_eq HPRE.out HYM.out heq)
        clear heq
        go_wp2_with fail
        refine wp_region_ext (by kernel_rfl) (by kernel_rfl) ?_
        repeat (go_big_quiet_step (fail))
        refine wpQuiet_nil ?_
        intro wb hwb
        have HWB := Lib.hid (ext_of28 hwb)
        clear hwb r0 r1 s0 s1
        have r1 := fun z : ExtW wb => HR1.out ⟨z.v, HWB.out.trans z.h⟩
        have s1 := fun z : ExtW wb => HSS1.out ⟨z.v, HWB.out.trans z.h⟩
        have hPE : P = ((l.map agOf).set k ((agOf y).1, (comA y.t x.t).1), (comA y.t x.t).2) := HP.out.trans HPE.out
        have hcw : (Lit.int .i64 (comA y.t x.t).1).wf = true := com_wf _ _
        have hkc := HKC.out
        generalize (comA y.t x.t).1 = cm at hkc hPE hcw
        generalize (comA y.t x.t).2 = ok at hkc hPE
        have HPE2 := Lib.hid hPE
        have HU := Lib.hid (fun v : ExtW wb => hkc v.v)
        clear hPE hkc
        go_wp2_with fail
        refine wp_region_ext (by kernel_rfl) (by kernel_rfl) ?_
        repeat (go_big_quiet_step ((go_at_call 87; with_reducible exact ExtW.call (HU.out _))))
        refine wpQuiet_nil ?_
        intro wx hwx
        have HWX := Lib.hid (HWB.out.trans (ext_of28 hwx))
        clear hwx r1 s1
        have HOX := Lib.hid (own_ext HO2.out (HW.out.trans HWX.out))
        have z1 := (HOX.out.cellAt (k * 2 + 1) (by omega))
        have z2 := HOX.out.frozenAt (k * 2 + 1)
        have z3 := HR1.out ⟨wx, HWX.out⟩
        clear z1
        go_wp2
        go_ret2
        have hst := (HOX.out.stored (k * 2 + 1) (.int .i64 cm)).1
        obtain ⟨A3, c3, hv3, hn3, hs3, _⟩ := own_form hst
        injection hv3 with e1 e2 e3
        subst e1 e3
        rw [HPE2.out]
        exact ⟨_, n, c2, rfl, ags_of hs3 (l' := l.set k ⟨y.n, cm⟩) (set_flat l k y cm HY.out) set_of, hn3, (HW2.out.trans (HW.out.trans HWX.out)).setCell (show w.heap.size ≤ g from Nat.le_of_succ_le HGL.out) _⟩
    · have hkk : k = n := by omega
      subst hkk
      have HPE := Lib.hid (put_end (x := agOf x) (by rw [List.length_map, HL.out]; exact HPRE.out))
      have HGX := Lib.hid (HG2.out.ext HW.out)
      have c0 := HGX.out.cell 0 _ rfl
      have c1 := HGX.out.cell 1 _ rfl
      have HOX := Lib.hid (own_ext HO2.out (HW.out.alloc (.cells #[.string x.n, .int .i64 x.t] 66)))
      have HSN := Lib.hid (slN_new wo #[.string x.n, .int .i64 x.t] 66 1 2 rfl)
      have tok := True.intro
      go_wp2_with (first
        | (have _t := tok; at_builtin; refine wpList_appSl _ rfl _ _ 41 rfl (w.heap.size + 1) 66 i0 _ 2 24 Tryz.underlying41 hi hz0 hz1 hz2 rfl (by decide) _ k _ rfl HOX.out _ 1 1 [.string x.n, .int .i64 x.t] rfl HSN.out (agC_one [x]) (by unfold maxLen; omega) (by omega) (by have := Ext.size HW.out; have := (HW2.out).size; simp; omega) ?_; intro v3 w3 hown hgr; have HO3 := Lib.hid hown; have HW3 := Lib.hid (ext_grown (a := w) (B := w.heap.size + 1) ((HW2.out.trans HW.out).alloc _) HOX.out (by omega) hgr); clear hown hgr tok))
      obtain ⟨A3, c3, hv3, hn3, hs3, _⟩ := own_form HO3.out
      subst hv3
      go_wp2
      go_ret2
      rw [HP.out, HPE.out]
      exact ⟨A3, _, c3, rfl, ags_of hs3 (l' := l ++ [x]) (by simp [agC]) (by simp), hn3, HW3.out⟩
end Go.Proofs.YtpfmojeigjmlfaaGreatDoor
