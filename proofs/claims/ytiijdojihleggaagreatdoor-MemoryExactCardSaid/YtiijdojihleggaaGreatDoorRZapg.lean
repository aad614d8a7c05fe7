import Derived.Test.YtiijdojihleggaaGreatDoorRNB1
import Derived.Deep.RegionLaw
import Derived.Deep.RegionWith
import Derived.Laws.OwnMore
import Derived.Test.YtiijdojihleggaaGreatDoorRNZB
import Derived.Test.YtiijdojihleggaaGreatDoorRNZE
set_option maxRecDepth 100000
set_option linter.unusedSimpArgs false
set_option linter.unusedVariables false
open Go.Lib (hid)
namespace Go.Proofs.YtiijdojihleggaaGreatDoor
open Go.RowKit
section
variable {P : Program} (w : World)
theorem wp_appN {o : Oper} {a : Act} {K : Act → World → Prop} {Q : Exit → Act → World → Prop} (s x : Operand) (t : TypeId)
 (ho : o.op = .call { callee := .builtin .append, args := #[s, x], argTypes := #[t, t] })
 (base : Nat) (e : TypeId) (i : TypeInfo) (z : Value) (size bytes : Nat) (ht : P.underlying t = some (.slice e)) (hi : P.info? e = some i) (hz : i.zero = some z)
 (hsize : i.size = size) (hby : i.bytes = bytes) (hzs : z.cells.size = size) (hpos : 0 < size)
 (v : Value) (n : Nat) (xs : List Value) (hs : a.eval s = v) (hown : w.ownsRow base e size v n xs)
 (A : Option Addr) (m c : Nat) (news : List Value) (hx : a.eval x = .slice A m c) (hsl : SlN w A m size news) (h1 : ∀ u ∈ news, u.oneCell' = true)
 (h63 : n + m ≤ maxLen) (hbytes : (n + m) * bytes ≤ 140737488355328) (hbase : base ≤ w.heap.size)
 (h : ∀ v' w', w'.ownsRow base e size v' (n + m) (xs ++ news) → w.grownBy w' v.ownBlock → K (a.put o.dst v') w') : o.wp P a w K Q := by
 have hm0 : A = none → m = 0 ∧ news = [] := by
  rintro rfl
  have hl := hsl.1
  rcases Nat.eq_zero_or_pos m with h0 | h0
  ·subst h0
   exact ⟨rfl, List.eq_nil_of_length_eq_zero (by simpa using hl)⟩
  ·have hlt : 0 < news.length := by rw [hl]; exact Nat.mul_pos h0 hpos
   obtain ⟨b, o', hA, _⟩ := hsl.2 0 _ (List.getElem?_eq_getElem hlt)
   cases hA
 cases A with
 | none =>
   obtain ⟨rfl, rfl⟩ := hm0 rfl
   have hrun := run_append_nil_any (P := P) w base t o.type e i size ht hi v n xs hown c
   unfold Oper.wp execOp
   simp only [ho, resolve, invoke, builtin, Sem.run_bind, Sem.run_pure, Result.andThen_ok, List.map_toArray, List.map_cons, List.map_nil, hs, hx, hrun]
   exact h v w (by simpa using hown) (World.grownBy.refl w _)
 | some ad =>
   refine wp_append_own w s x t ho base e i z size bytes ht hi hz hsize hby hzs hpos v n xs hs hown ad m c news hx hsl.1
    (fun j u hu => ?_) h1 h63 hbytes hbase (fun v' w' a1 a2 _ => h v' w' a1 a2)
   obtain ⟨b, o', ha, _, hc⟩ := hsl.2 j u hu
   injection ha with ha
   subst ha
   have ea : (⟨b, o', none⟩ : Addr).add j = ⟨b, o' + j, none⟩ := by
    unfold Addr.add
    split
    ·subst_vars; rfl
    ·rfl
   rw [ea]
   exact hc
end
theorem slN_at {T : TypeId} {w : World} {g : Nat} {cs : Array Value} {n size : Nat} (h : AtC T w g cs) (hn : cs.size = n * size) : SlN w (some ⟨g, 0, none⟩) n size cs.toList :=
 ⟨by simpa using hn, fun j u hu => ⟨g, 0, rfl, h.lt, by
  rw [Nat.zero_add]
  exact h.cell j u (by simpa using hu)⟩⟩
end Go.Proofs.YtiijdojihleggaaGreatDoor
namespace Go.Proofs.YtiijdojihleggaaGreatDoor
open Go.RowKit
def RS10 (bx : Nat) (x : Mt) (w' : World) : Prop := w'.cell? ⟨bx, 0, none⟩ = some (.int .i64 x.i) ∧ w'.cell? ⟨bx, 1, none⟩ = some (.int .i64 x.n) ∧ w'.cell? ⟨bx, 2, none⟩ = some (.string x.s) ∧ w'.cell? ⟨bx, 3, none⟩ = some (.string x.t)
noncomputable def regA10 : Code := ((Tryz.f15).body.bind (regOf15 10)).getD .skip
theorem mt_one (x : Mt) : ∀ u ∈ mtC x, u.oneCell' = true := by
 intro u hu
 simp only [mtC, List.mem_cons, List.not_mem_nil, or_false] at hu
 rcases hu with rfl | rfl | rfl | rfl <;> rfl
theorem slN_lit (w : World) (x : Mt) : SlN (w.alloc (.cells #[.int .i64 x.i, .int .i64 x.n, .string x.s, .string x.t] 38)) (some ⟨w.heap.size, 0, none⟩) 1 4 (mtC x) := slN_at (T := 38) (AtC.new w #[.int .i64 x.i, .int .i64 x.n, .string x.s, .string x.t]) rfl
theorem SlN.takeK {w : World} {A : Option Addr} {n size : Nat} {xs : List Value} (h : SlN w A n size xs) (i : Nat) (hi : i ≤ n) : SlN w A i size (xs.take (i * size)) := by
 refine ⟨by rw [List.length_take, h.1]; exact Nat.min_eq_left (Nat.mul_le_mul_right _ hi), fun j u hj => ?_⟩
 rw [List.getElem?_take] at hj
 split at hj
 ·exact h.2 j u hj
 ·cases hj
theorem SlN.dropK {w : World} {b o n size : Nat} {xs : List Value} (h : SlN w (some ⟨b, o, none⟩) n size xs) (k : Nat) (hk : k ≤ n) : SlN w (some ⟨b, o + k * size, none⟩) (n - k) size (xs.drop (k * size)) := by
 refine ⟨?_, fun j u hu => ?_⟩
 ·rw [List.length_drop, h.1, ← Nat.sub_mul]
 ·rw [List.getElem?_drop] at hu
  obtain ⟨b', o', e, hb, hc⟩ := h.2 _ u hu
  injection e with e
  injection e with e1 e2
  subst e1 e2
  exact ⟨b, o + k * size, rfl, hb, by rw [Nat.add_assoc]; exact hc⟩
theorem lit_grown {w w' : World} {gl k s : Nat} {v : Value} {xs : List Value} (h : SlN w (some ⟨gl, 0, none⟩) k s xs) (hg : w.grownBy w' v.ownBlock) (hne : some gl ≠ v.ownBlock) : SlN w' (some ⟨gl, 0, none⟩) k s xs := by
 refine ⟨h.1, fun j u hj => ?_⟩
 obtain ⟨b, o, hA, hb, hc⟩ := h.2 j u hj
 injection hA with hA
 injection hA with e1 e2 _
 subst e1 e2
 have h2 := hg.cell hc hne
 refine ⟨gl, 0, rfl, ?_, h2⟩
 exact Nat.lt_of_lt_of_le hb hg.size
set_option maxHeartbeats 4000000 in
theorem rl10n {u0 u1 u2 u3 u4 u5 u6 u8 u11 u12 u13 u14 u15 u16 u17 u18 u19 u20 u21 u22 u23 u24 u25 u26 u27 u28 u29 u30 u31 u32 u33 u34 u35 u36 u37 u38 u39 u40 u41 u42 u43 u44 u45 u46 u47 u48 u49 u50 u51 u52 u53 u54 u55 u56 u57 u58 u59 u60 u61 u62 u63 u64 u65 u66 u67 u68 u69 u70 u71 u72 u73 u74 u75 u76 : Value} {bx : Nat} {x : Mt} {w : World} {Q : Exit → Act → World → Prop} {C : Code} (hC : C = regA10)
 (h1 : w.cell? ⟨bx, 0, none⟩ = some (.int .i64 x.i)) (h2 : w.cell? ⟨bx, 1, none⟩ = some (.int .i64 x.n)) (h3 : w.cell? ⟨bx, 2, none⟩ = some (.string x.s)) (h4 : w.cell? ⟨bx, 3, none⟩ = some (.string x.t)) (hb : bx < w.heap.size)
 (hQ : ∀ z64 z65 z66 z67 z68 z69 z70 z71 z72 z73 z74 z75 v' w', w'.ownsRow w.heap.size 38 4 v' (0 + 1) (mtC x) → Ext w w' → Q .normal ⟨#[u0, u1, u2, u3, u4, u5, u6, v', u8, .pointer (some ⟨bx, 0, none⟩), .int .i64 0, u11, u12, u13, u14, u15, u16, u17, u18, u19, u20, u21, u22, u23, u24, u25, u26, u27, u28, u29, u30, u31, u32, u33, u34, u35, u36, u37, u38, u39, u40, u41, u42, u43, u44, u45, u46, u47, u48, u49, u50, u51, u52, u53, u54, u55, u56, u57, u58, u59, u60, u61, u62, u63, z64, z65, z66, z67, z68, z69, z70, z71, z72, z73, z74, z75, u76], []⟩ w') :
 Code.wp Tryz.prog C Q ⟨#[u0, u1, u2, u3, u4, u5, u6, .slice none 0 0, u8, .pointer (some ⟨bx, 0, none⟩), .int .i64 0, u11, u12, u13, u14, u15, u16, u17, u18, u19, u20, u21, u22, u23, u24, u25, u26, u27, u28, u29, u30, u31, u32, u33, u34, u35, u36, u37, u38, u39, u40, u41, u42, u43, u44, u45, u46, u47, u48, u49, u50, u51, u52, u53, u54, u55, u56, u57, u58, u59, u60, u61, u62, u63, u64, u65, u66, u67, u68, u69, u70, u71, u72, u73, u74, u75, u76], []⟩ w := by
 subst hC
 conv => arg 2; whnf
 obtain ⟨i0, hi, hz0, hz1, hz2⟩ := info_parts (show (Tryz.prog.info? 38).map (fun i => (i.zero, i.size, i.bytes)) = some (some (.agg #[.int .i64 0, .int .i64 0, .string ⟨#[]⟩, .string ⟨#[]⟩]), 4, 48) from by kernel_rfl)
 have HQ := hid hQ
 have HSX := hid (show ∀ W, Ext w W → RS10 bx x W from fun W hW => ⟨(Ext.cell hW hb).trans h1, (Ext.cell hW hb).trans h2, (Ext.cell hW hb).trans h3, (Ext.cell hW hb).trans h4⟩)
 clear hQ h1 h2 h3 h4
 refine wp_region_noPanic ?_
 refine wp_region_T (n := 13) (S := RS10 bx x) (by kernel_rfl) ?_
 have Xwa0 := hid (show Ext w w.drew from (Ext.refl w).drew)
 obtain ⟨wa0, hwa0⟩ : ∃ W, W = w.drew := ⟨_, rfl⟩
 rw [← hwa0] at Xwa0 ⊢
 clear hwa0
 have hS := HSX.out wa0 Xwa0.out
 refine wpAnyT_take (i := 1) (v := .slice none 0 0) rfl (by kernel_rfl) (by kernel_rfl) (by kernel_rfl) (fun _ _ _ h => h) hS (Or.inl ⟨by rfl, ?_⟩) ?_
 ·intro w1 hSw
  unfold RS10 at hSw
  obtain ⟨q1, q2, q3, q4⟩ := hSw
  go_simp
 simp only [Act.put, List.setIfInBounds_toArray, List.set_cons_zero, List.set_cons_succ]
 refine wpAnyT_take (i := 2) (v := .int .i64 0) rfl (by kernel_rfl) (by kernel_rfl) (by kernel_rfl) (fun _ _ _ h => h) hS (Or.inl ⟨by rfl, ?_⟩) ?_
 ·intro w1 hSw
  unfold RS10 at hSw
  obtain ⟨q1, q2, q3, q4⟩ := hSw
  go_simp
 simp only [Act.put, List.setIfInBounds_toArray, List.set_cons_zero, List.set_cons_succ]
 refine wpAnyT_take (i := 3) (v := .slice none 0 0) rfl (by kernel_rfl) (by kernel_rfl) (by kernel_rfl) (fun _ _ _ h => h) hS (Or.inl ⟨by rfl, ?_⟩) ?_
 ·intro w1 hSw
  unfold RS10 at hSw
  obtain ⟨q1, q2, q3, q4⟩ := hSw
  go_simp
 simp only [Act.put, List.setIfInBounds_toArray, List.set_cons_zero, List.set_cons_succ]
 refine wpAnyT_take (i := 5) (v := .agg #[.int .i64 x.i, .int .i64 x.n, .string x.s, .string x.t]) rfl (by kernel_rfl) (by kernel_rfl) (by kernel_rfl) (fun _ _ _ h => h) hS (Or.inl ⟨by rfl, ?_⟩) ?_
 ·intro w1 hSw
  unfold RS10 at hSw
  obtain ⟨q1, q2, q3, q4⟩ := hSw
  go_simp
 simp only [Act.put, List.setIfInBounds_toArray, List.set_cons_zero, List.set_cons_succ]
 refine wpAnyT_take (i := 8) (v := .slice none 0 0) rfl (by kernel_rfl) (by kernel_rfl) (by kernel_rfl) (fun _ _ _ h => h) hS (Or.inl ⟨by rfl, ?_⟩) ?_
 ·intro w1 hSw
  unfold RS10 at hSw
  obtain ⟨q1, q2, q3, q4⟩ := hSw
  go_simp
 simp only [Act.put, List.setIfInBounds_toArray, List.set_cons_zero, List.set_cons_succ]
 refine wpAnyT_take (i := 9) (v := .int .i64 0) rfl (by kernel_rfl) (by kernel_rfl) (by kernel_rfl) (fun _ _ _ h => h) hS (Or.inl ⟨by rfl, ?_⟩) ?_
 ·intro w1 hSw
  unfold RS10 at hSw
  obtain ⟨q1, q2, q3, q4⟩ := hSw
  go_simp
 simp only [Act.put, List.setIfInBounds_toArray, List.set_cons_zero, List.set_cons_succ]
 refine wpAnyT_take (i := 10) (v := .slice none 0 0) rfl (by kernel_rfl) (by kernel_rfl) (by kernel_rfl) (fun _ _ _ h => h) hS (Or.inl ⟨by rfl, ?_⟩) ?_
 ·intro w1 hSw
  unfold RS10 at hSw
  obtain ⟨q1, q2, q3, q4⟩ := hSw
  go_simp
 simp only [Act.put, List.setIfInBounds_toArray, List.set_cons_zero, List.set_cons_succ]
 refine wpAnyT_all (rs := [0, 6]) (by kernel_rfl) (by simp) ?_
 intro i_ hi_
 rw [List.mem_cons, List.mem_singleton] at hi_
 rcases hi_ with rfl | rfl
 ·refine wpOp_step15 rfl (by rfl) fun K' hK' => ?_
  go_simp
  obtain ⟨wa1, hwa1⟩ : ∃ W, W = wa0.alloc (.cells #[] 38) := ⟨_, rfl⟩
  (try rw [World.drew_alloc] at *)
  rw [← hwa1]
  have Xwa1 := hid (show Ext w wa1 from by rw [hwa1]; exact Xwa0.out.alloc _)
  have Owa1 := hid (show wa1.ownsRow w.heap.size 38 4 (.slice (some ⟨wa0.heap.size, 0, none⟩) 0 0) 0 [] from by rw [hwa1]; exact World.ownsRow_made wa0 #[] 0 (Ext.size Xwa0.out) (Nat.zero_le _) rfl)
  clear hwa1
  refine hK'.out _ _ ⟨fun _ => HSX.out wa1 Xwa1.out, ?_⟩
  clear hK'
  try simp only [Act.put, List.setIfInBounds_toArray, List.set_cons_zero, List.set_cons_succ]
  refine wpAnyT_all (rs := [4, 6]) (by kernel_rfl) (by simp) ?_
  intro i_ hi_
  rw [List.mem_cons, List.mem_singleton] at hi_
  rcases hi_ with rfl | rfl
  ·refine wpOp_step15 rfl (by rfl) fun K' hK' => ?_
   refine wp_appN wa1 _ _ 35 rfl w.heap.size 38 i0 _ 4 48 Tryz.underlying35 hi hz0 hz1 hz2 rfl (by decide) _ _ _ rfl Owa1.out none 0 0 [] rfl (SlN.nil _ _ _) (fun u hu => (by cases hu)) (by unfold maxLen; omega) (by omega) (Ext.size Xwa1.out) ?_
   intro v68 wa2 ho' hg'
   have Xwa2 := hid (Xwa1.out.grown hg' (own_lt Owa1.out))
   have Owa2 := hid ho'
   refine hK'.out _ _ ⟨fun _ => HSX.out wa2 Xwa2.out, ?_⟩
   clear ho' hg'
   clear hK'
   try simp only [Act.put, List.setIfInBounds_toArray, List.set_cons_zero, List.set_cons_succ]
   refine wpAnyT_all (rs := [6]) (by kernel_rfl) (by simp) ?_
   intro i_ hi_
   rw [List.mem_singleton] at hi_
   subst hi_
   refine wpOp_step15 rfl (by rfl) fun K' hK' => ?_
   go_simp
   obtain ⟨wa3, hwa3⟩ : ∃ W, W = wa2.alloc (.cells #[.int .i64 x.i, .int .i64 x.n, .string x.s, .string x.t] 38) := ⟨_, rfl⟩
   (try rw [World.drew_alloc] at *)
   rw [← hwa3]
   have Xwa3 := hid (show Ext w wa3 from by rw [hwa3]; exact Xwa2.out.alloc _)
   obtain ⟨gl, hgl⟩ : ∃ gl, gl = wa2.heap.size := ⟨_, rfl⟩
   have Lwa3 := hid (show SlN wa3 (some ⟨gl, 0, none⟩) 1 4 (mtC x) from by rw [hwa3, hgl]; exact slN_lit wa2 x)
   rw [← hgl]
   have NE := hid (show some gl ≠ (v68 : Value).ownBlock from fun e => by have := Owa2.out.lt gl e.symm; omega)
   have GL := hid (show gl < wa3.heap.size from by rw [hwa3, hgl]; simp)
   clear hgl
   have Owa3 := hid (show wa3.ownsRow w.heap.size 38 4 v68 (0 + 0) ([] ++ []) from by rw [hwa3]; exact own_ext Owa2.out ((Ext.refl _).alloc _))
   clear hwa3
   refine hK'.out _ _ ⟨fun _ => HSX.out wa3 Xwa3.out, ?_⟩
   clear hK'
   try simp only [Act.put, List.setIfInBounds_toArray, List.set_cons_zero, List.set_cons_succ]
   refine wpAnyT_all (rs := [7]) (by kernel_rfl) (by simp) ?_
   intro i_ hi_
   rw [List.mem_singleton] at hi_
   subst hi_
   refine wpOp_step15 rfl (by rfl) fun K' hK' => ?_
   refine wp_appN wa3 _ _ 35 rfl w.heap.size 38 i0 _ 4 48 Tryz.underlying35 hi hz0 hz1 hz2 rfl (by decide) _ _ _ rfl Owa3.out (some ⟨gl, 0, none⟩) 1 1 (mtC x) rfl (Lwa3.out) (mt_one x) (by unfold maxLen; omega) (by omega) (Ext.size Xwa3.out) ?_
   intro v71 wa4 ho' hg'
   have Xwa4 := hid (Xwa3.out.grown hg' (own_lt Owa3.out))
   have Owa4 := hid ho'
   refine hK'.out _ _ ⟨fun _ => HSX.out wa4 Xwa4.out, ?_⟩
   clear ho' hg'
   clear hK'
   try simp only [Act.put, List.setIfInBounds_toArray, List.set_cons_zero, List.set_cons_succ]
   refine wpAnyT_all (rs := [11]) (by kernel_rfl) (by simp) ?_
   intro i_ hi_
   rw [List.mem_singleton] at hi_
   subst hi_
   refine wpOp_step15 rfl (by rfl) fun K' hK' => ?_
   refine wp_appN wa4 _ _ 35 rfl w.heap.size 38 i0 _ 4 48 Tryz.underlying35 hi hz0 hz1 hz2 rfl (by decide) _ _ _ rfl Owa4.out none 0 0 [] rfl (SlN.nil _ _ _) (fun u hu => (by cases hu)) (by unfold maxLen; omega) (by omega) (Ext.size Xwa4.out) ?_
   intro v75 wa5 ho' hg'
   have Xwa5 := hid (Xwa4.out.grown hg' (own_lt Owa4.out))
   have Owa5 := hid ho'
   refine hK'.out _ _ ⟨fun _ => HSX.out wa5 Xwa5.out, ?_⟩
   clear ho' hg'
   clear hK'
   try simp only [Act.put, List.setIfInBounds_toArray, List.set_cons_zero, List.set_cons_succ]
   refine wpAnyT_all (rs := [12]) (by kernel_rfl) (by simp) ?_
   intro i_ hi_
   rw [List.mem_singleton] at hi_
   subst hi_
   refine wpOp_step15 rfl (by rfl) fun K' hK' => ?_
   go_simp
   refine hK'.out _ _ ⟨fun _ => HSX.out wa5 Xwa5.out, ?_⟩
   clear hK'
   try simp only [Act.put, List.setIfInBounds_toArray, List.set_cons_zero, List.set_cons_succ]
   refine ⟨by kernel_rfl, ?_⟩
   show Q _ _ _
   exact HQ.out _ _ _ _ _ _ _ _ _ _ _ _ _ wa5 (by have h := Owa5.out; rw [show (((0 + 0) + 1) + 0) = 0 + 1 from by omega] at h; simpa using h) Xwa5.out
  ·refine wpOp_step15 rfl (by rfl) fun K' hK' => ?_
   go_simp
   obtain ⟨wa2, hwa2⟩ : ∃ W, W = wa1.alloc (.cells #[.int .i64 x.i, .int .i64 x.n, .string x.s, .string x.t] 38) := ⟨_, rfl⟩
   (try rw [World.drew_alloc] at *)
   rw [← hwa2]
   have Xwa2 := hid (show Ext w wa2 from by rw [hwa2]; exact Xwa1.out.alloc _)
   obtain ⟨gl, hgl⟩ : ∃ gl, gl = wa1.heap.size := ⟨_, rfl⟩
   have Lwa2 := hid (show SlN wa2 (some ⟨gl, 0, none⟩) 1 4 (mtC x) from by rw [hwa2, hgl]; exact slN_lit wa1 x)
   rw [← hgl]
   have NE := hid (show some gl ≠ ((.slice (some ⟨wa0.heap.size, 0, none⟩) 0 0) : Value).ownBlock from fun e => by have := Owa1.out.lt gl e.symm; omega)
   have GL := hid (show gl < wa2.heap.size from by rw [hwa2, hgl]; simp)
   clear hgl
   have Owa2 := hid (show wa2.ownsRow w.heap.size 38 4 (.slice (some ⟨wa0.heap.size, 0, none⟩) 0 0) 0 [] from by rw [hwa2]; exact own_ext Owa1.out ((Ext.refl _).alloc _))
   clear hwa2
   refine hK'.out _ _ ⟨fun _ => HSX.out wa2 Xwa2.out, ?_⟩
   clear hK'
   try simp only [Act.put, List.setIfInBounds_toArray, List.set_cons_zero, List.set_cons_succ]
   refine wpAnyT_all (rs := [4]) (by kernel_rfl) (by simp) ?_
   intro i_ hi_
   rw [List.mem_singleton] at hi_
   subst hi_
   refine wpOp_step15 rfl (by rfl) fun K' hK' => ?_
   refine wp_appN wa2 _ _ 35 rfl w.heap.size 38 i0 _ 4 48 Tryz.underlying35 hi hz0 hz1 hz2 rfl (by decide) _ _ _ rfl Owa2.out none 0 0 [] rfl (SlN.nil _ _ _) (fun u hu => (by cases hu)) (by unfold maxLen; omega) (by omega) (Ext.size Xwa2.out) ?_
   intro v68 wa3 ho' hg'
   have Xwa3 := hid (Xwa2.out.grown hg' (own_lt Owa2.out))
   have Owa3 := hid ho'
   have Lwa3 := hid (lit_grown Lwa2.out hg' NE.out)
   refine hK'.out _ _ ⟨fun _ => HSX.out wa3 Xwa3.out, ?_⟩
   clear ho' hg'
   clear hK'
   try simp only [Act.put, List.setIfInBounds_toArray, List.set_cons_zero, List.set_cons_succ]
   refine wpAnyT_all (rs := [7]) (by kernel_rfl) (by simp) ?_
   intro i_ hi_
   rw [List.mem_singleton] at hi_
   subst hi_
   refine wpOp_step15 rfl (by rfl) fun K' hK' => ?_
   refine wp_appN wa3 _ _ 35 rfl w.heap.size 38 i0 _ 4 48 Tryz.underlying35 hi hz0 hz1 hz2 rfl (by decide) _ _ _ rfl Owa3.out (some ⟨gl, 0, none⟩) 1 1 (mtC x) rfl (Lwa3.out) (mt_one x) (by unfold maxLen; omega) (by omega) (Ext.size Xwa3.out) ?_
   intro v71 wa4 ho' hg'
   have Xwa4 := hid (Xwa3.out.grown hg' (own_lt Owa3.out))
   have Owa4 := hid ho'
   refine hK'.out _ _ ⟨fun _ => HSX.out wa4 Xwa4.out, ?_⟩
   clear ho' hg'
   clear hK'
   try simp only [Act.put, List.setIfInBounds_toArray, List.set_cons_zero, List.set_cons_succ]
   refine wpAnyT_all (rs := [11]) (by kernel_rfl) (by simp) ?_
   intro i_ hi_
   rw [List.mem_singleton] at hi_
   subst hi_
   refine wpOp_step15 rfl (by rfl) fun K' hK' => ?_
   refine wp_appN wa4 _ _ 35 rfl w.heap.size 38 i0 _ 4 48 Tryz.underlying35 hi hz0 hz1 hz2 rfl (by decide) _ _ _ rfl Owa4.out none 0 0 [] rfl (SlN.nil _ _ _) (fun u hu => (by cases hu)) (by unfold maxLen; omega) (by omega) (Ext.size Xwa4.out) ?_
   intro v75 wa5 ho' hg'
   have Xwa5 := hid (Xwa4.out.grown hg' (own_lt Owa4.out))
   have Owa5 := hid ho'
   refine hK'.out _ _ ⟨fun _ => HSX.out wa5 Xwa5.out, ?_⟩
   clear ho' hg'
   clear hK'
   try simp only [Act.put, List.setIfInBounds_toArray, List.set_cons_zero, List.set_cons_succ]
   refine wpAnyT_all (rs := [12]) (by kernel_rfl) (by simp) ?_
   intro i_ hi_
   rw [List.mem_singleton] at hi_
   subst hi_
   refine wpOp_step15 rfl (by rfl) fun K' hK' => ?_
   go_simp
   refine hK'.out _ _ ⟨fun _ => HSX.out wa5 Xwa5.out, ?_⟩
   clear hK'
   try simp only [Act.put, List.setIfInBounds_toArray, List.set_cons_zero, List.set_cons_succ]
   refine ⟨by kernel_rfl, ?_⟩
   show Q _ _ _
   exact HQ.out _ _ _ _ _ _ _ _ _ _ _ _ _ wa5 (by have h := Owa5.out; rw [show (((0 + 0) + 1) + 0) = 0 + 1 from by omega] at h; simpa using h) Xwa5.out
 ·refine wpOp_step15 rfl (by rfl) fun K' hK' => ?_
  go_simp
  obtain ⟨wa1, hwa1⟩ : ∃ W, W = wa0.alloc (.cells #[.int .i64 x.i, .int .i64 x.n, .string x.s, .string x.t] 38) := ⟨_, rfl⟩
  (try rw [World.drew_alloc] at *)
  rw [← hwa1]
  have Xwa1 := hid (show Ext w wa1 from by rw [hwa1]; exact Xwa0.out.alloc _)
  obtain ⟨gl, hgl⟩ : ∃ gl, gl = wa0.heap.size := ⟨_, rfl⟩
  have Lwa1 := hid (show SlN wa1 (some ⟨gl, 0, none⟩) 1 4 (mtC x) from by rw [hwa1, hgl]; exact slN_lit wa0 x)
  rw [← hgl]
  have GL := hid (show gl < wa1.heap.size from by rw [hwa1, hgl]; simp)
  clear hgl
  clear hwa1
  refine hK'.out _ _ ⟨fun _ => HSX.out wa1 Xwa1.out, ?_⟩
  clear hK'
  try simp only [Act.put, List.setIfInBounds_toArray, List.set_cons_zero, List.set_cons_succ]
  refine wpAnyT_all (rs := [0]) (by kernel_rfl) (by simp) ?_
  intro i_ hi_
  rw [List.mem_singleton] at hi_
  subst hi_
  refine wpOp_step15 rfl (by rfl) fun K' hK' => ?_
  go_simp
  obtain ⟨wa2, hwa2⟩ : ∃ W, W = wa1.alloc (.cells #[] 38) := ⟨_, rfl⟩
  (try rw [World.drew_alloc] at *)
  rw [← hwa2]
  have Xwa2 := hid (show Ext w wa2 from by rw [hwa2]; exact Xwa1.out.alloc _)
  have Owa2 := hid (show wa2.ownsRow w.heap.size 38 4 (.slice (some ⟨wa1.heap.size, 0, none⟩) 0 0) 0 [] from by rw [hwa2]; exact World.ownsRow_made wa1 #[] 0 (Ext.size Xwa1.out) (Nat.zero_le _) rfl)
  have NE := hid (show some gl ≠ (Value.slice (some ⟨wa1.heap.size, 0, none⟩) 0 0).ownBlock from fun e => by have e2 : gl = wa1.heap.size := Option.some.inj e; have := GL.out; omega)
  have Lwa2 := hid (show SlN wa2 (some ⟨gl, 0, none⟩) 1 4 (mtC x) from by rw [hwa2]; exact SlN.ext Lwa1.out ((Ext.refl _).alloc _))
  clear hwa2
  refine hK'.out _ _ ⟨fun _ => HSX.out wa2 Xwa2.out, ?_⟩
  clear hK'
  try simp only [Act.put, List.setIfInBounds_toArray, List.set_cons_zero, List.set_cons_succ]
  refine wpAnyT_all (rs := [4]) (by kernel_rfl) (by simp) ?_
  intro i_ hi_
  rw [List.mem_singleton] at hi_
  subst hi_
  refine wpOp_step15 rfl (by rfl) fun K' hK' => ?_
  refine wp_appN wa2 _ _ 35 rfl w.heap.size 38 i0 _ 4 48 Tryz.underlying35 hi hz0 hz1 hz2 rfl (by decide) _ _ _ rfl Owa2.out none 0 0 [] rfl (SlN.nil _ _ _) (fun u hu => (by cases hu)) (by unfold maxLen; omega) (by omega) (Ext.size Xwa2.out) ?_
  intro v68 wa3 ho' hg'
  have Xwa3 := hid (Xwa2.out.grown hg' (own_lt Owa2.out))
  have Owa3 := hid ho'
  have Lwa3 := hid (lit_grown Lwa2.out hg' NE.out)
  refine hK'.out _ _ ⟨fun _ => HSX.out wa3 Xwa3.out, ?_⟩
  clear ho' hg'
  clear hK'
  try simp only [Act.put, List.setIfInBounds_toArray, List.set_cons_zero, List.set_cons_succ]
  refine wpAnyT_all (rs := [7]) (by kernel_rfl) (by simp) ?_
  intro i_ hi_
  rw [List.mem_singleton] at hi_
  subst hi_
  refine wpOp_step15 rfl (by rfl) fun K' hK' => ?_
  refine wp_appN wa3 _ _ 35 rfl w.heap.size 38 i0 _ 4 48 Tryz.underlying35 hi hz0 hz1 hz2 rfl (by decide) _ _ _ rfl Owa3.out (some ⟨gl, 0, none⟩) 1 1 (mtC x) rfl (Lwa3.out) (mt_one x) (by unfold maxLen; omega) (by omega) (Ext.size Xwa3.out) ?_
  intro v71 wa4 ho' hg'
  have Xwa4 := hid (Xwa3.out.grown hg' (own_lt Owa3.out))
  have Owa4 := hid ho'
  refine hK'.out _ _ ⟨fun _ => HSX.out wa4 Xwa4.out, ?_⟩
  clear ho' hg'
  clear hK'
  try simp only [Act.put, List.setIfInBounds_toArray, List.set_cons_zero, List.set_cons_succ]
  refine wpAnyT_all (rs := [11]) (by kernel_rfl) (by simp) ?_
  intro i_ hi_
  rw [List.mem_singleton] at hi_
  subst hi_
  refine wpOp_step15 rfl (by rfl) fun K' hK' => ?_
  refine wp_appN wa4 _ _ 35 rfl w.heap.size 38 i0 _ 4 48 Tryz.underlying35 hi hz0 hz1 hz2 rfl (by decide) _ _ _ rfl Owa4.out none 0 0 [] rfl (SlN.nil _ _ _) (fun u hu => (by cases hu)) (by unfold maxLen; omega) (by omega) (Ext.size Xwa4.out) ?_
  intro v75 wa5 ho' hg'
  have Xwa5 := hid (Xwa4.out.grown hg' (own_lt Owa4.out))
  have Owa5 := hid ho'
  refine hK'.out _ _ ⟨fun _ => HSX.out wa5 Xwa5.out, ?_⟩
  clear ho' hg'
  clear hK'
  try simp only [Act.put, List.setIfInBounds_toArray, List.set_cons_zero, List.set_cons_succ]
  refine wpAnyT_all (rs := [12]) (by kernel_rfl) (by simp) ?_
  intro i_ hi_
  rw [List.mem_singleton] at hi_
  subst hi_
  refine wpOp_step15 rfl (by rfl) fun K' hK' => ?_
  go_simp
  refine hK'.out _ _ ⟨fun _ => HSX.out wa5 Xwa5.out, ?_⟩
  clear hK'
  try simp only [Act.put, List.setIfInBounds_toArray, List.set_cons_zero, List.set_cons_succ]
  refine ⟨by kernel_rfl, ?_⟩
  show Q _ _ _
  exact HQ.out _ _ _ _ _ _ _ _ _ _ _ _ _ wa5 (by have h := Owa5.out; rw [show (((0 + 0) + 1) + 0) = 0 + 1 from by omega] at h; simpa using h) Xwa5.out
set_option maxHeartbeats 4000000 in
theorem rl10 {u0 u1 u2 u3 u4 u5 u6 u8 u11 u12 u13 u14 u15 u16 u17 u18 u19 u20 u21 u22 u23 u24 u25 u26 u27 u28 u29 u30 u31 u32 u33 u34 u35 u36 u37 u38 u39 u40 u41 u42 u43 u44 u45 u46 u47 u48 u49 u50 u51 u52 u53 u54 u55 u56 u57 u58 u59 u60 u61 u62 u63 u64 u65 u66 u67 u68 u69 u70 u71 u72 u73 u74 u75 u76 : Value} {bx g p n c : Nat} {xs : List Value} {x : Mt} {w : World} {Q : Exit → Act → World → Prop} {C : Code} (hC : C = regA10)
 (h1 : w.cell? ⟨bx, 0, none⟩ = some (.int .i64 x.i)) (h2 : w.cell? ⟨bx, 1, none⟩ = some (.int .i64 x.n)) (h3 : w.cell? ⟨bx, 2, none⟩ = some (.string x.s)) (h4 : w.cell? ⟨bx, 3, none⟩ = some (.string x.t)) (hb : bx < w.heap.size)
 (hs : SlN w (some ⟨g, 0, none⟩) n 4 xs) (hone : ∀ u ∈ xs, u.oneCell' = true) (hp : p ≤ n) (hc : n ≤ c) (hn : n ≤ 1000000)
 (hQ : ∀ z64 z65 z66 z67 z68 z69 z70 z71 z72 z73 z74 z75 v' w', w'.ownsRow w.heap.size 38 4 v' (n + 1) (xs.take (p * 4) ++ mtC x ++ xs.drop (p * 4)) → Ext w w' → Q .normal ⟨#[u0, u1, u2, u3, u4, u5, u6, v', u8, .pointer (some ⟨bx, 0, none⟩), .int .i64 p, u11, u12, u13, u14, u15, u16, u17, u18, u19, u20, u21, u22, u23, u24, u25, u26, u27, u28, u29, u30, u31, u32, u33, u34, u35, u36, u37, u38, u39, u40, u41, u42, u43, u44, u45, u46, u47, u48, u49, u50, u51, u52, u53, u54, u55, u56, u57, u58, u59, u60, u61, u62, u63, z64, z65, z66, z67, z68, z69, z70, z71, z72, z73, z74, z75, u76], []⟩ w') :
 Code.wp Tryz.prog C Q ⟨#[u0, u1, u2, u3, u4, u5, u6, .slice (some ⟨g, 0, none⟩) n c, u8, .pointer (some ⟨bx, 0, none⟩), .int .i64 p, u11, u12, u13, u14, u15, u16, u17, u18, u19, u20, u21, u22, u23, u24, u25, u26, u27, u28, u29, u30, u31, u32, u33, u34, u35, u36, u37, u38, u39, u40, u41, u42, u43, u44, u45, u46, u47, u48, u49, u50, u51, u52, u53, u54, u55, u56, u57, u58, u59, u60, u61, u62, u63, u64, u65, u66, u67, u68, u69, u70, u71, u72, u73, u74, u75, u76], []⟩ w := by
 subst hC
 conv => arg 2; whnf
 obtain ⟨i0, hi, hz0, hz1, hz2⟩ := info_parts (show (Tryz.prog.info? 38).map (fun i => (i.zero, i.size, i.bytes)) = some (some (.agg #[.int .i64 0, .int .i64 0, .string ⟨#[]⟩, .string ⟨#[]⟩]), 4, 48) from by kernel_rfl)
 have HQ := hid hQ
 have HSX := hid (show ∀ W, Ext w W → RS10 bx x W from fun W hW => ⟨(Ext.cell hW hb).trans h1, (Ext.cell hW hb).trans h2, (Ext.cell hW hb).trans h3, (Ext.cell hW hb).trans h4⟩)
 have HSL := hid hs
 have H1 := hid hone
 have hpz : (p : Int) ≤ (n : Int) := by omega
 have hcz : (p : Int) ≤ (c : Int) := by omega
 have hnc : (n : Int) ≤ (c : Int) := by omega
 have hp0 : (0 : Int) ≤ (p : Int) := by omega
 clear hQ h1 h2 h3 h4 hs hone
 obtain ⟨oh, hoh⟩ : ∃ oh, (if c = p then 0 else p * 4) = oh := ⟨_, rfl⟩
 have hoh2 : (if c = p then some (⟨g, 0, none⟩ : Addr) else some ⟨g, p * 4, none⟩) = some ⟨g, oh, none⟩ := by rw [← hoh]; split <;> rfl
 have HSH := hid (show SlN w (some ⟨g, oh, none⟩) (n - p) 4 (xs.drop (p * 4)) from by
  have h := HSL.out.dropK p hp
  rw [Nat.zero_add] at h
  by_cases e : c = p
  ·have e2 : n - p = 0 := by omega
   have e3 : xs.drop (p * 4) = [] := List.eq_nil_of_length_eq_zero (by rw [h.1, e2])
   rw [e2, e3]
   exact SlN.nil _ _ _
  ·rw [if_neg e] at hoh
   rw [← hoh]; exact h)
 refine wp_region_noPanic ?_
 refine wp_region_T (n := 13) (S := RS10 bx x) (by kernel_rfl) ?_
 have Xwa0 := hid (show Ext w w.drew from (Ext.refl w).drew)
 obtain ⟨wa0, hwa0⟩ : ∃ W, W = w.drew := ⟨_, rfl⟩
 rw [← hwa0] at Xwa0 ⊢
 clear hwa0
 have hS := HSX.out wa0 Xwa0.out
 refine wpAnyT_take (i := 1) (v := .slice (some ⟨g, 0, none⟩) n c) rfl (by kernel_rfl) (by kernel_rfl) (by kernel_rfl) (fun _ _ _ h => h) hS (Or.inl ⟨by rfl, ?_⟩) ?_
 ·intro w1 hSw
  unfold RS10 at hSw
  obtain ⟨q1, q2, q3, q4⟩ := hSw
  go_simp
 simp only [Act.put, List.setIfInBounds_toArray, List.set_cons_zero, List.set_cons_succ]
 refine wpAnyT_take (i := 2) (v := .int .i64 p) rfl (by kernel_rfl) (by kernel_rfl) (by kernel_rfl) (fun _ _ _ h => h) hS (Or.inl ⟨by rfl, ?_⟩) ?_
 ·intro w1 hSw
  unfold RS10 at hSw
  obtain ⟨q1, q2, q3, q4⟩ := hSw
  go_simp
 simp only [Act.put, List.setIfInBounds_toArray, List.set_cons_zero, List.set_cons_succ]
 refine wpAnyT_take (i := 3) (v := .slice (some ⟨g, 0, none⟩) p c) rfl (by kernel_rfl) (by kernel_rfl) (by kernel_rfl) (fun _ _ _ h => h) hS (Or.inl ⟨by rfl, ?_⟩) ?_
 ·intro w1 hSw
  unfold RS10 at hSw
  obtain ⟨q1, q2, q3, q4⟩ := hSw
  go_simp
 simp only [Act.put, List.setIfInBounds_toArray, List.set_cons_zero, List.set_cons_succ]
 refine wpAnyT_take (i := 5) (v := .agg #[.int .i64 x.i, .int .i64 x.n, .string x.s, .string x.t]) rfl (by kernel_rfl) (by kernel_rfl) (by kernel_rfl) (fun _ _ _ h => h) hS (Or.inl ⟨by rfl, ?_⟩) ?_
 ·intro w1 hSw
  unfold RS10 at hSw
  obtain ⟨q1, q2, q3, q4⟩ := hSw
  go_simp
 simp only [Act.put, List.setIfInBounds_toArray, List.set_cons_zero, List.set_cons_succ]
 refine wpAnyT_take (i := 8) (v := .slice (some ⟨g, 0, none⟩) n c) rfl (by kernel_rfl) (by kernel_rfl) (by kernel_rfl) (fun _ _ _ h => h) hS (Or.inl ⟨by rfl, ?_⟩) ?_
 ·intro w1 hSw
  unfold RS10 at hSw
  obtain ⟨q1, q2, q3, q4⟩ := hSw
  go_simp
 simp only [Act.put, List.setIfInBounds_toArray, List.set_cons_zero, List.set_cons_succ]
 refine wpAnyT_take (i := 9) (v := .int .i64 p) rfl (by kernel_rfl) (by kernel_rfl) (by kernel_rfl) (fun _ _ _ h => h) hS (Or.inl ⟨by rfl, ?_⟩) ?_
 ·intro w1 hSw
  unfold RS10 at hSw
  obtain ⟨q1, q2, q3, q4⟩ := hSw
  go_simp
 simp only [Act.put, List.setIfInBounds_toArray, List.set_cons_zero, List.set_cons_succ]
 refine wpAnyT_take (i := 10) (v := .slice (some ⟨g, oh, none⟩) (n - p) (c - p)) rfl (by kernel_rfl) (by kernel_rfl) (by kernel_rfl) (fun _ _ _ h => h) hS (Or.inl ⟨by rfl, ?_⟩) ?_
 ·intro w1 hSw
  unfold RS10 at hSw
  obtain ⟨q1, q2, q3, q4⟩ := hSw
  go_simp
 simp only [Act.put, List.setIfInBounds_toArray, List.set_cons_zero, List.set_cons_succ]
 refine wpAnyT_all (rs := [0, 6]) (by kernel_rfl) (by simp) ?_
 intro i_ hi_
 rw [List.mem_cons, List.mem_singleton] at hi_
 rcases hi_ with rfl | rfl
 ·refine wpOp_step15 rfl (by rfl) fun K' hK' => ?_
  go_simp
  obtain ⟨wa1, hwa1⟩ : ∃ W, W = wa0.alloc (.cells #[] 38) := ⟨_, rfl⟩
  (try rw [World.drew_alloc] at *)
  rw [← hwa1]
  have Xwa1 := hid (show Ext w wa1 from by rw [hwa1]; exact Xwa0.out.alloc _)
  have Owa1 := hid (show wa1.ownsRow w.heap.size 38 4 (.slice (some ⟨wa0.heap.size, 0, none⟩) 0 0) 0 [] from by rw [hwa1]; exact World.ownsRow_made wa0 #[] 0 (Ext.size Xwa0.out) (Nat.zero_le _) rfl)
  clear hwa1
  refine hK'.out _ _ ⟨fun _ => HSX.out wa1 Xwa1.out, ?_⟩
  clear hK'
  try simp only [Act.put, List.setIfInBounds_toArray, List.set_cons_zero, List.set_cons_succ]
  refine wpAnyT_all (rs := [4, 6]) (by kernel_rfl) (by simp) ?_
  intro i_ hi_
  rw [List.mem_cons, List.mem_singleton] at hi_
  rcases hi_ with rfl | rfl
  ·refine wpOp_step15 rfl (by rfl) fun K' hK' => ?_
   refine wp_appN wa1 _ _ 35 rfl w.heap.size 38 i0 _ 4 48 Tryz.underlying35 hi hz0 hz1 hz2 rfl (by decide) _ _ _ rfl Owa1.out (some ⟨g, 0, none⟩) p c (xs.take (p * 4)) rfl ((HSL.out.takeK p hp).ext Xwa1.out) (fun u hu => H1.out u (List.mem_of_mem_take hu)) (by unfold maxLen; omega) (by omega) (Ext.size Xwa1.out) ?_
   intro v68 wa2 ho' hg'
   have Xwa2 := hid (Xwa1.out.grown hg' (own_lt Owa1.out))
   have Owa2 := hid ho'
   refine hK'.out _ _ ⟨fun _ => HSX.out wa2 Xwa2.out, ?_⟩
   clear ho' hg'
   clear hK'
   try simp only [Act.put, List.setIfInBounds_toArray, List.set_cons_zero, List.set_cons_succ]
   refine wpAnyT_all (rs := [6]) (by kernel_rfl) (by simp) ?_
   intro i_ hi_
   rw [List.mem_singleton] at hi_
   subst hi_
   refine wpOp_step15 rfl (by rfl) fun K' hK' => ?_
   go_simp
   obtain ⟨wa3, hwa3⟩ : ∃ W, W = wa2.alloc (.cells #[.int .i64 x.i, .int .i64 x.n, .string x.s, .string x.t] 38) := ⟨_, rfl⟩
   (try rw [World.drew_alloc] at *)
   rw [← hwa3]
   have Xwa3 := hid (show Ext w wa3 from by rw [hwa3]; exact Xwa2.out.alloc _)
   obtain ⟨gl, hgl⟩ : ∃ gl, gl = wa2.heap.size := ⟨_, rfl⟩
   have Lwa3 := hid (show SlN wa3 (some ⟨gl, 0, none⟩) 1 4 (mtC x) from by rw [hwa3, hgl]; exact slN_lit wa2 x)
   rw [← hgl]
   have NE := hid (show some gl ≠ (v68 : Value).ownBlock from fun e => by have := Owa2.out.lt gl e.symm; omega)
   have GL := hid (show gl < wa3.heap.size from by rw [hwa3, hgl]; simp)
   clear hgl
   have Owa3 := hid (show wa3.ownsRow w.heap.size 38 4 v68 (0 + p) ([] ++ (xs.take (p * 4))) from by rw [hwa3]; exact own_ext Owa2.out ((Ext.refl _).alloc _))
   clear hwa3
   refine hK'.out _ _ ⟨fun _ => HSX.out wa3 Xwa3.out, ?_⟩
   clear hK'
   try simp only [Act.put, List.setIfInBounds_toArray, List.set_cons_zero, List.set_cons_succ]
   refine wpAnyT_all (rs := [7]) (by kernel_rfl) (by simp) ?_
   intro i_ hi_
   rw [List.mem_singleton] at hi_
   subst hi_
   refine wpOp_step15 rfl (by rfl) fun K' hK' => ?_
   refine wp_appN wa3 _ _ 35 rfl w.heap.size 38 i0 _ 4 48 Tryz.underlying35 hi hz0 hz1 hz2 rfl (by decide) _ _ _ rfl Owa3.out (some ⟨gl, 0, none⟩) 1 1 (mtC x) rfl (Lwa3.out) (mt_one x) (by unfold maxLen; omega) (by omega) (Ext.size Xwa3.out) ?_
   intro v71 wa4 ho' hg'
   have Xwa4 := hid (Xwa3.out.grown hg' (own_lt Owa3.out))
   have Owa4 := hid ho'
   refine hK'.out _ _ ⟨fun _ => HSX.out wa4 Xwa4.out, ?_⟩
   clear ho' hg'
   clear hK'
   try simp only [Act.put, List.setIfInBounds_toArray, List.set_cons_zero, List.set_cons_succ]
   refine wpAnyT_all (rs := [11]) (by kernel_rfl) (by simp) ?_
   intro i_ hi_
   rw [List.mem_singleton] at hi_
   subst hi_
   refine wpOp_step15 rfl (by rfl) fun K' hK' => ?_
   refine wp_appN wa4 _ _ 35 rfl w.heap.size 38 i0 _ 4 48 Tryz.underlying35 hi hz0 hz1 hz2 rfl (by decide) _ _ _ rfl Owa4.out (some ⟨g, oh, none⟩) (n - p) (c - p) (xs.drop (p * 4)) rfl (HSH.out.ext Xwa4.out) (fun u hu => H1.out u (List.mem_of_mem_drop hu)) (by unfold maxLen; omega) (by omega) (Ext.size Xwa4.out) ?_
   intro v75 wa5 ho' hg'
   have Xwa5 := hid (Xwa4.out.grown hg' (own_lt Owa4.out))
   have Owa5 := hid ho'
   refine hK'.out _ _ ⟨fun _ => HSX.out wa5 Xwa5.out, ?_⟩
   clear ho' hg'
   clear hK'
   try simp only [Act.put, List.setIfInBounds_toArray, List.set_cons_zero, List.set_cons_succ]
   refine wpAnyT_all (rs := [12]) (by kernel_rfl) (by simp) ?_
   intro i_ hi_
   rw [List.mem_singleton] at hi_
   subst hi_
   refine wpOp_step15 rfl (by rfl) fun K' hK' => ?_
   go_simp
   refine hK'.out _ _ ⟨fun _ => HSX.out wa5 Xwa5.out, ?_⟩
   clear hK'
   try simp only [Act.put, List.setIfInBounds_toArray, List.set_cons_zero, List.set_cons_succ]
   refine ⟨by kernel_rfl, ?_⟩
   show Q _ _ _
   exact HQ.out _ _ _ _ _ _ _ _ _ _ _ _ _ wa5 (by have h := Owa5.out; rw [show (((0 + p) + 1) + (n - p)) = n + 1 from by omega] at h; simpa using h) Xwa5.out
  ·refine wpOp_step15 rfl (by rfl) fun K' hK' => ?_
   go_simp
   obtain ⟨wa2, hwa2⟩ : ∃ W, W = wa1.alloc (.cells #[.int .i64 x.i, .int .i64 x.n, .string x.s, .string x.t] 38) := ⟨_, rfl⟩
   (try rw [World.drew_alloc] at *)
   rw [← hwa2]
   have Xwa2 := hid (show Ext w wa2 from by rw [hwa2]; exact Xwa1.out.alloc _)
   obtain ⟨gl, hgl⟩ : ∃ gl, gl = wa1.heap.size := ⟨_, rfl⟩
   have Lwa2 := hid (show SlN wa2 (some ⟨gl, 0, none⟩) 1 4 (mtC x) from by rw [hwa2, hgl]; exact slN_lit wa1 x)
   rw [← hgl]
   have NE := hid (show some gl ≠ ((.slice (some ⟨wa0.heap.size, 0, none⟩) 0 0) : Value).ownBlock from fun e => by have := Owa1.out.lt gl e.symm; omega)
   have GL := hid (show gl < wa2.heap.size from by rw [hwa2, hgl]; simp)
   clear hgl
   have Owa2 := hid (show wa2.ownsRow w.heap.size 38 4 (.slice (some ⟨wa0.heap.size, 0, none⟩) 0 0) 0 [] from by rw [hwa2]; exact own_ext Owa1.out ((Ext.refl _).alloc _))
   clear hwa2
   refine hK'.out _ _ ⟨fun _ => HSX.out wa2 Xwa2.out, ?_⟩
   clear hK'
   try simp only [Act.put, List.setIfInBounds_toArray, List.set_cons_zero, List.set_cons_succ]
   refine wpAnyT_all (rs := [4]) (by kernel_rfl) (by simp) ?_
   intro i_ hi_
   rw [List.mem_singleton] at hi_
   subst hi_
   refine wpOp_step15 rfl (by rfl) fun K' hK' => ?_
   refine wp_appN wa2 _ _ 35 rfl w.heap.size 38 i0 _ 4 48 Tryz.underlying35 hi hz0 hz1 hz2 rfl (by decide) _ _ _ rfl Owa2.out (some ⟨g, 0, none⟩) p c (xs.take (p * 4)) rfl ((HSL.out.takeK p hp).ext Xwa2.out) (fun u hu => H1.out u (List.mem_of_mem_take hu)) (by unfold maxLen; omega) (by omega) (Ext.size Xwa2.out) ?_
   intro v68 wa3 ho' hg'
   have Xwa3 := hid (Xwa2.out.grown hg' (own_lt Owa2.out))
   have Owa3 := hid ho'
   have Lwa3 := hid (lit_grown Lwa2.out hg' NE.out)
   refine hK'.out _ _ ⟨fun _ => HSX.out wa3 Xwa3.out, ?_⟩
   clear ho' hg'
   clear hK'
   try simp only [Act.put, List.setIfInBounds_toArray, List.set_cons_zero, List.set_cons_succ]
   refine wpAnyT_all (rs := [7]) (by kernel_rfl) (by simp) ?_
   intro i_ hi_
   rw [List.mem_singleton] at hi_
   subst hi_
   refine wpOp_step15 rfl (by rfl) fun K' hK' => ?_
   refine wp_appN wa3 _ _ 35 rfl w.heap.size 38 i0 _ 4 48 Tryz.underlying35 hi hz0 hz1 hz2 rfl (by decide) _ _ _ rfl Owa3.out (some ⟨gl, 0, none⟩) 1 1 (mtC x) rfl (Lwa3.out) (mt_one x) (by unfold maxLen; omega) (by omega) (Ext.size Xwa3.out) ?_
   intro v71 wa4 ho' hg'
   have Xwa4 := hid (Xwa3.out.grown hg' (own_lt Owa3.out))
   have Owa4 := hid ho'
   refine hK'.out _ _ ⟨fun _ => HSX.out wa4 Xwa4.out, ?_⟩
   clear ho' hg'
   clear hK'
   try simp only [Act.put, List.setIfInBounds_toArray, List.set_cons_zero, List.set_cons_succ]
   refine wpAnyT_all (rs := [11]) (by kernel_rfl) (by simp) ?_
   intro i_ hi_
   rw [List.mem_singleton] at hi_
   subst hi_
   refine wpOp_step15 rfl (by rfl) fun K' hK' => ?_
   refine wp_appN wa4 _ _ 35 rfl w.heap.size 38 i0 _ 4 48 Tryz.underlying35 hi hz0 hz1 hz2 rfl (by decide) _ _ _ rfl Owa4.out (some ⟨g, oh, none⟩) (n - p) (c - p) (xs.drop (p * 4)) rfl (HSH.out.ext Xwa4.out) (fun u hu => H1.out u (List.mem_of_mem_drop hu)) (by unfold maxLen; omega) (by omega) (Ext.size Xwa4.out) ?_
   intro v75 wa5 ho' hg'
   have Xwa5 := hid (Xwa4.out.grown hg' (own_lt Owa4.out))
   have Owa5 := hid ho'
   refine hK'.out _ _ ⟨fun _ => HSX.out wa5 Xwa5.out, ?_⟩
   clear ho' hg'
   clear hK'
   try simp only [Act.put, List.setIfInBounds_toArray, List.set_cons_zero, List.set_cons_succ]
   refine wpAnyT_all (rs := [12]) (by kernel_rfl) (by simp) ?_
   intro i_ hi_
   rw [List.mem_singleton] at hi_
   subst hi_
   refine wpOp_step15 rfl (by rfl) fun K' hK' => ?_
   go_simp
   refine hK'.out _ _ ⟨fun _ => HSX.out wa5 Xwa5.out, ?_⟩
   clear hK'
   try simp only [Act.put, List.setIfInBounds_toArray, List.set_cons_zero, List.set_cons_succ]
   refine ⟨by kernel_rfl, ?_⟩
   show Q _ _ _
   exact HQ.out _ _ _ _ _ _ _ _ _ _ _ _ _ wa5 (by have h := Owa5.out; rw [show (((0 + p) + 1) + (n - p)) = n + 1 from by omega] at h; simpa using h) Xwa5.out
 ·refine wpOp_step15 rfl (by rfl) fun K' hK' => ?_
  go_simp
  obtain ⟨wa1, hwa1⟩ : ∃ W, W = wa0.alloc (.cells #[.int .i64 x.i, .int .i64 x.n, .string x.s, .string x.t] 38) := ⟨_, rfl⟩
  (try rw [World.drew_alloc] at *)
  rw [← hwa1]
  have Xwa1 := hid (show Ext w wa1 from by rw [hwa1]; exact Xwa0.out.alloc _)
  obtain ⟨gl, hgl⟩ : ∃ gl, gl = wa0.heap.size := ⟨_, rfl⟩
  have Lwa1 := hid (show SlN wa1 (some ⟨gl, 0, none⟩) 1 4 (mtC x) from by rw [hwa1, hgl]; exact slN_lit wa0 x)
  rw [← hgl]
  have GL := hid (show gl < wa1.heap.size from by rw [hwa1, hgl]; simp)
  clear hgl
  clear hwa1
  refine hK'.out _ _ ⟨fun _ => HSX.out wa1 Xwa1.out, ?_⟩
  clear hK'
  try simp only [Act.put, List.setIfInBounds_toArray, List.set_cons_zero, List.set_cons_succ]
  refine wpAnyT_all (rs := [0]) (by kernel_rfl) (by simp) ?_
  intro i_ hi_
  rw [List.mem_singleton] at hi_
  subst hi_
  refine wpOp_step15 rfl (by rfl) fun K' hK' => ?_
  go_simp
  obtain ⟨wa2, hwa2⟩ : ∃ W, W = wa1.alloc (.cells #[] 38) := ⟨_, rfl⟩
  (try rw [World.drew_alloc] at *)
  rw [← hwa2]
  have Xwa2 := hid (show Ext w wa2 from by rw [hwa2]; exact Xwa1.out.alloc _)
  have Owa2 := hid (show wa2.ownsRow w.heap.size 38 4 (.slice (some ⟨wa1.heap.size, 0, none⟩) 0 0) 0 [] from by rw [hwa2]; exact World.ownsRow_made wa1 #[] 0 (Ext.size Xwa1.out) (Nat.zero_le _) rfl)
  have NE := hid (show some gl ≠ (Value.slice (some ⟨wa1.heap.size, 0, none⟩) 0 0).ownBlock from fun e => by have e2 : gl = wa1.heap.size := Option.some.inj e; have := GL.out; omega)
  have Lwa2 := hid (show SlN wa2 (some ⟨gl, 0, none⟩) 1 4 (mtC x) from by rw [hwa2]; exact SlN.ext Lwa1.out ((Ext.refl _).alloc _))
  clear hwa2
  refine hK'.out _ _ ⟨fun _ => HSX.out wa2 Xwa2.out, ?_⟩
  clear hK'
  try simp only [Act.put, List.setIfInBounds_toArray, List.set_cons_zero, List.set_cons_succ]
  refine wpAnyT_all (rs := [4]) (by kernel_rfl) (by simp) ?_
  intro i_ hi_
  rw [List.mem_singleton] at hi_
  subst hi_
  refine wpOp_step15 rfl (by rfl) fun K' hK' => ?_
  refine wp_appN wa2 _ _ 35 rfl w.heap.size 38 i0 _ 4 48 Tryz.underlying35 hi hz0 hz1 hz2 rfl (by decide) _ _ _ rfl Owa2.out (some ⟨g, 0, none⟩) p c (xs.take (p * 4)) rfl ((HSL.out.takeK p hp).ext Xwa2.out) (fun u hu => H1.out u (List.mem_of_mem_take hu)) (by unfold maxLen; omega) (by omega) (Ext.size Xwa2.out) ?_
  intro v68 wa3 ho' hg'
  have Xwa3 := hid (Xwa2.out.grown hg' (own_lt Owa2.out))
  have Owa3 := hid ho'
  have Lwa3 := hid (lit_grown Lwa2.out hg' NE.out)
  refine hK'.out _ _ ⟨fun _ => HSX.out wa3 Xwa3.out, ?_⟩
  clear ho' hg'
  clear hK'
  try simp only [Act.put, List.setIfInBounds_toArray, List.set_cons_zero, List.set_cons_succ]
  refine wpAnyT_all (rs := [7]) (by kernel_rfl) (by simp) ?_
  intro i_ hi_
  rw [List.mem_singleton] at hi_
  subst hi_
  refine wpOp_step15 rfl (by rfl) fun K' hK' => ?_
  refine wp_appN wa3 _ _ 35 rfl w.heap.size 38 i0 _ 4 48 Tryz.underlying35 hi hz0 hz1 hz2 rfl (by decide) _ _ _ rfl Owa3.out (some ⟨gl, 0, none⟩) 1 1 (mtC x) rfl (Lwa3.out) (mt_one x) (by unfold maxLen; omega) (by omega) (Ext.size Xwa3.out) ?_
  intro v71 wa4 ho' hg'
  have Xwa4 := hid (Xwa3.out.grown hg' (own_lt Owa3.out))
  have Owa4 := hid ho'
  refine hK'.out _ _ ⟨fun _ => HSX.out wa4 Xwa4.out, ?_⟩
  clear ho' hg'
  clear hK'
  try simp only [Act.put, List.setIfInBounds_toArray, List.set_cons_zero, List.set_cons_succ]
  refine wpAnyT_all (rs := [11]) (by kernel_rfl) (by simp) ?_
  intro i_ hi_
  rw [List.mem_singleton] at hi_
  subst hi_
  refine wpOp_step15 rfl (by rfl) fun K' hK' => ?_
  refine wp_appN wa4 _ _ 35 rfl w.heap.size 38 i0 _ 4 48 Tryz.underlying35 hi hz0 hz1 hz2 rfl (by decide) _ _ _ rfl Owa4.out (some ⟨g, oh, none⟩) (n - p) (c - p) (xs.drop (p * 4)) rfl (HSH.out.ext Xwa4.out) (fun u hu => H1.out u (List.mem_of_mem_drop hu)) (by unfold maxLen; omega) (by omega) (Ext.size Xwa4.out) ?_
  intro v75 wa5 ho' hg'
  have Xwa5 := hid (Xwa4.out.grown hg' (own_lt Owa4.out))
  have Owa5 := hid ho'
  refine hK'.out _ _ ⟨fun _ => HSX.out wa5 Xwa5.out, ?_⟩
  clear ho' hg'
  clear hK'
  try simp only [Act.put, List.setIfInBounds_toArray, List.set_cons_zero, List.set_cons_succ]
  refine wpAnyT_all (rs := [12]) (by kernel_rfl) (by simp) ?_
  intro i_ hi_
  rw [List.mem_singleton] at hi_
  subst hi_
  refine wpOp_step15 rfl (by rfl) fun K' hK' => ?_
  go_simp
  refine hK'.out _ _ ⟨fun _ => HSX.out wa5 Xwa5.out, ?_⟩
  clear hK'
  try simp only [Act.put, List.setIfInBounds_toArray, List.set_cons_zero, List.set_cons_succ]
  refine ⟨by kernel_rfl, ?_⟩
  show Q _ _ _
  exact HQ.out _ _ _ _ _ _ _ _ _ _ _ _ _ wa5 (by have h := Owa5.out; rw [show (((0 + p) + 1) + (n - p)) = n + 1 from by omega] at h; simpa using h) Xwa5.out
end Go.Proofs.YtiijdojihleggaaGreatDoor
