import Derived.Test.YtiijdojihleggaaGreatDoorQNPH
import Derived.Test.YtiijdojihleggaaGreatDoorQNB1
import Derived.Test.YtiijdojihleggaaGreatDoorQRDecg
set_option maxRecDepth 100000
set_option linter.unusedSimpArgs false
set_option linter.unusedVariables false
open Go.Lib (hid)
namespace Go.Proofs.YtiijdojihleggaaGreatDoor
open Go.RowKit
set_option maxHeartbeats 1000000 in
theorem bldq_used (b : Nat) (w : World) (h0 : w.cell? ⟨b, 0, none⟩ = some (.pointer (some ⟨b, 0, none⟩))) :
 Calls Tryz.prog 180 #[.pointer (some ⟨b, 0, none⟩)] w fun e w' => e = .returned (.tuple #[]) ∧ w' = w := by
 obtain ⟨j, hj, _⟩ := Option.map_eq_some_iff.1 (show (Tryz.prog.info? 147).map (·.size) = some 2 from by kernel_rfl)
 go_enter Tryz.func180, Tryz.ntmps180
 go_wp2
 rw [Lib.run_neq_ptr_same w _ Tryz.underlying144 hj]
 simp only [Result.andThen]
 rw [Oper.upon_value]
 go_wp2
 go_end0
 exact ⟨rfl, rfl⟩
set_option maxHeartbeats 1000000 in
theorem bldq_fresh (b : Nat) (w : World) (h0 : w.cell? ⟨b, 0, none⟩ = some (.pointer none)) (hsh : w.shape? b = some (149, 2)) (hfz : w.frozen? ⟨b, 0, none⟩ = false) :
 Calls Tryz.prog 180 #[.pointer (some ⟨b, 0, none⟩)] w fun e w' => e = .returned (.tuple #[]) ∧ w' = w.setCell ⟨b, 0, none⟩ (.pointer (some ⟨b, 0, none⟩)) := by
 obtain ⟨j, hj, hjs⟩ := Option.map_eq_some_iff.1 (show (Tryz.prog.info? 147).map (·.size) = some 2 from by kernel_rfl)
 go_enter Tryz.func180, Tryz.ntmps180
 go_wp2
 rw [Lib.run_to_unsafe w ⟨b, 0, none⟩ Tryz.underlying144 Tryz.underlying235 hj (by rw [hjs]; decide) hsh (Nat.zero_lt_succ 1)]
 simp only [Result.andThen]
 rw [Oper.upon_value]
 go_wp2
 rw [run_callFunc_extern Tryz.func198 (by kernel_rfl) (by kernel_rfl) (by kernel_rfl) (e := Extern.AbiNoEscape.same) (by kernel_rfl)]
 rw [Lib.run_noEscape]
 simp only [Result.andThen]
 rw [Oper.upon_value]
 go_wp2
 rw [Lib.run_from_unsafe w ⟨b, 0, none⟩ Tryz.underlying235 Tryz.underlying144 hj hsh (by kernel_rfl)]
 simp only [Result.andThen]
 rw [Oper.upon_value]
 go_wp2
 go_end0
 exact ⟨rfl, rfl⟩
abbrev IsPr (B b : Nat) (l : By) (w : World) : Prop := Lib.IsBuilder 149 5 B b (Lib.byteCells l) w
set_option maxHeartbeats 2000000 in
theorem prq_end (B b : Nat) (l : By) (w : World) (h : IsPr B b l w) (hBw : B ≤ w.heap.size) :
 Calls Tryz.prog 88 #[.pointer (some ⟨b, 0, none⟩)] w fun e w' => e = .returned (.string ⟨l.toArray⟩) ∧ Below B w w' := by
 obtain ⟨p, hB, v, hbk, hown, hne⟩ : ∃ p, Lib.BuilderAt 149 5 B b p (Lib.byteCells l) w := by
  rcases h with h | h
  ·exact ⟨_, h⟩
  ·exact ⟨_, h⟩
 rw [Lib.byteCells_length] at hown
 have cd : ∀ x : Value, w.drew.heap[b]? = some (.cells #[p, x] 149 (0, 0)) → w.drew.cell? ⟨b, 1, none⟩ = some x := fun x hx => by rw [Lib.cell_of_heap hx]; rfl
 rcases Nat.eq_zero_or_pos l.length with hl | hl
 ·obtain rfl : l = [] := List.eq_nil_of_length_eq_zero hl
  have hUS : ∀ (W : World) (q : Option Addr), (Builtin.unsafeString_ #[191, 3] 9 #[.pointer q, .int .i64 0]).run Tryz.prog W = .ok (.string ⟨#[]⟩) W := fun W q => Lib.run_unsafeString_none W _ _ _ q
  rcases hown.2 with ⟨rfl, _⟩ | ⟨g, cap, cur, rfl, hbg, hg, _, _, _, _⟩
  ·have c1 := cd _ hbk
   have hSD : ∀ W, (Builtin.unsafeSliceData_ #[145] 191 #[.slice none 0 0]).run Tryz.prog W = .ok (.pointer none) W := fun W => Lib.run_unsafeSliceData_nil _ _ _ _ _
   clear hown hbk cd
   go_enter Tryz.func88, Tryz.ntmps88
   go_wp2
   go_region
   all_goals (go_wp2; go_ret; exact ⟨rfl, Below.drew (Below.refl B w)⟩)
  ·have c1 := cd _ hbk
   by_cases hc0 : cap = 0
   ·subst hc0
    have hSD : (Builtin.unsafeSliceData_ #[145] 191 #[.slice (some ⟨g, 0, none⟩) 0 0]).run Tryz.prog w.drew = .ok (.pointer (some ⟨w.drew.heap.size, 0, none⟩)) (w.drew.alloc (.view ⟨g, 0, none⟩ 5)) := by
     obtain ⟨sh, hsh⟩ : ∃ sh, w.drew.shape? g = some sh := by
      have hg' : w.drew.heap[g]? = some (.cells cur 5 (0, 0)) := hg
      exact ⟨_, by simp [World.shape?, hg']; rfl⟩
     exact Lib.run_unsafeSliceData_zero w.drew _ _ _ Tryz.underlying191 _ _ sh hsh
    have c2 : (w.alloc (.view ⟨g, 0, none⟩ 5)).cell? ⟨b, 1, none⟩ = some (.slice (some ⟨g, 0, none⟩) 0 0) := by
     have hlt : b < w.heap.size := (Array.getElem?_eq_some_iff.1 hbk).1
     have h2 : (w.alloc (.view ⟨g, 0, none⟩ 5)).heap[b]? = some (.cells #[p, .slice (some ⟨g, 0, none⟩) 0 0] 149 (0, 0)) := by
      rw [Lib.alloc_old w _ b hlt]
      exact hbk
     rw [Lib.cell_of_heap h2]; rfl
    clear hown hbk cd hg
    go_enter Tryz.func88, Tryz.ntmps88
    go_wp2
    go_region
    all_goals (go_wp2; go_ret; exact ⟨rfl, (Below.drew (Below.refl B w)).alloc hBw _⟩)
   ·have hSD : ∀ W, (Builtin.unsafeSliceData_ #[145] 191 #[.slice (some ⟨g, 0, none⟩) 0 cap]).run Tryz.prog W = .ok (.pointer (some ⟨g, 0, none⟩)) W := fun W => Lib.run_unsafeSliceData_row W _ _ _ _ _ hc0
    clear hown hbk cd hg hc0
    go_enter Tryz.func88, Tryz.ntmps88
    go_wp2
    go_region
    all_goals (go_wp2; go_ret; exact ⟨rfl, Below.drew (Below.refl B w)⟩)
 ·have h0 : l ≠ [] := fun e => by rw [e] at hl; exact absurd hl (Nat.lt_irrefl 0)
  rcases hown.2 with ⟨_, hz⟩ | ⟨g, cap, cur, rfl, hbg, hg, hnc, hcm, hcs, _⟩
  ·omega
  have c1 := cd _ hbk
  have hSD : ∀ W, (Builtin.unsafeSliceData_ #[145] 191 #[.slice (some ⟨g, 0, none⟩) l.length cap]).run Tryz.prog W = .ok (.pointer (some ⟨g, 0, none⟩)) W := fun W => Lib.run_unsafeSliceData_row W _ _ _ _ _ (by omega)
  have hUS : (Builtin.unsafeString_ #[191, 3] 9 #[.pointer (some ⟨g, 0, none⟩), .int .i64 l.length]).run Tryz.prog w.drew = .ok (.string ⟨l.toArray⟩) (w.drew.freeze ⟨g, 0, none⟩ l.length) := by
   refine Lib.run_unsafeString_row w.drew 191 3 9 5 Tryz.underlying191 (by kernel_rfl) g cur.size (by have hg' : w.drew.heap[g]? = some (.cells cur 5 (0, 0)) := hg; simp [World.shape?, hg']) l h0 (by omega) (by unfold maxLen at hcm; omega) ?_
   intro j x hx
   exact hown.cells (g := g) rfl j (.int .u8 x.toNat) (by simp [Lib.byteCells, hx])
  clear hown hbk cd hg
  go_enter Tryz.func88, Tryz.ntmps88
  go_wp2
  go_region
  all_goals (go_wp2; go_ret; exact ⟨rfl, Lib.below_freeze (Below.drew (Below.refl B w)) (p := ⟨g, 0, none⟩) hbg _⟩)
end Go.Proofs.YtiijdojihleggaaGreatDoor
namespace Go.Proofs.YtiijdojihleggaaGreatDoor
open Go.RowKit
theorem strApp_where {P : Program} (w : World) (base : Nat) (t u ty e : TypeId) (i : TypeInfo) (ht : P.underlying t = some (.slice e)) (hu : P.underlying u = some .string) (hi : P.info? e = some i) (hz : i.zero = some (.int .u8 0))
 (hsize : i.size = 1) (hby : i.bytes = 1) (v : Value) (n : Nat) (xs : List Value) (hown : w.ownsRow base e 1 v n xs) (s : ByteArray) (hs : n + s.size ≤ 1000000000)
 {v' : Value} {w' : World} (hr : (Builtin.append_ #[t, u] ty #[v, .string s]).run P w = .ok v' w') : v'.ownBlock = v.ownBlock ∨ ∀ b, v'.ownBlock = some b → w.heap.size ≤ b := by
 have hlen := hown.1
 rcases hown.2 with ⟨rfl, rfl⟩ | ⟨g, cap, cur, rfl, hb, hg, hn, hm, hcs, htk⟩
 ·have hx0 : xs = [] := List.eq_nil_of_length_eq_zero (by simpa using hlen)
  subst hx0
  obtain ⟨v1, w1, hr1, ho1, _, _⟩ := Lib.run_append_own_string (P := P) w w.heap.size t u ty e i ht hu hi hz hsize hby _ 0 [] (World.ownsRow_nil w w.heap.size e 1) s (by unfold maxLen; omega) (by omega) (Nat.le_refl _)
  rw [hr] at hr1
  injection hr1 with e1 e2
  subst e1; subst e2
  exact .inr fun b hb => (ho1.lt b hb).1
 ·by_cases hroom : n + s.size ≤ cap
  ·have hr1 := Lib.run_append_room_string (P := P) w t u ty e i ht hu hi hsize g n cap cur hg s hroom (by omega)
   rw [hr] at hr1
   injection hr1 with e1 e2
   subst e1
   exact .inl rfl
  ·have hfit : Builtin.nextslicecap (n + s.size) cap * i.bytes ≤ 281474976710656 := growslice_fits (by omega) (by rw [hby]; omega)
   have hr1 := Lib.run_append_grow_string (P := P) w t u ty e i _ ht hu hi hz ⟨g, 0, none⟩ n cap xs (by rw [hsize]; simpa using hlen) (fun j x hx => hown.cells rfl j x hx) s (by omega) (by omega) hfit
   rw [hr] at hr1
   injection hr1 with e1 e2
   subst e1
   exact .inr fun b hb => by
    have hbe : w.heap.size = b := by simpa [Value.ownBlock] using hb
    omega
theorem wpList_appStr {P : Program} (w : World) {ops : Array Oper} {rest : List Oper} {o : Oper} {a : Act} {Q : Exit → Act → World → Prop} (hgd : o.guard = none) (sl x : Operand) (t u : TypeId)
 (ho : o.op = .call { callee := .builtin .append, args := #[sl, x], argTypes := #[t, u] })
 (base : Nat) (e : TypeId) (i : TypeInfo) (ht : P.underlying t = some (.slice e)) (hu : P.underlying u = some .string) (hi : P.info? e = some i) (hz : i.zero = some (.int .u8 0))
 (hsize : i.size = 1) (hby : i.bytes = 1)
 (v : Value) (n : Nat) (xs : List Value) (hs : a.eval sl = v) (hown : w.ownsRow base e 1 v n xs) (s : ByteArray) (hx : a.eval x = .string s)
 (hl : n + s.size ≤ 1000000000) (hbase : base ≤ w.heap.size)
 (h : ∀ v' w', w'.ownsRow base e 1 v' (n + s.size) (xs ++ Lib.strCells s) → w.grownBy w' v.ownBlock → (v'.ownBlock = v.ownBlock ∨ ∀ b, v'.ownBlock = some b → w.heap.size ≤ b) → wpList P ops Q rest (a.put o.dst v') w') : wpList P ops Q (o :: rest) a w := by
 refine wpList_plain hgd fun K hK => ?_
 obtain ⟨v', w', hr, h2, h3, h4⟩ := Lib.run_append_own_string (P := P) w base t u o.type e i ht hu hi hz hsize hby v n xs hown s (by unfold maxLen; omega) (by omega) hbase
 have h5 := strApp_where (P := P) w base t u o.type e i ht hu hi hz hsize hby v n xs hown s hl hr
 unfold Oper.wp execOp
 simp only [ho, resolve, invoke, builtin, Sem.run_bind, Sem.run_pure, Result.andThen_ok, List.map_toArray, List.map_cons, List.map_nil, hs, hx, hr]
 exact hK _ _ (h v' w' h2 h3 h5)
def PrO (b : Nat) (g : Option Nat) (l : By) (w : World) : Prop := ∃ p v, w.heap[b]? = some (.cells #[p, v] 149 (0, 0)) ∧ (p = .pointer none ∨ p = .pointer (some ⟨b, 0, none⟩)) ∧ w.ownsRow 0 5 1 v l.length (Lib.byteCells l) ∧ v.ownBlock = g ∧ g ≠ some b
abbrev prB (b : Nat) (g : Option Nat) : Nat → Prop := fun j => j = b ∨ some j = g
def PrS (b : Nat) (g0 : Option Nat) (w0 : World) (l : By) (w : World) : Prop := Exc (prB b g0) w0 w ∧ ∃ g, PrO b g l w ∧ (g = g0 ∨ ∀ k, g = some k → w0.heap.size ≤ k)
theorem PrO.lt {b : Nat} {g : Option Nat} {l : By} {w : World} (h : PrO b g l w) : b < w.heap.size := by
 obtain ⟨p, v, hb, _⟩ := h
 exact (Array.getElem?_eq_some_iff.1 hb).1
theorem PrO.refl {b : Nat} {g : Option Nat} {l : By} {w : World} (h : PrO b g l w) : PrS b g w l w := ⟨Exc.refl _ _, g, h, .inl rfl⟩
theorem PrS.step {b : Nat} {g0 g : Option Nat} {w0 w w' : World} {l' : By} (h1 : Exc (prB b g0) w0 w) (h3 : g = g0 ∨ ∀ k, g = some k → w0.heap.size ≤ k) (k : PrS b g w l' w') : PrS b g0 w0 l' w' := by
 obtain ⟨k1, g', k2, k3⟩ := k
 refine ⟨⟨k1.os.trans h1.os, k1.tape.trans h1.tape, k1.output.trans h1.output, Nat.le_trans h1.size k1.size, fun j hj hS => ?_⟩, g', k2, ?_⟩
 ·refine (k1.block j (Nat.lt_of_lt_of_le hj h1.size) fun hq => ?_).trans (h1.block j hj hS)
  rcases hq with hq | hq
  ·exact hS (.inl hq)
  ·rcases h3 with h3 | h3
   ·exact hS (.inr (by rw [hq, h3]))
   ·exact absurd (h3 j hq.symm) (by omega)
 ·rcases k3 with k3 | k3
  ·rcases h3 with h3 | h3
   ·exact .inl (k3.trans h3)
   ·exact .inr fun j hj => h3 j (by rw [← k3]; exact hj)
  ·exact .inr fun j hj => Nat.le_trans h1.size (k3 j hj)
theorem PrO.ext {b : Nat} {g : Option Nat} {l : By} {w w' : World} (h : PrO b g l w) (hx : Ext w w') : PrO b g l w' := by
 obtain ⟨p, v, hb, hp, ho, hg, hn⟩ := h
 exact ⟨p, v, (Below.block hx b (Array.getElem?_eq_some_iff.1 hb).1).trans hb, hp, own_ext ho hx, hg, hn⟩
theorem PrS.ext {b : Nat} {g0 : Option Nat} {w0 w w' : World} {l : By} (h : PrS b g0 w0 l w) (hx : Ext w w') : PrS b g0 w0 l w' := by
 obtain ⟨h1, g, h2, h3⟩ := h
 exact ⟨h1.trans (Exc.of_ext hx), g, h2.ext hx, h3⟩
theorem PrO.used {b : Nat} {g : Option Nat} {l : By} {w : World} (h : PrO b g l w) : ∃ v, (w.setCell ⟨b, 0, none⟩ (.pointer (some ⟨b, 0, none⟩))).heap[b]? = some (.cells #[.pointer (some ⟨b, 0, none⟩), v] 149 (0, 0)) ∧
 (w.setCell ⟨b, 0, none⟩ (.pointer (some ⟨b, 0, none⟩))).ownsRow 0 5 1 v l.length (Lib.byteCells l) ∧ v.ownBlock = g := by
 obtain ⟨p, v, hb, _, ho, hg, hn⟩ := h
 refine ⟨v, ?_, ?_, hg⟩
 ·simp [World.setCell, Array.getElem?_modify, hb]
 ·exact ho.kept (row := some b) ⟨rfl, rfl, rfl, by simp [World.setCell], fun k _ hk => Below.heap_setCell _ _ _ _ (fun e => hk (by simp [e]))⟩ (.inr (by rw [hg]; exact hn))
theorem pr_check {b : Nat} {g : Option Nat} {l : By} {w : World} (h : PrO b g l w) :
 Calls Tryz.prog 180 #[.pointer (some ⟨b, 0, none⟩)] w fun e w' => e = .returned (.tuple #[]) ∧
  (∃ v, w'.heap[b]? = some (.cells #[.pointer (some ⟨b, 0, none⟩), v] 149 (0, 0)) ∧ w'.ownsRow 0 5 1 v l.length (Lib.byteCells l) ∧ v.ownBlock = g) ∧ Exc (prB b g) w w' := by
 have h0 := h
 obtain ⟨p, v, hb, hp, ho, hg, hn⟩ := h
 rcases hp with rfl | rfl
 ·refine (bldq_fresh b w (by rw [Lib.cell_of_heap hb]; rfl) (by simp [World.shape?, hb]) (Lib.frozen_of_heap hb 0)).mono ?_
  rintro e w' ⟨rfl, rfl⟩
  exact ⟨rfl, h0.used, Exc.setCell (p := ⟨b, 0, none⟩) (.inl rfl) _⟩
 ·refine (bldq_used b w (by rw [Lib.cell_of_heap hb]; rfl)).mono ?_
  rintro e w' ⟨rfl, rfl⟩
  exact ⟨rfl, ⟨v, hb, ho, hg⟩, Exc.refl _ _⟩
set_option maxHeartbeats 2000000 in
theorem pr_str {b : Nat} {g : Option Nat} {l : By} (s : By) {w : World} (h : PrO b g l w) (hlen : l.length + s.length ≤ 1000000000) :
 Calls Tryz.prog 191 #[.pointer (some ⟨b, 0, none⟩), .string ⟨s.toArray⟩] w fun e w' => e = .returned (.tuple #[.int .i64 s.length, .nilIface]) ∧ PrS b g w (l ++ s) w' := by
 obtain ⟨i0, hi, hz0, hz1, hz2⟩ := info_parts (show (Tryz.prog.info? 5).map (fun i => (i.zero, i.size, i.bytes)) = some (some (.int .u8 0), 1, 1) from by kernel_rfl)
 have HK := hid (pr_check h)
 have HN := hid (show g ≠ some b from by obtain ⟨_, _, _, _, _, _, hn⟩ := h; exact hn)
 have HLT := hid h.lt
 clear h
 go_enter Tryz.func191, Tryz.ntmps191
 go_wp2_with fail
 refine HK.out.mono ?_
 rintro e w1 ⟨rfl, ⟨v, hbk, hown, hg⟩, hx1⟩
 have HGV := hid hg
 clear hg
 have hlt : b < w1.heap.size := Nat.lt_of_lt_of_le HLT.out hx1.size
 have c0 : w1.cell? ⟨b, 0, none⟩ = some (.pointer (some ⟨b, 0, none⟩)) := by rw [Lib.cell_of_heap hbk]; rfl
 have c1 : w1.cell? ⟨b, 1, none⟩ = some v := by rw [Lib.cell_of_heap hbk]; rfl
 go_wp2_with (at_builtin; refine wpList_appStr _ rfl _ _ 145 9 rfl 0 5 i0 Tryz.underlying145 Tryz.underlying9 hi hz0 hz1 hz2 _ _ _ rfl hown ⟨s.toArray⟩ rfl ?c4 (Nat.zero_le _) ?_)
 case c4 => show (l.length + s.length) ≤ _; omega
 intro v' w2 hown' hgrow hwh
 have hg := HGV.out
 have hown2 : w2.ownsRow 0 5 1 v' (l ++ s).length (Lib.byteCells (l ++ s)) := by rw [List.length_append, Lib.byteCells_append]; exact hown'
 have hb2 : w2.heap[b]? = some (.cells #[.pointer (some ⟨b, 0, none⟩), v] 149 (0, 0)) := by
  rw [hgrow.block b hlt (fun e => HN.out (by rw [← hg]; exact e.symm))]
  exact hbk
 have d0 : w2.cell? ⟨b, 0, none⟩ = some (.pointer (some ⟨b, 0, none⟩)) := by rw [Lib.cell_of_heap hb2]; rfl
 have d1 : w2.cell? ⟨b, 1, none⟩ = some v := by rw [Lib.cell_of_heap hb2]; rfl
 have f1 : w2.frozen? ⟨b, 1, none⟩ = false := Lib.frozen_of_heap hb2 1
 have hob : v'.ownBlock ≠ some b := by
  rcases hwh with h | h
  ·rw [h, hg]; exact HN.out
  ·intro e
   have := h b e
   omega
 have hxg : Exc (prB b g) w1 w2 := ⟨hgrow.os, hgrow.tape, hgrow.output, hgrow.size, fun k hk hS => hgrow.block k hk (fun e => hS (.inr (by rw [e, hg])))⟩
 have HB := hid (show PrS b g w (l ++ s) (w2.setCell ⟨b, 1, none⟩ v') from by
  refine ⟨(hx1.trans hxg).trans (Exc.setCell (p := ⟨b, 1, none⟩) (.inl rfl) v'), v'.ownBlock, ⟨.pointer (some ⟨b, 0, none⟩), v', ?_, .inr rfl, ?_, rfl, hob⟩, ?_⟩
  ·simp [World.setCell, Array.getElem?_modify, hb2]
  ·exact hown2.kept (row := some b) ⟨rfl, rfl, rfl, by simp [World.setCell], fun k _ hk => Below.heap_setCell _ _ _ _ (fun e => hk (by simp [e]))⟩ (.inr hob)
  ·rcases hwh with h | h
   ·exact .inl (by rw [h, hg])
   ·exact .inr fun k hk => Nat.le_trans hx1.size (h k hk))
 obtain ⟨A, n, c, rfl⟩ : ∃ A n c, v' = .slice A n c := by
  rcases hown2.2 with ⟨hv, _⟩ | ⟨g, cap, cur, hv, _⟩
  ·exact ⟨_, _, _, hv⟩
  ·exact ⟨_, _, _, hv⟩
 clear hown' hgrow hown hb2 hbk HK hown2 hwh hob hxg hx1 hg
 go_wp2
 go_ret2
 exact ⟨rfl, HB.out⟩
theorem PrO.isPr {B b : Nat} {g : Option Nat} {l : By} {w : World} (h : PrO b g l w) (hB : B ≤ b) (hg : ∀ k, g = some k → B ≤ k) : IsPr B b l w := by
 obtain ⟨p, v, hb, hp, ho, hv, hn⟩ := h
 have ho2 : w.ownsRow B 5 1 v (Lib.byteCells l).length (Lib.byteCells l) := by
  rw [Lib.byteCells_length]
  obtain ⟨h1, h2⟩ := ho
  refine ⟨h1, ?_⟩
  rcases h2 with h2 | ⟨k, cap, cur, e, _, r⟩
  ·exact .inl h2
  ·refine .inr ⟨k, cap, cur, e, hg k (by rw [← hv, e]; rfl), r⟩
 have hbl : Lib.BuilderAt 149 5 B b p (Lib.byteCells l) w := ⟨hB, v, hb, ho2, by rw [hv]; exact hn⟩
 rcases hp with rfl | rfl
 ·exact .inl hbl
 ·exact .inr hbl
theorem PrO.new (w : World) : PrO w.heap.size none [] (w.alloc (.cells #[.pointer none, .slice none 0 0] 149)) :=
 ⟨_, _, heap_alloc_new w _, .inl rfl, World.ownsRow_nil _ _ _ _, rfl, fun h => by cases h⟩
def joinB : List By → By
 | [] => []
 | s :: r => s ++ joinB r
def AdI (b : Nat) (g : Option Nat) (w : World) (R : By) (ss : List By) (i : Value) (wr : World) : Prop := ∃ (k : Nat) (l : By), k ≤ ss.length ∧ i = .int .i64 k ∧ l ++ joinB (ss.drop k) = R ∧ PrS b g w l wr
set_option maxHeartbeats 2000000 in
theorem pr_add {b : Nat} {g : Option Nat} {l : By} {ss : List By} {A : Option Addr} {c : Nat} {w : World} (h : PrO b g l w) (hs : SlN w A ss.length 1 (strC ss)) (hA : ∀ ad, A = some ad → ad.block ≠ b ∧ g ≠ some ad.block)
 (hsl : ss.length ≤ 1000) (hlen : (l ++ joinB ss).length ≤ 1000000000) :
 Calls Tryz.prog 168 #[.pointer (some ⟨b, 0, none⟩), .slice A ss.length c] w fun e w' => e = .returned (.tuple #[]) ∧ PrS b g w (l ++ joinB ss) w' := by
 obtain ⟨R, hR⟩ : ∃ R, R = l ++ joinB ss := ⟨_, rfl⟩
 rw [← hR] at hlen ⊢
 have HLT := hid h.lt
 have H0 := hid (show AdI b g w R ss (.int .i64 0) w from ⟨0, l, Nat.zero_le _, rfl, hR.symm, h.refl⟩)
 have HS := hid hs
 have HA := hid hA
 have HLEN := hid hlen
 clear h hs hA hlen hR
 go_enter Tryz.func168, Tryz.ntmps168
 go_wp2_with fail
 go_loopw [8] (AdI b g w R ss) (fun i _ => ss.length - (intOf i).toNat)
 case atStart => exact H0.out
 case round =>
  obtain ⟨k, l, hk, rfl, hr, hp⟩ := hrel
  have HP := hid hp
  by_cases hkl : k < ss.length
  rotate_left
  ·have hkI : ¬ (k : Int) < (ss.length : Int) := by omega
   rw [List.drop_eq_nil_of_le (by omega), joinB, List.append_nil] at hr
   subst hr
   clear hp
   go_wp2
   go_end0
   exact ⟨rfl, HP.out⟩
  have hkI : (k : Int) < (ss.length : Int) := by omega
  have hx : ss.drop k = ss[k] :: ss.drop (k + 1) := List.drop_eq_getElem_cons hkl
  obtain ⟨x, hxk⟩ : ∃ x, x = ss[k] := ⟨_, rfl⟩
  have hu : (strC ss)[k]? = some (.string ⟨x.toArray⟩) := by unfold strC; rw [List.getElem?_map, List.getElem?_eq_getElem hkl, hxk]; rfl
  rw [hx, ← hxk, joinB] at hr
  obtain ⟨ba, oa, rfl, hb, hc0⟩ := HS.out.2 k _ hu
  have hc := (Exc.cell (p := ⟨ba, oa + k, none⟩) hp.1 hb (fun q => q.elim (fun q => (HA.out _ rfl).1 q) (fun q => (HA.out _ rfl).2 q.symm))).trans hc0
  obtain ⟨hxe, g1, hp1, hg1⟩ := hp
  have HE := hid hxe
  have HG1 := hid hg1
  have hlx : l.length + x.length ≤ 1000000000 := by
   have h := congrArg List.length hr
   simp only [List.length_append] at h
   have := HLEN.out
   omega
  have KW := hid (pr_str x hp1 hlx)
  have HP1 := hid hp1
  have HR := hid (show (l ++ x) ++ joinB (ss.drop (k + 1)) = R from by rw [List.append_assoc]; exact hr)
  clear hp1 hu hxk hx hr hc0 hlx hxe hg1
  go_wp2_with fail
  refine KW.out.mono ?_
  rintro e w2 ⟨rfl, hp2⟩
  have HP2 := hid (PrS.step HE.out HG1.out hp2)
  clear hp2 KW
  go_wp2
  exact ⟨⟨k + 1, l ++ x, hkl, by go_num, HR.out, HP2.out⟩, by simp [intOf]; omega⟩
end Go.Proofs.YtiijdojihleggaaGreatDoor
