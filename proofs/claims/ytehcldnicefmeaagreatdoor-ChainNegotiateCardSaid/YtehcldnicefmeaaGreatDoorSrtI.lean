import Derived.Test.YtehcldnicefmeaaGreatDoorNX7
import Derived.Test.YtehcldnicefmeaaGreatDoorNX8
import Derived.Test.YtehcldnicefmeaaGreatDoorSrtS
import Derived.Test.YtehcldnicefmeaaGreatDoorNX2
import Derived.Lib.OwnBridge
namespace Go.Proofs.YtehcldnicefmeaaGreatDoor
open Go.RowKit Go.Sort Go.Shelf
set_option linter.unusedSimpArgs false
set_option linter.unusedVariables false

/-! The library's sort at the program's closure. -/
theorem ext_growR {a w : World} (h : Ext a w) (os : Array Obj) : Ext a (grow w os) := by
  have h0 : Below a.heap.size a w := h
  refine ⟨h0.os, h0.tape, h0.output, Nat.le_trans h0.size (by simp [grow]), fun k hk => ?_⟩
  rw [heap_grow_old _ _ (Nat.lt_of_lt_of_le hk h0.size)]
  exact h0.block k hk
theorem ext_sortR {α : Type} [Inhabited α] {enc : α → Value} {a w : World} {g : Nat} (h : Ext a w) (hg : a.heap.size ≤ g) (n : Nat) (d : Array α) (os : Array Obj) : Ext a (sortWorld enc w g 0 n d os) := by
  unfold sortWorld
  exact ext_growR (Lib.below_putRow h hg) os
def encF {n : Nat} (i : Fin n) : Value := .int .i64 (i.val : Int)
theorem encF_idxs (n : Nat) : (idxs n).map encF = (List.range n).map natV := by
  rw [← idxs_val n, List.map_map]
  rfl
def cfF (l : List NearP) (t : TagP) (S : List TagP) (i j : Fin S.length) : Int := cfP l t S i.val j.val
theorem lt_F (l : List NearP) (t : TagP) (S : List TagP) (i j : Fin S.length) : ltOf (cfF l t S) i j = ltB l t (atP S i.val) (atP S j.val) := cf_lt l t S i.val j.val
theorem swoF (l : List NearP) (t : TagP) (S : List TagP) : SWO (ltOf (cfF l t S)) where
  irrefl x := by rw [lt_F]; exact lt_irr _ _ _
  trans x y z h1 h2 := by rw [lt_F] at *; exact lt_tr h1 h2
  ntrans x y z h1 h2 := by rw [lt_F] at *; exact nlt_tr h2 h1
theorem totF {l : List NearP} {t : TagP} {S : List TagP} (hS : apartT S = true) (x y : Fin S.length) (h1 : ltOf (cfF l t S) x y = false) (h2 : ltOf (cfF l t S) y x = false) : x = y := by
  rw [lt_F] at *
  refine Fin.ext (apart_iff.1 hS x.val y.val x.isLt y.isLt ?_)
  refine Classical.byContradiction fun hn => ?_
  rw [lt_of_ne h2 hn] at h1
  cases h1

set_option maxHeartbeats 4000000 in
theorem srt_any (l : List Nr) (L : Option Addr) (ln lc : Nat) (x : TV) (ys : List TV) (B : Option Addr) (m d g1 g2 g3 : Nat) (W0 w : World) (hL : Nrs W0 L ln l) (hln : ln ≤ maxLen) (hl : ∀ x ∈ l, 1 ≤ x.c ∧ x.c ≤ 99)
    (hx : GoodV W0 x) (hY : Tgs W0 B m ys) (hg : ∀ y ∈ ys, GoodV W0 y) (T1 T2 T3 : TypeId) (h1 : AtC T1 W0 g1 #[.slice L ln lc]) (h2 : AtC T2 W0 g2 #[.string x.l, .string x.s, .string x.r, .slice x.A x.n x.c]) (h3 : AtC T3 W0 g3 #[.slice B m d])
    (hap : apartT (ys.map (·.t)) = true) (hm : m ≤ 100000) (hw : Ext W0 w) (v : Value) (hown : w.ownsRow W0.heap.size 3 1 v m ((List.range m).map natV)) :
    Calls Tryz.prog 128 #[v, .func (.func 129) #[] #[.pointer (some ⟨g1, 0, none⟩), .pointer (some ⟨g2, 0, none⟩), .pointer (some ⟨g3, 0, none⟩)]] w
      fun e w' => e = .returned (.tuple #[]) ∧ w'.ownsRow W0.heap.size 3 1 v m ((orderP (l.map nearOf) x.t (ys.map (·.t))).map natV) ∧ Ext W0 w' := by
  have hyl := hY.len
  by_cases hm0 : m = 0
  · subst hm0
    obtain ⟨A, c, rfl, _, _⟩ := own_sl hown
    have hys : ys = [] := List.eq_nil_of_length_eq_zero hyl
    subst hys
    have hS := AnyF.slices_SortFunc_none (P := Tryz.prog) (ρ := Tryz.sf_ren) { Tryz.sf with } A c (.func (.func 129) #[] #[.pointer (some ⟨g1, 0, none⟩), .pointer (some ⟨g2, 0, none⟩), .pointer (some ⟨g3, 0, none⟩)]) w
    change Calls Tryz.prog 128 _ _ _ at hS
    refine hS.mono ?_
    rintro e w' ⟨rfl, rfl⟩
    exact ⟨rfl, by simpa [orderP] using hown, hw⟩
  · have hSl : (ys.map (·.t)).length = m := by simpa using hyl
    have hi : Inhabited (Fin (ys.map (·.t)).length) := ⟨⟨0, by omega⟩⟩
    have hnn : v ≠ .slice none 0 0 := by
      obtain ⟨g, cap, rfl, _⟩ := own_some hown (by omega)
      intro h
      injection h with h
      cases h
    have hown2 : w.ownsRow W0.heap.size 3 1 v m ((idxs (ys.map (·.t)).length).map encF) := by rw [encF_idxs, hSl]; exact hown
    obtain ⟨g, cap, rfl, hbase, hlt, hnc, hcm, hzl, hH⟩ := Lib.holds_of_ownsRow hown2 hnn
    have hcmp : CmpLays1 Tryz.prog 129 #[.pointer (some ⟨g1, 0, none⟩), .pointer (some ⟨g2, 0, none⟩), .pointer (some ⟨g3, 0, none⟩)] encF (cfF (l.map nearOf) x.t (ys.map (·.t))) g 0 (idxs (ys.map (·.t)).length).toArray.size w := by
      intro mm os dk hs i j
      have hE : Ext W0 (sortWorld encF w g 0 mm dk os) := ext_sortR hw hbase mm dk os
      exact calls_grow (clo_any l L ln lc x ys B m d g1 g2 g3 _ (hL.ext hE) hln hl (hx.ext hE) (hY.ext hE) (fun y hy => (hg y hy).ext hE) T1 T2 T3 (h1.ext hE) (h2.ext hE) (h3.ext hE) i.val j.val (by have := i.isLt; omega) (by have := j.isLt; omega))
    have hsz : (idxs (ys.map (·.t)).length).toArray.size = m := by simpa using hzl
    have eg : ∀ args w, (callFunc 129 args).run Tryz.prog w = .ok (.enter 129 args) w := enters_of Tryz.func129 (by kernel_rfl) rfl
    have hS := Any.slices_SortFunc_total Tryz.sf encF (fun _ => rfl) (cfF (l.map nearOf) x.t (ys.map (·.t))) (swoF _ _ _) 129 _ g 0 cap (idxs (ys.map (·.t)).length).toArray w eg hcmp hH hlt (by omega) (totF hap)
    rw [hsz] at hS
    change Calls Tryz.prog 128 _ _ _ at hS
    refine hS.mono ?_
    rintro e w' ⟨rfl, n, os, rfl⟩
    refine ⟨rfl, ?_, ext_sortR hw hbase n _ os⟩
    have hlen : ((idxs (ys.map (·.t)).length).mergeSort fun x' y' => !ltOf (cfF (l.map nearOf) x.t (ys.map (·.t))) y' x').length = m := by rw [List.length_mergeSort]; exact hzl
    have ho := own_ext (Lib.ownsRow_putRow (q := n) hown2 hlen (Nat.le_refl m)) (ext_growR (Ext.refl _) os)
    have hf := fin_order hap (l := l.map nearOf) (t := x.t) (fun x' y' => !ltOf (cfF (l.map nearOf) x.t (ys.map (·.t))) y' x') (fun a b => by rw [lt_F])
    rw [List.take_of_length_le (by omega)] at ho
    unfold sortWorld
    rw [← hf, List.map_map]
    exact ho
end Go.Proofs.YtehcldnicefmeaaGreatDoor
