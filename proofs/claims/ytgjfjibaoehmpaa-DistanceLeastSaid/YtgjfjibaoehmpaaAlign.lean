import Derived.Test.YtgjfjibaoehmpaaProg
import Derived.Test.YtgjfjibaoehmpaaAlignP
import Derived.Test.YtgjfjibaoehmpaaTabP
namespace Go.Proofs.Ytgjfjibaoehmpaa
open Go.RowKit

def eqAt (xs ys : List ByteArray) : Nat → Nat → Bool := fun i k => decide (xs[i]? = ys[k]?)

def AlInv (w1 : World) (F : Nat → Nat → Nat) (E : Nat → Nat → Bool) (n m : Nat) (iv kv bv : Value) (wr : World) : Prop :=
  ∃ (i k fuel : Nat) (xs : List (Int × Int)), i ≤ n ∧ k ≤ m ∧ i + k ≤ fuel ∧ xs.length + i + k ≤ n + m ∧ iv = .int .i64 i ∧ kv = .int .i64 k ∧
    bv = .slice (some ⟨w1.heap.size, 0, none⟩) xs.length (n + m) ∧ wr.ownsRow w1.heap.size 38 2 bv xs.length (stepCells xs) ∧
    xs ++ alignN F E fuel i k = alignN F E (n + m) n m ∧ Ext w1 wr

theorem al_step {w1 wr w' : World} {F : Nat → Nat → Nat} {E : Nat → Nat → Bool} {n m i k fuel : Nat} (i' k' : Nat) {iv kv : Int} {xs : List (Int × Int)} (s : Int × Int) {o : Obj}
    (hiv : iv = (i' : Nat)) (hkv : kv = (k' : Nat)) (hi : i' ≤ n) (hk : k' ≤ m) (hf : i + k ≤ fuel + 1) (hlt : i' + k' < i + k) (hl : xs.length + i + k ≤ n + m) (hx : xs ++ alignN F E (fuel + 1) i k = alignN F E (n + m) n m)
    (ha : alignN F E (fuel + 1) i k = s :: alignN F E fuel i' k') (hw : Ext w1 wr)
    (ho : w'.ownsRow w1.heap.size 38 2 (.slice (some ⟨w1.heap.size, 0, none⟩) (xs.length + 1) (n + m)) (xs.length + 1) (stepCells xs ++ [.int .i64 s.1, .int .i64 s.2]))
    (hg : (wr.alloc o).grownBy w' (some w1.heap.size)) :
    AlInv w1 F E n m (.int .i64 iv) (.int .i64 kv) (.slice (some ⟨w1.heap.size, 0, none⟩) (xs.length + 1) (n + m)) w' := by
  subst hiv
  subst hkv
  refine ⟨i', k', fuel, xs ++ [s], hi, hk, by omega, by simp; omega, rfl, rfl, by simp, ?_, by rw [← hx, ha]; simp, (hw.alloc o).grown hg (fun g h => by injection h with h; omega)⟩
  rw [stepCells_snoc] at ho
  simpa using ho

def PairsAt (w : World) (g len : Nat) (P : Nat → Int × Int) : Prop :=
  ∀ j, j < len → w.cell? ⟨g, j * 2, none⟩ = some (.int .i64 (P j).1) ∧ w.cell? ⟨g, j * 2 + 1, none⟩ = some (.int .i64 (P j).2)

def RevInv (w1 : World) (zs : List (Int × Int)) (xv yv : Value) (wr : World) : Prop :=
  ∃ (x : Nat) (P : Nat → Int × Int), 2 * x ≤ zs.length ∧ xv = .int .i64 x ∧ yv = .int .i64 ((zs.length : Int) - 1 - x) ∧ (∀ j, wr.frozen? ⟨w1.heap.size, j, none⟩ = false) ∧ w1.heap.size < wr.heap.size ∧
    PairsAt wr w1.heap.size zs.length P ∧ (∀ j, j < zs.length → P j = (if j < x ∨ zs.length - 1 - j < x then zs.reverse else zs).getD j (0, 0)) ∧ Ext w1 wr

theorem stepCells_get (l : List (Int × Int)) : ∀ j, j < l.length → (stepCells l)[j * 2]? = some (.int .i64 (l.getD j (0, 0)).1) ∧ (stepCells l)[j * 2 + 1]? = some (.int .i64 (l.getD j (0, 0)).2) := by
  induction l with
  | nil => intro j h; simp at h
  | cons a r ih =>
    intro j h
    rw [← stepCells_cons]
    cases j with
    | zero => simp
    | succ j =>
      have h1 := ih j (by simpa using h)
      rw [show (j + 1) * 2 = j * 2 + 1 + 1 from by omega, show j * 2 + 1 + 1 + 1 = (j * 2 + 1) + 1 + 1 from rfl]
      simpa using h1

theorem rev_start {w1 wr : World} {zs : List (Int × Int)} {cap : Nat} (ho : wr.ownsRow w1.heap.size 38 2 (.slice (some ⟨w1.heap.size, 0, none⟩) zs.length cap) zs.length (stepCells zs)) (hw : Ext w1 wr) :
    RevInv w1 zs (.int .i64 0) (.int .i64 ((zs.length : Int) - 1)) wr := by
  refine ⟨0, fun j => zs.getD j (0, 0), by omega, rfl, by simp, fun j => ho.frozenAt j, (ho.lt _ rfl).2, fun j hj => ?_, fun j hj => by simp, hw⟩
  obtain ⟨h1, h2⟩ := stepCells_get zs j hj
  exact ⟨(ho.cellAt (j * 2) (by omega)).trans h1, (ho.cellAt (j * 2 + 1) (by omega)).trans h2⟩

theorem cell_set (w : World) (g a b : Nat) (v u : Value) (h : w.cell? ⟨g, b, none⟩ = some u) : (w.setCell ⟨g, a, none⟩ v).cell? ⟨g, b, none⟩ = some (if b = a then v else u) := by
  by_cases e : b = a
  · subst e
    rw [if_pos rfl]
    exact World.cell?_setCell_same _ _ _ h
  · rw [if_neg e, World.cell?_setCell_other _ _ _ _ (by intro h; injection h with h1 h2; exact e h2.symm)]
    exact h

theorem four_set (w : World) (g a1 a2 a3 a4 b : Nat) (v1 v2 v3 v4 u : Value) (h : w.cell? ⟨g, b, none⟩ = some u) :
    (((((w.setCell ⟨g, a1, none⟩ v1).setCell ⟨g, a2, none⟩ v2).setCell ⟨g, a3, none⟩ v3).setCell ⟨g, a4, none⟩ v4).drew).cell? ⟨g, b, none⟩ =
      some (if b = a4 then v4 else if b = a3 then v3 else if b = a2 then v2 else if b = a1 then v1 else u) :=
  cell_set _ _ _ _ _ _ (cell_set _ _ _ _ _ _ (cell_set _ _ _ _ _ _ (cell_set _ _ _ _ _ _ h)))

theorem pairs_swap {w : World} {g len x y : Nat} {P : Nat → Int × Int} (hp : PairsAt w g len P) (hxy : x < y) :
    PairsAt (((((w.setCell ⟨g, x * 2, none⟩ (.int .i64 (P y).1)).setCell ⟨g, x * 2 + 1, none⟩ (.int .i64 (P y).2)).setCell ⟨g, y * 2, none⟩ (.int .i64 (P x).1)).setCell ⟨g, y * 2 + 1, none⟩ (.int .i64 (P x).2)).drew)
      g len (fun j => if j = x then P y else if j = y then P x else P j) := by
  intro j hj
  obtain ⟨h1, h2⟩ := hp j hj
  refine ⟨(four_set _ _ _ _ _ _ _ _ _ _ _ _ h1).trans ?_, (four_set _ _ _ _ _ _ _ _ _ _ _ _ h2).trans ?_⟩ <;> dsimp only
  · by_cases e1 : j = x
    · rw [if_neg (by omega), if_neg (by omega), if_neg (by omega), if_pos (by omega), if_pos e1]
    · by_cases e2 : j = y
      · rw [if_neg (by omega), if_pos (by omega), if_neg e1, if_pos e2]
      · rw [if_neg (by omega), if_neg (by omega), if_neg (by omega), if_neg (by omega), if_neg e1, if_neg e2]
  · by_cases e1 : j = x
    · rw [if_neg (by omega), if_neg (by omega), if_pos (by omega), if_pos e1]
    · by_cases e2 : j = y
      · rw [if_pos (by omega), if_neg e1, if_pos e2]
      · rw [if_neg (by omega), if_neg (by omega), if_neg (by omega), if_neg (by omega), if_neg e1, if_neg e2]

theorem rev_step {w1 wr : World} {zs : List (Int × Int)} {x : Nat} {P : Nat → Int × Int} (hlt : 2 * x + 1 < zs.length) (hf : ∀ j, wr.frozen? ⟨w1.heap.size, j, none⟩ = false) (hb : w1.heap.size < wr.heap.size)
    (hp : PairsAt wr w1.heap.size zs.length P) (hx : ∀ j, j < zs.length → P j = (if j < x ∨ zs.length - 1 - j < x then zs.reverse else zs).getD j (0, 0)) (hw : Ext w1 wr) :
    RevInv w1 zs (.int .i64 ((x : Int) + 1)) (.int .i64 ((zs.length : Int) - 1 - x - 1))
      ((((wr.setCell ⟨w1.heap.size, x * 2, none⟩ (.int .i64 (P (zs.length - 1 - x)).1)).setCell ⟨w1.heap.size, x * 2 + 1, none⟩ (.int .i64 (P (zs.length - 1 - x)).2)).setCell
        ⟨w1.heap.size, (zs.length - 1 - x) * 2, none⟩ (.int .i64 (P x).1)).setCell ⟨w1.heap.size, (zs.length - 1 - x) * 2 + 1, none⟩ (.int .i64 (P x).2)).drew := by
  refine ⟨x + 1, fun j => if j = x then P (zs.length - 1 - x) else if j = zs.length - 1 - x then P x else P j, by omega, by go_num, by congr 1; omega, fun j => by simpa using hf j, by simpa [World.setCell] using hb, pairs_swap hp (by omega), ?_,
    ((((hw.setCell (Nat.le_refl _) _).setCell (Nat.le_refl _) _).setCell (Nat.le_refl _) _).setCell (Nat.le_refl _) _).drew⟩
  intro j hj
  have hrev : ∀ t, t < zs.length → zs.reverse.getD t (0, 0) = zs.getD (zs.length - 1 - t) (0, 0) := by
    intro t ht
    simp [List.getD_eq_getElem?_getD, List.getElem?_reverse ht]
  by_cases e1 : j = x
  · simp only [if_pos e1]
    rw [hx _ (by omega), if_neg (by omega), if_pos (by omega), hrev _ hj, e1]
  · by_cases e2 : j = zs.length - 1 - x
    · simp only [if_neg e1, if_pos e2]
      rw [hx x (by omega), if_neg (by omega), if_pos (by omega), hrev _ hj]
      congr 1; omega
    · simp only [if_neg e1, if_neg e2]
      rw [hx j hj]
      by_cases c : j < x ∨ zs.length - 1 - j < x
      · rw [if_pos c, if_pos (by omega)]
      · rw [if_neg c, if_neg (by omega)]

theorem rev_end {w1 wr : World} {zs : List (Int × Int)} {x : Nat} {P : Nat → Int × Int} (hge : ¬ 2 * x + 1 < zs.length)
    (hp : PairsAt wr w1.heap.size zs.length P) (hx : ∀ j, j < zs.length → P j = (if j < x ∨ zs.length - 1 - j < x then zs.reverse else zs).getD j (0, 0)) (hb : w1.heap.size < wr.heap.size) :
    StepsAt wr (some ⟨w1.heap.size, 0, none⟩) zs.reverse := by
  intro j hj
  have hj' : j < zs.length := by simpa using hj
  obtain ⟨h1, h2⟩ := hp j hj'
  refine ⟨w1.heap.size, 0, rfl, hb, ?_⟩
  have e : P j = zs.reverse[j] := by
    rw [hx j hj']
    by_cases c : j < x ∨ zs.length - 1 - j < x
    · rw [if_pos c]; simp [List.getD_eq_getElem?_getD, hj']
    · rw [if_neg c]
      have h3 : zs.length - 1 - j = j := by omega
      simp [List.getD_eq_getElem?_getD, hj', h3]
  rw [e] at h1 h2
  rw [Nat.zero_add, Nat.zero_add]
  exact ⟨h1, h2⟩

theorem align_make (n m : Nat) (h : n + m ≤ 65536) (W : World) :
    (Instr.makeSlice 31 (.int .i64 0) (.int .i64 ((n : Int) + (m : Int)))).run Try.prog W = .ok (.slice (some ⟨W.heap.size, 0, none⟩) 0 (n + m)) (W.alloc (.cells (madeCells #[.int .i64 0, .int .i64 0] ((n + m) * 2)) 38)) := by
  obtain ⟨i2, hi2, hz0, hz1, hz2⟩ := info_parts (show (Try.prog.info? 38).map (fun i => (i.zero, i.size, i.bytes)) = some (some (.agg #[.int .i64 0, .int .i64 0]), 2, 16) from by kernel_rfl)
  have hr := run_make (P := Try.prog) W 31 38 i2 _ Try.underlying31 hi2 hz0 .i64 .i64 0 ((n : Int) + m) (by omega) (by omega) (by rw [hz2]; omega) (by omega)
  rw [hr, hz1]
  have e : ((n : Int) + m).toNat = n + m := by omega
  rw [e]
  rfl

set_option maxHeartbeats 8000000 in
set_option maxRecDepth 100000 in
theorem alLoop_any (xs ys : List ByteArray) (A B : Option Addr) (n m ca cb : Nat) (w : World) (hA : Sl w A n (xs.map .string)) (hB : Sl w B m (ys.map .string)) (hn : n ≤ 400) (hm : m ≤ 400) :
    Calls Try.prog 18 #[.slice A n ca, .slice B m cb] w (RetSteps w (alignN (dst xs ys) (eqAt xs ys) (n + m) n m).reverse) := by
  have H1 := Lib.hid hA
  have H2 := Lib.hid hB
  clear hA hB
  have hmk := fun W => align_make n m (by omega) W
  go_enter Try.func18, Try.ntmps18
  go_wp2_with fail
  refine (table_any xs ys A B n m ca cb w H1.out H2.out hn hm).mono ?_
  rintro e w1 ⟨f, rfl, hrow, htab, hw⟩
  have HT := Lib.hid (TabAt.of hrow htab)
  have HW := Lib.hid hw
  clear hrow htab hw
  unfold slc
  go_wp2
  obtain ⟨i2, hi2, hz0, hz1, hz2⟩ := info_parts (show (Try.prog.info? 38).map (fun i => (i.zero, i.size, i.bytes)) = some (some (.agg #[.int .i64 0, .int .i64 0]), 2, 16) from by kernel_rfl)
  go_loopw [6, 7, 8] (AlInv w1 (dst xs ys) (eqAt xs ys) n m) (fun i k _ _ => (intOf i).toNat + (intOf k).toNat)
  case atStart =>
    exact ⟨n, m, n + m, [], Nat.le_refl _, Nat.le_refl _, Nat.le_refl _, by simp, rfl, rfl, rfl, World.ownsRow_made _ _ _ (Nat.le_refl _) (by unfold maxLen; omega) (size_madeCells _ _), rfl, (Ext.refl _).alloc _⟩
  case round =>
    obtain ⟨i, k, fuel, zs, hi, hk, hf, hl, rfl, rfl, rfl, hown, hz, hw2⟩ := hrel
    have HO := Lib.hid hown
    have HZ := Lib.hid hz
    have HW2 := Lib.hid hw2
    clear hown hz hw2
    by_cases hik : i = 0 ∧ k = 0
    · obtain ⟨hi0, hk0⟩ := hik
      have hiI : ¬ 0 < i := by omega
      have hkI : ¬ 0 < k := by omega
      have HI0 := Lib.hid hi0
      have HK0 := Lib.hid hk0
      clear hi0 hk0
      go_wp2
      go_loopw [9, 10] (RevInv w1 zs) (fun x y _ => (intOf y - intOf x).toNat)
      case atStart => exact rev_start HO.out HW2.out
      case round =>
        obtain ⟨x, P, hx, rfl, rfl, hfr, hbs, hpa, hPx, hw3⟩ := hrel
        have HBS := Lib.hid hbs
        clear hbs
        have HF := Lib.hid hfr
        have HP := Lib.hid hpa
        have HPX := Lib.hid hPx
        have HW3 := Lib.hid hw3
        by_cases hlt : 2 * x + 1 < zs.length
        · have hxy : (x : Int) < (zs.length : Int) - 1 - (x : Int) := by omega
          obtain ⟨h1, h2⟩ := hpa x (by omega)
          obtain ⟨h3, h4⟩ := hpa (zs.length - 1 - x) (by omega)
          clear hpa hPx hw3
          go_wp2
          go_region
          all_goals go_wp2
          exact ⟨rev_step hlt HF.out HBS.out HP.out HPX.out HW3.out, by simp [intOf]; omega⟩
        · have hxy : ¬ (x : Int) < (zs.length : Int) - 1 - (x : Int) := by omega
          clear hfr hpa hPx hw3
          go_wp2
          go_ret
          have hz1 : zs = alignN (dst xs ys) (eqAt xs ys) (n + m) n m := by
            have h1 := HZ.out
            rw [HI0.out, HK0.out, al_end, List.append_nil] at h1
            exact h1
          rw [← hz1]
          refine ⟨some ⟨w1.heap.size, 0, none⟩, n + m, ?_, rev_end (by omega) HP.out HPX.out HBS.out, HW.out.trans HW3.out⟩
          rw [List.length_reverse]
          rfl
    · obtain ⟨fl, rfl⟩ : ∃ fl, fuel = fl + 1 := ⟨fuel - 1, by omega⟩
      obtain ⟨hg, ht⟩ := HT.out.ext HW2.out
      obtain ⟨b1, hb1, hc1, hr1⟩ := ht i hi
      have ha := hr1 k hk
      have q0 := dst_bound xs ys i k
      by_cases hi0 : i = 0
      · have hk1 : 1 ≤ k := by omega
        have hkI : 0 < k := by omega
        have hiI : ¬ 0 < i := by omega
        have HI0 := Lib.hid hi0
        clear hi0 hik hr1 ht
        go_wp2_with fail
        try simp only [List.append]
        go_quiet (fail)
        all_goals go_wp2_with fail
        go_quiet (fail)
        all_goals go_wp2_with ((at_builtin; refine wpList_append_fits _ rfl _ _ 31 rfl w1.heap.size 38 i2 2 Try.underlying31 hi2 hz1 w1.heap.size zs.length (n + m) _ rfl (HO.out.alloc _) _ 1 1 _ rfl rfl (new_two _ _ _ _) (by simp [Value.oneCell']) (by omega) ?_; intro w' hown' hgrow; have HO' := Lib.hid hown'; have HG := Lib.hid hgrow; clear hown' hgrow))
        exact ⟨al_step (i) (k - 1) (-1, (k : Int) - 1) (by omega) (by omega) (by omega) (by omega) hf (by omega) hl HZ.out (al_left hk1 (.inl HI0.out)) (HW2.out.drewN _) HO'.out HG.out, by simp [intOf]; omega⟩
      · have hi1 : 1 ≤ i := by omega
        obtain ⟨b2, hb2, hc2, hr2⟩ := ht (i - 1) (by omega)
        have hb := hr2 k hk
        have q1 := dst_bound xs ys (i - 1) k
        have hiI : 0 < i := by omega
        have hiJ : (i : Int) ≤ (n : Int) := by omega
        by_cases hk0 : k = 0
        · have hkI : ¬ 0 < k := by omega
          have hq2 : dst xs ys i k = dst xs ys (i - 1) k + 1 := by rw [hk0, dst_left, dst_left]; omega
          have hqb : ((dst xs ys i k : Int) == (dst xs ys (i - 1) k : Int) + 1) = true := by rw [hq2]; simp
          have HQ := Lib.hid hq2
          have HK0 := Lib.hid hk0
          clear hk0 hik hr1 hr2 ht hq2 hi0
          go_wp2_with fail
          try simp only [List.append]
          go_quiet (fail)
          all_goals go_wp2_with fail
          go_quiet (fail)
          all_goals go_wp2_with ((at_builtin; refine wpList_append_fits _ rfl _ _ 31 rfl w1.heap.size 38 i2 2 Try.underlying31 hi2 hz1 w1.heap.size zs.length (n + m) _ rfl (HO.out.alloc _) _ 1 1 _ rfl rfl (new_two _ _ _ _) (by simp [Value.oneCell']) (by omega) ?_; intro w' hown' hgrow; have HO' := Lib.hid hown'; have HG := Lib.hid hgrow; clear hown' hgrow))
          exact ⟨al_step (i - 1) (k) ((i : Int) - 1, -1) (by omega) (by omega) (by omega) (by omega) hf (by omega) hl HZ.out (al_up hi1 (.inl HK0.out) HQ.out) (HW2.out.drewN _) HO'.out HG.out, by simp [intOf]; omega⟩
        · have hk1 : 1 ≤ k := by omega
          have hkI : 0 < k := by omega
          have hkJ : (k : Int) ≤ (m : Int) := by omega
          have hcc := hr1 (k - 1) (by omega)
          have hd := hr2 (k - 1) (by omega)
          have q2 := dst_bound xs ys i (k - 1)
          have q3 := dst_bound xs ys (i - 1) (k - 1)
          have hin : i - 1 < n := by omega
          have hkm : k - 1 < m := by omega
          obtain ⟨ad, x, rfl, hu, hxc⟩ := (H1.out.ext (HW.out.trans HW2.out)).at_map hin
          obtain ⟨bd, y, rfl, hv, hyc⟩ := (H2.out.ext (HW.out.trans HW2.out)).at_map hkm
          have HU := Lib.hid hu
          have HV := Lib.hid hv
          clear hu hv ht hr1 hr2 hik hi0 hk0
          by_cases hxy : x = y
          · subst hxy
            have hq : dst xs ys i k = dst xs ys (i - 1) (k - 1) := by
              have h1 := dst_eq xs ys (i - 1) (k - 1) (by rw [HU.out, HV.out])
              rw [show i - 1 + 1 = i from by omega, show k - 1 + 1 = k from by omega] at h1
              exact h1
            have hE : eqAt xs ys (i - 1) (k - 1) = true := by unfold eqAt; rw [HU.out, HV.out]; simp
            have hxb : (x.toList == x.toList) = true := by simp
            have hqb : ((dst xs ys i k : Int) == (dst xs ys (i - 1) (k - 1) : Int)) = true := by rw [hq]; simp
            have HQ := Lib.hid hq
            have HE := Lib.hid hE
            clear hq hE
            go_wp2_with fail
            try simp only [List.append]
            go_quiet (fail)
            all_goals go_wp2_with ((at_builtin; refine wpList_append_fits _ rfl _ _ 31 rfl w1.heap.size 38 i2 2 Try.underlying31 hi2 hz1 w1.heap.size zs.length (n + m) _ rfl (HO.out.alloc _) _ 1 1 _ rfl rfl (new_two _ _ _ _) (by simp [Value.oneCell']) (by omega) ?_; intro w' hown' hgrow; have HO' := Lib.hid hown'; have HG := Lib.hid hgrow; clear hown' hgrow))
            exact ⟨al_step (i - 1) (k - 1) ((i : Int) - 1, (k : Int) - 1) (by omega) (by omega) (by omega) (by omega) hf (by omega) hl HZ.out (al_diag hi1 hk1 (.inl ⟨HE.out, HQ.out⟩)) (HW2.out.drewN _) HO'.out HG.out, by simp [intOf]; omega⟩
          · have hxb := bytes_ne hxy
            have hE : eqAt xs ys (i - 1) (k - 1) = false := by
              unfold eqAt
              rw [HU.out, HV.out]
              simpa using hxy
            have HE := Lib.hid hE
            clear hxy hE
            by_cases hq : dst xs ys i k = dst xs ys (i - 1) (k - 1) + 1
            · have hqb : ((dst xs ys i k : Int) == (dst xs ys (i - 1) (k - 1) : Int) + 1) = true := by rw [hq]; simp
              have hnb : (!x.toList == y.toList) = true := by rw [hxb]; rfl
              have HQ := Lib.hid hq
              clear hq
              go_wp2_with fail
              try simp only [List.append]
              go_quiet (fail)
              all_goals go_wp2_with ((at_builtin; refine wpList_append_fits _ rfl _ _ 31 rfl w1.heap.size 38 i2 2 Try.underlying31 hi2 hz1 w1.heap.size zs.length (n + m) _ rfl (HO.out.alloc _) _ 1 1 _ rfl rfl (new_two _ _ _ _) (by simp [Value.oneCell']) (by omega) ?_; intro w' hown' hgrow; have HO' := Lib.hid hown'; have HG := Lib.hid hgrow; clear hown' hgrow))
              exact ⟨al_step (i - 1) (k - 1) ((i : Int) - 1, (k : Int) - 1) (by omega) (by omega) (by omega) (by omega) hf (by omega) hl HZ.out (al_diag hi1 hk1 (.inr ⟨HE.out, HQ.out⟩)) (HW2.out.drewN _) HO'.out HG.out, by simp [intOf]; omega⟩
            · by_cases hq2 : dst xs ys i k = dst xs ys (i - 1) k + 1
              · have hqb : ((dst xs ys i k : Int) == (dst xs ys (i - 1) (k - 1) : Int) + 1) = false := by simp; omega
                have hqc : ((dst xs ys i k : Int) == (dst xs ys (i - 1) k : Int) + 1) = true := by rw [hq2]; simp
                have hnb : (!x.toList == y.toList) = true := by rw [hxb]; rfl
                have HQ := Lib.hid hq
                have HQ2 := Lib.hid hq2
                clear hq hq2
                go_wp2_with fail
                try simp only [List.append]
                go_quiet (fail)
                all_goals go_wp2_with fail
                go_quiet (fail)
                all_goals go_wp2_with ((at_builtin; refine wpList_append_fits _ rfl _ _ 31 rfl w1.heap.size 38 i2 2 Try.underlying31 hi2 hz1 w1.heap.size zs.length (n + m) _ rfl (HO.out.alloc _) _ 1 1 _ rfl rfl (new_two _ _ _ _) (by simp [Value.oneCell']) (by omega) ?_; intro w' hown' hgrow; have HO' := Lib.hid hown'; have HG := Lib.hid hgrow; clear hown' hgrow))
                exact ⟨al_step (i - 1) (k) ((i : Int) - 1, -1) (by omega) (by omega) (by omega) (by omega) hf (by omega) hl HZ.out (al_up hi1 (.inr ⟨HE.out, HQ.out⟩) HQ2.out) (HW2.out.drewN _) HO'.out HG.out, by simp [intOf]; omega⟩
              · have hqb : ((dst xs ys i k : Int) == (dst xs ys (i - 1) (k - 1) : Int) + 1) = false := by simp; omega
                have hqc : ((dst xs ys i k : Int) == (dst xs ys (i - 1) k : Int) + 1) = false := by simp; omega
                have hnb : (!x.toList == y.toList) = true := by rw [hxb]; rfl
                have HQ := Lib.hid hq
                have HQ2 := Lib.hid hq2
                clear hq hq2
                go_wp2_with fail
                try simp only [List.append]
                go_quiet (fail)
                all_goals go_wp2_with fail
                go_quiet (fail)
                all_goals go_wp2_with ((at_builtin; refine wpList_append_fits _ rfl _ _ 31 rfl w1.heap.size 38 i2 2 Try.underlying31 hi2 hz1 w1.heap.size zs.length (n + m) _ rfl (HO.out.alloc _) _ 1 1 _ rfl rfl (new_two _ _ _ _) (by simp [Value.oneCell']) (by omega) ?_; intro w' hown' hgrow; have HO' := Lib.hid hown'; have HG := Lib.hid hgrow; clear hown' hgrow))
                exact ⟨al_step (i) (k - 1) (-1, (k : Int) - 1) (by omega) (by omega) (by omega) (by omega) hf (by omega) hl HZ.out (al_left hk1 (.inr ⟨HE.out, HQ.out, HQ2.out⟩)) (HW2.out.drewN _) HO'.out HG.out, by simp [intOf]; omega⟩

end Go.Proofs.Ytgjfjibaoehmpaa
