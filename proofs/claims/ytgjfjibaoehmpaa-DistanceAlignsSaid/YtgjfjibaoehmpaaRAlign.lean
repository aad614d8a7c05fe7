import Derived.Test.YtgjfjibaoehmpaaProg
import Derived.Test.YtgjfjibaoehmpaaSlN
import Derived.Test.YtgjfjibaoehmpaaAlign
import Derived.Test.YtgjfjibaoehmpaaTabR
import Derived.Test.YtgjfjibaoehmpaaSmall
namespace Go.Proofs.Ytgjfjibaoehmpaa
open Go.RowKit

def RAInv (w1 : World) (F : Nat → Nat → Nat) (E : Nat → Nat → Bool) (n m : Nat) (ov iv kv : Value) (wr : World) : Prop :=
  ∃ (i k fuel : Nat) (xs : List (Int × Int)) (A : Option Addr) (c : Nat), i ≤ n ∧ k ≤ m ∧ i + k ≤ fuel ∧ xs.length + i + k ≤ n + m ∧ iv = .int .i64 i ∧ kv = .int .i64 k ∧
    ov = .slice A xs.length c ∧ SlN wr A xs.length 2 (stepCells xs) ∧
    (alignN F E fuel i k).reverse ++ xs = (alignN F E (n + m) n m).reverse ∧ Ext w1 wr

theorem ra_step {w1 wr w2 w' : World} {F : Nat → Nat → Nat} {E : Nat → Nat → Bool} {n m i k fuel : Nat} (i' k' : Nat) {iv kv : Int} {xs : List (Int × Int)} (s : Int × Int) {v : Value}
    (hiv : iv = (i' : Nat)) (hkv : kv = (k' : Nat)) (hi : i' ≤ n) (hk : k' ≤ m) (hf : i + k ≤ fuel + 1) (hlt : i' + k' < i + k) (hl : xs.length + i + k ≤ n + m)
    (hx : (alignN F E (fuel + 1) i k).reverse ++ xs = (alignN F E (n + m) n m).reverse)
    (ha : alignN F E (fuel + 1) i k = s :: alignN F E fuel i' k') (hw : Ext w1 w2) (hwr : Ext w1 wr) {v0 : Value}
    (h0 : w2.ownsRow wr.heap.size 37 2 v0 1 [.int .i64 s.1, .int .i64 s.2])
    (ho : w'.ownsRow wr.heap.size 37 2 v (1 + xs.length) ([.int .i64 s.1, .int .i64 s.2] ++ stepCells xs)) (hg : w2.grownBy w' v0.ownBlock) :
    RAInv w1 F E n m v (.int .i64 iv) (.int .i64 kv) w' := by
  subst hiv
  subst hkv
  obtain ⟨A, c, rfl, hs⟩ := own_slN ho
  rw [stepCells_cons] at hs
  refine ⟨i', k', fuel, s :: xs, A, c, hi, hk, by omega, by simp; omega, rfl, rfl, by rw [List.length_cons, Nat.add_comm], by rw [List.length_cons, Nat.add_comm]; exact hs, by rw [← hx, ha]; simp, ext_grown hw h0 (Ext.size hwr) hg⟩

theorem lit2 {W0 : World} {N base : Nat} {a b : Value} (hN : W0.heap.size = N) (hb : base ≤ N) : (W0.alloc (.cells #[a, b] 37)).ownsRow base 37 2 (.slice (some ⟨N, 0, none⟩) 1 1) 1 [a, b] := by
  subst hN
  exact World.ownsRow_lit W0 #[a, b] 1 hb (by unfold maxLen; omega) rfl
theorem box_ext {w1 wr : World} (h : Ext w1 wr) (q : Nat) (a b : Value) (o o' : Obj) :
    Ext w1 (((((wr.alloc o).drewN q).setCell ⟨wr.heap.size, 0, none⟩ a).setCell ⟨wr.heap.size, 1, none⟩ b).alloc o') :=
  ((((h.alloc o).drewN q).setCell (Ext.size h) _).setCell (Ext.size h) _).alloc _
theorem box_size {wr : World} {q : Nat} {a b : Value} {o : Obj} : ((((wr.alloc o).drewN q).setCell ⟨wr.heap.size, 0, none⟩ a).setCell ⟨wr.heap.size, 1, none⟩ b).heap.size = wr.heap.size + 1 := by
  simp [World.setCell]

set_option maxHeartbeats 8000000 in
set_option maxRecDepth 100000 in
theorem refAlign_any (xs ys : List ByteArray) (A B : Option Addr) (n m ca cb : Nat) (w : World) (hA : Sl w A n (xs.map .string)) (hB : Sl w B m (ys.map .string)) (hn : n ≤ 400) (hm : m ≤ 400) :
    Calls Try.prog 21 #[.slice A n ca, .slice B m cb] w (RetSteps w (alignN (dst xs ys) (eqAt xs ys) (n + m) n m).reverse) := by
  have hlo : isLong n m = false := by unfold isLong; simp; omega
  have H1 := Lib.hid hA
  have H2 := Lib.hid hB
  clear hA hB
  go_enter Try.func21, Try.ntmps21
  go_wp2_with (go_at_call 27; refine (long_any _ _ _ _ _ _ _ (by unfold maxLen; omega) (by unfold maxLen; omega)).mono ?_; rintro e w' ⟨rfl, rfl⟩)
  refine (tableRef_any xs ys A B n m ca cb w H1.out H2.out hn hm).mono ?_
  rintro e w1 ⟨f, rfl, hrow, htab, hw⟩
  have HT := Lib.hid (TabAt.of hrow htab)
  have HW := Lib.hid hw
  clear hrow htab hw
  unfold slc
  go_wp2
  obtain ⟨i2, hi2, hz0, hz1, hz2⟩ := info_parts (show (Try.prog.info? 37).map (fun i => (i.zero, i.size, i.bytes)) = some (some (.agg #[.int .i64 0, .int .i64 0]), 2, 16) from by kernel_rfl)
  go_loopw [6, 7, 8] (RAInv w1 (dst xs ys) (eqAt xs ys) n m) (fun _ i k _ => (intOf i).toNat + (intOf k).toNat)
  case atStart =>
    exact ⟨n, m, n + m, [], none, 0, Nat.le_refl _, Nat.le_refl _, Nat.le_refl _, by simp, rfl, rfl, rfl, SlN.nil _ _ _, by simp, Ext.refl _⟩
  case round =>
    obtain ⟨i, k, fuel, zs, O, oc, hi, hk, hf, hl, rfl, rfl, rfl, hown, hz, hw2⟩ := hrel
    have HO := Lib.hid hown
    have HZ := Lib.hid hz
    have HW2 := Lib.hid hw2
    clear hown hz hw2
    by_cases hik : i = 0 ∧ k = 0
    · obtain ⟨hi0, hk0⟩ := hik
      have hiI : ¬ 0 < i := by omega
      have hkI : ¬ 0 < k := by omega
      have HI0 := Lib.hid hi0
      have HK0 := Lib.hid hk0
      clear hi0 hk0
      go_wp2
      go_ret
      have hz1 : zs = (alignN (dst xs ys) (eqAt xs ys) (n + m) n m).reverse := by
        have h1 := HZ.out
        rw [HI0.out, HK0.out, al_end] at h1
        simpa using h1
      rw [← hz1]
      exact ⟨_, _, rfl, HO.out.steps, HW.out.trans HW2.out⟩
    · obtain ⟨fl, rfl⟩ : ∃ fl, fuel = fl + 1 := ⟨fuel - 1, by omega⟩
      obtain ⟨hg, ht⟩ := HT.out.ext (HW2.out.alloc (.cells #[.int .i64 0, .int .i64 0] 37))
      obtain ⟨b1, hb1, hc1, hr1⟩ := ht i hi
      have ha := hr1 k hk
      have q0 := dst_bound xs ys i k
      by_cases hi0 : i = 0
      · have hk1 : 1 ≤ k := by omega
        have hkI : 0 < k := by omega
        have hiI : ¬ 0 < i := by omega
        have HI0 := Lib.hid hi0
        clear hi0 hik hr1 ht
        go_wp2_with fail
        try simp only [List.append]
        go_quiet (fail)
        all_goals go_wp2_with fail
        try simp only [List.append]
        go_quiet (fail)
        all_goals go_wp2_with fail
        go_quiet (fail)
        all_goals go_wp2_with (at_builtin; refine wpList_appN _ rfl _ _ 34 rfl wr.heap.size 37 i2 _ 2 16 Try.underlying34 hi2 hz0 hz1 hz2 rfl (by decide) _ 1 _ rfl (lit2 (N := wr.heap.size + 1) box_size (by omega)) O zs.length oc _ rfl (HO.out.ext (box_ext (Ext.refl wr) _ _ _ _ _)) (step_one zs) (by unfold maxLen; omega) (by omega) (by simp [World.setCell]; try omega) ?_; intro v2 w2 hown2 hgrow2; have HO2 := Lib.hid hown2; have HG2 := Lib.hid hgrow2; clear hown2 hgrow2)
        refine ⟨ra_step (i) (k - 1) (-1, (k : Int) - 1) (by omega) (by omega) (by omega) (by omega) hf (by omega) hl HZ.out (al_left hk1 (.inl HI0.out)) ?_ HW2.out ?_ HO2.out HG2.out, by simp [intOf]; omega⟩
        · exact box_ext HW2.out _ _ _ _ _
        · exact lit2 box_size (by omega)
      · have hi1 : 1 ≤ i := by omega
        obtain ⟨b2, hb2, hc2, hr2⟩ := ht (i - 1) (by omega)
        have hb := hr2 k hk
        have q1 := dst_bound xs ys (i - 1) k
        have hiI : 0 < i := by omega
        have hiJ : (i : Int) ≤ (n : Int) := by omega
        by_cases hk0 : k = 0
        · have hkI : ¬ 0 < k := by omega
          have hq2 : dst xs ys i k = dst xs ys (i - 1) k + 1 := by rw [hk0, dst_left, dst_left]; omega
          have hqb : ((dst xs ys i k : Int) == (dst xs ys (i - 1) k : Int) + 1) = true := by rw [hq2]; simp
          have HQ := Lib.hid hq2
          have HK0 := Lib.hid hk0
          clear hk0 hik hr1 hr2 ht hq2 hi0
          go_wp2_with fail
          try simp only [List.append]
          go_quiet (fail)
          all_goals go_wp2_with fail
          try simp only [List.append]
          go_quiet (fail)
          all_goals go_wp2_with fail
          go_quiet (fail)
          all_goals go_wp2_with (at_builtin; refine wpList_appN _ rfl _ _ 34 rfl wr.heap.size 37 i2 _ 2 16 Try.underlying34 hi2 hz0 hz1 hz2 rfl (by decide) _ 1 _ rfl (lit2 (N := wr.heap.size + 1) box_size (by omega)) O zs.length oc _ rfl (HO.out.ext (box_ext (Ext.refl wr) _ _ _ _ _)) (step_one zs) (by unfold maxLen; omega) (by omega) (by simp [World.setCell]; try omega) ?_; intro v2 w2 hown2 hgrow2; have HO2 := Lib.hid hown2; have HG2 := Lib.hid hgrow2; clear hown2 hgrow2)
          refine ⟨ra_step (i - 1) (k) ((i : Int) - 1, -1) (by omega) (by omega) (by omega) (by omega) hf (by omega) hl HZ.out (al_up hi1 (.inl HK0.out) HQ.out) ?_ HW2.out ?_ HO2.out HG2.out, by simp [intOf]; omega⟩
          · exact box_ext HW2.out _ _ _ _ _
          · exact lit2 box_size (by omega)
        · have hk1 : 1 ≤ k := by omega
          have hkI : 0 < k := by omega
          have hkJ : (k : Int) ≤ (m : Int) := by omega
          have hcc := hr1 (k - 1) (by omega)
          have hd := hr2 (k - 1) (by omega)
          have q2 := dst_bound xs ys i (k - 1)
          have q3 := dst_bound xs ys (i - 1) (k - 1)
          have hin : i - 1 < n := by omega
          have hkm : k - 1 < m := by omega
          obtain ⟨ad, x, rfl, hu, hxc⟩ := (H1.out.ext (HW.out.trans (HW2.out.alloc (.cells #[.int .i64 0, .int .i64 0] 37)))).at_map hin
          obtain ⟨bd, y, rfl, hv, hyc⟩ := (H2.out.ext (HW.out.trans (HW2.out.alloc (.cells #[.int .i64 0, .int .i64 0] 37)))).at_map hkm
          have HU := Lib.hid hu
          have HV := Lib.hid hv
          clear hu hv ht hr1 hr2 hik hi0 hk0
          by_cases hxy : x = y
          · subst hxy
            have hq : dst xs ys i k = dst xs ys (i - 1) (k - 1) := by
              have h1 := dst_eq xs ys (i - 1) (k - 1) (by rw [HU.out, HV.out])
              rw [show i - 1 + 1 = i from by omega, show k - 1 + 1 = k from by omega] at h1
              exact h1
            have hE : eqAt xs ys (i - 1) (k - 1) = true := by unfold eqAt; rw [HU.out, HV.out]; simp
            have hxb : (x.toList == x.toList) = true := by simp
            have hqb : ((dst xs ys i k : Int) == (dst xs ys (i - 1) (k - 1) : Int)) = true := by rw [hq]; simp
            have HQ := Lib.hid hq
            have HE := Lib.hid hE
            clear hq hE
            go_wp2_with fail
            try simp only [List.append]
            go_quiet (fail)
            all_goals go_wp2_with (at_builtin; refine wpList_appN _ rfl _ _ 34 rfl wr.heap.size 37 i2 _ 2 16 Try.underlying34 hi2 hz0 hz1 hz2 rfl (by decide) _ 1 _ rfl (lit2 (N := wr.heap.size + 1) box_size (by omega)) O zs.length oc _ rfl (HO.out.ext (box_ext (Ext.refl wr) _ _ _ _ _)) (step_one zs) (by unfold maxLen; omega) (by omega) (by simp [World.setCell]; try omega) ?_; intro v2 w2 hown2 hgrow2; have HO2 := Lib.hid hown2; have HG2 := Lib.hid hgrow2; clear hown2 hgrow2)
            refine ⟨ra_step (i - 1) (k - 1) ((i : Int) - 1, (k : Int) - 1) (by omega) (by omega) (by omega) (by omega) hf (by omega) hl HZ.out (al_diag hi1 hk1 (.inl ⟨HE.out, HQ.out⟩)) ?_ HW2.out ?_ HO2.out HG2.out, by simp [intOf]; omega⟩
            · exact box_ext HW2.out _ _ _ _ _
            · exact lit2 box_size (by omega)
          · have hxb := bytes_ne hxy
            have hE : eqAt xs ys (i - 1) (k - 1) = false := by
              unfold eqAt
              rw [HU.out, HV.out]
              simpa using hxy
            have HE := Lib.hid hE
            clear hxy hE
            by_cases hq : dst xs ys i k = dst xs ys (i - 1) (k - 1) + 1
            · have hqb : ((dst xs ys i k : Int) == (dst xs ys (i - 1) (k - 1) : Int) + 1) = true := by rw [hq]; simp
              have hnb : (!x.toList == y.toList) = true := by rw [hxb]; rfl
              have HQ := Lib.hid hq
              clear hq
              go_wp2_with fail
              try simp only [List.append]
              go_quiet (fail)
              all_goals go_wp2_with fail
              try simp only [List.append]
              go_quiet (fail)
              all_goals go_wp2_with (at_builtin; refine wpList_appN _ rfl _ _ 34 rfl wr.heap.size 37 i2 _ 2 16 Try.underlying34 hi2 hz0 hz1 hz2 rfl (by decide) _ 1 _ rfl (lit2 (N := wr.heap.size + 1) box_size (by omega)) O zs.length oc _ rfl (HO.out.ext (box_ext (Ext.refl wr) _ _ _ _ _)) (step_one zs) (by unfold maxLen; omega) (by omega) (by simp [World.setCell]; try omega) ?_; intro v2 w2 hown2 hgrow2; have HO2 := Lib.hid hown2; have HG2 := Lib.hid hgrow2; clear hown2 hgrow2)
              refine ⟨ra_step (i - 1) (k - 1) ((i : Int) - 1, (k : Int) - 1) (by omega) (by omega) (by omega) (by omega) hf (by omega) hl HZ.out (al_diag hi1 hk1 (.inr ⟨HE.out, HQ.out⟩)) ?_ HW2.out ?_ HO2.out HG2.out, by simp [intOf]; omega⟩
              · exact box_ext HW2.out _ _ _ _ _
              · exact lit2 box_size (by omega)
            · by_cases hq2 : dst xs ys i k = dst xs ys (i - 1) k + 1
              · have hqb : ((dst xs ys i k : Int) == (dst xs ys (i - 1) (k - 1) : Int) + 1) = false := by simp; omega
                have hqc : ((dst xs ys i k : Int) == (dst xs ys (i - 1) k : Int) + 1) = true := by rw [hq2]; simp
                have hnb : (!x.toList == y.toList) = true := by rw [hxb]; rfl
                have HQ := Lib.hid hq
                have HQ2 := Lib.hid hq2
                clear hq hq2
                go_wp2_with fail
                try simp only [List.append]
                go_quiet (fail)
                all_goals go_wp2_with fail
                try simp only [List.append]
                go_quiet (fail)
                all_goals go_wp2_with fail
                go_quiet (fail)
                all_goals go_wp2_with (at_builtin; refine wpList_appN _ rfl _ _ 34 rfl wr.heap.size 37 i2 _ 2 16 Try.underlying34 hi2 hz0 hz1 hz2 rfl (by decide) _ 1 _ rfl (lit2 (N := wr.heap.size + 1) box_size (by omega)) O zs.length oc _ rfl (HO.out.ext (box_ext (Ext.refl wr) _ _ _ _ _)) (step_one zs) (by unfold maxLen; omega) (by omega) (by simp [World.setCell]; try omega) ?_; intro v2 w2 hown2 hgrow2; have HO2 := Lib.hid hown2; have HG2 := Lib.hid hgrow2; clear hown2 hgrow2)
                refine ⟨ra_step (i - 1) (k) ((i : Int) - 1, -1) (by omega) (by omega) (by omega) (by omega) hf (by omega) hl HZ.out (al_up hi1 (.inr ⟨HE.out, HQ.out⟩) HQ2.out) ?_ HW2.out ?_ HO2.out HG2.out, by simp [intOf]; omega⟩
                · exact box_ext HW2.out _ _ _ _ _
                · exact lit2 box_size (by omega)
              · have hqb : ((dst xs ys i k : Int) == (dst xs ys (i - 1) (k - 1) : Int) + 1) = false := by simp; omega
                have hqc : ((dst xs ys i k : Int) == (dst xs ys (i - 1) k : Int) + 1) = false := by simp; omega
                have hnb : (!x.toList == y.toList) = true := by rw [hxb]; rfl
                have HQ := Lib.hid hq
                have HQ2 := Lib.hid hq2
                clear hq hq2
                go_wp2_with fail
                try simp only [List.append]
                go_quiet (fail)
                all_goals go_wp2_with fail
                try simp only [List.append]
                go_quiet (fail)
                all_goals go_wp2_with fail
                go_quiet (fail)
                all_goals go_wp2_with (at_builtin; refine wpList_appN _ rfl _ _ 34 rfl wr.heap.size 37 i2 _ 2 16 Try.underlying34 hi2 hz0 hz1 hz2 rfl (by decide) _ 1 _ rfl (lit2 (N := wr.heap.size + 1) box_size (by omega)) O zs.length oc _ rfl (HO.out.ext (box_ext (Ext.refl wr) _ _ _ _ _)) (step_one zs) (by unfold maxLen; omega) (by omega) (by simp [World.setCell]; try omega) ?_; intro v2 w2 hown2 hgrow2; have HO2 := Lib.hid hown2; have HG2 := Lib.hid hgrow2; clear hown2 hgrow2)
                refine ⟨ra_step (i) (k - 1) (-1, (k : Int) - 1) (by omega) (by omega) (by omega) (by omega) hf (by omega) hl HZ.out (al_left hk1 (.inr ⟨HE.out, HQ.out, HQ2.out⟩)) ?_ HW2.out ?_ HO2.out HG2.out, by simp [intOf]; omega⟩
                · exact box_ext HW2.out _ _ _ _ _
                · exact lit2 box_size (by omega)

end Go.Proofs.Ytgjfjibaoehmpaa
