/- TagVariants: the law returns true and changes nothing of its arguments; condition: the arguments are together of bulk at most 1048576 (the second form). -/
import Derived.Test.YtfcnhodokbnjnaaDoorLawV
import Derived.Test.YtfcnhodokbnjnaaDoorSpell
import Derived.Test.YtfcnhodokbnjnaaDoorShelf
import Derived.Test.YtfcnhodokbnjnaaDoorRows
import Derived.Test.YtfcnhodokbnjnaaDoorCards
import Derived.Test.YtfcnhodokbnjnaaDoorTie
import Derived.Shelf.Vars
import Derived.Test.YtfcnhodokbnjnaaDoorLawU
namespace Go.Proofs.YtfcnhodokbnjnaaDoor.lawTagVariants
open Go.ChangeShapes Go.WideShapes Go.ChangeAt Go.RowKit
open Go.ChangeMaps (open_string shut_string)
set_option linter.unusedSimpArgs false
set_option linter.unusedVariables false

def laidL : List (String × DataW Unit) := Rows.tagVariantsUptoRow.laid
theorem mx_of {W : World} (h : W.ShapedOpen Tryd.prog) : Mx W := Tryd.laysM146.s1_3 W h
def ls (xs : List ByteArray) : List (List UInt8) := xs.map fun x => x.data.toList
def VarInv (s : ByteArray) (xs : List ByteArray) (n : Nat) (w : World) (a b i : Value) (wr : World) : Prop :=
  ∃ (k : Nat) (ab bb : ByteArray), k ≤ n ∧ i = .int .i64 (k : Int) ∧ a = .string ab ∧ b = .string bb ∧ ab.data.toList = hang s.data.toList ((ls xs).take k) ∧
    bb.data.toList = hang s.data.toList ((ls xs).reverse.take k) ∧ (∀ x ∈ (ls xs).take k, goodV x = true) ∧ Ext w wr

set_option maxRecDepth 100000 in
set_option maxHeartbeats 2000000 in
theorem law (s : ByteArray) (xs : List ByteArray) (A : Option Addr) (n c : Nat) (w : World) (hm : Mx w) (hs : s.size ≤ 1048576) (hA : Sl w A n (xs.map .string)) (hn : n ≤ 1048576) (hz : ∀ x ∈ xs, x.size ≤ 1048576) :
    Calls Tryd.prog 5 #[.string s, .slice A n c] w (RetTrue w) := by
  by_cases hlong : 60 < s.size ∨ 6 < n
  · have h60 : 60 < s.size ∨ ¬ 60 < s.size := Classical.em _
    rcases h60 with h60 | h60
    all_goals
      have h6 : 60 < s.size ∨ 6 < n := hlong
      clear hlong
      go_enter Tryd.func5, Tryd.ntmps5
      go_wp2_with fail
      refine (awake_any _ hm).mono ?_
      rintro e w1 ⟨rfl, hw1⟩
      have HW1 := Lib.hid hw1
      clear hw1
      have h7 : 60 < s.size ∨ 6 < n := h6
      clear h6
      first
        | (have h8 : 6 < n := by omega
           go_wp2_with fail
           refine (awake_any _ (hm.ext HW1.out)).mono ?_
           rintro e w2 ⟨rfl, hw2⟩
           have HW2 := Lib.hid hw2
           clear hw2
           go_wp2
           go_ret
           exact ⟨rfl, HW1.out.trans HW2.out⟩)
        | (clear h7
           go_wp2_with fail
           refine (awake_any _ (hm.ext HW1.out)).mono ?_
           rintro e w2 ⟨rfl, hw2⟩
           have HW2 := Lib.hid hw2
           clear hw2
           go_wp2
           go_ret
           exact ⟨rfl, HW1.out.trans HW2.out⟩)
  · have hs60 : ¬ 60 < s.size := fun h => hlong (.inl h)
    have hn6 : ¬ 6 < n := fun h => hlong (.inr h)
    have hxl : xs.length = n := by have := hA.1; rwa [List.length_map] at this
    have HA := Lib.hid hA
    have HZ := Lib.hid hz
    have HXL := Lib.hid hxl
    clear hlong hA hz hxl
    go_enter Tryd.func5, Tryd.ntmps5
    go_wp2_with fail
    refine (awake_any _ hm).mono ?_
    rintro e w1 ⟨rfl, hw1⟩
    have HW1 := Lib.hid hw1
    clear hw1
    go_wp2_with fail
    go_loopw [5, 6, 7] (VarInv s xs n w1) (fun _ _ i _ => n - (intOf i).toNat)
    case atStart => exact ⟨0, s, s, Nat.zero_le _, rfl, rfl, rfl, by simp [hang], by simp [hang], by simp, Ext.refl _⟩
    case round =>
      obtain ⟨k, ab, bb, hk, rfl, rfl, rfl, hab, hbb, hg, hw⟩ := hrel
      have HX := Lib.hid hw
      have HAB := Lib.hid hab
      have HBB := Lib.hid hbb
      have HG := Lib.hid hg
      clear hw hab hbb hg
      by_cases hkn : k < n
      · cases A with
        | none => exact absurd (none_nil HA.out) (by omega)
        | some ad =>
          obtain ⟨b, o, rfl, hblt⟩ := addr_flat HA.out (by omega)
          have hlx : xs.length = n := HXL.out
          obtain ⟨xb, hxb⟩ : ∃ xb, xs[k]? = some xb := ⟨_, List.getElem?_eq_getElem (by omega)⟩
          obtain ⟨yb, hyb⟩ : ∃ yb, xs[n - 1 - k]? = some yb := ⟨_, List.getElem?_eq_getElem (by omega)⟩
          have hcell : ∀ W, Ext w W → ∀ j x, xs[j]? = some x → W.cell? ⟨b, o + j, none⟩ = some (.string x) := by
            intro W hW j x hj
            obtain ⟨ad, ha, _, hc⟩ := (HA.out.ext hW).2 j (.string x) (by rw [List.getElem?_map, hj]; rfl)
            injection ha with ha
            subst ha
            rwa [add_flat] at hc
          have HC := Lib.hid hcell
          have hz1 : xb.size ≤ 1048576 := HZ.out xb (List.mem_of_getElem? hxb)
          have hz2 : yb.size ≤ 1048576 := HZ.out yb (List.mem_of_getElem? hyb)
          have HXB := Lib.hid hxb
          have HYB := Lib.hid hyb
          have c1 := hcell wr (HW1.out.trans HX.out) k xb hxb
          have hri := fun W => ris_any (⟨#[117, 110, 100, 45]⟩ ++ xb) W (by rw [ByteArray.size_append]; show 4 + xb.size ≤ _; omega)
          have hul : (⟨#[117, 110, 100, 45]⟩ ++ xb : ByteArray).data.toList = 117 :: 110 :: 100 :: 45 :: xb.data.toList := by simp [ByteArray.data_append]
          rw [hul] at hri
          have HRI := Lib.hid hri
          clear hlx hcell hxb hyb hul hri
          cases hp : isP (117 :: 110 :: 100 :: 45 :: xb.data.toList) with
          | false =>
            have HP := Lib.hid hp
            clear hp
            go_wp2_with fail
            have h2 := HRI.out wr
            rw [HP.out] at h2
            with_reducible refine h2.mono ?_
            clear h2
            rintro e w2 ⟨rfl, hw2⟩
            have HW2 := Lib.hid ((HW1.out.trans HX.out).trans hw2)
            clear hw2
            go_wp2
            go_ret
            exact ⟨rfl, HW2.out⟩
          | true =>
            have HP := Lib.hid hp
            clear hp
            by_cases h4 : xb.size < 4
            · go_wp2_with fail
              have h2 := HRI.out wr
              rw [HP.out] at h2
              with_reducible refine h2.mono ?_
              clear h2
              rintro e w2 ⟨rfl, hw2⟩
              have HW2 := Lib.hid ((HW1.out.trans HX.out).trans hw2)
              have c2 := HC.out w2 HW2.out k xb HXB.out
              clear hw2
              go_wp2
              go_ret
              exact ⟨rfl, HW2.out⟩
            · go_wp2_with fail
              have h2 := HRI.out wr
              rw [HP.out] at h2
              with_reducible refine h2.mono ?_
              clear h2
              rintro e w2 ⟨rfl, hw2⟩
              have HW2 := Lib.hid ((HW1.out.trans HX.out).trans hw2)
              have HX2 := Lib.hid (HX.out.trans hw2)
              have c2 := HC.out w2 HW2.out k xb HXB.out
              have c3 := HC.out w2 HW2.out (n - 1 - k) yb HYB.out
              have hidx : ((n : Int) - 1 - (k : Int)).toNat = n - 1 - k := by omega
              clear hw2
              have hA1 : ab.size ≤ 10000000 := by
                have h1 := hang_len s.data.toList ((ls xs).take k) 1048576 (fun x hx => by
                  obtain ⟨y, hy, rfl⟩ := List.mem_map.1 (List.mem_of_mem_take hx)
                  exact HZ.out y hy)
                rw [← HAB.out, size_list, size_list] at h1
                have h2 := List.length_take_le k (ls xs)
                have h3 := Nat.mul_le_mul_right (1048576 + 1) h2
                omega
              have hB1 : bb.size ≤ 10000000 := by
                have h1 := hang_len s.data.toList ((ls xs).reverse.take k) 1048576 (fun x hx => by
                  obtain ⟨y, hy, rfl⟩ := List.mem_map.1 (List.mem_reverse.1 (List.mem_of_mem_take hx))
                  exact HZ.out y hy)
                rw [← HBB.out, size_list, size_list] at h1
                have h2 := List.length_take_le k (ls xs).reverse
                have h3 := Nat.mul_le_mul_right (1048576 + 1) h2
                omega
              go_wp2
              all_goals first
                | (go_ret; exact ⟨rfl, HW2.out⟩)
                | (have hgd : goodV xb.data.toList = true := good_of HP.out (by omega) (by assumption) (by omega)
                   have hx' : (ls xs)[k]? = some xb.data.toList := by unfold ls; rw [List.getElem?_map, HXB.out]; rfl
                   have hy' : (ls xs).reverse[k]? = some yb.data.toList := by
                     have hl : (ls xs).length = n := by unfold ls; rw [List.length_map]; exact HXL.out
                     rw [List.getElem?_reverse (by omega), hl]
                     unfold ls
                     rw [List.getElem?_map, HYB.out]
                     rfl
                   refine ⟨⟨k + 1, _, _, by omega, by go_num, rfl, rfl, ?_, ?_, ?_, ?_⟩, by simp [intOf]; omega⟩
                   · rw [take_hang _ _ _ _ hx', ← HAB.out]
                     simp [ByteArray.data_append]
                   · rw [take_hang _ _ _ _ hy', ← HBB.out]
                     simp [ByteArray.data_append]
                   · intro x hx
                     rw [take_next hx', List.mem_append] at hx
                     rcases hx with hx | hx
                     · exact HG.out x hx
                     · rw [List.mem_singleton.1 hx]
                       exact hgd
                   · exact HX2.out)
      · have hkk : k = n := by omega
        subst hkk
        have hll : (ls xs).length = k := by unfold ls; rw [List.length_map]; exact HXL.out
        have e1 : (ls xs).take k = ls xs := List.take_of_length_le (by omega)
        have e2 : (ls xs).reverse.take k = (ls xs).reverse := List.take_of_length_le (by simp; omega)
        have h1 := HAB.out
        have h2 := HBB.out
        have h3 := HG.out
        rw [e1] at h1 h3
        rw [e2] at h2
        have hl1 := hang_len s.data.toList (ls xs) 56 (fun x hx => (good_vars (h3 x hx)).2)
        have hl2 := hang_len s.data.toList (ls xs).reverse 56 (fun x hx => (good_vars (h3 x (by simpa using hx))).2)
        have hsl : s.data.toList.length = s.size := rfl
        have hc1 := fun W hW => tcan_any ab W hW (by rw [← size_list, h1]; rw [hll] at hl1; omega)
        have hc2 := fun W hW => tcan_any bb W hW (by rw [← size_list, h2]; rw [List.length_reverse, hll] at hl2; omega)
        rw [h1] at hc1
        rw [h2, hang_can _ _ h3] at hc2
        generalize canP (hang s.data.toList (ls xs)) = C at hc1 hc2
        obtain ⟨cc, code⟩ := C
        simp only at hc1 hc2
        obtain ⟨cb, hcb, _⟩ := strv_b cc
        rw [hcb] at hc1 hc2
        have HC1 := Lib.hid hc1
        have HC2 := Lib.hid hc2
        clear hc1 hc2 hcb hl1 hl2 h1 h2 h3 e1 e2 hll hsl
        go_wp2_with fail
        refine (HC1.out _ (hm.ext (HW1.out.trans HX.out))).mono ?_
        rintro e w2 ⟨rfl, hw2⟩
        have HW2 := Lib.hid ((HW1.out.trans HX.out).trans hw2)
        clear hw2
        go_wp2_with fail
        refine (HC2.out _ (hm.ext HW2.out)).mono ?_
        rintro e w3 ⟨rfl, hw3⟩
        have HW3 := Lib.hid (HW2.out.trans hw3)
        clear hw3
        go_wp2
        go_ret
        exact ⟨rfl, HW3.out⟩

set_option maxRecDepth 100000 in
theorem liftedU (os : Os) (started : os.Started) (H : Type) (enc : TypeId × Value → H) (F : Stop.Interp) :
    ReturnsInHanded {} Tryd.checked os 5 .any ((Rows.OpenSpec.upto Rows.tagVariantsSpec).preRow enc Tryd.prog Tryd.f5 Rows.tagVariantsUptoRow.domain false Rows.tagVariantsUptoRow.laid)
      (((Rows.OpenSpec.upto Rows.tagVariantsSpec).at F).post enc Tryd.prog Tryd.f5 false true false false) := by
  refine returnsInHanded_of_row (C := Tryd.checked) (s := Rows.OpenSpec.upto Rows.tagVariantsSpec) own started (by kernel_rfl) Tryd.func5
    (witness_row_shaped (enc := enc) (C := Tryd.checked) (os := os) false (World.laidAll Tryd.prog os laidL) #[.string ⟨#[]⟩, .slice none 0 0] (World.laidAll_os _ _ _) (World.shaped_of_ZipB (by kernel_rfl) (by kernel_rfl)) (by kernel_rfl)
      (OpenSpec.preRow_of_cond 8 (x := ([.lit (.string []), .nil], [], [])) (by kernel_rfl) (by kernel_rfl) (fun k hk => by cases hk; kernel_rfl) (by kernel_rfl)
        (by rw [MakeChecks.laidMetH_plain _ _ _ (by kernel_rfl)]; exact laidMet_laidAll _ (by kernel_rfl) (by kernel_rfl)))) ?_
  intro W base args ds gs before hval0 hW _ hcond _ hL hshape _
  have hval : ∀ (j : Nat) t v, Tryd.f5.params[j]? = some t → args[j]? = some v → Value.okWide Tryd.prog W .any base t v := hval0
  have hW' := hW
  obtain ⟨p, q, hA0, hV, rfl, hfz, hnd⟩ := hW
  have hA : DataW.TrodAll enc Tryd.prog W 0 (fun _ => true) true Tryd.f5.params.toList args.toList ds p := hA0
  rw [Tryd.params5] at hA hval
  obtain ⟨v0, v1, d0, d1, p0, p1, rfl, rfl, rfl, h0, h1⟩ := trodAll_two hA
  obtain ⟨s, rfl, rfl, rfl, hs⟩ := open_string Tryd.underlying9 (hval 0 9 v0 rfl rfl) h0
  obtain ⟨A, n, c, xs, rfl, hsl, hn, hx⟩ := open_strsU Tryd.underlying23 Tryd.underlying9 (by kernel_rfl) (okWide_slice Tryd.underlying23 (hval 1 23 v1 rfl rfl)) h1
  have hk : Rows.uptoSmall H ([.lit (.string s.data.toList), d1] ++ gs) = true := hcond _ rfl
  have hk2 := of_decide_eq_true hk
  have hb : Rows.uptoBulkAll ([.lit (.string s.data.toList), d1] ++ gs) = (s.size + 1) + (Rows.uptoBulk d1 + Rows.uptoBulkAll gs) := by
    simp only [List.cons_append, List.nil_append, Rows.uptoBulkAll, Rows.uptoBulk]
    rfl
  rw [hb] at hk2
  refine (law s xs A n c W (mx_of hshape) (by omega) hsl (by omega) (fun x h => by have := hx x h; omega)).mono fun e W' ⟨he, hw⟩ => ?_
  subst he
  exact ⟨_, rfl, law_post (t := 4) laidOut (by rw [Tryd.params5]; intro t ht; simp at ht; rcases ht with rfl | rfl <;> exact ⟨by kernel_rfl, of_decide_eq_true (by kernel_rfl)⟩) rfl Tryd.underlying4 rfl ⟨rfl, rfl, rfl⟩ hW' hw⟩

theorem rowU : Rows.tagVariantsUptoRow.holds Tryd.pinned (Rows.OpenSpec.upto Rows.tagVariantsSpec) :=
  OpenClaim.holds_of_cond 5 Tryd.f5 rfl rfl rfl rfl rfl rfl rfl ⟨rfl, rfl, rfl, rfl, rfl⟩ rfl rfl rfl rfl rfl (by kernel_rfl) Tryd.func5 (by kernel_rfl)
    (of_decide_eq_true (by kernel_rfl)) (by unfold Func.isWrapper; first | (rw [if_pos (by decide +kernel)]; kernel_rfl) | (rw [if_neg (by decide +kernel)]; exact ⟨rfl, rfl⟩))
    (fun os started H enc _ F => by rw [OpenClaim.pre_eq_preRow]; exact liftedU os started H enc F)
theorem cardUpto : Rows.TagVariantsUptoCardSaid :=
  Claim7.holds_tied_plain_at .later [] [.data, .pinned] true (true, "b786d81b1336324e40da1fb35184ab8c8cde818ffbbb9534350c230048de5815") false rowU (fun _ h => by cases h) (by kernel_rfl) (fun _ h => by cases h) tagVariantsUpto_row_tie rfl ⟨rfl, rfl⟩ (by kernel_rfl) rfl
    (fun f fn hf hfn => by
      obtain rfl : f = 5 := Option.some.inj ((show Tryd.prog.funcNamed "calque/calquelaw19.TagVariants" = some 5 by kernel_rfl).symm.trans hf) |>.symm
      obtain rfl : fn = Tryd.f5 := (Option.some.inj (Tryd.func5.symm.trans hfn)).symm
      exact ⟨by kernel_rfl, fun j t ht => by
        rw [Tryd.params5] at ht
        have hm : t ∈ [9, 23] := by simpa using Array.mem_of_getElem? ht
        have hall : ([9, 23].all fun u => !Tryd.prog.wantsStandIn u) = true := by kernel_rfl
        exact (show Tryd.prog.wantsStandIn t = false by simpa using List.all_eq_true.1 hall t hm)⟩)
    (by kernel_rfl)
#print axioms cardUpto
end Go.Proofs.YtfcnhodokbnjnaaDoor.lawTagVariants
