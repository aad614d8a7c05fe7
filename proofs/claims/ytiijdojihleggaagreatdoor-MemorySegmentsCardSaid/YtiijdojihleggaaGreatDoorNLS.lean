import Derived.Test.YtiijdojihleggaaGreatDoorNB1
import Derived.Test.YtiijdojihleggaaGreatDoorNZK
import Derived.Test.YtiijdojihleggaaGreatDoorNZM
import Derived.Test.YtiijdojihleggaaGreatDoorShelf
import Derived.Test.YtiijdojihleggaaGreatDoorRows
import Derived.Test.YtiijdojihleggaaGreatDoorCards
import Derived.Test.YtiijdojihleggaaGreatDoorTie
import Derived.Shelf.Vars
set_option maxRecDepth 100000
set_option linter.unusedSimpArgs false
set_option linter.unusedVariables false
open Go.Lib (hid)
namespace Go.Proofs.YtiijdojihleggaaGreatDoor
open Go.ChangeShapes Go.WideShapes Go.ChangeAt Go.RowKit
section
variable {H : Type} {enc : TypeId × Value → H} {P : Program}
def strAt (v : Option Value) : ByteArray := match v with | some (.string s) => s | _ => ByteArray.empty
theorem open_als {t e ti : TypeId} {f0 f1 : Field} {W : World} {v : Value} {d : DataW H} {ps : List MemPlace} (ht : P.underlying t = some (.slice e)) (he : P.underlying e = some (.struct #[f0, f1]))
 (hi : P.underlying ti = some .string) (ht0 : f0.type = ti) (ht1 : f1.type = ti) (ho0 : f0.offset = 0) (ho1 : f1.offset = 1) (hci : P.cellsOf ti = 1) (hc : P.cellsOf e = 2)
 (hv : ∃ A n c, v = .slice A n c) (h : DataW.Trod enc P W 0 (fun _ => true) true t v d ps) :
 ∃ (A : Option Addr) (n c : Nat) (l : List (ByteArray × ByteArray)), v = .slice A n c ∧ Als W A n l ∧ n ≤ maxLen ∧ ∀ a ∈ l, a.1.size ≤ maxLen ∧ a.2.size ≤ maxLen := by
 obtain ⟨A, n, c, rfl⟩ := hv
 obtain ⟨fuel, hf⟩ := h
 rcases DataW.trod_slice ht hf with ⟨hcs, _⟩ | ⟨a, len, cap, elems, rest, k, _, hcs, _, _, hl, hm, hlen, hel, _, _⟩
 ·simp [Value.cells] at hcs
  obtain ⟨rfl, rfl, rfl⟩ := hcs
  exact ⟨none, 0, 0, [], rfl, SlN.nil _ _ _, Nat.zero_le _, by simp⟩
 ·simp [Value.cells] at hcs
  obtain ⟨rfl, rfl, rfl⟩ := hcs
  have each : ∀ i, i < n → ∃ x y : ByteArray, W.cell? (a.add (i * 2)) = some (.string x) ∧ W.cell? ((a.add (i * 2)).add 1) = some (.string y) ∧ x.size ≤ maxLen ∧ y.size ≤ maxLen := by
   intro i hi'
   have h1 := hel i hi'
   rw [List.getElem?_eq_getElem (by omega), hc, Option.bind_eq_some_iff] at h1
   obtain ⟨cs', h2, h3⟩ := h1
   obtain ⟨y0, y1, m, _, hl2, h4, h5⟩ := trod_struct2 he h3
   rw [hc] at hl2
   rw [ht0, ho0, hci] at h4
   rw [ht1, ho1, hci] at h5
   obtain ⟨x, e4, _, z4⟩ := DataW.trod_string hi h4
   obtain ⟨y, e5, _, z5⟩ := DataW.trod_string hi h5
   obtain ⟨_, h7, h8⟩ := World.cells?_some h2
   match cs', hl2, e4, e5 with
   | [c0, c1], _, e4, e5 =>
     simp at e4 e5
     subst e4; subst e5
     exact ⟨x, y, by have h9 := h8 0 (by omega); exact h9, by have h9 := h8 1 (by omega); exact h9, z4, z5⟩
  let l : List (ByteArray × ByteArray) := (List.range n).map fun i => (strAt (W.cell? (a.add (i * 2))), strAt (W.cell? ((a.add (i * 2)).add 1)))
  have hll : l.length = n := by simp [l]
  refine ⟨some a, n, c, l, rfl, ⟨by rw [flat_len aliC 2 (fun _ => rfl), hll], ?_⟩, Nat.le_trans hl hm, ?_⟩
  ·intro j u hu
   have hjl : j < (l.flatMap aliC).length := (List.getElem?_eq_some_iff.1 hu).1
   rw [flat_len aliC 2 (fun _ => rfl), hll] at hjl
   have hn0 : 0 < n := by omega
   obtain ⟨x0, y0, z1, z2, _⟩ := each 0 (by omega)
   obtain ⟨b, o, sp⟩ := a
   have hs : sp = none := by
    have z1' : W.cell? ⟨b, o, sp⟩ = some (.string x0) := by simpa [Addr.add] using z1
    exact World.cell?_spot z1'
   subst hs
   have ea : ∀ t, (⟨b, o, none⟩ : Addr).add t = ⟨b, o + t, none⟩ := by
    intro t
    unfold Addr.add
    split
    ·subst_vars; rfl
    ·rfl
   obtain ⟨x, y, e1, e2, _⟩ := each (j / 2) (by omega)
   have e3 : ((⟨b, o, none⟩ : Addr).add (j / 2 * 2)).add 1 = ⟨b, o + (j / 2 * 2 + 1), none⟩ := by rw [ea]; rfl
   rw [e3] at e2
   rw [ea] at e1
   have hlj : l[j / 2]? = some (x, y) := by
    have hj2 : j / 2 < l.length := by omega
    have hg : l[j / 2] = (strAt (W.cell? ((⟨b, o, none⟩ : Addr).add (j / 2 * 2))), strAt (W.cell? (((⟨b, o, none⟩ : Addr).add (j / 2 * 2)).add 1))) := by simp [l]
    rw [List.getElem?_eq_getElem hj2, hg, e3, ea, e1, e2]
    rfl
   refine ⟨b, o, rfl, World.block_lt_of_cell? W ⟨b, o + j / 2 * 2, none⟩ e1, ?_⟩
   rcases Nat.mod_two_eq_zero_or_one j with hm2 | hm2
   ·have hj : j / 2 * 2 + 0 = j := by omega
    have := flat_get aliC 2 (fun _ => rfl) l (j / 2) 0 _ hlj (by omega)
    rw [hj, hu] at this
    injection this with this
    have hj2 : j = j / 2 * 2 := by omega
    rw [hj2, e1, this]
   ·have hj : j / 2 * 2 + 1 = j := by omega
    have := flat_get aliC 2 (fun _ => rfl) l (j / 2) 1 _ hlj (by omega)
    rw [hj, hu] at this
    injection this with this
    rw [← hj, e2, this]
  ·intro p hp
   obtain ⟨i, hi', rfl⟩ := List.mem_map.1 hp
   obtain ⟨x, y, e1, e2, z1, z2⟩ := each i (by simpa using hi')
   rw [e1, e2]
   exact ⟨z1, z2⟩
end
end Go.Proofs.YtiijdojihleggaaGreatDoor
namespace Go.Proofs.YtiijdojihleggaaGreatDoor.lawMemorySegments
open Go.ChangeShapes Go.WideShapes Go.ChangeAt Go.RowKit
set_option maxHeartbeats 8000000 in
theorem law (l : List SgP) (A : Option Addr) (n c : Nat) (i : Int) (w : World) (hm : Mx w) (hA : Als w A n l) (hl : ∀ x ∈ l, x.1.size ≤ maxLen ∧ x.2.size ≤ maxLen) (hn : n ≤ maxLen) :
 Calls Tryz.prog 3 #[.slice A n c, .int .i64 i] w (RetTrue w) := by
 have HM := hid hm
 have HA := hid hA
 have KF := hid (fun W (hW : Ext w W) => rFew_any l A n c W (hA.ext hW) hl hn)
 obtain ⟨fw, hfw⟩ : ∃ b, b = fewM l := ⟨_, rfl⟩
 rw [← hfw] at KF
 have HFW := hid hfw
 clear hm hA hl hn hfw
 go_enter Tryz.func3, Tryz.ntmps3
 go_wp2_with fail
 refine (awake_any _ HM.out).mono ?_
 rintro e w1 ⟨rfl, hw1⟩
 have HW1 := hid hw1
 clear hw1
 go_wp2_with fail
 refine (KF.out _ HW1.out).mono ?_
 rintro e w2 ⟨rfl, rfl⟩
 cases fw
 ·go_wp2
  go_ret
  exact ⟨rfl, HW1.out⟩
 have HFS := hid (few_spec HFW.out.symm)
 go_wp2_with fail
 refine (build_any l A n c w2 (HA.out.ext HW1.out) HFS.out).mono ?_
 rintro e w3 ⟨gm, A3, c3, rfl, T, hmt, _, _, hal, hx3⟩
 obtain ⟨M, hM⟩ : ∃ M, M = buildM l := ⟨_, rfl⟩
 rw [← hM] at hmt hal ⊢
 have hMl : M.length ≤ 30 := by rw [hM, ← bld_all]; have := bld_len l l.length; have := HFS.out.1; omega
 have HMT := hid hmt
 have HAL := hid hal
 have HX3 := hid (HW1.out.trans hx3)
 clear hmt hal hx3 hM
 go_wp2_with fail
 refine (tGet_any HMT.out i (by omega)).mono ?_
 rintro e w4 ⟨hg, hx4⟩
 have HAL4 := hid (HAL.out.ext hx4)
 have HX4 := hid (HX3.out.trans hx4)
 clear hx4
 rcases hg with ⟨j, x, rfl, hx, rfl⟩ | ⟨hi, rfl⟩
 ·obtain ⟨b, o, rfl, hb, c0, c1⟩ := HAL4.out.at_ hx
  rw [← Nat.add_assoc] at c1
  have hj : j < M.length := (List.getElem?_eq_some_iff.1 hx).1
  have hjI : (j : Int) < (M.length : Int) := by omega
  have hj0 : (0 : Int) ≤ (j : Int) := by omega
  have hj1 : ¬ (j : Int) < 0 := by omega
  have hj2 : ¬ (M.length : Int) ≤ (j : Int) := by omega
  obtain ⟨p, q⟩ := x
  simp only at c0 c1
  clear hx
  go_wp2
  go_ret
  exact ⟨by simp, HX4.out⟩
 ·rcases hi with hi | hi
  ·go_wp2
   go_ret
   exact ⟨by simp, HX4.out⟩
  ·have hi0 : ¬ i < 0 := by omega
   go_wp2
   go_ret
   exact ⟨by simp, HX4.out⟩
end Go.Proofs.YtiijdojihleggaaGreatDoor.lawMemorySegments
namespace Go.Proofs.YtiijdojihleggaaGreatDoor.lawMemorySegments
open Go.ChangeShapes Go.WideShapes Go.ChangeAt Go.RowKit
open Go.ChangeMaps (open_string shut_string)
def laidL : List (String × DataW Unit) := Rows.memorySegmentsRow.laid
theorem mx_of {W : World} (h : W.ShapedOpen Tryz.prog) : Mx W := Go.Proofs.cell_of_shapedOpen_int (zero := #[.int .i64 0]) (t := 3) h (of_decide_eq_true (by kernel_rfl)) (by kernel_rfl) rfl (by kernel_rfl) (by kernel_rfl) Tryz.underlying3
theorem lifted (os : Os) (started : os.Started) (H : Type) (enc : TypeId × Value → H) :
 ReturnsInHanded {} Tryz.checked os 3 .any (fun w args => (Rows.memorySegmentsSpec.pre enc Tryz.prog Tryz.f3 [] false w args ∧ laidMetH Tryz.prog laidL w) ∧ sizedMet enc Tryz.prog Tryz.f3 (OpenSpec.ofChange Rows.memorySegmentsSpec) false w args)
  (Rows.memorySegmentsSpec.post enc Tryz.prog Tryz.f3 false true false false) := by
 refine lifted_and_sized (C := Tryz.checked) (X := fun w _ => laidMetH Tryz.prog laidL w) (fun _ _ _ hh h => h.of_heap hh) own started (by kernel_rfl) Tryz.func3
  (ChangeSpec.witness_shaped (enc := enc) (C := Tryz.checked) (os := os) (X := fun w _ => laidMetH Tryz.prog laidL w) false (World.laidAll Tryz.prog os laidL) #[.slice none 0 0, .int .i64 0] 8 (World.laidAll_os _ _ _)
   (World.shaped_of_ZipB (by kernel_rfl) (by kernel_rfl)) (by kernel_rfl) (by kernel_rfl) (by kernel_rfl)
   (by rw [MakeChecks.laidMetH_plain _ _ _ (by kernel_rfl)]; exact laidMet_laidAll _ (by kernel_rfl) (by kernel_rfl))) ?_
 intro W base args ds gs before hval0 hW hL hshape hsz0
 have hval : ∀ (j : Nat) t v, Tryz.f3.params[j]? = some t → args[j]? = some v → Value.okWide Tryz.prog W .any base t v := hval0
 have hW' := hW
 obtain ⟨p, q, hA0, hV, rfl, hfz, hnd⟩ := hW
 have hA : DataW.TrodAll enc Tryz.prog W 0 (fun _ => true) true Tryz.f3.params.toList args.toList ds p := hA0
 obtain ⟨rfl, rfl⟩ := trodVars_none hV
 have hsz : ∀ m ∈ DataW.weightsEach Tryz.prog Tryz.f3.params.toList ds, m ≤ reachBytes := fun m hm => hsz0 m (by
  rw [List.append_nil, show Rows.memorySegmentsSpec.plain.varTypes Tryz.checked.prog = [] from rfl, List.append_nil]
  exact hm)
 rw [Tryz.params3] at hA hval hsz
 obtain ⟨v0, v1, d0, d1, p0, p1, rfl, rfl, rfl, h0, h1⟩ := trodAll_two hA
 obtain ⟨Al, nl, cl, l, rfl, hals, hnl, hzl⟩ := open_als Tryz.underlying22 Tryz.underlying31 Tryz.underlying9 rfl rfl rfl rfl (by kernel_rfl) (by kernel_rfl) (okWide_slice Tryz.underlying22 (hval 0 22 v0 rfl rfl)) h0
 obtain ⟨x, rfl, rfl, rfl, wx⟩ := open_int Tryz.underlying3 (hval 1 3 v1 rfl rfl) h1
 refine (law l Al nl cl x W (mx_of hshape) hals hzl hnl).mono fun e W' ⟨he, hw⟩ => ?_
 subst he
 exact ⟨_, rfl, law_post (t := 4) laidOut (by rw [Tryz.params3]; intro t ht; simp at ht; rcases ht with rfl | rfl <;> exact ⟨by kernel_rfl, of_decide_eq_true (by kernel_rfl)⟩) rfl Tryz.underlying4 rfl ⟨rfl, rfl, rfl⟩ hW' hw⟩
end Go.Proofs.YtiijdojihleggaaGreatDoor.lawMemorySegments
