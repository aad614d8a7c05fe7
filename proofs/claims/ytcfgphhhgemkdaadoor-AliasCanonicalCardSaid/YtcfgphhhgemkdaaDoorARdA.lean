import Derived.Test.YtcfgphhhgemkdaaDoorARead
import Derived.Test.YtcfgphhhgemkdaaDoorAppN
namespace Go.Proofs.YtcfgphhhgemkdaaDoor
open Go.RowKit
set_option linter.unusedSimpArgs false
set_option linter.unusedVariables false

def RetRules (w : World) (l : List Ali) (e : Ending) (w' : World) : Prop :=
  ∃ A n c xs, e = .returned (.tuple #[.slice A n c, .bool (l.all aliB)]) ∧ Rules w' A n xs ∧ (l.all aliB = true → xs.map (·.r) = l.map ruleOf) ∧ Ext w w'
def RAInv (w : World) (l : List Ali) (n : Nat) (out i : Value) (wr : World) : Prop :=
  ∃ (k : Nat) (xs : List RV), k ≤ n ∧ i = .int .i64 k ∧ wr.ownsRow w.heap.size 47 8 out k (xs.flatMap rvC) ∧ (∀ x ∈ xs, ∀ W0, Kept out.ownBlock wr W0 → RvOk W0 x) ∧
    xs.map (·.r) = (l.take k).map ruleOf ∧ (l.take k).all aliB = true ∧ Ext w wr
theorem Als.at2 {w : World} {A : Option Addr} {n : Nat} {l : List (ByteArray × ByteArray)} (h : Als w A n l) {k : Nat} {x : ByteArray × ByteArray} (hx : l[k]? = some x) :
    ∃ b o, A = some ⟨b, o, none⟩ ∧ b < w.heap.size ∧ w.cell? ⟨b, o + k * 2, none⟩ = some (.string x.1) ∧ w.cell? ⟨b, o + k * 2 + 1, none⟩ = some (.string x.2) := h.at_ hx
theorem Rules.at2 {w : World} {A : Option Addr} {n : Nat} {xs : List RV} (h : Rules w A n xs) {k : Nat} {x : RV} (hx : xs[k]? = some x) :
    ∃ b o, A = some ⟨b, o, none⟩ ∧ b < w.heap.size ∧ ∀ j u, (rvC x)[j]? = some u → w.cell? ⟨b, o + k * 8 + j, none⟩ = some u := by
  obtain ⟨b, o, h1, h2, h3⟩ := h.at_ hx
  exact ⟨b, o, h1, h2, fun j u hu => by rw [Nat.add_assoc]; exact h3 j u hu⟩
theorem rvC_one (x : RV) : ∀ u ∈ rvC x, u.oneCell' = true := by
  intro u hu
  unfold rvC at hu
  simp only [List.mem_cons, List.not_mem_nil, or_false] at hu
  rcases hu with rfl | rfl | rfl | rfl | rfl | rfl | rfl | rfl <;> rfl
theorem RvOk.kept {w w' : World} {x : RV} {row : Option Nat} (h : RvOk w x) (hk : Kept row w w') (hA : ∀ ad, x.A = some ad → some ad.block ≠ row) (hB : ∀ ad, x.B = some ad → some ad.block ≠ row) : RvOk w' x :=
  ⟨h.1.kept hk hA, h.2.kept hk hB⟩
theorem all_take_false {l : List Ali} {k : Nat} {a : Ali} (ha : l[k]? = some a) (h : aliB a = false) : l.all aliB = false := by
  rw [List.all_eq_false]
  exact ⟨a, List.mem_of_getElem? ha, by rw [h]; simp⟩

theorem rvC_b (x : RV) : ∃ b0 b1 b2 b3 b4 b5 : ByteArray, rvC x = [.string b0, .string b1, .string b2, .slice x.A x.n x.c, .string b3, .string b4, .string b5, .slice x.B x.m x.d] :=
  ⟨_, _, _, _, _, _, rfl⟩

set_option maxHeartbeats 2000000 in
set_option maxRecDepth 100000 in
theorem readAll_any (l : List Ali) (A : Option Addr) (n c : Nat) (w : World) (hm : Mx w) (hA : Als w A n l) (hn : n ≤ 100000) (hz : ∀ a ∈ l, a.1.size ≤ 60000 ∧ a.2.size ≤ 60000) :
    Calls Tryd.prog 22 #[.slice A n c] w (RetRules w l) := by
  obtain ⟨i0, hi, hz0, hz1, hz2⟩ := info_parts (show (Tryd.prog.info? 47).map (fun i => (i.zero, i.size, i.bytes)) = some (some (.agg #[.string ⟨#[]⟩, .string ⟨#[]⟩, .string ⟨#[]⟩, .slice none 0 0, .string ⟨#[]⟩, .string ⟨#[]⟩, .string ⟨#[]⟩, .slice none 0 0]), 8, 144) from by kernel_rfl)
  have hl := hA.len
  have HA := Lib.hid hA
  have HL := Lib.hid hl
  have HZ := Lib.hid hz
  clear hA hl hz
  go_enter Tryd.func22, Tryd.ntmps22
  go_wp2_with fail
  go_loopw [4, 11] (RAInv w l n) (fun _ i _ => n - (intOf i).toNat)
  case atStart => exact ⟨0, [], Nat.zero_le _, rfl, World.ownsRow_nil w w.heap.size _ 8, by simp, by simp, by simp, Ext.refl _⟩
  case round =>
    obtain ⟨k, xs, hk, rfl, how, hrv, hmap, hall, hw⟩ := hrel
    have HOW := Lib.hid how
    have HRV := Lib.hid hrv
    have HMAP := Lib.hid hmap
    have HALL := Lib.hid hall
    have HW := Lib.hid hw
    clear how hrv hmap hall hw
    by_cases hkn : k < n
    · obtain ⟨a, ha⟩ : ∃ a, l[k]? = some a := ⟨_, List.getElem?_eq_getElem (by have := HL.out; omega)⟩
      obtain ⟨b, o, rfl, hb, c0, c1⟩ := (HA.out.ext HW.out).at2 ha
      obtain ⟨z1, z2⟩ := HZ.out a (List.mem_of_getElem? ha)
      obtain ⟨fb, ob⟩ := a
      simp only at c0 c1 z1 z2
      have HAK := Lib.hid ha
      clear ha
      have hrd := fun W hW => read_any fb ob W hW z1 z2
      cases hal : aliB (fb, ob) with
      | false =>
        unfold RetRule at hrd
        rw [hal] at hrd
        have HRD := Lib.hid hrd
        have HAL := Lib.hid hal
        clear hrd hal
        go_wp2_with fail
        refine (HRD.out _ (hm.ext (HW.out.alloc _))).mono ?_
        rintro e w2 ⟨x, he, _, _, hw2, _, _⟩
        obtain ⟨b0, b1, b2, b3, b4, b5, hrc⟩ := rvC_b x
        rw [hrc] at he
        subst he
        clear hrc
        have HW2 := Lib.hid ((HW.out.alloc _).trans hw2)
        clear hw2
        go_wp2
        go_ret2
        exact ⟨none, 0, 0, [], by rw [all_take_false HAK.out HAL.out]; rfl, ⟨SlN.nil _ _ _, by simp⟩, (fun h => by rw [all_take_false HAK.out HAL.out] at h; cases h), HW2.out.alloc _⟩
      | true =>
        unfold RetRule at hrd
        rw [hal] at hrd
        have HRD := Lib.hid hrd
        have HAL := Lib.hid hal
        clear hrd hal
        go_wp2_with fail
        refine (HRD.out _ (hm.ext (HW.out.alloc _))).mono ?_
        rintro e w2 ⟨x, he, hru, hrv2, hw2, hf1, hf2⟩
        obtain ⟨b0, b1, b2, b3, b4, b5, hrc⟩ := rvC_b x
        rw [hrc] at he
        subst he
        have hone := rvC_one x
        rw [hrc] at hone
        have HONE := Lib.hid hone
        have HRC := Lib.hid hrc
        clear hrc hone
        have hnews : ∀ j u, [.string b0, .string b1, .string b2, .slice x.A x.n x.c, .string b3, .string b4, .string b5, .slice x.B x.m x.d][j]? = some u → ((w2.alloc (.cells #[.string b0, .string b1, .string b2, .slice x.A x.n x.c, .string b3, .string b4, .string b5, .slice x.B x.m x.d] 47)).alloc (.cells #[.string b0, .string b1, .string b2, .slice x.A x.n x.c, .string b3, .string b4, .string b5, .slice x.B x.m x.d] 47)).cell? ((⟨w2.heap.size + 1, 0, none⟩ : Addr).add j) = some u := by
          have h := new_cells (w2.alloc (.cells #[.string b0, .string b1, .string b2, .slice x.A x.n x.c, .string b3, .string b4, .string b5, .slice x.B x.m x.d] 47)) #[.string b0, .string b1, .string b2, .slice x.A x.n x.c, .string b3, .string b4, .string b5, .slice x.B x.m x.d] 47
          rw [show (w2.alloc (.cells #[.string b0, .string b1, .string b2, .slice x.A x.n x.c, .string b3, .string b4, .string b5, .slice x.B x.m x.d] 47)).heap.size = w2.heap.size + 1 from by simp] at h
          exact h
        have HN := Lib.hid hnews
        have HWX := Lib.hid (show Ext wr ((w2.alloc (.cells #[.string b0, .string b1, .string b2, .slice x.A x.n x.c, .string b3, .string b4, .string b5, .slice x.B x.m x.d] 47)).alloc (.cells #[.string b0, .string b1, .string b2, .slice x.A x.n x.c, .string b3, .string b4, .string b5, .slice x.B x.m x.d] 47)) from ((((Ext.refl wr).alloc _).trans hw2).alloc _).alloc _)
        have HOX := Lib.hid (own_ext HOW.out HWX.out)
        have HRU := Lib.hid hru
        have HRV2 := Lib.hid ((hrv2.ext ((Ext.refl _).alloc (.cells #[.string b0, .string b1, .string b2, .slice x.A x.n x.c, .string b3, .string b4, .string b5, .slice x.B x.m x.d] 47))).ext ((Ext.refl _).alloc (.cells #[.string b0, .string b1, .string b2, .slice x.A x.n x.c, .string b3, .string b4, .string b5, .slice x.B x.m x.d] 47)))
        have HF1 := Lib.hid hf1
        have HF2 := Lib.hid hf2
        clear hru hrv2 hw2 hf1 hf2 hnews
        go_wp2_with (at_builtin; refine wpList_appN _ rfl _ _ 53 rfl w.heap.size 47 i0 _ 8 144 Tryd.underlying53 hi hz0 hz1 hz2 rfl (by decide) _ k _ rfl HOX.out ⟨w2.heap.size + 1, 0, none⟩ 1 1 _ rfl rfl HN.out HONE.out (by unfold maxLen; omega) (by omega) (HW.out.trans HWX.out).size ?_; intro v' w3 hown' hgrow hwhere; have HO' := Lib.hid hown'; have HG' := Lib.hid hgrow; have HWH := Lib.hid hwhere; clear hown' hgrow hwhere)
        have hkx : ∀ W0, Kept v'.ownBlock w3 W0 → Kept u4.ownBlock ((w2.alloc (.cells #[.string b0, .string b1, .string b2, .slice x.A x.n x.c, .string b3, .string b4, .string b5, .slice x.B x.m x.d] 47)).alloc (.cells #[.string b0, .string b1, .string b2, .slice x.A x.n x.c, .string b3, .string b4, .string b5, .slice x.B x.m x.d] 47)) W0 := fun W0 hk0 => Kept.trans (Kept.grown HG'.out) hk0 HWH.out
        refine ⟨⟨k + 1, xs ++ [x], by omega, by go_num, ?_, ?_, ?_, ?_, (HW.out.trans HWX.out).grown HG'.out (own_lt HOW.out)⟩, by simp [intOf]; omega⟩
        · have h := HO'.out
          rw [List.flatMap_append]
          have e1 : [x].flatMap rvC = rvC x := by simp
          rw [e1, HRC.out]
          exact h
        · intro x' hx W0 hk0
          rcases List.mem_append.1 hx with hx | hx
          · exact HRV.out x' hx W0 (Kept.trans (Kept.ext _ HWX.out) (hkx W0 hk0) (.inl rfl))
          · obtain rfl := List.mem_singleton.1 hx
            refine HRV2.out.kept (hkx W0 hk0) (fun ad had hr => ?_) (fun ad had hr => ?_)
            · have h1 := (HOW.out.lt _ hr.symm).2
              have h2 := HF1.out ad had
              simp at h2
              omega
            · have h1 := (HOW.out.lt _ hr.symm).2
              have h2 := HF2.out ad had
              simp at h2
              omega
        · rw [take_next HAK.out, List.map_append, List.map_append, HMAP.out]
          simp only [List.map_cons, List.map_nil]
          rw [HRU.out]
        · rw [take_next HAK.out, List.all_append, HALL.out]
          simp [HAL.out]
    · have hkk : k = n := by omega
      subst hkk
      obtain ⟨A', c', hv, hsl⟩ := own_slN HOW.out
      subst hv
      have HSL := Lib.hid hsl
      have hall : l.all aliB = true := by
        have h := HALL.out
        rwa [List.take_of_length_le (by have := HL.out; omega)] at h
      have HALL2 := Lib.hid hall
      clear hsl hall
      go_wp2
      go_ret2
      refine ⟨A', k, c', xs, by rw [HALL2.out]; rfl, ⟨HSL.out, fun x hx => HRV.out x hx wr (Kept.refl _ _)⟩, fun _ => ?_, HW.out⟩
      have h := HMAP.out
      rwa [List.take_of_length_le (by have := HL.out; omega)] at h
end Go.Proofs.YtcfgphhhgemkdaaDoor
