import Derived.Test.YtehcldnicefmeaaGreatDoorNX4
import Derived.Test.YtehcldnicefmeaaGreatDoorNXK
namespace Go.Proofs.YtehcldnicefmeaaGreatDoor
open Go.RowKit
set_option linter.unusedSimpArgs false
set_option linter.unusedVariables false

/-! The tags of a list of strings, by the reference. -/
set_option maxHeartbeats 2000000 in
set_option maxRecDepth 100000 in
theorem rtags_any (l : List ByteArray) (A : Option Addr) (n c : Nat) (w : World) (hA : Sl w A n (l.map .string)) (hn : n ≤ 100000) (hz : ∀ s ∈ l, s.size ≤ 60000) :
    Calls Tryz.prog 134 #[.slice A n c] w (RetTags w (dl l)) := by
  obtain ⟨i0, hi, hz0, hz1, hz2⟩ := info_parts (show (Tryz.prog.info? 167).map (fun i => (i.zero, i.size, i.bytes)) = some (some (.agg #[.string ⟨#[]⟩, .string ⟨#[]⟩, .string ⟨#[]⟩, .slice none 0 0]), 4, 72) from by kernel_rfl)
  have hla : l.length = n := by have := hA.1; simpa using this
  have hld : (dl l).length = n := by unfold dl; simpa using hla
  have HA := Lib.hid hA
  have HL := Lib.hid hla
  have HD := Lib.hid hld
  have HZ := Lib.hid hz
  clear hA hla hz hld
  go_enter Tryz.func134, Tryz.ntmps134
  go_wp2_with fail
  go_loopw [4, 5] (TagsInv 167 w (dl l) n) (fun _ i _ => n - (intOf i).toNat)
  case atStart => exact ⟨0, [], Nat.zero_le _, rfl, World.ownsRow_nil w w.heap.size _ 4, (fun x hx => by cases hx), by simp [readP], Ext.refl _⟩
  case round =>
    obtain ⟨k, xs, hk, rfl, how, htv, hrd, hw⟩ := hrel
    have HOW := Lib.hid how
    have HTV := Lib.hid htv
    have HRD := Lib.hid hrd
    have HW := Lib.hid hw
    clear how htv hrd hw
    by_cases hkn : k < n
    · obtain ⟨ad, x, rfl, hu, hc⟩ := (HA.out.ext HW.out).at_map hkn
      have hx := HZ.out x (List.mem_of_getElem? hu)
      have HX := Lib.hid (show (dl l)[k]? = some x.data.toList from by unfold dl; rw [List.getElem?_map, hu]; rfl)
      clear hu
      have hp := fun W (h : Ext w W) => rparse_fresh x W (by omega)
      obtain ⟨R, hR⟩ : ∃ R, R = parseP EC x.data.toList := ⟨_, rfl⟩
      rw [← hR] at hp
      obtain ⟨t, code⟩ := R
      obtain ⟨b0, hb0, _⟩ := strv_b t.lang
      obtain ⟨b1, hb1, _⟩ := strv_b t.script
      obtain ⟨b2, hb2, _⟩ := strv_b t.region
      unfold tagV at hp
      simp only [hb0, hb1, hb2] at hp
      have HB := Lib.hid (And.intro hb0 (And.intro hb1 hb2))
      have HP := Lib.hid hp
      have HR := Lib.hid hR
      clear hp hR hb0 hb1 hb2
      by_cases h0 : code = 0
      · subst h0
        go_wp2_with fail
        refine (HP.out _ HW.out).mono ?_
        rintro e w2 ⟨A2, n2, c2, rfl, hs2, hn2, hw2, hf2⟩
        have hnews : ∀ j u, [Value.string b0, .string b1, .string b2, .slice A2 n2 c2][j]? = some u → ((w2.alloc (.cells #[.string b0, .string b1, .string b2, .slice A2 n2 c2] 167)).alloc (.cells #[.string b0, .string b1, .string b2, .slice A2 n2 c2] 167)).cell? ((⟨w2.heap.size + 1, 0, none⟩ : Addr).add j) = some u := by
          have h := new_cells (w2.alloc (.cells #[.string b0, .string b1, .string b2, .slice A2 n2 c2] 167)) #[.string b0, .string b1, .string b2, .slice A2 n2 c2] 167
          rw [show (w2.alloc (.cells #[.string b0, .string b1, .string b2, .slice A2 n2 c2] 167)).heap.size = w2.heap.size + 1 from by simp] at h
          exact h
        have HN := Lib.hid hnews
        have HONE := Lib.hid (show ∀ u ∈ [Value.string b0, .string b1, .string b2, .slice A2 n2 c2], u.oneCell' = true from by intro u hu; simp at hu; rcases hu with rfl | rfl | rfl | rfl <;> rfl)
        have HWX := Lib.hid (show Ext wr ((w2.alloc (.cells #[.string b0, .string b1, .string b2, .slice A2 n2 c2] 167)).alloc (.cells #[.string b0, .string b1, .string b2, .slice A2 n2 c2] 167)) from (hw2.alloc _).alloc _)
        have HOX := Lib.hid (own_ext HOW.out HWX.out)
        have HS2 := Lib.hid (hs2.ext (((Ext.refl w2).alloc (.cells #[.string b0, .string b1, .string b2, .slice A2 n2 c2] 167)).alloc (.cells #[.string b0, .string b1, .string b2, .slice A2 n2 c2] 167)))
        have HF2 := Lib.hid hf2
        clear hs2 hw2 hf2 hnews
        go_wp2_with (at_builtin; refine wpList_appN _ rfl _ _ 163 rfl w.heap.size 167 i0 _ 4 72 Tryz.underlying163 hi hz0 hz1 hz2 rfl (by decide) _ k _ rfl HOX.out ⟨w2.heap.size + 1, 0, none⟩ 1 1 _ rfl rfl HN.out HONE.out (by unfold maxLen; omega) (by omega) (HW.out.trans HWX.out).size ?_; intro v' w3 hown' hgrow hwhere; have HO' := Lib.hid hown'; have HG' := Lib.hid hgrow; have HWH := Lib.hid hwhere; clear hown' hgrow hwhere)
        have hkx : ∀ W0, Kept v'.ownBlock w3 W0 → Kept u4.ownBlock ((w2.alloc (.cells #[.string b0, .string b1, .string b2, .slice A2 n2 c2] 167)).alloc (.cells #[.string b0, .string b1, .string b2, .slice A2 n2 c2] 167)) W0 := fun W0 hk0 => Kept.trans (Kept.grown HG'.out) hk0 HWH.out
        refine ⟨⟨k + 1, xs ++ [⟨t, A2, n2, c2⟩], by omega, by go_num, ?_, ?_, ?_, (HW.out.trans HWX.out).grown HG'.out (own_lt HOW.out)⟩, by simp [intOf]; omega⟩
        · have h := HO'.out
          rw [List.flatMap_append]
          have e1 : [(⟨t, A2, n2, c2⟩ : TV)].flatMap tvC = [.string b0, .string b1, .string b2, .slice A2 n2 c2] := by
            simp [tvC, HB.out.1, HB.out.2.1, HB.out.2.2]
          rw [e1]
          exact h
        · intro x' hx' W0 hk0
          rcases List.mem_append.1 hx' with hx' | hx'
          · exact HTV.out x' hx' W0 (Kept.trans (Kept.ext _ HWX.out) (hkx W0 hk0) (.inl rfl))
          · obtain rfl := List.mem_singleton.1 hx'
            refine TvOk.kept (show TvOk _ _ from HS2.out) (hkx W0 hk0) (fun ad had hr => ?_)
            have h1 := (HOW.out.lt _ hr.symm).2
            have h2 := HF2.out ad had
            omega
        · rw [take_next HX.out]
          have h1 := HRD.out
          rw [read_app (by rw [h1]) (by rw [← HR.out]), h1, ← HR.out]
          simp
      · have hnz : (code == 0) = false := by simpa using h0
        go_wp2_with fail
        refine (HP.out _ HW.out).mono ?_
        rintro e w2 ⟨A2, n2, c2, rfl, hs2, hn2, hw2, hf2⟩
        have HW2 := Lib.hid (HW.out.trans hw2)
        clear hs2 hw2 hf2
        go_wp2
        go_ret2
        have hst := read_stop HX.out (by rw [HRD.out]) (by rw [← HR.out]; exact h0)
        rw [← HR.out] at hst
        exact ⟨none, 0, 0, [], by rw [hst]; rfl, Tgs.nil _ _, by rw [hst]; rfl, HW2.out.alloc _⟩
    · have hkk : k = n := by omega
      subst hkk
      obtain ⟨A', c', hv, hsl⟩ := own_slN HOW.out
      subst hv
      have HSL := Lib.hid hsl
      have hrd : readP EC (dl l) = (xs.map (·.t), 0) := by
        have h := HRD.out
        rwa [List.take_of_length_le (by rw [HD.out]; exact Nat.le_refl _)] at h
      have HRD2 := Lib.hid hrd
      clear hsl hrd
      go_wp2
      go_ret2
      exact ⟨A', k, c', xs, by rw [HRD2.out]; rfl, ⟨HSL.out, fun x hx => HTV.out x hx wr (Kept.refl _ _)⟩, by rw [HRD2.out], HW.out⟩
end Go.Proofs.YtehcldnicefmeaaGreatDoor
