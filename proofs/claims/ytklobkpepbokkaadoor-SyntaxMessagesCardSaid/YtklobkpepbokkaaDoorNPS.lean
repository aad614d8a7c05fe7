import Derived.Test.YtklobkpepbokkaaDoorNPR
import Derived.Test.YtklobkpepbokkaaDoorHb
import Derived.Test.YtklobkpepbokkaaDoorId
import Derived.Test.YtklobkpepbokkaaDoorGj
import Derived.Test.YtklobkpepbokkaaDoorLift
import Derived.Test.YtklobkpepbokkaaDoorShelf
import Derived.Test.YtklobkpepbokkaaDoorRows
import Derived.Test.YtklobkpepbokkaaDoorCards
import Derived.Test.YtklobkpepbokkaaDoorTie
import Derived.Shelf.Vars
import Derived.Test.YtklobkpepbokkaaDoorArr
namespace Go.Proofs.YtklobkpepbokkaaDoor.lawSyntaxMessages
open Go.ChangeShapes Go.WideShapes Go.ChangeAt Go.RowKit
set_option linter.unusedSimpArgs false
set_option linter.unusedVariables false

/-- What is asked of the parts within a part. -/
structure Okq (f q : F) : Prop where
  vf : validF true q = true
  v : countB q = false → validF false q = true
  can : Can q
  wt : wt q ≤ 40000000
  nodes : q.nodes < 100000000
theorem okq {f q : F} {s : By} (h : parseR false s = .ok f) (hi : Inner q f) (hc : Can q) (hw : wt q ≤ wt f) (hn : q.nodes ≤ f.nodes) : Okq f q := by
  obtain ⟨h1, h2, h3⟩ := parse_fit h
  obtain ⟨i1, i2⟩ := inner_valid hi (parse_valid h)
  exact ⟨i1, i2, hc, by omega, by omega⟩
set_option maxHeartbeats 8000000 in
set_option maxRecDepth 100000 in
theorem law (s : ByteArray) (a b : Nat) (w : World) (hm : Mx w) (hs : s.size ≤ maxLen) (ha : a < 256) (hb : b < 256) : Calls Tryd.prog 6 #[.string s, .agg #[.int .u8 a, .int .u8 b]] w (RetTrue w) := by
  unfold maxLen at hs
  have HM := Lib.hid hm
  have HXA := Lib.hid ((Ext.refl w).alloc (.cells #[.int .u8 a, .int .u8 b] 38))
  have HQA := Lib.hid (AtC.new w #[.int .u8 a, .int .u8 b] : AtC 38 _ _ _)
  by_cases hlt : 4000 < s.size
  · clear hm
    go_enter Tryd.func6, Tryd.ntmps6
    go_wp2_with fail
    refine (awake_any _ (HM.out.ext HXA.out)).mono ?_
    rintro e w1 ⟨rfl, hw1⟩
    have HW1 := Lib.hid (HXA.out.trans hw1)
    have HQ1 := Lib.hid (HQA.out.ext hw1)
    clear hw1
    go_wp2
    go_ret
    exact ⟨rfl, HW1.out⟩
  have hs4 : s.size ≤ 4000 := by omega
  obtain ⟨S, hS⟩ : ∃ S, S = s.data.toList := ⟨_, rfl⟩
  obtain ⟨Y, hY⟩ : ∃ Y, Y = parseR false S := ⟨_, rfl⟩
  have KP := fun W (hx : Ext w W) => tParse_any s W (HM.out.ext hx) (by omega)
  rw [← hS, ← hY] at KP
  rcases Y with x | f
  · have K := Lib.hid (fun W (hx : Ext w W) => (KP W hx).mono fun e w' h => retZ_err h rfl)
    obtain ⟨pp, pl, pc, hp⟩ := posE_three S (.error x)
    rw [hp] at K
    have hx0 : x.1 ≠ 0 := by
      obtain ⟨er, oa⟩ := x
      rcases oa with _ | a
      · rw [parse_none hY.symm]; decide
      · obtain ⟨_, her, _⟩ := parse_err hY.symm
        show er ≠ 0
        omega
    have hxb : ((x.1 : Int) != 0) = true := by rw [bne_iff_ne]; exact hx0
    generalize x.1 = er at K hxb
    clear KP hY hm hp hx0
    go_enter Tryd.func6, Tryd.ntmps6
    go_wp2_with fail
    refine (awake_any _ (HM.out.ext HXA.out)).mono ?_
    rintro e w1 ⟨rfl, hw1⟩
    have HW1 := Lib.hid (HXA.out.trans hw1)
    have HQ1 := Lib.hid (HQA.out.ext hw1)
    clear hw1
    go_wp2_with fail
    refine (K.out _ HW1.out).mono ?_
    rintro e w2 ⟨hx2, A, c, rfl⟩
    have HW2 := Lib.hid ((HW1.out.trans hx2).alloc (.cells #[.int .i64 pp, .int .i64 pl, .int .i64 pc] 25))
    clear hx2 K
    go_wp2
    go_ret
    exact ⟨rfl, HW2.out⟩
  have hok := hY.symm
  have K := Lib.hid (fun W (hx : Ext w W) => (KP W hx).mono fun e w' h => retZ_ok h rfl)
  have KP2 := fun W (hx : Ext w W) => tFragment_any s W (HM.out.ext hx) (by omega)
  rw [← hS, parse_frag hok] at KP2
  have K2 := Lib.hid (fun W (hx : Ext w W) => (KP2 W hx).mono fun e w' h => retZ_ok h rfl)
  have HVA := Lib.hid (parse_valid hok)
  have HVT := Lib.hid (parse_valid (parse_frag hok))
  have HFIT := Lib.hid (parse_fit hok)
  have hfl : f.len ≤ 1000000000 := by have := (parse_fit hok).2.2; have := flen_nodes f; omega
  have HOKP := Lib.hid hok
  clear KP KP2 hY hm hok
  by_cases h0 : f.len = 0
  · have h0b : ((f.len : Int) == 0) = true := by rw [beq_iff_eq]; omega
    clear h0
    go_enter Tryd.func6, Tryd.ntmps6
    go_wp2_with fail
    refine (awake_any _ (HM.out.ext HXA.out)).mono ?_
    rintro e w1 ⟨rfl, hw1⟩
    have HW1 := Lib.hid (HXA.out.trans hw1)
    have HQ1 := Lib.hid (HQA.out.ext hw1)
    clear hw1
    go_wp2_with fail
    refine (K.out _ HW1.out).mono ?_
    rintro e w2 ⟨hx2, A, c, rfl, hf2⟩
    have HW2 := Lib.hid ((HW1.out.trans hx2).alloc (.cells #[.int .i64 0, .int .i64 0, .int .i64 0] 25))
    have HF2 := Lib.hid (hf2.any.ext ((Ext.refl w2).alloc (.cells #[.int .i64 0, .int .i64 0, .int .i64 0] 25)))
    have HQ2 := Lib.hid (HQ1.out.ext (hx2.alloc (.cells #[.int .i64 0, .int .i64 0, .int .i64 0] 25)))
    clear hx2 hf2 K
    go_wp2_with fail
    refine (K2.out _ HW2.out).mono ?_
    rintro e w3 ⟨hx3, B, d, rfl, hf3⟩
    have HW3 := Lib.hid ((HW2.out.trans hx3).alloc (.cells #[.int .i64 0, .int .i64 0, .int .i64 0] 25))
    have HF3 := Lib.hid (HF2.out.ext (hx3.alloc (.cells #[.int .i64 0, .int .i64 0, .int .i64 0] 25)))
    have HG3 := Lib.hid (hf3.any.ext ((Ext.refl w3).alloc (.cells #[.int .i64 0, .int .i64 0, .int .i64 0] 25)))
    have HQ3 := Lib.hid (HQ2.out.ext (hx3.alloc (.cells #[.int .i64 0, .int .i64 0, .int .i64 0] 25)))
    have KV := Lib.hid (tValid_any HF3.out HFIT.out.1 HFIT.out.2.1 (Nat.le_of_lt HFIT.out.2.2) (HM.out.ext HW3.out))
    rw [HVA.out] at KV
    clear hx3 hf3 K2 
    go_wp2_with fail
    refine KV.out.mono ?_
    rintro e w4 ⟨rfl, hx4⟩
    have HW4 := Lib.hid (HW3.out.trans hx4)
    have HF4 := Lib.hid (HF3.out.ext hx4)
    have HG4 := Lib.hid (HG3.out.ext hx4)
    have HQ4 := Lib.hid (HQ3.out.ext hx4)
    have KW := Lib.hid (tValidF_any HF4.out HFIT.out.1 HFIT.out.2.1 (Nat.le_of_lt HFIT.out.2.2) (HM.out.ext HW4.out))
    rw [HVT.out] at KW
    clear hx4 KV
    go_wp2_with fail
    refine KW.out.mono ?_
    rintro e w5 ⟨rfl, hx5⟩
    have HW5 := Lib.hid (HW4.out.trans hx5)
    have HF5 := Lib.hid (HF4.out.ext hx5)
    have HG5 := Lib.hid (HG4.out.ext hx5)
    have HQ5 := Lib.hid (HQ4.out.ext hx5)
    have KE := Lib.hid (tequal26_any HFIT.out.2.2 (by have := HFIT.out.2.2; omega) HG5.out HF5.out HFIT.out.1 HFIT.out.1)
    rw [eqF_refl] at KE
    clear hx5 KW
    go_wp2_with fail
    refine KE.out.mono ?_
    rintro e w6 ⟨rfl, hx6⟩
    have HW6 := Lib.hid (HW5.out.trans hx6)
    have HF6 := Lib.hid (HF5.out.ext hx6)
    have HQ6 := Lib.hid (HQ5.out.ext hx6)
    clear hx6 KE
    go_wp2
    go_ret
    exact ⟨rfl, HW6.out⟩
  have h0b : ((f.len : Int) == 0) = false := by rw [beq_eq_false_iff_ne]; omega
  have h0I : (0 : Int) < (f.len : Int) := by omega
  obtain ⟨j, hj⟩ : ∃ j, j = a % f.len := ⟨_, rfl⟩
  have hjl : j < f.len := by rw [hj]; exact Nat.mod_lt _ (by omega)
  have hmod : (a : Int) % (f.len : Int) = (j : Int) := by rw [hj]; omega
  have hjI : (j : Int) < (f.len : Int) := by omega
  have HJL := Lib.hid hjl
  clear hj hjl
  go_enter Tryd.func6, Tryd.ntmps6
  go_wp2_with fail
  refine (awake_any _ (HM.out.ext HXA.out)).mono ?_
  rintro e w1 ⟨rfl, hw1⟩
  have HW1 := Lib.hid (HXA.out.trans hw1)
  have HQ1 := Lib.hid (HQA.out.ext hw1)
  clear hw1
  go_wp2_with fail
  refine (K.out _ HW1.out).mono ?_
  rintro e w2 ⟨hx2, A, c, rfl, hf2⟩
  have HW2 := Lib.hid ((HW1.out.trans hx2).alloc (.cells #[.int .i64 0, .int .i64 0, .int .i64 0] 25))
  have HF2 := Lib.hid (hf2.any.ext ((Ext.refl w2).alloc (.cells #[.int .i64 0, .int .i64 0, .int .i64 0] 25)))
  have HQ2 := Lib.hid (HQ1.out.ext (hx2.alloc (.cells #[.int .i64 0, .int .i64 0, .int .i64 0] 25)))
  clear hx2 hf2 K
  go_wp2_with fail
  refine (K2.out _ HW2.out).mono ?_
  rintro e w3 ⟨hx3, B, d, rfl, hf3⟩
  have HW3 := Lib.hid ((HW2.out.trans hx3).alloc (.cells #[.int .i64 0, .int .i64 0, .int .i64 0] 25))
  have HF3 := Lib.hid (HF2.out.ext (hx3.alloc (.cells #[.int .i64 0, .int .i64 0, .int .i64 0] 25)))
  have HG3 := Lib.hid (hf3.any.ext ((Ext.refl w3).alloc (.cells #[.int .i64 0, .int .i64 0, .int .i64 0] 25)))
  have HQ3 := Lib.hid (HQ2.out.ext (hx3.alloc (.cells #[.int .i64 0, .int .i64 0, .int .i64 0] 25)))
  have KV := Lib.hid (tValid_any HF3.out HFIT.out.1 HFIT.out.2.1 (Nat.le_of_lt HFIT.out.2.2) (HM.out.ext HW3.out))
  rw [HVA.out] at KV
  clear hx3 hf3 K2 
  go_wp2_with fail
  refine KV.out.mono ?_
  rintro e w4 ⟨rfl, hx4⟩
  have HW4 := Lib.hid (HW3.out.trans hx4)
  have HF4 := Lib.hid (HF3.out.ext hx4)
  have HG4 := Lib.hid (HG3.out.ext hx4)
  have HQ4 := Lib.hid (HQ3.out.ext hx4)
  have KW := Lib.hid (tValidF_any HF4.out HFIT.out.1 HFIT.out.2.1 (Nat.le_of_lt HFIT.out.2.2) (HM.out.ext HW4.out))
  rw [HVT.out] at KW
  clear hx4 KV
  go_wp2_with fail
  refine KW.out.mono ?_
  rintro e w5 ⟨rfl, hx5⟩
  have HW5 := Lib.hid (HW4.out.trans hx5)
  have HF5 := Lib.hid (HF4.out.ext hx5)
  have HG5 := Lib.hid (HG4.out.ext hx5)
  have HQ5 := Lib.hid (HQ4.out.ext hx5)
  have KE := Lib.hid (tequal26_any HFIT.out.2.2 (by have := HFIT.out.2.2; omega) HG5.out HF5.out HFIT.out.1 HFIT.out.1)
  rw [eqF_refl] at KE
  clear hx5 KW
  go_wp2_with fail
  refine KE.out.mono ?_
  rintro e w6 ⟨rfl, hx6⟩
  have HW6 := Lib.hid (HW5.out.trans hx6)
  have HF6 := Lib.hid (HF5.out.ext hx6)
  have HQ6 := Lib.hid (HQ5.out.ext hx6)
  clear hx6 KE
  obtain ⟨bb, o, cc0, k, t, n, st, ca, pa, Ac, cc, Ap, cp, hv, hbw, _, hdr, c0, c1, c2, c3, c4, c5, hCA, hPA⟩ := HF6.out.at_ HJL.out
  injection hv with hA _ hcc
  subst hA hcc
  have hcn := (can_drop f j).1 HFIT.out.1
  rw [hdr, Can] at hcn
  obtain ⟨_, _, hcc, hcp, _⟩ := hcn
  have hwd := wt_drop f j hdr
  have hnd := fdrop_nodes f j
  rw [hdr, F.nodes] at hnd
  have HIN := Lib.hid (fun q (h : Inner q (.cons k t n st ca pa (fdrop f (j + 1)))) => inner_drop f j (by rw [hdr]; exact h))
  by_cases hc0 : ca.len = 0
  · rw [hc0] at c4
    have HOK := Lib.hid (show Okq f pa from okq HOKP.out (HIN.out _ .elem) hcp (by omega) (by omega))
    have HFQ := Lib.hid hPA
    have KI := Lib.hid (fun W (_ : Ext w6 W) => inner_parts k ⟨t.toArray⟩ ⟨n.toArray⟩ ⟨st.toArray⟩ Ac cc Ap pa.len cp b W)
    clear hcc hcp hwd hnd hdr hCA hPA hc0
    have KVF := fun y : ExtW w6 => tValidF_any (w := y.v) (HFQ.out.ext y.h) HOK.out.can HOK.out.wt (Nat.le_of_lt HOK.out.nodes) (HM.out.ext (HW6.out.trans y.h))
    have KCT := fun y : ExtW w6 => rcounts_any (w := y.v) HOK.out.nodes (HFQ.out.ext y.h) HOK.out.can
    have KVM := fun y : ExtW w6 => tValid_any (w := y.v) (HFQ.out.ext y.h) HOK.out.can HOK.out.wt (Nat.le_of_lt HOK.out.nodes) (HM.out.ext (HW6.out.trans y.h))
    rw [HOK.out.vf] at KVF
    have HVM := Lib.hid HOK.out.v
    obtain ⟨CB, hCB⟩ : ∃ CB, CB = countB pa := ⟨_, rfl⟩
    rw [← hCB] at KCT HVM
    have KVF := Lib.hid KVF
    have KCT := Lib.hid KCT
    have KIE := Lib.hid (fun y : ExtW w6 => KI.out y.v y.h)
    have y0 : ∀ y : ExtW w6, y.v.cell? ⟨w.heap.size, 0, none⟩ = some (.int .u8 a) := fun y => (HQ6.out.ext y.h).cell 0 _ rfl
    have y1 : ∀ y : ExtW w6, y.v.cell? ⟨w.heap.size, 1, none⟩ = some (.int .u8 b) := fun y => (HQ6.out.ext y.h).cell 1 _ rfl
    have z0 : ∀ y : ExtW w6, y.v.cell? ⟨bb, o + j * 6, none⟩ = some (.int .i64 k) := fun y => (Ext.cell y.h (World.block_lt_of_cell? _ _ c0)).trans c0
    have z1 : ∀ y : ExtW w6, y.v.cell? ⟨bb, o + j * 6 + 1, none⟩ = some (.string ⟨t.toArray⟩) := fun y => (Ext.cell y.h (World.block_lt_of_cell? _ _ c1)).trans c1
    have z2 : ∀ y : ExtW w6, y.v.cell? ⟨bb, o + j * 6 + 2, none⟩ = some (.string ⟨n.toArray⟩) := fun y => (Ext.cell y.h (World.block_lt_of_cell? _ _ c2)).trans c2
    have z3 : ∀ y : ExtW w6, y.v.cell? ⟨bb, o + j * 6 + 3, none⟩ = some (.string ⟨st.toArray⟩) := fun y => (Ext.cell y.h (World.block_lt_of_cell? _ _ c3)).trans c3
    have z4 : ∀ y : ExtW w6, y.v.cell? ⟨bb, o + j * 6 + 4, none⟩ = some (.slice Ac 0 cc) := fun y => (Ext.cell y.h (World.block_lt_of_cell? _ _ c4)).trans c4
    have z5 : ∀ y : ExtW w6, y.v.cell? ⟨bb, o + j * 6 + 5, none⟩ = some (.slice Ap pa.len cp) := fun y => (Ext.cell y.h (World.block_lt_of_cell? _ _ c5)).trans c5
    have KVM := Lib.hid KVM
    clear c0 c1 c2 c3 c4 c5 hCB
    go_wp2_with fail
    refine wp_region_ext (by kernel_rfl) (by kernel_rfl) ?_
    repeat (go_big_quiet_step ((go_at_call 17; exact ExtW.call (KIE.out _))))
    refine wpQuiet_nil ?_
    intro wx hx
    obtain ⟨y, rfl⟩ := hx
    clear y0 y1 z0 z1 z2 z3 z4 z5
    go_wp2_with fail
    refine (KVF.out y).mono ?_
    rintro e w8 ⟨rfl, hx8⟩
    obtain ⟨y8, rfl⟩ : ∃ y8 : ExtW w6, w8 = y8.v := ⟨⟨w8, y.h.trans hx8⟩, rfl⟩
    clear hx8
    cases CB
    · have KV2 := KVM.out
      rw [HVM.out rfl] at KV2
      have KV2 := Lib.hid KV2
      go_wp2_with fail
      refine (KCT.out y8).mono ?_
      rintro e w9 ⟨rfl, hx9⟩
      obtain ⟨y9, rfl⟩ : ∃ y9 : ExtW w6, w9 = y9.v := ⟨⟨w9, y8.h.trans hx9⟩, rfl⟩
      clear hx9
      go_wp2_with fail
      refine (KV2.out y9).mono ?_
      rintro e w10 ⟨rfl, hx10⟩
      have HXX := Lib.hid (HW6.out.trans (y9.h.trans hx10))
      clear hx10
      go_wp2
      go_ret
      exact ⟨rfl, HXX.out⟩
    · go_wp2_with fail
      refine (KCT.out y8).mono ?_
      rintro e w9 ⟨rfl, hx9⟩
      have HXX := Lib.hid (HW6.out.trans (y8.h.trans hx9))
      clear hx9
      go_wp2
      go_ret
      exact ⟨rfl, HXX.out⟩
  have hc0' : 0 < ca.len := by omega
  obtain ⟨i, hi⟩ : ∃ i, i = b % ca.len := ⟨_, rfl⟩
  have hil : i < ca.len := by rw [hi]; exact Nat.mod_lt _ hc0'
  obtain ⟨b', o', cc', k', t', n', s', ca', pa', Ap', cp', hv', hbw', _, hdr', d0, d1, hPA'⟩ := hCA.at_ hil
  injection hv' with hA' _ hcc'
  subst hA' hcc'
  have hcn' := (can_drop ca i).2 hcc
  rw [hdr', CanC] at hcn'
  obtain ⟨_, _, _, _, _, hcp', _⟩ := hcn'
  have hwd' := wt_drop ca i hdr'
  have hnd' := fdrop_nodes ca i
  rw [hdr', F.nodes] at hnd'
  have hcl : ca.len ≤ 1000000000 := by have := flen_nodes ca; have := HFIT.out.2.2; omega
  have HOK := Lib.hid (show Okq f pa' from okq HOKP.out (HIN.out _ (.case (inner_drop ca i (by rw [hdr']; exact .elem)))) hcp' (by omega) (by omega))
  have HFQ := Lib.hid hPA'
  have KI := Lib.hid (fun W (hW : Ext w6 W) => inner_case k ⟨t.toArray⟩ ⟨n.toArray⟩ ⟨st.toArray⟩ b' o' ca.len cc Ap Ap' pa.len cp b pa'.len cp' W hc0' hcl hb (by rw [← hi]; exact (Ext.cell hW (World.block_lt_of_cell? _ _ d1)).trans d1))
  clear hcc hcp hwd hnd hdr hCA hPA hc0 hc0' hi hil hdr' d0 d1 hPA' hcp' hwd' hnd' hcl
  have KVF := fun y : ExtW w6 => tValidF_any (w := y.v) (HFQ.out.ext y.h) HOK.out.can HOK.out.wt (Nat.le_of_lt HOK.out.nodes) (HM.out.ext (HW6.out.trans y.h))
  have KCT := fun y : ExtW w6 => rcounts_any (w := y.v) HOK.out.nodes (HFQ.out.ext y.h) HOK.out.can
  have KVM := fun y : ExtW w6 => tValid_any (w := y.v) (HFQ.out.ext y.h) HOK.out.can HOK.out.wt (Nat.le_of_lt HOK.out.nodes) (HM.out.ext (HW6.out.trans y.h))
  rw [HOK.out.vf] at KVF
  have HVM := Lib.hid HOK.out.v
  obtain ⟨CB, hCB⟩ : ∃ CB, CB = countB pa' := ⟨_, rfl⟩
  rw [← hCB] at KCT HVM
  have KVF := Lib.hid KVF
  have KCT := Lib.hid KCT
  have KIE := Lib.hid (fun y : ExtW w6 => KI.out y.v y.h)
  have y0 : ∀ y : ExtW w6, y.v.cell? ⟨w.heap.size, 0, none⟩ = some (.int .u8 a) := fun y => (HQ6.out.ext y.h).cell 0 _ rfl
  have y1 : ∀ y : ExtW w6, y.v.cell? ⟨w.heap.size, 1, none⟩ = some (.int .u8 b) := fun y => (HQ6.out.ext y.h).cell 1 _ rfl
  have z0 : ∀ y : ExtW w6, y.v.cell? ⟨bb, o + j * 6, none⟩ = some (.int .i64 k) := fun y => (Ext.cell y.h (World.block_lt_of_cell? _ _ c0)).trans c0
  have z1 : ∀ y : ExtW w6, y.v.cell? ⟨bb, o + j * 6 + 1, none⟩ = some (.string ⟨t.toArray⟩) := fun y => (Ext.cell y.h (World.block_lt_of_cell? _ _ c1)).trans c1
  have z2 : ∀ y : ExtW w6, y.v.cell? ⟨bb, o + j * 6 + 2, none⟩ = some (.string ⟨n.toArray⟩) := fun y => (Ext.cell y.h (World.block_lt_of_cell? _ _ c2)).trans c2
  have z3 : ∀ y : ExtW w6, y.v.cell? ⟨bb, o + j * 6 + 3, none⟩ = some (.string ⟨st.toArray⟩) := fun y => (Ext.cell y.h (World.block_lt_of_cell? _ _ c3)).trans c3
  have z4 : ∀ y : ExtW w6, y.v.cell? ⟨bb, o + j * 6 + 4, none⟩ = some (.slice (some ⟨b', o', none⟩) ca.len cc) := fun y => (Ext.cell y.h (World.block_lt_of_cell? _ _ c4)).trans c4
  have z5 : ∀ y : ExtW w6, y.v.cell? ⟨bb, o + j * 6 + 5, none⟩ = some (.slice Ap pa.len cp) := fun y => (Ext.cell y.h (World.block_lt_of_cell? _ _ c5)).trans c5
  have KVM := Lib.hid KVM
  clear c0 c1 c2 c3 c4 c5 hCB
  go_wp2_with fail
  refine wp_region_ext (by kernel_rfl) (by kernel_rfl) ?_
  repeat (go_big_quiet_step ((go_at_call 17; exact ExtW.call (KIE.out _))))
  refine wpQuiet_nil ?_
  intro wx hx
  obtain ⟨y, rfl⟩ := hx
  clear y0 y1 z0 z1 z2 z3 z4 z5
  go_wp2_with fail
  refine (KVF.out y).mono ?_
  rintro e w8 ⟨rfl, hx8⟩
  obtain ⟨y8, rfl⟩ : ∃ y8 : ExtW w6, w8 = y8.v := ⟨⟨w8, y.h.trans hx8⟩, rfl⟩
  clear hx8
  cases CB
  · have KV2 := KVM.out
    rw [HVM.out rfl] at KV2
    have KV2 := Lib.hid KV2
    go_wp2_with fail
    refine (KCT.out y8).mono ?_
    rintro e w9 ⟨rfl, hx9⟩
    obtain ⟨y9, rfl⟩ : ∃ y9 : ExtW w6, w9 = y9.v := ⟨⟨w9, y8.h.trans hx9⟩, rfl⟩
    clear hx9
    go_wp2_with fail
    refine (KV2.out y9).mono ?_
    rintro e w10 ⟨rfl, hx10⟩
    have HXX := Lib.hid (HW6.out.trans (y9.h.trans hx10))
    clear hx10
    go_wp2
    go_ret
    exact ⟨rfl, HXX.out⟩
  · go_wp2_with fail
    refine (KCT.out y8).mono ?_
    rintro e w9 ⟨rfl, hx9⟩
    have HXX := Lib.hid (HW6.out.trans (y8.h.trans hx9))
    clear hx9
    go_wp2
    go_ret
    exact ⟨rfl, HXX.out⟩
end Go.Proofs.YtklobkpepbokkaaDoor.lawSyntaxMessages
namespace Go.Proofs.YtklobkpepbokkaaDoor.lawSyntaxMessages
open Go.ChangeShapes Go.WideShapes Go.ChangeAt Go.RowKit
open Go.ChangeMaps (open_string shut_string)
set_option linter.unusedSimpArgs false
set_option linter.unusedVariables false

def laidL : List (String × DataW Unit) := Rows.syntaxMessagesRow.laid
theorem wf_u8 {x : Int} (h : (Lit.int .u8 x).wf = true) : ∃ a : Nat, x = a ∧ a < 256 := by
  have h2 : (decide (IntKind.u8.min ≤ x) && decide (x ≤ IntKind.u8.max)) = true := h
  rw [Bool.and_eq_true, decide_eq_true_eq, decide_eq_true_eq] at h2
  have h3 : (0 : Int) ≤ x := h2.1
  have h4 : x ≤ 255 := h2.2
  exact ⟨x.toNat, by omega, by omega⟩
theorem mx_of {W : World} (h : W.ShapedOpen Tryd.prog) : Mx W := Go.Proofs.cell_of_shapedOpen_int (zero := #[.int .i64 0]) (t := 3) h (of_decide_eq_true (by kernel_rfl)) (by kernel_rfl) rfl (by kernel_rfl) (by kernel_rfl) Tryd.underlying3

set_option maxRecDepth 100000 in
theorem lifted (os : Os) (started : os.Started) (H : Type) (enc : TypeId × Value → H) :
    ReturnsInHanded {} Tryd.checked os 6 .any (fun w args => (Rows.syntaxMessagesSpec.pre enc Tryd.prog Tryd.f6 [] false w args ∧ laidMetH Tryd.prog laidL w) ∧ sizedMet enc Tryd.prog Tryd.f6 (OpenSpec.ofChange Rows.syntaxMessagesSpec) false w args)
      (Rows.syntaxMessagesSpec.post enc Tryd.prog Tryd.f6 false true false false) := by
  refine lifted_and_sized (C := Tryd.checked) (X := fun w _ => laidMetH Tryd.prog laidL w) (fun _ _ _ hh h => h.of_heap hh) own started (by kernel_rfl) Tryd.func6
    (ChangeSpec.witness_shaped (enc := enc) (C := Tryd.checked) (os := os) (X := fun w _ => laidMetH Tryd.prog laidL w) false (World.laidAll Tryd.prog os laidL) #[.string ⟨#[]⟩, .agg #[.int .u8 0, .int .u8 0]] 8 (World.laidAll_os _ _ _)
      (World.shaped_of_ZipB (by kernel_rfl) (by kernel_rfl)) (by kernel_rfl) (by kernel_rfl) (by kernel_rfl)
      (by rw [MakeChecks.laidMetH_plain _ _ _ (by kernel_rfl)]; exact laidMet_laidAll _ (by kernel_rfl) (by kernel_rfl))) ?_
  intro W base args ds gs before hval0 hW hL hshape hsz0
  have hval : ∀ (j : Nat) t v, Tryd.f6.params[j]? = some t → args[j]? = some v → Value.okWide Tryd.prog W .any base t v := hval0
  have hW' := hW
  obtain ⟨p, q, hA0, hV, rfl, hfz, hnd⟩ := hW
  have hA : DataW.TrodAll enc Tryd.prog W 0 (fun _ => true) true Tryd.f6.params.toList args.toList ds p := hA0
  obtain ⟨rfl, rfl⟩ := trodVars_none hV
  have hsz : ∀ m ∈ DataW.weightsEach Tryd.prog Tryd.f6.params.toList ds, m ≤ reachBytes := fun m hm => hsz0 m (by
    rw [List.append_nil, show Rows.syntaxMessagesSpec.plain.varTypes Tryd.checked.prog = [] from rfl, List.append_nil]
    exact hm)
  rw [Tryd.params6] at hA hval hsz
  obtain ⟨v0, v1, d0, d1, p0, p1, rfl, rfl, rfl, h0, h1⟩ := trodAll_two hA
  obtain ⟨s, rfl, rfl, rfl, hs⟩ := open_string Tryd.underlying9 (hval 0 9 v0 rfl rfl) h0
  obtain ⟨t0, t1, rfl, z0, z1⟩ := open_two Tryd.underlying38 Tryd.underlying5 (by kernel_rfl) (by kernel_rfl) (hval 1 38 v1 rfl rfl) h1
  obtain ⟨a, rfl, ha⟩ := wf_u8 z0
  obtain ⟨b, rfl, hb⟩ := wf_u8 z1
  refine (law s a b W (mx_of hshape) hs ha hb).mono fun e W' ⟨he, hw⟩ => ?_
  subst he
  exact ⟨_, rfl, law_post (t := 4) laidOut (by rw [Tryd.params6]; intro t ht; simp at ht; rcases ht with rfl | rfl <;> exact ⟨by kernel_rfl, of_decide_eq_true (by kernel_rfl)⟩) rfl Tryd.underlying4 rfl ⟨rfl, rfl, rfl⟩ hW' hw⟩


end Go.Proofs.YtklobkpepbokkaaDoor.lawSyntaxMessages
