import Derived.Test.YtiijdojihleggaaGreatDoorQNPL
import Derived.Test.YtiijdojihleggaaGreatDoorQGb
import Derived.Test.YtiijdojihleggaaGreatDoorQNP2
import Derived.Test.YtiijdojihleggaaGreatDoorQNPO
set_option maxRecDepth 100000
set_option linter.unusedSimpArgs false
set_option linter.unusedVariables false
open Go.Lib (hid)
namespace Go.Proofs.YtiijdojihleggaaGreatDoor
open Go.RowKit
theorem PrO.glt {b : Nat} {g : Option Nat} {l : By} {w : World} (h : PrO b g l w) : ∀ k, g = some k → k < w.heap.size := by
 obtain ⟨p, v, _, _, ho, hv, _⟩ := h
 intro k hk
 exact (ho.lt k (by rw [hv, hk])).2
theorem pr_lit {b : Nat} {g0 : Option Nat} {w0 w : World} {l : By} (xs : List By) (h : PrS b g0 w0 l w) (hx : xs.length ≤ 1000) (hlen : (l ++ joinB xs).length ≤ 1000000000) :
 Calls Tryz.prog 168 #[.pointer (some ⟨b, 0, none⟩), .slice (some ⟨w.heap.size, 0, none⟩) xs.length xs.length] (w.alloc (.cells (strC xs).toArray 9)) fun e w' => e = .returned (.tuple #[]) ∧ PrS b g0 w0 (l ++ joinB xs) w' := by
 obtain ⟨h1, g, h2, h3⟩ := h
 have hxw : Ext w (w.alloc (.cells (strC xs).toArray 9)) := (Ext.refl w).alloc _
 have hlt := h2.lt
 have hg := h2.glt
 refine (pr_add (ss := xs) (c := xs.length) (h2.ext hxw) ⟨by unfold strC; simp, fun j u hu => ⟨w.heap.size, 0, rfl, by simp, by
  rw [Nat.zero_add]
  exact (AtC.new w (strC xs).toArray : AtC 9 _ _ _).cell j u (by simpa using hu)⟩⟩ (fun ad hA => by
  injection hA with hA
  subst hA
  exact ⟨by show w.heap.size ≠ b; omega, fun e => absurd (hg _ e) (Nat.lt_irrefl _)⟩) hx hlen).mono ?_
 rintro e w' ⟨rfl, hp⟩
 exact ⟨rfl, PrS.step (h1.trans (Exc.of_ext hxw)) (by
  rcases h3 with h3 | h3
  ·exact .inl h3
  ·exact .inr h3) hp⟩
theorem PrS.back {b : Nat} {g : Option Nat} {w w0 w' : World} {l' : By} (hx : Ext w w0) (h : PrS b g w0 l' w') : PrS b g w l' w' := PrS.step (Exc.of_ext hx) (.inl rfl) h
abbrev lowB_ (B : Nat) : Nat → Prop := fun j => j < B
theorem PrS.keep {b B : Nat} {g : Option Nat} {w0 w : World} {l : By} {f : F} {v : Value} (h : PrS b g w0 l w) (hF : FwS w0 (lowB_ B) f v) (hb : B ≤ b) (hg : ∀ k, g = some k → B ≤ k) : FwS w (lowB_ B) f v :=
 hF.exc h.1 (fun k hk hq => by
  rcases hq with hq | hq
  ·have : k < B := hk
   omega
  ·have h1 : k < B := hk
   have h2 := hg k hq.symm
   omega) (fun _ h => h)
theorem PrS.keepC {b B : Nat} {g : Option Nat} {w0 w : World} {l : By} {f : F} {v : Value} (h : PrS b g w0 l w) (hF : CwS w0 (lowB_ B) f v) (hb : B ≤ b) (hg : ∀ k, g = some k → B ≤ k) : CwS w (lowB_ B) f v :=
 hF.exc h.1 (fun k hk hq => by
  rcases hq with hq | hq
  ·have : k < B := hk
   omega
  ·have h1 : k < B := hk
   have h2 := hg k hq.symm
   omega) (fun _ h => h)
theorem PrS.box {T : TypeId} {b x : Nat} {g : Option Nat} {w0 w : World} {l : By} {cs : Array Value} (h : PrS b g w0 l w) (hB : AtC T w0 x cs) (hb : x ≠ b) (hg : g ≠ some x) : AtC T w x cs :=
 hB.exc h.1 (fun hq => by
  rcases hq with hq | hq
  ·exact hb hq
  ·exact hg hq.symm)
theorem flJ_nodesK : ∀ f : F, f.len ≤ f.nodes := by
 intro f
 induction f with
 | nil => exact Nat.le_refl _
 | cons k t n s c p r _ _ ih => rw [F.len, F.nodes]; omega
theorem txt_oneK (gap : By) (k : Int) (t n s : By) (ca pa r : F) : txtP gap (.cons k t n s ca pa r) = txtP gap (.cons k t n s ca pa .nil) ++ txtP gap r := by
 rw [txtP, txtP]
 simp only [txtP, List.append_nil]
theorem form_atK {d : Nat} {c : Bool} {k : Int} {t n s : By} {ca pa r : F} : ∀ (f : F) (j : Nat) (pt : Bool), formB d c pt f = true → fdrop f j = .cons k t n s ca pa r → ∃ pt', formB d c pt' (.cons k t n s ca pa .nil) = true
 | .nil, j, _, _, h => by cases j <;> cases h
 | .cons _ _ _ _ _ _ _, 0, pt, hf, h => by
   rw [fdrop] at h
   injection h with e1 e2 e3 e4 e5 e6 e7
   subst e1 e2 e3 e4 e5 e6
   refine ⟨pt, ?_⟩
   rw [form_prt] at hf ⊢
   rw [Bool.and_eq_true, Bool.and_eq_true] at hf
   rw [hf.1.1, hf.1.2]
   rfl
 | .cons k2 _ _ _ _ _ r2, j + 1, pt, hf, h => by
   rw [form_prt] at hf
   rw [Bool.and_eq_true] at hf
   exact form_atK r2 j _ hf.2 h
def PtsH (N : Nat) : Prop := ∀ (f : F) (v : Value) (d : Nat) (c pt : Bool) (b B : Nat) (g : Option Nat) (l : By) (w : World), f.nodes < N → N ≤ 1000000000 → FwS w (lowB_ B) f v → formB d c pt f = true → Can f → wt f ≤ 40000000 → PrO b g l w → B ≤ b → (∀ k, g = some k → B ≤ k) →
 (l ++ txtP [32] f).length ≤ 1000000000 → Calls Tryz.prog 87 #[.pointer (some ⟨b, 0, none⟩), v] w fun e w' => e = .returned (.tuple #[]) ∧ PrS b g w (l ++ txtP [32] f) w'
def PtH (N : Nat) : Prop := ∀ (k : Int) (t n s : By) (ca pa : F) (Ac : Option Addr) (cc : Nat) (Ap : Option Addr) (cp : Nat) (d : Nat) (c pt : Bool) (b B : Nat) (g : Option Nat) (l : By) (w : World), ca.nodes + pa.nodes < N → N ≤ 1000000000 →
 CwS w (lowB_ B) ca (.slice Ac ca.len cc) → FwS w (lowB_ B) pa (.slice Ap pa.len cp) → formB d c pt (.cons k t n s ca pa .nil) = true → Can (.cons k t n s ca pa .nil) → wt (.cons k t n s ca pa .nil) ≤ 40000000 → PrO b g l w → B ≤ b → (∀ k, g = some k → B ≤ k) →
 (l ++ txtP [32] (.cons k t n s ca pa .nil)).length ≤ 1000000000 →
 Calls Tryz.prog 127 #[.pointer (some ⟨b, 0, none⟩), .agg #[.int .i64 k, .string ⟨t.toArray⟩, .string ⟨n.toArray⟩, .string ⟨s.toArray⟩, .slice Ac ca.len cc, .slice Ap pa.len cp]] w fun e w' =>
  e = .returned (.tuple #[]) ∧ PrS b g w (l ++ txtP [32] (.cons k t n s ca pa .nil)) w'
def PtsI (b : Nat) (g : Option Nat) (w : World) (R : By) (f : F) (i : Value) (wr : World) : Prop := ∃ (j : Nat) (l : By), j ≤ f.len ∧ i = .int .i64 j ∧ l ++ txtP [32] (fdrop f j) = R ∧ PrS b g w l wr
set_option maxHeartbeats 4000000 in
theorem pts_step (N : Nat) (hN : PtH N) : PtsH (N + 1) := by
 intro f v d c pt b B g l w hnd hNN hF hform hcan hwt hpr hbB hgB hlen
 obtain ⟨Af, cf, rfl⟩ := hF.val
 have hfl : f.len ≤ 1000000000 := by have := flJ_nodesK f; omega
 obtain ⟨R, hR⟩ : ∃ R, R = l ++ txtP [32] f := ⟨_, rfl⟩
 rw [← hR] at hlen ⊢
 have HLTW := hid (show B ≤ w.heap.size from by have := hpr.lt; omega)
 have HF := hid hF
 have HFORM := hid hform
 have HCAN := hid hcan
 have HWT := hid hwt
 have HND := hid hnd
 have HNN := hid hNN
 have HGB := hid hgB
 have HBB := hid hbB
 have HLEN := hid hlen
 have H0 := hid (show PtsI b g w R f (.int .i64 0) w from ⟨0, l, Nat.zero_le _, rfl, by rw [fdrop_zero]; exact hR.symm, hpr.refl⟩)
 clear hF hform hcan hwt hnd hNN hgB hbB hlen hpr hR
 go_enter Tryz.func87, Tryz.ntmps87
 go_wp2_with fail
 go_loopw [8] (PtsI b g w R f) (fun i _ => f.len - (intOf i).toNat)
 case atStart => exact H0.out
 case round =>
  obtain ⟨j, l, hj, rfl, hr, hp⟩ := hrel
  obtain ⟨wo, rfl⟩ : ∃ wo : World, wo = wr := ⟨_, rfl⟩
  have HP := hid hp
  by_cases hjl : j < f.len
  rotate_left
  ·have hjI : ¬ (j : Int) < (f.len : Int) := by omega
   rw [fdrop_end f j (by omega), txtP, List.append_nil] at hr
   subst hr
   clear hp
   go_wp2
   go_end0
   exact ⟨rfl, HP.out⟩
  have hjI : (j : Int) < (f.len : Int) := by omega
  obtain ⟨bf, o, cc', k, t, n, s, ca, pa, Ac, cac, Ap, cpa, hv, hbw, _, hdr, c0, c1, c2, c3, c4, c5, hCA, hPA⟩ := (PrS.keep hp HF.out HBB.out HGB.out).at_ hjl
  injection hv with hA _ hcc
  subst hA hcc
  have hcn := (can_drop f j).1 HCAN.out
  have hwp := wt_drop f j hdr
  obtain ⟨pt', hfm⟩ := form_atK f j pt HFORM.out hdr
  have hnd2 := fdrop_nodes f j
  rw [hdr, F.nodes] at hnd2
  rw [hdr] at hcn hr
  rw [txt_oneK] at hr
  have hcan1 : Can (.cons k t n s ca pa .nil) := by
   rw [Can] at hcn ⊢
   exact ⟨hcn.1, hcn.2.1, hcn.2.2.1, hcn.2.2.2.1, by rw [Can]; trivial⟩
  obtain ⟨hxe, g1, ho1, hg1⟩ := hp
  have hxb : Ext wo (wo.alloc (.cells #[.int .i64 k, .string ⟨t.toArray⟩, .string ⟨n.toArray⟩, .string ⟨s.toArray⟩, .slice Ac ca.len cac, .slice Ap pa.len cpa] 96)) := (Ext.refl wo).alloc _
  have HB1 := hid (AtC.new wo #[.int .i64 k, .string ⟨t.toArray⟩, .string ⟨n.toArray⟩, .string ⟨s.toArray⟩, .slice Ac ca.len cac, .slice Ap pa.len cpa] : AtC 96 _ _ _)
  have hg1B : ∀ x, g1 = some x → B ≤ x := by
   intro x hx
   rcases hg1 with h | h
   ·exact HGB.out x (by rw [← h]; exact hx)
   ·have h2 := h x hx
    have h3 := hxe.size
    have h4 := ho1.lt
    have h5 := HBB.out
    have h6 := HLTW.out
    omega
  have hlen1 : (l ++ txtP [32] (.cons k t n s ca pa .nil)).length ≤ 1000000000 := by
   have h := congrArg List.length hr
   simp only [List.length_append] at h ⊢
   have := HLEN.out
   omega
  have KP := hid (hN k t n s ca pa Ac cac Ap cpa d c pt' b B g1 l _ (by have := HND.out; omega) (by have := HNN.out; omega) (hCA.ext hxb) (hPA.ext hxb) hfm hcan1 (by rw [wt, wt]; have := HWT.out; omega) (ho1.ext hxb) HBB.out hg1B hlen1)
  have HE := hid (Exc.trans hxe (Exc.of_ext hxb))
  have HG1 := hid hg1
  obtain ⟨L1, hL1⟩ : ∃ L1, L1 = l ++ txtP [32] (.cons k t n s ca pa .nil) := ⟨_, rfl⟩
  rw [← hL1] at KP
  have HR := hid (show L1 ++ txtP [32] (fdrop f (j + 1)) = R from by rw [hL1, List.append_assoc]; exact hr)
  clear hr hxe ho1 hg1 hxb hg1B hlen1 hL1 hcan1 hcn hnd2 hfm hwp hCA hPA hdr HP
  go_wp2_with fail
  refine KP.out.mono ?_
  rintro e w2 ⟨rfl, hp2⟩
  have HP2 := hid (PrS.step HE.out HG1.out hp2)
  clear hp2 KP
  go_wp2
  exact ⟨⟨j + 1, L1, hjl, by go_num, HR.out, HP2.out⟩, by simp [intOf]; omega⟩
section
variable {b : Nat} {g0 : Option Nat} {w0 w : World} {l : By}
theorem pr_lit1 (x : ByteArray) (h : PrS b g0 w0 l w) (hlen : (l ++ x.data.toList).length ≤ 1000000000) :
 Calls Tryz.prog 168 #[.pointer (some ⟨b, 0, none⟩), .slice (some ⟨w.heap.size, 0, none⟩) 1 1] (w.alloc (.cells #[.string x] 9)) fun e w' => e = .returned (.tuple #[]) ∧ PrS b g0 w0 (l ++ x.data.toList) w' := by
 have h2 := pr_lit [x.data.toList] h (by simp) (by simpa [joinB] using hlen)
 have e : joinB [x.data.toList] = x.data.toList := by simp [joinB]
 rw [e] at h2
 exact h2
theorem pr_lit2 (x y : ByteArray) (h : PrS b g0 w0 l w) (hlen : (l ++ (x.data.toList ++ y.data.toList)).length ≤ 1000000000) :
 Calls Tryz.prog 168 #[.pointer (some ⟨b, 0, none⟩), .slice (some ⟨w.heap.size, 0, none⟩) 2 2] (w.alloc (.cells #[.string x, .string y] 9)) fun e w' => e = .returned (.tuple #[]) ∧ PrS b g0 w0 (l ++ (x.data.toList ++ y.data.toList)) w' := by
 have e : joinB [x.data.toList, y.data.toList] = x.data.toList ++ y.data.toList := by simp [joinB]
 have h2 := pr_lit [x.data.toList, y.data.toList] h (by simp) (by rw [e]; exact hlen)
 rw [e] at h2
 exact h2
theorem pr_lit3 (x y z : ByteArray) (h : PrS b g0 w0 l w) (hlen : (l ++ (x.data.toList ++ (y.data.toList ++ z.data.toList))).length ≤ 1000000000) :
 Calls Tryz.prog 168 #[.pointer (some ⟨b, 0, none⟩), .slice (some ⟨w.heap.size, 0, none⟩) 3 3] (w.alloc (.cells #[.string x, .string y, .string z] 9)) fun e w' => e = .returned (.tuple #[]) ∧ PrS b g0 w0 (l ++ (x.data.toList ++ (y.data.toList ++ z.data.toList))) w' := by
 have e : joinB [x.data.toList, y.data.toList, z.data.toList] = x.data.toList ++ (y.data.toList ++ z.data.toList) := by simp [joinB]
 have h2 := pr_lit [x.data.toList, y.data.toList, z.data.toList] h (by simp) (by rw [e]; exact hlen)
 rw [e] at h2
 exact h2
theorem pr_lit4 (x y z u : ByteArray) (h : PrS b g0 w0 l w) (hlen : (l ++ (x.data.toList ++ (y.data.toList ++ (z.data.toList ++ u.data.toList)))).length ≤ 1000000000) :
 Calls Tryz.prog 168 #[.pointer (some ⟨b, 0, none⟩), .slice (some ⟨w.heap.size, 0, none⟩) 4 4] (w.alloc (.cells #[.string x, .string y, .string z, .string u] 9)) fun e w' => e = .returned (.tuple #[]) ∧ PrS b g0 w0 (l ++ (x.data.toList ++ (y.data.toList ++ (z.data.toList ++ u.data.toList)))) w' := by
 have e : joinB [x.data.toList, y.data.toList, z.data.toList, u.data.toList] = x.data.toList ++ (y.data.toList ++ (z.data.toList ++ u.data.toList)) := by simp [joinB]
 have h2 := pr_lit [x.data.toList, y.data.toList, z.data.toList, u.data.toList] h (by simp) (by rw [e]; exact hlen)
 rw [e] at h2
 exact h2
end
end Go.Proofs.YtiijdojihleggaaGreatDoor
