import Derived.Test.YtpfmojeigjmlfaaGreatDoorProg
import Derived.Test.YtpfmojeigjmlfaaGreatDoorBase
import Derived.Test.YtpfmojeigjmlfaaGreatDoorNPE
import Derived.Test.YtpfmojeigjmlfaaGreatDoorNPH
import Derived.Test.YtpfmojeigjmlfaaGreatDoorNB1
import Derived.IntWalk
import Derived.Test.YtpfmojeigjmlfaaGreatDoorNP3
namespace Go.Proofs.YtpfmojeigjmlfaaGreatDoor
open Go.RowKit
set_option linter.unusedSimpArgs false
set_option linter.unusedVariables false

/-! Names and types, by both sides. -/
theorem less_eq : ∀ (x y : List UInt8), Op.bytesLess x y = decide (x < y)
  | [], [] => by simp [Op.bytesLess]
  | _ :: _, [] => by simp [Op.bytesLess]
  | [], _ :: _ => by simp [Op.bytesLess]
  | a :: x, b :: y => by
    rw [Op.bytesLess, less_eq x y, Bool.eq_iff_iff]
    simp [List.cons_lt_cons_iff]
theorem less_b (x y : ByteArray) : Op.bytesLess x.toList y.toList = decide (x.data.toList < y.data.toList) := by
  rw [less_eq, ByteArray.toList_eq, ByteArray.toList_eq]
theorem eq_b (x y : ByteArray) : (x.toList == y.toList) = (x.data.toList == y.data.toList) := by
  rw [ByteArray.toList_eq, ByteArray.toList_eq]
theorem known28_any (t : Int) (w : World) : Calls Tryz.prog 58 #[.int .i64 t] w fun e w' => e = .returned (.bool (knownB t)) ∧ w = w' := by
  go_enter Tryz.func58, Tryz.ntmps58
  go_wp2
  all_goals (go_ret; exact ⟨ret_bool (by unfold knownB; rw [Bool.eq_iff_iff]; simp; omega), rfl⟩)
theorem rknown_any (t : Int) (w : World) : Calls Tryz.prog 124 #[.int .i64 t] w fun e w' => e = .returned (.bool (knownB t)) ∧ w = w' := by
  go_enter Tryz.func124, Tryz.ntmps124
  go_wp2
  all_goals (go_ret; exact ⟨ret_bool (by unfold knownB; rw [Bool.eq_iff_iff]; simp; omega), rfl⟩)
theorem com_any (a b : Int) (w : World) : Calls Tryz.prog 90 #[.int .i64 a, .int .i64 b] w fun e w' => e = .returned (.tuple #[.int .i64 (comA a b).1, .bool (comA a b).2]) ∧ Ext w w' := by
  have K1 := Lib.hid (fun W => known28_any a W)
  have K2 := Lib.hid (fun W => known28_any b W)
  obtain ⟨D, hD⟩ : ∃ D, D = comA a b := ⟨_, rfl⟩
  rw [← hD]
  unfold comA at hD
  generalize knownB a = ka at K1 hD
  generalize knownB b = kb at K2 hD
  have HD := Lib.hid hD
  clear hD
  have tok : True := trivial
  go_enter Tryz.func90, Tryz.ntmps90
  go_wp2_with (first
    | (have _t := tok; go_at_call 58; refine (K1.out _).mono ?_; rintro e w' ⟨rfl, rfl⟩; clear tok; cases ka)
    | (go_at_call 58; refine (K2.out _).mono ?_; rintro e w' ⟨rfl, rfl⟩; cases kb))
  all_goals (go_ret2; refine ⟨?_, Ext.refl _⟩; have hD := HD.out; subst hD; simp_all)
theorem rcom_any (a b : Int) (w : World) : Calls Tryz.prog 87 #[.int .i64 a, .int .i64 b] w fun e w' => e = .returned (.tuple #[.int .i64 (comA a b).1, .bool (comA a b).2]) ∧ Ext w w' := by
  have K1 := Lib.hid (fun W => rknown_any a W)
  have K2 := Lib.hid (fun W => rknown_any b W)
  obtain ⟨D, hD⟩ : ∃ D, D = comA a b := ⟨_, rfl⟩
  rw [← hD]
  unfold comA at hD
  generalize knownB a = ka at K1 hD
  generalize knownB b = kb at K2 hD
  have HD := Lib.hid hD
  clear hD
  have tok : True := trivial
  go_enter Tryz.func87, Tryz.ntmps87
  go_wp2_with (first
    | (have _t := tok; go_at_call 124; refine (K1.out _).mono ?_; rintro e w' ⟨rfl, rfl⟩; clear tok; cases ka)
    | (go_at_call 124; refine (K2.out _).mono ?_; rintro e w' ⟨rfl, rfl⟩; cases kb))
  all_goals (go_ret2; refine ⟨?_, Ext.refl _⟩; have hD := HD.out; subst hD; simp_all)
end Go.Proofs.YtpfmojeigjmlfaaGreatDoor
namespace Go.Proofs.YtpfmojeigjmlfaaGreatDoor
open Go.ChangeShapes Go.WideShapes Go.ChangeAt Go.RowKit
set_option linter.unusedSimpArgs false
set_option linter.unusedVariables false

/-! Arguments in memory. -/
structure Ag where
  n : ByteArray
  t : Int
def agC (x : Ag) : List Value := [.string x.n, .int .i64 x.t]
def agOf (x : Ag) : ArgP := (x.n.data.toList, x.t)
def Ags (w : World) (A : Option Addr) (n : Nat) (l : List Ag) : Prop := SlN w A n 2 (l.flatMap agC)
theorem Ags.ext {w w' : World} {A : Option Addr} {n : Nat} {l : List Ag} (h : Ags w A n l) (hw : Ext w w') : Ags w' A n l := SlN.ext h hw
theorem Ags.len {w : World} {A : Option Addr} {n : Nat} {l : List Ag} (h : Ags w A n l) : l.length = n := by
  have h1 := h.1
  rw [flat_len agC 2 (fun _ => rfl)] at h1
  omega
theorem Ags.at_ {w : World} {A : Option Addr} {n : Nat} {l : List Ag} (h : Ags w A n l) {k : Nat} {x : Ag} (hx : l[k]? = some x) :
    ∃ b o, A = some ⟨b, o, none⟩ ∧ b < w.heap.size ∧ w.cell? ⟨b, o + k * 2, none⟩ = some (.string x.n) ∧ w.cell? ⟨b, o + k * 2 + 1, none⟩ = some (.int .i64 x.t) := by
  obtain ⟨b, o, h1, h2, h3⟩ := flat_at (f := agC) (m := 2) (fun _ => rfl) (by decide) h hx
  exact ⟨b, o, h1, h2, h3 0 _ rfl, h3 1 _ rfl⟩

set_option maxRecDepth 100000 in
set_option maxHeartbeats 1000000 in
theorem open_ags {H : Type} {enc : TypeId × Value → H} {W : World} {v : Value} {d : DataW H} {ps : List MemPlace} (hv : ∃ A n c, v = .slice A n c) (h : DataW.Trod enc Tryz.prog W 0 (fun _ => true) true 41 v d ps) (hw : ∀ m ∈ d.weights Tryz.prog 41, m ≤ reachBytes) :
    ∃ (A : Option Addr) (n c : Nat) (l : List Ag), v = .slice A n c ∧ Ags W A n l ∧ n ≤ maxLen ∧ ∀ x ∈ l, x.n.size ≤ reachBytes ∧ (Lit.int .i64 x.t).wf = true := by
  obtain ⟨A, n, c, L, rfl, hn, hL, hsl, hall⟩ := open_cells (m := 2) Tryz.underlying41 (by kernel_rfl) (by decide) hv h
  have hc9 : Tryz.prog.cellsOf 9 = 1 := by kernel_rfl
  have hc3 : Tryz.prog.cellsOf 3 = 1 := by kernel_rfl
  have hcE : Tryz.prog.cellsOf 66 = 2 := by kernel_rfl
  have key : ∀ cs ∈ L, ∃ x : Ag, cs = agC x ∧ x.n.size ≤ reachBytes ∧ (Lit.int .i64 x.t).wf = true := by
    intro cs hcs
    obtain ⟨k, x, hx, hwx⟩ := hall cs hcs
    obtain ⟨xs, m, _, hxe, hl, hlen, hff⟩ := DataW.trod_struct Tryz.underlying66 hx
    have hl2 : cs.length = 2 := hl.trans hcE
    match cs, hl2 with
    | [c0, c1], _ =>
      match xs, hlen with
      | [x0, x1], _ =>
        have f0 := hff 0 _ rfl
        have f1 := hff 1 _ rfl
        simp [hc9, hc3] at f0 f1
        obtain ⟨b0, e0, z0, _⟩ := DataW.trod_string Tryz.underlying9 f0
        obtain ⟨i0, r0, z1, w1⟩ := DataW.trod_int Tryz.underlying3 f1
        simp at e0 r0
        subst e0 r0
        have hd : x.1 = .agg [x0.1, x1.1] := by rw [hxe]; rfl
        refine ⟨⟨b0, i0⟩, rfl, ?_, w1⟩
        have := hw b0.data.toList.length (hwx _ (by
          rw [hd]
          simp only [DataW.weights, Tryz.underlying66]
          exact weightsEach_at (ts := [9, 3]) (i := 0) rfl rfl _ (by rw [z0]; simp [DataW.weights])))
        exact this
  have dec : ∃ l : List Ag, L = l.map agC ∧ ∀ x ∈ l, x.n.size ≤ reachBytes ∧ (Lit.int .i64 x.t).wf = true := by
    clear hsl hL hall hn
    induction L with
    | nil => exact ⟨[], rfl, by simp⟩
    | cons cs r ih =>
      obtain ⟨l, h1, h2⟩ := ih (fun x hx => key x (by simp [hx]))
      obtain ⟨x, hx, hr⟩ := key cs (by simp)
      exact ⟨x :: l, by rw [hx, h1]; rfl, by intro y hy; rcases List.mem_cons.1 hy with rfl | hy; exact hr; exact h2 y hy⟩
  obtain ⟨l, hl1, hl2⟩ := dec
  refine ⟨A, n, c, l, rfl, ?_, hn, hl2⟩
  unfold Ags
  rw [List.flatMap_def, ← hl1]
  exact hsl

end Go.Proofs.YtpfmojeigjmlfaaGreatDoor
namespace Go.Proofs.YtpfmojeigjmlfaaGreatDoor
open Go.RowKit
set_option linter.unusedSimpArgs false
set_option linter.unusedVariables false

section
variable {S : Nat → Prop} {w w' : World}
theorem MapI.exc28 {P : Program} {k e : TypeId} {b n : Nat} {m : List ArgP} (h : MapI P k e w b n m) (hw : Exc S w w') (hb : ¬ S b) : MapI P k e w' b n m := by
  have hlt := h.lt
  obtain ⟨D, ⟨es, clock, hh, r⟩, h2⟩ := h
  exact ⟨D, ⟨es, clock, (hw.block b hlt hb).trans hh, r⟩, h2⟩
end

/-! The table of a signature. -/
structure TabW (w : World) (g mb n : Nat) (T : TabP) : Prop where
  at_ : AtC 70 w g #[.map (some mb), .bool T.wrong]
  map : MapI Tryz.prog 9 3 w mb n T.m
  ne : g ≠ mb
def two (g mb : Nat) : Nat → Prop := fun k => k = g ∨ k = mb
theorem at_set1 {T : TypeId} {w : World} {g : Nat} {a b u : Value} (h : AtC T w g #[a, b]) : AtC T (w.setCell ⟨g, 1, none⟩ u) g #[a, u] := by
  unfold AtC at h ⊢
  simp only [World.setCell, Array.getElem?_modify, if_true, h]
  rfl
theorem com_wf (a b : Int) : (Lit.int .i64 (comA a b).1).wf = true := by
  have h : 0 ≤ (comA a b).1 ∧ (comA a b).1 ≤ 4 := by
    unfold comA
    split
    · rename_i hk
      unfold knownB at hk
      simp only [Bool.and_eq_true, decide_eq_true_eq] at hk
      split
      · exact hk.1
      · split
        · exact hk.2
        · split
          · exact hk.1
          · simp
    · simp
  simp only [Lit.wf, IntKind.min, IntKind.max, IntKind.signed, IntKind.bits, Bool.and_eq_true, decide_eq_true_eq, if_true]
  omega
set_option maxHeartbeats 1000000 in
set_option maxRecDepth 100000 in
theorem tadd_any (g mb n : Nat) (T : TabP) (s : ByteArray) (t : Int) (w : World) (h : TabW w g mb n T) (hs : s.size ≤ maxLen) (ht : (Lit.int .i64 t).wf = true) (hn : n < maxLen) :
    Calls Tryz.prog 60 #[.pointer (some ⟨g, 0, none⟩), .string s, .int .i64 t] w fun e w' => e = .returned (.tuple #[]) ∧ TabW w' g mb (n + 1) (addT T (s.data.toList, t)) ∧ Exc (two g mb) w w' := by
  have h0 := h.at_.cell 0 _ rfl
  have h1 := h.at_.cell 1 _ rfl
  have f1 := frz_of h.at_ 1
  have hz : (zeroValue 3).run Tryz.prog w = .ok (.int .i64 0) w := by kernel_rfl
  have HT := Lib.hid h
  cases hg : getA T.m s.data.toList with
  | none =>
    have HG := Lib.hid hg
    clear hg h
    go_enter Tryz.func60, Tryz.ntmps60
    go_wp2_with (first
      | (at_lookup; refine wpList_lookupIok rfl _ _ 68 9 3 rfl Tryz.underlying9 Tryz.underlying3 Tryz.underlying68 hz mb n T.m rfl HT.out.map s rfl hs 0 false (by rw [HG.out]; rfl) (by rw [HG.out]; rfl) ?_)
      | (at_mapUpdate; refine wpList_mapUpdateI rfl _ _ _ 68 9 3 rfl Tryz.underlying9 Tryz.underlying3 Tryz.underlying68 mb n T.m rfl HT.out.map hn s rfl t rfl hs ht ?_; intro w2 hm2 hg2; have HM2 := Lib.hid hm2; have HG2 := Lib.hid hg2; clear hm2 hg2))
    refine bodyPost_ret (results_none rfl _ _ _) rfl ?_
    have hE : Exc (two g mb) w w2 := Exc.grown HG2.out (.inr rfl)
    refine ⟨rfl, ⟨?_, ?_, HT.out.ne⟩, hE⟩
    · unfold addT
      rw [HG.out]
      exact (HG2.out.block g HT.out.at_.lt (fun e => HT.out.ne (by injection e))).trans HT.out.at_
    · unfold addT
      rw [HG.out]
      exact HM2.out
  | some old =>
    have HG := Lib.hid hg
    have hcw : (Lit.int .i64 (comA old t).1).wf = true := com_wf old t
    have HAD := Lib.hid (show addT T (s.data.toList, t) = ⟨(s.data.toList, (comA old t).1) :: T.m, T.wrong || !(comA old t).2⟩ from by unfold addT; rw [hg])
    have KC := com_any old t
    generalize (comA old t).1 = cm at HAD KC hcw
    generalize (comA old t).2 = ok at HAD KC
    have HKC := Lib.hid KC
    obtain ⟨wrg, hwrg⟩ : ∃ wrg, wrg = T.wrong := ⟨_, rfl⟩
    rw [← hwrg] at h1 HAD
    have HWR := Lib.hid hwrg
    clear hg h KC hwrg
    go_enter Tryz.func60, Tryz.ntmps60
    go_wp2_with (first
      | (at_lookup; refine wpList_lookupIok rfl _ _ 68 9 3 rfl Tryz.underlying9 Tryz.underlying3 Tryz.underlying68 hz mb n T.m rfl HT.out.map s rfl hs old true (by rw [HG.out]; rfl) (by rw [HG.out]; rfl) ?_))
    refine (HKC.out _).mono ?_
    rintro e w2 ⟨rfl, hw2⟩
    have HX2 := Lib.hid hw2
    have AT2 := Lib.hid (show AtC 70 w2 g #[.map (some mb), .bool wrg] from by rw [HWR.out]; exact HT.out.at_.ext hw2)
    have MP2 := Lib.hid (HT.out.map.ext hw2)
    clear hw2 h0 h1 f1
    have h0 := AT2.out.cell 0 _ rfl
    cases wrg
    all_goals
      go_wp2_with (first
        | (at_mapUpdate; refine wpList_mapUpdateI rfl _ _ _ 68 9 3 rfl Tryz.underlying9 Tryz.underlying3 Tryz.underlying68 mb n T.m rfl MP2.out hn s rfl cm rfl hs hcw ?_; intro w3 hm3 hg3; have HM3 := Lib.hid hm3; have HG3 := Lib.hid hg3; have AT3 := Lib.hid (show AtC 70 w3 g _ from (hg3.block g AT2.out.lt (fun e => HT.out.ne (by injection e))).trans AT2.out); have y1 := AT3.out.cell 1 _ rfl; have y2 := frz_of AT3.out 1; clear hm3 hg3))
      go_end0
      refine ⟨rfl, ⟨?_, ?_, HT.out.ne⟩, ((Exc.of_ext HX2.out).trans (Exc.grown HG3.out (.inr rfl))).trans (Exc.setCell (.inl rfl) _)⟩
      · rw [HAD.out]
        first | exact at_set1 AT3.out | (have h := at_set1 (u := .bool !ok) AT3.out; simpa using h)
      · rw [HAD.out]
        exact HM3.out.setCell (fun e => HT.out.ne e.symm) _
end Go.Proofs.YtpfmojeigjmlfaaGreatDoor
