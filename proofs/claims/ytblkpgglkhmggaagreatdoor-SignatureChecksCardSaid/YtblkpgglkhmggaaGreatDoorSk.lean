import Derived.Test.YtblkpgglkhmggaaGreatDoorSd
import Derived.Test.YtblkpgglkhmggaaGreatDoorSe
import Derived.Test.YtblkpgglkhmggaaGreatDoorSf
import Derived.Test.YtblkpgglkhmggaaGreatDoorAtC
namespace Go.Proofs.YtblkpgglkhmggaaGreatDoor
open Go.RowKit
set_option linter.unusedSimpArgs false
set_option linter.unusedVariables false

/-! Worlds that differ in some blocks alone. -/
structure Exc (S : Nat → Prop) (w w' : World) : Prop where
  os : w'.os = w.os
  tape : w'.tape = w.tape
  output : w'.output = w.output
  size : w.heap.size ≤ w'.heap.size
  block : ∀ k, k < w.heap.size → ¬ S k → w'.heap[k]? = w.heap[k]?
section
variable {S : Nat → Prop} {a b c w w' : World}
theorem Exc.refl (S : Nat → Prop) (w : World) : Exc S w w := ⟨rfl, rfl, rfl, Nat.le_refl _, fun _ _ _ => rfl⟩
theorem Exc.trans (h : Exc S a b) (k : Exc S b c) : Exc S a c :=
  ⟨k.os.trans h.os, k.tape.trans h.tape, k.output.trans h.output, Nat.le_trans h.size k.size, fun i hi hs => (k.block i (Nat.lt_of_lt_of_le hi h.size) hs).trans (h.block i hi hs)⟩
theorem Exc.of_ext (h : Ext w w') : Exc S w w' := ⟨h.os, h.tape, h.output, h.size, fun k hk _ => Below.block h k hk⟩
theorem Exc.grown {r : Nat} (h : w.grownBy w' (some r)) (hr : S r) : Exc S w w' :=
  ⟨h.os, h.tape, h.output, h.size, fun k hk hs => h.block k hk (fun e => by injection e with e; subst e; exact hs hr)⟩
theorem Exc.setCell {p : Addr} (hp : S p.block) (u : Value) : Exc S w (w.setCell p u) := by
  refine ⟨rfl, rfl, rfl, by simp [World.setCell], fun k hk hs => Below.heap_setCell _ _ _ _ (fun e => hs (by first | exact e ▸ hp | exact e.symm ▸ hp))⟩
theorem Exc.below {B : Nat} (h : Exc S w w') (hS : ∀ k, S k → B ≤ k) (hB : B ≤ w.heap.size) : Below B w w' :=
  ⟨h.os, h.tape, h.output, h.size, fun k hk => h.block k (by omega) (fun s => by have := hS k s; omega)⟩
theorem Exc.ext (h : Exc S w w') (hS : ∀ k, S k → w.heap.size ≤ k) : Ext w w' := h.below hS (Nat.le_refl _)
theorem AtC.exc {T : TypeId} {g : Nat} {cs : Array Value} (h : AtC T w g cs) (hw : Exc S w w') (hg : ¬ S g) : AtC T w' g cs := (hw.block g h.lt hg).trans h
theorem MapI.exc {P : Program} {k e : TypeId} {b n : Nat} {m : List ArgP} (h : MapI P k e w b n m) (hw : Exc S w w') (hb : ¬ S b) : MapI P k e w' b n m := by
  have hlt := h.lt
  obtain ⟨D, ⟨es, clock, hh, r⟩, h2⟩ := h
  exact ⟨D, ⟨es, clock, (hw.block b hlt hb).trans hh, r⟩, h2⟩
theorem Exc.cell {p : Addr} (h : Exc S w w') (hp : p.block < w.heap.size) (hs : ¬ S p.block) : w'.cell? p = w.cell? p := World.cell?_of_block (w := w) (h.block p.block hp hs)
end

/-! The table of a signature. -/
structure TabW (w : World) (g mb n : Nat) (T : TabP) : Prop where
  at_ : AtC 63 w g #[.map (some mb), .bool T.wrong]
  map : MapI Tryz.prog 9 3 w mb n T.m
  ne : g ≠ mb
def two (g mb : Nat) : Nat → Prop := fun k => k = g ∨ k = mb
theorem frz_of {T : TypeId} {w : World} {g : Nat} {cs : Array Value} (h : AtC T w g cs) (j : Nat) : w.frozen? ⟨g, j, none⟩ = false := by
  unfold AtC at h
  simp [World.frozen?, h]
theorem at_set1 {T : TypeId} {w : World} {g : Nat} {a b u : Value} (h : AtC T w g #[a, b]) : AtC T (w.setCell ⟨g, 1, none⟩ u) g #[a, u] := by
  unfold AtC at h ⊢
  simp only [World.setCell, Array.getElem?_modify, if_true, h]
  rfl
theorem com_wf (a b : Int) : (Lit.int .i64 (comA a b).1).wf = true := by
  have h : 0 ≤ (comA a b).1 ∧ (comA a b).1 ≤ 4 := by
    unfold comA
    split
    · rename_i hk
      unfold knownB at hk
      simp only [Bool.and_eq_true, decide_eq_true_eq] at hk
      split
      · exact hk.1
      · split
        · exact hk.2
        · split
          · exact hk.1
          · simp
    · simp
  simp only [Lit.wf, IntKind.min, IntKind.max, IntKind.signed, IntKind.bits, Bool.and_eq_true, decide_eq_true_eq, if_true]
  omega
set_option maxHeartbeats 1000000 in
set_option maxRecDepth 100000 in
theorem tadd_any (g mb n : Nat) (T : TabP) (s : ByteArray) (t : Int) (w : World) (h : TabW w g mb n T) (hs : s.size ≤ maxLen) (ht : (Lit.int .i64 t).wf = true) (hn : n < maxLen) :
    Calls Tryz.prog 47 #[.pointer (some ⟨g, 0, none⟩), .string s, .int .i64 t] w fun e w' => e = .returned (.tuple #[]) ∧ TabW w' g mb (n + 1) (addT T (s.data.toList, t)) ∧ Exc (two g mb) w w' := by
  have h0 := h.at_.cell 0 _ rfl
  have h1 := h.at_.cell 1 _ rfl
  have f1 := frz_of h.at_ 1
  have hz : (zeroValue 3).run Tryz.prog w = .ok (.int .i64 0) w := by kernel_rfl
  have HT := Lib.hid h
  cases hg : getA T.m s.data.toList with
  | none =>
    have HG := Lib.hid hg
    clear hg h
    go_enter Tryz.func47, Tryz.ntmps47
    go_wp2_with (first
      | (at_lookup; refine wpList_lookupIok rfl _ _ 61 9 3 rfl Tryz.underlying9 Tryz.underlying3 Tryz.underlying61 hz mb n T.m rfl HT.out.map s rfl hs 0 false (by rw [HG.out]; rfl) (by rw [HG.out]; rfl) ?_)
      | (at_mapUpdate; refine wpList_mapUpdateI rfl _ _ _ 61 9 3 rfl Tryz.underlying9 Tryz.underlying3 Tryz.underlying61 mb n T.m rfl HT.out.map hn s rfl t rfl hs ht ?_; intro w2 hm2 hg2; have HM2 := Lib.hid hm2; have HG2 := Lib.hid hg2; clear hm2 hg2))
    refine bodyPost_ret (results_none rfl _ _ _) rfl ?_
    have hE : Exc (two g mb) w w2 := Exc.grown HG2.out (.inr rfl)
    refine ⟨rfl, ⟨?_, ?_, HT.out.ne⟩, hE⟩
    · unfold addT
      rw [HG.out]
      exact (HG2.out.block g HT.out.at_.lt (fun e => HT.out.ne (by injection e))).trans HT.out.at_
    · unfold addT
      rw [HG.out]
      exact HM2.out
  | some old =>
    have HG := Lib.hid hg
    have hcw : (Lit.int .i64 (comA old t).1).wf = true := com_wf old t
    have HAD := Lib.hid (show addT T (s.data.toList, t) = ⟨(s.data.toList, (comA old t).1) :: T.m, T.wrong || !(comA old t).2⟩ from by unfold addT; rw [hg])
    have KC := com_any old t
    generalize (comA old t).1 = cm at HAD KC hcw
    generalize (comA old t).2 = ok at HAD KC
    have HKC := Lib.hid KC
    obtain ⟨wrg, hwrg⟩ : ∃ wrg, wrg = T.wrong := ⟨_, rfl⟩
    rw [← hwrg] at h1 HAD
    have HWR := Lib.hid hwrg
    clear hg h KC hwrg
    go_enter Tryz.func47, Tryz.ntmps47
    go_wp2_with (first
      | (at_lookup; refine wpList_lookupIok rfl _ _ 61 9 3 rfl Tryz.underlying9 Tryz.underlying3 Tryz.underlying61 hz mb n T.m rfl HT.out.map s rfl hs old true (by rw [HG.out]; rfl) (by rw [HG.out]; rfl) ?_))
    refine (HKC.out _).mono ?_
    rintro e w2 ⟨rfl, hw2⟩
    have HX2 := Lib.hid hw2
    have AT2 := Lib.hid (show AtC 63 w2 g #[.map (some mb), .bool wrg] from by rw [HWR.out]; exact HT.out.at_.ext hw2)
    have MP2 := Lib.hid (HT.out.map.ext hw2)
    clear hw2 h0 h1 f1
    have h0 := AT2.out.cell 0 _ rfl
    cases wrg
    all_goals
      go_wp2_with (first
        | (at_mapUpdate; refine wpList_mapUpdateI rfl _ _ _ 61 9 3 rfl Tryz.underlying9 Tryz.underlying3 Tryz.underlying61 mb n T.m rfl MP2.out hn s rfl cm rfl hs hcw ?_; intro w3 hm3 hg3; have HM3 := Lib.hid hm3; have HG3 := Lib.hid hg3; have AT3 := Lib.hid (show AtC 63 w3 g _ from (hg3.block g AT2.out.lt (fun e => HT.out.ne (by injection e))).trans AT2.out); have y1 := AT3.out.cell 1 _ rfl; have y2 := frz_of AT3.out 1; clear hm3 hg3))
      go_end0
      refine ⟨rfl, ⟨?_, ?_, HT.out.ne⟩, ((Exc.of_ext HX2.out).trans (Exc.grown HG3.out (.inr rfl))).trans (Exc.setCell (.inl rfl) _)⟩
      · rw [HAD.out]
        first | exact at_set1 AT3.out | (have h := at_set1 (u := .bool !ok) AT3.out; simpa using h)
      · rw [HAD.out]
        exact HM3.out.setCell (fun e => HT.out.ne e.symm) _
end Go.Proofs.YtblkpgglkhmggaaGreatDoor
