import Derived.Test.YtpfmojeigjmlfaaGreatDoorBase
import Derived.Test.YtpfmojeigjmlfaaGreatDoorAtC
import Derived.Test.YtpfmojeigjmlfaaGreatDoorOpenA
namespace Go.Proofs.YtpfmojeigjmlfaaGreatDoor
open Go.RowKit
set_option linter.unusedSimpArgs false
set_option linter.unusedVariables false

/-! Worlds that differ in some blocks alone. -/
structure Exc (S : Nat → Prop) (w w' : World) : Prop where
  os : w'.os = w.os
  tape : w'.tape = w.tape
  output : w'.output = w.output
  size : w.heap.size ≤ w'.heap.size
  block : ∀ k, k < w.heap.size → ¬ S k → w'.heap[k]? = w.heap[k]?
section
variable {S : Nat → Prop} {a b c w w' : World}
theorem Exc.refl (S : Nat → Prop) (w : World) : Exc S w w := ⟨rfl, rfl, rfl, Nat.le_refl _, fun _ _ _ => rfl⟩
theorem Exc.trans (h : Exc S a b) (k : Exc S b c) : Exc S a c :=
  ⟨k.os.trans h.os, k.tape.trans h.tape, k.output.trans h.output, Nat.le_trans h.size k.size, fun i hi hs => (k.block i (Nat.lt_of_lt_of_le hi h.size) hs).trans (h.block i hi hs)⟩
theorem Exc.of_ext (h : Ext w w') : Exc S w w' := ⟨h.os, h.tape, h.output, h.size, fun k hk _ => Below.block h k hk⟩
theorem Exc.grown {r : Nat} (h : w.grownBy w' (some r)) (hr : S r) : Exc S w w' :=
  ⟨h.os, h.tape, h.output, h.size, fun k hk hs => h.block k hk (fun e => by injection e with e; subst e; exact hs hr)⟩
theorem Exc.setCell {p : Addr} (hp : S p.block) (u : Value) : Exc S w (w.setCell p u) := by
  refine ⟨rfl, rfl, rfl, by simp [World.setCell], fun k hk hs => Below.heap_setCell _ _ _ _ (fun e => hs (by first | exact e ▸ hp | exact e.symm ▸ hp))⟩
theorem Exc.below {B : Nat} (h : Exc S w w') (hS : ∀ k, S k → B ≤ k) (hB : B ≤ w.heap.size) : Below B w w' :=
  ⟨h.os, h.tape, h.output, h.size, fun k hk => h.block k (by omega) (fun s => by have := hS k s; omega)⟩
theorem Exc.ext (h : Exc S w w') (hS : ∀ k, S k → w.heap.size ≤ k) : Ext w w' := h.below hS (Nat.le_refl _)
theorem AtC.exc {T : TypeId} {g : Nat} {cs : Array Value} (h : AtC T w g cs) (hw : Exc S w w') (hg : ¬ S g) : AtC T w' g cs := (hw.block g h.lt hg).trans h
theorem Exc.cell {p : Addr} (h : Exc S w w') (hp : p.block < w.heap.size) (hs : ¬ S p.block) : w'.cell? p = w.cell? p := World.cell?_of_block (w := w) (h.block p.block hp hs)
end
theorem frz_of {T : TypeId} {w : World} {g : Nat} {cs : Array Value} (h : AtC T w g cs) (j : Nat) : w.frozen? ⟨g, j, none⟩ = false := by
  unfold AtC at h
  simp [World.frozen?, h]
theorem SlN.exc {S : Nat → Prop} {w w' : World} {A : Option Addr} {n size : Nat} {xs : List Value} (h : SlN w A n size xs) (hw : Exc S w w') (hs : ∀ ad, A = some ad → ¬ S ad.block) : SlN w' A n size xs :=
  ⟨h.1, fun j u hu => by
    obtain ⟨b, o, ha, hb, hc⟩ := h.2 j u hu
    exact ⟨b, o, ha, Nat.lt_of_lt_of_le hb hw.size, (Exc.cell (p := ⟨b, o + j, none⟩) hw hb (show ¬ S b from hs ⟨b, o, none⟩ ha)).trans hc⟩⟩
theorem Sl.exc {S : Nat → Prop} {w w' : World} {A : Option Addr} {n : Nat} {xs : List Value} (h : Sl w A n xs) (hw : Exc S w w') (hs : ∀ ad, A = some ad → ¬ S ad.block) : Sl w' A n xs :=
  ⟨h.1, fun j u hu => by
    obtain ⟨ad, ha, hb, hc⟩ := h.2 j u hu
    exact ⟨ad, ha, Nat.lt_of_lt_of_le hb hw.size, (Exc.cell hw (by rw [addr_block]; exact hb) (by rw [addr_block]; exact hs ad ha)).trans hc⟩⟩
end Go.Proofs.YtpfmojeigjmlfaaGreatDoor
