import Derived.Test.YtiijdojihleggaaGreatDoorQBaseg
import Derived.Test.YtiijdojihleggaaGreatDoorProg
import Derived.ProofKit
import Derived.Lay
import Derived.LaidOnce
import Derived.SevenTiedAt
import Derived.OpenShut
import Derived.SliceStrings
import Derived.Deep.RegionLaw
import Derived.Deep.RegionWith
import Derived.SizedLaws
import Derived.ArgAppend
import Derived.IntWalk
import Derived.Maps.OwnOps
import Derived.Maps.OwnSet
import Derived.Sort.KeysCollected
import Derived.StringKeys
set_option maxRecDepth 100000
set_option linter.unusedSimpArgs false
set_option linter.unusedVariables false
namespace Go.Proofs.YtiijdojihleggaaGreatDoor
open Go.ChangeShapes Go.WideShapes Go.ChangeAt Go.RowKit
def RetTrue (w : World) : Ending → World → Prop := fun e w' => e = .returned (.bool true) ∧ Ext w w'
section
variable {H : Type} {enc : TypeId × Value → H} {P : Program}
theorem trodAll_ext (hl : laidOutB P = true) {W W' : World} (hw : Ext W W') : ∀ (ts : List TypeId) (vs : List Value) (ds : List (DataW H)) (ps : List MemPlace),
 (∀ t ∈ ts, P.readableRec t = true ∧ t < P.types.size) → DataW.TrodAll enc P W 0 (fun _ => true) true ts vs ds ps → (∀ x ∈ ps, x.block < W.heap.size) →
 DataW.TrodAll enc P W' 0 (fun b => decide (b < W.heap.size)) true ts vs ds ps
 | [], vs, ds, ps, _, h, _ => by
   obtain ⟨rfl, rfl, rfl⟩ := trodAll_nil h
   exact trodAll_mk0
 | t :: ts, vs, ds, ps, ht, h, hlt => by
   obtain ⟨v, vs', d, ds', p, q, rfl, rfl, rfl, h1, h2⟩ := trodAll_cons h
   obtain ⟨r1, r2⟩ := ht t (by simp)
   exact trodAll_cons_mk (Below.trod hl r1 r2 h1 hw (fun x hx => hlt x (by simp [hx]))) (trodAll_ext hl hw ts vs' ds' q (fun t h => ht t (by simp [h])) h2 (fun x hx => hlt x (by simp [hx])))
theorem law_post {f : Func} {s : ChangeSpec} {W W' : World} {args : Array Value} {ds gs : List (DataW H)} {before : List MemPlace} {t : TypeId}
 (hl : laidOutB P = true) (ht : ∀ t ∈ f.params.toList, P.readableRec t = true ∧ t < P.types.size) (hr : f.resultTypes = #[t]) (hb : P.underlying t = some .bool) (hv : s.vars = [])
 (hs : (s.fn H (ds ++ [])).results = [.lit (.bool true)] ∧ (s.fn H (ds ++ [])).args = ds ∧ (s.fn H (ds ++ [])).vars = [])
 (hW : DataW.Whole enc P f.params.toList s.vars false W args.toList ds gs before) (hw : Ext W W') :
 s.post enc P f false true false false W args (.bool true) W' := by
 have hW' := hW
 obtain ⟨p, q, hA, hV, rfl, _, _⟩ := hW
 rw [hv] at hV
 obtain ⟨rfl, rfl⟩ := trodVars_none hV
 have hlt : ∀ x ∈ p ++ [], x.block < W.heap.size := fun x hx => by simpa using hW'.lt x hx
 obtain ⟨h1, h2, h3⟩ := hs
 refine ⟨ds, [], p ++ [], [], p, [], hW', ?_, ?_, ?_, Below.frame hw _, fun h => by cases h⟩
 ·rw [h1, hr]
  exact trodAll_mk1 (shut_bool hb true)
 ·rw [h2]
  exact trodAll_ext hl hw _ _ _ _ ht hA (fun x hx => hlt x (by simpa using hx))
 ·rw [h3, hv]
  rfl
end
theorem own : ownKnob Tryz.prog.godebug = none := by kernel_rfl
theorem laidOut : laidOutB Tryz.prog = true := by kernel_rfl
end Go.Proofs.YtiijdojihleggaaGreatDoor
namespace Go.Proofs.YtiijdojihleggaaGreatDoor
open Go.RowKit
section
variable {P : Program} (w : World)
theorem wp_app {o : Oper} {a : Act} {K : Act → World → Prop} {Q : Exit → Act → World → Prop} (s x : Operand) (t : TypeId)
 (ho : o.op = .call { callee := .builtin .append, args := #[s, x], argTypes := #[t, t] })
 (base : Nat) (e : TypeId) (i : TypeInfo) (z : Value) (bytes : Nat) (ht : P.underlying t = some (.slice e)) (hi : P.info? e = some i) (hz : i.zero = some z)
 (hsize : i.size = 1) (hby : i.bytes = bytes) (hzs : z.cells.size = 1)
 (v : Value) (n : Nat) (xs : List Value) (hs : a.eval s = v) (hown : w.ownsRow base e 1 v n xs)
 (A : Option Addr) (m c : Nat) (news : List Value) (hx : a.eval x = .slice A m c) (hsl : Sl w A m news) (h1 : ∀ u ∈ news, u.oneCell' = true)
 (h63 : n + m ≤ maxLen) (hbytes : (n + m) * bytes ≤ 140737488355328) (hbase : base ≤ w.heap.size)
 (h : ∀ v' w', w'.ownsRow base e 1 v' (n + m) (xs ++ news) → w.grownBy w' v.ownBlock → K (a.put o.dst v') w') : o.wp P a w K Q := by
 cases A with
 | none =>
   have hm : m = 0 := by
    rcases Nat.eq_zero_or_pos m with h0 | h0
    ·exact h0
    ·obtain ⟨ad, u, hA, _⟩ := hsl.at_ h0
     cases hA
   subst hm
   have hn : news = [] := List.eq_nil_of_length_eq_zero hsl.1
   subst hn
   have hrun := run_append_nil_any (P := P) w base t o.type e i 1 ht hi v n xs hown c
   unfold Oper.wp execOp
   simp only [ho, resolve, invoke, builtin, Sem.run_bind, Sem.run_pure, Result.andThen_ok, List.map_toArray, List.map_cons, List.map_nil, hs, hx, hrun]
   exact h v w (by simpa using hown) (World.grownBy.refl w _)
 | some ad =>
   refine wp_append_own w s x t ho base e i z 1 bytes ht hi hz hsize hby hzs (by decide) v n xs hs hown ad m c news hx (by rw [hsl.1, Nat.mul_one])
    (fun j u hu => ?_) h1 h63 hbytes hbase (fun v' w' a1 a2 _ => h v' w' a1 a2)
   obtain ⟨ad', ha, _, hc⟩ := hsl.2 j u hu
   injection ha with ha
   subst ha
   exact hc
theorem step_app {ops : Array Oper} {o : Oper} {a : Act} {K : Act → World → Prop} {Q : Exit → Act → World → Prop} {E : Prop} (hgd : o.guard = none) (s x : Operand) (t : TypeId)
 (ho : o.op = .call { callee := .builtin .append, args := #[s, x], argTypes := #[t, t] })
 (base : Nat) (e : TypeId) (i : TypeInfo) (z : Value) (bytes : Nat) (ht : P.underlying t = some (.slice e)) (hi : P.info? e = some i) (hz : i.zero = some z)
 (hsize : i.size = 1) (hby : i.bytes = bytes) (hzs : z.cells.size = 1)
 (v : Value) (n : Nat) (xs : List Value) (hs : a.eval s = v) (hown : w.ownsRow base e 1 v n xs)
 (A : Option Addr) (m c : Nat) (news : List Value) (hx : a.eval x = .slice A m c) (hsl : Sl w A m news) (h1 : ∀ u ∈ news, u.oneCell' = true)
 (h63 : n + m ≤ maxLen) (hbytes : (n + m) * bytes ≤ 140737488355328) (hbase : base ≤ w.heap.size)
 (h : ∀ v' w', w'.ownsRow base e 1 v' (n + m) (xs ++ news) → w.grownBy w' v.ownBlock → K (a.put o.dst v') w') :
 if Region.wanted o (yielded ops a.tmps) = true then Oper.wp P o a w K Q else E := by
 have hw : Region.wanted o (yielded ops a.tmps) = true := by simp [Region.wanted, hgd]
 rw [if_pos hw]
 exact wp_app w s x t ho base e i z bytes ht hi hz hsize hby hzs v n xs hs hown A m c news hx hsl h1 h63 hbytes hbase h
end
end Go.Proofs.YtiijdojihleggaaGreatDoor
namespace Go.Proofs.YtiijdojihleggaaGreatDoor
open Go.ChangeShapes Go.WideShapes Go.ChangeAt Go.RowKit
def SlN (w : World) (A : Option Addr) (n size : Nat) (xs : List Value) : Prop :=
 xs.length = n * size ∧ ∀ j u, xs[j]? = some u → ∃ b o, A = some ⟨b, o, none⟩ ∧ b < w.heap.size ∧ w.cell? ⟨b, o + j, none⟩ = some u
theorem SlN.ext {w w' : World} {A : Option Addr} {n size : Nat} {xs : List Value} (h : SlN w A n size xs) (hw : Ext w w') : SlN w' A n size xs :=
 ⟨h.1, fun j u hu => by
  obtain ⟨b, o, ha, hb, hc⟩ := h.2 j u hu
  exact ⟨b, o, ha, Nat.lt_of_lt_of_le hb (Ext.size hw), (Ext.cell hw (p := ⟨b, o + j, none⟩) hb).trans hc⟩⟩
theorem SlN.nil (w : World) (A : Option Addr) (size : Nat) : SlN w A 0 size [] := ⟨by simp, fun j u h => by simp at h⟩
theorem flat_len {α β : Type} (f : α → List β) (m : Nat) (hf : ∀ a, (f a).length = m) (l : List α) : (l.flatMap f).length = l.length * m := by
 induction l with
 | nil => simp
 | cons a r ih => rw [List.flatMap_cons, List.length_append, ih, hf, List.length_cons, Nat.succ_mul, Nat.add_comm]
theorem flat_get {α β : Type} (f : α → List β) (m : Nat) (hf : ∀ a, (f a).length = m) : ∀ (l : List α) (k j : Nat) (x : α), l[k]? = some x → j < m → (l.flatMap f)[k * m + j]? = (f x)[j]?
 | [], k, j, x, h, _ => by simp at h
 | a :: r, 0, j, x, h, hj => by
   simp at h
   subst h
   rw [List.flatMap_cons, Nat.zero_mul, Nat.zero_add, List.getElem?_append_left (by rw [hf]; exact hj)]
 | a :: r, k + 1, j, x, h, hj => by
   rw [List.flatMap_cons, List.getElem?_append_right (by rw [hf, Nat.succ_mul]; omega), hf]
   have := flat_get f m hf r k j x (by simpa using h) hj
   rw [← this]
   congr 1
   rw [Nat.succ_mul]
   omega
def aliC (a : ByteArray × ByteArray) : List Value := [.string a.1, .string a.2]
def Als (w : World) (A : Option Addr) (n : Nat) (l : List (ByteArray × ByteArray)) : Prop := SlN w A n 2 (l.flatMap aliC)
theorem Als.ext {w w' : World} {A : Option Addr} {n : Nat} {l : List (ByteArray × ByteArray)} (h : Als w A n l) (hw : Ext w w') : Als w' A n l := SlN.ext h hw
theorem Als.len {w : World} {A : Option Addr} {n : Nat} {l : List (ByteArray × ByteArray)} (h : Als w A n l) : l.length = n := by
 have h1 := h.1
 rw [flat_len aliC 2 (fun _ => rfl)] at h1
 omega
theorem Als.at_ {w : World} {A : Option Addr} {n : Nat} {l : List (ByteArray × ByteArray)} (h : Als w A n l) {k : Nat} {x : ByteArray × ByteArray} (hx : l[k]? = some x) :
 ∃ b o, A = some ⟨b, o, none⟩ ∧ b < w.heap.size ∧ w.cell? ⟨b, o + k * 2, none⟩ = some (.string x.1) ∧ w.cell? ⟨b, o + (k * 2 + 1), none⟩ = some (.string x.2) := by
 have g0 := flat_get aliC 2 (fun _ => rfl) l k 0 x hx (by omega)
 have g1 := flat_get aliC 2 (fun _ => rfl) l k 1 x hx (by omega)
 obtain ⟨b, o, rfl, hb, h0⟩ := h.2 _ _ g0
 obtain ⟨b', o', e, _, h1⟩ := h.2 _ _ g1
 injection e with e
 injection e with e1 e2 _
 subst e1; subst e2
 exact ⟨b, o, rfl, hb, h0, h1⟩
section
variable {H : Type} {enc : TypeId × Value → H} {P : Program}
end
end Go.Proofs.YtiijdojihleggaaGreatDoor
namespace Go.Proofs.YtiijdojihleggaaGreatDoor
open Go.RowKit
def AtC (T : TypeId) (w : World) (g : Nat) (cs : Array Value) : Prop := w.heap[g]? = some (.cells cs T (0, 0))
section
variable {T : TypeId} {w w' : World} {g : Nat} {cs : Array Value}
theorem AtC.lt (h : AtC T w g cs) : g < w.heap.size := (Array.getElem?_eq_some_iff.1 h).1
theorem AtC.cell (h : AtC T w g cs) (j : Nat) (u : Value) (hu : cs[j]? = some u) : w.cell? ⟨g, j, none⟩ = some u := by
 unfold AtC at h
 simp [World.cell?, h, hu]
theorem AtC.below {B : Nat} (h : AtC T w g cs) (hw : Below B w w') (hg : g < B) : AtC T w' g cs := (Below.block hw g hg).trans h
theorem AtC.ext (h : AtC T w g cs) (hw : Ext w w') : AtC T w' g cs := h.below hw h.lt
theorem AtC.new (w : World) (cs : Array Value) : AtC T (w.alloc (.cells cs T)) w.heap.size cs := heap_alloc_new w _
theorem AtC.alloc (h : AtC T w g cs) (o : Obj) : AtC T (w.alloc o) g cs := h.ext ((Ext.refl w).alloc o)
end
end Go.Proofs.YtiijdojihleggaaGreatDoor
namespace Go.Proofs.YtiijdojihleggaaGreatDoor
open Go.RowKit
structure Exc (S : Nat → Prop) (w w' : World) : Prop where
 os : w'.os = w.os
 tape : w'.tape = w.tape
 output : w'.output = w.output
 size : w.heap.size ≤ w'.heap.size
 block : ∀ k, k < w.heap.size → ¬ S k → w'.heap[k]? = w.heap[k]?
section
variable {S : Nat → Prop} {a b c w w' : World}
theorem Exc.refl (S : Nat → Prop) (w : World) : Exc S w w := ⟨rfl, rfl, rfl, Nat.le_refl _, fun _ _ _ => rfl⟩
theorem Exc.trans (h : Exc S a b) (k : Exc S b c) : Exc S a c :=
 ⟨k.os.trans h.os, k.tape.trans h.tape, k.output.trans h.output, Nat.le_trans h.size k.size, fun i hi hs => (k.block i (Nat.lt_of_lt_of_le hi h.size) hs).trans (h.block i hi hs)⟩
theorem Exc.of_ext (h : Ext w w') : Exc S w w' := ⟨h.os, h.tape, h.output, h.size, fun k hk _ => Below.block h k hk⟩
theorem Exc.grown {r : Nat} (h : w.grownBy w' (some r)) (hr : S r) : Exc S w w' :=
 ⟨h.os, h.tape, h.output, h.size, fun k hk hs => h.block k hk (fun e => by injection e with e; subst e; exact hs hr)⟩
theorem Exc.setCell {p : Addr} (hp : S p.block) (u : Value) : Exc S w (w.setCell p u) := by
 refine ⟨rfl, rfl, rfl, by simp [World.setCell], fun k hk hs => Below.heap_setCell _ _ _ _ (fun e => hs (by first | exact e ▸ hp | exact e.symm ▸ hp))⟩
theorem Exc.below {B : Nat} (h : Exc S w w') (hS : ∀ k, S k → B ≤ k) (hB : B ≤ w.heap.size) : Below B w w' :=
 ⟨h.os, h.tape, h.output, h.size, fun k hk => h.block k (by omega) (fun s => by have := hS k s; omega)⟩
theorem Exc.ext (h : Exc S w w') (hS : ∀ k, S k → w.heap.size ≤ k) : Ext w w' := h.below hS (Nat.le_refl _)
theorem AtC.exc {T : TypeId} {g : Nat} {cs : Array Value} (h : AtC T w g cs) (hw : Exc S w w') (hg : ¬ S g) : AtC T w' g cs := (hw.block g h.lt hg).trans h
theorem Exc.cell {p : Addr} (h : Exc S w w') (hp : p.block < w.heap.size) (hs : ¬ S p.block) : w'.cell? p = w.cell? p := World.cell?_of_block (w := w) (h.block p.block hp hs)
end
theorem frz_of {T : TypeId} {w : World} {g : Nat} {cs : Array Value} (h : AtC T w g cs) (j : Nat) : w.frozen? ⟨g, j, none⟩ = false := by
 unfold AtC at h
 simp [World.frozen?, h]
theorem SlN.exc {S : Nat → Prop} {w w' : World} {A : Option Addr} {n size : Nat} {xs : List Value} (h : SlN w A n size xs) (hw : Exc S w w') (hs : ∀ ad, A = some ad → ¬ S ad.block) : SlN w' A n size xs :=
 ⟨h.1, fun j u hu => by
  obtain ⟨b, o, ha, hb, hc⟩ := h.2 j u hu
  exact ⟨b, o, ha, Nat.lt_of_lt_of_le hb hw.size, (Exc.cell (p := ⟨b, o + j, none⟩) hw hb (show ¬ S b from hs ⟨b, o, none⟩ ha)).trans hc⟩⟩
theorem Sl.exc {S : Nat → Prop} {w w' : World} {A : Option Addr} {n : Nat} {xs : List Value} (h : Sl w A n xs) (hw : Exc S w w') (hs : ∀ ad, A = some ad → ¬ S ad.block) : Sl w' A n xs :=
 ⟨h.1, fun j u hu => by
  obtain ⟨ad, ha, hb, hc⟩ := h.2 j u hu
  exact ⟨ad, ha, Nat.lt_of_lt_of_le hb hw.size, (Exc.cell hw (by rw [addr_block]; exact hb) (by rw [addr_block]; exact hs ad ha)).trans hc⟩⟩
end Go.Proofs.YtiijdojihleggaaGreatDoor
namespace Go.Proofs.YtiijdojihleggaaGreatDoor
open Go.RowKit
structure ExtW (w : World) where
 v : World
 h : Ext w v
instance ExtW.some (w : World) : Nonempty (ExtW w) := ⟨⟨w, Ext.refl w⟩⟩
theorem ExtW.call {P : Program} {f : FuncId} {args : Array Value} {w : World} {x : ExtW w} {v : Value} (h : Calls P f args x.v fun e w' => e = .returned v ∧ Ext x.v w') :
 Calls P f args x.v fun e w'' => e = .returned v ∧ ∃ y : ExtW w, w'' = y.v := h.mono fun _ _ ⟨he, hw⟩ => ⟨he, ⟨_, x.h.trans hw⟩, rfl⟩
theorem ExtW.same {P : Program} {f : FuncId} {args : Array Value} {w : World} {x : ExtW w} {v : Value} (h : Calls P f args x.v fun e w' => e = .returned v ∧ x.v = w') :
 Calls P f args x.v fun e w'' => e = .returned v ∧ ∃ y : ExtW w, w'' = y.v := h.mono fun _ _ ⟨he, hw⟩ => ⟨he, x, hw.symm⟩
theorem wp_region_ext {P : Program} {id : Nat} {Q : Exit → Act → World → Prop} {a : Act} {w : World} {l : List Oper} (hm : P.follows .mixedOrders = true) (hB : Region.lexB .any l.toArray = true)
 (h : wpQuiet P l.toArray (fun w' => ∃ x : ExtW w, w' = x.v) (fun a' => ∀ w', (∃ x : ExtW w, w' = x.v) → Q .normal a' w') l a) : (Code.region id l.toArray true).wp P Q a w :=
 wp_region_quiet (C := fun w' => ∃ x : ExtW w, w' = x.v) hm hB ⟨⟨w.drew, (Ext.refl w).drew⟩, rfl⟩ (by simpa using h)
end Go.Proofs.YtiijdojihleggaaGreatDoor
namespace Go.Proofs.YtiijdojihleggaaGreatDoor
open Go.ChangeShapes Go.WideShapes Go.ChangeAt Go.RowKit
section
variable {H : Type} {enc : TypeId × Value → H} {P : Program}
theorem add_none (b o t : Nat) : (⟨b, o, none⟩ : Addr).add t = ⟨b, o + t, none⟩ := by
 unfold Addr.add
 split
 ·subst_vars; rfl
 ·rfl
end
end Go.Proofs.YtiijdojihleggaaGreatDoor
namespace Go.Proofs.YtiijdojihleggaaGreatDoor
open Go.RowKit
theorem addr_flat {w : World} {ad : Addr} {n : Nat} {xs : List Value} (h : Sl w (some ad) n xs) (hn : 0 < n) : ∃ b o, ad = ⟨b, o, none⟩ ∧ b < w.heap.size := by
 obtain ⟨ad', u, ha, _, hc⟩ := h.at_ hn
 injection ha with ha
 subst ha
 have hb := World.block_lt_of_cell? w _ hc
 have hs := World.cell?_spot hc
 obtain ⟨b, o, sp⟩ := ad
 refine ⟨b, o, ?_, by rwa [addr_block] at hb⟩
 simp [Addr.add] at hs
 rw [hs]
theorem add_flat (b o j : Nat) : (⟨b, o, none⟩ : Addr).add j = ⟨b, o + j, none⟩ := by
 unfold Addr.add
 split
 ·subst_vars; rfl
 ·rfl
def Later (w w' W0 : World) : Prop := w'.heap.size ≤ W0.heap.size ∧ ∀ b, w.heap.size ≤ b → b < w'.heap.size → W0.heap[b]? = w'.heap[b]?
theorem Later.refl (w w' : World) : Later w w' w' := ⟨Nat.le_refl _, fun _ _ _ => rfl⟩
theorem Sl.later {w w' W0 : World} {A : Option Addr} {n : Nat} {xs : List Value} (h : Sl w' A n xs) (hA : ∀ ad, A = some ad → w.heap.size ≤ ad.block) (hl : Later w w' W0) : Sl W0 A n xs :=
 ⟨h.1, fun j u hu => by
  obtain ⟨ad, ha, hb, hc⟩ := h.2 j u hu
  refine ⟨ad, ha, Nat.lt_of_lt_of_le hb hl.1, ?_⟩
  rw [← hc]
  exact World.cell?_of_block (by rw [addr_block]; exact hl.2 ad.block (hA ad ha) hb)⟩
section
variable {P : Program} (w : World)
end
def Kept (row : Option Nat) (w W0 : World) : Prop := w.heap.size ≤ W0.heap.size ∧ ∀ b, b < w.heap.size → some b ≠ row → W0.heap[b]? = w.heap[b]?
theorem Kept.refl (row : Option Nat) (w : World) : Kept row w w := ⟨Nat.le_refl _, fun _ _ _ => rfl⟩
theorem Kept.ext {w W0 : World} (row : Option Nat) (h : Ext w W0) : Kept row w W0 := ⟨Ext.size h, fun b hb _ => Below.block h b hb⟩
theorem Kept.grown {w W0 : World} {row : Option Nat} (h : w.grownBy W0 row) : Kept row w W0 := ⟨h.size, fun b hb hn => h.block b hb hn⟩
theorem Kept.trans {row row' : Option Nat} {a b c : World} (h : Kept row a b) (k : Kept row' b c) (hr : row' = row ∨ ∀ x, row' = some x → a.heap.size ≤ x) : Kept row a c :=
 ⟨Nat.le_trans h.1 k.1, fun x hx hn => by
  refine (k.2 x (Nat.lt_of_lt_of_le hx h.1) fun e => ?_).trans (h.2 x hx hn)
  rcases hr with hr | hr
  ·exact hn (e.trans hr)
  ·have := hr x e.symm; omega⟩
theorem Sl.kept {w W0 : World} {row : Option Nat} {A : Option Addr} {n : Nat} {xs : List Value} (h : Sl w A n xs) (hk : Kept row w W0) (hr : ∀ ad, A = some ad → some ad.block ≠ row) : Sl W0 A n xs :=
 ⟨h.1, fun j u hu => by
  obtain ⟨ad, ha, hb, hc⟩ := h.2 j u hu
  refine ⟨ad, ha, Nat.lt_of_lt_of_le hb hk.1, ?_⟩
  rw [← hc]
  exact World.cell?_of_block (by rw [addr_block]; exact hk.2 ad.block hb (hr ad ha))⟩
theorem Sl.lit (w : World) (cs : Array Value) (t : TypeId) (n : Nat) (hn : cs.size = n) : Sl (w.alloc (.cells cs t)) (some ⟨w.heap.size, 0, none⟩) n cs.toList :=
 ⟨by simpa using hn, fun j u hu => ⟨_, rfl, by simp, by
  have e1 : (⟨w.heap.size, 0, none⟩ : Addr).add j = ⟨w.heap.size, j, none⟩ := by
   unfold Addr.add
   split
   ·subst_vars; rfl
   ·simp
  rw [e1, cell_of_row _ w.heap.size j cs t (0, 0) (heap_alloc_new w _)]
  simpa using hu⟩⟩
end Go.Proofs.YtiijdojihleggaaGreatDoor
namespace Go.Proofs.YtiijdojihleggaaGreatDoor
open Go.ChangeShapes Go.WideShapes Go.ChangeAt Go.RowKit
theorem flat_at {α : Type} {f : α → List Value} {m : Nat} (hf : ∀ a, (f a).length = m) (hm : 0 < m) {w : World} {A : Option Addr} {n : Nat} {l : List α} (h : SlN w A n m (l.flatMap f)) {k : Nat} {x : α} (hx : l[k]? = some x) :
 ∃ b o, A = some ⟨b, o, none⟩ ∧ b < w.heap.size ∧ ∀ j u, (f x)[j]? = some u → w.cell? ⟨b, o + k * m + j, none⟩ = some u := by
 have g0 := flat_get f m hf l k 0 x hx hm
 obtain ⟨u0, hu0⟩ : ∃ u, (f x)[0]? = some u := ⟨_, List.getElem?_eq_getElem (by rw [hf]; exact hm)⟩
 rw [hu0] at g0
 obtain ⟨b, o, rfl, hb, _⟩ := h.2 _ _ g0
 refine ⟨b, o, rfl, hb, fun j u hu => ?_⟩
 have hj : j < m := by have := (List.getElem?_eq_some_iff.1 hu).1; rwa [hf] at this
 have g1 := flat_get f m hf l k j x hx hj
 rw [hu] at g1
 obtain ⟨b', o', e, _, h1⟩ := h.2 _ _ g1
 injection e with e
 injection e with e1 e2 _
 subst e1; subst e2
 rw [Nat.add_assoc]
 exact h1
section
variable {H : Type} {enc : TypeId × Value → H} {P : Program}
theorem open_sl {t e : TypeId} {W : World} {k : Nat} {cs : List Value} {x : DataW H × List MemPlace} (ht : P.underlying t = some (.slice e)) (h : DataW.trod enc P W 0 (fun _ => true) true k t cs = some x) :
 ∃ A n c, cs = [.slice A n c] ∧ n ≤ maxLen ∧ ((∀ m ∈ x.1.weights P t, m ≤ reachBytes) → n * P.bytesOf e ≤ reachBytes) := by
 rcases DataW.trod_slice ht h with ⟨rfl, rfl⟩ | ⟨a, len, cap, elems, rest, m, _, rfl, rfl, _, hl, hm, hlen, _⟩
 ·exact ⟨none, 0, 0, rfl, Nat.zero_le _, fun _ => by simp⟩
 ·refine ⟨some a, len, cap, rfl, Nat.le_trans hl hm, fun hw => ?_⟩
  have h1 := hw ((elems.length + rest.length) * P.bytesOf e) (by simp [DataW.weights, ht])
  rw [← hlen]
  exact Nat.le_trans (Nat.mul_le_mul_right _ (Nat.le_add_right _ _)) h1
end
end Go.Proofs.YtiijdojihleggaaGreatDoor
namespace Go.Proofs.YtiijdojihleggaaGreatDoor
open Go.RowKit
theorem own_slN {w : World} {B : Nat} {e : TypeId} {size : Nat} {v : Value} {n : Nat} {xs : List Value} (h : w.ownsRow B e size v n xs) :
 ∃ A c, v = .slice A n c ∧ SlN w A n size xs := by
 obtain ⟨hl, h⟩ := h
 rcases h with ⟨rfl, rfl⟩ | ⟨g, cap, cur, rfl, hb, hg, hn, hm, hs, ht⟩
 ·exact ⟨none, 0, rfl, hl, fun j u hu => by
   have : xs = [] := List.eq_nil_of_length_eq_zero (by simpa using hl)
   subst this
   simp at hu⟩
 ·refine ⟨some ⟨g, 0, none⟩, cap, rfl, hl, fun j u hu => ⟨g, 0, rfl, (Array.getElem?_eq_some_iff.1 hg).1, ?_⟩⟩
  rw [cell_of_row w g (0 + j) cur e (0, 0) hg]
  have h3 : (cur.toList.take (n * size))[j]? = some u := by rw [ht]; exact hu
  rw [List.getElem?_take] at h3
  rw [Nat.zero_add]
  split at h3
  ·simpa using h3
  ·cases h3
section
variable {P : Program} (w : World)
theorem appN_where (base : Nat) (t ty e : TypeId) (i : TypeInfo) (z : Value) (size bytes : Nat) (ht : P.underlying t = some (.slice e)) (hi : P.info? e = some i) (hz : i.zero = some z)
 (hsize : i.size = size) (hby : i.bytes = bytes) (hzs : z.cells.size = size) (hpos : 0 < size) (v : Value) (n : Nat) (xs : List Value) (hown : w.ownsRow base e size v n xs)
 (ad : Addr) (m c : Nat) (news : List Value) (hl : news.length = m * size) (hnews : ∀ j u, news[j]? = some u → w.cell? (ad.add j) = some u) (h1 : ∀ u ∈ news, u.oneCell' = true)
 (h63 : n + m ≤ maxLen) (hbytes : (n + m) * bytes ≤ 140737488355328) {v' : Value} {w' : World} (hr : (Builtin.append_ #[t, t] ty #[v, .slice (some ad) m c]).run P w = .ok v' w') :
 v'.ownBlock = v.ownBlock ∨ ∀ b, v'.ownBlock = some b → w.heap.size ≤ b := by
 have hlen := hown.1
 rcases hown.2 with ⟨hv, hx⟩ | ⟨g, cap, cur, rfl, hb, hg, hn, hm, hs, htk⟩
 ·subst hx
  subst hv
  have hx0 : xs = [] := List.eq_nil_of_length_eq_zero (by simpa using hlen)
  subst hx0
  obtain ⟨v1, w1, hr1, ho1, _, _⟩ := run_append_own (P := P) w w.heap.size t ty e i z size bytes ht hi hz hsize hby hzs hpos _ 0 [] (World.ownsRow_nil w w.heap.size e size) ad m c news hl hnews h1 h63 hbytes (Nat.le_refl _)
  rw [hr] at hr1
  injection hr1 with e1 e2
  subst e1; subst e2
  exact .inr fun b hb => (ho1.lt b hb).1
 ·by_cases hroom : n + m ≤ cap
  ·have hr1 := run_append_room (P := P) w t ty e i ht hi g n cap cur hg ad m c news (by rw [hsize]; exact hl) hnews h1 hroom (by rw [hsize, hl, hs, ← Nat.add_mul]; exact Nat.mul_le_mul_right _ hroom)
   rw [hr] at hr1
   injection hr1 with e1 e2
   subst e1
   exact .inl rfl
  ·obtain ⟨v1, w1, hr1, ho1, _⟩ := run_append_arg_grows (P := P) w t ty e i z size bytes ht hi hz hsize hby hzs hpos ⟨g, 0, none⟩ n cap xs hown.1 (fun j u hu => hown.cells rfl j u hu) ad m c news hl hnews (by omega) h63 hbytes
   rw [hr] at hr1
   injection hr1 with e1 e2
   subst e1; subst e2
   exact .inr fun b hb => (ho1.lt b hb).1
theorem wpList_appN {ops : Array Oper} {rest : List Oper} {o : Oper} {a : Act} {Q : Exit → Act → World → Prop} (hgd : o.guard = none) (s x : Operand) (t : TypeId)
 (ho : o.op = .call { callee := .builtin .append, args := #[s, x], argTypes := #[t, t] })
 (base : Nat) (e : TypeId) (i : TypeInfo) (z : Value) (size bytes : Nat) (ht : P.underlying t = some (.slice e)) (hi : P.info? e = some i) (hz : i.zero = some z)
 (hsize : i.size = size) (hby : i.bytes = bytes) (hzs : z.cells.size = size) (hpos : 0 < size)
 (v : Value) (n : Nat) (xs : List Value) (hs : a.eval s = v) (hown : w.ownsRow base e size v n xs)
 (ad : Addr) (m c : Nat) (news : List Value) (hx : a.eval x = .slice (some ad) m c) (hl : news.length = m * size) (hnews : ∀ j u, news[j]? = some u → w.cell? (ad.add j) = some u) (h1 : ∀ u ∈ news, u.oneCell' = true)
 (h63 : n + m ≤ maxLen) (hbytes : (n + m) * bytes ≤ 140737488355328) (hbase : base ≤ w.heap.size)
 (h : ∀ v' w', w'.ownsRow base e size v' (n + m) (xs ++ news) → w.grownBy w' v.ownBlock → (v'.ownBlock = v.ownBlock ∨ ∀ b, v'.ownBlock = some b → w.heap.size ≤ b) → wpList P ops Q rest (a.put o.dst v') w') :
 wpList P ops Q (o :: rest) a w := by
 obtain ⟨v', w', hr, h2, h3, _⟩ := run_append_own (P := P) w base t o.type e i z size bytes ht hi hz hsize hby hzs hpos v n xs hown ad m c news hl hnews h1 h63 hbytes hbase
 have hw := appN_where w base t o.type e i z size bytes ht hi hz hsize hby hzs hpos v n xs hown ad m c news hl hnews h1 h63 hbytes hr
 refine wpList_plain hgd fun K hK => ?_
 unfold Oper.wp execOp
 simp only [ho, resolve, invoke, builtin, Sem.run_bind, Sem.run_pure, Result.andThen_ok, List.map_toArray, List.map_cons, List.map_nil, hs, hx, hr]
 exact hK _ _ (h v' w' h2 h3 hw)
end
theorem new_cells (w : World) (cs : Array Value) (t : TypeId) : ∀ j u, cs.toList[j]? = some u → (w.alloc (.cells cs t)).cell? ((⟨w.heap.size, 0, none⟩ : Addr).add j) = some u := by
 intro j u hu
 rw [add_flat, Nat.zero_add, cell_of_row _ w.heap.size j cs t (0, 0) (heap_alloc_new w _)]
 simpa using hu
end Go.Proofs.YtiijdojihleggaaGreatDoor
namespace Go.Proofs.YtiijdojihleggaaGreatDoor
open Go.RowKit Go.Maps Go.Sort Go.WideMaps
section
variable {P : Program} {k e t : TypeId} {w w' : World} {b n : Nat} {ks : List (List UInt8)}
theorem plainElem_bool_inv {H : Type} (he : P.underlying e = some .bool) {v : Value} {x : Bool} {ps : List MemPlace} (h : plainElem (H := H) P e v = some (.lit (.bool x), ps)) : v = .bool x := by
 unfold plainElem at h
 rw [he] at h
 cases v <;> simp at h
 rw [h.1]
def MapS (P : Program) (k e : TypeId) (w : World) (b n : Nat) (ks : List (List UInt8)) : Prop :=
 ∃ D : DataW Unit, w.ownsMap P k (plainElem P e) b n D ∧ (∀ x, D.atKey (.string x) (.lit (.bool false)) = .lit (.bool (decide (x ∈ ks)))) ∧ (∀ x, Maps.has D (.string x) = decide (x ∈ ks))
theorem MapS.lt (h : MapS P k e w b n ks) : b < w.heap.size := by obtain ⟨D, h, _⟩ := h; exact h.lt
theorem MapS.below {B : Nat} (h : MapS P k e w b n ks) (hw : Below B w w') (hb : b < B) : MapS P k e w' b n ks := by
 obtain ⟨D, ⟨es, clock, hh, r⟩, h2⟩ := h
 exact ⟨D, ⟨es, clock, (Below.block hw b hb).trans hh, r⟩, h2⟩
theorem MapS.ext (h : MapS P k e w b n ks) (hw : Ext w w') : MapS P k e w' b n ks := h.below hw h.lt
theorem MapS.kept {row : Option Nat} (h : MapS P k e w b n ks) (hg : w.grownBy w' row) (hne : some b ≠ row) : MapS P k e w' b n ks := by
 obtain ⟨D, h, r⟩ := h
 exact ⟨D, h.kept hg hne, r⟩
theorem MapS.alloc (h : MapS P k e w b n ks) (o : Obj) : MapS P k e (w.alloc o) b n ks := by
 obtain ⟨D, h, r⟩ := h
 exact ⟨D, h.alloc o, r⟩
theorem MapS.setCell (h : MapS P k e w b n ks) {a : Addr} (ha : b ≠ a.block) (u : Value) : MapS P k e (w.setCell a u) b n ks := by
 obtain ⟨D, h, r⟩ := h
 exact ⟨D, h.setCell ha u, r⟩
theorem MapS.mono {m : Nat} (h : MapS P k e w b n ks) (hm : n ≤ m) : MapS P k e w b m ks := by
 obtain ⟨D, h, r⟩ := h
 exact ⟨D, h.mono hm, r⟩
theorem MapS.made (P : Program) (k e : TypeId) (w : World) : MapS P k e (w.alloc (.map #[] 0)) w.heap.size 0 [] :=
 ⟨.map [], World.ownsMap_made w P k _, fun x => by simp [DataW.atKey], fun x => by simp [Maps.has]⟩
theorem MapS.same {ks' : List (List UInt8)} (h : MapS P k e w b n ks) (hm : ∀ x, x ∈ ks' ↔ x ∈ ks) : MapS P k e w b n ks' := by
 obtain ⟨D, h, h1, h2⟩ := h
 exact ⟨D, h, fun x => by rw [h1]; simp [hm x], fun x => by rw [h2]; simp [hm x]⟩
theorem MapS.lookup (h : MapS P k e w b n ks) (hk : P.underlying k = some .string) (he : P.underlying e = some .bool) (ht : P.underlying t = some (.map k e)) (hz : (zeroValue e).run P w = .ok (.bool false) w)
 (s : ByteArray) (hs : s.size ≤ maxLen) : (Instr.lookup t (.map (some b)) (.string s) false).run P w = .ok (.bool (decide (s.data.toList ∈ ks))) w := by
 obtain ⟨D, h, h1, _⟩ := h
 obtain ⟨v, ps, hrun, hv⟩ := h.lookup (string_keyed hk) ht hz (plainElem_bool he false) (keyOf_string_mk hk hs)
 rw [h1] at hv
 rw [plainElem_bool_inv he hv] at hrun
 exact hrun
theorem MapS.update (h : MapS P k e w b n ks) (hk : P.underlying k = some .string) (he : P.underlying e = some .bool) (ht : P.underlying t = some (.map k e)) (hn : n < maxLen)
 (s : ByteArray) (hs : s.size ≤ maxLen) : ∃ w', (Instr.mapUpdate t (.map (some b)) (.string s) (.bool true)).run P w = .ok () w' ∧ MapS P k e w' b (n + 1) (ks ++ [s.data.toList]) ∧ w.grownBy w' (some b) := by
 obtain ⟨D, h, h1, h2⟩ := h
 obtain ⟨w', hrun, h3, h4⟩ := h.update (string_keyed hk) ht hn (keyOf_string_mk hk hs) (plainElem_bool he true)
 refine ⟨w', hrun, ⟨_, h3, fun x => ?_, fun x => ?_⟩, h4⟩
 ·by_cases hx : x = s.data.toList
  ·subst hx
   rw [Maps.atKey_put_same h.isMap (by simp [WideAt.IsKeyLit])]
   simp
  ·rw [Maps.atKey_put_other (by simpa using hx), h1]
   simp [hx]
 ·by_cases hx : x = s.data.toList
  ·subst hx
   rw [Maps.has_put_same h.isMap (by simp [WideAt.IsKeyLit])]
   simp
  ·rw [Maps.has_put_other (by simpa using hx), h2]
   simp [hx]
theorem MapS.keys (h : MapS P k e w b n ks) (hk : P.underlying k = some .string) : ∃ D : DataW Unit, w.ownsMap P k (plainElem P e) b n D ∧ Maps.size D ≤ n ∧ (strKeys D).Nodup ∧ ∀ x, x ∈ strKeys D ↔ x ∈ ks := by
 obtain ⟨D, h, _, h2⟩ := h
 refine ⟨D, h, h.size_le, ?_⟩
 obtain ⟨es, hD, hpw, _⟩ := h.entries (string_keyed hk)
 obtain ⟨es', hD', hko⟩ := h.keysOf
 obtain rfl : es = es' := by rw [hD] at hD'; simpa using hD'
 subst hD
 have hstr : ∀ p ∈ es, ∃ x, p.1 = .string x := fun p hp => by
  obtain ⟨v, hv⟩ := hko p hp
  obtain ⟨x, _, hx, _⟩ := Maps.keyOf_str hk hv
  exact ⟨x, hx⟩
 have hnd : (strKeys (.map es : DataW Unit)).Nodup := by
  show (es.map fun p => strOf p.1).Nodup
  refine List.pairwise_map.2 (hpw.imp_of_mem fun {p q} hp' hq' hne e => hne ?_)
  obtain ⟨a, ha⟩ := hstr p hp'
  obtain ⟨b, hb⟩ := hstr q hq'
  rw [ha, hb] at e ⊢
  exact congrArg _ e
 refine ⟨hnd, fun x => ?_⟩
 have h3 := h2 x
 rw [Maps.has_eq] at h3
 constructor
 ·intro hx
  obtain ⟨p, hp, hpx⟩ := List.mem_map.1 (show x ∈ es.map fun p => strOf p.1 from hx)
  obtain ⟨a, ha⟩ := hstr p hp
  have : (es.any fun p => p.1.sameKey (.string x)) = true := List.any_eq_true.2 ⟨p, hp, by rw [ha] at hpx ⊢; simpa [Lit.sameKey, strOf] using hpx⟩
  rw [this] at h3
  simpa using h3.symm
 ·intro hx
  have : (es.any fun p => p.1.sameKey (.string x)) = true := by rw [h3]; simpa using hx
  obtain ⟨p, hp, hs⟩ := List.any_eq_true.1 this
  obtain ⟨a, ha⟩ := hstr p hp
  refine List.mem_map.2 ⟨p, hp, ?_⟩
  rw [ha] at hs ⊢
  simpa [Lit.sameKey, strOf] using hs
theorem wpList_mapUpdateS {w : World} {ops : Array Oper} {rest : List Oper} {o : Oper} {a : Act} {Q : Exit → Act → World → Prop} (hg : o.guard = none) (m x v : Operand) (t k e : TypeId) (hop : o.op = Op.mapUpdate t m x v)
 (hk : P.underlying k = some .string) (he : P.underlying e = some .bool) (ht : P.underlying t = some (.map k e)) (b n : Nat) (ks : List (List UInt8))
 (hm : a.eval m = .map (some b)) (h : MapS P k e w b n ks) (hn : n < maxLen) (s : ByteArray) (hx : a.eval x = .string s) (hv : a.eval v = .bool true) (hs : s.size ≤ maxLen)
 (hK : ∀ w', MapS P k e w' b (n + 1) (ks ++ [s.data.toList]) → w.grownBy w' (some b) → wpList P ops Q rest (a.put o.dst undef) w') : wpList P ops Q (o :: rest) a w := by
 refine wpList_plain hg fun K' hK' => ?_
 obtain ⟨w', hrun, r1, r2⟩ := h.update hk he ht hn s hs
 unfold Oper.wp
 simp [execOp, hop, hm, hx, hv, hrun, Result.andThen]
 exact hK' _ _ (hK w' r1 r2)
end
end Go.Proofs.YtiijdojihleggaaGreatDoor
