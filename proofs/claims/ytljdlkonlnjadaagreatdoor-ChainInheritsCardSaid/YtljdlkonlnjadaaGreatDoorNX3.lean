import Derived.Test.YtljdlkonlnjadaaGreatDoorNX2
import Derived.Test.YtljdlkonlnjadaaGreatDoorProg
import Derived.ProofKit
import Derived.Lay
import Derived.LaidOnce
import Derived.SevenTiedAt
import Derived.OpenShut
import Derived.SliceStrings
import Derived.SizedLaws
import Derived.Test.YtljdlkonlnjadaaGreatDoorNXM
import Derived.IntWalk
set_option maxRecDepth 100000
set_option linter.unusedSimpArgs false
set_option linter.unusedVariables false
open Go.Lib (hid)
namespace Go.Proofs.YtljdlkonlnjadaaGreatDoor
open Go.ChangeShapes Go.WideShapes Go.ChangeAt Go.RowKit
def RetTrue (w : World) : Ending → World → Prop := fun e w' => e = .returned (.bool true) ∧ Ext w w'
section
variable {H : Type} {enc : TypeId × Value → H} {P : Program}
theorem trodAll_ext (hl : laidOutB P = true) {W W' : World} (hw : Ext W W') : ∀ (ts : List TypeId) (vs : List Value) (ds : List (DataW H)) (ps : List MemPlace),
 (∀ t ∈ ts, P.readableRec t = true ∧ t < P.types.size) → DataW.TrodAll enc P W 0 (fun _ => true) true ts vs ds ps → (∀ x ∈ ps, x.block < W.heap.size) →
 DataW.TrodAll enc P W' 0 (fun b => decide (b < W.heap.size)) true ts vs ds ps
 | [], vs, ds, ps, _, h, _ => by
   obtain ⟨rfl, rfl, rfl⟩ := trodAll_nil h
   exact trodAll_mk0
 | t :: ts, vs, ds, ps, ht, h, hlt => by
   obtain ⟨v, vs', d, ds', p, q, rfl, rfl, rfl, h1, h2⟩ := trodAll_cons h
   obtain ⟨r1, r2⟩ := ht t (by simp)
   exact trodAll_cons_mk (Below.trod hl r1 r2 h1 hw (fun x hx => hlt x (by simp [hx]))) (trodAll_ext hl hw ts vs' ds' q (fun t h => ht t (by simp [h])) h2 (fun x hx => hlt x (by simp [hx])))
theorem law_post {f : Func} {s : ChangeSpec} {W W' : World} {args : Array Value} {ds gs : List (DataW H)} {before : List MemPlace} {t : TypeId}
 (hl : laidOutB P = true) (ht : ∀ t ∈ f.params.toList, P.readableRec t = true ∧ t < P.types.size) (hr : f.resultTypes = #[t]) (hb : P.underlying t = some .bool) (hv : s.vars = [])
 (hs : (s.fn H (ds ++ [])).results = [.lit (.bool true)] ∧ (s.fn H (ds ++ [])).args = ds ∧ (s.fn H (ds ++ [])).vars = [])
 (hW : DataW.Whole enc P f.params.toList s.vars false W args.toList ds gs before) (hw : Ext W W') :
 s.post enc P f false true false false W args (.bool true) W' := by
 have hW' := hW
 obtain ⟨p, q, hA, hV, rfl, _, _⟩ := hW
 rw [hv] at hV
 obtain ⟨rfl, rfl⟩ := trodVars_none hV
 have hlt : ∀ x ∈ p ++ [], x.block < W.heap.size := fun x hx => by simpa using hW'.lt x hx
 obtain ⟨h1, h2, h3⟩ := hs
 refine ⟨ds, [], p ++ [], [], p, [], hW', ?_, ?_, ?_, Below.frame hw _, fun h => by cases h⟩
 ·rw [h1, hr]
  exact trodAll_mk1 (shut_bool hb true)
 ·rw [h2]
  exact trodAll_ext hl hw _ _ _ _ ht hA (fun x hx => hlt x (by simpa using hx))
 ·rw [h3, hv]
  rfl
end
theorem own : ownKnob Tryz.prog.godebug = none := by kernel_rfl
theorem laidOut : laidOutB Tryz.prog = true := by kernel_rfl
end Go.Proofs.YtljdlkonlnjadaaGreatDoor
namespace Go.Proofs.YtljdlkonlnjadaaGreatDoor
open Go.ChangeShapes Go.WideShapes Go.ChangeAt Go.RowKit
def SlN (w : World) (A : Option Addr) (n size : Nat) (xs : List Value) : Prop :=
 xs.length = n * size ∧ ∀ j u, xs[j]? = some u → ∃ b o, A = some ⟨b, o, none⟩ ∧ b < w.heap.size ∧ w.cell? ⟨b, o + j, none⟩ = some u
theorem SlN.ext {w w' : World} {A : Option Addr} {n size : Nat} {xs : List Value} (h : SlN w A n size xs) (hw : Ext w w') : SlN w' A n size xs :=
 ⟨h.1, fun j u hu => by
  obtain ⟨b, o, ha, hb, hc⟩ := h.2 j u hu
  exact ⟨b, o, ha, Nat.lt_of_lt_of_le hb (Ext.size hw), (Ext.cell hw (p := ⟨b, o + j, none⟩) hb).trans hc⟩⟩
theorem SlN.nil (w : World) (A : Option Addr) (size : Nat) : SlN w A 0 size [] := ⟨by simp, fun j u h => by simp at h⟩
theorem flat_len {α β : Type} (f : α → List β) (m : Nat) (hf : ∀ a, (f a).length = m) (l : List α) : (l.flatMap f).length = l.length * m := by
 induction l with
 | nil => simp
 | cons a r ih => rw [List.flatMap_cons, List.length_append, ih, hf, List.length_cons, Nat.succ_mul, Nat.add_comm]
theorem flat_get {α β : Type} (f : α → List β) (m : Nat) (hf : ∀ a, (f a).length = m) : ∀ (l : List α) (k j : Nat) (x : α), l[k]? = some x → j < m → (l.flatMap f)[k * m + j]? = (f x)[j]?
 | [], k, j, x, h, _ => by simp at h
 | a :: r, 0, j, x, h, hj => by
   simp at h
   subst h
   rw [List.flatMap_cons, Nat.zero_mul, Nat.zero_add, List.getElem?_append_left (by rw [hf]; exact hj)]
 | a :: r, k + 1, j, x, h, hj => by
   rw [List.flatMap_cons, List.getElem?_append_right (by rw [hf, Nat.succ_mul]; omega), hf]
   have := flat_get f m hf r k j x (by simpa using h) hj
   rw [← this]
   congr 1
   rw [Nat.succ_mul]
   omega
def aliC (a : ByteArray × ByteArray) : List Value := [.string a.1, .string a.2]
def Als (w : World) (A : Option Addr) (n : Nat) (l : List (ByteArray × ByteArray)) : Prop := SlN w A n 2 (l.flatMap aliC)
theorem Als.ext {w w' : World} {A : Option Addr} {n : Nat} {l : List (ByteArray × ByteArray)} (h : Als w A n l) (hw : Ext w w') : Als w' A n l := SlN.ext h hw
theorem Als.len {w : World} {A : Option Addr} {n : Nat} {l : List (ByteArray × ByteArray)} (h : Als w A n l) : l.length = n := by
 have h1 := h.1
 rw [flat_len aliC 2 (fun _ => rfl)] at h1
 omega
theorem Als.at_ {w : World} {A : Option Addr} {n : Nat} {l : List (ByteArray × ByteArray)} (h : Als w A n l) {k : Nat} {x : ByteArray × ByteArray} (hx : l[k]? = some x) :
 ∃ b o, A = some ⟨b, o, none⟩ ∧ b < w.heap.size ∧ w.cell? ⟨b, o + k * 2, none⟩ = some (.string x.1) ∧ w.cell? ⟨b, o + (k * 2 + 1), none⟩ = some (.string x.2) := by
 have g0 := flat_get aliC 2 (fun _ => rfl) l k 0 x hx (by omega)
 have g1 := flat_get aliC 2 (fun _ => rfl) l k 1 x hx (by omega)
 obtain ⟨b, o, rfl, hb, h0⟩ := h.2 _ _ g0
 obtain ⟨b', o', e, _, h1⟩ := h.2 _ _ g1
 injection e with e
 injection e with e1 e2 _
 subst e1; subst e2
 exact ⟨b, o, rfl, hb, h0, h1⟩
section
variable {H : Type} {enc : TypeId × Value → H} {P : Program}
def strAt (v : Option Value) : ByteArray := match v with | some (.string s) => s | _ => ByteArray.empty
theorem open_als {t e ti : TypeId} {f0 f1 : Field} {W : World} {v : Value} {d : DataW H} {ps : List MemPlace} (ht : P.underlying t = some (.slice e)) (he : P.underlying e = some (.struct #[f0, f1]))
 (hi : P.underlying ti = some .string) (ht0 : f0.type = ti) (ht1 : f1.type = ti) (ho0 : f0.offset = 0) (ho1 : f1.offset = 1) (hci : P.cellsOf ti = 1) (hc : P.cellsOf e = 2)
 (hv : ∃ A n c, v = .slice A n c) (h : DataW.Trod enc P W 0 (fun _ => true) true t v d ps) :
 ∃ (A : Option Addr) (n c : Nat) (l : List (ByteArray × ByteArray)), v = .slice A n c ∧ Als W A n l ∧ n ≤ maxLen ∧ ∀ a ∈ l, a.1.size ≤ maxLen ∧ a.2.size ≤ maxLen := by
 obtain ⟨A, n, c, rfl⟩ := hv
 obtain ⟨fuel, hf⟩ := h
 rcases DataW.trod_slice ht hf with ⟨hcs, _⟩ | ⟨a, len, cap, elems, rest, k, _, hcs, _, _, hl, hm, hlen, hel, _, _⟩
 ·simp [Value.cells] at hcs
  obtain ⟨rfl, rfl, rfl⟩ := hcs
  exact ⟨none, 0, 0, [], rfl, SlN.nil _ _ _, Nat.zero_le _, by simp⟩
 ·simp [Value.cells] at hcs
  obtain ⟨rfl, rfl, rfl⟩ := hcs
  have each : ∀ i, i < n → ∃ x y : ByteArray, W.cell? (a.add (i * 2)) = some (.string x) ∧ W.cell? ((a.add (i * 2)).add 1) = some (.string y) ∧ x.size ≤ maxLen ∧ y.size ≤ maxLen := by
   intro i hi'
   have h1 := hel i hi'
   rw [List.getElem?_eq_getElem (by omega), hc, Option.bind_eq_some_iff] at h1
   obtain ⟨cs', h2, h3⟩ := h1
   obtain ⟨y0, y1, m, _, hl2, h4, h5⟩ := trod_struct2 he h3
   rw [hc] at hl2
   rw [ht0, ho0, hci] at h4
   rw [ht1, ho1, hci] at h5
   obtain ⟨x, e4, _, z4⟩ := DataW.trod_string hi h4
   obtain ⟨y, e5, _, z5⟩ := DataW.trod_string hi h5
   obtain ⟨_, h7, h8⟩ := World.cells?_some h2
   match cs', hl2, e4, e5 with
   | [c0, c1], _, e4, e5 =>
     simp at e4 e5
     subst e4; subst e5
     exact ⟨x, y, by have h9 := h8 0 (by omega); exact h9, by have h9 := h8 1 (by omega); exact h9, z4, z5⟩
  let l : List (ByteArray × ByteArray) := (List.range n).map fun i => (strAt (W.cell? (a.add (i * 2))), strAt (W.cell? ((a.add (i * 2)).add 1)))
  have hll : l.length = n := by simp [l]
  refine ⟨some a, n, c, l, rfl, ⟨by rw [flat_len aliC 2 (fun _ => rfl), hll], ?_⟩, Nat.le_trans hl hm, ?_⟩
  ·intro j u hu
   have hjl : j < (l.flatMap aliC).length := (List.getElem?_eq_some_iff.1 hu).1
   rw [flat_len aliC 2 (fun _ => rfl), hll] at hjl
   have hn0 : 0 < n := by omega
   obtain ⟨x0, y0, z1, z2, _⟩ := each 0 (by omega)
   obtain ⟨b, o, sp⟩ := a
   have hs : sp = none := by
    have z1' : W.cell? ⟨b, o, sp⟩ = some (.string x0) := by simpa [Addr.add] using z1
    exact World.cell?_spot z1'
   subst hs
   have ea : ∀ t, (⟨b, o, none⟩ : Addr).add t = ⟨b, o + t, none⟩ := by
    intro t
    unfold Addr.add
    split
    ·subst_vars; rfl
    ·rfl
   obtain ⟨x, y, e1, e2, _⟩ := each (j / 2) (by omega)
   have e3 : ((⟨b, o, none⟩ : Addr).add (j / 2 * 2)).add 1 = ⟨b, o + (j / 2 * 2 + 1), none⟩ := by rw [ea]; rfl
   rw [e3] at e2
   rw [ea] at e1
   have hlj : l[j / 2]? = some (x, y) := by
    have hj2 : j / 2 < l.length := by omega
    have hg : l[j / 2] = (strAt (W.cell? ((⟨b, o, none⟩ : Addr).add (j / 2 * 2))), strAt (W.cell? (((⟨b, o, none⟩ : Addr).add (j / 2 * 2)).add 1))) := by simp [l]
    rw [List.getElem?_eq_getElem hj2, hg, e3, ea, e1, e2]
    rfl
   refine ⟨b, o, rfl, World.block_lt_of_cell? W ⟨b, o + j / 2 * 2, none⟩ e1, ?_⟩
   rcases Nat.mod_two_eq_zero_or_one j with hm2 | hm2
   ·have hj : j / 2 * 2 + 0 = j := by omega
    have := flat_get aliC 2 (fun _ => rfl) l (j / 2) 0 _ hlj (by omega)
    rw [hj, hu] at this
    injection this with this
    have hj2 : j = j / 2 * 2 := by omega
    rw [hj2, e1, this]
   ·have hj : j / 2 * 2 + 1 = j := by omega
    have := flat_get aliC 2 (fun _ => rfl) l (j / 2) 1 _ hlj (by omega)
    rw [hj, hu] at this
    injection this with this
    rw [← hj, e2, this]
  ·intro p hp
   obtain ⟨i, hi', rfl⟩ := List.mem_map.1 hp
   obtain ⟨x, y, e1, e2, z1, z2⟩ := each i (by simpa using hi')
   rw [e1, e2]
   exact ⟨z1, z2⟩
end
end Go.Proofs.YtljdlkonlnjadaaGreatDoor
namespace Go.Proofs.YtljdlkonlnjadaaGreatDoor
open Go.ChangeShapes Go.WideShapes Go.ChangeAt Go.RowKit
section
variable {H : Type} {enc : TypeId × Value → H} {P : Program}
theorem weightsAll_memC {e : TypeId} {l : List (DataW H)} {d : DataW H} (h : d ∈ l) : ∀ n ∈ d.weights P e, n ∈ DataW.weightsAll P e l := by
 induction l with
 | nil => cases h
 | cons x r ih =>
   intro n hn
   simp only [DataW.weightsAll, List.mem_append]
   rcases List.mem_cons.1 h with rfl | h
   ·exact .inl hn
   ·exact .inr (ih h n hn)
theorem add_none (b o t : Nat) : (⟨b, o, none⟩ : Addr).add t = ⟨b, o + t, none⟩ := by
 unfold Addr.add
 split
 ·subst_vars; rfl
 ·rfl
theorem open_cells {t e : TypeId} {m : Nat} {W : World} {v : Value} {d : DataW H} {ps : List MemPlace} (ht : P.underlying t = some (.slice e)) (hm : P.cellsOf e = m) (hm0 : 0 < m)
 (hv : ∃ A n c, v = .slice A n c) (h : DataW.Trod enc P W 0 (fun _ => true) true t v d ps) :
 ∃ (A : Option Addr) (n c : Nat) (L : List (List Value)), v = .slice A n c ∧ n ≤ maxLen ∧ L.length = n ∧ SlN W A n m L.flatten ∧
   ∀ cs ∈ L, ∃ (k : Nat) (x : DataW H × List MemPlace), DataW.trod enc P W 0 (fun _ => true) true k e cs = some x ∧ ∀ q ∈ x.1.weights P e, q ∈ d.weights P t := by
 obtain ⟨A, n, c, rfl⟩ := hv
 obtain ⟨fuel, hf⟩ := h
 rcases DataW.trod_slice ht hf with ⟨hcs, _⟩ | ⟨a, len, cap, elems, rest, k, _, hcs, hd, _, hl, hmx, hlen, hel, _, _⟩
 ·simp [Value.cells] at hcs
  obtain ⟨rfl, rfl, rfl⟩ := hcs
  exact ⟨none, 0, 0, [], rfl, Nat.zero_le _, rfl, SlN.nil _ _ _, by simp⟩
 ·simp [Value.cells] at hcs
  obtain ⟨rfl, rfl, rfl⟩ := hcs
  injection hd with hd1 _
  let f : Nat → List Value := fun i => (List.range m).map fun r => (W.cell? ((a.add (i * m)).add r)).getD undef
  have hfl : ∀ i, (f i).length = m := fun i => by simp [f]
  have each : ∀ i, i < n → W.cells? 0 (a.add (i * m)) m = some (f i) ∧ (∀ r, r < m → W.cell? ((a.add (i * m)).add r) = (f i)[r]?) := by
   intro i hi
   have h1 := hel i hi
   rw [List.getElem?_eq_getElem (by omega), hm, Option.bind_eq_some_iff] at h1
   obtain ⟨cs', h2, _⟩ := h1
   obtain ⟨_, h7, h8⟩ := World.cells?_some h2
   have hcs : cs' = f i := by
    apply List.ext_getElem?
    intro r
    by_cases hr : r < m
    ·have h9 := h8 r hr
     have hfr : (f i)[r]? = some ((W.cell? ((a.add (i * m)).add r)).getD undef) := by simp [f, hr]
     rw [hfr, h9]
     rw [List.getElem?_eq_getElem (by omega)]
     rfl
    ·rw [List.getElem?_eq_none (by omega), List.getElem?_eq_none (by rw [hfl]; omega)]
   rw [← hcs]
   exact ⟨h2, fun r hr => h8 r hr⟩
  refine ⟨some a, n, c, (List.range n).map f, rfl, Nat.le_trans hl hmx, by simp, ⟨?_, ?_⟩, ?_⟩
  ·rw [← List.flatMap_def, flat_len f m hfl, List.length_range]
  ·intro j u hu
   rw [← List.flatMap_def] at hu
   have hjl : j < ((List.range n).flatMap f).length := (List.getElem?_eq_some_iff.1 hu).1
   rw [flat_len f m hfl, List.length_range] at hjl
   have hq : j / m < n := Nat.div_lt_of_lt_mul (by rw [Nat.mul_comm]; exact hjl)
   have hr : j % m < m := Nat.mod_lt _ hm0
   have hj : j / m * m + j % m = j := by rw [Nat.mul_comm]; exact Nat.div_add_mod j m
   have hg := flat_get f m hfl (List.range n) (j / m) (j % m) (j / m) (by rw [List.getElem?_range hq]) hr
   rw [hj, hu] at hg
   have hc := (each (j / m) hq).2 (j % m) hr
   rw [← hg] at hc
   obtain ⟨b, o, sp⟩ := a
   have hs : sp = none := by
    have hz := (each 0 (Nat.lt_of_le_of_lt (Nat.zero_le _) hq)).2 0 hm0
    rw [Nat.zero_mul] at hz
    have hz' : W.cell? ⟨b, o, sp⟩ = (f 0)[0]? := by simpa [Addr.add] using hz
    rw [List.getElem?_eq_getElem (by rw [hfl]; exact hm0)] at hz'
    exact World.cell?_spot hz'
   subst hs
   rw [add_none, add_none] at hc
   refine ⟨b, o, rfl, World.block_lt_of_cell? W _ hc, ?_⟩
   rw [show o + j = o + j / m * m + j % m from by rw [Nat.add_assoc, hj]]
   exact hc
  ·intro cs hcs
   obtain ⟨i, hi, rfl⟩ := List.mem_map.1 hcs
   have hin : i < n := List.mem_range.1 hi
   have h1 := hel i hin
   rw [List.getElem?_eq_getElem (by omega), hm, (each i hin).1] at h1
   refine ⟨k, _, h1, fun q hq => ?_⟩
   subst hd1
   simp only [DataW.weights, ht, List.mem_cons, List.mem_append]
   exact .inr (.inl (weightsAll_memC (List.mem_map.2 ⟨_, List.getElem_mem _, rfl⟩) q hq))
theorem decode_all {α : Type} (f : α → List Value) {L : List (List Value)} (h : ∀ cs ∈ L, ∃ x, cs = f x) : ∃ l : List α, L = l.map f ∧ l.length = L.length := by
 induction L with
 | nil => exact ⟨[], rfl, rfl⟩
 | cons cs r ih =>
   obtain ⟨l, h1, h2⟩ := ih (fun x hx => h x (by simp [hx]))
   obtain ⟨x, hx⟩ := h cs (by simp)
   exact ⟨x :: l, by rw [hx, h1]; rfl, by simp [h2]⟩
end
end Go.Proofs.YtljdlkonlnjadaaGreatDoor
namespace Go.Proofs.YtljdlkonlnjadaaGreatDoor
open Go.RowKit
def AtC (T : TypeId) (w : World) (g : Nat) (cs : Array Value) : Prop := w.heap[g]? = some (.cells cs T (0, 0))
section
variable {T : TypeId} {w w' : World} {g : Nat} {cs : Array Value}
theorem AtC.lt (h : AtC T w g cs) : g < w.heap.size := (Array.getElem?_eq_some_iff.1 h).1
theorem AtC.cell (h : AtC T w g cs) (j : Nat) (u : Value) (hu : cs[j]? = some u) : w.cell? ⟨g, j, none⟩ = some u := by
 unfold AtC at h
 simp [World.cell?, h, hu]
theorem AtC.below {B : Nat} (h : AtC T w g cs) (hw : Below B w w') (hg : g < B) : AtC T w' g cs := (Below.block hw g hg).trans h
theorem AtC.ext (h : AtC T w g cs) (hw : Ext w w') : AtC T w' g cs := h.below hw h.lt
theorem AtC.new (w : World) (cs : Array Value) : AtC T (w.alloc (.cells cs T)) w.heap.size cs := heap_alloc_new w _
theorem AtC.alloc (h : AtC T w g cs) (o : Obj) : AtC T (w.alloc o) g cs := h.ext ((Ext.refl w).alloc o)
end
end Go.Proofs.YtljdlkonlnjadaaGreatDoor
namespace Go.Proofs.YtljdlkonlnjadaaGreatDoor
open Go.ChangeShapes Go.WideShapes Go.ChangeAt Go.RowKit
structure Nr where
 f : ByteArray
 o : ByteArray
 c : Int
def nrC (x : Nr) : List Value := [.string x.f, .string x.o, .int .i64 x.c]
def nearOf (x : Nr) : NearP := ⟨x.f.data.toList, x.o.data.toList, x.c⟩
def Nrs (w : World) (A : Option Addr) (n : Nat) (l : List Nr) : Prop := SlN w A n 3 (l.flatMap nrC)
theorem Nrs.ext {w w' : World} {A : Option Addr} {n : Nat} {l : List Nr} (h : Nrs w A n l) (hw : Ext w w') : Nrs w' A n l := SlN.ext h hw
theorem Nrs.len {w : World} {A : Option Addr} {n : Nat} {l : List Nr} (h : Nrs w A n l) : l.length = n := by
 have h1 := h.1
 rw [flat_len nrC 3 (fun _ => rfl)] at h1
 omega
theorem Nrs.at_ {w : World} {A : Option Addr} {n : Nat} {l : List Nr} (h : Nrs w A n l) {k : Nat} {x : Nr} (hx : l[k]? = some x) :
 ∃ b o, A = some ⟨b, o, none⟩ ∧ b < w.heap.size ∧ w.cell? ⟨b, o + k * 3, none⟩ = some (.string x.f) ∧ w.cell? ⟨b, o + k * 3 + 1, none⟩ = some (.string x.o) ∧ w.cell? ⟨b, o + k * 3 + 2, none⟩ = some (.int .i64 x.c) := by
 have g0 := flat_get nrC 3 (fun _ => rfl) l k 0 x hx (by omega)
 have g1 := flat_get nrC 3 (fun _ => rfl) l k 1 x hx (by omega)
 have g2 := flat_get nrC 3 (fun _ => rfl) l k 2 x hx (by omega)
 obtain ⟨b, o, rfl, hb, h0⟩ := h.2 _ _ g0
 obtain ⟨b', o', e, _, h1⟩ := h.2 _ _ g1
 injection e with e
 injection e with e1 e2 _
 subst e1; subst e2
 obtain ⟨b', o', e, _, h2⟩ := h.2 _ _ g2
 injection e with e
 injection e with e1 e2 _
 subst e1; subst e2
 exact ⟨b, o, rfl, hb, h0, h1, h2⟩
end Go.Proofs.YtljdlkonlnjadaaGreatDoor
namespace Go.Proofs.YtljdlkonlnjadaaGreatDoor
open Go.RowKit
def shortN (x : Nr) : Bool := decide (x.f.size + x.o.size ≤ 60)
def fewN (l : List Nr) : Bool := l.all shortN && decide (l.length ≤ 30)
theorem fewN_len {l : List Nr} (h : fewN l = true) : l.length ≤ 30 ∧ ∀ a ∈ l, a.f.size ≤ 60 ∧ a.o.size ≤ 60 := by
 unfold fewN at h
 simp only [Bool.and_eq_true, decide_eq_true_eq] at h
 refine ⟨h.2, fun a ha => ?_⟩
 have := List.all_eq_true.1 h.1 a ha
 unfold shortN at this
 simp only [decide_eq_true_eq] at this
 omega
def FewNInv (w : World) (l : List Nr) (n : Nat) (i : Value) (wr : World) : Prop :=
 ∃ k : Nat, k ≤ n ∧ i = .int .i64 k ∧ (l.take k).all shortN = true ∧ Ext w wr
theorem fewn_any (l : List Nr) (A : Option Addr) (n c : Nat) (w : World) (hA : Nrs w A n l) (hn : n ≤ maxLen) (hz : ∀ a ∈ l, a.f.size ≤ reachBytes ∧ a.o.size ≤ reachBytes) :
 Calls Tryz.prog 17 #[.slice A n c] w fun e w' => e = .returned (.bool (fewN l)) ∧ Ext w w' := by
 unfold maxLen at hn
 have HA := hid hA
 have HL := hid hA.len
 have HZ := hid hz
 clear hA hz
 go_enter Tryz.func17, Tryz.ntmps17
 go_wp2_with fail
 go_loopw [3] (FewNInv w l n) (fun i _ => n - (intOf i).toNat)
 case atStart => exact ⟨0, Nat.zero_le _, rfl, rfl, Ext.refl _⟩
 case round =>
  obtain ⟨k, hk, rfl, hall, hw⟩ := hrel
  have HALL := hid hall
  have HW := hid hw
  clear hall hw
  by_cases hkn : k < n
  ·obtain ⟨⟨fb, ob, cc⟩, hx⟩ : ∃ x, l[k]? = some x := ⟨_, List.getElem?_eq_getElem (by have := HL.out; omega)⟩
   obtain ⟨b, o, rfl, hb, c0, c1, c2⟩ := (HA.out.ext HW.out).at_ hx
   simp only at c0 c1 c2
   obtain ⟨z1, z2⟩ := HZ.out _ (List.mem_of_getElem? hx)
   simp only at z1 z2
   have zw : wrap64 ((fb.size : Int) + (ob.size : Int)) = (fb.size : Int) + (ob.size : Int) := by
    unfold reachBytes at z1 z2
    exact IntWalk.wrap64_in _ (by omega)
   have HX := hid hx
   clear hx
   go_wp2
   go_quiet (fail)
   by_cases h60 : fb.size + ob.size ≤ 60
   ·have h60I : ¬ (60 : Int) < (fb.size : Int) + (ob.size : Int) := by omega
    go_wp2
    refine ⟨⟨k + 1, by omega, by go_num, ?_, HW.out.drewN _⟩, by simp [intOf]; omega⟩
    rw [take_next HX.out, List.all_append, HALL.out]
    simp [shortN, h60]
   ·have h60I : (60 : Int) < (fb.size : Int) + (ob.size : Int) := by omega
    go_wp2
    go_ret
    refine ⟨ret_bool ?_, HW.out.drewN _⟩
    have : l.all shortN = false := by
     rw [List.all_eq_false]
     exact ⟨_, List.mem_of_getElem? HX.out, by simp [shortN]; omega⟩
    unfold fewN
    rw [this]
    rfl
  ·have hkk : k = n := by omega
   subst hkk
   go_wp2
   go_ret
   refine ⟨ret_bool ?_, HW.out⟩
   have h := HALL.out
   rw [List.take_of_length_le (by have := HL.out; omega)] at h
   unfold fewN
   rw [h, HL.out, Bool.true_and]
   exact decide_eq_decide.2 (by omega)
end Go.Proofs.YtljdlkonlnjadaaGreatDoor
namespace Go.Proofs.YtljdlkonlnjadaaGreatDoor
open Go.ChangeShapes Go.WideShapes Go.ChangeAt Go.RowKit
section
variable {H : Type} {enc : TypeId × Value → H} {P : Program}
theorem weightsAll_mem {e : TypeId} {l : List (DataW H)} {d : DataW H} (h : d ∈ l) : ∀ n ∈ d.weights P e, n ∈ DataW.weightsAll P e l := by
 induction l with
 | nil => cases h
 | cons x r ih =>
   intro n hn
   simp only [DataW.weightsAll, List.mem_append]
   rcases List.mem_cons.1 h with rfl | h
   ·exact .inl hn
   ·exact .inr (ih h n hn)
theorem als_sized {t e ti : TypeId} {f0 f1 : Field} {W : World} {A : Option Addr} {n c : Nat} {d : DataW H} {ps : List MemPlace} {l : List (ByteArray × ByteArray)} (ht : P.underlying t = some (.slice e)) (he : P.underlying e = some (.struct #[f0, f1]))
 (hi : P.underlying ti = some .string) (ht0 : f0.type = ti) (ht1 : f1.type = ti) (ho0 : f0.offset = 0) (ho1 : f1.offset = 1) (hci : P.cellsOf ti = 1) (hc : P.cellsOf e = 2)
 (h : DataW.Trod enc P W 0 (fun _ => true) true t (.slice A n c) d ps) (hl : Als W A n l) (hw : ∀ m ∈ d.weights P t, m ≤ reachBytes) : ∀ a ∈ l, a.1.size ≤ reachBytes ∧ a.2.size ≤ reachBytes := by
 intro a ha
 obtain ⟨i, hi', rfl⟩ := List.getElem_of_mem ha
 have hx := List.getElem?_eq_getElem hi'
 have hln := hl.len
 obtain ⟨b, o, rfl, _, c0, c1⟩ := hl.at_ hx
 obtain ⟨fuel, hf⟩ := h
 rcases DataW.trod_slice ht hf with ⟨hcs, _⟩ | ⟨ad, len, cap, elems, rest, k, _, hcs, hd, _, _, _, hlen, hel, _, _⟩
 ·simp [Value.cells] at hcs
 ·simp [Value.cells] at hcs
  obtain ⟨rfl, rfl, rfl⟩ := hcs
  injection hd with hd1 hd2
  subst hd1
  have h1 := hel i (by omega)
  rw [List.getElem?_eq_getElem (by omega), hc, Option.bind_eq_some_iff] at h1
  obtain ⟨cs', h2, h3⟩ := h1
  obtain ⟨y0, y1, m, hxe, hl2, h4, h5⟩ := trod_struct2 he h3
  rw [hc] at hl2
  rw [ht0, ho0, hci] at h4
  rw [ht1, ho1, hci] at h5
  obtain ⟨x, e4, z4, _⟩ := DataW.trod_string hi h4
  obtain ⟨y, e5, z5, _⟩ := DataW.trod_string hi h5
  obtain ⟨_, h7, h8⟩ := World.cells?_some h2
  match cs', hl2, e4, e5 with
  | [d0, d1], _, e4, e5 =>
    simp at e4 e5
    subst e4; subst e5
    have g0 : W.cell? ((⟨b, o, none⟩ : Addr).add (i * 2)) = some (.string x) := by have h9 := h8 0 (by omega); exact h9
    have g1 : W.cell? (((⟨b, o, none⟩ : Addr).add (i * 2)).add 1) = some (.string y) := by have h9 := h8 1 (by omega); exact h9
    have ea : ∀ t, (⟨b, o, none⟩ : Addr).add t = ⟨b, o + t, none⟩ := by
     intro t
     unfold Addr.add
     split
     ·subst_vars; rfl
     ·rfl
    rw [ea] at g0 g1
    have e3 : (⟨b, o + i * 2, none⟩ : Addr).add 1 = ⟨b, o + (i * 2 + 1), none⟩ := rfl
    rw [e3] at g1
    rw [c0] at g0
    rw [c1] at g1
    injection g0 with g0
    injection g0 with g0
    injection g1 with g1
    injection g1 with g1
    have hmem : (elems[i]'(by omega)).1 ∈ elems.map (·.1) := List.mem_map.2 ⟨_, List.getElem_mem _, rfl⟩
    have hwa := fun m hm => hw m (by
     simp only [DataW.weights, ht, List.mem_cons, List.mem_append]
     exact .inr (.inl (weightsAll_mem hmem m hm)))
    rw [hxe] at hwa
    simp only [DataW.weights, he, z4, z5] at hwa
    have e6 : (List.map (fun x => x.type) (#[f0, f1] : Array Field).toList) = [f0.type, f1.type] := rfl
    rw [e6] at hwa
    simp only [DataW.weightsEach, DataW.weights, List.mem_append, List.mem_singleton, List.not_mem_nil, or_false] at hwa
    refine ⟨?_, ?_⟩
    ·rw [g0]; exact hwa x.data.toList.length (.inl rfl)
    ·rw [g1]; exact hwa y.data.toList.length (.inr rfl)
end
theorem lifted_and_sized {H : Type} {enc : TypeId × Value → H} {a : Assume} {C : Checked} {os : Os} {f : FuncId} {fn : Func} {s : ChangeSpec} {X : World → Array Value → Prop}
 (hX : ∀ (w w' : World) (args : Array Value), w.heap = w'.heap → X w args → X w' args)
 (own : ownKnob C.prog.godebug = none) (started : os.Started) (noInit : C.prog.inits.idxOf? f = none) (hfn : C.prog.funcs[f]? = some fn)
 (witness : ∃ (w : World) (tape : Tape) (i : Input), w.os = os ∧ (w.forCall tape i).Shaped C.prog ∧ i.vars = [] ∧ Input.okWide C.prog (w.forCall tape i) .any w.heap.size f i ∧
  ((s.pre enc C.prog fn [] false (w.forCall tape i).memory i.args ∧ X (w.forCall tape i).memory i.args) ∧ sizedMet enc C.prog fn (OpenSpec.ofChange s) false (w.forCall tape i).memory i.args) ∧ a.holds C.prog (lone (Frame.enter C.prog f i.args .normal) [] (w.forCall tape i)))
 (law : ∀ (W : World) (base : Nat) (args : Array Value) (ds gs : List (DataW H)) (before : List MemPlace),
  (∀ (j : Nat) t v, fn.params[j]? = some t → args[j]? = some v → Value.okWide C.prog W .any base t v) →
  DataW.Whole enc C.prog fn.params.toList s.vars false W args.toList ds gs before →
  X W args → W.ShapedOpen C.prog →
  (∀ m ∈ DataW.weightsEach C.prog (fn.params.toList ++ s.plain.varTypes C.prog) (ds ++ gs), m ≤ reachBytes) →
  Calls C.prog f args W fun e W' => ∃ v, e = .returned v ∧ s.post enc C.prog fn false true false false W args v W') :
 ReturnsInHanded a C os f .any (fun w args => (s.pre enc C.prog fn [] false w args ∧ X w args) ∧ sizedMet enc C.prog fn (OpenSpec.ofChange s) false w args) (s.post enc C.prog fn false true false false) := by
 refine returnsInHanded_of_calls own started noInit witness ?_
 intro w tape i _ hshape _ hin hpre _
 obtain ⟨_, _, _, fn', hfn', _, _, _, _, hval⟩ := hin
 have e : fn' = fn := Option.some.inj (hfn'.symm.trans hfn)
 subst e
 obtain ⟨⟨⟨ds, gs, before, hw, _⟩, hx⟩, hz⟩ := hpre
 have hz2 := hz.weights hw
 refine (law (w.forCall tape i) w.heap.size i.args ds gs before hval (DataW.Whole.of_heap (w' := w.forCall tape i) (by rfl) hw) (hX _ _ _ (by rfl) hx) hshape (fun m hm => by simpa using List.all_eq_true.1 hz2 m hm)).mono fun e W' ⟨v, he, hp⟩ => ?_
 subst he
 exact ChangeSpec.post_blind hp
end Go.Proofs.YtljdlkonlnjadaaGreatDoor
