import Derived.Test.YtcfgphhhgemkdaaDoorOpenA
import Derived.Test.YtcfgphhhgemkdaaDoorLawKit
import Derived.SizedLaws
namespace Go.Proofs.YtcfgphhhgemkdaaDoor
open Go.ChangeShapes Go.WideShapes Go.ChangeAt Go.RowKit
set_option linter.unusedSimpArgs false
set_option linter.unusedVariables false

section
variable {H : Type} {enc : TypeId × Value → H} {P : Program}
theorem weightsAll_mem {e : TypeId} {l : List (DataW H)} {d : DataW H} (h : d ∈ l) : ∀ n ∈ d.weights P e, n ∈ DataW.weightsAll P e l := by
  induction l with
  | nil => cases h
  | cons x r ih =>
    intro n hn
    simp only [DataW.weightsAll, List.mem_append]
    rcases List.mem_cons.1 h with rfl | h
    · exact .inl hn
    · exact .inr (ih h n hn)
/-- Structs of two strings that came in: no string is longer than the reach. -/
theorem als_sized {t e ti : TypeId} {f0 f1 : Field} {W : World} {A : Option Addr} {n c : Nat} {d : DataW H} {ps : List MemPlace} {l : List (ByteArray × ByteArray)} (ht : P.underlying t = some (.slice e)) (he : P.underlying e = some (.struct #[f0, f1]))
    (hi : P.underlying ti = some .string) (ht0 : f0.type = ti) (ht1 : f1.type = ti) (ho0 : f0.offset = 0) (ho1 : f1.offset = 1) (hci : P.cellsOf ti = 1) (hc : P.cellsOf e = 2)
    (h : DataW.Trod enc P W 0 (fun _ => true) true t (.slice A n c) d ps) (hl : Als W A n l) (hw : ∀ m ∈ d.weights P t, m ≤ reachBytes) : ∀ a ∈ l, a.1.size ≤ reachBytes ∧ a.2.size ≤ reachBytes := by
  intro a ha
  obtain ⟨i, hi', rfl⟩ := List.getElem_of_mem ha
  have hx := List.getElem?_eq_getElem hi'
  have hln := hl.len
  obtain ⟨b, o, rfl, _, c0, c1⟩ := hl.at_ hx
  obtain ⟨fuel, hf⟩ := h
  rcases DataW.trod_slice ht hf with ⟨hcs, _⟩ | ⟨ad, len, cap, elems, rest, k, _, hcs, hd, _, _, _, hlen, hel, _, _⟩
  · simp [Value.cells] at hcs
  · simp [Value.cells] at hcs
    obtain ⟨rfl, rfl, rfl⟩ := hcs
    injection hd with hd1 hd2
    subst hd1
    have h1 := hel i (by omega)
    rw [List.getElem?_eq_getElem (by omega), hc, Option.bind_eq_some_iff] at h1
    obtain ⟨cs', h2, h3⟩ := h1
    obtain ⟨y0, y1, m, hxe, hl2, h4, h5⟩ := trod_struct2 he h3
    rw [hc] at hl2
    rw [ht0, ho0, hci] at h4
    rw [ht1, ho1, hci] at h5
    obtain ⟨x, e4, z4, _⟩ := DataW.trod_string hi h4
    obtain ⟨y, e5, z5, _⟩ := DataW.trod_string hi h5
    obtain ⟨_, h7, h8⟩ := World.cells?_some h2
    match cs', hl2, e4, e5 with
    | [d0, d1], _, e4, e5 =>
      simp at e4 e5
      subst e4; subst e5
      have g0 : W.cell? ((⟨b, o, none⟩ : Addr).add (i * 2)) = some (.string x) := by have h9 := h8 0 (by omega); exact h9
      have g1 : W.cell? (((⟨b, o, none⟩ : Addr).add (i * 2)).add 1) = some (.string y) := by have h9 := h8 1 (by omega); exact h9
      have ea : ∀ t, (⟨b, o, none⟩ : Addr).add t = ⟨b, o + t, none⟩ := by
        intro t
        unfold Addr.add
        split
        · subst_vars; rfl
        · rfl
      rw [ea] at g0 g1
      have e3 : (⟨b, o + i * 2, none⟩ : Addr).add 1 = ⟨b, o + (i * 2 + 1), none⟩ := rfl
      rw [e3] at g1
      rw [c0] at g0
      rw [c1] at g1
      injection g0 with g0
      injection g0 with g0
      injection g1 with g1
      injection g1 with g1
      have hmem : (elems[i]'(by omega)).1 ∈ elems.map (·.1) := List.mem_map.2 ⟨_, List.getElem_mem _, rfl⟩
      have hwa := fun m hm => hw m (by
        simp only [DataW.weights, ht, List.mem_cons, List.mem_append]
        exact .inr (.inl (weightsAll_mem hmem m hm)))
      rw [hxe] at hwa
      simp only [DataW.weights, he, z4, z5] at hwa
      have e6 : (List.map (fun x => x.type) (#[f0, f1] : Array Field).toList) = [f0.type, f1.type] := rfl
      rw [e6] at hwa
      simp only [DataW.weightsEach, DataW.weights, List.mem_append, List.mem_singleton, List.not_mem_nil, or_false] at hwa
      refine ⟨?_, ?_⟩
      · rw [g0]; exact hwa x.data.toList.length (.inl rfl)
      · rw [g1]; exact hwa y.data.toList.length (.inr rfl)

set_option maxRecDepth 100000 in
/-- A struct of two strings that came in. -/
theorem open_ali {W : World} {base : Nat} {v : Value} {d : DataW H} {ps : List MemPlace} (hv : Value.okWide Tryd.prog W .any base 34 v) (h : DataW.Trod enc Tryd.prog W 0 (fun _ => true) true 34 v d ps) (hw : ∀ m ∈ d.weights Tryd.prog 34, m ≤ reachBytes) :
    ∃ (fb ob : ByteArray), v = .agg #[.string fb, .string ob] ∧ fb.size ≤ reachBytes ∧ ob.size ≤ reachBytes := by
  obtain ⟨cs, rfl, hsz⟩ := okWide_struct Tryd.underlying34 hv
  obtain ⟨fuel, hf⟩ := h
  obtain ⟨y0, y1, m, hxe, hlen, h4, h5⟩ := trod_struct2 Tryd.underlying34 hf
  have hc9 : Tryd.prog.cellsOf 9 = 1 := by kernel_rfl
  have hc34 : Tryd.prog.cellsOf 34 = 2 := by kernel_rfl
  have hc : cs.size = 2 := by rw [hsz]; exact hc34
  injection hxe with hd _
  subst hd
  obtain ⟨l⟩ := cs
  match l, hc with
  | [c0, c1], _ =>
    simp [Value.cells, hc9] at h4 h5
    obtain ⟨x, e4, z4, _⟩ := DataW.trod_string Tryd.underlying9 h4
    obtain ⟨y, e5, z5, _⟩ := DataW.trod_string Tryd.underlying9 h5
    simp at e4 e5
    subst e4; subst e5
    simp only [DataW.weights, Tryd.underlying34, z4, z5] at hw
    simp [DataW.weightsEach, DataW.weights] at hw
    exact ⟨x, y, rfl, hw.1, hw.2⟩
end
/-- The wrap of a row that lists variables: the laid facts, the world's shape and the reach are handed to the law. -/
theorem lifted_and_sized {H : Type} {enc : TypeId × Value → H} {a : Assume} {C : Checked} {os : Os} {f : FuncId} {fn : Func} {s : ChangeSpec} {X : World → Array Value → Prop}
    (hX : ∀ (w w' : World) (args : Array Value), w.heap = w'.heap → X w args → X w' args)
    (own : ownKnob C.prog.godebug = none) (started : os.Started) (noInit : C.prog.inits.idxOf? f = none) (hfn : C.prog.funcs[f]? = some fn)
    (witness : ∃ (w : World) (tape : Tape) (i : Input), w.os = os ∧ (w.forCall tape i).Shaped C.prog ∧ i.vars = [] ∧ Input.okWide C.prog (w.forCall tape i) .any w.heap.size f i ∧
      ((s.pre enc C.prog fn [] false (w.forCall tape i).memory i.args ∧ X (w.forCall tape i).memory i.args) ∧ sizedMet enc C.prog fn (OpenSpec.ofChange s) false (w.forCall tape i).memory i.args) ∧ a.holds C.prog (lone (Frame.enter C.prog f i.args .normal) [] (w.forCall tape i)))
    (law : ∀ (W : World) (base : Nat) (args : Array Value) (ds gs : List (DataW H)) (before : List MemPlace),
      (∀ (j : Nat) t v, fn.params[j]? = some t → args[j]? = some v → Value.okWide C.prog W .any base t v) →
      DataW.Whole enc C.prog fn.params.toList s.vars false W args.toList ds gs before →
      X W args → W.ShapedOpen C.prog →
      (∀ m ∈ DataW.weightsEach C.prog (fn.params.toList ++ s.plain.varTypes C.prog) (ds ++ gs), m ≤ reachBytes) →
      Calls C.prog f args W fun e W' => ∃ v, e = .returned v ∧ s.post enc C.prog fn false true false false W args v W') :
    ReturnsInHanded a C os f .any (fun w args => (s.pre enc C.prog fn [] false w args ∧ X w args) ∧ sizedMet enc C.prog fn (OpenSpec.ofChange s) false w args) (s.post enc C.prog fn false true false false) := by
  refine returnsInHanded_of_calls own started noInit witness ?_
  intro w tape i _ hshape _ hin hpre _
  obtain ⟨_, _, _, fn', hfn', _, _, _, _, hval⟩ := hin
  have e : fn' = fn := Option.some.inj (hfn'.symm.trans hfn)
  subst e
  obtain ⟨⟨⟨ds, gs, before, hw, _⟩, hx⟩, hz⟩ := hpre
  have hz2 := hz.weights hw
  refine (law (w.forCall tape i) w.heap.size i.args ds gs before hval (DataW.Whole.of_heap (w' := w.forCall tape i) (by rfl) hw) (hX _ _ _ (by rfl) hx) hshape (fun m hm => by simpa using List.all_eq_true.1 hz2 m hm)).mono fun e W' ⟨v, he, hp⟩ => ?_
  subst he
  exact ChangeSpec.post_blind hp
end Go.Proofs.YtcfgphhhgemkdaaDoor
