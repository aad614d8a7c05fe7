import Derived.Test.YtcfgphhhgemkdaaGreatDoorAX3
import Derived.IntWalk
import Derived.Test.YtcfgphhhgemkdaaGreatDoorAX1
import Derived.Test.YtcfgphhhgemkdaaGreatDoorLawKit
import Derived.SizedLaws
import Derived.Test.YtcfgphhhgemkdaaGreatDoorAX4
namespace Go.Proofs.YtcfgphhhgemkdaaGreatDoor
open Go.RowKit
set_option linter.unusedSimpArgs false
set_option linter.unusedVariables false

/-! Few aliases with short tags. -/
def shortA (a : Ali) : Bool := decide (a.1.size + a.2.size ≤ 120)
def fewL (l : List Ali) : Bool := l.all shortA && decide (l.length ≤ 12)
theorem fewL_len {l : List Ali} (h : fewL l = true) : l.length ≤ 12 ∧ ∀ a ∈ l, a.1.size ≤ 60000 ∧ a.2.size ≤ 60000 := by
  unfold fewL at h
  simp only [Bool.and_eq_true, decide_eq_true_eq] at h
  refine ⟨h.2, fun a ha => ?_⟩
  have := List.all_eq_true.1 h.1 a ha
  unfold shortA at this
  simp only [decide_eq_true_eq] at this
  omega
def FewInv (w : World) (l : List Ali) (n : Nat) (i : Value) (wr : World) : Prop :=
  ∃ k : Nat, k ≤ n ∧ i = .int .i64 k ∧ (l.take k).all shortA = true ∧ Ext w wr

set_option maxRecDepth 100000 in
theorem few20_any (l : List Ali) (A : Option Addr) (n c : Nat) (w : World) (hA : Als w A n l) (hn : n ≤ maxLen) (hz : ∀ a ∈ l, a.1.size ≤ reachBytes ∧ a.2.size ≤ reachBytes) :
    Calls Tryz.prog 8 #[.slice A n c] w fun e w' => e = .returned (.bool (fewL l)) ∧ Ext w w' := by
  unfold maxLen at hn
  have HA := Lib.hid hA
  have HL := Lib.hid hA.len
  have HZ := Lib.hid hz
  clear hA hz
  go_enter Tryz.func8, Tryz.ntmps8
  go_wp2_with fail
  go_loopw [3] (FewInv w l n) (fun i _ => n - (intOf i).toNat)
  case atStart => exact ⟨0, Nat.zero_le _, rfl, rfl, Ext.refl _⟩
  case round =>
    obtain ⟨k, hk, rfl, hall, hw⟩ := hrel
    have HALL := Lib.hid hall
    have HW := Lib.hid hw
    clear hall hw
    by_cases hkn : k < n
    · obtain ⟨⟨fb, ob⟩, hx⟩ : ∃ x, l[k]? = some x := ⟨_, List.getElem?_eq_getElem (by have := HL.out; omega)⟩
      obtain ⟨b, o, rfl, hb, c0, c1'⟩ := (HA.out.ext HW.out).at2 hx
      simp only at c0 c1'
      obtain ⟨z1, z2⟩ := HZ.out _ (List.mem_of_getElem? hx)
      simp only at z1 z2
      have zw : wrap64 ((fb.size : Int) + (ob.size : Int)) = (fb.size : Int) + (ob.size : Int) := by
        unfold reachBytes at z1 z2
        exact IntWalk.wrap64_in _ (by omega)
      have HX := Lib.hid hx
      clear hx
      go_wp2
      go_quiet (fail)
      by_cases h120 : fb.size + ob.size ≤ 120
      · have h120I : ¬ (120 : Int) < (fb.size : Int) + (ob.size : Int) := by omega
        go_wp2
        refine ⟨⟨k + 1, by omega, by go_num, ?_, HW.out.drewN _⟩, by simp [intOf]; omega⟩
        rw [take_next HX.out, List.all_append, HALL.out]
        simp [shortA, h120]
      · have h120I : (120 : Int) < (fb.size : Int) + (ob.size : Int) := by omega
        go_wp2
        go_ret
        refine ⟨ret_bool ?_, HW.out.drewN _⟩
        have : l.all shortA = false := by
          rw [List.all_eq_false]
          exact ⟨_, List.mem_of_getElem? HX.out, by simp [shortA]; omega⟩
        unfold fewL
        rw [this]
        rfl
    · have hkk : k = n := by omega
      subst hkk
      go_wp2
      go_ret
      refine ⟨ret_bool ?_, HW.out⟩
      have h := HALL.out
      rw [List.take_of_length_le (by have := HL.out; omega)] at h
      unfold fewL
      rw [h, HL.out, Bool.true_and]
      exact decide_eq_decide.2 (by omega)
end Go.Proofs.YtcfgphhhgemkdaaGreatDoor
namespace Go.Proofs.YtcfgphhhgemkdaaGreatDoor
open Go.ChangeShapes Go.WideShapes Go.ChangeAt Go.RowKit
set_option linter.unusedSimpArgs false
set_option linter.unusedVariables false

section
variable {H : Type} {enc : TypeId × Value → H} {P : Program}
theorem weightsAll_mem {e : TypeId} {l : List (DataW H)} {d : DataW H} (h : d ∈ l) : ∀ n ∈ d.weights P e, n ∈ DataW.weightsAll P e l := by
  induction l with
  | nil => cases h
  | cons x r ih =>
    intro n hn
    simp only [DataW.weightsAll, List.mem_append]
    rcases List.mem_cons.1 h with rfl | h
    · exact .inl hn
    · exact .inr (ih h n hn)
/-- Structs of two strings that came in: no string is longer than the reach. -/
theorem als_sized {t e ti : TypeId} {f0 f1 : Field} {W : World} {A : Option Addr} {n c : Nat} {d : DataW H} {ps : List MemPlace} {l : List (ByteArray × ByteArray)} (ht : P.underlying t = some (.slice e)) (he : P.underlying e = some (.struct #[f0, f1]))
    (hi : P.underlying ti = some .string) (ht0 : f0.type = ti) (ht1 : f1.type = ti) (ho0 : f0.offset = 0) (ho1 : f1.offset = 1) (hci : P.cellsOf ti = 1) (hc : P.cellsOf e = 2)
    (h : DataW.Trod enc P W 0 (fun _ => true) true t (.slice A n c) d ps) (hl : Als W A n l) (hw : ∀ m ∈ d.weights P t, m ≤ reachBytes) : ∀ a ∈ l, a.1.size ≤ reachBytes ∧ a.2.size ≤ reachBytes := by
  intro a ha
  obtain ⟨i, hi', rfl⟩ := List.getElem_of_mem ha
  have hx := List.getElem?_eq_getElem hi'
  have hln := hl.len
  obtain ⟨b, o, rfl, _, c0, c1⟩ := hl.at_ hx
  obtain ⟨fuel, hf⟩ := h
  rcases DataW.trod_slice ht hf with ⟨hcs, _⟩ | ⟨ad, len, cap, elems, rest, k, _, hcs, hd, _, _, _, hlen, hel, _, _⟩
  · simp [Value.cells] at hcs
  · simp [Value.cells] at hcs
    obtain ⟨rfl, rfl, rfl⟩ := hcs
    injection hd with hd1 hd2
    subst hd1
    have h1 := hel i (by omega)
    rw [List.getElem?_eq_getElem (by omega), hc, Option.bind_eq_some_iff] at h1
    obtain ⟨cs', h2, h3⟩ := h1
    obtain ⟨y0, y1, m, hxe, hl2, h4, h5⟩ := trod_struct2 he h3
    rw [hc] at hl2
    rw [ht0, ho0, hci] at h4
    rw [ht1, ho1, hci] at h5
    obtain ⟨x, e4, z4, _⟩ := DataW.trod_string hi h4
    obtain ⟨y, e5, z5, _⟩ := DataW.trod_string hi h5
    obtain ⟨_, h7, h8⟩ := World.cells?_some h2
    match cs', hl2, e4, e5 with
    | [d0, d1], _, e4, e5 =>
      simp at e4 e5
      subst e4; subst e5
      have g0 : W.cell? ((⟨b, o, none⟩ : Addr).add (i * 2)) = some (.string x) := by have h9 := h8 0 (by omega); exact h9
      have g1 : W.cell? (((⟨b, o, none⟩ : Addr).add (i * 2)).add 1) = some (.string y) := by have h9 := h8 1 (by omega); exact h9
      have ea : ∀ t, (⟨b, o, none⟩ : Addr).add t = ⟨b, o + t, none⟩ := by
        intro t
        unfold Addr.add
        split
        · subst_vars; rfl
        · rfl
      rw [ea] at g0 g1
      have e3 : (⟨b, o + i * 2, none⟩ : Addr).add 1 = ⟨b, o + (i * 2 + 1), none⟩ := rfl
      rw [e3] at g1
      rw [c0] at g0
      rw [c1] at g1
      injection g0 with g0
      injection g0 with g0
      injection g1 with g1
      injection g1 with g1
      have hmem : (elems[i]'(by omega)).1 ∈ elems.map (·.1) := List.mem_map.2 ⟨_, List.getElem_mem _, rfl⟩
      have hwa := fun m hm => hw m (by
        simp only [DataW.weights, ht, List.mem_cons, List.mem_append]
        exact .inr (.inl (weightsAll_mem hmem m hm)))
      rw [hxe] at hwa
      simp only [DataW.weights, he, z4, z5] at hwa
      have e6 : (List.map (fun x => x.type) (#[f0, f1] : Array Field).toList) = [f0.type, f1.type] := rfl
      rw [e6] at hwa
      simp only [DataW.weightsEach, DataW.weights, List.mem_append, List.mem_singleton, List.not_mem_nil, or_false] at hwa
      refine ⟨?_, ?_⟩
      · rw [g0]; exact hwa x.data.toList.length (.inl rfl)
      · rw [g1]; exact hwa y.data.toList.length (.inr rfl)

set_option maxRecDepth 100000 in
/-- A struct of two strings that came in. -/
theorem open_ali {W : World} {base : Nat} {v : Value} {d : DataW H} {ps : List MemPlace} (hv : Value.okWide Tryz.prog W .any base 34 v) (h : DataW.Trod enc Tryz.prog W 0 (fun _ => true) true 34 v d ps) (hw : ∀ m ∈ d.weights Tryz.prog 34, m ≤ reachBytes) :
    ∃ (fb ob : ByteArray), v = .agg #[.string fb, .string ob] ∧ fb.size ≤ reachBytes ∧ ob.size ≤ reachBytes := by
  obtain ⟨cs, rfl, hsz⟩ := okWide_struct Tryz.underlying34 hv
  obtain ⟨fuel, hf⟩ := h
  obtain ⟨y0, y1, m, hxe, hlen, h4, h5⟩ := trod_struct2 Tryz.underlying34 hf
  have hc9 : Tryz.prog.cellsOf 9 = 1 := by kernel_rfl
  have hc34 : Tryz.prog.cellsOf 34 = 2 := by kernel_rfl
  have hc : cs.size = 2 := by rw [hsz]; exact hc34
  injection hxe with hd _
  subst hd
  obtain ⟨l⟩ := cs
  match l, hc with
  | [c0, c1], _ =>
    simp [Value.cells, hc9] at h4 h5
    obtain ⟨x, e4, z4, _⟩ := DataW.trod_string Tryz.underlying9 h4
    obtain ⟨y, e5, z5, _⟩ := DataW.trod_string Tryz.underlying9 h5
    simp at e4 e5
    subst e4; subst e5
    simp only [DataW.weights, Tryz.underlying34, z4, z5] at hw
    simp [DataW.weightsEach, DataW.weights] at hw
    exact ⟨x, y, rfl, hw.1, hw.2⟩
end
/-- The wrap of a row that lists variables: the laid facts, the world's shape and the reach are handed to the law. -/
theorem lifted_and_sized {H : Type} {enc : TypeId × Value → H} {a : Assume} {C : Checked} {os : Os} {f : FuncId} {fn : Func} {s : ChangeSpec} {X : World → Array Value → Prop}
    (hX : ∀ (w w' : World) (args : Array Value), w.heap = w'.heap → X w args → X w' args)
    (own : ownKnob C.prog.godebug = none) (started : os.Started) (noInit : C.prog.inits.idxOf? f = none) (hfn : C.prog.funcs[f]? = some fn)
    (witness : ∃ (w : World) (tape : Tape) (i : Input), w.os = os ∧ (w.forCall tape i).Shaped C.prog ∧ i.vars = [] ∧ Input.okWide C.prog (w.forCall tape i) .any w.heap.size f i ∧
      ((s.pre enc C.prog fn [] false (w.forCall tape i).memory i.args ∧ X (w.forCall tape i).memory i.args) ∧ sizedMet enc C.prog fn (OpenSpec.ofChange s) false (w.forCall tape i).memory i.args) ∧ a.holds C.prog (lone (Frame.enter C.prog f i.args .normal) [] (w.forCall tape i)))
    (law : ∀ (W : World) (base : Nat) (args : Array Value) (ds gs : List (DataW H)) (before : List MemPlace),
      (∀ (j : Nat) t v, fn.params[j]? = some t → args[j]? = some v → Value.okWide C.prog W .any base t v) →
      DataW.Whole enc C.prog fn.params.toList s.vars false W args.toList ds gs before →
      X W args → W.ShapedOpen C.prog →
      (∀ m ∈ DataW.weightsEach C.prog (fn.params.toList ++ s.plain.varTypes C.prog) (ds ++ gs), m ≤ reachBytes) →
      Calls C.prog f args W fun e W' => ∃ v, e = .returned v ∧ s.post enc C.prog fn false true false false W args v W') :
    ReturnsInHanded a C os f .any (fun w args => (s.pre enc C.prog fn [] false w args ∧ X w args) ∧ sizedMet enc C.prog fn (OpenSpec.ofChange s) false w args) (s.post enc C.prog fn false true false false) := by
  refine returnsInHanded_of_calls own started noInit witness ?_
  intro w tape i _ hshape _ hin hpre _
  obtain ⟨_, _, _, fn', hfn', _, _, _, _, hval⟩ := hin
  have e : fn' = fn := Option.some.inj (hfn'.symm.trans hfn)
  subst e
  obtain ⟨⟨⟨ds, gs, before, hw, _⟩, hx⟩, hz⟩ := hpre
  have hz2 := hz.weights hw
  refine (law (w.forCall tape i) w.heap.size i.args ds gs before hval (DataW.Whole.of_heap (w' := w.forCall tape i) (by rfl) hw) (hX _ _ _ (by rfl) hx) hshape (fun m hm => by simpa using List.all_eq_true.1 hz2 m hm)).mono fun e W' ⟨v, he, hp⟩ => ?_
  subst he
  exact ChangeSpec.post_blind hp
end Go.Proofs.YtcfgphhhgemkdaaGreatDoor
namespace Go.Proofs.YtcfgphhhgemkdaaGreatDoor
open Go.RowKit
set_option linter.unusedSimpArgs false
set_option linter.unusedVariables false

/-! The example's aliases. -/
def xIw : ByteArray := ⟨#[105, 119]⟩
def xHe : ByteArray := ⟨#[104, 101]⟩
def xBu : ByteArray := ⟨#[117, 110, 100, 45, 66, 85]⟩
def xMm : ByteArray := ⟨#[117, 110, 100, 45, 77, 77]⟩
def xTw : ByteArray := ⟨#[122, 104, 45, 84, 87]⟩
def xHt : ByteArray := ⟨#[122, 104, 45, 72, 97, 110, 116, 45, 84, 87]⟩
def xIb : ByteArray := ⟨#[105, 119, 95, 98, 117]⟩
def exL : List Ali := [(xIw, xHe), (xBu, xMm), (xTw, xHt)]
def tIw : TagP := ⟨[105, 119], [], [], []⟩
def tHe : TagP := ⟨[104, 101], [], [], []⟩
def tBu : TagP := ⟨[117, 110, 100], [], [66, 85], []⟩
def tMm : TagP := ⟨[117, 110, 100], [], [77, 77], []⟩
def tTw : TagP := ⟨[122, 104], [], [84, 87], []⟩
def tHt : TagP := ⟨[122, 104], [72, 97, 110, 116], [84, 87], []⟩
def tIb : TagP := ⟨[105, 119], [], [66, 85], []⟩
def tHb : TagP := ⟨[104, 101], [], [66, 85], []⟩
def tHm : TagP := ⟨[104, 101], [], [77, 77], []⟩
theorem pIw : parseP EC xIw.data.toList = (tIw, 0) := (show parseP EC xIw.data.toList = finT EC tIw by kernel_rfl).trans (finT_of _ _ (by decide +kernel))
theorem pHe : parseP EC xHe.data.toList = (tHe, 0) := (show parseP EC xHe.data.toList = finT EC tHe by kernel_rfl).trans (finT_of _ _ (by decide +kernel))
theorem pBu : parseP EC xBu.data.toList = (tBu, 0) := (show parseP EC xBu.data.toList = finT EC tBu by kernel_rfl).trans (finT_of _ _ (by decide +kernel))
theorem pMm : parseP EC xMm.data.toList = (tMm, 0) := (show parseP EC xMm.data.toList = finT EC tMm by kernel_rfl).trans (finT_of _ _ (by decide +kernel))
theorem pTw : parseP EC xTw.data.toList = (tTw, 0) := (show parseP EC xTw.data.toList = finT EC tTw by kernel_rfl).trans (finT_of _ _ (by decide +kernel))
theorem pHt : parseP EC xHt.data.toList = (tHt, 0) := (show parseP EC xHt.data.toList = finT EC tHt by kernel_rfl).trans (finT_of _ _ (by decide +kernel))
theorem pIb : parseP EC xIb.data.toList = (tIb, 0) := (show parseP EC xIb.data.toList = finT EC tIb by kernel_rfl).trans (finT_of _ _ (by decide +kernel))
theorem is_of {s : List UInt8} {t : TagP} (h : parseP EC s = (t, 0)) (h2 : textP t = s) : isP s = true := by
  unfold isP canP
  rw [h]
  simp [h2]
theorem ali_all : exL.all aliB = true := by
  have h1 := is_of pIw (by decide +kernel)
  have h2 := is_of pHe (by decide +kernel)
  have h3 := is_of pBu (by decide +kernel)
  have h4 := is_of pMm (by decide +kernel)
  have h5 := is_of pTw (by decide +kernel)
  have h6 := is_of pHt (by decide +kernel)
  unfold exL
  simp only [List.all_cons, List.all_nil, Bool.and_true, aliB, h1, h2, h3, h4, h5, h6, Bool.true_and]
  decide +kernel
def exR : List RuleP := [⟨tIw, tHe⟩, ⟨tBu, tMm⟩, ⟨tTw, tHt⟩]
theorem ex_rules : exL.map ruleOf = exR := by
  unfold exL exR
  simp only [List.map_cons, List.map_nil, ruleOf, pIw, pHe, pBu, pMm, pTw, pHt]
theorem varsP_nil : varsP [] [] [] = [] := by simp [varsP, sortS]
theorem repl0 (r : RuleP) (t : TagP) (hf : r.f.vars = []) (ho : r.o.vars = []) (ht : t.vars = []) :
    replP r t = ⟨if r.f.lang == undP && r.o.lang == undP then t.lang else r.o.lang, fieldP r.f.script r.o.script t.script, fieldP r.f.region r.o.region t.region, []⟩ := by
  unfold replP
  rw [hf, ho, ht, varsP_nil]
def stepQ : List RuleP → TagP → Option TagP
  | [], _ => none
  | r :: l, t => if fitsP r t && !eqT ⟨if r.f.lang == undP && r.o.lang == undP then t.lang else r.o.lang, fieldP r.f.script r.o.script t.script, fieldP r.f.region r.o.region t.region, []⟩ t then
      some ⟨if r.f.lang == undP && r.o.lang == undP then t.lang else r.o.lang, fieldP r.f.script r.o.script t.script, fieldP r.f.region r.o.region t.region, []⟩ else stepQ l t
theorem stepQ_eq {t : TagP} (ht : t.vars = []) : ∀ l : List RuleP, (∀ r ∈ l, r.f.vars = [] ∧ r.o.vars = []) → stepP l t = stepQ l t
  | [], _ => rfl
  | r :: l, h => by
    unfold stepP stepQ
    rw [repl0 r t (h r (by simp)).1 (h r (by simp)).2 ht, stepQ_eq ht l (fun r hr => h r (by simp [hr]))]
theorem ex_novars : ∀ r ∈ exR, r.f.vars = [] ∧ r.o.vars = [] := by
  intro r hr
  unfold exR at hr
  simp at hr
  rcases hr with rfl | rfl | rfl <;> exact ⟨rfl, rfl⟩
instance : DecidableEq TagP := fun a b => decidable_of_iff (eqT a b = true) (eqT_iff a b)
theorem aws1 : stepP exR tIb = some tHb := by rw [stepQ_eq rfl _ ex_novars]; decide +kernel
theorem aws2 : stepP exR tHb = some tHm := by rw [stepQ_eq rfl _ ex_novars]; decide +kernel
theorem aws3 : stepP exR tHm = none := by rw [stepQ_eq rfl _ ex_novars]; decide +kernel
theorem aws4 : stepP exR tTw = some tHt := by rw [stepQ_eq rfl _ ex_novars]; decide +kernel
theorem aws5 : stepP exR tHt = none := by rw [stepQ_eq rfl _ ex_novars]; decide +kernel
theorem aws6 : stepP exR tHe = none := by rw [stepQ_eq rfl _ ex_novars]; decide +kernel
theorem aws7 : stepP exR tMm = none := by rw [stepQ_eq rfl _ ex_novars]; decide +kernel
theorem ex_steps : stepsL exL xIb.data.toList = ([[105, 119, 45, 66, 85], [104, 101, 45, 66, 85], [104, 101, 45, 77, 77]], 0) := by
  unfold stepsL
  rw [if_pos ali_all, pIb, ex_rules]
  simp only [if_true]
  have h3 : stepsP 6 15 exR 18 tHm = ([tHm], 0) := steps_none aws3
  have h2 : stepsP 6 15 exR 19 tHb = ([tHb, tHm], 0) := by rw [steps_go aws2 (by decide), h3]; rfl
  have h1 : stepsP 6 15 exR 20 tIb = ([tIb, tHb, tHm], 0) := by rw [steps_go aws1 (by decide), h2]; rfl
  rw [h1]
  decide +kernel
theorem exA_can : canL exL xTw.data.toList = ([122, 104, 45, 72, 97, 110, 116, 45, 84, 87], 0) := by
  have h : stepsL exL xTw.data.toList = ([[122, 104, 45, 84, 87], [122, 104, 45, 72, 97, 110, 116, 45, 84, 87]], 0) := by
    unfold stepsL
    rw [if_pos ali_all, pTw, ex_rules]
    simp only [if_true]
    have h2 : stepsP 6 15 exR 19 tHt = ([tHt], 0) := steps_none aws5
    have h1 : stepsP 6 15 exR 20 tTw = ([tTw, tHt], 0) := by rw [steps_go aws4 (by decide), h2]; rfl
    rw [h1]
    decide +kernel
  unfold canL
  rw [h]
  rfl
theorem ex_valid : validL exL = true := by
  unfold validL
  rw [ali_all, ex_rules]
  have h1 : apartL exL = true := by decide +kernel
  have h2 : exL.all (fun a => (stepP exR (ruleOf a).o).isNone) = true := by
    unfold exL
    simp only [List.all_cons, List.all_nil, Bool.and_true, ruleOf, pHe, pMm, pHt, aws5, aws6, aws7]
    rfl
  rw [h1, h2]
  rfl
end Go.Proofs.YtcfgphhhgemkdaaGreatDoor
namespace Go.Proofs.YtcfgphhhgemkdaaGreatDoor
open Go.RowKit
set_option linter.unusedSimpArgs false
set_option linter.unusedVariables false

theorem SlN.lit (w : World) (cs : List Value) (t : TypeId) (n size : Nat) (h : cs.length = n * size) : SlN (w.alloc (.cells cs.toArray t)) (some ⟨w.heap.size, 0, none⟩) n size cs :=
  ⟨h, fun j u hu => ⟨w.heap.size, 0, rfl, by simp, by
    have h0 := heap_alloc_new w (.cells cs.toArray t)
    rw [Nat.zero_add, cell_of_row _ w.heap.size j cs.toArray t (0, 0) h0]
    simpa using hu⟩⟩
theorem aw_steps (A : Option Addr) (n c : Nat) (w : World) (hm : Mx w) (hA : Als w A n exL) (hn : n ≤ 100000) : Calls Tryz.prog 11 #[.slice A n c, .string ⟨#[105, 119, 95, 98, 117]⟩] w fun e w' => ∃ A c, e = .returned (.tuple #[.slice A 3 c, .int .i64 0]) ∧
    Sl w' A 3 ([[105, 119, 45, 66, 85], [104, 101, 45, 66, 85], [104, 101, 45, 77, 77]].map strv) ∧ Ext w w' := by
  have h := tsteps_any exL xIb A n c w hm hA hn (by intro a ha; unfold exL at ha; simp at ha; rcases ha with rfl | rfl | rfl <;> exact ⟨by decide, by decide⟩) (by decide)
  rw [ex_steps] at h
  refine h.mono ?_
  rintro e w' ⟨A', n', c', he, hs, _, hw⟩
  have e3 : n' = 3 := by rw [hs.len]; rfl
  subst e3
  exact ⟨A', c', he, hs, hw⟩
theorem aw_can20 (A : Option Addr) (n c : Nat) (w : World) (hm : Mx w) (hA : Als w A n exL) (hn : n ≤ 100000) : Calls Tryz.prog 13 #[.slice A n c, .string ⟨#[122, 104, 45, 84, 87]⟩] w fun e w' => e = .returned (.tuple #[.string ⟨#[122, 104, 45, 72, 97, 110, 116, 45, 84, 87]⟩, .int .i64 0]) ∧ Ext w w' := by
  have h := tacan_any exL xTw A n c w hm hA hn (by intro a ha; unfold exL at ha; simp at ha; rcases ha with rfl | rfl | rfl <;> exact ⟨by decide, by decide⟩) (by decide)
  rw [exA_can] at h
  exact h
theorem aw_val (A : Option Addr) (n c : Nat) (w : World) (hm : Mx w) (hA : Als w A n exL) (hn : n ≤ 100000) : Calls Tryz.prog 9 #[.slice A n c] w fun e w' => e = .returned (.bool true) ∧ Ext w w' := by
  have h := taval_any exL A n c w hm hA hn (by intro a ha; unfold exL at ha; simp at ha; rcases ha with rfl | rfl | rfl <;> exact ⟨by decide, by decide⟩)
  rw [ex_valid] at h
  exact h

set_option maxRecDepth 100000 in
set_option maxHeartbeats 1000000 in
theorem awake_any (w : World) (hm : Mx w) : Calls Tryz.prog 7 #[] w (RetTrue w) := by
  have hal : Als (w.alloc (.cells #[.string ⟨#[105, 119]⟩, .string ⟨#[104, 101]⟩, .string ⟨#[117, 110, 100, 45, 66, 85]⟩, .string ⟨#[117, 110, 100, 45, 77, 77]⟩, .string ⟨#[122, 104, 45, 84, 87]⟩, .string ⟨#[122, 104, 45, 72, 97, 110, 116, 45, 84, 87]⟩] 34)) (some ⟨w.heap.size, 0, none⟩) 3 exL :=
    SlN.lit w [.string ⟨#[105, 119]⟩, .string ⟨#[104, 101]⟩, .string ⟨#[117, 110, 100, 45, 66, 85]⟩, .string ⟨#[117, 110, 100, 45, 77, 77]⟩, .string ⟨#[122, 104, 45, 84, 87]⟩, .string ⟨#[122, 104, 45, 72, 97, 110, 116, 45, 84, 87]⟩] 34 3 2 rfl
  have HAL := Lib.hid hal
  have HX := Lib.hid ((Ext.refl w).alloc (.cells #[.string ⟨#[105, 119]⟩, .string ⟨#[104, 101]⟩, .string ⟨#[117, 110, 100, 45, 66, 85]⟩, .string ⟨#[117, 110, 100, 45, 77, 77]⟩, .string ⟨#[122, 104, 45, 84, 87]⟩, .string ⟨#[122, 104, 45, 72, 97, 110, 116, 45, 84, 87]⟩] 34))
  clear hal
  go_enter Tryz.func7, Tryz.ntmps7
  go_wp2_with fail
  refine (aw_steps _ _ _ _ (hm.ext HX.out) HAL.out (by decide)).mono ?_
  rintro e w1 ⟨A, c, rfl, hs1, hw1⟩
  have HS1 := Lib.hid hs1
  have HW1 := Lib.hid (HX.out.trans hw1)
  have HX1 := Lib.hid hw1
  clear hs1 hw1
  go_wp2_with fail
  refine (aw_can20 _ _ _ _ (hm.ext HW1.out) (HAL.out.ext HX1.out) (by decide)).mono ?_
  rintro e w2 ⟨rfl, hw2⟩
  have HW2 := Lib.hid (HW1.out.trans hw2)
  have HX2 := Lib.hid (HX1.out.trans hw2)
  have HS2 := Lib.hid (HS1.out.ext (hw2.alloc (.cells #[.string ⟨#[105, 119, 45, 66, 85]⟩, .string ⟨#[104, 101, 45, 66, 85]⟩, .string ⟨#[104, 101, 45, 77, 77]⟩] 9)))
  have HL : Hid (Sl (w2.alloc (.cells #[.string ⟨#[105, 119, 45, 66, 85]⟩, .string ⟨#[104, 101, 45, 66, 85]⟩, .string ⟨#[104, 101, 45, 77, 77]⟩] 9)) (some ⟨w2.heap.size, 0, none⟩) 3 ([[105, 119, 45, 66, 85], [104, 101, 45, 66, 85], [104, 101, 45, 77, 77]].map strv)) := Lib.hid (Sl.lit w2 #[.string ⟨#[105, 119, 45, 66, 85]⟩, .string ⟨#[104, 101, 45, 66, 85]⟩, .string ⟨#[104, 101, 45, 77, 77]⟩] 9 3 rfl)
  have SB : Hid (((([[105, 119, 45, 66, 85], [104, 101, 45, 66, 85], [104, 101, 45, 77, 77]] : List (List UInt8)) == [[105, 119, 45, 66, 85], [104, 101, 45, 66, 85], [104, 101, 45, 77, 77]]) : Bool) = true) := Lib.hid (by decide)
  clear hw2
  go_wp2_with (first
    | (go_at_call 15; with_reducible refine (samestr_any [[105, 119, 45, 66, 85], [104, 101, 45, 66, 85], [104, 101, 45, 77, 77]] [[105, 119, 45, 66, 85], [104, 101, 45, 66, 85], [104, 101, 45, 77, 77]] _ _ _ _ c 3 _ HS2.out HL.out (by unfold maxLen; omega) (by unfold maxLen; omega)).mono ?_; rintro e w4 ⟨rfl, hw4⟩; rw [SB.out]; have HW4 := Lib.hid hw4; clear hw4)
    | (go_at_call 9; with_reducible refine (aw_val _ _ _ _ (hm.ext ((HW2.out.alloc _).trans HW4.out)) (HAL.out.ext ((HX2.out.alloc _).trans HW4.out)) (by decide)).mono ?_; rintro e w5 ⟨rfl, hw5⟩; have HW5 := Lib.hid hw5; clear hw5))
  go_ret
  exact ⟨rfl, ((HW2.out.alloc _).trans HW4.out).trans HW5.out⟩
end Go.Proofs.YtcfgphhhgemkdaaGreatDoor
