import Derived.Test.YtehcldnicefmeaaGreatDoorNXH
import Derived.Test.YtehcldnicefmeaaGreatDoorCw
import Derived.Test.YtehcldnicefmeaaGreatDoorNX3
import Derived.Test.YtehcldnicefmeaaGreatDoorNX2
import Derived.IntWalk
namespace Go.Proofs.YtehcldnicefmeaaGreatDoor
open Go.ChangeShapes Go.WideShapes Go.ChangeAt Go.RowKit
set_option linter.unusedSimpArgs false
set_option linter.unusedVariables false

/-! Finding an entry, step by step. -/
def NoT (cats : List (BytesC × List EntP)) (id : BytesC) (tags : List BytesC) (i : Nat) : Prop := ∀ j x, j < i → tags[j]? = some x → firstN (inCat x id) 0 cats = none
def NoC (x id : BytesC) (cats : List (BytesC × List EntP)) (k : Nat) : Prop := ∀ j c, j < k → cats[j]? = some c → inCat x id c = none
def NoE (id : BytesC) (es : List EntP) (q : Nat) : Prop := ∀ j y, j < q → es[j]? = some y → entB id y = false
theorem noT_zero (cats : List (BytesC × List EntP)) (id : BytesC) (tags : List BytesC) : NoT cats id tags 0 := fun j x h _ => absurd h (Nat.not_lt_zero j)
theorem noC_zero (x id : BytesC) (cats : List (BytesC × List EntP)) : NoC x id cats 0 := fun j c h _ => absurd h (Nat.not_lt_zero j)
theorem noE_zero (id : BytesC) (es : List EntP) : NoE id es 0 := fun j y h _ => absurd h (Nat.not_lt_zero j)
theorem noE_next {id : BytesC} {es : List EntP} {q : Nat} {y : EntP} (h : NoE id es q) (hy : es[q]? = some y) (hb : entB id y = false) : NoE id es (q + 1) := fun j z hj hz => by
  by_cases e : j = q
  · subst e; rw [hy] at hz; injection hz with hz; subst hz; exact hb
  · exact h j z (by omega) hz
theorem noE_end {id : BytesC} {es : List EntP} {q : Nat} (h : NoE id es q) (hq : es.length ≤ q) : es.findIdx? (entB id) = none := by
  rw [List.findIdx?_eq_none_iff]
  intro y hy
  obtain ⟨j, hj, rfl⟩ := List.getElem_of_mem hy
  exact h j _ (by omega) (List.getElem?_eq_getElem hj)
theorem noE_found {id : BytesC} {es : List EntP} {q : Nat} {y : EntP} (h : NoE id es q) (hy : es[q]? = some y) (hb : entB id y = true) : es.findIdx? (entB id) = some q := by
  rw [List.findIdx?_eq_some_iff_getElem]
  have hq := (List.getElem?_eq_some_iff.1 hy).1
  refine ⟨hq, ?_, ?_⟩
  · rw [(List.getElem?_eq_some_iff.1 hy).2]; exact hb
  · intro j hj
    rw [h j _ hj (List.getElem?_eq_getElem (by omega))]
    decide
theorem noC_next {x id : BytesC} {cats : List (BytesC × List EntP)} {k : Nat} {c : BytesC × List EntP} (h : NoC x id cats k) (hc : cats[k]? = some c) (hb : inCat x id c = none) : NoC x id cats (k + 1) := fun j z hj hz => by
  by_cases e : j = k
  · subst e; rw [hc] at hz; injection hz with hz; subst hz; exact hb
  · exact h j z (by omega) hz
theorem noC_other {x id : BytesC} {cats : List (BytesC × List EntP)} {k : Nat} {c : BytesC × List EntP} (h : NoC x id cats k) (hc : cats[k]? = some c) (hn : (c.1 == x) = false) : NoC x id cats (k + 1) :=
  noC_next h hc (by unfold inCat; rw [if_neg (by intro e; rw [e] at hn; simp at hn)])
theorem noC_none {x id : BytesC} {cats : List (BytesC × List EntP)} {k : Nat} {c : BytesC × List EntP} {q : Nat} (h : NoC x id cats k) (hc : cats[k]? = some c) (he : NoE id c.2 q) (hq : c.2.length ≤ q) : NoC x id cats (k + 1) :=
  noC_next h hc (by unfold inCat; split; exact noE_end he hq; rfl)
theorem noC_end {x id : BytesC} {cats : List (BytesC × List EntP)} {k : Nat} (h : NoC x id cats k) (hk : cats.length ≤ k) : firstN (inCat x id) 0 cats = none :=
  first_none fun j c hj hc => h j c (by omega) hc
theorem noT_next {cats : List (BytesC × List EntP)} {id : BytesC} {tags : List BytesC} {i k : Nat} {x : BytesC} (h : NoT cats id tags i) (hx : tags[i]? = some x) (hc : NoC x id cats k) (hk : cats.length ≤ k) : NoT cats id tags (i + 1) := fun j z hj hz => by
  by_cases e : j = i
  · subst e; rw [hx] at hz; injection hz with hz; subst hz; exact noC_end hc hk
  · exact h j z (by omega) hz
theorem findSome_none {α β : Type} {f : α → Option β} {l : List α} (h : ∀ (j : Nat) (x : α), l[j]? = some x → f x = none) : l.findSome? f = none := by
  rw [List.findSome?_eq_none_iff]
  intro x hx
  obtain ⟨j, hj, rfl⟩ := List.getElem_of_mem hx
  exact h j _ (List.getElem?_eq_getElem hj)
theorem findSome_some {α β : Type} {f : α → Option β} : ∀ {l : List α} {i : Nat} {x : α} {b : β}, (∀ j y, j < i → l[j]? = some y → f y = none) → l[i]? = some x → f x = some b → l.findSome? f = some b
  | [], i, x, b, _, hx, _ => by simp at hx
  | a :: r, 0, x, b, _, hx, hb => by
    simp at hx
    subst hx
    rw [List.findSome?_cons, hb]
  | a :: r, i + 1, x, b, h, hx, hb => by
    rw [List.findSome?_cons, h 0 a (by omega) rfl]
    exact findSome_some (l := r) (i := i) (fun j y hj hy => h (j + 1) y (by omega) (by simpa using hy)) (by simpa using hx) hb
theorem noT_end {cats : List (BytesC × List EntP)} {id : BytesC} {tags : List BytesC} {i : Nat} (h : NoT cats id tags i) (hi : tags.length ≤ i) : findL tags cats id = none :=
  findSome_none fun j x hx => h j x (by have := (List.getElem?_eq_some_iff.1 hx).1; omega) hx
theorem find_found {cats : List (BytesC × List EntP)} {id : BytesC} {tags : List BytesC} {i k q : Nat} {x : BytesC} {c : BytesC × List EntP} {y : EntP} (h : NoT cats id tags i) (hx : tags[i]? = some x) (hn : NoC x id cats k) (hc : cats[k]? = some c) (ht : (c.1 == x) = true)
    (he : NoE id c.2 q) (hy : c.2[q]? = some y) (hb : entB id y = true) : findL tags cats id = some (k, q) := by
  refine findSome_some h hx ?_
  have := first_some (n := 0) hn hc (show inCat x id c = some q from by unfold inCat; rw [if_pos (by simpa using ht)]; exact noE_found he hy hb)
  rwa [Nat.zero_add] at this
theorem findC_bad {T : List LocP} {al : List Ali} {cats : List (BytesC × List EntP)} {s id : BytesC} {O : List BytesC × Int} (hO : O = ofC T al s) (h : O.2 ≠ 0) : findC T al cats s id = ((0, 0), O.2) := by
  unfold findC; rw [← hO, if_neg h]
theorem findC_none {T : List LocP} {al : List Ali} {cats : List (BytesC × List EntP)} {s id : BytesC} {O : List BytesC × Int} (hO : O = ofC T al s) (h : O.2 = 0) (hf : findL O.1 cats id = none) : findC T al cats s id = ((0, 0), 8) := by
  unfold findC; rw [← hO, if_pos h, hf]
theorem findC_some {T : List LocP} {al : List Ali} {cats : List (BytesC × List EntP)} {s id : BytesC} {O : List BytesC × Int} {k q : Nat} (hO : O = ofC T al s) (h : O.2 = 0) (hf : findL O.1 cats id = some (k, q)) : findC T al cats s id = (((k : Int), (q : Int)), 0) := by
  unfold findC; rw [← hO, if_pos h, hf]

/-! Catalogs in memory. -/
structure En where
  i : ByteArray
  s : ByteArray
  t : ByteArray
  A : Nat → Option Addr
  n : Nat → Nat
  c : Nat → Nat
  st : Int
def enC (x : En) : List Value := [.string x.i, .string x.s, .string x.t, .slice (x.A 0) (x.n 0) (x.c 0), .slice (x.A 1) (x.n 1) (x.c 1), .int .i64 x.st, .slice (x.A 2) (x.n 2) (x.c 2)]
def entOf (x : En) : EntP := (x.i.data.toList, x.st)
structure Ct where
  t : ByteArray
  A : Nat → Option Addr
  n : Nat → Nat
  c : Nat → Nat
  es : List En
def ctC (x : Ct) : List Value := [.string x.t, .slice (x.A 0) (x.n 0) (x.c 0), .slice (x.A 1) (x.n 1) (x.c 1), .slice (x.A 2) (x.n 2) (x.c 2)]
def catOf (x : Ct) : BytesC × List EntP := (x.t.data.toList, x.es.map entOf)
def Ens (w : World) (A : Option Addr) (n : Nat) (l : List En) : Prop := SlN w A n 7 (l.flatMap enC)
theorem Ens.ext {w w' : World} {A : Option Addr} {n : Nat} {l : List En} (h : Ens w A n l) (hw : Ext w w') : Ens w' A n l := SlN.ext h hw
theorem Ens.len {w : World} {A : Option Addr} {n : Nat} {l : List En} (h : Ens w A n l) : l.length = n := by
  have h1 := h.1
  rw [flat_len enC 7 (fun _ => rfl)] at h1
  omega
theorem flat_at {α : Type} {f : α → List Value} {m : Nat} (hf : ∀ a, (f a).length = m) (hm : 0 < m) {w : World} {A : Option Addr} {n : Nat} {l : List α} (h : SlN w A n m (l.flatMap f)) {k : Nat} {x : α} (hx : l[k]? = some x) :
    ∃ b o, A = some ⟨b, o, none⟩ ∧ b < w.heap.size ∧ ∀ j u, (f x)[j]? = some u → w.cell? ⟨b, o + k * m + j, none⟩ = some u := by
  have g0 := flat_get f m hf l k 0 x hx hm
  obtain ⟨u0, hu0⟩ : ∃ u, (f x)[0]? = some u := ⟨_, List.getElem?_eq_getElem (by rw [hf]; exact hm)⟩
  rw [hu0] at g0
  obtain ⟨b, o, rfl, hb, _⟩ := h.2 _ _ g0
  refine ⟨b, o, rfl, hb, fun j u hu => ?_⟩
  have hj : j < m := by have := (List.getElem?_eq_some_iff.1 hu).1; rwa [hf] at this
  have g1 := flat_get f m hf l k j x hx hj
  rw [hu] at g1
  obtain ⟨b', o', e, _, h1⟩ := h.2 _ _ g1
  injection e with e
  injection e with e1 e2 _
  subst e1; subst e2
  rw [Nat.add_assoc]
  exact h1
def Cts (w : World) (A : Option Addr) (n : Nat) (l : List Ct) : Prop := SlN w A n 4 (l.flatMap ctC) ∧ ∀ x ∈ l, Ens w (x.A 2) (x.n 2) x.es
theorem Cts.ext {w w' : World} {A : Option Addr} {n : Nat} {l : List Ct} (h : Cts w A n l) (hw : Ext w w') : Cts w' A n l := ⟨SlN.ext h.1 hw, fun x hx => (h.2 x hx).ext hw⟩
theorem Cts.len {w : World} {A : Option Addr} {n : Nat} {l : List Ct} (h : Cts w A n l) : l.length = n := by
  have h1 := h.1.1
  rw [flat_len ctC 4 (fun _ => rfl)] at h1
  omega
theorem Cts.at_ {w : World} {A : Option Addr} {n : Nat} {l : List Ct} (h : Cts w A n l) {k : Nat} {x : Ct} (hx : l[k]? = some x) :
    ∃ b o, A = some ⟨b, o, none⟩ ∧ b < w.heap.size ∧ ∀ j u, (ctC x)[j]? = some u → w.cell? ⟨b, o + k * 4 + j, none⟩ = some u := flat_at (f := ctC) (m := 4) (fun _ => rfl) (by decide) h.1 hx
theorem Ens.at_ {w : World} {A : Option Addr} {n : Nat} {l : List En} (h : Ens w A n l) {k : Nat} {x : En} (hx : l[k]? = some x) :
    ∃ b o, A = some ⟨b, o, none⟩ ∧ b < w.heap.size ∧ ∀ j u, (enC x)[j]? = some u → w.cell? ⟨b, o + k * 7 + j, none⟩ = some u := flat_at (f := enC) (m := 7) (fun _ => rfl) (by decide) h hx

set_option maxRecDepth 100000 in
set_option maxHeartbeats 1000000 in
/-- A list of entries that came in. -/
theorem open_ens {H : Type} {enc : TypeId × Value → H} {W : World} {v : Value} {d : DataW H} {ps : List MemPlace} (hv : ∃ A n c, v = .slice A n c) (h : DataW.Trod enc Tryz.prog W 0 (fun _ => true) true 43 v d ps) :
    ∃ (A : Option Addr) (n c : Nat) (l : List En), v = .slice A n c ∧ Ens W A n l ∧ n ≤ maxLen := by
  obtain ⟨A, n, c, L, rfl, hn, hL, hsl, hall⟩ := open_cells (m := 7) Tryz.underlying43 (by kernel_rfl) (by decide) hv h
  have hc9 : Tryz.prog.cellsOf 9 = 1 := by kernel_rfl
  have hc3 : Tryz.prog.cellsOf 3 = 1 := by kernel_rfl
  have hcE : Tryz.prog.cellsOf 47 = 7 := by kernel_rfl
  have ha4 : Tryz.prog.cellsOf 29 = 1 := by kernel_rfl
  have ha5 : Tryz.prog.cellsOf 42 = 1 := by kernel_rfl
  have key : ∀ cs ∈ L, ∃ x : En, cs = enC x := by
    intro cs hcs
    obtain ⟨k, x, hx, _⟩ := hall cs hcs
    obtain ⟨xs, m, _, hxe, hl, hlen, hff⟩ := DataW.trod_struct Tryz.underlying47 hx
    have hl7 : cs.length = 7 := hl.trans hcE
    match cs, hl7 with
    | [c0, c1, c2, c3, c4, c5, c6], _ =>
      match xs, hlen with
      | [x0, x1, x2, x3, x4, x5, x6], _ =>
        have f0 := hff 0 _ rfl
        have f1 := hff 1 _ rfl
        have f2 := hff 2 _ rfl
        have f3 := hff 3 _ rfl
        have f4 := hff 4 _ rfl
        have f5 := hff 5 _ rfl
        have f6 := hff 6 _ rfl
        simp [hc9, hc3, ha4, ha5] at f0 f1 f2 f3 f4 f5 f6
        obtain ⟨b0, e0, _, _⟩ := DataW.trod_string Tryz.underlying9 f0
        obtain ⟨b1, e1, _, _⟩ := DataW.trod_string Tryz.underlying9 f1
        obtain ⟨b2, e2, _, _⟩ := DataW.trod_string Tryz.underlying9 f2
        obtain ⟨A0, n0, d0, q0, _, _⟩ := open_sl Tryz.underlying29 f3
        obtain ⟨A1, n1, d1, q1, _, _⟩ := open_sl Tryz.underlying29 f4
        obtain ⟨i0, r0, _, _⟩ := DataW.trod_int Tryz.underlying3 f5
        obtain ⟨A2, n2, d2, q2, _, _⟩ := open_sl Tryz.underlying42 f6
        simp at e0 e1 e2 q0 q1 q2 r0
        subst e0 e1 e2 q0 q1 q2 r0
        exact ⟨⟨b0, b1, b2, fun j => [A0, A1, A2].getD j none, fun j => [n0, n1, n2].getD j 0, fun j => [d0, d1, d2].getD j 0, i0⟩, rfl⟩
  have dec : ∃ l : List En, L = l.map enC := by
    clear hsl hL hall hn
    induction L with
    | nil => exact ⟨[], rfl⟩
    | cons cs r ih =>
      obtain ⟨l, h1⟩ := ih (fun x hx => key x (by simp [hx]))
      obtain ⟨x, hx⟩ := key cs (by simp)
      exact ⟨x :: l, by rw [hx, h1]; rfl⟩
  obtain ⟨l, hl1⟩ := dec
  refine ⟨A, n, c, l, rfl, ?_, hn⟩
  unfold Ens
  rw [List.flatMap_def, ← hl1]
  exact hsl

set_option maxRecDepth 100000 in
set_option maxHeartbeats 1000000 in
/-- A list of catalogs that came in. -/
theorem open_cts {H : Type} {enc : TypeId × Value → H} {W : World} {v : Value} {d : DataW H} {ps : List MemPlace} (hv : ∃ A n c, v = .slice A n c) (h : DataW.Trod enc Tryz.prog W 0 (fun _ => true) true 35 v d ps) :
    ∃ (A : Option Addr) (n c : Nat) (l : List Ct), v = .slice A n c ∧ Cts W A n l ∧ n ≤ maxLen ∧ ∀ x ∈ l, x.n 2 ≤ maxLen := by
  obtain ⟨A, n, c, L, rfl, hn, hL, hsl, hall⟩ := open_cells (m := 4) Tryz.underlying35 (by kernel_rfl) (by decide) hv h
  have hc9 : Tryz.prog.cellsOf 9 = 1 := by kernel_rfl
  have hcE : Tryz.prog.cellsOf 45 = 4 := by kernel_rfl
  have ha4 : Tryz.prog.cellsOf 29 = 1 := by kernel_rfl
  have ha5 : Tryz.prog.cellsOf 42 = 1 := by kernel_rfl
  have ha6 : Tryz.prog.cellsOf 43 = 1 := by kernel_rfl
  have key : ∀ cs ∈ L, ∃ x : Ct, cs = ctC x ∧ Ens W (x.A 2) (x.n 2) x.es ∧ x.n 2 ≤ maxLen := by
    intro cs hcs
    obtain ⟨k, x, hx, _⟩ := hall cs hcs
    obtain ⟨xs, m, _, hxe, hl, hlen, hff⟩ := DataW.trod_struct Tryz.underlying45 hx
    have hl4 : cs.length = 4 := hl.trans hcE
    match cs, hl4 with
    | [c0, c1, c2, c3], _ =>
      match xs, hlen with
      | [x0, x1, x2, x3], _ =>
        have f0 := hff 0 _ rfl
        have f1 := hff 1 _ rfl
        have f2 := hff 2 _ rfl
        have f3 := hff 3 _ rfl
        simp [hc9, ha4, ha5, ha6] at f0 f1 f2 f3
        obtain ⟨b0, e0, _, _⟩ := DataW.trod_string Tryz.underlying9 f0
        obtain ⟨A0, n0, d0, q0, _, _⟩ := open_sl Tryz.underlying29 f1
        obtain ⟨A1, n1, d1, q1, _, _⟩ := open_sl Tryz.underlying42 f2
        obtain ⟨A2, n2, d2, q2, _, _⟩ := open_sl Tryz.underlying43 f3
        simp at e0 q0 q1 q2
        subst e0 q0 q1 q2
        obtain ⟨A3, n3, d3, l, e1, hE, hm⟩ := open_ens ⟨A2, n2, d2, rfl⟩ (⟨m, f3⟩ : DataW.Trod enc Tryz.prog W 0 (fun _ => true) true 43 (.slice A2 n2 d2) x3.1 x3.2)
        injection e1 with e1 e2 e3
        subst e1 e2 e3
        exact ⟨⟨b0, fun j => [A0, A1, A2].getD j none, fun j => [n0, n1, n2].getD j 0, fun j => [d0, d1, d2].getD j 0, l⟩, rfl, hE, hm⟩
  have dec : ∃ l : List Ct, L = l.map ctC ∧ ∀ x ∈ l, Ens W (x.A 2) (x.n 2) x.es ∧ x.n 2 ≤ maxLen := by
    clear hsl hL hall hn
    induction L with
    | nil => exact ⟨[], rfl, by simp⟩
    | cons cs r ih =>
      obtain ⟨l, h1, h2⟩ := ih (fun x hx => key x (by simp [hx]))
      obtain ⟨x, hx, hr⟩ := key cs (by simp)
      exact ⟨x :: l, by rw [hx, h1]; rfl, by intro y hy; rcases List.mem_cons.1 hy with rfl | hy; exact hr; exact h2 y hy⟩
  obtain ⟨l, hl1, hl2⟩ := dec
  refine ⟨A, n, c, l, rfl, ⟨?_, fun x hx => (hl2 x hx).1⟩, hn, fun x hx => (hl2 x hx).2⟩
  rw [List.flatMap_def, ← hl1]
  exact hsl

set_option maxRecDepth 100000 in
/-- A string and an ID that came in. -/
theorem open_query {H : Type} {enc : TypeId × Value → H} {W : World} {base : Nat} {v : Value} {d : DataW H} {ps : List MemPlace} (hv : Value.okWide Tryz.prog W .any base 37 v) (h : DataW.Trod enc Tryz.prog W 0 (fun _ => true) true 37 v d ps) (hw : ∀ m ∈ d.weights Tryz.prog 37, m ≤ reachBytes) :
    ∃ (fb ob : ByteArray), v = .agg #[.string fb, .string ob] ∧ fb.size ≤ reachBytes ∧ ob.size ≤ reachBytes := by
  obtain ⟨cs, rfl, hsz⟩ := okWide_struct Tryz.underlying37 hv
  obtain ⟨fuel, hf⟩ := h
  obtain ⟨y0, y1, m, hxe, hlen, h4, h5⟩ := trod_struct2 Tryz.underlying37 hf
  have hc9 : Tryz.prog.cellsOf 9 = 1 := by kernel_rfl
  have hc34 : Tryz.prog.cellsOf 37 = 2 := by kernel_rfl
  have hc : cs.size = 2 := by rw [hsz]; exact hc34
  injection hxe with hd _
  subst hd
  obtain ⟨l⟩ := cs
  match l, hc with
  | [c0, c1], _ =>
    simp [Value.cells, hc9] at h4 h5
    obtain ⟨x, e4, z4, _⟩ := DataW.trod_string Tryz.underlying9 h4
    obtain ⟨y, e5, z5, _⟩ := DataW.trod_string Tryz.underlying9 h5
    simp at e4 e5
    subst e4; subst e5
    simp only [DataW.weights, Tryz.underlying37, z4, z5] at hw
    simp [DataW.weightsEach, DataW.weights] at hw
    exact ⟨x, y, rfl, hw.1, hw.2⟩
end Go.Proofs.YtehcldnicefmeaaGreatDoor
