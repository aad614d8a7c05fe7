import Derived.Test.YtljdlkonlnjadaaGreatDoorYn
import Derived.Test.YtljdlkonlnjadaaGreatDoorNZ7
import Derived.Test.YtljdlkonlnjadaaGreatDoorNZ8
import Derived.Test.YtljdlkonlnjadaaGreatDoorNZ6
set_option maxRecDepth 100000
set_option linter.unusedSimpArgs false
set_option linter.unusedVariables false
namespace Go.Proofs.YtljdlkonlnjadaaGreatDoor
open Go.RowKit
theorem yfold_len2 {α κ : Type} [DecidableEq κ] {key : α → κ} {lt : κ → κ → Bool} : ∀ (L q : List α), (L.foldl (fun o x => yIns key lt x o) q).length ≤ q.length + L.length
 | [], q => by simp
 | x :: L, q => by
   rw [List.foldl_cons, List.length_cons]
   have h1 := yfold_len2 (key := key) (lt := lt) L (yIns key lt x q)
   have h2 := yIns_len (key := key) (lt := lt) q x
   omega
theorem mrg_len {q m : Nat} {L : List (List El)} (h : ∀ x ∈ L, x.length ≤ m) : (mrgE q L).length ≤ L.length * m := by
 rw [mrg_flat]
 have h1 := yfold_len2 (key := kyE q) (lt := ltK) L.flatten []
 have h2 := flat_bound L h
 unfold yMrg
 simp only [List.length_nil, Nat.zero_add] at h1
 omega
theorem or_len {α : Type} {m : Nat} {L : List (List α)} (h : ∀ x ∈ L, x.length ≤ m) : (orF L).length ≤ m := by
 have key : ∀ (L : List (List α)) (o : List α), o.length ≤ m → (∀ x ∈ L, x.length ≤ m) → (L.foldl (fun o x => if o.length = 0 then x else o) o).length ≤ m := by
  intro L
  induction L with
  | nil => intro o ho _; exact ho
  | cons x L ih =>
    intro o ho hL
    rw [List.foldl_cons]
    refine ih _ ?_ fun y hy => hL y (List.mem_cons_of_mem _ hy)
    split
    ·exact hL x (List.mem_cons_self ..)
    ·exact ho
 exact key L [] (Nat.zero_le _) h
theorem effP_len {X : List Ef} (hn : X.length ≤ 12) (h : ∀ z ∈ X, ∀ j, j < 5 → (z.e j).length ≤ 120) : ∀ j, j < 5 → ((effP X).e j).length ≤ 1000000 := by
 intro j hj
 have hm : ∀ j, j < 5 → ∀ x ∈ X.map (·.e j), x.length ≤ 120 := fun j hj x hx => by
  obtain ⟨z, hz, rfl⟩ := List.mem_map.1 hx
  exact h z hz j hj
 have hl : ∀ j, (X.map (·.e j)).length = X.length := fun j => List.length_map ..
 have a0 := mrg_len (q := 1) (hm 0 (by decide))
 have a1 := mrg_len (q := 2) (hm 1 (by decide))
 have a2 := mrg_len (q := 1) (hm 2 (by decide))
 have a3 := or_len (hm j hj)
 rw [hl] at a0 a1 a2
 unfold effP
 simp only
 split
 ·omega
 ·split
  ·omega
  ·split
   ·omega
   ·omega
theorem effX_len {l : List Lk} {w : World} {T : List LocP} {al : List Ali} {s : BytesC} (hlk : ∀ y ∈ l, LkM (fun _ => True) w y) (hsec : ∀ y ∈ l, ∀ j, j < 7 → y.x.n j ≤ 120) (hT : T.length = l.length) (hl : l.length ≤ 12) :
 ∀ j, j < 5 → ((effP (effX l T al s)).e j).length ≤ 1000000 := by
 have hle := locs_len (T := T) (al := al) (s := s)
 refine effP_len (by unfold effX; rw [List.length_map]; omega) fun z hz j hj => ?_
 unfold effX at hz
 obtain ⟨i, hi, rfl⟩ := List.mem_map.1 hz
 have hlt := locs_lt i hi
 have hil : i < l.length := by omega
 rw [List.getD_eq_getElem?_getD, List.getElem?_eq_getElem hil]
 show ((l[i]).e j).length ≤ 120
 have hm := List.getElem_mem hil
 have h1 := ((hlk _ hm).2.2 j hj).len (by unfold wdE; split <;> (try split) <;> (try split) <;> omega)
 rw [h1]
 exact hsec _ hm (j + 2) (by omega)
theorem ef_short {z : Lk} {X : List Ef} {er : Int} (h0 : er ≠ 0 → z = lk0) (h1 : er = 0 → lkP z = effP X) (hX : ∀ j, j < 5 → ((effP X).e j).length ≤ 1000000) : ∀ j, j < 5 → (z.e j).length ≤ 1000000 := fun j hj => by
 by_cases he : er = 0
 ·have h := h1 he
  have h2 := hX j hj
  rw [← h] at h2
  exact h2
 ·rw [h0 he]
  exact Nat.zero_le _
end Go.Proofs.YtljdlkonlnjadaaGreatDoor
namespace Go.Proofs.YtljdlkonlnjadaaGreatDoor
open Go.ChangeShapes Go.WideShapes Go.ChangeAt Go.RowKit
section
variable {H : Type} {enc : TypeId × Value → H}
theorem decode_R {α : Type} (f : α → List Value) (R : α → Prop) {L : List (List Value)} (h : ∀ cs ∈ L, ∃ x, cs = f x ∧ R x) : ∃ l : List α, L = l.map f ∧ ∀ z ∈ l, R z := by
 induction L with
 | nil => exact ⟨[], rfl, by simp⟩
 | cons cs r ih =>
   obtain ⟨l, h1, h2⟩ := ih (fun x hx => h x (by simp [hx]))
   obtain ⟨x, hx, hr⟩ := h cs (by simp)
   exact ⟨x :: l, by rw [hx, h1]; rfl, fun y hy => by rcases List.mem_cons.1 hy with rfl | hy; exact hr; exact h2 y hy⟩
theorem open_lay {P : Program} {α : Type} (f : α → List Value) (R : α → Prop) {t e : TypeId} {m : Nat} {W : World} (ht : P.underlying t = some (.slice e)) (hm : P.cellsOf e = m) (hm0 : 0 < m)
 (key : ∀ (k : Nat) (cs : List Value) (x : DataW H × List MemPlace), DataW.trod enc P W 0 (fun _ => true) true k e cs = some x → (∀ q ∈ x.1.weights P e, q ≤ reachBytes) → ∃ z, cs = f z ∧ R z)
 {k : Nat} {cs : List Value} {x : DataW H × List MemPlace} (h : DataW.trod enc P W 0 (fun _ => true) true k t cs = some x) (hw : ∀ q ∈ x.1.weights P t, q ≤ reachBytes) :
 ∃ A n c, ∃ l : List α, cs = [.slice A n c] ∧ SlN W A n m (l.flatMap f) ∧ (∀ z ∈ l, R z) ∧ n * P.bytesOf e ≤ reachBytes := by
 obtain ⟨A, n, c, rfl, _, h2⟩ := open_sl ht h
 obtain ⟨A', n', c', L, e1, _, _, hsl, hall⟩ := open_cells (m := m) ht hm hm0 ⟨A, n, c, rfl⟩ (⟨k, h⟩ : DataW.Trod enc P W 0 (fun _ => true) true t (.slice A n c) x.1 x.2)
 injection e1 with e1 e2 e3
 subst e1 e2 e3
 obtain ⟨l, hl1, hl2⟩ := decode_R f R (L := L) (fun cs hcs => by
  obtain ⟨k, x, hx, hwx⟩ := hall cs hcs
  exact key k cs x hx fun q hq => hw q (hwx q hq))
 refine ⟨A, n, c, l, rfl, ?_, hl2, h2 hw⟩
 rw [List.flatMap_def, ← hl1]
 exact hsl
theorem el_of {w : World} {m : Nat} {A : Option Addr} {n : Nat} {l : List El} (h : SlN w A n m (l.flatMap elC)) (hr : ∀ z ∈ l, z.length = m ∧ ∀ s ∈ z, s.size ≤ maxLen) : ElM m w A n l := ⟨h, fun z hz => (hr z hz).1, fun z hz => (hr z hz).2⟩
theorem slo_of {w : World} {m : Nat} {A : Option Addr} {n : Nat} {xs : List Value} (h : SlN w A n m xs) : SlO (fun _ => True) w A n m xs := ⟨h, fun _ _ _ => trivial⟩
theorem key_lp {W : World} {k : Nat} {cs : List Value} {x : DataW H × List MemPlace} (h : DataW.trod enc Tryz.prog W 0 (fun _ => true) true k 71 cs = some x) : ∃ z : El, cs = elC z ∧ z.length = 5 ∧ ∀ s ∈ z, s.size ≤ maxLen := by
 have hc9 : Tryz.prog.cellsOf 9 = 1 := by kernel_rfl
 obtain ⟨xs, m, _, hxe, hl, hlen, hff⟩ := DataW.trod_struct Tryz.underlying71 h
 have hl2 : cs.length = 5 := hl.trans (by kernel_rfl)
 match cs, hl2 with
 | [c0, c1, c2, c3, c4], _ =>
   match xs, hlen with
   | [x0, x1, x2, x3, x4], _ =>
     have f0 := hff 0 _ rfl
     have f1 := hff 1 _ rfl
     have f2 := hff 2 _ rfl
     have f3 := hff 3 _ rfl
     have f4 := hff 4 _ rfl
     simp [hc9] at f0 f1 f2 f3 f4
     obtain ⟨b0, e0, _, g0⟩ := DataW.trod_string Tryz.underlying9 f0
     obtain ⟨b1, e1, _, g1⟩ := DataW.trod_string Tryz.underlying9 f1
     obtain ⟨b2, e2, _, g2⟩ := DataW.trod_string Tryz.underlying9 f2
     obtain ⟨b3, e3, _, g3⟩ := DataW.trod_string Tryz.underlying9 f3
     obtain ⟨b4, e4, _, g4⟩ := DataW.trod_string Tryz.underlying9 f4
     simp at e0 e1 e2 e3 e4
     subst e0 e1 e2 e3 e4
     exact ⟨[b0, b1, b2, b3, b4], rfl, rfl, by simp [g0, g1, g2, g3, g4]⟩
theorem key_up {W : World} {k : Nat} {cs : List Value} {x : DataW H × List MemPlace} (h : DataW.trod enc Tryz.prog W 0 (fun _ => true) true k 48 cs = some x) : ∃ z : El, cs = elC z ∧ z.length = 3 ∧ ∀ s ∈ z, s.size ≤ maxLen := by
 have hc9 : Tryz.prog.cellsOf 9 = 1 := by kernel_rfl
 obtain ⟨xs, m, _, hxe, hl, hlen, hff⟩ := DataW.trod_struct Tryz.underlying48 h
 have hl2 : cs.length = 3 := hl.trans (by kernel_rfl)
 match cs, hl2 with
 | [c0, c1, c2], _ =>
   match xs, hlen with
   | [x0, x1, x2], _ =>
     have f0 := hff 0 _ rfl
     have f1 := hff 1 _ rfl
     have f2 := hff 2 _ rfl
     simp [hc9] at f0 f1 f2
     obtain ⟨b0, e0, _, g0⟩ := DataW.trod_string Tryz.underlying9 f0
     obtain ⟨b1, e1, _, g1⟩ := DataW.trod_string Tryz.underlying9 f1
     obtain ⟨b2, e2, _, g2⟩ := DataW.trod_string Tryz.underlying9 f2
     simp at e0 e1 e2
     subst e0 e1 e2
     exact ⟨[b0, b1, b2], rfl, rfl, by simp [g0, g1, g2]⟩
theorem key_dp {W : World} {k : Nat} {cs : List Value} {x : DataW H × List MemPlace} (h : DataW.trod enc Tryz.prog W 0 (fun _ => true) true k 87 cs = some x) : ∃ z : El, cs = elC z ∧ z.length = 2 ∧ ∀ s ∈ z, s.size ≤ maxLen := by
 have hc9 : Tryz.prog.cellsOf 9 = 1 := by kernel_rfl
 obtain ⟨xs, m, _, hxe, hl, hlen, hff⟩ := DataW.trod_struct Tryz.underlying87 h
 have hl2 : cs.length = 2 := hl.trans (by kernel_rfl)
 match cs, hl2 with
 | [c0, c1], _ =>
   match xs, hlen with
   | [x0, x1], _ =>
     have f0 := hff 0 _ rfl
     have f1 := hff 1 _ rfl
     simp [hc9] at f0 f1
     obtain ⟨b0, e0, _, g0⟩ := DataW.trod_string Tryz.underlying9 f0
     obtain ⟨b1, e1, _, g1⟩ := DataW.trod_string Tryz.underlying9 f1
     simp at e0 e1
     subst e0 e1
     exact ⟨[b0, b1], rfl, rfl, by simp [g0, g1]⟩
theorem key_st {W : World} {k : Nat} {cs : List Value} {x : DataW H × List MemPlace} (h : DataW.trod enc Tryz.prog W 0 (fun _ => true) true k 9 cs = some x) : ∃ z : El, cs = elC z ∧ z.length = 1 ∧ ∀ s ∈ z, s.size ≤ maxLen := by
 obtain ⟨b, e, _, g⟩ := DataW.trod_string Tryz.underlying9 h
 exact ⟨[b], e, rfl, by simp [g]⟩
theorem key_span {W : World} {k : Nat} {cs : List Value} {x : DataW H × List MemPlace} (h : DataW.trod enc Tryz.prog W 0 (fun _ => true) true k 119 cs = some x) : ∃ z : Int × Int, cs = spC z ∧ True := by
 have hc3 : Tryz.prog.cellsOf 3 = 1 := by kernel_rfl
 obtain ⟨xs, m, _, hxe, hl, hlen, hff⟩ := DataW.trod_struct Tryz.underlying119 h
 have hl2 : cs.length = 2 := hl.trans (by kernel_rfl)
 match cs, hl2 with
 | [c0, c1], _ =>
   match xs, hlen with
   | [x0, x1], _ =>
     have f0 := hff 0 _ rfl
     have f1 := hff 1 _ rfl
     simp [hc3] at f0 f1
     obtain ⟨b0, e0, _, _⟩ := DataW.trod_int Tryz.underlying3 f0
     obtain ⟨b1, e1, _, _⟩ := DataW.trod_int Tryz.underlying3 f1
     simp at e0 e1
     subst e0 e1
     exact ⟨(b0, b1), rfl, trivial⟩
theorem key_rl {W : World} {k : Nat} {cs : List Value} {x : DataW H × List MemPlace} (h : DataW.trod enc Tryz.prog W 0 (fun _ => true) true k 116 cs = some x) (hw : ∀ q ∈ x.1.weights Tryz.prog 116, q ≤ reachBytes) : ∃ z : Rl, cs = rlC z ∧ RlM (fun _ => True) W z := by
 have hc3 : Tryz.prog.cellsOf 3 = 1 := by kernel_rfl
 have hc4 : Tryz.prog.cellsOf 4 = 1 := by kernel_rfl
 have hc5 : Tryz.prog.cellsOf 114 = 1 := by kernel_rfl
 obtain ⟨xs, m, _, hxe, hl, hlen, hff⟩ := DataW.trod_struct Tryz.underlying116 h
 have hl2 : cs.length = 4 := hl.trans (by kernel_rfl)
 match cs, hl2 with
 | [c0, c1, c2, c3], _ =>
   match xs, hlen with
   | [x0, x1, x2, x3], _ =>
     have f0 := hff 0 _ rfl
     have f1 := hff 1 _ rfl
     have f2 := hff 2 _ rfl
     have f3 := hff 3 _ rfl
     simp [hc3, hc4, hc5] at f0 f1 f2 f3
     have hd : x.1 = .agg [x0.1, x1.1, x2.1, x3.1] := by rw [hxe]; rfl
     have hw2 : ∀ q, q ∈ DataW.weightsEach Tryz.prog [3, 3, 4, 114] [x0.1, x1.1, x2.1, x3.1] → q ≤ reachBytes := fun q hq => hw q (by
      rw [hd]
      simp only [DataW.weights, Tryz.underlying116]
      exact hq)
     obtain ⟨b0, e0, _, _⟩ := DataW.trod_int Tryz.underlying3 f0
     obtain ⟨b1, e1, _, _⟩ := DataW.trod_int Tryz.underlying3 f1
     obtain ⟨b2, e2, _⟩ := DataW.trod_bool Tryz.underlying4 f2
     obtain ⟨A, n, c, l, e3, hs, _, hb⟩ := open_lay spC (fun _ => True) Tryz.underlying114 (show Tryz.prog.cellsOf 119 = 2 from by kernel_rfl) (by decide) (fun k cs x hx _ => key_span hx) f3 (fun q hq => hw2 q (weightsEach_at (i := 3) rfl rfl _ hq))
     simp at e0 e1 e2 e3
     subst e0 e1 e2 e3
     rw [show Tryz.prog.bytesOf 119 = 16 from by kernel_rfl] at hb
     exact ⟨⟨b0, b1, b2, A, n, c, l⟩, rfl, slo_of hs, Nat.le_trans hb (by decide)⟩
theorem key_cj {W : World} {k : Nat} {cs : List Value} {x : DataW H × List MemPlace} (h : DataW.trod enc Tryz.prog W 0 (fun _ => true) true k 112 cs = some x) (hw : ∀ q ∈ x.1.weights Tryz.prog 112, q ≤ reachBytes) : ∃ z : Cj, cs = cjC z ∧ CjM (fun _ => True) W z := by
 obtain ⟨A, n, c, l, e, hs, hr, hb⟩ := open_lay rlC (RlM (fun _ => True) W) Tryz.underlying112 (show Tryz.prog.cellsOf 116 = 4 from by kernel_rfl) (by decide) (fun k cs x hx hwx => key_rl hx hwx) h hw
 rw [show Tryz.prog.bytesOf 116 = 48 from by kernel_rfl] at hb
 exact ⟨⟨A, n, c, l⟩, e, ⟨slo_of hs, Nat.le_trans hb (by decide)⟩, hr⟩
theorem key_ru {W : World} {k : Nat} {cs : List Value} {x : DataW H × List MemPlace} (h : DataW.trod enc Tryz.prog W 0 (fun _ => true) true k 61 cs = some x) (hw : ∀ q ∈ x.1.weights Tryz.prog 61, q ≤ reachBytes) : ∃ z : Ru, cs = ruC z ∧ RuM (fun _ => True) W z := by
 have hc9 : Tryz.prog.cellsOf 9 = 1 := by kernel_rfl
 have hc5 : Tryz.prog.cellsOf 59 = 1 := by kernel_rfl
 obtain ⟨xs, m, _, hxe, hl, hlen, hff⟩ := DataW.trod_struct Tryz.underlying61 h
 have hl2 : cs.length = 2 := hl.trans (by kernel_rfl)
 match cs, hl2 with
 | [c0, c1], _ =>
   match xs, hlen with
   | [x0, x1], _ =>
     have f0 := hff 0 _ rfl
     have f1 := hff 1 _ rfl
     simp [hc9, hc5] at f0 f1
     have hd : x.1 = .agg [x0.1, x1.1] := by rw [hxe]; rfl
     have hw2 : ∀ q, q ∈ DataW.weightsEach Tryz.prog [9, 59] [x0.1, x1.1] → q ≤ reachBytes := fun q hq => hw q (by
      rw [hd]
      simp only [DataW.weights, Tryz.underlying61]
      exact hq)
     obtain ⟨b0, e0, _, _⟩ := DataW.trod_string Tryz.underlying9 f0
     obtain ⟨A, n, c, l, e1, hs, hr, hb⟩ := open_lay cjC (CjM (fun _ => True) W) Tryz.underlying59 (show Tryz.prog.cellsOf 112 = 1 from by kernel_rfl) (by decide) (fun k cs x hx hwx => key_cj hx hwx) f1 (fun q hq => hw2 q (weightsEach_at (i := 1) rfl rfl _ hq))
     simp at e0 e1
     subst e0 e1
     rw [show Tryz.prog.bytesOf 112 = 24 from by kernel_rfl] at hb
     exact ⟨⟨b0, A, n, c, l⟩, rfl, ⟨slo_of hs, Nat.le_trans hb (by decide)⟩, hr⟩
theorem open_rus {W : World} {k : Nat} {cs : List Value} {x : DataW H × List MemPlace} (h : DataW.trod enc Tryz.prog W 0 (fun _ => true) true k 29 cs = some x) (hw : ∀ q ∈ x.1.weights Tryz.prog 29, q ≤ reachBytes) : ∃ A n c l, cs = [.slice A n c] ∧ RusM (fun _ => True) W A n l ∧ n * Tryz.prog.bytesOf 61 ≤ reachBytes := by
 obtain ⟨A, n, c, l, e, hs, hr, hb⟩ := open_lay ruC (RuM (fun _ => True) W) Tryz.underlying29 (show Tryz.prog.cellsOf 61 = 2 from by kernel_rfl) (by decide) (fun k cs x hx hwx => key_ru hx hwx) h hw
 refine ⟨A, n, c, l, e, ⟨⟨slo_of hs, ?_⟩, hr⟩, hb⟩
 rw [show Tryz.prog.bytesOf 61 = 40 from by kernel_rfl] at hb
 exact Nat.le_trans hb (by decide)
theorem open_els5 {W : World} {k : Nat} {cs : List Value} {x : DataW H × List MemPlace} (h : DataW.trod enc Tryz.prog W 0 (fun _ => true) true k 32 cs = some x) (hw : ∀ q ∈ x.1.weights Tryz.prog 32, q ≤ reachBytes) : ∃ A n c l, cs = [.slice A n c] ∧ ElM 5 W A n l ∧ n * Tryz.prog.bytesOf 71 ≤ reachBytes := by
 obtain ⟨A, n, c, l, e, hs, hr, hb⟩ := open_lay elC (fun z => z.length = 5 ∧ ∀ s ∈ z, s.size ≤ maxLen) Tryz.underlying32 (show Tryz.prog.cellsOf 71 = 5 from by kernel_rfl) (by decide) (fun k cs x hx _ => key_lp hx) h hw
 exact ⟨A, n, c, l, e, el_of hs hr, hb⟩
theorem open_els3 {W : World} {k : Nat} {cs : List Value} {x : DataW H × List MemPlace} (h : DataW.trod enc Tryz.prog W 0 (fun _ => true) true k 33 cs = some x) (hw : ∀ q ∈ x.1.weights Tryz.prog 33, q ≤ reachBytes) : ∃ A n c l, cs = [.slice A n c] ∧ ElM 3 W A n l ∧ n * Tryz.prog.bytesOf 48 ≤ reachBytes := by
 obtain ⟨A, n, c, l, e, hs, hr, hb⟩ := open_lay elC (fun z => z.length = 3 ∧ ∀ s ∈ z, s.size ≤ maxLen) Tryz.underlying33 (show Tryz.prog.cellsOf 48 = 3 from by kernel_rfl) (by decide) (fun k cs x hx _ => key_up hx) h hw
 exact ⟨A, n, c, l, e, el_of hs hr, hb⟩
theorem open_els2 {W : World} {k : Nat} {cs : List Value} {x : DataW H × List MemPlace} (h : DataW.trod enc Tryz.prog W 0 (fun _ => true) true k 34 cs = some x) (hw : ∀ q ∈ x.1.weights Tryz.prog 34, q ≤ reachBytes) : ∃ A n c l, cs = [.slice A n c] ∧ ElM 2 W A n l ∧ n * Tryz.prog.bytesOf 87 ≤ reachBytes := by
 obtain ⟨A, n, c, l, e, hs, hr, hb⟩ := open_lay elC (fun z => z.length = 2 ∧ ∀ s ∈ z, s.size ≤ maxLen) Tryz.underlying34 (show Tryz.prog.cellsOf 87 = 2 from by kernel_rfl) (by decide) (fun k cs x hx _ => key_dp hx) h hw
 exact ⟨A, n, c, l, e, el_of hs hr, hb⟩
theorem open_els1 {W : World} {k : Nat} {cs : List Value} {x : DataW H × List MemPlace} (h : DataW.trod enc Tryz.prog W 0 (fun _ => true) true k 35 cs = some x) (hw : ∀ q ∈ x.1.weights Tryz.prog 35, q ≤ reachBytes) : ∃ A n c l, cs = [.slice A n c] ∧ ElM 1 W A n l ∧ n * Tryz.prog.bytesOf 9 ≤ reachBytes := by
 obtain ⟨A, n, c, l, e, hs, hr, hb⟩ := open_lay elC (fun z => z.length = 1 ∧ ∀ s ∈ z, s.size ≤ maxLen) Tryz.underlying35 (show Tryz.prog.cellsOf 9 = 1 from by kernel_rfl) (by decide) (fun k cs x hx _ => key_st hx) h hw
 exact ⟨A, n, c, l, e, el_of hs hr, hb⟩
end
set_option maxHeartbeats 1000000 in
theorem open_lks {H : Type} {enc : TypeId × Value → H} {W : World} {v : Value} {d : DataW H} {ps : List MemPlace} (hv : ∃ A n c, v = .slice A n c) (h : DataW.Trod enc Tryz.prog W 0 (fun _ => true) true 22 v d ps) (hw : ∀ m ∈ d.weights Tryz.prog 22, m ≤ reachBytes) :
 ∃ (A : Option Addr) (n c : Nat) (l : List Lk), v = .slice A n c ∧ Lcs W A n (l.map (·.x)) ∧ n ≤ maxLen ∧ (∀ x ∈ l.map (·.x), lcOK x) ∧ ∀ y ∈ l, LkM (fun _ => True) W y := by
 obtain ⟨A, n, c, L, rfl, hn, hL, hsl, hall⟩ := open_cells (m := 16) Tryz.underlying22 (by kernel_rfl) (by decide) hv h
 have hc9 : Tryz.prog.cellsOf 9 = 1 := by kernel_rfl
 have hc3 : Tryz.prog.cellsOf 3 = 1 := by kernel_rfl
 have hcL : Tryz.prog.cellsOf 37 = 16 := by kernel_rfl
 have hcS : Tryz.prog.cellsOf 31 = 6 := by kernel_rfl
 have ha0 : Tryz.prog.cellsOf 29 = 1 := by kernel_rfl
 have ha1 : Tryz.prog.cellsOf 32 = 1 := by kernel_rfl
 have ha2 : Tryz.prog.cellsOf 33 = 1 := by kernel_rfl
 have ha3 : Tryz.prog.cellsOf 34 = 1 := by kernel_rfl
 have ha4 : Tryz.prog.cellsOf 35 = 1 := by kernel_rfl
 have hb0 : 1 ≤ Tryz.prog.bytesOf 61 := by rw [show Tryz.prog.bytesOf 61 = 40 from by kernel_rfl]; decide
 have hb1 : 1 ≤ Tryz.prog.bytesOf 71 := by rw [show Tryz.prog.bytesOf 71 = 80 from by kernel_rfl]; decide
 have hb2 : 1 ≤ Tryz.prog.bytesOf 48 := by rw [show Tryz.prog.bytesOf 48 = 48 from by kernel_rfl]; decide
 have hb3 : 1 ≤ Tryz.prog.bytesOf 87 := by rw [show Tryz.prog.bytesOf 87 = 32 from by kernel_rfl]; decide
 have hb4 : 1 ≤ Tryz.prog.bytesOf 9 := by rw [show Tryz.prog.bytesOf 9 = 16 from by kernel_rfl]; decide
 have le_of : ∀ {n b : Nat}, 1 ≤ b → n * b ≤ reachBytes → n ≤ reachBytes := fun h1 h2 => Nat.le_trans (Nat.le_mul_of_pos_right _ h1) h2
 have key : ∀ cs ∈ L, ∃ y : Lk, cs = lcC y.x ∧ lcOK y.x ∧ LkM (fun _ => True) W y := by
  intro cs hcs
  obtain ⟨k, x, hx, hwx⟩ := hall cs hcs
  obtain ⟨xs, m, _, hxe, hl, hlen, hff⟩ := DataW.trod_struct Tryz.underlying37 hx
  have hl16 : cs.length = 16 := hl.trans hcL
  match cs, hl16 with
  | [c0, c1, c2, c3, c4, c5, c6, c7, c8, c9, c10, c11, c12, c13, c14, c15], _ =>
    match xs, hlen with
    | [x0, x1, x2, x3, x4, x5, x6, x7, x8, x9, x10], _ =>
      have f0 := hff 0 _ rfl
      have f1 := hff 1 _ rfl
      have f2 := hff 2 _ rfl
      have f3 := hff 3 _ rfl
      have f4 := hff 4 _ rfl
      have f5 := hff 5 _ rfl
      have f6 := hff 6 _ rfl
      have f7 := hff 7 _ rfl
      have f8 := hff 8 _ rfl
      have f9 := hff 9 _ rfl
      have f10 := hff 10 _ rfl
      simp [hc9, hc3, hcS, ha0, ha1, ha2, ha3, ha4] at f0 f1 f2 f3 f4 f5 f6 f7 f8 f9 f10
      obtain ⟨b0, e0, z0, _⟩ := DataW.trod_string Tryz.underlying9 f0
      obtain ⟨b1, e1, z1, _⟩ := DataW.trod_string Tryz.underlying9 f1
      obtain ⟨b2, e2, z2, _⟩ := DataW.trod_string Tryz.underlying9 f2
      have hd : x.1 = .agg [x0.1, x1.1, x2.1, x3.1, x4.1, x5.1, x6.1, x7.1, x8.1, x9.1, x10.1] := by rw [hxe]; rfl
      have hwx2 : ∀ q, q ∈ DataW.weightsEach Tryz.prog [9, 9, 9, 29, 29, 31, 32, 33, 34, 35, 35] [x0.1, x1.1, x2.1, x3.1, x4.1, x5.1, x6.1, x7.1, x8.1, x9.1, x10.1] → q ≤ reachBytes := fun q hq => hw q (hwx q (by
       rw [hd]
       simp only [DataW.weights, Tryz.underlying37]
       exact hq))
      obtain ⟨A0, n0, d0, l0, q0, hM0, w0⟩ := open_rus f3 (fun q hq => hwx2 q (weightsEach_at (i := 3) rfl rfl _ hq))
      obtain ⟨A1, n1, d1, l1, q1, hM1, w1⟩ := open_rus f4 (fun q hq => hwx2 q (weightsEach_at (i := 4) rfl rfl _ hq))
      obtain ⟨A2, n2, d2, l2, q2, hM2, w2⟩ := open_els5 f6 (fun q hq => hwx2 q (weightsEach_at (i := 6) rfl rfl _ hq))
      obtain ⟨A3, n3, d3, l3, q3, hM3, w3⟩ := open_els3 f7 (fun q hq => hwx2 q (weightsEach_at (i := 7) rfl rfl _ hq))
      obtain ⟨A4, n4, d4, l4, q4, hM4, w4⟩ := open_els2 f8 (fun q hq => hwx2 q (weightsEach_at (i := 8) rfl rfl _ hq))
      obtain ⟨A5, n5, d5, l5, q5, hM5, w5⟩ := open_els1 f9 (fun q hq => hwx2 q (weightsEach_at (i := 9) rfl rfl _ hq))
      obtain ⟨A6, n6, d6, l6, q6, hM6, w6⟩ := open_els1 f10 (fun q hq => hwx2 q (weightsEach_at (i := 10) rfl rfl _ hq))
      obtain ⟨ys, m2, _, _, hl2, hlen2, hgg⟩ := DataW.trod_struct Tryz.underlying31 f5
      match ys, hlen2 with
      | [y0, y1, y2, y3, y4, y5], _ =>
        have g0 := hgg 0 _ rfl
        have g1 := hgg 1 _ rfl
        have g2 := hgg 2 _ rfl
        have g3 := hgg 3 _ rfl
        have g4 := hgg 4 _ rfl
        have g5 := hgg 5 _ rfl
        simp [hc9, hc3] at g0 g1 g2 g3 g4 g5
        obtain ⟨s0, r0, _, _⟩ := DataW.trod_string Tryz.underlying9 g0
        obtain ⟨s1, r1, _, _⟩ := DataW.trod_string Tryz.underlying9 g1
        obtain ⟨s2, r2, _, _⟩ := DataW.trod_string Tryz.underlying9 g2
        obtain ⟨s3, r3, _, _⟩ := DataW.trod_string Tryz.underlying9 g3
        obtain ⟨i0, r4, _, _⟩ := DataW.trod_int Tryz.underlying3 g4
        obtain ⟨i1, r5, _, _⟩ := DataW.trod_int Tryz.underlying3 g5
        simp at e0 e1 e2 q0 q1 q2 q3 q4 q5 q6 r0 r1 r2 r3 r4 r5
        subst e0 e1 e2 q0 q1 q2 q3 q4 q5 q6 r0 r1 r2 r3 r4 r5
        refine ⟨⟨⟨b0, b1, b2, fun j => [A0, A1, A2, A3, A4, A5, A6].getD j none, fun j => [n0, n1, n2, n3, n4, n5, n6].getD j 0, fun j => [d0, d1, d2, d3, d4, d5, d6].getD j 0, fun j => [s0, s1, s2, s3].getD j ByteArray.empty, fun j => [i0, i1].getD j 0⟩, fun j => if j = 0 then l0 else l1, fun j => if j = 0 then l2 else if j = 1 then l3 else if j = 2 then l4 else if j = 3 then l5 else l6⟩, rfl, ⟨?_, ?_, ?_⟩, ⟨hM0, hM1, fun j hj => ?_⟩⟩
        ·have h1 := hwx2 b0.data.toList.length (weightsEach_at (i := 0) rfl rfl _ (by rw [z0]; simp [DataW.weights]))
         exact h1
        ·have h1 := hwx2 b1.data.toList.length (weightsEach_at (i := 1) rfl rfl _ (by rw [z1]; simp [DataW.weights]))
         exact h1
        ·have v0 := le_of hb0 w0
         have v1 := le_of hb0 w1
         have v2 := le_of hb1 w2
         have v3 := le_of hb2 w3
         have v4 := le_of hb3 w4
         have v5 := le_of hb4 w5
         have v6 := le_of hb4 w6
         intro j hj
         match j, hj with
         | 0, _ => exact v0
         | 1, _ => exact v1
         | 2, _ => exact v2
         | 3, _ => exact v3
         | 4, _ => exact v4
         | 5, _ => exact v5
         | 6, _ => exact v6
        ·match j, hj with
         | 0, _ => exact hM2
         | 1, _ => exact hM3
         | 2, _ => exact hM4
         | 3, _ => exact hM5
         | 4, _ => exact hM6
 obtain ⟨l, hl1, hl2⟩ := decode_R (fun y : Lk => lcC y.x) (fun y => lcOK y.x ∧ LkM (fun _ => True) W y) (L := L) key
 refine ⟨A, n, c, l, rfl, ?_, hn, fun x hx => by obtain ⟨y, hy, rfl⟩ := List.mem_map.1 hx; exact (hl2 y hy).1, fun y hy => (hl2 y hy).2⟩
 unfold Lcs
 rw [List.flatMap_def, List.map_map]
 rw [show L.flatten = (l.map (lcC ∘ (·.x))).flatten from by rw [hl1]; rfl] at hsl
 exact hsl
set_option maxHeartbeats 1000000 in
theorem open_tableK {H : Type} {enc : TypeId × Value → H} {W : World} {base : Nat} {v : Value} {d : DataW H} {ps : List MemPlace} (hv : Value.okWide Tryz.prog W .any base 26 v) (h : DataW.Trod enc Tryz.prog W 0 (fun _ => true) true 26 v d ps) (hw : ∀ m ∈ d.weights Tryz.prog 26, m ≤ reachBytes) :
 ∃ (L A N : Option Addr) (ln lc n c m k : Nat) (l : List Lk) (al : List Ali) (nl : List Nr), v = .agg #[.slice L ln lc, .slice A n c, .slice N m k] ∧ Lcs W L ln (l.map (·.x)) ∧ ln ≤ maxLen ∧ (∀ x ∈ l.map (·.x), lcOK x) ∧ (∀ y ∈ l, LkM (fun _ => True) W y) ∧
   Als W A n al ∧ n ≤ maxLen ∧ (∀ a ∈ al, a.1.size ≤ reachBytes ∧ a.2.size ≤ reachBytes) ∧ Nrs W N m nl ∧ m ≤ maxLen ∧ (∀ a ∈ nl, a.f.size ≤ reachBytes ∧ a.o.size ≤ reachBytes) := by
 obtain ⟨cs, rfl, hsz⟩ := okWide_struct Tryz.underlying26 hv
 obtain ⟨fuel, hf⟩ := h
 obtain ⟨xs, m, _, hxe, hl, hlen, hff⟩ := DataW.trod_struct Tryz.underlying26 hf
 have h0 : Tryz.prog.cellsOf 22 = 1 := by kernel_rfl
 have h1 : Tryz.prog.cellsOf 23 = 1 := by kernel_rfl
 have h2 : Tryz.prog.cellsOf 24 = 1 := by kernel_rfl
 have h3 : Tryz.prog.cellsOf 26 = 3 := by kernel_rfl
 have hc : cs.size = 3 := by rw [hsz]; exact h3
 injection hxe with hd _
 subst hd
 obtain ⟨l⟩ := cs
 match l, hc with
 | [c0, c1, c2], _ =>
   match xs, hlen with
   | [x0, x1, x2], _ =>
     have f0 := hff 0 _ rfl
     have f1 := hff 1 _ rfl
     have f2 := hff 2 _ rfl
     simp [Value.cells, h0, h1, h2] at f0 f1 f2
     have hw2 : ∀ q, q ∈ DataW.weightsEach Tryz.prog [22, 23, 24] [x0.1, x1.1, x2.1] → q ≤ reachBytes := fun q hq => hw q (by
      simp only [DataW.weights, Tryz.underlying26]
      exact hq)
     obtain ⟨A0, n0, d0, q0, _, _⟩ := open_sl Tryz.underlying22 f0
     obtain ⟨A1, n1, d1, q1, _, _⟩ := open_sl Tryz.underlying23 f1
     obtain ⟨A2, n2, d2, q2, _, _⟩ := open_sl Tryz.underlying24 f2
     simp at q0 q1 q2
     subst q0 q1 q2
     obtain ⟨L, ln, lc, l, e1, hL, hln, hok, hlk⟩ := open_lks ⟨A0, n0, d0, rfl⟩ (⟨m, f0⟩ : DataW.Trod enc Tryz.prog W 0 (fun _ => true) true 22 (.slice A0 n0 d0) x0.1 x0.2) (fun q hq => hw2 q (weightsEach_at (i := 0) rfl rfl _ hq))
     injection e1 with e1 e2 e3
     subst e1 e2 e3
     have hT1 : DataW.Trod enc Tryz.prog W 0 (fun _ => true) true 23 (.slice A1 n1 d1) x1.1 x1.2 := ⟨m, f1⟩
     obtain ⟨A, n, c, al, e1, hA, hn, _⟩ := open_als Tryz.underlying23 Tryz.underlying103 Tryz.underlying9 rfl rfl rfl rfl (by kernel_rfl) (by kernel_rfl) ⟨A1, n1, d1, rfl⟩ hT1
     injection e1 with e1 e2 e3
     subst e1 e2 e3
     have hz := als_sized Tryz.underlying23 Tryz.underlying103 Tryz.underlying9 rfl rfl rfl rfl (by kernel_rfl) (by kernel_rfl) hT1 hA (fun q hq => hw2 q (weightsEach_at (i := 1) rfl rfl _ hq))
     obtain ⟨N, m2, k, nl, e1, hN, hm2, hzn⟩ := open_nrs2 ⟨A2, n2, d2, rfl⟩ (⟨m, f2⟩ : DataW.Trod enc Tryz.prog W 0 (fun _ => true) true 24 (.slice A2 n2 d2) x2.1 x2.2) (fun q hq => hw2 q (weightsEach_at (i := 2) rfl rfl _ hq))
     injection e1 with e1 e2 e3
     subst e1 e2 e3
     exact ⟨_, _, _, _, _, _, _, _, _, l, al, nl, rfl, hL, hln, hok, hlk, hA, hn, hz, hN, hm2, fun a ha => ⟨(hzn a ha).1, (hzn a ha).2.1⟩⟩
end Go.Proofs.YtljdlkonlnjadaaGreatDoor
