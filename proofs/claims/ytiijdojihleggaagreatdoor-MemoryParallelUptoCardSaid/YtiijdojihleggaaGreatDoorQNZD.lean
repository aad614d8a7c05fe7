import Derived.Test.YtiijdojihleggaaGreatDoorQNZC
set_option maxRecDepth 100000
set_option linter.unusedSimpArgs false
set_option linter.unusedVariables false
open Go.Lib (hid)
namespace Go.Proofs.YtiijdojihleggaaGreatDoor
open Go.RowKit
def BWz (b : Bool) (W : World) (v : Value) (wx : World) : Prop := v = .bool b ∧ W = wx
def limB (s t : ByteArray) (n : Nat) : Bool := decide (longB s = true ∨ 4000 < t.size ∨ 2000 ≤ n)
theorem lim_spec (s t : ByteArray) (n : Nat) : limB s t n = (decide (4000 < s.size) || decide (4000 < t.size) || decide (400 < (wsB s).length) || decide (2000 ≤ n)) := by
 unfold limB longB
 rw [Bool.eq_iff_iff]
 simp
 omega
theorem add_lim {m : List SgP} {s t : ByteArray} (h : limB s t m.length = true) : addM m s t = (m, 6) := by
 unfold limB at h
 unfold addM
 rw [if_pos (of_decide_eq_true h)]
theorem add_dup {m : List SgP} {s t : ByteArray} (h : limB s t m.length = false) (h2 : (s, t) ∈ m) : addM m s t = (m, 9) := by
 unfold limB at h
 unfold addM
 rw [if_neg (of_decide_eq_false h), if_pos (List.any_eq_true.2 ⟨_, h2, by simp⟩)]
theorem add_new {m : List SgP} {s t : ByteArray} (h : limB s t m.length = false) (h2 : (s, t) ∉ m) : addM m s t = (m ++ [(s, t)], 0) := by
 unfold limB at h
 unfold addM
 rw [if_neg (of_decide_eq_false h), if_neg]
 intro h3
 obtain ⟨x, hx, e⟩ := List.any_eq_true.1 h3
 have e := of_decide_eq_true e
 exact h2 (by rw [show (s, t) = x from by rw [← e.1, ← e.2]]; exact hx)
theorem exc_step {T S : Nat → Prop} {a b c : World} (h : Exc T a b) (k : Exc S b c) (hS : ∀ x, S x → T x ∨ a.heap.size ≤ x) : Exc T a c :=
 ⟨k.os.trans h.os, k.tape.trans h.tape, k.output.trans h.output, Nat.le_trans h.size k.size, fun i hi hs => (k.block i (Nat.lt_of_lt_of_le hi h.size) (fun s => by rcases hS i s with e | e; exact hs e; omega)).trans (h.block i hi hs)⟩
theorem own_ltH {w : World} {B : Nat} {e : TypeId} {size : Nat} {v : Value} {n : Nat} {xs : List Value} (h : w.ownsRow B e size v n xs) {b : Nat} (hb : v.ownBlock = some b) : b < w.heap.size := by
 obtain ⟨cur, hc⟩ := own_blk h hb
 exact (Array.getElem?_eq_some_iff.1 hc).1
theorem own_neT {w : World} {B B2 : Nat} {e e2 : TypeId} {size s2 : Nat} {v v2 : Value} {n n2 : Nat} {xs x2 : List Value} (h : w.ownsRow B e size v n xs) (h2 : w.ownsRow B2 e2 s2 v2 n2 x2) (he : e ≠ e2) : ∀ b, v.ownBlock = some b → v2.ownBlock ≠ some b := by
 intro b hb hb2
 obtain ⟨c1, h3⟩ := own_blk h hb
 obtain ⟨c2, h4⟩ := own_blk h2 hb2
 rw [h3] at h4
 injection h4 with h4
 injection h4 with _ h4
 exact he h4
theorem own_neA {w : World} {B : Nat} {e T : TypeId} {size g : Nat} {v : Value} {n : Nat} {xs : List Value} {cs : Array Value} (h : w.ownsRow B e size v n xs) (h2 : AtC T w g cs) (he : e ≠ T) : ∀ b, v.ownBlock = some b → b ≠ g := by
 intro b hb hb2
 subst hb2
 obtain ⟨c1, h3⟩ := own_blk h hb
 unfold AtC at h2
 rw [h3] at h2
 injection h2 with h4
 injection h4 with _ h4
 exact he h4
theorem own_neM {w : World} {B : Nat} {e k : TypeId} {size mb N : Nat} {v : Value} {n : Nat} {xs : List Value} {P : Program} {f : ByteArray → Value} (h : w.ownsRow B e size v n xs) (h2 : MapV P k w mb N f) : ∀ b, v.ownBlock = some b → b ≠ mb := by
 intro b hb hb2
 subst hb2
 obtain ⟨c1, h3⟩ := own_blk h hb
 obtain ⟨es, cl, h4⟩ := h2.isMap
 rw [h3] at h4
 cases h4
theorem at_neM {w : World} {T k : TypeId} {g mb N : Nat} {cs : Array Value} {P : Program} {f : ByteArray → Value} (h : AtC T w g cs) (h2 : MapV P k w mb N f) : g ≠ mb := by
 rintro rfl
 obtain ⟨es, cl, h4⟩ := h2.isMap
 unfold AtC at h
 rw [h] at h4
 cases h4
theorem key_put {U : Nat → Prop} {w w' : World} {gm mb N i0 n : Nat} {v v' : Value} {cs : Array Value} {xs : List Value} {f : ByteArray → Value} {g : ByteArray → List Nat} {kx : ByteArray} (hA : AtC 81 w gm cs) (hm : MapV Tryz.prog 9 w mb N f) (hG : GrpW U w N f g)
 (hv : w.ownsRow 0 83 3 v n xs) (ho : w'.ownsRow 0 3 1 v' (g kx ++ [i0]).length ((g kx ++ [i0]).map iV)) (hw : v'.ownBlock = (f kx).ownBlock ∨ ∀ b, v'.ownBlock = some b → w.heap.size ≤ b)
 (hE : Exc (fun b => b = mb ∨ (f kx).ownBlock = some b) w w') :
 AtC 81 w' gm cs ∧ w'.ownsRow 0 83 3 v n xs ∧ GrpW (fun b => U b ∨ (w.heap.size ≤ b ∧ b < w'.heap.size)) w' (N + 1) (fun x => if x = kx then v' else f x) (fun x => if x = kx then g kx ++ [i0] else g x) := by
 have hk := hG.own kx
 refine ⟨hA.exc hE (fun h => ?_), own_of hv (fun b hb => hE.block b (own_ltH hv hb) (fun h => ?_)), ?_⟩
 ·rcases h with h | h
  ·exact at_neM hA hm h
  ·exact own_neA hk hA (by decide) gm h rfl
 ·rcases h with h | h
  ·exact own_neM hv hm b hb h
  ·exact own_neT hk hv (by decide) b h hb
 ·refine ⟨fun k => ?_, fun k => ?_, fun k j hkj => ?_, fun k b hb => ?_⟩
  ·by_cases e : k = kx
   ·subst e; simpa using ho
   ·simp only [if_neg e]
    refine own_of (hG.own k) fun b hb => hE.block b (own_ltH (hG.own k) hb) (fun h => ?_)
    rcases h with h | h
    ·exact own_neM (hG.own k) hm b hb h
    ·rcases hG.ne k kx e with h2 | h2
     ·rw [h2] at hb; cases hb
     ·exact h2 (hb.trans h.symm)
  ·by_cases e : k = kx
   ·simp only [if_pos e, List.length_append, List.length_singleton]; have := hG.len kx; omega
   ·simp only [if_neg e]; have := hG.len k; omega
  ·by_cases e : k = kx
   ·simp only [if_pos e]
    rw [if_neg (fun e2 => hkj (e.trans e2.symm))]
    cases hvo : v'.ownBlock with
    | none => exact .inl rfl
    | some b =>
      refine .inr fun h2 => ?_
      rcases hw with h | h
      ·rw [hvo] at h
       rcases hG.ne kx j (fun q => hkj (e.trans q)) with h3 | h3
       ·rw [h3] at h; cases h
       ·exact h3 (h.symm.trans h2)
      ·have h4 := h b hvo
       have := own_ltH (hG.own j) h2.symm
       omega
   ·simp only [if_neg e]
    by_cases e2 : j = kx
    ·simp only [if_pos e2]
     cases hfo : (f k).ownBlock with
     | none => exact .inl rfl
     | some b =>
       refine .inr fun h2 => ?_
       rcases hw with h | h
       ·rcases hG.ne k kx e with h3 | h3
        ·rw [h3] at hfo; cases hfo
        ·exact h3 (by rw [hfo, h2, h])
       ·have h4 := h b h2.symm
        have := own_ltH (hG.own k) hfo
        omega
    ·simp only [if_neg e2]
     exact hG.ne k j hkj
  ·by_cases e : k = kx
   ·simp only [if_pos e] at hb
    rcases hw with h | h
    ·exact .inl (hG.blk kx b (h.symm.trans hb))
    ·exact .inr ⟨h b hb, own_ltH ho hb⟩
   ·simp only [if_neg e] at hb
    exact .inl (hG.blk k b hb)
def KeyI (T : Nat → Prop) (w2 : World) (gm mb N0 i0 n : Nat) (v : Value) (xs : List Value) (G0 : ByteArray → List Nat) (K : List ByteArray) (i : Value) (wr : World) : Prop :=
 ∃ (j : Nat) (f : ByteArray → Value) (g : ByteArray → List Nat), j ≤ K.length ∧ i = .int .i64 j ∧ AtC 81 wr gm #[v, .map (some mb)] ∧ MapV Tryz.prog 9 wr mb (N0 + j) f ∧
   GrpW (fun b => T b ∨ (w2.heap.size ≤ b ∧ b < wr.heap.size)) wr (N0 + j) f g ∧ wr.ownsRow 0 83 3 v n xs ∧ (∀ k x, x ∈ g k ↔ x ∈ G0 k ∨ (x = i0 ∧ k ∈ K.take j)) ∧ Exc T w2 wr
theorem GrpW.sub {T U : Nat → Prop} {w : World} {N : Nat} {f : ByteArray → Value} {g : ByteArray → List Nat} (h : GrpW T w N f g) (hT : ∀ b, T b → U b) : GrpW U w N f g := ⟨h.own, h.len, h.ne, fun k b hb => hT b (h.blk k b hb)⟩
def DupI (w1 : World) (L : List (SgP × Value)) (s t : ByteArray) (i : Value) (wr : World) : Prop := ∃ j : Nat, j ≤ L.length ∧ i = .int .i64 j ∧ Ext w1 wr ∧ ∀ p ∈ L.take j, p.1 ≠ (s, t)
def RetAdd (T : Nat → Prop) (w : World) (gm : Nat) (r : List SgP × Int) (e : Ending) (w' : World) : Prop := ∃ T', e = .returned (.int .i64 r.2) ∧ MemT T' w' gm r.1 ∧ (∀ b, T' b → T b ∨ w.heap.size ≤ b) ∧ Exc T w w'
theorem sg_at {w : World} {A : Option Addr} {L : List (SgP × Value)} (h : SlN w A L.length 3 (L.flatMap sgC)) {j : Nat} {p : SgP × Value} (hp : L[j]? = some p) :
 ∃ b o, A = some ⟨b, o, none⟩ ∧ b < w.heap.size ∧ w.cell? ⟨b, o + j * 3, none⟩ = some (.string p.1.1) ∧ w.cell? ⟨b, o + j * 3 + 1, none⟩ = some (.string p.1.2) ∧ w.cell? ⟨b, o + j * 3 + 2, none⟩ = some p.2 := by
 have g0 := flat_get sgC 3 (fun _ => rfl) L j 0 p hp (by omega)
 have g1 := flat_get sgC 3 (fun _ => rfl) L j 1 p hp (by omega)
 have g2 := flat_get sgC 3 (fun _ => rfl) L j 2 p hp (by omega)
 obtain ⟨b, o, rfl, hb, h0⟩ := h.2 _ _ g0
 obtain ⟨b', o', e, _, h1⟩ := h.2 _ _ g1
 obtain ⟨b2, o2, e2, _, h2⟩ := h.2 _ _ g2
 injection e with e
 injection e with e1 e3 _
 injection e2 with e2
 injection e2 with e4 e5 _
 subst e1 e3 e4 e5
 exact ⟨b, o, rfl, hb, h0, by rw [Nat.add_assoc]; exact h1, by rw [Nat.add_assoc]; exact h2⟩
theorem wrd_len : ∀ (l : List UInt8), ∀ x ∈ D6.wordsOf l, x.length ≤ l.length := by
 intro l
 induction l with
 | nil => intro x hx; simp [D6.wordsOf] at hx
 | cons c r ih =>
   intro x hx
   rw [D6.words_cons] at hx
   rw [List.length_cons]
   have key : ∀ y, y ∈ D6.wordsOf r → y.length ≤ r.length + 1 := fun y hy => by have := ih y hy; omega
   generalize (D6.isPt c && _) = b at hx
   generalize D6.wordsOf r = ws at hx ih key
   by_cases h1 : D6.isSp c = true
   ·rw [if_pos h1] at hx; exact key x hx
   ·rw [if_neg h1] at hx
    cases b with
    | false =>
      rw [if_neg (by decide)] at hx
      rcases List.mem_cons.1 hx with rfl | hx
      ·simp
      ·exact key x hx
    | true =>
      rw [if_pos rfl] at hx
      cases ws with
      | nil => simp at hx; subst hx; simp
      | cons y ys =>
        simp at hx
        rcases hx with rfl | hx
        ·have := ih y (by simp); simp; omega
        ·have := ih x (by simp [hx]); omega
theorem ws_size {s k : ByteArray} {n : Nat} (hk : k ∈ wsB s) (hs : s.size ≤ n) : k.size ≤ n := by
 unfold wsB at hk
 obtain ⟨x, hx, rfl⟩ := List.mem_map.1 hk
 have := wrd_len _ x hx
 rw [size_list] at this
 show x.toArray.size ≤ n
 simp
 omega
theorem seg_keep {wp wx w9 : World} {gm n : Nat} {v : Value} {xs : List Value} {cs : Array Value} (hx : Ext wp wx) (hg : wx.grownBy w9 v.ownBlock) (ha : AtC 81 wp gm cs) (ho : wp.ownsRow 0 83 3 v n xs) : AtC 81 w9 gm cs :=
 (hg.block gm (Nat.lt_of_lt_of_le ha.lt (Ext.size hx)) (fun e => own_neA ho ha (by decide) gm e.symm rfl)).trans (ha.ext hx)
theorem GrpW.up {T : Nat → Prop} {w : World} {N M : Nat} {f : ByteArray → Value} {g : ByteArray → List Nat} (h : GrpW T w N f g) (hM : N ≤ M) : GrpW T w M f g := ⟨h.own, fun k => Nat.le_trans (h.len k) hM, h.ne, h.blk⟩
theorem exc_grown {wp wx w9 : World} {v : Value} (hx : Ext wp wx) (hg : wx.grownBy w9 v.ownBlock) : Exc (fun b => v.ownBlock = some b) wp w9 := (Exc.of_ext hx).trans (by
 rcases hv : v.ownBlock with _ | r
 ·rw [hv] at hg
  exact ⟨hg.os, hg.tape, hg.output, hg.size, fun k hk _ => hg.block k hk (by simp)⟩
 ·rw [hv] at hg
  exact Exc.grown hg rfl)
theorem add_end {T : Nat → Prop} {w w2 wp wx w9 : World} {gm mb n1 c1 c9 : Nat} {m : List SgP} {s t : ByteArray} {L : List (SgP × Value)} {v : Value} {A1 A9 : Option Addr} {f2 : ByteArray → Value} {g g2 : ByteArray → List Nat} {K : List ByteArray}
 (hlim : limB s t m.length = false) (hnew : (s, t) ∉ m) (hml : m.length = L.length) (hL : L.map (·.1) = m) (hwd : ∀ p ∈ L, WdV T w p) (hgm : T gm) (hmb : T mb) (hvT : ∀ b, v.ownBlock = some b → T b) (hlt : ∀ b, T b → b < w.heap.size)
 (hx2 : Ext w w2) (hE : Exc T w2 wp) (hxx : Ext wp wx) (hg9 : wx.grownBy w9 v.ownBlock) (ha : AtC 81 wp gm #[v, .map (some mb)]) (hm : MapV Tryz.prog 9 wp mb (402 * m.length + K.length) f2)
 (hG : GrpW (fun b => T b ∨ (w2.heap.size ≤ b ∧ b < wp.heap.size)) wp (402 * m.length + K.length) f2 g2) (hv : wp.ownsRow 0 83 3 v L.length (L.flatMap sgC))
 (hg2 : ∀ k x, x ∈ g2 k ↔ x ∈ g k ∨ (x = L.length ∧ k ∈ K)) (hgM : GrpM m g) (hK : K = keysL (wsB s)) (hKl : K.length ≤ 401)
 (hs : Sl w2 A1 n1 ((wsB s).map .string)) (hb1 : ∀ ad, A1 = some ad → w.heap.size ≤ ad.block ∧ ad.block < w2.heap.size)
 (ho9 : w9.ownsRow 0 83 3 (.slice A9 (L.length + 1) c9) (L.length + 1) (L.flatMap sgC ++ [.string s, .string t, .slice A1 n1 c1])) (hl9 : (Value.slice A9 (L.length + 1) c9).ownBlock = v.ownBlock ∨ ∀ b, (Value.slice A9 (L.length + 1) c9).ownBlock = some b → wx.heap.size ≤ b) :
 RetAdd T w gm (addM m s t) (.returned (.int .i64 0)) (w9.setCell ⟨gm, 0, none⟩ (.slice A9 (L.length + 1) c9)) := by
 have e9 : Exc (fun b => v.ownBlock = some b) wp w9 := exc_grown hxx hg9
 have eS : Exc (fun b => b = gm) w9 (w9.setCell ⟨gm, 0, none⟩ (.slice A9 (L.length + 1) c9)) := Exc.setCell (S := fun b => b = gm) (p := ⟨gm, 0, none⟩) rfl _
 have a9 := seg_keep hxx hg9 ha hv
 generalize hW : w9.setCell ⟨gm, 0, none⟩ (.slice A9 (L.length + 1) c9) = W at eS ⊢
 have z1 := Ext.size hx2
 have z2 := hE.size
 have z3 := e9.size
 have z4 := eS.size
 have eT : Exc T w2 W := (exc_step (exc_step hE e9 (fun b hb => .inl (hvT b hb))) eS (fun b hb => .inl (by rw [hb]; exact hgm)))
 rw [add_new hlim hnew]
 have word : ∀ (A : Option Addr) (n : Nat) (xs : List Value), Sl w2 A n xs → (∀ ad, A = some ad → ¬ T ad.block) → Sl W A n xs := fun A n xs h1 h2 => h1.exc eT h2
 refine ⟨fun b => T b ∨ (w2.heap.size ≤ b ∧ b < W.heap.size), rfl, ⟨⟨.slice A9 (L.length + 1) c9, mb, f2, g2, L ++ [((s, t), .slice A1 n1 c1)], ?_, by simp [hL], ?_, ?_, ?_, ?_, ?_, .inl hmb, ?_⟩, .inl hgm, ?_⟩, ?_, ?_⟩
 ·rw [← hW]
  exact heap_setCell_same w9 gm 0 _ _ _ a9
 ·rw [List.length_append, List.flatMap_append]
  refine own_of (w := w9) (by simpa [sgC] using ho9) fun b hb => eS.block b (own_ltH ho9 hb) (fun e => own_neA ho9 a9 (by decide) b hb e)
 ·intro p hp
  rcases List.mem_append.1 hp with hp | hp
  ·obtain ⟨A, n, c, h1, h2, h3⟩ := hwd p hp
   refine ⟨A, n, c, h1, word A n _ (h2.ext hx2) (fun ad had => (h3 ad had).2), fun ad had => ?_⟩
   obtain ⟨h4, h5⟩ := h3 ad had
   exact ⟨by omega, fun h => by rcases h with h | h; exact h5 h; omega⟩
  ·rw [List.mem_singleton.1 hp]
   have hnT : ∀ ad, A1 = some ad → ¬ T ad.block := fun ad had hT => by have := hlt _ hT; have := (hb1 ad had).1; omega
   refine ⟨A1, n1, c1, rfl, word A1 n1 _ hs hnT, fun ad had => ?_⟩
   have h4 := hb1 ad had
   exact ⟨by omega, fun h => by rcases h with h | h; exact hnT ad had h; omega⟩
 ·have h1 : 402 * m.length + K.length ≤ 402 * (m ++ [(s, t)]).length := by simp; omega
  refine ((hm.of (w' := W) ?_).mono h1)
  exact (eS.block mb (Nat.lt_of_lt_of_le hm.lt z3) (fun e => at_neM ha hm e.symm)).trans (e9.block mb hm.lt (fun e => own_neM hv hm mb e rfl))
 ·have h1 : 402 * m.length + K.length ≤ 402 * (m ++ [(s, t)]).length := by simp; omega
  refine ((hG.of (w' := W) fun k b hb => ?_).sub fun b hb => ?_).up h1
  ·have hk := hG.own k
   have hbl := own_ltH hk hb
   exact (eS.block b (Nat.lt_of_lt_of_le hbl z3) (fun e => own_neA hk ha (by decide) b hb e)).trans (e9.block b hbl (fun e => own_neT hk hv (by decide) b hb e))
  ·rcases hb with hb | hb
   ·exact .inl hb
   ·exact .inr ⟨hb.1, by omega⟩
 ·refine grp_add hgM fun k i => ?_
  rw [hg2, hK, keys_mem, hml]
 ·intro b hb
  rcases hl9 with h | h
  ·exact .inl (hvT b (h.symm.trans hb))
  ·have h1 := h b hb
   have h2 := own_ltH ho9 hb
   have := Ext.size hxx
   exact .inr ⟨by omega, by omega⟩
 ·intro b hb
  rcases hb with hb | hb
  ·have := hlt b hb; omega
  ·exact hb.2
 ·intro b hb
  rcases hb with hb | hb
  ·exact .inl hb
  ·exact .inr (by omega)
 ·exact (Exc.of_ext hx2).trans eT
set_option maxHeartbeats 4000000 in
theorem tAdd_any {T : Nat → Prop} {w : World} {gm : Nat} {m : List SgP} (s t : ByteArray) (h : MemT T w gm m) (hs : s.size ≤ 1048576) (ht : t.size ≤ maxLen) :
 Calls Tryz.prog 27 #[.pointer (some ⟨gm, 0, none⟩), .string s, .string t] w (RetAdd T w gm (addM m s t)) := by
 obtain ⟨i0, hi, hz0, hz1, hz2⟩ := info_parts (show (Tryz.prog.info? 83).map (fun i => (i.zero, i.size, i.bytes)) = some (some (.agg #[.string ⟨#[]⟩, .string ⟨#[]⟩, .slice none 0 0]), 3, 56) from by kernel_rfl)
 have HM := hid h
 obtain ⟨⟨v, mb, f, g, L, h1, h2, h3, h4, h5, h6, h7, h8, h9⟩, hmi, hlt⟩ := h
 obtain ⟨A, c, rfl, hsl⟩ := own_slN h3
 obtain ⟨R, hR⟩ : ∃ R, R = addM m s t := ⟨_, rfl⟩
 rw [← hR]
 have hml : m.length = L.length := by rw [← h2, List.length_map]
 have H1 := hid h1
 have H2 := hid h2
 have H3 := hid h3
 have H4 := hid h4
 have H5 := hid h5
 have H6 := hid h6
 have H7 := hid h7
 have H8 := hid h8
 have H9 := hid h9
 have HMI := hid hmi
 have HLT := hid hlt
 have HSL := hid hsl
 have HR := hid hR
 have HML := hid hml
 have HT := hid ht
 clear h1 h2 h3 h4 h5 h6 h7 h8 h9 hmi hlt hsl hR hml ht
 go_enter Tryz.func27, Tryz.ntmps27
 go_upto_region 4 with (go_at_call 31; refine (D6.words_any s _ hs).mono ?_; rintro e w1 ⟨A1, n1, c1, rfl, hs1, hx1, hb1⟩; have HS1 := hid hs1; have HX1 := hid hx1; have HB1 := hid hb1; clear hs1 hx1 hb1)
 have HN1 := hid (show n1 = (wsB s).length from by have := HS1.out.1; unfold wsB; rw [List.length_map] at this ⊢; exact this.symm)
 have c0 : w1.cell? ⟨gm, 0, none⟩ = some (.slice A L.length c) := (H1.out.ext HX1.out).cell 0 _ rfl
 obtain ⟨lim, hlim⟩ : ∃ b, b = limB s t m.length := ⟨_, rfl⟩
 have HLS := hid (show lim = (decide (4000 < s.size) || decide (4000 < t.size) || decide (400 < n1) || decide (2000 ≤ L.length)) from by rw [hlim, lim_spec, HN1.out, HML.out])
 have HLIM := hid hlim
 clear hlim
 go_cut [36] (BWz lim w1)
 case first =>
  as_aux_lemma =>
  go_wp2_with fail
  all_goals
   go_meet
   exact ⟨by rw [HLS.out]; first | (congr 1; rw [Bool.eq_iff_iff]; simp; omega), rfl⟩
 case rest =>
 obtain ⟨rfl, rfl⟩ := hcut
 cases lim
 rotate_left
 ·go_wp2
  go_ret
  refine ⟨T, ?_, ?_, fun b hb => .inl hb, Exc.of_ext HX1.out⟩
  ·rw [HR.out, add_lim HLIM.out.symm]; rfl
  ·rw [HR.out, add_lim HLIM.out.symm]; exact HM.out.ext HX1.out
 have hL2 : L.length < 2000 := by
  have h1 := HLIM.out
  unfold limB at h1
  have h2 := of_decide_eq_false h1.symm
  rw [HML.out] at h2
  omega
 have HD0 := hid (show DupI w1 L s t (.int .i64 0) w1 from ⟨0, Nat.zero_le _, rfl, Ext.refl _, fun p hp => by simp at hp⟩)
 clear HLS c0
 have c0 : w1.cell? ⟨gm, 0, none⟩ = some (.slice A L.length c) := (H1.out.ext HX1.out).cell 0 _ rfl
 go_wp2_with fail
 go_loopw [42] (DupI w1 L s t) (fun i _ => L.length - (intOf i).toNat)
 case atStart => exact HD0.out
 case round =>
  obtain ⟨j, hj, rfl, hx2, hno⟩ := hrel
  obtain ⟨wo, rfl⟩ : ∃ wo : World, wo = wr := ⟨_, rfl⟩
  have HX2 := hid hx2
  have HNO := hid hno
  clear hx2 hno c0
  by_cases hlt : j < L.length
  ·as_aux_lemma =>
   obtain ⟨b, o, rfl, hb, c0, c1_, c2⟩ := sg_at (HSL.out.ext (HX1.out.trans HX2.out)) (List.getElem?_eq_getElem hlt)
   obtain ⟨p, hp⟩ : ∃ p, p = L[j] := ⟨_, rfl⟩
   rw [← hp] at c0 c1_ c2
   obtain ⟨⟨x, y⟩, u⟩ := p
   obtain ⟨A2, n2, k2, hu, _⟩ := H4.out L[j] (List.getElem_mem hlt)
   rw [← hp] at hu
   simp only at hu c0 c1_ c2
   subst hu
   have HP := hid hp
   clear hp
   by_cases hx : x = s
   ·subst hx
    by_cases hy : y = t
    ·subst hy
     go_wp2
     go_ret
     have hmem : (x, y) ∈ m := by rw [← H2.out]; exact List.mem_map.2 ⟨L[j], List.getElem_mem hlt, by rw [← HP.out]⟩
     refine ⟨T, ?_, ?_, fun b hb => .inl hb, (Exc.of_ext (HX1.out.trans HX2.out)).trans (Exc.of_ext ((Ext.refl _).alloc _))⟩
     ·rw [HR.out, add_dup HLIM.out.symm hmem]; rfl
     ·rw [HR.out, add_dup HLIM.out.symm hmem]; exact HM.out.ext ((HX1.out.trans HX2.out).alloc _)
    ·have hyb := bytes_ne hy
     have HY := hid hy
     clear hy
     go_wp2
     refine ⟨⟨j + 1, by omega, by go_num, HX2.out.alloc _, fun q hq => ?_⟩, by simp [intOf]; omega⟩
     rw [take_next (List.getElem?_eq_getElem hlt)] at hq
     rcases List.mem_append.1 hq with hq | hq
     ·exact HNO.out q hq
     ·rw [List.mem_singleton.1 hq, ← HP.out]
      exact fun e => HY.out (by injection e)
   ·have hxb := bytes_ne hx
    have HX := hid hx
    clear hx
    go_wp2
    refine ⟨⟨j + 1, by omega, by go_num, HX2.out.alloc _, fun q hq => ?_⟩, by simp [intOf]; omega⟩
    rw [take_next (List.getElem?_eq_getElem hlt)] at hq
    rcases List.mem_append.1 hq with hq | hq
    ·exact HNO.out q hq
    ·rw [List.mem_singleton.1 hq, ← HP.out]
     exact fun e => HX.out (by injection e)
  ·have hjl : j = L.length := by omega
   subst hjl
   have HNEW := hid (show (s, t) ∉ m from fun hm => by
    rw [← H2.out] at hm
    obtain ⟨p, hp, e⟩ := List.mem_map.1 hm
    exact HNO.out p (by rw [List.take_length]; exact hp) e)
   have HXO := hid (HX1.out.trans HX2.out)
   have HK0 := hid (show Sl wo A1 n1 ((wsB s).map .string) from by have := HS1.out.ext HX2.out; unfold wsB; rw [List.map_map]; exact this)
   have hn1 : n1 ≤ 100000 := by
    have h1 := HLIM.out
    unfold limB longB at h1
    have h2 := of_decide_eq_false h1.symm
    simp at h2
    rw [HN1.out]
    omega
   have hsz : s.size ≤ 4000 := by
    have h1 := HLIM.out
    unfold limB longB at h1
    have h2 := of_decide_eq_false h1.symm
    simp at h2
    omega
   obtain ⟨K, hK⟩ : ∃ K, K = keysL (wsB s) := ⟨_, rfl⟩
   have HK := hid hK
   have KK := hid (tkeys_any (wsB s) A1 n1 c1 wo HK0.out hn1)
   rw [← hK] at KK
   have hkl : K.length ≤ 401 := by
    have h1 := HLIM.out
    unfold limB longB at h1
    have h2 := of_decide_eq_false h1.symm
    simp at h2
    have := keys_len (wsB s)
    rw [← hK] at this
    omega
   clear hK hn1
   go_wp2_with (go_at_call 51; refine KK.out.mono ?_; rintro e w2 ⟨B2, d2, rfl, hs2, hx3, hb2⟩; have HS2 := hid hs2; have HX3 := hid hx3; have HB2 := hid hb2; clear hs2 hx3 hb2)
   have hwl : ∀ k ∈ wsB s, k.size ≤ maxLen := fun k hk => ws_size hk (by unfold maxLen; omega)
   have HKS := hid (show ∀ k ∈ K, k.size ≤ maxLen from fun k hk => by
    rw [HK.out] at hk
    rcases (keys_mem _ _).1 hk with ⟨_, rfl⟩ | hk
    ·exact Nat.zero_le _
    ·exact hwl k hk)
   clear hwl
   have HXW := hid (HXO.out.trans HX3.out)
   have HKI := hid (show KeyI T w2 gm mb (402 * m.length) L.length L.length (.slice A L.length c) (L.flatMap sgC) g K (.int .i64 0) w2 from
    ⟨0, f, g, Nat.zero_le _, rfl, H1.out.ext HXW.out, H5.out.of (Below.block HXW.out mb H5.out.lt), (H6.out.of (fun k b hb => Below.block HXW.out b (HLT.out b (H6.out.blk k b hb)))).sub (fun b hb => .inl hb), own_ext H3.out HXW.out, fun k x => by simp, Exc.refl _ _⟩)
   go_loopw [60] (KeyI T w2 gm mb (402 * m.length) L.length L.length (.slice A L.length c) (L.flatMap sgC) g K) (fun i _ => K.length - (intOf i).toNat)
   case atStart => exact HKI.out
   case round =>
    obtain ⟨q, f2, g2, hq, rfl, a1, a2, a3, a4, a5, a6⟩ := hrel
    obtain ⟨wp, rfl⟩ : ∃ wp : World, wp = wr := ⟨_, rfl⟩
    by_cases hlt2 : q < K.length
    ·as_aux_lemma =>
     obtain ⟨ad, kx, rfl, hkx, ck⟩ := HS2.out.at_map hlt2
     obtain ⟨bk, ok, rfl, hbk⟩ := addr_flat HS2.out (by omega)
     rw [add_flat] at ck
     have ck2 : wp.cell? ⟨bk, ok + q, none⟩ = some (.string kx) := (Exc.cell (p := ⟨bk, ok + q, none⟩) a6 hbk (fun hT => by
      have h1 := HLT.out bk hT
      have h2 := HB2.out _ rfl
      simp at h2
      have := Ext.size HXO.out
      omega)).trans ck
     have hkm : kx ∈ K := List.mem_of_getElem? hkx
     have hks := HKS.out kx hkm
     have G1 := hid a1
     have G2 := hid a2
     have G3 := hid a3
     have G4 := hid a4
     have G5 := hid a5
     have G6 := hid a6
     have HKX := hid hkx
     have HKZ := hid hks
     clear a1 a2 a3 a4 a5 a6 hkx ck hkm hks
     go_upto_region 15 with (fail)
     have hlen := G3.out.len kx
     have hmb : m.length < 2000 := by rw [HML.out]; exact hL2
     refine areg15 (by kernel_rfl) G1.out G2.out (by unfold maxLen; omega) HKZ.out (G3.out.own kx) (by omega) ?_
     intro v' w' hm' ho' hw' hE
     obtain ⟨b1, b2, b3⟩ := key_put G1.out G2.out G3.out G4.out ho' hw' hE
     have hz1 := G6.out.size
     have hz2 := hE.size
     have B1 := hid b1
     have B2' := hid b2
     have B3 := hid (b3.sub (U := fun b => T b ∨ (w2.heap.size ≤ b ∧ b < w'.heap.size)) (fun b hb => by
      rcases hb with (hb | hb) | hb
      ·exact .inl hb
      ·exact .inr ⟨hb.1, by omega⟩
      ·exact .inr ⟨by omega, hb.2⟩))
     have BM := hid hm'
     have BE := hid (exc_step G6.out hE (fun x hx => by
      rcases hx with hx | hx
      ·rw [hx]; exact .inl H8.out
      ·rcases G3.out.blk kx x hx with h | h
       ·exact .inl h
       ·exact .inr h.1))
     have B5 := hid (show ∀ k x, x ∈ (if k = kx then g2 kx ++ [L.length] else g2 k) ↔ x ∈ g k ∨ (x = L.length ∧ k ∈ K.take (q + 1)) from fun k x => by
      rw [take_next HKX.out, List.mem_append, List.mem_singleton]
      have h5 := G5.out k x
      by_cases e : k = kx
      ·subst e
       simp only [if_true, List.mem_append, List.mem_singleton]
       rw [h5]
       constructor
       ·rintro ((h | h) | h)
        ·exact .inl h
        ·exact .inr ⟨h.1, .inl h.2⟩
        ·exact .inr ⟨h, .inr trivial⟩
       ·rintro (h | ⟨h, _⟩)
        ·exact .inl (.inl h)
        ·exact .inr h
      ·simp only [if_neg e]
       rw [h5]
       constructor
       ·rintro (h | h)
        ·exact .inl h
        ·exact .inr ⟨h.1, .inl h.2⟩
       ·rintro (h | ⟨h, h2 | h2⟩)
        ·exact .inl h
        ·exact .inr ⟨h, h2⟩
        ·exact absurd h2 e)
     clear b1 b2 b3 hm' ho' hw' hE hz1 hz2
     go_wp2
     exact ⟨⟨q + 1, (fun x => if x = kx then v' else f2 x), (fun x => if x = kx then g2 kx ++ [L.length] else g2 x), by omega, by go_num, B1.out, BM.out, by rw [← Nat.add_assoc]; exact B3.out, B2'.out, B5.out, BE.out⟩, by simp [intOf]; omega⟩
    ·have hqk : q = K.length := by omega
     subst hqk
     rw [List.take_length] at a5
     have G1 := hid a1
     have G2 := hid a2
     have G3 := hid a3
     have G4 := hid a4
     have G5 := hid a5
     have G6 := hid a6
     have c0 := G1.out.cell 0 _ rfl
     have hmb : m.length < 2000 := by rw [HML.out]; exact hL2
     clear a1 a2 a3 a4 a5 a6
     have HXa := hid (show Ext wp (wp.alloc (.cells #[.string s, .string t, .slice A1 n1 c1] 83)) from (Ext.refl _).alloc _)
     go_wp2_with (at_builtin; refine wpList_appN _ rfl _ _ 78 rfl 0 83 i0 _ 3 56 Tryz.underlying78 hi hz0 hz1 hz2 rfl (by decide) _ _ _ rfl (own_ext G4.out HXa.out) ⟨wp.heap.size, 0, none⟩ 1 1 [.string s, .string t, .slice A1 n1 c1] rfl rfl (new_cells wp #[.string s, .string t, .slice A1 n1 c1] 83) (by simp [Value.oneCell']) (by unfold maxLen; omega) (by omega) (Nat.zero_le _) ?_; intro v9 w9 hown9 hgrow9 hloc9; obtain ⟨A9, c9, rfl, hs9⟩ := own_slN hown9; have a9 := seg_keep HXa.out hgrow9 G1.out G4.out; have q9 := a9.cell 0 _ rfl; have f9 := frz_of a9 0; have HA9 := hid a9; have HO9 := hid hown9; have HG9 := hid hgrow9; have HL9 := hid hloc9; clear hown9 hgrow9 hloc9 hs9 a9)
     go_ret
     rw [HR.out]
     exact add_end HLIM.out.symm HNEW.out HML.out H2.out H4.out HMI.out H8.out H9.out HLT.out HXW.out G6.out HXa.out HG9.out G1.out G2.out G3.out G4.out G5.out H7.out HK.out hkl (HK0.out.ext HX3.out) (fun ad had => ⟨(HB1.out ad had).1, by have h1 := (HB1.out ad had).2; have h2 := Ext.size HX2.out; have h3 := Ext.size HX3.out; omega⟩) HO9.out HL9.out
end Go.Proofs.YtiijdojihleggaaGreatDoor
namespace Go.Proofs.YtiijdojihleggaaGreatDoor
open Go.RowKit
def CandM (m : List SgP) (ws : List ByteArray) (least : Int) (J : List Nat) : Prop :=
 J.Pairwise (· < ·) ∧ ∀ i, i ∈ J ↔ i < m.length ∧ (0 < least → ∃ k, KeyW (wsB (m.getD i (⟨#[]⟩, ⟨#[]⟩)).1) k ∧ KeyW ws k)
theorem cand_range {m : List SgP} {ws : List ByteArray} {least : Int} (h : ¬ 0 < least) : CandM m ws least (List.range m.length) :=
 ⟨List.pairwise_lt_range, fun i => by rw [List.mem_range]; exact ⟨fun hi => ⟨hi, fun h2 => absurd h2 h⟩, fun hi => hi.1⟩⟩
def natsI (l : List Int) : List Nat := l.map Int.toNat
theorem nats_map {l : List Int} (h : ∀ x ∈ l, 0 ≤ x) : (natsI l).map iV = l.map (Value.int .i64) := by
 unfold natsI
 rw [List.map_map]
 refine List.map_congr_left fun x hx => ?_
 have := h x hx
 show Value.int .i64 (x.toNat : Nat) = .int .i64 x
 rw [Int.toNat_of_nonneg this]
theorem cand_keys {m : List SgP} {ws K : List ByteArray} {least : Int} {g : ByteArray → List Nat} (h : 0 < least) (hg : GrpM m g) (hK : ∀ k, k ∈ K ↔ KeyW ws k) :
 CandM m ws least (natsI (Lib.compact (srtI ((K.flatMap g).map fun i : Nat => (i : Int))))) := by
 have hmem : ∀ x : Int, x ∈ Lib.compact (srtI ((K.flatMap g).map fun i : Nat => (i : Int))) ↔ ∃ i : Nat, i ∈ K.flatMap g ∧ (i : Int) = x := fun x => by rw [cmp_mem, srtI_mem, List.mem_map]
 refine ⟨?_, fun i => ?_⟩
 ·unfold natsI
  rw [List.pairwise_map]
  refine List.Pairwise.imp_of_mem ?_ (cmp_lt (srtI_sorted _))
  intro a b ha hb hab
  obtain ⟨i, _, rfl⟩ := (hmem a).1 ha
  obtain ⟨j, _, rfl⟩ := (hmem b).1 hb
  omega
 ·have h1 : i ∈ natsI (Lib.compact (srtI ((K.flatMap g).map fun i : Nat => (i : Int)))) ↔ i ∈ K.flatMap g := by
   unfold natsI
   rw [List.mem_map]
   constructor
   ·rintro ⟨x, hx, rfl⟩
    obtain ⟨j, hj, rfl⟩ := (hmem x).1 hx
    simpa using hj
   ·intro hi
    exact ⟨(i : Int), (hmem _).2 ⟨i, hi, rfl⟩, by simp⟩
  rw [h1, grp_cand hg hK]
  constructor
  ·rintro ⟨x, hx, k, h2, h3⟩
   have hi := (List.getElem?_eq_some_iff.1 hx).1
   refine ⟨hi, fun _ => ⟨k, ?_, h2⟩⟩
   rw [List.getD_eq_getElem?_getD, hx]
   exact h3
  ·rintro ⟨hi, h2⟩
   obtain ⟨k, h3, h4⟩ := h2 h
   refine ⟨m[i], List.getElem?_eq_getElem hi, k, h4, ?_⟩
   rw [List.getD_eq_getElem?_getD, List.getElem?_eq_getElem hi] at h3
   exact h3
theorem flat_le {g : ByteArray → List Nat} {N : Nat} (h : ∀ k, (g k).length ≤ N) : ∀ K : List ByteArray, (K.flatMap g).length ≤ K.length * N
 | [] => by simp
 | k :: K => by
   rw [List.flatMap_cons, List.length_append, List.length_cons, Nat.succ_mul]
   have := flat_le h K
   have := h k
   omega
def RetCand (w : World) (m : List SgP) (ws : List ByteArray) (least : Int) (e : Ending) (w' : World) : Prop :=
 ∃ B d J, e = .returned (.slice B J.length d) ∧ Sl w' B J.length (J.map iV) ∧ CandM m ws least J ∧ Ext w w'
def CaI (w : World) (N : Nat) (v i : Value) (wr : World) : Prop := ∃ j : Nat, i = .int .i64 j ∧ j ≤ N ∧ wr.ownsRow w.heap.size 3 1 v j ((List.range j).map iV) ∧ Ext w wr
def CaK (w w2 : World) (g : ByteArray → List Nat) (K : List ByteArray) (v i : Value) (wr : World) : Prop :=
 ∃ j : Nat, i = .int .i64 j ∧ j ≤ K.length ∧ wr.ownsRow w2.heap.size 3 1 v ((K.take j).flatMap g).length (((K.take j).flatMap g).map iV) ∧ Ext w2 wr
theorem iV_one (l : List Nat) : ∀ u ∈ l.map iV, u.oneCell' = true := fun u hu => by
 obtain ⟨x, _, rfl⟩ := List.mem_map.1 hu
 rfl
theorem zeroI (w : World) : (zeroValue 84).run Tryz.prog w = .ok nilV w := by kernel_rfl
set_option maxHeartbeats 4000000 in
theorem tcand_any {T : Nat → Prop} {w : World} {gm : Nat} {m : List SgP} (h : MemT T w gm m) (ws : List ByteArray) (A : Option Addr) (n c : Nat) (hs : Sl w A n (ws.map .string)) (hws : ∀ k ∈ ws, k.size ≤ maxLen) (hn : n ≤ 400) (least : Int) (hml : m.length ≤ 2000) :
 Calls Tryz.prog 32 #[.pointer (some ⟨gm, 0, none⟩), .slice A n c, .int .i64 least] w (RetCand w m ws least) := by
 obtain ⟨i0, hi, hz0, hz1, hz2⟩ := info_parts (show (Tryz.prog.info? 3).map (fun i => (i.zero, i.size, i.bytes)) = some (some (.int .i64 0), 1, 8) from by kernel_rfl)
 obtain ⟨⟨v, mb, f, g, L, h1, h2, h3, h4, h5, h6, h7, h8, h9⟩, hmi, hlt⟩ := h
 obtain ⟨A0, c0, rfl, _⟩ := own_slN h3
 have hmL : m.length = L.length := by rw [← h2, List.length_map]
 have H1 := hid h1
 have H5 := hid h5
 have H6 := hid h6
 have H7 := hid h7
 have HLT := hid hlt
 have HS := hid hs
 have HW := hid hws
 have HML := hid hmL
 have HN := hid hn
 have hLl : L.length ≤ 2000 := by omega
 have d0 := h1.cell 0 _ rfl
 have d1 := h1.cell 1 _ rfl
 clear h1 h2 h3 h4 h5 h6 h7 h8 h9 hmi hlt hs hws hmL
 by_cases hl : 0 < least
 ·have HL := hid hl
  have hl2 : ¬ least ≤ 0 := by omega
  have HKc := hid (tkeys_any ws A n c w HS.out (by omega))
  obtain ⟨K, hK⟩ : ∃ K, K = keysL ws := ⟨_, rfl⟩
  rw [← hK] at HKc
  have HK := hid hK
  have hkl : K.length ≤ 401 := by
   have h2 := keys_len ws
   have h3 := HS.out.1
   rw [List.length_map] at h3
   rw [← hK] at h2
   omega
  have HKS := hid (show ∀ k ∈ K, k.size ≤ maxLen from fun k hk => by
   rw [HK.out] at hk
   rcases (keys_mem _ _).1 hk with ⟨_, rfl⟩ | hk
   ·exact Nat.zero_le _
   ·exact HW.out k hk)
  clear hl hK d0 hn
  go_enter Tryz.func32, Tryz.ntmps32
  go_wp2_with (go_at_call 51; refine HKc.out.mono ?_; rintro e w2 ⟨B2, d2, rfl, hs2, hx2, _⟩; have HS2 := hid hs2; have HX2 := hid hx2; clear hs2 hx2)
  have HI0 := hid (show CaK w w2 g K (.slice none 0 0) (.int .i64 0) w2 from ⟨0, rfl, Nat.zero_le _, World.ownsRow_nil _ _ _ _, Ext.refl _⟩)
  clear d1
  go_loopw [7, 30] (CaK w w2 g K) (fun _ i _ => K.length - (intOf i).toNat)
  case atStart => exact HI0.out
  case round =>
   obtain ⟨j, rfl, hj, ho, hx⟩ := hrel
   have HO := hid ho
   have HX := hid hx
   have HXX := hid (HX2.out.trans hx)
   clear ho hx
   have hfl := flat_le (g := g) (fun k => H6.out.len k) (K.take j)
   have hnm : (K.take j).length * (402 * m.length) ≤ 401 * (402 * 2000) := Nat.mul_le_mul (by rw [List.length_take]; omega) (by omega)
   by_cases hlt : j < K.length
   ·obtain ⟨kx, hkx⟩ : ∃ kx, K[j]? = some kx := ⟨_, List.getElem?_eq_getElem hlt⟩
    obtain ⟨ad, kx', rfl, hkx', ck⟩ := (HS2.out.ext HX.out).at_map hlt
    rw [hkx] at hkx'
    injection hkx' with e
    subst e
    obtain ⟨bk, ok, rfl, hbk⟩ := addr_flat HS2.out (by omega)
    rw [add_flat] at ck
    have hks := HKS.out kx (List.mem_of_getElem? hkx)
    have HM5 := hid (H5.out.of (Below.block HXX.out mb H5.out.lt))
    have hok := own_ext (H6.out.own kx) HXX.out
    obtain ⟨Ak, ck', hfk, hsk, _⟩ := own_sl hok
    have hlk := H6.out.len kx
    have d1 := (H1.out.ext HXX.out).cell 1 _ rfl
    have HKX := hid hkx
    have HFK := hid hfk
    have HSK := hid hsk
    have HKZ := hid hks
    have HZE := hid zeroI
    obtain ⟨FL, hFL⟩ : ∃ FL, FL = ((K.take j).flatMap g).length := ⟨_, rfl⟩
    obtain ⟨GL, hGL⟩ : ∃ GL, GL = (g kx).length := ⟨_, rfl⟩
    rw [← hFL] at HO hfl
    rw [← hGL] at HFK HSK hlk
    have HFL := hid hFL
    have HGL := hid hGL
    have hb1 : FL + GL ≤ 2000000000 := by omega
    clear hkx hok hfk hsk hks hfl hnm hlk hFL hGL
    go_wp2_with (first
     | (at_lookup; refine wpList_lookupV rfl _ _ 79 9 84 rfl Tryz.underlying9 Tryz.underlying79 (HZE.out _) mb (402 * m.length) f rfl HM5.out kx rfl HKZ.out ?_; rw [HFK.out])
     | (at_builtin; refine wpList_app _ rfl _ _ 84 rfl w2.heap.size 3 i0 _ 8 Tryz.underlying84 hi hz0 hz1 hz2 rfl _ _ _ rfl HO.out Ak GL ck' ((g kx).map iV) rfl HSK.out (iV_one _) (by unfold maxLen; omega) (by omega) (Ext.size HX.out) ?_; intro v7 w7 ho7 hg7; have HO7 := hid ho7; have HG7 := hid hg7; clear ho7 hg7))
    refine ⟨⟨j + 1, by go_num, hlt, ?_, HX.out.grown HG7.out (own_lt HO.out)⟩, by simp [intOf]; omega⟩
    have h7 := HO7.out
    rw [take_next HKX.out, List.flatMap_append, List.map_append, List.length_append, ← HFL.out]
    simpa [HGL.out] using h7
   ·have hjk : j = K.length := by omega
    subst hjk
    rw [List.take_length] at HO hfl
    obtain ⟨X, hX⟩ : ∃ X, X = (K.flatMap g).map fun i : Nat => (i : Int) := ⟨_, rfl⟩
    have hXl : X.length = (K.flatMap g).length := by rw [hX, List.length_map]
    have hXm : X.map (Value.int .i64) = (K.flatMap g).map iV := by rw [hX, List.map_map]; rfl
    have hXn : X.length ≤ 1073741824 := by rw [List.take_length] at hnm; omega
    obtain ⟨A5, c5, rfl, _⟩ := own_sl HO.out
    have HO5 := hid (show wr.ownsRow w2.heap.size 3 1 (.slice A5 (K.flatMap g).length c5) X.length (X.map (Value.int .i64)) from by rw [hXl, hXm]; exact HO.out)
    have hsl : (srtI X).length = X.length := (List.mergeSort_perm X _).length_eq
    have HX0 := hid hX
    have HXN := hid hXn
    have HSL := hid hsl
    obtain ⟨FL, hFL⟩ : ∃ FL, FL = (K.flatMap g).length := ⟨_, rfl⟩
    rw [← hFL] at HO5 ⊢
    have HXL := hid (show X.length = FL from by rw [hFL]; exact hXl)
    clear hX hXl hXm hXn hsl HO hfl hnm hFL
    go_wp2_with (first
     | (go_at_call 53; refine (sortI_any X A5 FL c5 w2.heap.size _ HO5.out HXN.out (Ext.size HX.out)).mono ?_; rintro e w7 ⟨rfl, ho7, hx7⟩; have HO7 := hid (show w7.ownsRow w2.heap.size 3 1 (.slice A5 FL c5) (srtI X).length ((srtI X).map (Value.int .i64)) from by rw [HSL.out]; exact ho7); have HX7 := hid (HX.out.trans_below hx7); clear ho7 hx7)
     | (go_at_call 54; refine (compI_any (srtI X) A5 FL c5 w2.heap.size _ HO7.out (by rw [HSL.out]; exact HXN.out) (Ext.size HX7.out)).mono ?_; rintro e w8 ⟨A8, c8, rfl, hs8, hx8, _⟩; have HS8 := hid hs8; have HX8 := hid (HX7.out.trans_below hx8); clear hs8 hx8))
    go_ret
    have hc := cand_keys (ws := ws) (least := least) HL.out H7.out (K := K) (fun k => by rw [HK.out]; exact keys_mem ws k)
    rw [← HX0.out] at hc
    have hp : ∀ x ∈ Lib.compact (srtI X), 0 ≤ x := fun x hx => by
     rw [cmp_mem, srtI_mem, HX0.out, List.mem_map] at hx
     obtain ⟨i, _, rfl⟩ := hx
     omega
    have hln : (natsI (Lib.compact (srtI X))).length = (Lib.compact (srtI X)).length := by unfold natsI; rw [List.length_map]
    refine ⟨A8, c8, natsI (Lib.compact (srtI X)), by rw [hln]; rfl, ?_, hc, HX2.out.trans HX8.out⟩
    rw [hln, nats_map hp]
    exact HS8.out
 ·have HL := hid hl
  have hl2 : least ≤ 0 := by omega
  clear hl d1 hn
  go_enter Tryz.func32, Tryz.ntmps32
  go_wp2_with fail
  have HI0 := hid (show CaI w L.length (.slice none 0 0) (.int .i64 0) w from ⟨0, rfl, Nat.zero_le _, World.ownsRow_nil _ _ _ _, Ext.refl _⟩)
  clear d0
  go_loopw [7, 18] (CaI w L.length) (fun _ i _ => L.length - (intOf i).toNat)
  case atStart => exact HI0.out
  case round =>
   obtain ⟨j, rfl, hj, ho, hx⟩ := hrel
   have HO := hid ho
   have HX := hid hx
   clear ho hx
   by_cases hlt : j < L.length
   ·go_wp2_with (at_builtin; refine wpList_app _ rfl _ _ 84 rfl w.heap.size 3 i0 _ 8 Tryz.underlying84 hi hz0 hz1 hz2 rfl _ _ _ rfl (HO.out.alloc _) _ _ _ _ rfl (Sl.one _ _ _) (by simp [Value.oneCell']) (by unfold maxLen; omega) (by omega) (by have := Ext.size HX.out; simp; omega) ?_; intro v7 w7 ho7 hg7; have HO7 := hid ho7; have HG7 := hid hg7; clear ho7 hg7)
    refine ⟨⟨j + 1, by go_num, by omega, ?_, (HX.out.alloc _).grown HG7.out (own_lt HO.out)⟩, by simp [intOf]; omega⟩
    rw [List.range_succ, List.map_append]
    exact HO7.out
   ·have hjl : j = L.length := by omega
    subst hjl
    obtain ⟨A5, c5, rfl, hs5, _⟩ := own_sl HO.out
    have HS5 := hid hs5
    clear hs5
    go_wp2
    go_ret
    refine ⟨A5, c5, List.range L.length, by rw [List.length_range]; rfl, by rw [List.length_range]; exact HS5.out, ?_, HX.out⟩
    rw [← HML.out]
    exact cand_range (by have := HL.out; omega)
end Go.Proofs.YtiijdojihleggaaGreatDoor
