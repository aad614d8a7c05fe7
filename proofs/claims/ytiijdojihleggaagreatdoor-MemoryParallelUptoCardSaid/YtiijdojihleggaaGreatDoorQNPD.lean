import Derived.RangeFuncNested
import Derived.RangeFuncBound
import Derived.RangeFuncCalls
import Derived.RangeFuncLeaves
import Derived.Shelf.Abstract
import Derived.Shelf.RegionOpen
import Derived.WalkKit
import Derived.OwnWalkIn
import Derived.TacticsInMore
import Derived.LoopNIn
import Derived.LoopIn
import Derived.Maps.AppendAt
import Derived.Lib.OthersKept
import Derived.Test.YtiijdojihleggaaGreatDoorQNB1
import Derived.Test.YtiijdojihleggaaGreatDoorQNPA
set_option maxRecDepth 100000
set_option linter.unusedSimpArgs false
set_option linter.unusedVariables false
open Go.Lib (hid)
namespace Go.Proofs.YtiijdojihleggaaGreatDoor
open Go.RowKit Go.Shelf
theorem room_none (k : Nat) : Fence.wide.room k := fun d h => by cases h
theorem round_any {m m' : Nat} {P : Program} {l : Nat} {f : FuncId} {tmps : Array Value} {assign body : Code} {w : World} {R : Ending → World → Prop}
 (h : RoundIn Fence.wide m P l f tmps assign body w R) : RoundIn Fence.wide m' P l f tmps assign body w R := ⟨h.1, fun c cs _ => h.2 c cs (room_none _)⟩
theorem yield_any {m : Nat} (m' : Nat) {P : Program} {l : Nat} {args : Array Value} {W : World} {R : Ending → World → Prop} (h : YieldAt Fence.wide m P l args W R) : YieldAt Fence.wide m' P l args W R := by
 obtain ⟨fn, tmps, assign, body, hy, hR⟩ := h
 exact ⟨fn, tmps, assign, body, hy, round_any hR⟩
def bodyR (I Ix : Nat → World → Prop) (B : Nat) (k : Nat) (W : World) : Exit → Act → World → Prop
 | .normal, _, W' => KeepsOthers W W' ∧ Exc (fun j => j < B) W W' ∧ I (k + 1) W'
 | .ret, _, W' => KeepsOthers W W' ∧ Ix k W'
 | _, _, _ => False
def AtLoopR (B : Nat) (r : Loop) (W : World) : Prop := W.heap[B + 1]? = some (.loop r) ∧ W.heap[B]? = some (.deferred (some []))
theorem AtLoopR.keeps {B : Nat} {r : Loop} {W W' : World} (h : AtLoopR B r W) (hw : KeepsOthers W W') : AtLoopR B r W' := ⟨hw.same _ _ h.1 rfl, hw.same _ _ h.2 rfl⟩
theorem AtLoopR.below {B C : Nat} {r : Loop} {W W' : World} (h : AtLoopR B r W) (hw : Below C W W') (hc : B + 1 < C) : AtLoopR B r W' := ⟨(Below.block hw _ hc).trans h.1, (Below.block hw _ (by omega)).trans h.2⟩
theorem AtLoopR.turn {B : Nat} {r : Loop} {W : World} (h : AtLoopR B r W) (r' : Loop) : AtLoopR B r' (W.putObj (B + 1) (.loop r')) :=
 ⟨World.putObj_heap_same (Array.getElem?_eq_some_iff.1 h.1).1, (World.putObj_heap_other (by omega)).trans h.2⟩
theorem AtLoopR.below_turn {B : Nat} {r : Loop} {W : World} (h : AtLoopR B r W) (r' : Loop) : Below B W (W.putObj (B + 1) (.loop r')) :=
 (Below.refl B W).grown (grownBy_putObj' W (B + 1) (.loop r')) (by have := (Array.getElem?_eq_some_iff.1 h.1).1; omega) (fun k e => by cases e; omega)
theorem AtLoopR.exc_turn {B C : Nat} {r : Loop} {W : World} (h : AtLoopR B r W) (r' : Loop) (hc : B + 1 < C) : Exc (fun j => j < C) W (W.putObj (B + 1) (.loop r')) :=
 Exc.grown (grownBy_putObj' W (B + 1) (.loop r')) hc
def IterP (n : Nat) (P : Program) (gf : Nat) (lb : Array Value) (N : Nat) (enc : Nat → Value) (Pre : World → Prop) : Prop :=
 ∀ (l : Nat) (J Jx : Nat → World → Prop) (W : World), Pre W → (∀ k A A', J k A → Below W.heap.size A A' → J k A') → (∀ k A A', Jx k A → Below W.heap.size A A' → Jx k A') →
   (∀ k A, J k A → k < N → YieldAt Fence.wide (n - 1) P l #[enc k] A fun e A' => (e = .returned (.bool true) ∧ J (k + 1) A' ∧ Exc (fun j => j < W.heap.size) A A') ∨ (e = .returned (.bool false) ∧ Jx k A')) →
   J 0 W → CallsIn Fence.wide n P gf (#[.func (.yield l) #[] #[]] ++ lb) W fun e W' => (∃ v, e = .returned v) ∧ (J N W' ∨ ∃ k, k < N ∧ Jx k W')
theorem range_pos {n : Nat} {P : Program} {g : Operand} {p : Tmp} {assign body : Code} {Q : Exit → Act → World → Prop} {a : Act} {w : World} {gf : Nat} {lb : Array Value}
 (hg : a.eval g = .func (.func gf) #[] lb) (eg : ∀ args w, (callFunc gf args).run P w = .ok (.enter gf args) w) (N : Nat) (enc : Nat → Value) (Pre : World → Prop) (hPre : ∀ W, Below w.heap.size w W → Pre W)
 (I Ix : Nat → World → Prop) (sI : ∀ k A A', I k A → Below w.heap.size A A' → I k A') (sx : ∀ k A A', Ix k A → Below w.heap.size A A' → Ix k A')
 (h0 : I 0 w) (iter : IterP (n - 1) P gf lb N enc Pre) (Fr : Nat → Act → World → Prop)
 (hFr : ∀ k a' W r r', Fr k a' W → AtLoopR w.heap.size r W → Fr k a' (W.putObj (w.heap.size + 1) (.loop r')))
 (hassign : ∀ (l k : Nat) (W : World) (K : Act → World → Prop), I k W → w.heap.size ≤ W.heap.size → (∀ a' W', Below w.heap.size W W' → KeepsOthers W W' → Exc (fun j => j < w.heap.size + 2) W W' → Fr k a' W' → K a' W') →
  assign.wpIn (Fence.wide.inRound l) (n - 1 - 1) P (Exit.then K (fun _ _ _ => False)) { tmps := ((#[p] : Array Tmp).zip #[enc k]).foldl (fun t (q, v) => t.setIfInBounds q v) a.tmps, defers := [] } W)
 (hbody : ∀ (l k : Nat) (a' : Act) (W : World), I k W → k < N → Fr k a' W → body.wpIn (Fence.wide.inRound l) (n - 1 - 1) P (bodyR I Ix (w.heap.size + 2) k W) a' W)
 (hdone : ∀ W, I N W → W.heap[w.heap.size]? = some (.deferred (some [])) → Q .normal { a with defers := { target := .collected w.heap.size, args := #[] } :: a.defers } W)
 (hret : ∀ k W, k < N → Ix k W → W.heap[w.heap.size]? = some (.deferred (some [])) → Code.ret.wpIn Fence.wide n P Q { a with defers := { target := .collected w.heap.size, args := #[] } :: a.defers } W) :
 (Code.rangeFunc g #[p] assign body).wpIn Fence.wide n P Q a w := by
 refine wpIn_rangeFunc ?_
 intro fn hfn
 obtain ⟨rc, hrc⟩ : ∃ rc : LoopState → Option Code → Loop, rc = fun st pe => { state := st, pending := pe, fn, tmps := a.tmps, params := #[p], assign, body, defers := w.heap.size } := ⟨_, rfl⟩
 obtain ⟨W1, hW1⟩ : ∃ W1, W1 = (w.alloc (.deferred (some []))).alloc (.loop (rc .ready none)) := ⟨_, rfl⟩
 have hA1 : AtLoopR w.heap.size (rc .ready none) W1 := by
  rw [hW1]
  refine ⟨?_, ?_⟩
  ·have := World.alloc_heap_new (w.alloc (.deferred (some []))) (.loop (rc .ready none)); rwa [World.size_alloc] at this
  ·exact (Below.heap_alloc _ _ _ (by simp)).trans (World.alloc_heap_new w _)
 have hE1 : Ext w W1 := by rw [hW1]; exact ((Ext.refl w).alloc _).alloc _
 have hI1 : I 0 W1 := sI _ _ _ h0 hE1
 have hs1 : W1.heap.size = w.heap.size + 2 := by rw [hW1, World.size_alloc, World.size_alloc]
 have hend : ∀ (W : World) (jump : Option Code), AtLoopR w.heap.size (rc .busy none) W →
  (Instr.endRound (w.heap.size + 1) jump).run P W = .ok (.bool jump.isNone) (W.putObj (w.heap.size + 1) (.loop (rc (if jump.isNone then .ready else .done) jump))) := by
  intro W jump h
  have h2 := run_endRound (P := P) jump h.1
  rw [hrc] at h2 ⊢
  exact h2
 refine ⟨w.heap.size + 1, [{ target := .collected w.heap.size, args := #[] }], W1, { target := .fn (.func gf) lb, args := #[.func (.yield (w.heap.size + 1)) #[] #[]] }, W1, gf,
  #[.func (.yield (w.heap.size + 1)) #[] #[]] ++ lb, W1, ?_, ?_, fun f' _ => trivial, ?_, fun h => (by cases h), ?_⟩
 ·rw [hW1, hrc]; exact run_enterLoop_outer _ _ _ _ _
 ·simp only [resolve, hg]
  simp [go_sem]
 ·simp [invoke, go_sem, eg]
 ·refine (iter (w.heap.size + 1) (fun k W => I k W ∧ AtLoopR w.heap.size (rc .ready none) W) (fun k W => Ix k W ∧ AtLoopR w.heap.size (rc .done (some .ret)) W) W1 (hPre _ hE1)
   (fun k A A' h hb => ⟨sI _ _ _ h.1 (hb.mono (by omega)), h.2.below hb (by omega)⟩) (fun k A A' h hb => ⟨sx _ _ _ h.1 (hb.mono (by omega)), h.2.below hb (by omega)⟩) ?_ ⟨hI1, hA1⟩).mono ?_
  ·rintro k W ⟨hi, hl⟩ hk
   have hy := run_yield (P := P) (args := #[enc k]) hl.1 (by rw [hrc]; rfl)
   refine ⟨_, _, _, _, hy, roundIn_of_wpIn (by rw [hrc]; exact hfn) ?_⟩
   rw [hrc]
   have hsz : w.heap.size ≤ W.heap.size := by have := (Array.getElem?_eq_some_iff.1 hl.2).1; omega
   refine hassign _ k W _ hi hsz (fun a' W' hb hko hex hfr => ?_)
   have hl' := hl.keeps hko
   have hbr := run_beginRound (P := P) hl'.1 (by rw [hrc])
   have hl2 := hl'.turn (rc .busy none)
   have hfr2 := hFr _ _ _ _ (rc .busy none) hfr hl'
   have hi2 := sI _ _ _ (sI _ _ _ hi hb) (hl'.below_turn (rc .busy none))
   have hx2 := hex.trans (hl'.exc_turn (rc .busy none) (C := w.heap.size + 2) (by omega))
   rw [hrc] at hbr hl2 hfr2 hi2 hx2
   refine ⟨_, hbr, Code.wpIn_mono ?_ (hbody _ k a' _ hi2 hk hfr2)⟩
   rintro e a3 W3 hp
   cases e with
   | normal =>
     obtain ⟨hk3, hx3, hi3⟩ := hp
     have hl3 : AtLoopR w.heap.size (rc .busy none) W3 := by rw [hrc]; exact hl2.keeps hk3
     refine ⟨_, _, hend W3 none hl3, .inl ⟨rfl, ⟨sI _ _ _ hi3 (hl3.below_turn _), ?_⟩, ?_⟩⟩
     ·have h := hl3.turn (rc .ready none)
      rw [hrc] at h ⊢
      exact h
     ·rw [hs1]
      exact (hx2.trans hx3).trans (hl3.exc_turn _ (by omega))
   | ret =>
     obtain ⟨hk3, hi3⟩ := hp
     have hl3 : AtLoopR w.heap.size (rc .busy none) W3 := by rw [hrc]; exact hl2.keeps hk3
     refine ⟨_, _, hend W3 (some .ret) hl3, .inr ⟨rfl, sx _ _ _ hi3 (hl3.below_turn _), ?_⟩⟩
     have h := hl3.turn (rc .done (some .ret))
     rw [hrc] at h ⊢
     exact h
   | _ => exact hp.elim
  ·rintro e W2 ⟨⟨v, rfl⟩, (⟨hi, hl⟩ | ⟨k, hk, hi, hl⟩)⟩
   ·have h2 := run_endLoop (P := P) hl.1 (by rw [hrc]; simp)
    rw [hrc] at h2
    exact ⟨none, _, h2, hdone _ (sI _ _ _ hi (hl.below_turn _)) (hl.turn _).2⟩
   ·have h2 := run_endLoop (P := P) hl.1 (by rw [hrc]; simp)
    rw [hrc] at h2
    exact ⟨some .ret, _, h2, hret _ _ hk (sx _ _ _ hi (hl.below_turn _)) (hl.turn _).2⟩
end Go.Proofs.YtiijdojihleggaaGreatDoor
namespace Go.Proofs.YtiijdojihleggaaGreatDoor
open Go.RowKit Go.Shelf
attribute [local go_sem] Oper.semAt_some
def posL : Nat → By → Nat → Nat → Nat → List (Nat × Nat × Nat)
 | 0, _, _, _, _ => []
 | n + 1, s, p, li, co => (p, li, co) :: (if s = [] then [] else posL n (s.drop (decP s).2) (p + (decP s).2) (if (decP s).1 = 10 then li + 1 else li) (if (decP s).1 = 10 then 1 else co + 1))
def posP (s : By) : List (Nat × Nat × Nat) := posL (s.length + 1) s 0 1 1
def posV (x : Nat × Nat × Nat) : Value := .agg #[.int .i64 x.1, .int .i64 x.2.1, .int .i64 x.2.2]
theorem posL_more : ∀ (n m : Nat) (s : By) (p li co : Nat), s.length < n → s.length < m → posL n s p li co = posL m s p li co
 | 0, _, _, _, _, _, h, _ => absurd h (Nat.not_lt_zero _)
 | _ + 1, 0, _, _, _, _, _, h => absurd h (Nat.not_lt_zero _)
 | n + 1, m + 1, s, p, li, co, h1, h2 => by
   rw [posL, posL]
   by_cases h0 : s = []
   ·rw [if_pos h0, if_pos h0]
   ·rw [if_neg h0, if_neg h0]
    have h3 := decP_pos s
    have h4 : 0 < s.length := by cases s with
     | nil => exact absurd rfl h0
     | cons a l => exact Nat.succ_pos _
    rw [posL_more n m _ _ _ _ (by rw [List.length_drop]; omega) (by rw [List.length_drop]; omega)]
theorem atL_find : ∀ (n : Nat) (s : By) (p li co off : Nat), atL n s p li co off = ((posL n s p li co).find? fun x => x.1 == off).map (·.2)
 | 0, _, _, _, _, _ => rfl
 | n + 1, s, p, li, co, off => by
   rw [atL, posL, List.find?_cons]
   by_cases h : p = off
   ·rw [if_pos h, h]
    simp
   ·rw [if_neg h]
    rw [show (p == off) = false from by rw [beq_eq_false_iff_ne]; exact h]
    by_cases h0 : s = []
    ·rw [if_pos h0, if_pos h0]; rfl
    ·rw [if_neg h0, if_neg h0, atL_find n]
theorem dec_at (s : ByteArray) (i : Nat) (h : i < s.size) : Utf8.decode s i = ((decP (s.data.toList.drop i)).1, (decP (s.data.toList.drop i)).2) := by
 have hg : ∀ j, s.get! (i + j) = (s.data.toList.drop i).getD j 0 := by
  intro j
  rw [List.getD_eq_getElem?_getD, List.getElem?_drop]
  show s.data[i + j]! = _
  rw [Array.getElem!_eq_getD, Array.getD_eq_getD_getElem?, Array.getElem?_toList]
  rfl
 rw [Go.Lib.decode_at]
 unfold decP
 rw [List.length_drop, size_list, ← hg 0, ← hg 1, ← hg 2, ← hg 3]
 rfl
theorem exc_iterAt (w : World) (k : Nat) (s : ByteArray) (pos : Nat) : Exc (fun j => j = k) w (w.iterAt k s pos) :=
 ⟨rfl, rfl, rfl, by rw [Go.Lib.iterAt_size]; exact Nat.le_refl _, fun j _ hj => Go.Lib.iterAt_other w k j s pos hj⟩
theorem at_three0 {T : TypeId} {w : World} {g : Nat} {a0 a1 a2 b0 : Value} (h : AtC T w g #[a0, a1, a2]) : AtC T (w.setCell ⟨g, 0, none⟩ b0) g #[b0, a1, a2] := by
 unfold AtC at h ⊢
 simp only [World.setCell, Array.getElem?_modify, if_true, h]
 rfl
theorem at_three2 {T : TypeId} {w : World} {g : Nat} {a0 a1 a2 b2 : Value} (h : AtC T w g #[a0, a1, a2]) : AtC T (w.setCell ⟨g, 2, none⟩ b2) g #[a0, a1, b2] := by
 unfold AtC at h ⊢
 simp only [World.setCell, Array.getElem?_modify, if_true, h]
 rfl
theorem at_three1 {T : TypeId} {w : World} {g : Nat} {a0 a1 a2 b1 : Value} (h : AtC T w g #[a0, a1, a2]) : AtC T (w.setCell ⟨g, 1, none⟩ b1) g #[a0, b1, a2] := by
 unfold AtC at h ⊢
 simp only [World.setCell, Array.getElem?_modify, if_true, h]
 rfl
theorem drop_getD {α : Type} {l : List α} {k : Nat} {x d : α} {r : List α} (h : l.drop k = x :: r) : l.getD k d = x ∧ l.drop (k + 1) = r ∧ l.length = k + 1 + r.length := by
 have hk : k < l.length := by
  rcases Nat.lt_or_ge k l.length with h1 | h1
  ·exact h1
  ·rw [List.drop_eq_nil_of_le h1] at h; cases h
 rw [List.drop_eq_getElem_cons hk] at h
 injection h with h1 h2
 refine ⟨?_, h2, ?_⟩
 ·rw [List.getD_eq_getElem?_getD, List.getElem?_eq_getElem hk]; exact h1
 ·rw [← h2, List.length_drop]; omega
def WkI (s : ByteArray) (B : Nat) (J : Nat → World → Prop) (N : Nat) (i r : Value) (wr : World) : Prop :=
 ∃ (k pos li co : Nat) (off0 : Int), J k wr ∧ B ≤ wr.heap.size ∧ AtC 65 wr B #[.int .i64 off0, .int .i64 li, .int .i64 co] ∧ wr.heap[B + 1]? = some (.stringIter s pos) ∧ pos ≤ s.size ∧ li ≤ pos + 1 ∧ co ≤ pos + 1 ∧
   (posP s.data.toList).drop k = posL (s.size - pos + 1) (s.data.toList.drop pos) pos li co ∧ k < (posP s.data.toList).length
set_option maxHeartbeats 4000000 in
theorem uwalk_in (lp m : Nat) (s : ByteArray) (hs : s.size ≤ 1048576) (J Jx : Nat → World → Prop) (W : World) (hJ : ∀ k A A', J k A → Below W.heap.size A A' → J k A') (hX : ∀ k A A', Jx k A → Below W.heap.size A A' → Jx k A')
 (hY : ∀ k A, J k A → k < (posP s.data.toList).length → YieldAt Fence.wide (m - 1) Tryz.prog lp #[posV ((posP s.data.toList).getD k (0, 0, 0))] A fun e A' => (e = .returned (.bool true) ∧ J (k + 1) A' ∧ Exc (fun j => j < W.heap.size) A A') ∨ (e = .returned (.bool false) ∧ Jx k A'))
 (h0 : J 0 W) : CallsIn Fence.wide m Tryz.prog 102 #[.string s, .func (.yield lp) #[] #[]] W fun e W' => (∃ v, e = .returned v) ∧ (J (posP s.data.toList).length W' ∨ ∃ k, k < (posP s.data.toList).length ∧ Jx k W') := by
 obtain ⟨L, hL⟩ : ∃ L, L = posP s.data.toList := ⟨_, rfl⟩
 have HL := hid hL
 have HJ := hid hJ
 have HY := hid hY
 have HX := hid hX
 have HB0 := hid (show WkI s W.heap.size J 0 undef undef ((W.alloc (.cells #[.int .i64 0, .int .i64 1, .int .i64 1] 65)).alloc (.stringIter s 0)) from by
  have x1 : Ext W (W.alloc (.cells #[.int .i64 0, .int .i64 1, .int .i64 1] 65)) := (Ext.refl W).alloc _
  have hz : (W.alloc (.cells #[.int .i64 0, .int .i64 1, .int .i64 1] 65)).heap.size = W.heap.size + 1 := by simp
  refine ⟨0, 0, 1, 1, 0, hJ _ _ _ h0 (x1.alloc _), Ext.size (x1.alloc _), (AtC.new W _).alloc _, ?_, Nat.zero_le _, Nat.le_refl _, Nat.le_refl _, ?_, ?_⟩
  ·have h := World.alloc_heap_new (W.alloc (.cells #[.int .i64 0, .int .i64 1, .int .i64 1] 65)) (.stringIter s 0)
   rw [hz] at h
   exact h
  ·rw [List.drop_zero, List.drop_zero]
   unfold posP
   rw [size_list]
   rfl
  ·unfold posP posL
   exact Nat.succ_pos _)
 clear hJ hY hX hL h0
 refine callsIn_of_wp Tryz.func102 rfl trivial ?_ rfl
 simp only [Tryz.ntmps102, List.size_toArray, List.length_cons, List.length_nil, Nat.reduceAdd, Nat.reduceSub, Array.replicate_succ, Array.replicate_zero, List.push_toArray, List.append_toArray, List.nil_append, List.cons_append]
 gi_wp2
 gi_loopw [5, 6] (WkI s W.heap.size J 0) (fun _ _ wr => s.size - wr.iterPos (W.heap.size + 1))
 case atStart => exact HB0.out
 case round =>
  obtain ⟨k, pos, li, co, off0, hj, hbs, hat, hit, hps, hli, hco, hdr, hk⟩ := hrel
  have hmeas : s.size - wr.iterPos (W.heap.size + 1) = s.size - pos := by unfold World.iterPos; rw [hit]
  rw [hmeas]
  by_cases hp : pos < s.size
  ·obtain ⟨d, hd⟩ : ∃ d, d = s.data.toList.drop pos := ⟨_, rfl⟩
   have hd0 : d ≠ [] := by rw [hd]; intro e; have := congrArg List.length e; rw [List.length_drop, size_list] at this; simp at this; omega
   have hdl : d.length = s.size - pos := by rw [hd, List.length_drop, size_list]
   have hm1 := decP_pos d
   have hm2 := decP_le hd0
   have hda := dec_at s pos hp
   rw [← hd] at hda hdr
   obtain ⟨W1, hW1⟩ : ∃ W1, W1 = wr.iterAt (W.heap.size + 1) s (pos + (decP d).2) := ⟨_, rfl⟩
   have hnx : ∀ ty, (Instr.next (.pointer (some ⟨W.heap.size + 1, 0, none⟩)) true ty).run Tryz.prog wr = .ok (.tuple #[.bool true, .int .i64 pos, .int .i32 (decP d).1]) W1 := fun ty => by
    have h := Go.Lib.run_next_any_at (P := Tryz.prog) wr (W.heap.size + 1) s pos ty hit hp
    rw [hda, ← hW1] at h
    exact h
   have hx1 : Exc (fun j => j = W.heap.size + 1) wr W1 := by rw [hW1]; exact exc_iterAt _ _ _ _
   have hat1 := hat.exc hx1 (fun e => by omega)
   have hit1 : W1.heap[W.heap.size + 1]? = some (.stringIter s (pos + (decP d).2)) := by rw [hW1]; exact Go.Lib.iterAt_heap _ _ _ _ _ hit
   have hx2 : Exc (fun j => j = W.heap.size) W1 (W1.setCell ⟨W.heap.size, 0, none⟩ (.int .i64 pos)) := Exc.setCell (S := fun j => j = W.heap.size) (p := ⟨W.heap.size, 0, none⟩) rfl _
   have hat2 := at_three0 (b0 := .int .i64 pos) hat1
   have hit2 := (hx2.block _ (Array.getElem?_eq_some_iff.1 hit1).1 (fun e => by omega)).trans hit1
   have hb2 : Below W.heap.size wr (W1.setCell ⟨W.heap.size, 0, none⟩ (.int .i64 pos)) := (hx1.below (fun j e => by omega) hbs).trans (hx2.below (fun j e => by omega) (by have := hx1.size; omega))
   have hcons : posL (s.size - pos + 1) d pos li co = (pos, li, co) :: posL (s.size - pos) (d.drop (decP d).2) (pos + (decP d).2) (if (decP d).1 = 10 then li + 1 else li) (if (decP d).1 = 10 then 1 else co + 1) := by rw [posL, if_neg hd0]
   rw [hcons] at hdr
   obtain ⟨g1, g2, g3⟩ := drop_getD (d := (0, 0, 0)) hdr
   have hyy := HY.out k _ (HJ.out _ _ _ hj hb2) hk
   rw [g1] at hyy
   obtain ⟨fn, tmps, assign, body, hy, hR⟩ := hyy
   unfold posV at hy
   simp only at hy
   have c0 := hat1.cell 0 _ rfl
   have c1 := hat1.cell 1 _ rfl
   have c2 := hat1.cell 2 _ rfl
   have f0 := frz_of hat1 0
   have HR := hid hR
   have HAT2 := hid hat2
   have HIT2 := hid hit2
   have HG := hid (And.intro g2 g3)
   have HD := hid hd
   have HSZ := hid (show W.heap.size + 2 ≤ (W1.setCell ⟨W.heap.size, 0, none⟩ (.int .i64 pos)).heap.size from by have := (Array.getElem?_eq_some_iff.1 hit2).1; omega)
   have HDL := hid hdl
   clear hW1 hx1 hat hit hat1 hit1 hx2 hat2 hit2 hb2 hcons hdr g1 g2 g3 hda hj hR hmeas hd0 hd hdl
   gi_wp2
   refine ⟨(fun h => by cases h), ?_⟩
   refine HR.out.mono ?_
   rintro e W3 (⟨rfl, hj3, hx3⟩ | ⟨rfl, hjx⟩)
   rotate_left
   ·have HJX := hid hjx
    have HKK := hid hk
    clear hjx c0 c1 c2 f0 hy hk
    gi_wp2
    refine bodyPost_ret (results_none rfl _ _ _) rfl ?_
    exact ⟨⟨_, rfl⟩, .inr ⟨k, HKK.out, HJX.out⟩⟩
   ·have hat3 := HAT2.out.exc hx3 (fun e => Nat.lt_irrefl _ e)
    have hit3 := (hx3.block _ (by have := HSZ.out; omega) (fun e => by omega)).trans HIT2.out
    have HJ3 := hid hj3
    have HAT3 := hid hat3
    have HIT3 := hid hit3
    have HSZ3 := hid (show W.heap.size + 2 ≤ W3.heap.size from Nat.le_trans HSZ.out hx3.size)
    clear hx3 hit3 c0 c1 c2 f0 hy hj3
    have c0 := hat3.cell 0 _ rfl
    have c1 := hat3.cell 1 _ rfl
    have c2 := hat3.cell 2 _ rfl
    have f0 := frz_of hat3 0
    have f1 := frz_of hat3 1
    have f2 := frz_of hat3 2
    clear hat3
    have hend : ∀ (W4 : World) (li' co' : Nat), Exc (fun j => j = W.heap.size) W3 W4 → AtC 65 W4 W.heap.size #[.int .i64 pos, .int .i64 li', .int .i64 co'] → li' ≤ pos + (decP d).2 + 1 → co' ≤ pos + (decP d).2 + 1 →
     li' = (if (decP d).1 = 10 then li + 1 else li) → co' = (if (decP d).1 = 10 then 1 else co + 1) → ∀ u5 u6, WkI s W.heap.size J 0 u5 u6 W4 ∧ s.size - W4.iterPos (W.heap.size + 1) < s.size - pos := by
     intro W4 li' co' hx4 hat4 hl4 hc4 e1 e2 u5 u6
     have hit4 := (hx4.block _ (by have := HSZ3.out; omega) (fun e => by omega)).trans HIT3.out
     obtain ⟨g2, g3⟩ := HG.out
     refine ⟨⟨k + 1, pos + (decP d).2, li', co', pos, HJ.out _ _ _ HJ3.out (hx4.below (fun j e => by omega) (by have := HSZ3.out; omega)), by have := HSZ3.out; have := hx4.size; omega, hat4, hit4, by have := HDL.out; omega, hl4, hc4, ?_, ?_⟩, ?_⟩
     ·rw [g2, ← e1, ← e2, HD.out, List.drop_drop]
      have hdd := HDL.out
      rw [HD.out] at hdd hm1 hm2
      refine posL_more _ _ _ _ _ _ ?_ ?_ <;> rw [List.length_drop, size_list] <;> omega
     ·rw [g3, ← e1, ← e2]
      have : 0 < (posL (s.size - pos) (d.drop (decP d).2) (pos + (decP d).2) li' co').length := by
       obtain ⟨n, hn⟩ : ∃ n, s.size - pos = n + 1 := ⟨s.size - pos - 1, by omega⟩
       rw [hn, posL]
       exact Nat.succ_pos _
      omega
     ·unfold World.iterPos
      rw [hit4]
      show s.size - (pos + (decP d).2) < s.size - pos
      omega
    have HEND := hid hend
    clear hend
    by_cases h10 : (decP d).1 = 10
    ·have b10 : (((decP d).1 : Int) == 10) = true := by rw [h10]; rfl
     have H10 := hid h10
     clear h10
     gi_wp2
     refine HEND.out _ (li + 1) 1 (((Exc.setCell (S := fun j => j = W.heap.size) (p := ⟨W.heap.size, 2, none⟩) rfl _).trans (Exc.setCell (S := fun j => j = W.heap.size) (p := ⟨W.heap.size, 1, none⟩) rfl _)).trans (Exc.setCell (S := fun j => j = W.heap.size) (p := ⟨W.heap.size, 2, none⟩) rfl _))
      (at_three2 (at_three1 (at_three2 HAT3.out))) (by omega) (by omega) (by rw [if_pos H10.out]) (by rw [if_pos H10.out]) _ _
    ·have b10 : (((decP d).1 : Int) == 10) = false := by rw [beq_eq_false_iff_ne]; omega
     have H10 := hid h10
     clear h10
     gi_wp2
     refine HEND.out _ li (co + 1) (Exc.setCell (S := fun j => j = W.heap.size) (p := ⟨W.heap.size, 2, none⟩) rfl _) (at_three2 HAT3.out) (by omega) (by omega) (by rw [if_neg H10.out]) (by rw [if_neg H10.out]) _ _
  ·have hpe : pos = s.size := by omega
   subst hpe
   have hnx : ∀ ty, (Instr.next (.pointer (some ⟨W.heap.size + 1, 0, none⟩)) true ty).run Tryz.prog wr = .ok (.tuple #[.bool false]) wr := fun ty => Go.Lib.run_next_end_at (P := Tryz.prog) wr (W.heap.size + 1) s s.size ty hit hp
   have hx2 : Exc (fun j => j = W.heap.size) wr (wr.setCell ⟨W.heap.size, 0, none⟩ (.int .i64 s.size)) := Exc.setCell (S := fun j => j = W.heap.size) (p := ⟨W.heap.size, 0, none⟩) rfl _
   have hb2 : Below W.heap.size wr (wr.setCell ⟨W.heap.size, 0, none⟩ (.int .i64 s.size)) := hx2.below (fun j e => by omega) hbs
   have hd0 : s.data.toList.drop s.size = [] := List.drop_eq_nil_of_le (by rw [size_list]; exact Nat.le_refl _)
   rw [hd0, show s.size - s.size + 1 = 0 + 1 from by omega, posL, if_pos rfl] at hdr
   obtain ⟨g1, g2, g3⟩ := drop_getD (d := (0, 0, 0)) hdr
   have hyy := HY.out k _ (HJ.out _ _ _ hj hb2) hk
   rw [g1] at hyy
   obtain ⟨fn, tmps, assign, body, hy, hR⟩ := hyy
   unfold posV at hy
   simp only at hy
   have c0 := hat.cell 0 _ rfl
   have c1 := hat.cell 1 _ rfl
   have c2 := hat.cell 2 _ rfl
   have f0 := frz_of hat 0
   have HR := hid hR
   have HG := hid g3
   have HKK := hid hk
   clear hat hit hx2 hb2 hdr g1 g2 g3 hj hR hmeas hd0 hk
   gi_wp2
   refine ⟨(fun h => by cases h), ?_⟩
   refine HR.out.mono ?_
   rintro e W3 (⟨rfl, hj3, hx3⟩ | ⟨rfl, hjx⟩)
   ·have HJ3 := hid hj3
    clear hj3 hx3 c0 c1 c2 f0 hy
    gi_wp2
    go_end0
    refine ⟨⟨_, rfl⟩, .inl ?_⟩
    rw [HG.out]
    exact HJ3.out
   ·have HJX := hid hjx
    clear hjx c0 c1 c2 f0 hy
    gi_wp2
    go_end0
    exact ⟨⟨_, rfl⟩, .inr ⟨k, HKK.out, HJX.out⟩⟩
theorem at1_iter (n : Nat) (s : ByteArray) (hs : s.size ≤ 1048576) (sb : Nat) : IterP n Tryz.prog 101 #[.pointer (some ⟨sb, 0, none⟩)] (posP s.data.toList).length (fun k => posV ((posP s.data.toList).getD k (0, 0, 0))) (fun W => W.cell? ⟨sb, 0, none⟩ = some (.string s)) := by
 intro l J Jx W hP hJ hX hY h0
 have K := hid (uwalk_in l (n - 1) s hs J Jx W hJ hX (fun k A hj hk => yield_any _ (hY k A hj hk)) h0)
 clear hJ hX hY h0
 refine callsIn_of_wp Tryz.func101 rfl trivial ?_ rfl
 simp only [Tryz.ntmps101, List.size_toArray, List.length_cons, List.length_nil, Nat.reduceAdd, Nat.reduceSub, Array.replicate_succ, Array.replicate_zero, List.push_toArray, List.append_toArray, List.nil_append, List.cons_append]
 gi_wp2_with (refine ⟨trivial, (fun h => by cases h), ?_⟩; refine K.out.mono ?_; rintro e w2 ⟨⟨v, rfl⟩, hp⟩; have HPP := hid hp; clear hp)
 go_end0
 exact ⟨⟨_, rfl⟩, HPP.out⟩
end Go.Proofs.YtiijdojihleggaaGreatDoor
namespace Go.Proofs.YtiijdojihleggaaGreatDoor
open Go.RowKit Go.Shelf
attribute [local go_sem] Oper.semAt_some
def atV (s : By) (off : Nat) : Value := match atP s off with
 | some x => .tuple #[.agg #[.int .i64 off, .int .i64 x.1, .int .i64 x.2], .int .i64 0]
 | none => .tuple #[.agg #[.int .i64 0, .int .i64 0, .int .i64 0], .int .i64 2]
theorem find_at {α : Type} {p : α → Bool} {d : α} : ∀ {l : List α} {k : Nat}, k < l.length → p (l.getD k d) = true → (∀ j, j < k → p (l.getD j d) = false) → l.find? p = some (l.getD k d)
 | [], k, h, _, _ => absurd h (Nat.not_lt_zero _)
 | a :: l, 0, _, h1, _ => by
   have h2 : p a = true := h1
   rw [List.find?_cons, h2]; rfl
 | a :: l, k + 1, h, h1, h2 => by
   have h3 : p a = false := h2 0 (Nat.succ_pos _)
   rw [List.find?_cons, h3]
   exact find_at (l := l) (k := k) (by simpa using h) h1 (fun j hj => h2 (j + 1) (by omega))
theorem find_none {α : Type} {p : α → Bool} {d : α} : ∀ {l : List α}, (∀ j, j < l.length → p (l.getD j d) = false) → l.find? p = none
 | [], _ => rfl
 | a :: l, h => by
   have h3 : p a = false := h 0 (Nat.succ_pos _)
   rw [List.find?_cons, h3]
   exact find_none (l := l) (fun j hj => h (j + 1) (by simpa using hj))
theorem atV_some {s : By} {off k : Nat} (hk : k < (posP s).length) (h : ((posP s).getD k (0, 0, 0)).1 = off) (hn : ∀ j, j < k → ((posP s).getD j (0, 0, 0)).1 ≠ off) :
 atV s off = .tuple #[.agg #[.int .i64 ((posP s).getD k (0, 0, 0)).1, .int .i64 ((posP s).getD k (0, 0, 0)).2.1, .int .i64 ((posP s).getD k (0, 0, 0)).2.2], .int .i64 0] := by
 unfold atV atP
 rw [atL_find]
 have := find_at (p := fun x : Nat × Nat × Nat => x.1 == off) (d := (0, 0, 0)) hk (by rw [h]; exact beq_self_eq_true _) (fun j hj => by rw [beq_eq_false_iff_ne]; exact hn j hj)
 unfold posP at this ⊢
 rw [this]
 simp only [Option.map_some]
 unfold posP at h
 rw [h]
theorem atV_none {s : By} {off : Nat} (hn : ∀ j, j < (posP s).length → ((posP s).getD j (0, 0, 0)).1 ≠ off) : atV s off = .tuple #[.agg #[.int .i64 0, .int .i64 0, .int .i64 0], .int .i64 2] := by
 unfold atV atP
 rw [atL_find]
 have := find_none (p := fun x : Nat × Nat × Nat => x.1 == off) (d := (0, 0, 0)) (l := posP s) (fun j hj => by rw [beq_eq_false_iff_ne]; exact hn j hj)
 unfold posP at this
 rw [this]
 rfl
theorem at_one0 {T : TypeId} {w : World} {g : Nat} {a0 b0 : Value} (h : AtC T w g #[a0]) : AtC T (w.setCell ⟨g, 0, none⟩ b0) g #[b0] := by
 unfold AtC at h ⊢
 simp only [World.setCell, Array.getElem?_modify, if_true, h]
 rfl
theorem at_put {T : TypeId} {W : World} {g D : Nat} {cs : Array Value} {ob : Obj} (h : AtC T W g cs) (hD : W.heap[D]? = some ob) (hn : ob.isCells = false) (ob' : Obj) : AtC T (W.putObj D ob') g cs := by
 refine (World.putObj_heap_other fun e => ?_).trans h
 unfold AtC at h
 subst e
 rw [hD] at h
 injection h with h
 subst h
 cases hn
def AtI (w : World) (s : ByteArray) (off k : Nat) (W : World) : Prop :=
 Ext w W ∧ w.heap.size + 4 ≤ W.heap.size ∧ AtC 9 W w.heap.size #[.string s] ∧ AtC 3 W (w.heap.size + 1) #[.int .i64 off] ∧ AtC 65 W (w.heap.size + 1 + 1) #[.int .i64 0, .int .i64 0, .int .i64 0] ∧
  AtC 59 W (w.heap.size + 1 + 1 + 1) #[.int .i64 0] ∧ ∀ j, j < k → ((posP s.data.toList).getD j (0, 0, 0)).1 ≠ off
def AtX (w : World) (s : ByteArray) (off k : Nat) (W : World) : Prop :=
 Ext w W ∧ w.heap.size + 4 ≤ W.heap.size ∧ AtC 65 W (w.heap.size + 1 + 1) #[.int .i64 ((posP s.data.toList).getD k (0, 0, 0)).1, .int .i64 ((posP s.data.toList).getD k (0, 0, 0)).2.1, .int .i64 ((posP s.data.toList).getD k (0, 0, 0)).2.2] ∧
  AtC 59 W (w.heap.size + 1 + 1 + 1) #[.int .i64 0] ∧ ((posP s.data.toList).getD k (0, 0, 0)).1 = off ∧ ∀ j, j < k → ((posP s.data.toList).getD j (0, 0, 0)).1 ≠ off
theorem AtI.below {w : World} {s : ByteArray} {off k : Nat} {A A' : World} (h : AtI w s off k A) (hb : Below (w.heap.size + 4) A A') : AtI w s off k A' := by
 obtain ⟨h1, h2, h3, h4, h5, h6, h7⟩ := h
 exact ⟨Below.trans h1 (hb.mono (by omega)), Nat.le_trans h2 (Below.size hb), h3.below hb (by omega), h4.below hb (by omega), h5.below hb (by omega), h6.below hb (by omega), h7⟩
theorem AtX.below {w : World} {s : ByteArray} {off k : Nat} {A A' : World} (h : AtX w s off k A) (hb : Below (w.heap.size + 4) A A') : AtX w s off k A' := by
 obtain ⟨h1, h2, h3, h4, h5⟩ := h
 exact ⟨Below.trans h1 (hb.mono (by omega)), Nat.le_trans h2 (Below.size hb), h3.below hb (by omega), h4.below hb (by omega), h5⟩
def AtF (w : World) (s : ByteArray) (off k : Nat) (a : Act) (W : World) : Prop :=
 ∃ pb, a = { tmps := #[.string s, .int .i64 off, .pointer (some ⟨w.heap.size, 0, none⟩), .pointer (some ⟨w.heap.size + 1, 0, none⟩), .pointer (some ⟨w.heap.size + 1 + 1, 0, none⟩), .pointer (some ⟨w.heap.size + 1 + 1 + 1, 0, none⟩), .pointer (some ⟨pb, 0, none⟩), .func (.func 101) #[] #[.pointer (some ⟨w.heap.size, 0, none⟩)], posV ((posP s.data.toList).getD k (0, 0, 0)), undef, undef, undef, undef, undef, undef], defers := [] } ∧
   AtC 65 W pb #[.int .i64 ((posP s.data.toList).getD k (0, 0, 0)).1, .int .i64 ((posP s.data.toList).getD k (0, 0, 0)).2.1, .int .i64 ((posP s.data.toList).getD k (0, 0, 0)).2.2]
set_option maxHeartbeats 4000000 in
theorem uat_any (s : ByteArray) (off : Nat) (w : World) (hs : s.size ≤ 1048576) : Calls Tryz.prog 69 #[.string s, .int .i64 off] w fun e w' => e = .returned (atV s.data.toList off) ∧ Ext w w' := by
 obtain ⟨W6, hW6⟩ : ∃ W6, W6 = (((w.alloc (.cells #[.string s] 9)).alloc (.cells #[.int .i64 off] 3)).alloc (.cells #[.int .i64 0, .int .i64 0, .int .i64 0] 65)).alloc (.cells #[.int .i64 0] 59) := ⟨_, rfl⟩
 have hz : W6.heap.size = w.heap.size + 4 := by rw [hW6, World.size_alloc, World.size_alloc, World.size_alloc, World.size_alloc]
 have HI0 := hid (show AtI w s off 0 W6 from by
  have x0 := Ext.refl w
  have z1 : (w.alloc (.cells #[.string s] 9)).heap.size = w.heap.size + 1 := World.size_alloc _ _
  have z2 : ((w.alloc (.cells #[.string s] 9)).alloc (.cells #[.int .i64 off] 3)).heap.size = w.heap.size + 1 + 1 := by rw [World.size_alloc, z1]
  have z3 : (((w.alloc (.cells #[.string s] 9)).alloc (.cells #[.int .i64 off] 3)).alloc (.cells #[.int .i64 0, .int .i64 0, .int .i64 0] 65)).heap.size = w.heap.size + 1 + 1 + 1 := by rw [World.size_alloc, z2]
  have a1 : AtC 3 ((w.alloc (.cells #[.string s] 9)).alloc (.cells #[.int .i64 off] 3)) (w.heap.size + 1) #[.int .i64 off] := by have h := (AtC.new (w.alloc (.cells #[.string s] 9)) #[.int .i64 off] : AtC 3 _ _ _); rw [z1] at h; exact h
  have a2 : AtC 65 (((w.alloc (.cells #[.string s] 9)).alloc (.cells #[.int .i64 off] 3)).alloc (.cells #[.int .i64 0, .int .i64 0, .int .i64 0] 65)) (w.heap.size + 1 + 1) #[.int .i64 0, .int .i64 0, .int .i64 0] := by
   have h := (AtC.new ((w.alloc (.cells #[.string s] 9)).alloc (.cells #[.int .i64 off] 3)) #[.int .i64 0, .int .i64 0, .int .i64 0] : AtC 65 _ _ _); rw [z2] at h; exact h
  have a3 : AtC 59 W6 (w.heap.size + 1 + 1 + 1) #[.int .i64 0] := by
   rw [hW6]
   have h := (AtC.new (((w.alloc (.cells #[.string s] 9)).alloc (.cells #[.int .i64 off] 3)).alloc (.cells #[.int .i64 0, .int .i64 0, .int .i64 0] 65)) #[.int .i64 0] : AtC 59 _ _ _); rw [z3] at h; exact h
  refine ⟨by rw [hW6]; exact (((x0.alloc _).alloc _).alloc _).alloc _, by omega, ?_, ?_, ?_, a3, fun j hj => absurd hj (Nat.not_lt_zero _)⟩
  ·rw [hW6]; exact (((AtC.new w _).alloc _).alloc _).alloc _
  ·rw [hW6]; exact (a1.alloc _).alloc _
  ·rw [hW6]; exact a2.alloc _)
 refine (callsIn_wide (n := 3)).1 ?_
 refine callsIn_of_wp_marks Tryz.func69 rfl trivial ?_ rfl
 simp only [Tryz.ntmps69, List.size_toArray, List.length_cons, List.length_nil, Nat.reduceAdd, Nat.reduceSub, Array.replicate_succ, Array.replicate_zero, List.push_toArray, List.append_toArray, List.nil_append, List.cons_append]
 gi_wp2
 rw [← hW6]
 clear hW6
 refine range_pos (gf := 101) (lb := #[.pointer (some ⟨w.heap.size, 0, none⟩)]) rfl (enters_of Tryz.func101 (by kernel_rfl) rfl) (posP s.data.toList).length (fun k => posV ((posP s.data.toList).getD k (0, 0, 0))) (fun W => W.cell? ⟨w.heap.size, 0, none⟩ = some (.string s))
  (fun W hb => (HI0.out.below (by rw [← hz]; exact hb)).2.2.1.cell 0 _ rfl) (AtI w s off) (AtX w s off) (fun k A A' h hb => h.below (by rw [← hz]; exact hb)) (fun k A A' h hb => h.below (by rw [← hz]; exact hb)) HI0.out (at1_iter _ s hs w.heap.size) (AtF w s off) ?fr ?asg ?bdy ?dne ?rt
 case fr =>
  rintro k a' W r r' ⟨pb, rfl, hat⟩ hl
  refine ⟨pb, rfl, (World.putObj_heap_other fun e => ?_).trans hat⟩
  have h1 := hl.1
  unfold AtC at hat
  rw [← e, hat] at h1
  cases h1
 case asg =>
  intro l k W K hI hsz hK
  unfold posV
  have HK := hid hK
  clear hK
  gi_wp2
  refine HK.out _ _ (((Ext.refl W).alloc _).mono hsz) (KeepsOthers.alloc _ _) (Exc.of_ext ((Ext.refl W).alloc _)) ⟨W.heap.size, ?_, AtC.new W _⟩
  unfold posV
  rfl
 case bdy =>
  rintro l k a' W hI hk ⟨pb, rfl, hat⟩
  have HI := hid hI
  obtain ⟨h1, h2, h3, h4, h5, h6, h7⟩ := hI
  generalize hX : (posP s.data.toList).getD k (0, 0, 0) = X at hat ⊢
  have HXX := hid hX
  clear hk hX
  have c0 := hat.cell 0 _ rfl
  have c1 := hat.cell 1 _ rfl
  have c2 := hat.cell 2 _ rfl
  have d0 := h4.cell 0 _ rfl
  have p0 := h5.cell 0 _ rfl
  have p1 := h5.cell 1 _ rfl
  have p2 := h5.cell 2 _ rfl
  have e0 := h6.cell 0 _ rfl
  have fp0 := frz_of h5 0
  have fp1 := frz_of h5 1
  have fp2 := frz_of h5 2
  have fe0 := frz_of h6 0
  clear h1 h2 h3 h4 h5 h6 h7 hat
  unfold posV
  by_cases hof : X.1 = off
  ·have b1 : ((X.1 : Int) == (off : Int)) = true := by rw [hof]; exact beq_self_eq_true _
   have HOF := hid hof
   clear hof
   gi_wp2
   obtain ⟨h1, h2, h3, h4, h5, h6, h7⟩ := HI.out
   have k1 : Ext w ((((W.setCell ⟨w.heap.size + 1 + 1, 0, none⟩ (.int .i64 X.1)).setCell ⟨w.heap.size + 1 + 1, 1, none⟩ (.int .i64 X.2.1)).setCell ⟨w.heap.size + 1 + 1, 2, none⟩ (.int .i64 X.2.2)).setCell ⟨w.heap.size + 1 + 1 + 1, 0, none⟩ (.int .i64 0)) :=
    (((h1.setCell (p := ⟨w.heap.size + 1 + 1, 0, none⟩) (by simp; omega) _).setCell (p := ⟨w.heap.size + 1 + 1, 1, none⟩) (by simp; omega) _).setCell (p := ⟨w.heap.size + 1 + 1, 2, none⟩) (by simp; omega) _).setCell (p := ⟨w.heap.size + 1 + 1 + 1, 0, none⟩) (by simp; omega) _
   refine ⟨(((KeepsOthers.setCell _ _ _).trans (KeepsOthers.setCell _ _ _)).trans (KeepsOthers.setCell _ _ _)).trans (KeepsOthers.setCell _ _ _), k1, by simp [World.setCell]; omega, ?_, ?_, by rw [HXX.out]; exact HOF.out, h7⟩
   ·rw [HXX.out]
    exact (at_three2 (at_three1 (at_three0 h5))).exc (Exc.setCell (S := fun j => j = w.heap.size + 1 + 1 + 1) (p := ⟨w.heap.size + 1 + 1 + 1, 0, none⟩) rfl _) (fun e => by omega)
   ·have h := h6.exc (((Exc.setCell (S := fun j => j = w.heap.size + 1 + 1) (w := W) (p := ⟨w.heap.size + 1 + 1, 0, none⟩) rfl (.int .i64 X.1)).trans (Exc.setCell (S := fun j => j = w.heap.size + 1 + 1) (p := ⟨w.heap.size + 1 + 1, 1, none⟩) rfl (.int .i64 X.2.1))).trans (Exc.setCell (S := fun j => j = w.heap.size + 1 + 1) (p := ⟨w.heap.size + 1 + 1, 2, none⟩) rfl (.int .i64 X.2.2))) (fun e => by omega)
    exact at_one0 h
  ·have b1 : ((X.1 : Int) == (off : Int)) = false := by rw [beq_eq_false_iff_ne]; omega
   have HOF := hid hof
   clear hof
   gi_wp2
   obtain ⟨h1, h2, h3, h4, h5, h6, h7⟩ := HI.out
   refine ⟨KeepsOthers.refl _, Exc.refl _ _, h1, h2, h3, h4, h5, h6, fun j hj => ?_⟩
   rcases Nat.lt_succ_iff_lt_or_eq.1 hj with h | h
   ·exact h7 j h
   ·rw [h, HXX.out]; exact HOF.out
 case dne =>
  intro W hI hD
  have HI := hid hI
  obtain ⟨h1, h2, h3, h4, h5, h6, h7⟩ := hI
  have p0 := h5.cell 0 _ rfl
  have p1 := h5.cell 1 _ rfl
  have p2 := h5.cell 2 _ rfl
  have e0 := h6.cell 0 _ rfl
  have fp0 := frz_of h5 0
  have fp1 := frz_of h5 1
  have fp2 := frz_of h5 2
  have fe0 := frz_of h6 0
  have HD := hid hD
  clear h1 h2 h3 h4 h5 h6 h7 hD
  gi_wp2
  obtain ⟨h1, h2, h3, h4, h5, h6, h7⟩ := HI.out
  have hD2 := ((((KeepsOthers.setCell W ⟨w.heap.size + 1 + 1, 0, none⟩ (.int .i64 0)).trans (KeepsOthers.setCell _ ⟨w.heap.size + 1 + 1, 1, none⟩ (.int .i64 0))).trans (KeepsOthers.setCell _ ⟨w.heap.size + 1 + 1, 2, none⟩ (.int .i64 0))).trans (KeepsOthers.setCell _ ⟨w.heap.size + 1 + 1 + 1, 0, none⟩ (.int .i64 2))).same _ _ HD.out rfl
  have k1 : Ext w ((((W.setCell ⟨w.heap.size + 1 + 1, 0, none⟩ (.int .i64 0)).setCell ⟨w.heap.size + 1 + 1, 1, none⟩ (.int .i64 0)).setCell ⟨w.heap.size + 1 + 1, 2, none⟩ (.int .i64 0)).setCell ⟨w.heap.size + 1 + 1 + 1, 0, none⟩ (.int .i64 2)) :=
   (((h1.setCell (p := ⟨w.heap.size + 1 + 1, 0, none⟩) (by simp; omega) _).setCell (p := ⟨w.heap.size + 1 + 1, 1, none⟩) (by simp; omega) _).setCell (p := ⟨w.heap.size + 1 + 1, 2, none⟩) (by simp; omega) _).setCell (p := ⟨w.heap.size + 1 + 1 + 1, 0, none⟩) (by simp; omega) _
  have k5 := at_put ((at_three2 (at_three1 (at_three0 h5))).exc (Exc.setCell (S := fun j => j = w.heap.size + 1 + 1 + 1) (p := ⟨w.heap.size + 1 + 1 + 1, 0, none⟩) rfl _) (fun e => by omega)) hD2 rfl (.deferred none)
  have k6 := at_put (at_one0 (b0 := .int .i64 2) (h6.exc (((Exc.setCell (S := fun j => j = w.heap.size + 1 + 1) (w := W) (p := ⟨w.heap.size + 1 + 1, 0, none⟩) rfl (.int .i64 0)).trans (Exc.setCell (S := fun j => j = w.heap.size + 1 + 1) (p := ⟨w.heap.size + 1 + 1, 1, none⟩) rfl (.int .i64 0))).trans (Exc.setCell (S := fun j => j = w.heap.size + 1 + 1) (p := ⟨w.heap.size + 1 + 1, 2, none⟩) rfl (.int .i64 0))) (fun e => by omega))) hD2 rfl (.deferred none)
  have r0 := k5.cell 0 _ rfl
  have r1 := k5.cell 1 _ rfl
  have r2 := k5.cell 2 _ rfl
  have r3 := k6.cell 0 _ rfl
  refine ⟨by simp, .inl ⟨_, _, rfl, run_takeDeferred hD2, ?_⟩⟩
  refine ⟨.tuple #[.agg #[.int .i64 0, .int .i64 0, .int .i64 0], .int .i64 2], by simp [results, Tryz.results69, go_sem, r0, r1, r2, r3], by rw [atV_none h7], ?_⟩
  exact Below.grown k1 (grownBy_putObj' _ _ _) (by have := (Array.getElem?_eq_some_iff.1 hD2).1; have := Ext.size k1; omega) (fun k e => by cases e; omega)
 case rt =>
  intro k W hk hX hD
  have HX := hid hX
  have HD := hid hD
  clear hX hD
  gi_wp2
  obtain ⟨h1, h2, h5, h6, h7, h8⟩ := HX.out
  have k5 := at_put h5 HD.out rfl (.deferred none)
  have k6 := at_put h6 HD.out rfl (.deferred none)
  have HAV := hid (atV_some hk h7 h8)
  generalize (posP s.data.toList).getD k (0, 0, 0) = X at *
  have r0 := k5.cell 0 _ rfl
  have r1 := k5.cell 1 _ rfl
  have r2 := k5.cell 2 _ rfl
  have r3 := k6.cell 0 _ rfl
  refine ⟨by simp, .inl ⟨_, _, rfl, run_takeDeferred HD.out, ?_⟩⟩
  refine ⟨.tuple #[.agg #[.int .i64 X.1, .int .i64 X.2.1, .int .i64 X.2.2], .int .i64 0], by simp [results, Tryz.results69, go_sem, r0, r1, r2, r3], by rw [HAV.out], ?_⟩
  exact Below.grown h1 (grownBy_putObj' _ _ _) (Ext.size h1) (fun k e => by cases e; omega)
end Go.Proofs.YtiijdojihleggaaGreatDoor
