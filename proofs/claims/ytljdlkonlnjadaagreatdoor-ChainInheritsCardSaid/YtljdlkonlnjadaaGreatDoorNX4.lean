import Derived.Test.YtljdlkonlnjadaaGreatDoorNXM
import Derived.Test.YtljdlkonlnjadaaGreatDoorNX2
import Derived.Test.YtljdlkonlnjadaaGreatDoorProg
import Derived.ArgAppend
import Derived.Test.YtljdlkonlnjadaaGreatDoorNX3
import Derived.Maps.OwnOps
import Derived.Maps.OwnSet
import Derived.Sort.KeysCollected
import Derived.StringKeys
import Derived.WideKeyPair
set_option maxRecDepth 100000
set_option linter.unusedSimpArgs false
set_option linter.unusedVariables false
open Go.Lib (hid)
namespace Go.Proofs.YtljdlkonlnjadaaGreatDoor
open Go.RowKit
theorem nanI_any (x : Int) (w : World) : Calls Tryz.prog 172 #[.int .i64 x] w fun e w' => e = .returned (.bool false) ∧ w = w' := by
 go_enter Tryz.func172, Tryz.ntmps172
 go_wp2
 go_ret
 exact ⟨by simp, rfl⟩
theorem nanS_any (x : ByteArray) (w : World) : Calls Tryz.prog 68 #[.string x] w fun e w' => e = .returned (.bool false) ∧ w = w' := by
 go_enter Tryz.func68, Tryz.ntmps68
 go_wp2
 go_ret
 exact ⟨by simp, rfl⟩
theorem cmpI_any (x y : Int) (w : World) : Calls Tryz.prog 111 #[.int .i64 x, .int .i64 y] w fun e w' => e = .returned (.int .i64 (cmpI x y)) ∧ w = w' := by
 unfold cmpI
 by_cases h1 : x < y
 ·go_enter Tryz.func111, Tryz.ntmps111
  go_wp2_with (go_at_call 172; refine (nanI_any _ _).mono ?_; rintro e w' ⟨rfl, rfl⟩)
  go_ret
  exact ⟨by simp [h1], rfl⟩
 ·by_cases h2 : y < x
  ·go_enter Tryz.func111, Tryz.ntmps111
   go_wp2_with (go_at_call 172; refine (nanI_any _ _).mono ?_; rintro e w' ⟨rfl, rfl⟩)
   go_ret
   exact ⟨by simp [h1, h2], rfl⟩
  ·go_enter Tryz.func111, Tryz.ntmps111
   go_wp2_with (go_at_call 172; refine (nanI_any _ _).mono ?_; rintro e w' ⟨rfl, rfl⟩)
   go_ret
   exact ⟨by simp [h1, h2], rfl⟩
theorem cmpS_any (x y : ByteArray) (w : World) : Calls Tryz.prog 33 #[.string x, .string y] w fun e w' => e = .returned (.int .i64 (cmpS x.data.toList y.data.toList)) ∧ w = w' := by
 unfold cmpS
 by_cases h1 : x.data.toList < y.data.toList
 ·have q1 : Op.bytesLess x.toList y.toList = true := by rw [less_b]; simpa using h1
  go_enter Tryz.func33, Tryz.ntmps33
  go_wp2_with (go_at_call 68; refine (nanS_any _ _).mono ?_; rintro e w' ⟨rfl, rfl⟩)
  go_ret
  exact ⟨by simp [h1], rfl⟩
 ·have q1 : Op.bytesLess x.toList y.toList = false := by rw [less_b]; simpa using h1
  by_cases h2 : y.data.toList < x.data.toList
  ·have q3 : (x.toList == y.toList) = false := bytes_ne (fun e => by subst e; exact h1 h2)
   go_enter Tryz.func33, Tryz.ntmps33
   go_wp2_with (go_at_call 68; refine (nanS_any _ _).mono ?_; rintro e w' ⟨rfl, rfl⟩)
   go_ret
   exact ⟨by simp [h1, h2], rfl⟩
  ·have e : x = y := ByteArray.ext (Array.toList_inj.1 (List.le_antisymm (List.not_lt.1 h2) (List.not_lt.1 h1)))
   subst e
   go_enter Tryz.func33, Tryz.ntmps33
   go_wp2_with (go_at_call 68; refine (nanS_any _ _).mono ?_; rintro e w' ⟨rfl, rfl⟩)
   go_ret
   exact ⟨by simp [h1, h2], rfl⟩
def OrInv (w : World) (a b : Int) (i : Value) (wr : World) : Prop := ∃ k : Nat, k ≤ 2 ∧ i = .int .i64 k ∧ (1 ≤ k → a = 0) ∧ (2 ≤ k → b = 0) ∧ wr = w
theorem or2_any (a b : Int) (g c : Nat) (w : World) (h0 : w.cell? ⟨g, 0, none⟩ = some (.int .i64 a)) (h1 : w.cell? ⟨g, 1, none⟩ = some (.int .i64 b)) :
 Calls Tryz.prog 39 #[.slice (some ⟨g, 0, none⟩) 2 c] w fun e w' => e = .returned (.int .i64 (if a = 0 then b else a)) ∧ w = w' := by
 go_enter Tryz.func39, Tryz.ntmps39
 go_wp2_with fail
 go_loopw [8] (OrInv w a b) (fun i _ => 2 - (intOf i).toNat)
 case atStart => exact ⟨0, by omega, rfl, by omega, by omega, rfl⟩
 case round =>
  obtain ⟨k, hk, rfl, ha, hb, rfl⟩ := hrel
  match k, hk with
  | 0, _ =>
    by_cases hz : a = 0
    ·subst hz
     go_wp2
     exact ⟨⟨1, by omega, by go_num, fun _ => rfl, by omega, rfl⟩, by simp [intOf]⟩
    ·have q : (a == 0) = false := by simpa using hz
     go_wp2
     go_ret
     exact ⟨by simp [hz], rfl⟩
  | 1, _ =>
    have ha := ha (Nat.le_refl _)
    subst ha
    by_cases hz : b = 0
    ·subst hz
     go_wp2
     exact ⟨⟨2, by omega, by go_num, fun _ => rfl, fun _ => rfl, rfl⟩, by simp [intOf]⟩
    ·have q : (b == 0) = false := by simpa using hz
     go_wp2
     go_ret
     exact ⟨by simp [hz], rfl⟩
  | 2, _ =>
    have ha := ha (by omega)
    have hb := hb (by omega)
    subst ha; subst hb
    go_wp2
    go_ret
    exact ⟨by simp, rfl⟩
end Go.Proofs.YtljdlkonlnjadaaGreatDoor
namespace Go.Proofs.YtljdlkonlnjadaaGreatDoor
open Go.RowKit
def SameInv (w : World) (xs ys : List ByteArray) (n : Nat) (i : Value) (wr : World) : Prop :=
 ∃ k : Nat, k ≤ n ∧ i = .int .i64 k ∧ Ext w wr ∧ xs.take k = ys.take k
theorem same_any (xs ys : List ByteArray) (A B : Option Addr) (n m ca cb : Nat) (w : World) (hA : Sl w A n (xs.map .string)) (hB : Sl w B m (ys.map .string)) (hn : n ≤ maxLen) (hm : m ≤ maxLen) :
 Calls Tryz.prog 12 #[.slice A n ca, .slice B m cb] w fun e w' => e = .returned (.bool (decide (xs = ys))) ∧ Ext w w' := by
 unfold maxLen at hn hm
 have hla : xs.length = n := by have := hA.1; simpa using this
 have hlb : ys.length = m := by have := hB.1; simpa using this
 have H1 := hid hA
 have H2 := hid hB
 have L1 := hid hla
 have L2 := hid hlb
 clear hA hB hla hlb
 by_cases hnm : n = m
 ·subst hnm
  go_enter Tryz.func12, Tryz.ntmps12
  go_wp2
  go_loopw [5] (SameInv w xs ys n) (fun i _ => n - (intOf i).toNat)
  case atStart => exact ⟨0, Nat.zero_le _, rfl, Ext.refl _, rfl⟩
  case round =>
   obtain ⟨k, hk, rfl, hw, ht⟩ := hrel
   have HT := hid ht
   have HW := hid hw
   clear ht hw
   by_cases hlt : k < n
   ·obtain ⟨ad, x, rfl, hu, hc⟩ := (H1.out.ext HW.out).at_map hlt
    obtain ⟨bd, y, rfl, hv, hd⟩ := (H2.out.ext HW.out).at_map hlt
    have HU := hid hu
    have HV := hid hv
    clear hu hv
    by_cases hxy : x = y
    ·subst hxy
     have hb : (!x.toList == x.toList) = false := by simp
     go_wp2
     go_quiet (fail)
     all_goals go_wp2
     refine ⟨⟨k + 1, by omega, by go_num, HW.out.drewN _, ?_⟩, by simp [intOf]; omega⟩
     rw [take_next HU.out, take_next HV.out, HT.out]
    ·have hb : (!x.toList == y.toList) = true := by rw [bytes_ne hxy]; rfl
     have HXY := hid hxy
     clear hxy
     go_wp2
     go_quiet (fail)
     all_goals go_wp2
     go_ret
     refine ⟨ret_bool ?_, HW.out.drewN _⟩
     have hne : xs ≠ ys := by
      intro h
      have h1 := HU.out
      rw [h, HV.out] at h1
      exact HXY.out (by injection h1 with h1; exact h1.symm)
     simp [hne]
   ·go_wp2
    go_ret
    refine ⟨ret_bool ?_, HW.out⟩
    have h1 := HT.out
    rw [List.take_of_length_le (by have := L1.out; omega), List.take_of_length_le (by have := L2.out; omega)] at h1
    simp [h1]
 ·have hb : ((n : Int) != (m : Int)) = true := by simp; omega
  go_enter Tryz.func12, Tryz.ntmps12
  go_wp2
  go_ret
  refine ⟨ret_bool ?_, Ext.refl _⟩
  have hne : xs ≠ ys := by
   intro h
   subst h
   exact hnm (L1.out.symm.trans L2.out)
  simp [hne]
theorem strv_maps (l : List (List UInt8)) : l.map strv = (l.map fun x => (⟨x.toArray⟩ : ByteArray)).map Value.string := by simp [strv]
theorem samestr_any (xs ys : List (List UInt8)) (A B : Option Addr) (n m ca cb : Nat) (w : World) (hA : Sl w A n (xs.map strv)) (hB : Sl w B m (ys.map strv)) (hn : n ≤ maxLen) (hm : m ≤ maxLen) :
 Calls Tryz.prog 12 #[.slice A n ca, .slice B m cb] w fun e w' => e = .returned (.bool (xs == ys)) ∧ Ext w w' := by
 rw [strv_maps] at hA hB
 refine (same_any _ _ A B n m ca cb w hA hB hn hm).mono ?_
 rintro e w' ⟨rfl, hw⟩
 refine ⟨ret_bool ?_, hw⟩
 rw [Bool.eq_iff_iff]
 simp only [decide_eq_true_eq, beq_iff_eq]
 constructor
 ·intro h
  have h2 := congrArg (List.map fun b : ByteArray => b.data.toList) h
  simpa [List.map_map, Function.comp_def] using h2
 ·rintro rfl; rfl
end Go.Proofs.YtljdlkonlnjadaaGreatDoor
namespace Go.Proofs.YtljdlkonlnjadaaGreatDoor
open Go.RowKit
theorem none_nil {w : World} {n : Nat} {xs : List Value} (h : Sl w none n xs) : n = 0 := by
 rcases Nat.eq_zero_or_pos n with h0 | h0
 ·exact h0
 ·obtain ⟨ad, u, hA, _⟩ := h.at_ h0
  cases hA
theorem addr_flat {w : World} {ad : Addr} {n : Nat} {xs : List Value} (h : Sl w (some ad) n xs) (hn : 0 < n) : ∃ b o, ad = ⟨b, o, none⟩ ∧ b < w.heap.size := by
 obtain ⟨ad', u, ha, _, hc⟩ := h.at_ hn
 injection ha with ha
 subst ha
 have hb := World.block_lt_of_cell? w _ hc
 have hs := World.cell?_spot hc
 obtain ⟨b, o, sp⟩ := ad
 refine ⟨b, o, ?_, by rwa [addr_block] at hb⟩
 simp [Addr.add] at hs
 rw [hs]
theorem add_flat (b o j : Nat) : (⟨b, o, none⟩ : Addr).add j = ⟨b, o + j, none⟩ := by
 unfold Addr.add
 split
 ·subst_vars; rfl
 ·rfl
def Later (w w' W0 : World) : Prop := w'.heap.size ≤ W0.heap.size ∧ ∀ b, w.heap.size ≤ b → b < w'.heap.size → W0.heap[b]? = w'.heap[b]?
theorem Later.refl (w w' : World) : Later w w' w' := ⟨Nat.le_refl _, fun _ _ _ => rfl⟩
theorem Sl.later {w w' W0 : World} {A : Option Addr} {n : Nat} {xs : List Value} (h : Sl w' A n xs) (hA : ∀ ad, A = some ad → w.heap.size ≤ ad.block) (hl : Later w w' W0) : Sl W0 A n xs :=
 ⟨h.1, fun j u hu => by
  obtain ⟨ad, ha, hb, hc⟩ := h.2 j u hu
  refine ⟨ad, ha, Nat.lt_of_lt_of_le hb hl.1, ?_⟩
  rw [← hc]
  exact World.cell?_of_block (by rw [addr_block]; exact hl.2 ad.block (hA ad ha) hb)⟩
section
variable {P : Program} (w : World)
theorem app_where (base : Nat) (t ty e : TypeId) (i : TypeInfo) (z : Value) (bytes : Nat) (ht : P.underlying t = some (.slice e)) (hi : P.info? e = some i) (hz : i.zero = some z)
 (hsize : i.size = 1) (hby : i.bytes = bytes) (hzs : z.cells.size = 1) (v : Value) (n : Nat) (xs : List Value) (hown : w.ownsRow base e 1 v n xs)
 (ad : Addr) (m c : Nat) (news : List Value) (hl : news.length = m * 1) (hnews : ∀ j u, news[j]? = some u → w.cell? (ad.add j) = some u) (h1 : ∀ u ∈ news, u.oneCell' = true)
 (h63 : n + m ≤ maxLen) (hbytes : (n + m) * bytes ≤ 140737488355328) {v' : Value} {w' : World} (hr : (Builtin.append_ #[t, t] ty #[v, .slice (some ad) m c]).run P w = .ok v' w') :
 v'.ownBlock = v.ownBlock ∨ ∀ b, v'.ownBlock = some b → w.heap.size ≤ b := by
 have hlen := hown.1
 rcases hown.2 with ⟨hv, hx⟩ | ⟨g, cap, cur, rfl, hb, hg, hn, hm, hs, htk⟩
 ·subst hx
  subst hv
  have hx0 : xs = [] := List.eq_nil_of_length_eq_zero (by simpa using hlen)
  subst hx0
  obtain ⟨v1, w1, hr1, ho1, _, _⟩ := run_append_own (P := P) w w.heap.size t ty e i z 1 bytes ht hi hz hsize hby hzs (by decide) _ 0 [] (World.ownsRow_nil w w.heap.size e 1) ad m c news hl hnews h1 h63 hbytes (Nat.le_refl _)
  rw [hr] at hr1
  injection hr1 with e1 e2
  subst e1; subst e2
  exact .inr fun b hb => (ho1.lt b hb).1
 ·by_cases hroom : n + m ≤ cap
  ·have hr1 := run_append_room (P := P) w t ty e i ht hi g n cap cur hg ad m c news (by rw [hsize]; exact hl) hnews h1 hroom (by rw [hsize]; omega)
   rw [hr] at hr1
   injection hr1 with e1 e2
   subst e1
   exact .inl rfl
  ·obtain ⟨v1, w1, hr1, ho1, _⟩ := run_append_arg_grows (P := P) w t ty e i z 1 bytes ht hi hz hsize hby hzs (by decide) ⟨g, 0, none⟩ n cap xs hown.1 (fun j u hu => hown.cells rfl j u hu) ad m c news hl hnews (by omega) h63 hbytes
   rw [hr] at hr1
   injection hr1 with e1 e2
   subst e1; subst e2
   exact .inr fun b hb => (ho1.lt b hb).1
theorem wpList_app2 {ops : Array Oper} {rest : List Oper} {o : Oper} {a : Act} {Q : Exit → Act → World → Prop} (hgd : o.guard = none) (s x : Operand) (t : TypeId)
 (ho : o.op = .call { callee := .builtin .append, args := #[s, x], argTypes := #[t, t] })
 (base : Nat) (e : TypeId) (i : TypeInfo) (z : Value) (bytes : Nat) (ht : P.underlying t = some (.slice e)) (hi : P.info? e = some i) (hz : i.zero = some z)
 (hsize : i.size = 1) (hby : i.bytes = bytes) (hzs : z.cells.size = 1)
 (v : Value) (n : Nat) (xs : List Value) (hs : a.eval s = v) (hown : w.ownsRow base e 1 v n xs)
 (ad : Addr) (m c : Nat) (news : List Value) (hx : a.eval x = .slice (some ad) m c) (hsl : Sl w (some ad) m news) (h1 : ∀ u ∈ news, u.oneCell' = true)
 (h63 : n + m ≤ maxLen) (hbytes : (n + m) * bytes ≤ 140737488355328) (hbase : base ≤ w.heap.size)
 (h : ∀ v' w', w'.ownsRow base e 1 v' (n + m) (xs ++ news) → w.grownBy w' v.ownBlock → (v'.ownBlock = v.ownBlock ∨ ∀ b, v'.ownBlock = some b → w.heap.size ≤ b) → wpList P ops Q rest (a.put o.dst v') w') :
 wpList P ops Q (o :: rest) a w := by
 have hnews : ∀ j u, news[j]? = some u → w.cell? (ad.add j) = some u := fun j u hu => by
  obtain ⟨ad', ha, _, hc⟩ := hsl.2 j u hu
  injection ha with ha
  subst ha
  exact hc
 obtain ⟨v', w', hr, h2, h3, _⟩ := run_append_own (P := P) w base t o.type e i z 1 bytes ht hi hz hsize hby hzs (by decide) v n xs hown ad m c news (by rw [hsl.1, Nat.mul_one]) hnews h1 h63 hbytes hbase
 have hw := app_where w base t o.type e i z bytes ht hi hz hsize hby hzs v n xs hown ad m c news (by rw [hsl.1, Nat.mul_one]) hnews h1 h63 hbytes hr
 refine wpList_plain hgd fun K hK => ?_
 unfold Oper.wp execOp
 simp only [ho, resolve, invoke, builtin, Sem.run_bind, Sem.run_pure, Result.andThen_ok, List.map_toArray, List.map_cons, List.map_nil, hs, hx, hr]
 exact hK _ _ (h v' w' h2 h3 hw)
end
def Kept (row : Option Nat) (w W0 : World) : Prop := w.heap.size ≤ W0.heap.size ∧ ∀ b, b < w.heap.size → some b ≠ row → W0.heap[b]? = w.heap[b]?
theorem Kept.refl (row : Option Nat) (w : World) : Kept row w w := ⟨Nat.le_refl _, fun _ _ _ => rfl⟩
theorem Kept.ext {w W0 : World} (row : Option Nat) (h : Ext w W0) : Kept row w W0 := ⟨Ext.size h, fun b hb _ => Below.block h b hb⟩
theorem Kept.grown {w W0 : World} {row : Option Nat} (h : w.grownBy W0 row) : Kept row w W0 := ⟨h.size, fun b hb hn => h.block b hb hn⟩
theorem Kept.trans {row row' : Option Nat} {a b c : World} (h : Kept row a b) (k : Kept row' b c) (hr : row' = row ∨ ∀ x, row' = some x → a.heap.size ≤ x) : Kept row a c :=
 ⟨Nat.le_trans h.1 k.1, fun x hx hn => by
  refine (k.2 x (Nat.lt_of_lt_of_le hx h.1) fun e => ?_).trans (h.2 x hx hn)
  rcases hr with hr | hr
  ·exact hn (e.trans hr)
  ·have := hr x e.symm; omega⟩
theorem Sl.kept {w W0 : World} {row : Option Nat} {A : Option Addr} {n : Nat} {xs : List Value} (h : Sl w A n xs) (hk : Kept row w W0) (hr : ∀ ad, A = some ad → some ad.block ≠ row) : Sl W0 A n xs :=
 ⟨h.1, fun j u hu => by
  obtain ⟨ad, ha, hb, hc⟩ := h.2 j u hu
  refine ⟨ad, ha, Nat.lt_of_lt_of_le hb hk.1, ?_⟩
  rw [← hc]
  exact World.cell?_of_block (by rw [addr_block]; exact hk.2 ad.block hb (hr ad ha))⟩
theorem Sl.lit (w : World) (cs : Array Value) (t : TypeId) (n : Nat) (hn : cs.size = n) : Sl (w.alloc (.cells cs t)) (some ⟨w.heap.size, 0, none⟩) n cs.toList :=
 ⟨by simpa using hn, fun j u hu => ⟨_, rfl, by simp, by
  have e1 : (⟨w.heap.size, 0, none⟩ : Addr).add j = ⟨w.heap.size, j, none⟩ := by
   unfold Addr.add
   split
   ·subst_vars; rfl
   ·simp
  rw [e1, cell_of_row _ w.heap.size j cs t (0, 0) (heap_alloc_new w _)]
  simpa using hu⟩⟩
end Go.Proofs.YtljdlkonlnjadaaGreatDoor
namespace Go.Proofs.YtljdlkonlnjadaaGreatDoor
open Go.RowKit
theorem own_slN {w : World} {B : Nat} {e : TypeId} {size : Nat} {v : Value} {n : Nat} {xs : List Value} (h : w.ownsRow B e size v n xs) :
 ∃ A c, v = .slice A n c ∧ SlN w A n size xs := by
 obtain ⟨hl, h⟩ := h
 rcases h with ⟨rfl, rfl⟩ | ⟨g, cap, cur, rfl, hb, hg, hn, hm, hs, ht⟩
 ·exact ⟨none, 0, rfl, hl, fun j u hu => by
   have : xs = [] := List.eq_nil_of_length_eq_zero (by simpa using hl)
   subst this
   simp at hu⟩
 ·refine ⟨some ⟨g, 0, none⟩, cap, rfl, hl, fun j u hu => ⟨g, 0, rfl, (Array.getElem?_eq_some_iff.1 hg).1, ?_⟩⟩
  rw [cell_of_row w g (0 + j) cur e (0, 0) hg]
  have h3 : (cur.toList.take (n * size))[j]? = some u := by rw [ht]; exact hu
  rw [List.getElem?_take] at h3
  rw [Nat.zero_add]
  split at h3
  ·simpa using h3
  ·cases h3
section
variable {P : Program} (w : World)
theorem appN_where (base : Nat) (t ty e : TypeId) (i : TypeInfo) (z : Value) (size bytes : Nat) (ht : P.underlying t = some (.slice e)) (hi : P.info? e = some i) (hz : i.zero = some z)
 (hsize : i.size = size) (hby : i.bytes = bytes) (hzs : z.cells.size = size) (hpos : 0 < size) (v : Value) (n : Nat) (xs : List Value) (hown : w.ownsRow base e size v n xs)
 (ad : Addr) (m c : Nat) (news : List Value) (hl : news.length = m * size) (hnews : ∀ j u, news[j]? = some u → w.cell? (ad.add j) = some u) (h1 : ∀ u ∈ news, u.oneCell' = true)
 (h63 : n + m ≤ maxLen) (hbytes : (n + m) * bytes ≤ 140737488355328) {v' : Value} {w' : World} (hr : (Builtin.append_ #[t, t] ty #[v, .slice (some ad) m c]).run P w = .ok v' w') :
 v'.ownBlock = v.ownBlock ∨ ∀ b, v'.ownBlock = some b → w.heap.size ≤ b := by
 have hlen := hown.1
 rcases hown.2 with ⟨hv, hx⟩ | ⟨g, cap, cur, rfl, hb, hg, hn, hm, hs, htk⟩
 ·subst hx
  subst hv
  have hx0 : xs = [] := List.eq_nil_of_length_eq_zero (by simpa using hlen)
  subst hx0
  obtain ⟨v1, w1, hr1, ho1, _, _⟩ := run_append_own (P := P) w w.heap.size t ty e i z size bytes ht hi hz hsize hby hzs hpos _ 0 [] (World.ownsRow_nil w w.heap.size e size) ad m c news hl hnews h1 h63 hbytes (Nat.le_refl _)
  rw [hr] at hr1
  injection hr1 with e1 e2
  subst e1; subst e2
  exact .inr fun b hb => (ho1.lt b hb).1
 ·by_cases hroom : n + m ≤ cap
  ·have hr1 := run_append_room (P := P) w t ty e i ht hi g n cap cur hg ad m c news (by rw [hsize]; exact hl) hnews h1 hroom (by rw [hsize, hl, hs, ← Nat.add_mul]; exact Nat.mul_le_mul_right _ hroom)
   rw [hr] at hr1
   injection hr1 with e1 e2
   subst e1
   exact .inl rfl
  ·obtain ⟨v1, w1, hr1, ho1, _⟩ := run_append_arg_grows (P := P) w t ty e i z size bytes ht hi hz hsize hby hzs hpos ⟨g, 0, none⟩ n cap xs hown.1 (fun j u hu => hown.cells rfl j u hu) ad m c news hl hnews (by omega) h63 hbytes
   rw [hr] at hr1
   injection hr1 with e1 e2
   subst e1; subst e2
   exact .inr fun b hb => (ho1.lt b hb).1
theorem wpList_appN {ops : Array Oper} {rest : List Oper} {o : Oper} {a : Act} {Q : Exit → Act → World → Prop} (hgd : o.guard = none) (s x : Operand) (t : TypeId)
 (ho : o.op = .call { callee := .builtin .append, args := #[s, x], argTypes := #[t, t] })
 (base : Nat) (e : TypeId) (i : TypeInfo) (z : Value) (size bytes : Nat) (ht : P.underlying t = some (.slice e)) (hi : P.info? e = some i) (hz : i.zero = some z)
 (hsize : i.size = size) (hby : i.bytes = bytes) (hzs : z.cells.size = size) (hpos : 0 < size)
 (v : Value) (n : Nat) (xs : List Value) (hs : a.eval s = v) (hown : w.ownsRow base e size v n xs)
 (ad : Addr) (m c : Nat) (news : List Value) (hx : a.eval x = .slice (some ad) m c) (hl : news.length = m * size) (hnews : ∀ j u, news[j]? = some u → w.cell? (ad.add j) = some u) (h1 : ∀ u ∈ news, u.oneCell' = true)
 (h63 : n + m ≤ maxLen) (hbytes : (n + m) * bytes ≤ 140737488355328) (hbase : base ≤ w.heap.size)
 (h : ∀ v' w', w'.ownsRow base e size v' (n + m) (xs ++ news) → w.grownBy w' v.ownBlock → (v'.ownBlock = v.ownBlock ∨ ∀ b, v'.ownBlock = some b → w.heap.size ≤ b) → wpList P ops Q rest (a.put o.dst v') w') :
 wpList P ops Q (o :: rest) a w := by
 obtain ⟨v', w', hr, h2, h3, _⟩ := run_append_own (P := P) w base t o.type e i z size bytes ht hi hz hsize hby hzs hpos v n xs hown ad m c news hl hnews h1 h63 hbytes hbase
 have hw := appN_where w base t o.type e i z size bytes ht hi hz hsize hby hzs hpos v n xs hown ad m c news hl hnews h1 h63 hbytes hr
 refine wpList_plain hgd fun K hK => ?_
 unfold Oper.wp execOp
 simp only [ho, resolve, invoke, builtin, Sem.run_bind, Sem.run_pure, Result.andThen_ok, List.map_toArray, List.map_cons, List.map_nil, hs, hx, hr]
 exact hK _ _ (h v' w' h2 h3 hw)
end
theorem new_cells (w : World) (cs : Array Value) (t : TypeId) : ∀ j u, cs.toList[j]? = some u → (w.alloc (.cells cs t)).cell? ((⟨w.heap.size, 0, none⟩ : Addr).add j) = some u := by
 intro j u hu
 rw [add_flat, Nat.zero_add, cell_of_row _ w.heap.size j cs t (0, 0) (heap_alloc_new w _)]
 simpa using hu
end Go.Proofs.YtljdlkonlnjadaaGreatDoor
namespace Go.Proofs.YtljdlkonlnjadaaGreatDoor
open Go.RowKit Go.Maps Go.Sort Go.WideMaps
section
variable {P : Program} {k e t : TypeId} {w w' : World} {b n : Nat} {ks : List (List UInt8)}
theorem plainElem_bool_inv {H : Type} (he : P.underlying e = some .bool) {v : Value} {x : Bool} {ps : List MemPlace} (h : plainElem (H := H) P e v = some (.lit (.bool x), ps)) : v = .bool x := by
 unfold plainElem at h
 rw [he] at h
 cases v <;> simp at h
 rw [h.1]
def MapS (P : Program) (k e : TypeId) (w : World) (b n : Nat) (ks : List (List UInt8)) : Prop :=
 ∃ D : DataW Unit, w.ownsMap P k (plainElem P e) b n D ∧ (∀ x, D.atKey (.string x) (.lit (.bool false)) = .lit (.bool (decide (x ∈ ks)))) ∧ (∀ x, Maps.has D (.string x) = decide (x ∈ ks))
theorem MapS.lt (h : MapS P k e w b n ks) : b < w.heap.size := by obtain ⟨D, h, _⟩ := h; exact h.lt
theorem MapS.below {B : Nat} (h : MapS P k e w b n ks) (hw : Below B w w') (hb : b < B) : MapS P k e w' b n ks := by
 obtain ⟨D, ⟨es, clock, hh, r⟩, h2⟩ := h
 exact ⟨D, ⟨es, clock, (Below.block hw b hb).trans hh, r⟩, h2⟩
theorem MapS.ext (h : MapS P k e w b n ks) (hw : Ext w w') : MapS P k e w' b n ks := h.below hw h.lt
theorem MapS.kept {row : Option Nat} (h : MapS P k e w b n ks) (hg : w.grownBy w' row) (hne : some b ≠ row) : MapS P k e w' b n ks := by
 obtain ⟨D, h, r⟩ := h
 exact ⟨D, h.kept hg hne, r⟩
theorem MapS.alloc (h : MapS P k e w b n ks) (o : Obj) : MapS P k e (w.alloc o) b n ks := by
 obtain ⟨D, h, r⟩ := h
 exact ⟨D, h.alloc o, r⟩
theorem MapS.setCell (h : MapS P k e w b n ks) {a : Addr} (ha : b ≠ a.block) (u : Value) : MapS P k e (w.setCell a u) b n ks := by
 obtain ⟨D, h, r⟩ := h
 exact ⟨D, h.setCell ha u, r⟩
theorem MapS.mono {m : Nat} (h : MapS P k e w b n ks) (hm : n ≤ m) : MapS P k e w b m ks := by
 obtain ⟨D, h, r⟩ := h
 exact ⟨D, h.mono hm, r⟩
theorem MapS.made (P : Program) (k e : TypeId) (w : World) : MapS P k e (w.alloc (.map #[] 0)) w.heap.size 0 [] :=
 ⟨.map [], World.ownsMap_made w P k _, fun x => by simp [DataW.atKey], fun x => by simp [Maps.has]⟩
theorem MapS.same {ks' : List (List UInt8)} (h : MapS P k e w b n ks) (hm : ∀ x, x ∈ ks' ↔ x ∈ ks) : MapS P k e w b n ks' := by
 obtain ⟨D, h, h1, h2⟩ := h
 exact ⟨D, h, fun x => by rw [h1]; simp [hm x], fun x => by rw [h2]; simp [hm x]⟩
theorem MapS.lookup (h : MapS P k e w b n ks) (hk : P.underlying k = some .string) (he : P.underlying e = some .bool) (ht : P.underlying t = some (.map k e)) (hz : (zeroValue e).run P w = .ok (.bool false) w)
 (s : ByteArray) (hs : s.size ≤ maxLen) : (Instr.lookup t (.map (some b)) (.string s) false).run P w = .ok (.bool (decide (s.data.toList ∈ ks))) w := by
 obtain ⟨D, h, h1, _⟩ := h
 obtain ⟨v, ps, hrun, hv⟩ := h.lookup (string_keyed hk) ht hz (plainElem_bool he false) (keyOf_string_mk hk hs)
 rw [h1] at hv
 rw [plainElem_bool_inv he hv] at hrun
 exact hrun
theorem MapS.update (h : MapS P k e w b n ks) (hk : P.underlying k = some .string) (he : P.underlying e = some .bool) (ht : P.underlying t = some (.map k e)) (hn : n < maxLen)
 (s : ByteArray) (hs : s.size ≤ maxLen) : ∃ w', (Instr.mapUpdate t (.map (some b)) (.string s) (.bool true)).run P w = .ok () w' ∧ MapS P k e w' b (n + 1) (ks ++ [s.data.toList]) ∧ w.grownBy w' (some b) := by
 obtain ⟨D, h, h1, h2⟩ := h
 obtain ⟨w', hrun, h3, h4⟩ := h.update (string_keyed hk) ht hn (keyOf_string_mk hk hs) (plainElem_bool he true)
 refine ⟨w', hrun, ⟨_, h3, fun x => ?_, fun x => ?_⟩, h4⟩
 ·by_cases hx : x = s.data.toList
  ·subst hx
   rw [Maps.atKey_put_same h.isMap (by simp [WideAt.IsKeyLit])]
   simp
  ·rw [Maps.atKey_put_other (by simpa using hx), h1]
   simp [hx]
 ·by_cases hx : x = s.data.toList
  ·subst hx
   rw [Maps.has_put_same h.isMap (by simp [WideAt.IsKeyLit])]
   simp
  ·rw [Maps.has_put_other (by simpa using hx), h2]
   simp [hx]
theorem MapS.keys (h : MapS P k e w b n ks) (hk : P.underlying k = some .string) : ∃ D : DataW Unit, w.ownsMap P k (plainElem P e) b n D ∧ Maps.size D ≤ n ∧ (strKeys D).Nodup ∧ ∀ x, x ∈ strKeys D ↔ x ∈ ks := by
 obtain ⟨D, h, _, h2⟩ := h
 refine ⟨D, h, h.size_le, ?_⟩
 obtain ⟨es, hD, hpw, _⟩ := h.entries (string_keyed hk)
 obtain ⟨es', hD', hko⟩ := h.keysOf
 obtain rfl : es = es' := by rw [hD] at hD'; simpa using hD'
 subst hD
 have hstr : ∀ p ∈ es, ∃ x, p.1 = .string x := fun p hp => by
  obtain ⟨v, hv⟩ := hko p hp
  obtain ⟨x, _, hx, _⟩ := Maps.keyOf_str hk hv
  exact ⟨x, hx⟩
 have hnd : (strKeys (.map es : DataW Unit)).Nodup := by
  show (es.map fun p => strOf p.1).Nodup
  refine List.pairwise_map.2 (hpw.imp_of_mem fun {p q} hp' hq' hne e => hne ?_)
  obtain ⟨a, ha⟩ := hstr p hp'
  obtain ⟨b, hb⟩ := hstr q hq'
  rw [ha, hb] at e ⊢
  exact congrArg _ e
 refine ⟨hnd, fun x => ?_⟩
 have h3 := h2 x
 rw [Maps.has_eq] at h3
 constructor
 ·intro hx
  obtain ⟨p, hp, hpx⟩ := List.mem_map.1 (show x ∈ es.map fun p => strOf p.1 from hx)
  obtain ⟨a, ha⟩ := hstr p hp
  have : (es.any fun p => p.1.sameKey (.string x)) = true := List.any_eq_true.2 ⟨p, hp, by rw [ha] at hpx ⊢; simpa [Lit.sameKey, strOf] using hpx⟩
  rw [this] at h3
  simpa using h3.symm
 ·intro hx
  have : (es.any fun p => p.1.sameKey (.string x)) = true := by rw [h3]; simpa using hx
  obtain ⟨p, hp, hs⟩ := List.any_eq_true.1 this
  obtain ⟨a, ha⟩ := hstr p hp
  refine List.mem_map.2 ⟨p, hp, ?_⟩
  rw [ha] at hs ⊢
  simpa [Lit.sameKey, strOf] using hs
theorem wpList_mapUpdateS {w : World} {ops : Array Oper} {rest : List Oper} {o : Oper} {a : Act} {Q : Exit → Act → World → Prop} (hg : o.guard = none) (m x v : Operand) (t k e : TypeId) (hop : o.op = Op.mapUpdate t m x v)
 (hk : P.underlying k = some .string) (he : P.underlying e = some .bool) (ht : P.underlying t = some (.map k e)) (b n : Nat) (ks : List (List UInt8))
 (hm : a.eval m = .map (some b)) (h : MapS P k e w b n ks) (hn : n < maxLen) (s : ByteArray) (hx : a.eval x = .string s) (hv : a.eval v = .bool true) (hs : s.size ≤ maxLen)
 (hK : ∀ w', MapS P k e w' b (n + 1) (ks ++ [s.data.toList]) → w.grownBy w' (some b) → wpList P ops Q rest (a.put o.dst undef) w') : wpList P ops Q (o :: rest) a w := by
 refine wpList_plain hg fun K' hK' => ?_
 obtain ⟨w', hrun, r1, r2⟩ := h.update hk he ht hn s hs
 unfold Oper.wp
 simp [execOp, hop, hm, hx, hv, hrun, Result.andThen]
 exact hK' _ _ (hK w' r1 r2)
end
end Go.Proofs.YtljdlkonlnjadaaGreatDoor
namespace Go.Proofs.YtljdlkonlnjadaaGreatDoor
open Go.RowKit Go.Maps Go.Sort Go.WideMaps
section
variable {P : Program} {k s e t : TypeId} {w w' : World} {b n : Nat} {ks : List (List UInt8 × List UInt8)}
def kvP (p : ByteArray × ByteArray) : Value := .agg #[.string p.1, .string p.2]
def klP (p : ByteArray × ByteArray) : Lit := .string (keyBytes [.string p.1.data.toList, .string p.2.data.toList])
def bp (p : ByteArray × ByteArray) : List UInt8 × List UInt8 := (p.1.data.toList, p.2.data.toList)
theorem bp_inj {p q : ByteArray × ByteArray} (h : bp p = bp q) : p = q := by
 unfold bp at h
 injection h with h1 h2
 exact Prod.ext (ByteArray.ext (Array.toList_inj.1 h1)) (ByteArray.ext (Array.toList_inj.1 h2))
def okP (p : ByteArray × ByteArray) : Prop := p.1.size ≤ maxLen ∧ p.2.size ≤ maxLen
theorem keyOf_strs (A : ArrKey P k s 2) (hs : P.underlying s = some .string) (hsz : ∃ m, P.types.size = m + 1) {p : ByteArray × ByteArray} (hp : okP p) : keyOf P k (kvP p) = some (klP p) := by
 have hkt := A.keyType hsz
 obtain ⟨m, hm⟩ := hsz
 obtain ⟨h1, h2⟩ := hp
 unfold keyOf kvP klP
 simp only [A.hu]
 rw [if_pos (by simp [hkt, Value.formed, A.hu, A.size]), hm]
 unfold Program.keyLits
 simp only [A.hu, Value.cells]
 rw [if_pos (by rw [A.size]; rfl), show List.range 2 = [0, 1] from rfl, List.mapM_cons, List.mapM_cons, List.mapM_nil]
 simp [A.one, Program.keyLits, hs, h1, h2]
theorem klP_inj (A : ArrKey P k s 2) (hs : P.underlying s = some .string) (hsz : ∃ m, P.types.size = m + 1) {p q : ByteArray × ByteArray} (hp : okP p) (hq : okP q) (h : klP p = klP q) : p = q := by
 have h1 := keyOf_strs A hs hsz hp
 have h2 := keyOf_strs A hs hsz hq
 rw [← h] at h2
 have h3 := (Keyed.of_law A.law).inj h1 h2
 unfold kvP at h3
 simp at h3
 exact Prod.ext h3.1 h3.2
def MapA (P : Program) (k e : TypeId) (w : World) (b n : Nat) (ks : List (List UInt8 × List UInt8)) : Prop :=
 ∃ D : DataW Unit, w.ownsMap P k (plainElem P e) b n D ∧ ∀ p, okP p → D.atKey (klP p) (.lit (.bool false)) = .lit (.bool (decide (bp p ∈ ks)))
theorem MapA.lt (h : MapA P k e w b n ks) : b < w.heap.size := by obtain ⟨D, h, _⟩ := h; exact h.lt
theorem MapA.below {B : Nat} (h : MapA P k e w b n ks) (hw : Below B w w') (hb : b < B) : MapA P k e w' b n ks := by
 obtain ⟨D, ⟨es, clock, hh, r⟩, h2⟩ := h
 exact ⟨D, ⟨es, clock, (Below.block hw b hb).trans hh, r⟩, h2⟩
theorem MapA.ext (h : MapA P k e w b n ks) (hw : Ext w w') : MapA P k e w' b n ks := h.below hw h.lt
theorem MapA.alloc (h : MapA P k e w b n ks) (o : Obj) : MapA P k e (w.alloc o) b n ks := h.ext ((Ext.refl w).alloc o)
theorem MapA.made (P : Program) (k e : TypeId) (w : World) : MapA P k e (w.alloc (.map #[] 0)) w.heap.size 0 [] :=
 ⟨.map [], World.ownsMap_made w P k _, fun x _ => by simp [DataW.atKey]⟩
theorem MapA.lookup (h : MapA P k e w b n ks) (A : ArrKey P k s 2) (hs : P.underlying s = some .string) (hsz : ∃ m, P.types.size = m + 1) (he : P.underlying e = some .bool) (ht : P.underlying t = some (.map k e)) (hz : (zeroValue e).run P w = .ok (.bool false) w)
 (p : ByteArray × ByteArray) (hp : okP p) : (Instr.lookup t (.map (some b)) (kvP p) false).run P w = .ok (.bool (decide (bp p ∈ ks))) w := by
 obtain ⟨D, h, h1⟩ := h
 obtain ⟨v, ps, hrun, hv⟩ := h.lookup (Keyed.of_law A.law) ht hz (plainElem_bool he false) (keyOf_strs A hs hsz hp)
 rw [h1 p hp] at hv
 rw [plainElem_bool_inv he hv] at hrun
 exact hrun
theorem MapA.update (h : MapA P k e w b n ks) (A : ArrKey P k s 2) (hs : P.underlying s = some .string) (hsz : ∃ m, P.types.size = m + 1) (he : P.underlying e = some .bool) (ht : P.underlying t = some (.map k e)) (hn : n < maxLen)
 (p : ByteArray × ByteArray) (hp : okP p) : ∃ w', (Instr.mapUpdate t (.map (some b)) (kvP p) (.bool true)).run P w = .ok () w' ∧ MapA P k e w' b (n + 1) (ks ++ [bp p]) ∧ w.grownBy w' (some b) := by
 obtain ⟨D, h, h1⟩ := h
 obtain ⟨w', hrun, h3, h4⟩ := h.update (Keyed.of_law A.law) ht hn (keyOf_strs A hs hsz hp) (plainElem_bool he true)
 refine ⟨w', hrun, ⟨_, h3, fun x hx => ?_⟩, h4⟩
 by_cases hxp : x = p
 ·subst hxp
  rw [Maps.atKey_put_same h.isMap (by simp [klP, WideAt.IsKeyLit])]
  simp
 ·rw [Maps.atKey_put_other (fun e => hxp (klP_inj A hs hsz hx hp e)), h1 x hx]
  have hb : ¬ bp x = bp p := fun e => hxp (bp_inj e)
  simp [hb]
theorem wpList_mapUpdateA {w : World} {ops : Array Oper} {rest : List Oper} {o : Oper} {a : Act} {Q : Exit → Act → World → Prop} (hg : o.guard = none) (m x v : Operand) (t k e : TypeId) (hop : o.op = Op.mapUpdate t m x v)
 (A : ArrKey P k s 2) (hs : P.underlying s = some .string) (hsz : ∃ m, P.types.size = m + 1) (he : P.underlying e = some .bool) (ht : P.underlying t = some (.map k e)) (b n : Nat) (ks : List (List UInt8 × List UInt8))
 (hm : a.eval m = .map (some b)) (h : MapA P k e w b n ks) (hn : n < maxLen) (p : ByteArray × ByteArray) (hx : a.eval x = kvP p) (hv : a.eval v = .bool true) (hp : okP p)
 (hK : ∀ w', MapA P k e w' b (n + 1) (ks ++ [bp p]) → w.grownBy w' (some b) → wpList P ops Q rest (a.put o.dst undef) w') : wpList P ops Q (o :: rest) a w := by
 refine wpList_plain hg fun K' hK' => ?_
 obtain ⟨w', hrun, r1, r2⟩ := h.update A hs hsz he ht hn p hp
 unfold Oper.wp
 simp [execOp, hop, hm, hx, hv, hrun, Result.andThen]
 exact hK' _ _ (hK w' r1 r2)
end
end Go.Proofs.YtljdlkonlnjadaaGreatDoor
