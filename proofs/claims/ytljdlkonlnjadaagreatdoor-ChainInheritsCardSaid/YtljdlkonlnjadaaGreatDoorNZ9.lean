import Derived.Test.YtljdlkonlnjadaaGreatDoorNZ7
import Derived.Test.YtljdlkonlnjadaaGreatDoorNX4
import Derived.Deep.RegionHeld3
set_option maxRecDepth 100000
set_option linter.unusedSimpArgs false
set_option linter.unusedVariables false
open Go.Lib (hid)
namespace Go.Proofs.YtljdlkonlnjadaaGreatDoor
open Go.RowKit
set_option maxHeartbeats 2000000 in
theorem clRu_any (xs : List Value) (A : Option Addr) (n c : Nat) (w : World) (hs : SlN w A n 2 xs) (h1 : ∀ u ∈ xs, u.oneCell' = true) (hn : n * 40 ≤ lim47) :
 Calls Tryz.prog 61 #[.slice A n c] w fun e w' => ∃ v', e = .returned v' ∧ w'.ownsRow w.heap.size 61 2 v' n xs ∧ Ext w w' := by
 obtain ⟨i0, hi, hz0, hz1, hz2⟩ := info_parts (show (Tryz.prog.info? 61).map (fun i => (i.zero, i.size, i.bytes)) = some (some (.agg #[.string ⟨#[]⟩, .slice none 0 0]), 2, 40) from by kernel_rfl)
 have hno : A.isNone = true → n = 0 ∧ xs = [] := fun hq => by
  cases A with
  | some ad => cases hq
  | none =>
    cases hy : xs with
    | nil => exact ⟨by have := hs.1; rw [hy] at this; simp at this; omega, rfl⟩
    | cons x r =>
      obtain ⟨b, o, ha, _⟩ := hs.2 0 x (by rw [hy]; rfl)
      cases ha
 have hfl : ∀ ad, A = some ad → ∀ j u, xs[j]? = some u → (w.alloc (.cells #[] 61)).cell? (ad.add j) = some u := fun ad ha j u hu => by
  obtain ⟨b, o, ha2, hb, hc⟩ := (hs.ext ((Ext.refl w).alloc _)).2 j u hu
  rw [ha] at ha2
  injection ha2 with ha2
  subst ha2
  rw [add_flat]
  exact hc
 have HN := hid hno
 have HF := hid hfl
 have HL := hid hs.1
 have HLM := hid hn
 clear hs hno hfl hn
 have q24 : ∀ (w : World) (a : Option Addr) (n c n' c' : Nat), (binOp .eql 29 (.slice a n c) (.slice none n' c')).run Tryz.prog w = .ok (.bool a.isNone) w := fun w a n c n' c' => Lib.run_eql_slice_nil w _ _ a n c n' c' Tryz.underlying29
 cases hq : A.isNone
 ·obtain ⟨ad, rfl⟩ : ∃ ad, A = some ad := by cases A with | none => cases hq | some ad => exact ⟨ad, rfl⟩
  have hl47 : n * 40 ≤ 140737488355328 := HLM.out
  have hl63 : n ≤ maxLen := by unfold maxLen; omega
  have HL3 := hid hl47
  have HM3 := hid hl63
  clear hl47 hl63
  go_enter Tryz.func61, Tryz.ntmps61
  go_wp2_with (at_builtin; refine wpList_appN _ rfl _ _ 29 rfl w.heap.size 61 i0 _ 2 40 Tryz.underlying29 hi hz0 hz1 hz2 rfl (by decide) _ 0 [] rfl (World.ownsRow_made w #[] 0 (Nat.le_refl _) (Nat.zero_le _) rfl) ad n c _ rfl HL.out (HF.out ad rfl) h1 (by rw [Nat.zero_add]; exact HM3.out) (by rw [Nat.zero_add]; exact HL3.out) (by simp) ?_)
  intro v' w' ho hg hwh
  try rw [List.nil_append] at ho
  try rw [Nat.zero_add] at ho
  obtain ⟨A5, c5, hv5, hs5⟩ := own_slN ho
  subst hv5
  have HO := hid ho
  have HW5 := hid (((Ext.refl w).alloc _).grown hg (by intro k hk; simp [Value.ownBlock] at hk; omega))
  clear ho hs5 hg hwh
  go_wp2
  go_ret
  exact ⟨_, rfl, HO.out, HW5.out⟩
 ·obtain ⟨rfl, rfl⟩ := HN.out hq
  go_enter Tryz.func61, Tryz.ntmps61
  go_wp2
  go_ret
  exact ⟨_, rfl, World.ownsRow_nil _ _ _ _, Ext.refl w⟩
set_option maxHeartbeats 2000000 in
theorem clCj_any (xs : List Value) (A : Option Addr) (n c : Nat) (w : World) (hs : SlN w A n 1 xs) (h1 : ∀ u ∈ xs, u.oneCell' = true) (hn : n * 24 ≤ lim47) :
 Calls Tryz.prog 62 #[.slice A n c] w fun e w' => ∃ v', e = .returned v' ∧ w'.ownsRow w.heap.size 112 1 v' n xs ∧ Ext w w' := by
 obtain ⟨i0, hi, hz0, hz1, hz2⟩ := info_parts (show (Tryz.prog.info? 112).map (fun i => (i.zero, i.size, i.bytes)) = some (some (.slice none 0 0), 1, 24) from by kernel_rfl)
 have hno : A.isNone = true → n = 0 ∧ xs = [] := fun hq => by
  cases A with
  | some ad => cases hq
  | none =>
    cases hy : xs with
    | nil => exact ⟨by have := hs.1; rw [hy] at this; simp at this; omega, rfl⟩
    | cons x r =>
      obtain ⟨b, o, ha, _⟩ := hs.2 0 x (by rw [hy]; rfl)
      cases ha
 have hfl : ∀ ad, A = some ad → ∀ j u, xs[j]? = some u → (w.alloc (.cells #[] 112)).cell? (ad.add j) = some u := fun ad ha j u hu => by
  obtain ⟨b, o, ha2, hb, hc⟩ := (hs.ext ((Ext.refl w).alloc _)).2 j u hu
  rw [ha] at ha2
  injection ha2 with ha2
  subst ha2
  rw [add_flat]
  exact hc
 have HN := hid hno
 have HF := hid hfl
 have HL := hid hs.1
 have HLM := hid hn
 clear hs hno hfl hn
 have q24 : ∀ (w : World) (a : Option Addr) (n c n' c' : Nat), (binOp .eql 59 (.slice a n c) (.slice none n' c')).run Tryz.prog w = .ok (.bool a.isNone) w := fun w a n c n' c' => Lib.run_eql_slice_nil w _ _ a n c n' c' Tryz.underlying59
 cases hq : A.isNone
 ·obtain ⟨ad, rfl⟩ : ∃ ad, A = some ad := by cases A with | none => cases hq | some ad => exact ⟨ad, rfl⟩
  have hl47 : n * 24 ≤ 140737488355328 := HLM.out
  have hl63 : n ≤ maxLen := by unfold maxLen; omega
  have HL3 := hid hl47
  have HM3 := hid hl63
  clear hl47 hl63
  go_enter Tryz.func62, Tryz.ntmps62
  go_wp2_with (at_builtin; refine wpList_appN _ rfl _ _ 59 rfl w.heap.size 112 i0 _ 1 24 Tryz.underlying59 hi hz0 hz1 hz2 rfl (by decide) _ 0 [] rfl (World.ownsRow_made w #[] 0 (Nat.le_refl _) (Nat.zero_le _) rfl) ad n c _ rfl HL.out (HF.out ad rfl) h1 (by rw [Nat.zero_add]; exact HM3.out) (by rw [Nat.zero_add]; exact HL3.out) (by simp) ?_)
  intro v' w' ho hg hwh
  try rw [List.nil_append] at ho
  try rw [Nat.zero_add] at ho
  obtain ⟨A5, c5, hv5, hs5⟩ := own_slN ho
  subst hv5
  have HO := hid ho
  have HW5 := hid (((Ext.refl w).alloc _).grown hg (by intro k hk; simp [Value.ownBlock] at hk; omega))
  clear ho hs5 hg hwh
  go_wp2
  go_ret
  exact ⟨_, rfl, HO.out, HW5.out⟩
 ·obtain ⟨rfl, rfl⟩ := HN.out hq
  go_enter Tryz.func62, Tryz.ntmps62
  go_wp2
  go_ret
  exact ⟨_, rfl, World.ownsRow_nil _ _ _ _, Ext.refl w⟩
set_option maxHeartbeats 2000000 in
theorem clRl_any (xs : List Value) (A : Option Addr) (n c : Nat) (w : World) (hs : SlN w A n 4 xs) (h1 : ∀ u ∈ xs, u.oneCell' = true) (hn : n * 48 ≤ lim47) :
 Calls Tryz.prog 63 #[.slice A n c] w fun e w' => ∃ v', e = .returned v' ∧ w'.ownsRow w.heap.size 116 4 v' n xs ∧ Ext w w' := by
 obtain ⟨i0, hi, hz0, hz1, hz2⟩ := info_parts (show (Tryz.prog.info? 116).map (fun i => (i.zero, i.size, i.bytes)) = some (some (.agg #[.int .i64 0, .int .i64 0, .bool false, .slice none 0 0]), 4, 48) from by kernel_rfl)
 have hno : A.isNone = true → n = 0 ∧ xs = [] := fun hq => by
  cases A with
  | some ad => cases hq
  | none =>
    cases hy : xs with
    | nil => exact ⟨by have := hs.1; rw [hy] at this; simp at this; omega, rfl⟩
    | cons x r =>
      obtain ⟨b, o, ha, _⟩ := hs.2 0 x (by rw [hy]; rfl)
      cases ha
 have hfl : ∀ ad, A = some ad → ∀ j u, xs[j]? = some u → (w.alloc (.cells #[] 116)).cell? (ad.add j) = some u := fun ad ha j u hu => by
  obtain ⟨b, o, ha2, hb, hc⟩ := (hs.ext ((Ext.refl w).alloc _)).2 j u hu
  rw [ha] at ha2
  injection ha2 with ha2
  subst ha2
  rw [add_flat]
  exact hc
 have HN := hid hno
 have HF := hid hfl
 have HL := hid hs.1
 have HLM := hid hn
 clear hs hno hfl hn
 have q24 : ∀ (w : World) (a : Option Addr) (n c n' c' : Nat), (binOp .eql 112 (.slice a n c) (.slice none n' c')).run Tryz.prog w = .ok (.bool a.isNone) w := fun w a n c n' c' => Lib.run_eql_slice_nil w _ _ a n c n' c' Tryz.underlying112
 cases hq : A.isNone
 ·obtain ⟨ad, rfl⟩ : ∃ ad, A = some ad := by cases A with | none => cases hq | some ad => exact ⟨ad, rfl⟩
  have hl47 : n * 48 ≤ 140737488355328 := HLM.out
  have hl63 : n ≤ maxLen := by unfold maxLen; omega
  have HL3 := hid hl47
  have HM3 := hid hl63
  clear hl47 hl63
  go_enter Tryz.func63, Tryz.ntmps63
  go_wp2_with (at_builtin; refine wpList_appN _ rfl _ _ 112 rfl w.heap.size 116 i0 _ 4 48 Tryz.underlying112 hi hz0 hz1 hz2 rfl (by decide) _ 0 [] rfl (World.ownsRow_made w #[] 0 (Nat.le_refl _) (Nat.zero_le _) rfl) ad n c _ rfl HL.out (HF.out ad rfl) h1 (by rw [Nat.zero_add]; exact HM3.out) (by rw [Nat.zero_add]; exact HL3.out) (by simp) ?_)
  intro v' w' ho hg hwh
  try rw [List.nil_append] at ho
  try rw [Nat.zero_add] at ho
  obtain ⟨A5, c5, hv5, hs5⟩ := own_slN ho
  subst hv5
  have HO := hid ho
  have HW5 := hid (((Ext.refl w).alloc _).grown hg (by intro k hk; simp [Value.ownBlock] at hk; omega))
  clear ho hs5 hg hwh
  go_wp2
  go_ret
  exact ⟨_, rfl, HO.out, HW5.out⟩
 ·obtain ⟨rfl, rfl⟩ := HN.out hq
  go_enter Tryz.func63, Tryz.ntmps63
  go_wp2
  go_ret
  exact ⟨_, rfl, World.ownsRow_nil _ _ _ _, Ext.refl w⟩
set_option maxHeartbeats 2000000 in
theorem clSp_any (xs : List Value) (A : Option Addr) (n c : Nat) (w : World) (hs : SlN w A n 2 xs) (h1 : ∀ u ∈ xs, u.oneCell' = true) (hn : n * 16 ≤ lim47) :
 Calls Tryz.prog 64 #[.slice A n c] w fun e w' => ∃ v', e = .returned v' ∧ w'.ownsRow w.heap.size 119 2 v' n xs ∧ Ext w w' := by
 obtain ⟨i0, hi, hz0, hz1, hz2⟩ := info_parts (show (Tryz.prog.info? 119).map (fun i => (i.zero, i.size, i.bytes)) = some (some (.agg #[.int .i64 0, .int .i64 0]), 2, 16) from by kernel_rfl)
 have hno : A.isNone = true → n = 0 ∧ xs = [] := fun hq => by
  cases A with
  | some ad => cases hq
  | none =>
    cases hy : xs with
    | nil => exact ⟨by have := hs.1; rw [hy] at this; simp at this; omega, rfl⟩
    | cons x r =>
      obtain ⟨b, o, ha, _⟩ := hs.2 0 x (by rw [hy]; rfl)
      cases ha
 have hfl : ∀ ad, A = some ad → ∀ j u, xs[j]? = some u → (w.alloc (.cells #[] 119)).cell? (ad.add j) = some u := fun ad ha j u hu => by
  obtain ⟨b, o, ha2, hb, hc⟩ := (hs.ext ((Ext.refl w).alloc _)).2 j u hu
  rw [ha] at ha2
  injection ha2 with ha2
  subst ha2
  rw [add_flat]
  exact hc
 have HN := hid hno
 have HF := hid hfl
 have HL := hid hs.1
 have HLM := hid hn
 clear hs hno hfl hn
 have q24 : ∀ (w : World) (a : Option Addr) (n c n' c' : Nat), (binOp .eql 114 (.slice a n c) (.slice none n' c')).run Tryz.prog w = .ok (.bool a.isNone) w := fun w a n c n' c' => Lib.run_eql_slice_nil w _ _ a n c n' c' Tryz.underlying114
 cases hq : A.isNone
 ·obtain ⟨ad, rfl⟩ : ∃ ad, A = some ad := by cases A with | none => cases hq | some ad => exact ⟨ad, rfl⟩
  have hl47 : n * 16 ≤ 140737488355328 := HLM.out
  have hl63 : n ≤ maxLen := by unfold maxLen; omega
  have HL3 := hid hl47
  have HM3 := hid hl63
  clear hl47 hl63
  go_enter Tryz.func64, Tryz.ntmps64
  go_wp2_with (at_builtin; refine wpList_appN _ rfl _ _ 114 rfl w.heap.size 119 i0 _ 2 16 Tryz.underlying114 hi hz0 hz1 hz2 rfl (by decide) _ 0 [] rfl (World.ownsRow_made w #[] 0 (Nat.le_refl _) (Nat.zero_le _) rfl) ad n c _ rfl HL.out (HF.out ad rfl) h1 (by rw [Nat.zero_add]; exact HM3.out) (by rw [Nat.zero_add]; exact HL3.out) (by simp) ?_)
  intro v' w' ho hg hwh
  try rw [List.nil_append] at ho
  try rw [Nat.zero_add] at ho
  obtain ⟨A5, c5, hv5, hs5⟩ := own_slN ho
  subst hv5
  have HO := hid ho
  have HW5 := hid (((Ext.refl w).alloc _).grown hg (by intro k hk; simp [Value.ownBlock] at hk; omega))
  clear ho hs5 hg hwh
  go_wp2
  go_ret
  exact ⟨_, rfl, HO.out, HW5.out⟩
 ·obtain ⟨rfl, rfl⟩ := HN.out hq
  go_enter Tryz.func64, Tryz.ntmps64
  go_wp2
  go_ret
  exact ⟨_, rfl, World.ownsRow_nil _ _ _ _, Ext.refl w⟩
set_option maxHeartbeats 2000000 in
theorem clSt_any (xs : List Value) (A : Option Addr) (n c : Nat) (w : World) (hs : SlN w A n 1 xs) (h1 : ∀ u ∈ xs, u.oneCell' = true) (hn : n * 16 ≤ lim47) :
 Calls Tryz.prog 65 #[.slice A n c] w fun e w' => ∃ v', e = .returned v' ∧ w'.ownsRow w.heap.size 9 1 v' n xs ∧ Ext w w' := by
 obtain ⟨i0, hi, hz0, hz1, hz2⟩ := info_parts (show (Tryz.prog.info? 9).map (fun i => (i.zero, i.size, i.bytes)) = some (some (.string ⟨#[]⟩), 1, 16) from by kernel_rfl)
 have hno : A.isNone = true → n = 0 ∧ xs = [] := fun hq => by
  cases A with
  | some ad => cases hq
  | none =>
    cases hy : xs with
    | nil => exact ⟨by have := hs.1; rw [hy] at this; simp at this; omega, rfl⟩
    | cons x r =>
      obtain ⟨b, o, ha, _⟩ := hs.2 0 x (by rw [hy]; rfl)
      cases ha
 have hfl : ∀ ad, A = some ad → ∀ j u, xs[j]? = some u → (w.alloc (.cells #[] 9)).cell? (ad.add j) = some u := fun ad ha j u hu => by
  obtain ⟨b, o, ha2, hb, hc⟩ := (hs.ext ((Ext.refl w).alloc _)).2 j u hu
  rw [ha] at ha2
  injection ha2 with ha2
  subst ha2
  rw [add_flat]
  exact hc
 have HN := hid hno
 have HF := hid hfl
 have HL := hid hs.1
 have HLM := hid hn
 clear hs hno hfl hn
 have q24 : ∀ (w : World) (a : Option Addr) (n c n' c' : Nat), (binOp .eql 35 (.slice a n c) (.slice none n' c')).run Tryz.prog w = .ok (.bool a.isNone) w := fun w a n c n' c' => Lib.run_eql_slice_nil w _ _ a n c n' c' Tryz.underlying35
 cases hq : A.isNone
 ·obtain ⟨ad, rfl⟩ : ∃ ad, A = some ad := by cases A with | none => cases hq | some ad => exact ⟨ad, rfl⟩
  have hl47 : n * 16 ≤ 140737488355328 := HLM.out
  have hl63 : n ≤ maxLen := by unfold maxLen; omega
  have HL3 := hid hl47
  have HM3 := hid hl63
  clear hl47 hl63
  go_enter Tryz.func65, Tryz.ntmps65
  go_wp2_with (at_builtin; refine wpList_appN _ rfl _ _ 35 rfl w.heap.size 9 i0 _ 1 16 Tryz.underlying35 hi hz0 hz1 hz2 rfl (by decide) _ 0 [] rfl (World.ownsRow_made w #[] 0 (Nat.le_refl _) (Nat.zero_le _) rfl) ad n c _ rfl HL.out (HF.out ad rfl) h1 (by rw [Nat.zero_add]; exact HM3.out) (by rw [Nat.zero_add]; exact HL3.out) (by simp) ?_)
  intro v' w' ho hg hwh
  try rw [List.nil_append] at ho
  try rw [Nat.zero_add] at ho
  obtain ⟨A5, c5, hv5, hs5⟩ := own_slN ho
  subst hv5
  have HO := hid ho
  have HW5 := hid (((Ext.refl w).alloc _).grown hg (by intro k hk; simp [Value.ownBlock] at hk; omega))
  clear ho hs5 hg hwh
  go_wp2
  go_ret
  exact ⟨_, rfl, HO.out, HW5.out⟩
 ·obtain ⟨rfl, rfl⟩ := HN.out hq
  go_enter Tryz.func65, Tryz.ntmps65
  go_wp2
  go_ret
  exact ⟨_, rfl, World.ownsRow_nil _ _ _ _, Ext.refl w⟩
end Go.Proofs.YtljdlkonlnjadaaGreatDoor
namespace Go.Proofs.YtljdlkonlnjadaaGreatDoor
open Go.RowKit
structure Hd where
 A : Option Addr
 n : Nat
 c : Nat
 xs : List Value
def hdV (h : Hd) : Value := .slice h.A h.n h.c
def pickH (l : List Hd) : Nat × List Value := match l.find? fun h => decide (0 < h.n) with
 | some h => (h.n, h.xs)
 | none => (0, [])
theorem pick_none {l : List Hd} (h : ∀ (j : Nat) (x : Hd), l[j]? = some x → x.n = 0) : pickH l = (0, []) := by
 unfold pickH
 rw [List.find?_eq_none.2 (fun x hx => by
  obtain ⟨j, hj, rfl⟩ := List.getElem_of_mem hx
  have := h j _ (List.getElem?_eq_getElem hj)
  simp [this])]
theorem pick_some {l : List Hd} {k : Nat} {x : Hd} (h : ∀ (j : Nat) (x : Hd), j < k → l[j]? = some x → x.n = 0) (hx : l[k]? = some x) (hn : 0 < x.n) : pickH l = (x.n, x.xs) := by
 unfold pickH
 have : l.find? (fun h => decide (0 < h.n)) = some x := by
  rw [List.find?_eq_some_iff_getElem]
  have hk := (List.getElem?_eq_some_iff.1 hx).1
  refine ⟨by simpa using hn, k, hk, (List.getElem?_eq_some_iff.1 hx).2, fun j hj => ?_⟩
  have := h j _ hj (List.getElem?_eq_getElem (Nat.lt_trans hj hk))
  simp [this]
 rw [this]
theorem own_baseY {w : World} {B B' : Nat} {e : TypeId} {size : Nat} {v : Value} {n : Nat} {xs : List Value} (h : w.ownsRow B e size v n xs) (hB : B' ≤ B) : w.ownsRow B' e size v n xs := by
 obtain ⟨h1, h2⟩ := h
 refine ⟨h1, ?_⟩
 rcases h2 with h2 | ⟨g, cap, cur, hv, hb, r⟩
 ·exact .inl h2
 ·exact .inr ⟨g, cap, cur, hv, Nat.le_trans hB hb, r⟩
def FstI (w : World) (l : List Hd) (n : Nat) (i : Value) (wr : World) : Prop := ∃ k : Nat, k ≤ n ∧ i = .int .i64 k ∧ (∀ (j : Nat) (x : Hd), j < k → l[j]? = some x → x.n = 0) ∧ wr = w
set_option maxHeartbeats 2000000 in
theorem fstRu_any (l : List Hd) (A : Option Addr) (n c : Nat) (w : World) (hA : Sl w A n (l.map hdV)) (hn : n ≤ 1048576) (hl : ∀ x ∈ l, SlN w x.A x.n 2 x.xs ∧ (∀ u ∈ x.xs, u.oneCell' = true) ∧ x.n * 40 ≤ lim47) :
 Calls Tryz.prog 21 #[.slice A n c] w fun e w' => ∃ v, e = .returned v ∧ w'.ownsRow w.heap.size 61 2 v (pickH l).1 (pickH l).2 ∧ Ext w w' := by
 have hlen : l.length = n := by have := hA.1; rwa [List.length_map] at this
 obtain ⟨R, hR⟩ : ∃ R, R = pickH l := ⟨_, rfl⟩
 rw [← hR]
 have HR := hid hR
 have HA := hid hA
 have HL := hid hl
 have HLN := hid hlen
 clear hA hl hlen hR
 go_enter Tryz.func21, Tryz.ntmps21
 go_wp2_with fail
 go_loopw [7] (FstI w l n) (fun i _ => n - (intOf i).toNat)
 case atStart => exact ⟨0, Nat.zero_le _, rfl, fun j x h => absurd h (Nat.not_lt_zero j), rfl⟩
 case round =>
  obtain ⟨k, hk, rfl, hpre, rfl⟩ := hrel
  have HP := hid hpre
  clear hpre
  by_cases hkn : k < n
  ·obtain ⟨x, hx⟩ : ∃ x, l[k]? = some x := ⟨_, List.getElem?_eq_getElem (by have := HLN.out; omega)⟩
   obtain ⟨ad, hAd, hb, hc⟩ := HA.out.2 k (hdV x) (by rw [List.getElem?_map, hx]; rfl)
   obtain ⟨b, o, rfl, _⟩ := addr_flat (by rw [← hAd]; exact HA.out) (by omega)
   rw [add_flat] at hc
   subst hAd
   have hkI : (k : Int) < (n : Int) := by omega
   have HX := hid hx
   have hxl := HL.out x (List.mem_of_getElem? hx)
   have HXL := hid hxl
   unfold hdV at hc
   clear hx hxl
   by_cases h0 : x.n = 0
   ·have h0I : ¬ (0 : Int) < (x.n : Int) := by omega
    have HN := hid (show ∀ (j : Nat) (y : Hd), j < k + 1 → l[j]? = some y → y.n = 0 from fun j y hj hy => by
     by_cases e : j = k
     ·subst e; rw [HX.out] at hy; injection hy with hy; rw [← hy]; exact h0
     ·exact HP.out j y (by omega) hy)
    have H0 := hid h0
    clear h0
    go_wp2
    exact ⟨⟨k + 1, by omega, by go_num, HN.out, rfl⟩, by simp [intOf]; omega⟩
   ·have h0I : (0 : Int) < (x.n : Int) := by omega
    have HQ := hid (HR.out.trans (pick_some HP.out HX.out (by omega)))
    have HK := hid (clRu_any x.xs x.A x.n x.c wr HXL.out.1 HXL.out.2.1 HXL.out.2.2)
    have H0 := hid h0
    clear h0
    go_wp2_with fail
    refine HK.out.mono ?_
    rintro e w2 ⟨v, rfl, hown, hw2⟩
    have HO := hid hown
    have HW2 := hid hw2
    clear hown hw2
    obtain ⟨A2, c2, hv2, _⟩ := own_slN HO.out
    subst hv2
    go_wp2
    go_ret
    exact ⟨_, rfl, by rw [HQ.out]; exact HO.out, HW2.out⟩
  ·have hkk : k = n := by omega
   subst hkk
   have HQ := hid (HR.out.trans (pick_none (fun j x hx => HP.out j x (by have := (List.getElem?_eq_some_iff.1 hx).1; have := HLN.out; omega) hx)))
   go_wp2
   go_ret
   exact ⟨_, rfl, by rw [HQ.out]; exact World.ownsRow_nil _ _ _ _, Ext.refl _⟩
set_option maxHeartbeats 2000000 in
theorem fstSt_any (l : List Hd) (A : Option Addr) (n c : Nat) (w : World) (hA : Sl w A n (l.map hdV)) (hn : n ≤ 1048576) (hl : ∀ x ∈ l, SlN w x.A x.n 1 x.xs ∧ (∀ u ∈ x.xs, u.oneCell' = true) ∧ x.n * 16 ≤ lim47) :
 Calls Tryz.prog 25 #[.slice A n c] w fun e w' => ∃ v, e = .returned v ∧ w'.ownsRow w.heap.size 9 1 v (pickH l).1 (pickH l).2 ∧ Ext w w' := by
 have hlen : l.length = n := by have := hA.1; rwa [List.length_map] at this
 obtain ⟨R, hR⟩ : ∃ R, R = pickH l := ⟨_, rfl⟩
 rw [← hR]
 have HR := hid hR
 have HA := hid hA
 have HL := hid hl
 have HLN := hid hlen
 clear hA hl hlen hR
 go_enter Tryz.func25, Tryz.ntmps25
 go_wp2_with fail
 go_loopw [7] (FstI w l n) (fun i _ => n - (intOf i).toNat)
 case atStart => exact ⟨0, Nat.zero_le _, rfl, fun j x h => absurd h (Nat.not_lt_zero j), rfl⟩
 case round =>
  obtain ⟨k, hk, rfl, hpre, rfl⟩ := hrel
  have HP := hid hpre
  clear hpre
  by_cases hkn : k < n
  ·obtain ⟨x, hx⟩ : ∃ x, l[k]? = some x := ⟨_, List.getElem?_eq_getElem (by have := HLN.out; omega)⟩
   obtain ⟨ad, hAd, hb, hc⟩ := HA.out.2 k (hdV x) (by rw [List.getElem?_map, hx]; rfl)
   obtain ⟨b, o, rfl, _⟩ := addr_flat (by rw [← hAd]; exact HA.out) (by omega)
   rw [add_flat] at hc
   subst hAd
   have hkI : (k : Int) < (n : Int) := by omega
   have HX := hid hx
   have hxl := HL.out x (List.mem_of_getElem? hx)
   have HXL := hid hxl
   unfold hdV at hc
   clear hx hxl
   by_cases h0 : x.n = 0
   ·have h0I : ¬ (0 : Int) < (x.n : Int) := by omega
    have HN := hid (show ∀ (j : Nat) (y : Hd), j < k + 1 → l[j]? = some y → y.n = 0 from fun j y hj hy => by
     by_cases e : j = k
     ·subst e; rw [HX.out] at hy; injection hy with hy; rw [← hy]; exact h0
     ·exact HP.out j y (by omega) hy)
    have H0 := hid h0
    clear h0
    go_wp2
    exact ⟨⟨k + 1, by omega, by go_num, HN.out, rfl⟩, by simp [intOf]; omega⟩
   ·have h0I : (0 : Int) < (x.n : Int) := by omega
    have HQ := hid (HR.out.trans (pick_some HP.out HX.out (by omega)))
    have HK := hid (clSt_any x.xs x.A x.n x.c wr HXL.out.1 HXL.out.2.1 HXL.out.2.2)
    have H0 := hid h0
    clear h0
    go_wp2_with fail
    refine HK.out.mono ?_
    rintro e w2 ⟨v, rfl, hown, hw2⟩
    have HO := hid hown
    have HW2 := hid hw2
    clear hown hw2
    obtain ⟨A2, c2, hv2, _⟩ := own_slN HO.out
    subst hv2
    go_wp2
    go_ret
    exact ⟨_, rfl, by rw [HQ.out]; exact HO.out, HW2.out⟩
  ·have hkk : k = n := by omega
   subst hkk
   have HQ := hid (HR.out.trans (pick_none (fun j x hx => HP.out j x (by have := (List.getElem?_eq_some_iff.1 hx).1; have := HLN.out; omega) hx)))
   go_wp2
   go_ret
   exact ⟨_, rfl, by rw [HQ.out]; exact World.ownsRow_nil _ _ _ _, Ext.refl _⟩
end Go.Proofs.YtljdlkonlnjadaaGreatDoor
namespace Go.Proofs.YtljdlkonlnjadaaGreatDoor
open Go.RowKit
theorem own_addrY {w : World} {B : Nat} {e : TypeId} {size : Nat} {A : Option Addr} {n m c : Nat} {xs : List Value} (h : w.ownsRow B e size (.slice A n c) m xs) (hn : 0 < n) : ∃ g, A = some ⟨g, 0, none⟩ ∧ B ≤ g ∧ g < w.heap.size := by
 rcases h.2 with ⟨hv, hx⟩ | ⟨g, cap, cur, hv, hb, hg, _⟩
 ·injection hv with _ h2 _; omega
 ·injection hv with h1 _ _
  exact ⟨g, h1, hb, (Array.getElem?_eq_some_iff.1 hg).1⟩
theorem own_notY {w : World} {B : Nat} {e : TypeId} {size : Nat} {A : Option Addr} {n m c : Nat} {xs : List Value} (h : w.ownsRow B e size (.slice A n c) m xs) : ∀ ad, A = some ad → B ≤ ad.block := by
 intro ad hA
 rcases h.2 with ⟨hv, _⟩ | ⟨g, cap, cur, hv, hb, _⟩
 ·injection hv with h1 _ _; rw [h1] at hA; cases hA
 ·injection hv with h1 _ _
  rw [hA] at h1
  injection h1 with h1
  rw [h1]
  exact hb
theorem own_keptY {w w' : World} {B : Nat} {e : TypeId} {size : Nat} {v : Value} {n : Nat} {xs : List Value} (h : w.ownsRow B e size v n xs) (hk : ∀ g, v.ownBlock = some g → w'.heap[g]? = w.heap[g]?) : w'.ownsRow B e size v n xs := by
 obtain ⟨h1, h2⟩ := h
 refine ⟨h1, ?_⟩
 rcases h2 with h2 | ⟨g, cap, cur, hv, hb, hg, r⟩
 ·exact .inl h2
 ·exact .inr ⟨g, cap, cur, hv, hb, (hk g (by rw [hv]; rfl)).trans hg, r⟩
theorem flat_setY {α : Type} {f : α → List Value} {m : Nat} (hf : ∀ a, (f a).length = m) (D R : List α) (x y : α) (j k : Nat) (u : Value) (hk : k = D.length) (hj : j < m) (hy : f y = (f x).set j u) :
 ((D ++ x :: R).flatMap f).set (k * m + j) u = (D ++ y :: R).flatMap f := by
 subst hk
 rw [List.flatMap_append, List.flatMap_cons, List.flatMap_append, List.flatMap_cons, List.set_append_right _ _ (by rw [flat_len f m hf]; omega), flat_len f m hf, Nat.add_sub_cancel_left, List.set_append_left _ _ (by rw [hf]; exact hj), hy]
theorem flat_midY {α : Type} {f : α → List Value} {m : Nat} (hf : ∀ a, (f a).length = m) (D R : List α) (x : α) (j k : Nat) (hk : k = D.length) (hj : j < m) : ((D ++ x :: R).flatMap f)[k * m + j]? = (f x)[j]? := by
 subst hk
 rw [List.flatMap_append, List.flatMap_cons, List.getElem?_append_right (by rw [flat_len f m hf]; omega), flat_len f m hf, Nat.add_sub_cancel_left, List.getElem?_append_left (by rw [hf]; exact hj)]
theorem drop_atY {α : Type} {l : List α} {k : Nat} {x : α} (h : l[k]? = some x) : l.drop k = x :: l.drop (k + 1) := by
 obtain ⟨h1, h2⟩ := List.getElem?_eq_some_iff.1 h
 rw [← h2, List.drop_eq_getElem_cons h1]
theorem take_nextY {α : Type} {l : List α} {k : Nat} {x : α} (h : l[k]? = some x) : l.take (k + 1) = l.take k ++ [x] := by
 obtain ⟨h1, h2⟩ := List.getElem?_eq_some_iff.1 h
 rw [List.take_add_one, h, ← h2]; rfl
theorem snoc_mid {α : Type} (D R : List α) (x : α) : D ++ x :: R = (D ++ [x]) ++ R := by simp
theorem cell_midY {w w' : World} {p : Addr} {u : Value} (h : Ext w w') (hc : w.cell? p = some u) : w'.cell? p = some u := (Ext.cell h (World.block_lt_of_cell? w p hc)).trans hc
theorem Ext.trans' {a b c : World} {B : Nat} (h : Ext a b) (k : Below B b c) (hB : a.heap.size ≤ B) : Ext a c := Below.trans h (Below.mono k hB)
theorem ru_one (l : List Ru) : ∀ u ∈ l.flatMap ruC, u.oneCell' = true := fun u hu => by
 obtain ⟨x, _, hx⟩ := List.mem_flatMap.1 hu
 simp [ruC] at hx
 rcases hx with rfl | rfl <;> rfl
theorem cj_one (l : List Cj) : ∀ u ∈ l.flatMap cjC, u.oneCell' = true := fun u hu => by
 obtain ⟨x, _, hx⟩ := List.mem_flatMap.1 hu
 simp [cjC] at hx
 subst hx; rfl
theorem rl_one (l : List Rl) : ∀ u ∈ l.flatMap rlC, u.oneCell' = true := fun u hu => by
 obtain ⟨x, _, hx⟩ := List.mem_flatMap.1 hu
 simp [rlC] at hx
 rcases hx with rfl | rfl | rfl | rfl <;> rfl
theorem sp_one (l : List (Int × Int)) : ∀ u ∈ l.flatMap spC, u.oneCell' = true := fun u hu => by
 obtain ⟨x, _, hx⟩ := List.mem_flatMap.1 hu
 simp [spC] at hx
 rcases hx with rfl | rfl <;> rfl
def fromB (B : Nat) (v : Value) (j : Nat) : Prop := B ≤ j ∧ some j ≠ v.ownBlock
def RlI (w3 : World) (B2 : Nat) (v2 : Value) (n : Nat) (l : List Rl) (i : Value) (wi : World) : Prop := ∃ (r : Nat) (D : List Rl), r ≤ n ∧ i = .int .i64 r ∧ D.length = r ∧ wi.ownsRow B2 116 4 v2 n ((D ++ l.drop r).flatMap rlC) ∧
 (∀ z ∈ D, RlM (fromB B2 v2) wi z) ∧ D.map rlP = (l.take r).map rlP ∧ Below B2 w3 wi
def CjI (wr : World) (v1 : Value) (n : Nat) (l : List Cj) (i : Value) (wm : World) : Prop := ∃ (q : Nat) (D : List Cj), q ≤ n ∧ i = .int .i64 q ∧ D.length = q ∧ wm.ownsRow wr.heap.size 112 1 v1 n ((D ++ l.drop q).flatMap cjC) ∧
 (∀ y ∈ D, CjM (fromB wr.heap.size v1) wm y) ∧ D.map cjP = (l.take q).map cjP ∧ Ext wr wm
def RuI (w : World) (v0 : Value) (n : Nat) (l : List Ru) (i : Value) (wr : World) : Prop := ∃ (k : Nat) (D : List Ru), k ≤ n ∧ i = .int .i64 k ∧ D.length = k ∧ wr.ownsRow w.heap.size 61 2 v0 n ((D ++ l.drop k).flatMap ruC) ∧
 (∀ x ∈ D, RuM (fromB w.heap.size v0) wr x) ∧ D.map ruP = (l.take k).map ruP ∧ Ext w wr
theorem slO_own {ok : Nat → Prop} {w : World} {B : Nat} {e : TypeId} {size n c : Nat} {A : Option Addr} {xs : List Value} (h : w.ownsRow B e size (.slice A n c) n xs) (ho : ∀ g, B ≤ g → g < w.heap.size → ok g) : SlO ok w A n size xs := by
 obtain ⟨A', c', hv, hs⟩ := own_slN h
 injection hv with h1 h2 h3
 subst h1
 refine ⟨hs, fun hn a ha => ?_⟩
 obtain ⟨g, hg, hb, hl⟩ := own_addrY h hn
 rw [ha] at hg
 injection hg with hg
 subst hg
 exact ho g hb hl
theorem list_mem_snoc {α : Type} {D : List α} {x y : α} (h : y ∈ D ++ [x]) : y ∈ D ∨ y = x := by simpa using h
theorem rl_step {wd wi w5 : World} {B2 g2 n c2 c5 r : Nat} {l G : List Rl} {z : Rl} {A5 : Option Addr} (hz : l[r]? = some z) (hGl : G.length = r) (hO : wi.ownsRow B2 116 4 (.slice (some ⟨g2, 0, none⟩) n c2) n ((G ++ l.drop r).flatMap rlC))
 (hG : ∀ z ∈ G, RlM (fromB B2 (.slice (some ⟨g2, 0, none⟩) n c2)) wi z) (hGP : G.map rlP = (l.take r).map rlP) (hB : Below B2 wd wi) (h5 : w5.ownsRow wi.drew.heap.size 119 2 (.slice A5 z.n c5) z.n (z.sp.flatMap spC)) (hx : Ext wi w5) (hn : r < n) (hn47 : n ≤ lim47)
 (hzn : z.n * 16 ≤ lim47) (hg1 : B2 ≤ g2) (hg2 : g2 < wi.heap.size) {iv : Value} (hiv : iv = .int .i64 ((r + 1 : Nat) : Int)) :
 RlI wd B2 (.slice (some ⟨g2, 0, none⟩) n c2) n l iv (w5.setCell ⟨g2, r * 4 + 3, none⟩ (.slice A5 z.n c5)) := by
 have h5' : w5.ownsRow wi.heap.size 119 2 (.slice A5 z.n c5) z.n (z.sp.flatMap spC) := h5
 have hset : ∀ ok : Nat → Prop, ¬ ok g2 → Kp ok w5 (w5.setCell ⟨g2, r * 4 + 3, none⟩ (.slice A5 z.n c5)) := fun ok h => Kp.set w5 _ _ h
 have hno : ¬ fromB B2 (.slice (some ⟨g2, 0, none⟩) n c2) g2 := fun h => h.2 rfl
 have hst := ((own_ext hO hx).stored (r * 4 + 3) (.slice A5 z.n c5)).1
 rw [drop_atY hz, flat_setY (f := rlC) (m := 4) (fun _ => rfl) G _ z ⟨z.op, z.md, z.nt, A5, z.n, c5, z.sp⟩ 3 r (.slice A5 z.n c5) hGl.symm (by decide) rfl, snoc_mid] at hst
 refine ⟨r + 1, G ++ [⟨z.op, z.md, z.nt, A5, z.n, c5, z.sp⟩], by omega, ?_, by simp [hGl], hst, fun y hy => ?_, ?_, ?_⟩
 ·exact hiv
 ·rcases list_mem_snoc hy with hy | rfl
  ·exact ((hG y hy).kp (Kp.ext hx)).kp (hset _ hno)
  ·refine ⟨(slO_own h5' fun g h1 h2 => ?_).kp (hset _ hno), hzn⟩
   refine ⟨by omega, fun e => ?_⟩
   simp [Value.ownBlock] at e
   omega
 ·rw [take_nextY hz, List.map_append, List.map_append, hGP]
  rfl
 ·exact (hB.trans (Below.mono hx (by omega))).setCell hg1 _
theorem cj_step {wo wm wc wd wi : World} {g1 n c1 c2 q : Nat} {l E : List Cj} {y : Cj} {G : List Rl} {A2 : Option Addr} (hy : l[q]? = some y) (hEl : E.length = q) (hE : ∀ y ∈ E, CjM (fromB wo.heap.size (.slice (some ⟨g1, 0, none⟩) n c1)) wm y)
 (hEP : E.map cjP = (l.take q).map cjP) (hwm : Ext wo wm) (hwc : Ext wm wc) (hgd : wc.grownBy wd (some g1)) (hbi : Below wm.heap.size wd wi)
 (hO : wi.ownsRow wo.heap.size 112 1 (.slice (some ⟨g1, 0, none⟩) n c1) n ((E ++ (⟨A2, y.n, c2, y.l⟩ : Cj) :: l.drop (q + 1)).flatMap cjC))
 (h2 : wi.ownsRow wm.heap.size 116 4 (.slice A2 y.n c2) y.n (G.flatMap rlC)) (hG : ∀ z ∈ G, RlM (fromB wm.heap.size (.slice A2 y.n c2)) wi z) (hGP : G.map rlP = y.l.map rlP)
 (hn : q < n) (hn47 : n ≤ lim47) (hyn : y.n * 48 ≤ lim47) (hg1 : wo.heap.size ≤ g1) (hg2 : g1 < wm.heap.size) {iv : Value} (hiv : iv = .int .i64 ((q + 1 : Nat) : Int)) :
 CjI wo (.slice (some ⟨g1, 0, none⟩) n c1) n l iv wi := by
 have hkp : Kp (fromB wo.heap.size (.slice (some ⟨g1, 0, none⟩) n c1)) wm wi := by
  refine ⟨Nat.le_trans (Ext.size hwc) (Nat.le_trans hgd.size (Below.size hbi)), fun k hk hok => ?_⟩
  rw [Below.block hbi k hk, hgd.block k (Nat.lt_of_lt_of_le hk (Ext.size hwc)) (fun e => hok.2 (by injection e with e; rw [e]; rfl))]
  exact Below.block hwc k hk
 refine ⟨q + 1, E ++ [⟨A2, y.n, c2, G⟩], by omega, ?_, by simp [hEl], ?_, fun u hu => ?_, ?_, ?_⟩
 ·exact hiv
 ·rw [← snoc_mid]
  rw [show (E ++ (⟨A2, y.n, c2, G⟩ : Cj) :: l.drop (q + 1)).flatMap cjC = (E ++ (⟨A2, y.n, c2, y.l⟩ : Cj) :: l.drop (q + 1)).flatMap cjC from by simp [cjC]]
  exact hO
 ·rcases list_mem_snoc hu with hu | rfl
  ·exact (hE u hu).kp hkp
  ·have hsub : ∀ k, wm.heap.size ≤ k → fromB wo.heap.size (.slice (some ⟨g1, 0, none⟩) n c1) k := fun k hk => ⟨Nat.le_trans (Ext.size hwm) hk, fun e => by simp [Value.ownBlock] at e; omega⟩
   exact ⟨⟨slO_own h2 fun g h1 _ => hsub g h1, hyn⟩, fun z hz => (hG z hz).mono fun k _ hk => hsub k hk.1⟩
 ·rw [take_nextY hy, List.map_append, List.map_append, hEP]
  simp only [List.map_cons, List.map_nil, cjP, hGP]
 ·exact ((hwm.trans hwc).grown hgd (fun k e => by injection e with e; rw [← e]; exact hg1)).trans' hbi (Ext.size hwm)
theorem ru_step {w wo wz : World} {g n c0 c1 k : Nat} {l D : List Ru} {x : Ru} {E : List Cj} {A1 : Option Addr} (hx : l[k]? = some x) (hDl : D.length = k) (hO : wo.ownsRow w.heap.size 61 2 (.slice (some ⟨g, 0, none⟩) n c0) n ((D ++ l.drop k).flatMap ruC))
 (hD : ∀ x ∈ D, RuM (fromB w.heap.size (.slice (some ⟨g, 0, none⟩) n c0)) wo x) (hDP : D.map ruP = (l.take k).map ruP) (hw : Ext w wo) (hz : Ext wo wz)
 (h1 : wz.ownsRow wo.heap.size 112 1 (.slice A1 x.n c1) x.n (E.flatMap cjC)) (hE : ∀ y ∈ E, CjM (fromB wo.heap.size (.slice A1 x.n c1)) wz y) (hEP : E.map cjP = x.l.map cjP)
 (hn : k < n) (hn47 : n ≤ lim47) (hxn : x.n * 24 ≤ lim47) (hg1 : w.heap.size ≤ g) (hg2 : g < wo.heap.size) {iv : Value} (hiv : iv = .int .i64 ((k + 1 : Nat) : Int)) :
 RuI w (.slice (some ⟨g, 0, none⟩) n c0) n l iv (wz.setCell ⟨g, k * 2 + 1, none⟩ (.slice A1 x.n c1)) := by
 have hset : ∀ ok : Nat → Prop, ¬ ok g → Kp ok wz (wz.setCell ⟨g, k * 2 + 1, none⟩ (.slice A1 x.n c1)) := fun ok h => Kp.set wz _ _ h
 have hno : ¬ fromB w.heap.size (.slice (some ⟨g, 0, none⟩) n c0) g := fun h => h.2 rfl
 have hsub : ∀ j, wo.heap.size ≤ j → fromB w.heap.size (.slice (some ⟨g, 0, none⟩) n c0) j := fun j hj => ⟨Nat.le_trans (Ext.size hw) hj, fun e => by simp [Value.ownBlock] at e; omega⟩
 have hst := ((own_ext hO hz).stored (k * 2 + 1) (.slice A1 x.n c1)).1
 rw [drop_atY hx, flat_setY (f := ruC) (m := 2) (fun _ => rfl) D _ x ⟨x.t, A1, x.n, c1, E⟩ 1 k (.slice A1 x.n c1) hDl.symm (by decide) rfl, snoc_mid] at hst
 refine ⟨k + 1, D ++ [⟨x.t, A1, x.n, c1, E⟩], by omega, ?_, by simp [hDl], hst, fun u hu => ?_, ?_, ?_⟩
 ·exact hiv
 ·rcases list_mem_snoc hu with hu | rfl
  ·exact ((hD u hu).kp (Kp.ext hz)).kp (hset _ hno)
  ·refine ⟨⟨(slO_own h1 fun j h2 _ => hsub j h2).kp (hset _ hno), hxn⟩, fun y hy => ?_⟩
   exact ((hE y hy).mono fun j _ hj => hsub j hj.1).kp (hset _ hno)
 ·rw [take_nextY hx, List.map_append, List.map_append, hDP]
  simp only [List.map_cons, List.map_nil, ruP, hEP]
 ·exact (hw.trans hz).setCell hg1 _
set_option maxHeartbeats 8000000 in
theorem rules_any (l : List Ru) (ok : Nat → Prop) (A : Option Addr) (n c : Nat) (w : World) (hA : RusM ok w A n l) :
 Calls Tryz.prog 20 #[.slice A n c] w fun e w' => ∃ A' c' l', e = .returned (.slice A' n c') ∧ RusM (fun j => w.heap.size ≤ j) w' A' n l' ∧ l'.map ruP = l.map ruP ∧ Ext w w' := by
 have hl : l.length = n := SlO.len (f := ruC) (m := 2) (fun _ => rfl) (by decide) hA.1.1
 have h47 := hA.1.2
 have hn47 : n ≤ lim47 := by omega
 have HA := hid hA
 have HLN := hid hl
 have H47 := hid h47
 have HN47 := hid hn47
 have K0 := hid (clRu_any (l.flatMap ruC) A n c w hA.1.1.1 (ru_one l) h47)
 clear hA hl h47 hn47
 go_enter Tryz.func20, Tryz.ntmps20
 go_wp2_with fail
 refine K0.out.mono ?_
 rintro e wa ⟨v0, rfl, hown0, hwa⟩
 obtain ⟨A0, c0, rfl, _⟩ := own_slN hown0
 have HO0 := hid hown0
 have HWA := hid hwa
 clear hown0 hwa K0
 go_wp2_with fail
 go_loopw [12] (RuI w (.slice A0 n c0) n l) (fun i _ => n - (intOf i).toNat)
 case atStart => exact ⟨0, [], Nat.zero_le _, rfl, rfl, HO0.out, fun x h => (by cases h), rfl, HWA.out⟩
 case round =>
  obtain ⟨k, D, hk, rfl, hDl, hown, hD, hDP, hw⟩ := hrel
  obtain ⟨wo, rfl⟩ : ∃ wo : World, wo = wr := ⟨_, rfl⟩
  have HO := hid hown
  have HD := hid hD
  have HDP := hid hDP
  have HDL := hid hDl
  have HW := hid hw
  clear hown hD hDP hw hDl
  by_cases hkn : k < n
  ·obtain ⟨x, hx⟩ : ∃ x, l[k]? = some x := ⟨_, List.getElem?_eq_getElem (by have := HLN.out; omega)⟩
   obtain ⟨g, rfl, hg1, hg2⟩ := own_addrY HO.out (by omega)
   have hkI : (k : Int) < (n : Int) := by omega
   have hnN : n ≤ 140737488355328 := HN47.out
   have hco := HO.out.cellAt (k * 2 + 1) (by omega)
   rw [drop_atY hx, flat_midY (f := ruC) (m := 2) (fun _ => rfl) D _ x 1 k HDL.out.symm (by decide)] at hco
   have a1 : wo.cell? ⟨g, k * 2 + 1, none⟩ = some (.slice x.A x.n x.c) := hco
   have HX := hid hx
   have HXM := hid ((HA.out.2 x (List.mem_of_getElem? hx)).kp (Kp.ext HW.out))
   have HG1 := hid hg1
   have HG2 := hid hg2
   have hxn : x.n ≤ lim47 := by have := HXM.out.1.2; omega
   have HXN := hid hxn
   have K1 := hid (clCj_any (x.l.flatMap cjC) x.A x.n x.c wo HXM.out.1.1.1 (cj_one x.l) HXM.out.1.2)
   have HXL := hid (show x.l.length = x.n from SlO.len (f := cjC) (m := 1) (fun _ => rfl) (by decide) HXM.out.1.1)
   clear hco hx hg1 hg2 hxn
   go_wp2_with fail
   refine K1.out.mono ?_
   rintro e wb ⟨v1, rfl, hown1, hwb⟩
   obtain ⟨A1, c1, rfl, _⟩ := own_slN hown1
   have HO1 := hid hown1
   have HWB := hid hwb
   clear hown1 hwb K1 a1
   go_wp2_with fail
   go_loopw [23] (CjI wo (.slice A1 x.n c1) x.n x.l) (fun i _ => x.n - (intOf i).toNat)
   case atStart => exact ⟨0, [], Nat.zero_le _, rfl, rfl, HO1.out, fun x h => (by cases h), rfl, HWB.out⟩
   case round =>
    obtain ⟨q, E, hq, rfl, hEl, hownE, hE, hEP, hwm⟩ := hrel
    obtain ⟨wm, rfl⟩ : ∃ wm : World, wm = wr := ⟨_, rfl⟩
    have HOE := hid hownE
    have HE := hid hE
    have HEP := hid hEP
    have HEL := hid hEl
    have HWM := hid hwm
    clear hownE hE hEP hwm hEl
    by_cases hqn : q < x.n
    ·obtain ⟨y, hy⟩ : ∃ y, x.l[q]? = some y := ⟨_, List.getElem?_eq_getElem (by have := HXL.out; omega)⟩
     obtain ⟨g1, rfl, hh1, hh2⟩ := own_addrY HOE.out (by omega)
     have hqI : (q : Int) < (x.n : Int) := by omega
     have hxN : x.n ≤ 140737488355328 := HXN.out
     have hco := HOE.out.cellAt (q * 1 + 0) (by omega)
     rw [drop_atY hy, flat_midY (f := cjC) (m := 1) (fun _ => rfl) E _ y 0 q HEL.out.symm (by decide), Nat.mul_one, Nat.add_zero] at hco
     have b1 : wm.cell? ⟨g1, q, none⟩ = some (.slice y.A y.n y.c) := hco
     have HY := hid hy
     have HYM := hid ((HXM.out.2 y (List.mem_of_getElem? hy)).kp (Kp.ext HWM.out))
     have HH1 := hid hh1
     have HH2 := hid hh2
     have hyn : y.n ≤ lim47 := by have := HYM.out.1.2; omega
     have HYN := hid hyn
     have K2 := hid (clRl_any (y.l.flatMap rlC) y.A y.n y.c wm HYM.out.1.1.1 (rl_one y.l) HYM.out.1.2)
     have HYL := hid (show y.l.length = y.n from SlO.len (f := rlC) (m := 4) (fun _ => rfl) (by decide) HYM.out.1.1)
     clear hco hy hh1 hh2 hyn
     go_wp2_with fail
     refine K2.out.mono ?_
     rintro e wc ⟨v2, rfl, hown2, hwc⟩
     obtain ⟨A2, c2, rfl, _⟩ := own_slN hown2
     have HO2 := hid hown2
     have HWC := hid hwc
     clear hown2 hwc K2 b1
     have HOC := hid (own_keptY HOE.out (fun j hj => Below.block HWC.out j (by injection hj with hj; rw [← hj]; exact HH2.out)))
     have fz := HOC.out.frozenAt q
     have b1 : wc.cell? ⟨g1, q, none⟩ = some (.slice y.A y.n y.c) := by
      have h := HOC.out.cellAt (q * 1 + 0) (by omega)
      rw [drop_atY HY.out, flat_midY (f := cjC) (m := 1) (fun _ => rfl) E _ y 0 q HEL.out.symm (by decide), Nat.mul_one, Nat.add_zero] at h
      exact h
     have hst := HOC.out.stored (q * 1 + 0) (.slice A2 y.n c2)
     rw [drop_atY HY.out, flat_setY (f := cjC) (m := 1) (fun _ => rfl) E _ y ⟨A2, y.n, c2, y.l⟩ 0 q (.slice A2 y.n c2) HEL.out.symm (by decide) rfl, Nat.mul_one, Nat.add_zero] at hst
     obtain ⟨wd, hwd⟩ : ∃ wd, wd = wc.setCell ⟨g1, q, none⟩ (.slice A2 y.n c2) := ⟨_, rfl⟩
     rw [← hwd] at hst
     have HOD := hid hst.1
     have hcd := hst.1.cellAt (q * 1 + 0) (by omega)
     rw [flat_midY (f := cjC) (m := 1) (fun _ => rfl) E _ (⟨A2, y.n, c2, y.l⟩ : Cj) 0 q HEL.out.symm (by decide), Nat.mul_one, Nat.add_zero] at hcd
     have b2 : wd.cell? ⟨g1, q, none⟩ = some (.slice A2 y.n c2) := hcd
     have HB2 := hid b2
     have HGD := hid hst.2
     clear hst hcd b2
     go_upto_region 10 with (fail)
     rw [← hwd]
     have b2 := HB2.out
     have HO2D := hid (own_keptY HO2.out (fun j hj => HGD.out.block j (by have := HO2.out.lt j hj; exact this.2) (fun e => by injection e with e; have := (HO2.out.lt j hj).1; have := HH2.out; omega)))
     have HSZ := hid (show wd.heap.size = wc.heap.size from by rw [hwd]; simp)
     clear hwd fz b1
     go_wp2_with fail
     clear b2
     go_loopw [39] (RlI wd wm.heap.size (.slice A2 y.n c2) y.n y.l) (fun i _ => y.n - (intOf i).toNat)
     case atStart => exact ⟨0, [], Nat.zero_le _, rfl, rfl, HO2D.out, fun x h => (by cases h), rfl, Below.refl _ _⟩
     case round =>
      obtain ⟨r, G, hr, rfl, hGl, hownG, hG, hGP, hwi⟩ := hrel
      obtain ⟨wi, rfl⟩ : ∃ wi : World, wi = wr := ⟨_, rfl⟩
      have HOG := hid hownG
      have HG := hid hG
      have HGP := hid hGP
      have HGL := hid hGl
      have HBI := hid hwi
      have HODI := hid (own_keptY HOD.out (fun j hj => Below.block hwi j (by injection hj with hj; rw [← hj]; exact HH2.out)))
      clear hownG hG hGP hwi hGl
      by_cases hrn : r < y.n
      ·obtain ⟨z, hz⟩ : ∃ z, y.l[r]? = some z := ⟨_, List.getElem?_eq_getElem (by have := HYL.out; omega)⟩
       obtain ⟨g2, rfl, hk1, hk2⟩ := own_addrY HOG.out (by omega)
       have hrI : (r : Int) < (y.n : Int) := by omega
       have hyN : y.n ≤ 140737488355328 := HYN.out
       have b2 := HODI.out.cellAt (q * 1 + 0) (by omega)
       rw [flat_midY (f := cjC) (m := 1) (fun _ => rfl) E _ (⟨some ⟨g2, 0, none⟩, y.n, c2, y.l⟩ : Cj) 0 q HEL.out.symm (by decide), Nat.mul_one, Nat.add_zero] at b2
       have b2 : wi.cell? ⟨g1, q, none⟩ = some (.slice (some ⟨g2, 0, none⟩) y.n c2) := b2
       have d1 := HOG.out.cellAt (r * 4 + 3) (by omega)
       rw [drop_atY hz, flat_midY (f := rlC) (m := 4) (fun _ => rfl) G _ z 3 r HGL.out.symm (by decide)] at d1
       have d1 : wi.cell? ⟨g2, r * 4 + 3, none⟩ = some (.slice z.A z.n z.c) := d1
       have HZ := hid hz
       have hBIx := HBI.out
       have HZM := hid (show ∀ W, Ext wi W → RlM ok W z from fun W hW => by
        have h1 := (HA.out.2 x (List.mem_of_getElem? HX.out)).2 y (List.mem_of_getElem? HY.out)
        exact (h1.2 z (List.mem_of_getElem? hz)).kp (Kp.ext (((HW.out.trans HWM.out).trans HWC.out).grown HGD.out (fun k e => by injection e with e; rw [← e]; exact Nat.le_trans (Ext.size HW.out) HH1.out) |>.trans' hBIx (Nat.le_trans (Ext.size HW.out) (Ext.size HWM.out)) |>.trans hW)))
       have HK1 := hid hk1
       have HK2 := hid hk2
       have HB2I := hid b2
       have HD1I := hid d1
       have K3 := hid (fun W (hW : Ext wi W) => clSp_any (z.sp.flatMap spC) z.A z.n z.c W (HZM.out W hW).1.1 (sp_one z.sp) (HZM.out W hW).2)
       clear hz hk1 hk2 hBIx
       go_upto_region 13 with (fail)
       have q1 := cell_midY ((Ext.refl wi).drew) b2
       have q2 := cell_midY ((Ext.refl wi).drew) d1
       have q3 := (own_ext HOG.out ((Ext.refl wi).drew)).frozenAt (r * 4 + 3)
       go_region_law (go_simp; go_at_call 64; refine (K3.out _ ((Ext.refl wi).drew)).mono ?_; rintro e w5 ⟨v5, rfl, hown5, hx5⟩; obtain ⟨A5, c5, rfl, _⟩ := own_slN hown5; have HO5 := hid hown5; have HX5 := hid (((Ext.refl wi).drew).trans hx5); clear hown5 hx5; have e1 := cell_midY HX5.out HB2I.out; have e2 := cell_midY HX5.out HD1I.out; have e3 := (own_ext HOG.out HX5.out).frozenAt (r * 4 + 3))
       all_goals go_wp2
       all_goals exact ⟨rl_step HZ.out HGL.out HOG.out HG.out HGP.out HBI.out HO5.out HX5.out hrn HYN.out (HZM.out wi (Ext.refl wi)).2 HK1.out HK2.out (by go_num), by simp [intOf]; omega⟩
      ·have hrr : r = y.n := by omega
       subst hrr
       have HOG2 := hid HOG.out
       rw [List.drop_eq_nil_of_le (by rw [HYL.out]; exact Nat.le_refl _), List.append_nil] at HOG2
       have HGP2 := hid HGP.out
       rw [List.take_of_length_le (by rw [HYL.out]; exact Nat.le_refl _)] at HGP2
       go_wp2
       exact ⟨cj_step HY.out HEL.out HE.out HEP.out HWM.out HWC.out HGD.out HBI.out HODI.out HOG2.out HG.out HGP2.out hqn HXN.out HYM.out.1.2 HH1.out HH2.out (by go_num), by simp [intOf]; omega⟩
    ·have hqq : q = x.n := by omega
     subst hqq
     have HOE2 := hid HOE.out
     rw [List.drop_eq_nil_of_le (by rw [HXL.out]; exact Nat.le_refl _), List.append_nil] at HOE2
     have HEP2 := hid HEP.out
     rw [List.take_of_length_le (by rw [HXL.out]; exact Nat.le_refl _)] at HEP2
     have HOX := hid (own_ext HO.out HWM.out)
     have z1 : wm.cell? ⟨g, k * 2 + 1, none⟩ = some (.slice x.A x.n x.c) := by
      have h := HOX.out.cellAt (k * 2 + 1) (by omega)
      rw [drop_atY HX.out, flat_midY (f := ruC) (m := 2) (fun _ => rfl) D _ x 1 k HDL.out.symm (by decide)] at h
      exact h
     have z2 := HOX.out.frozenAt (k * 2 + 1)
     go_wp2
     exact ⟨ru_step HX.out HDL.out HO.out HD.out HDP.out HW.out HWM.out HOE2.out HE.out HEP2.out hkn HN47.out HXM.out.1.2 HG1.out HG2.out (by go_num), by simp [intOf]; omega⟩
  ·have hkk : k = n := by omega
   subst hkk
   have HO2 := hid HO.out
   rw [List.drop_eq_nil_of_le (by rw [HLN.out]; exact Nat.le_refl _), List.append_nil] at HO2
   have HDP2 := hid HDP.out
   rw [List.take_of_length_le (by rw [HLN.out]; exact Nat.le_refl _)] at HDP2
   go_wp2
   go_ret
   exact ⟨A0, c0, D, rfl, ⟨⟨slO_own HO2.out fun g h _ => h, H47.out⟩, fun x hx => (HD.out x hx).mono fun j _ hj => hj.1⟩, HDP2.out, HW.out⟩
end Go.Proofs.YtljdlkonlnjadaaGreatDoor
