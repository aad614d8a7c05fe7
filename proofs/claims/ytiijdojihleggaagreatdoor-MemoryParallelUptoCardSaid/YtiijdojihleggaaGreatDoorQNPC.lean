import Derived.Test.YtiijdojihleggaaGreatDoorQNPH
import Derived.Test.YtiijdojihleggaaGreatDoorShelf
import Derived.BigQuiet
import Derived.Deep.QuietTactic
import Derived.Test.YtiijdojihleggaaGreatDoorQNPA
import Derived.Test.YtiijdojihleggaaGreatDoorQNB1
import Derived.WalkSmall
set_option maxRecDepth 100000
set_option linter.unusedSimpArgs false
set_option linter.unusedVariables false
open Go.Lib (hid)
namespace Go.Proofs.YtiijdojihleggaaGreatDoor
open Go.RowKit
theorem idx_none {c : UInt8} : ∀ (l : By), c ∉ l → Lib.indexByte l c = -1
 | [], _ => rfl
 | b :: l, h => by
   have h2 : c ∉ l := fun e => h (List.mem_cons_of_mem _ e)
   have h3 : (b == c) = false := by
    rw [beq_eq_false_iff_ne]
    intro e
    exact h (by rw [e]; exact List.mem_cons_self)
   rw [Lib.indexByte, idx_none l h2, h3]
   rfl
theorem idx_some {c : UInt8} (t : By) : ∀ (m : By), c ∉ m → Lib.indexByte (m ++ c :: t) c = (m.length : Int)
 | [], _ => by
   rw [List.nil_append, Lib.indexByte, if_pos (beq_self_eq_true c)]
   rfl
 | b :: l, h => by
   have h2 : c ∉ l := fun e => h (List.mem_cons_of_mem _ e)
   have h3 : (b == c) = false := by
    rw [beq_eq_false_iff_ne]
    intro e
    exact h (by rw [e]; exact List.mem_cons_self)
   rw [List.cons_append, Lib.indexByte, idx_some t l h2, h3]
   have h4 : (((l.length : Int)) == -1) = false := by
    rw [beq_eq_false_iff_ne]
    omega
   rw [h4, List.length_cons]
   push_cast
   rfl
theorem split_at {c : UInt8} : ∀ (l : By), c ∈ l → ∃ m t, l = m ++ c :: t ∧ c ∉ m
 | b :: l, h => by
   by_cases e : b = c
   ·exact ⟨[], l, by rw [e]; rfl, by simp⟩
   ·rcases List.mem_cons.1 h with h1 | h1
    ·exact absurd h1.symm e
    ·obtain ⟨m, t, h2, h3⟩ := split_at l h1
     refine ⟨b :: m, t, by rw [h2]; rfl, ?_⟩
     intro h4
     rcases List.mem_cons.1 h4 with h5 | h5
     ·exact e h5.symm
     ·exact h3 h5
def elQ (m : By) : Nat × By := if Lib.hasPrefix m [47] = true then (6, m.drop 1) else if Lib.hasSuffix m [47] = true then (7, m.dropLast) else (5, m)
def elE (m : By) : Option (Nat × By × Nat) := if nameB (elQ m).2 = true then some ((elQ m).1, (elQ m).2, m.length + 2) else none
theorem hp47 (m : By) : Lib.hasPrefix m [47] = (m.head? == some 47) := by
 cases m with
 | nil => rfl
 | cons a m =>
   show ((47 : UInt8) == a && true) = (some a == some 47)
   rw [Bool.and_true, Bool.eq_iff_iff, beq_iff_eq, beq_iff_eq]
   exact ⟨fun e => by rw [e], fun e => (Option.some.inj e).symm⟩
theorem hs47 (m : By) : Lib.hasSuffix m [47] = true ↔ ∃ u, m = u ++ [47] := by
 unfold Lib.hasSuffix
 rw [List.isSuffixOf_iff_suffix]
 exact ⟨fun ⟨u, h⟩ => ⟨u, h.symm⟩, fun ⟨u, h⟩ => ⟨u, h.symm⟩⟩
theorem nameB_inner {s : By} (h : nameB s = true) : ∀ c ∈ s, innerB c = true := by
 unfold nameB at h
 rw [Bool.and_eq_true] at h
 exact List.all_eq_true.1 h.2
theorem takeW_all {p : UInt8 → Bool} {x : UInt8} (t : By) : ∀ (m : By), (∀ c ∈ m, p c = true) → p x = false → (m ++ x :: t).takeWhile p = m
 | [], _, h => by rw [List.nil_append, List.takeWhile_cons, if_neg (by rw [h]; decide)]
 | b :: m, h, hx => by
   rw [List.cons_append, List.takeWhile_cons, if_pos (h b List.mem_cons_self), takeW_all t m (fun c hc => h c (List.mem_cons_of_mem _ hc)) hx]
theorem split_inner : ∀ (m : By), (∀ c ∈ m, innerB c = true) ∨ ∃ u c v, m = u ++ c :: v ∧ (∀ d ∈ u, innerB d = true) ∧ innerB c = false
 | [] => Or.inl (by simp)
 | b :: m => by
   cases hb : innerB b
   ·exact Or.inr ⟨[], b, m, rfl, by simp, hb⟩
   ·rcases split_inner m with h | ⟨u, c, v, h1, h2, h3⟩
    ·refine Or.inl fun c hc => ?_
     rcases List.mem_cons.1 hc with e | e
     ·rw [e]; exact hb
     ·exact h c e
    ·refine Or.inr ⟨b :: u, c, v, by rw [h1]; rfl, fun c hc => ?_, h3⟩
     rcases List.mem_cons.1 hc with e | e
     ·rw [e]; exact hb
     ·exact h2 c e
theorem elemE_none {r : By} (h : (62 : UInt8) ∉ r) : elemP r = none := by
 have hq : ∀ (q : By) (n : Nat), (∀ c ∈ q, c ∈ r) → (62 : UInt8) ∉ q.drop n := fun q n h1 h2 => h (h1 _ (List.mem_of_mem_drop h2))
 have h1 : ∀ q : By, (62 : UInt8) ∉ q → ¬ q.head? = some 62 := fun q h1 h2 => h1 (List.mem_of_mem_head? (by rw [h2]; rfl))
 have h2 : ∀ q : By, (62 : UInt8) ∉ q → ¬ q.take 2 = [47, 62] := fun q h1 h2 => h1 (List.mem_of_mem_take (i := 2) (by rw [h2]; simp))
 have hq2 : ∀ q : By, (∀ c ∈ q, c ∈ r) → ∀ (e : Bool) (a : Nat × By × Nat) (b : Nat × By × Nat), (if nameB (q.takeWhile innerB) = true then
  (if (q.drop (q.takeWhile innerB).length).head? = some 62 then some a
   else if e = false ∧ (q.drop (q.takeWhile innerB).length).take 2 = [47, 62] then some b else none)
  else none) = none := by
  intro q hc e a b
  have h3 := hq q (q.takeWhile innerB).length hc
  split
  ·rw [if_neg (h1 _ h3), if_neg (fun e => h2 _ h3 e.2)]
  ·rfl
 unfold elemP
 refine hq2 (if (r.head? == some 47) = true then r.drop 1 else r) (fun c hc => ?_) (r.head? == some 47) _ _
 split at hc
 ·exact List.mem_of_mem_drop hc
 ·exact hc
theorem elemE_some {m t : By} (h : (62 : UInt8) ∉ m) : elemP (m ++ 62 :: t) = elE m := by
 have hi : innerB 62 = false := by decide
 have hi2 : innerB 47 = false := by decide
 have hh : ((m ++ 62 :: t).head? == some 47) = (m.head? == some 47) := by
  cases m with
  | nil => rfl
  | cons a m => rfl
 unfold elemP elE elQ
 simp only []
 rw [hh, hp47]
 cases he : (m.head? == some 47)
 ·simp only [Bool.false_eq_true, if_false]
  rcases split_inner m with ha | ⟨u, c, v, rfl, hu, hc⟩
  ·have hs : ¬ Lib.hasSuffix m [47] = true := fun e => by
    obtain ⟨u, e2⟩ := (hs47 m).1 e
    have := ha 47 (by rw [e2]; simp)
    rw [hi2] at this
    exact absurd this (by decide)
   rw [if_neg hs, takeW_all t m ha hi, List.drop_left, List.head?_cons, if_pos rfl]
  ·have hc62 : ¬ c = 62 := fun e => h (by rw [e]; simp)
   rw [List.append_assoc, List.cons_append, takeW_all (v ++ 62 :: t) u hu hc, List.drop_left, List.head?_cons, if_neg (fun e => hc62 (Option.some.inj e))]
   by_cases h47 : c = 47 ∧ v = []
   ·obtain ⟨rfl, rfl⟩ := h47
    rw [if_pos ((hs47 _).2 ⟨u, rfl⟩), List.dropLast_concat]
    cases hn : nameB u
    ·simp [hn]
    ·simp [hn]
   ·have hx : ¬ nameB (if Lib.hasSuffix (u ++ c :: v) [47] = true then ((7, (u ++ c :: v).dropLast) : Nat × By) else (5, u ++ c :: v)).2 = true := by
     intro e
     have e2 := nameB_inner e
     split at e2
     ·rename_i hs
      obtain ⟨z, hz⟩ := (hs47 _).1 hs
      cases v with
      | nil =>
        have := List.append_inj_right' hz rfl
        injection this with h1 _
        exact h47 ⟨h1, rfl⟩
      | cons d v =>
        have := e2 c (by
         rw [List.dropLast_append_of_ne_nil (by simp), List.dropLast_cons_of_ne_nil (by simp)]
         simp)
        rw [hc] at this
        exact absurd this (by decide)
     ·have := e2 c (by simp)
      rw [hc] at this
      exact absurd this (by decide)
    rw [if_neg hx]
    cases hn : nameB u
    ·rfl
    refine (if_pos rfl).trans (if_neg ?_)
    rintro ⟨_, e2⟩
    cases v with
    | nil =>
      injection e2 with h1 _
      exact h47 ⟨h1, rfl⟩
    | cons d v =>
      injection e2 with h1 h2
      injection h2 with h3 _
      exact h (by rw [h3]; simp)
 ·simp only [if_true]
  obtain ⟨m, rfl⟩ : ∃ m', m = 47 :: m' := by
   cases m with
   | nil => exact absurd he (by decide)
   | cons a m =>
     have := eq_of_beq he
     injection this with h1
     exact ⟨m, by rw [h1]⟩
  have h62 : (62 : UInt8) ∉ m := fun e => h (List.mem_cons_of_mem _ e)
  rw [List.cons_append, List.drop_succ_cons, List.drop_zero, List.drop_succ_cons, List.drop_zero]
  rcases split_inner m with ha | ⟨u, c, v, rfl, hu, hc⟩
  ·rw [takeW_all t m ha hi, List.drop_left, List.head?_cons, if_pos rfl]
   rfl
  ·have hc62 : ¬ c = 62 := fun e => h62 (by rw [e]; simp)
   rw [List.append_assoc, List.cons_append, takeW_all (v ++ 62 :: t) u hu hc, List.drop_left, List.head?_cons, if_neg (fun e => hc62 (Option.some.inj e))]
   have hx : ¬ nameB ((6, u ++ c :: v) : Nat × By).2 = true := by
    intro e
    have := nameB_inner e c (by simp)
    rw [hc] at this
    exact absurd this (by decide)
   rw [if_neg hx]
   cases hn : nameB u
   ·rfl
   ·exact (if_pos rfl).trans (if_neg (fun e => absurd e.1 (by decide)))
end Go.Proofs.YtiijdojihleggaaGreatDoor
namespace Go.Proofs.YtiijdojihleggaaGreatDoor
open Go.RowKit
def nxV : Option (Nat × By × Nat) → Value
 | none => .tuple #[.int .i64 0, .string ⟨#[]⟩, .int .i64 0]
 | some (k, x, n) => .tuple #[.int .i64 k, .string ⟨x.toArray⟩, .int .i64 n]
def RetNx (w : World) (o : Option (Nat × By × Nat)) (e : Ending) (w' : World) : Prop := e = .returned (nxV o) ∧ ∃ n, w' = w.drewN n
theorem ret_nx_none {w w' : World} {o : Option (Nat × By × Nat)} (h : o = none) (hw : ∃ n, w' = w.drewN n) :
 RetNx w o (.returned (.tuple #[.int .i64 0, .string ⟨#[]⟩, .int .i64 0])) w' := by subst h; exact ⟨rfl, hw⟩
theorem ret_nx_some {w w' : World} {o : Option (Nat × By × Nat)} {k n : Int} {k' n' : Nat} {b : ByteArray} (h : o = some (k', b.data.toList, n')) (hk : k = k') (hn : n = n') (hw : ∃ n, w' = w.drewN n) :
 RetNx w o (.returned (.tuple #[.int .i64 k, .string b, .int .i64 n])) w' := by subst h hk hn; exact ⟨rfl, hw⟩
theorem drew0 (w : World) : ∃ n, w = w.drewN n := ⟨0, rfl⟩
set_option maxHeartbeats 4000000 in
theorem telem_any (s : ByteArray) (r : By) (w : World) (hs : s.size ≤ 1048576) (he : s.data.toList = 60 :: r) : Calls Tryz.prog 138 #[.string s] w (RetNx w (elemP r)) := by
 have K1 : ∀ W, Calls Tryz.prog 177 #[.string s, .int .u8 62] W fun e w' => e = .returned (.int .i64 (Lib.indexByte s.data.toList 62)) ∧ w' = W := fun W => Tryz.strings_IndexByte s 62 W
 rw [he] at K1
 by_cases hr : (62 : UInt8) ∈ r
 rotate_left
 ·have hx : (62 : UInt8) ∉ 60 :: r := fun e => by
   rcases List.mem_cons.1 e with e1 | e1
   ·exact absurd e1 (by decide)
   ·exact hr e1
  rw [idx_none _ hx] at K1
  have HF := hid (elemE_none hr)
  have HK1 := hid K1
  clear K1 hx hr
  go_enter Tryz.func138, Tryz.ntmps138
  go_wp2_with fail
  refine (HK1.out _).mono ?_
  rintro e w2 ⟨rfl, rfl⟩
  go_wp2
  go_ret3
  exact ret_nx_none HF.out (drew0 _)
 ·obtain ⟨m, t, rfl, hm⟩ := split_at r hr
  rw [← List.cons_append, idx_some t (60 :: m) (fun e => by
   rcases List.mem_cons.1 e with e1 | e1
   ·exact absurd e1 (by decide)
   ·exact hm e1)] at K1
  rw [elemE_some hm]
  have hsz : s.size = m.length + t.length + 2 := by
   rw [← size_list, he, List.length_cons, List.length_append, List.length_cons]
   omega
  obtain ⟨M, hM⟩ : ∃ M, M = s.extract 1 (m.length + 1) := ⟨_, rfl⟩
  have hMd : M.data.toList = m := by
   rw [hM]
   simp only [ByteArray.data_extract, Array.toList_extract, List.extract_eq_take_drop]
   rw [he, List.drop_succ_cons, List.drop_zero, Nat.add_sub_cancel, List.take_left]
  have hMs : M.size = m.length := by rw [← size_list, hMd]
  have K2 : ∀ W, Calls Tryz.prog 178 #[.string M, .string ⟨#[47]⟩] W fun e w' => e = .returned (.tuple #[.string ⟨(Lib.trimPrefix m [47]).toArray⟩, .bool (Lib.hasPrefix m [47])]) ∧ w' = W := fun W => by
   have h := Tryz.strings_CutPrefix M ⟨#[47]⟩ W
   rwa [hMd] at h
  have K3 : ∀ W, Calls Tryz.prog 179 #[.string M, .string ⟨#[47]⟩] W fun e w' => e = .returned (.tuple #[.string ⟨(Lib.trimSuffix m [47]).toArray⟩, .bool (Lib.hasSuffix m [47])]) ∧ w' = W := fun W => by
   have h := Tryz.strings_CutSuffix M ⟨#[47]⟩ W (by omega)
   rwa [hMd] at h
  have H1 := hid (show ((60 :: m).length : Int) = (m.length : Int) + 1 from by rw [List.length_cons]; push_cast; rfl)
  rw [H1.out] at K1
  have HK1 := hid K1
  have HMd := hid hMd
  have hml : m.length + 2 ≤ s.size := by omega
  obtain ⟨q, hq⟩ : ∃ q, q = m.length := ⟨_, rfl⟩
  have HM := hid (show s.extract 1 (q + 1) = M from by rw [hM, hq])
  have HQ := hid hq
  have hb1 : (q : Int) + 2 ≤ (s.size : Int) := by omega
  have hb2 : s.size ≤ 1048576 := hs
  have hb3 : M.size = q := by rw [hMs, hq]
  rw [← hq] at HK1
  obtain ⟨B1, hB1⟩ : ∃ B : ByteArray, B = ⟨(Lib.trimPrefix m [47]).toArray⟩ := ⟨_, rfl⟩
  obtain ⟨B2, hB2⟩ : ∃ B : ByteArray, B = ⟨(Lib.trimSuffix m [47]).toArray⟩ := ⟨_, rfl⟩
  rw [← hB1] at K2
  rw [← hB2] at K3
  have HB1 := hid hB1
  have HB2 := hid hB2
  obtain ⟨X, hX⟩ : ∃ X : ByteArray × Nat, X = if Lib.hasPrefix m [47] = true then (B1, 6) else if Lib.hasSuffix m [47] = true then (B2, 7) else (M, 5) := ⟨_, rfl⟩
  have HE := hid (show elE m = if nameB X.1.data.toList = true then some (X.2, X.1.data.toList, q + 2) else none from by
   unfold elE
   rw [show elQ m = (X.2, X.1.data.toList) from by
    unfold elQ
    rw [hX, hB1, hB2]
    cases hp : Lib.hasPrefix m [47]
    ·simp only [Bool.false_eq_true, if_false]
     cases hsf : Lib.hasSuffix m [47]
     ·simp only [Bool.false_eq_true, if_false, hMd]
     ·simp only [if_true]
      show _ = (7, Lib.trimSuffix m [47])
      unfold Lib.trimSuffix
      rw [hsf, if_pos rfl, List.dropLast_eq_take]
      rfl
    ·simp only [if_true]
     show _ = (6, Lib.trimPrefix m [47])
     unfold Lib.trimPrefix
     rw [hp, if_pos rfl]
     rfl, hq])
  have hXs : X.1.size ≤ maxLen := by
   have h1 : ∀ B : ByteArray, B.data.toList.length ≤ q → B.size ≤ maxLen := fun B hB => by
    rw [← size_list]
    unfold maxLen
    omega
   have g1 : (Lib.trimPrefix m [47]).length ≤ m.length := by
    unfold Lib.trimPrefix
    split
    ·exact (List.drop_sublist _ _).length_le
    ·exact Nat.le_refl _
   have g2 : (Lib.trimSuffix m [47]).length ≤ m.length := by
    unfold Lib.trimSuffix
    split
    ·exact (List.take_sublist _ _).length_le
    ·exact Nat.le_refl _
   rw [← hq] at g1 g2
   rw [hX]
   split
   ·exact h1 _ (by rw [hB1]; exact g1)
   ·split
    ·exact h1 _ (by rw [hB2]; exact g2)
    ·exact h1 _ (by rw [hMd, hq]; exact Nat.le_refl _)
  have HN := hid (fun W => tname_any X.1 W hXs)
  generalize elE m = o at HE ⊢
  clear hB1 hB2 HB1 HB2
  cases hp : Lib.hasPrefix m [47]
  ·cases hsf : Lib.hasSuffix m [47]
   ·rw [hp] at K2 hX
    rw [hsf] at K3 hX
    rw [if_neg (by decide), if_neg (by decide)] at hX
    subst hX
    have HK2 := hid K2
    have HK3 := hid K3
    simp only at HN HE
    clear K1 K2 K3 hM hMd hr he hm hsz hml hq hMs hXs hp hsf
    go_enter Tryz.func138, Tryz.ntmps138
    go_wp2_with fail
    refine (HK1.out _).mono ?_
    rintro e w2 ⟨rfl, rfl⟩
    go_wp2
    go_quiet (fail)
    rw [HM.out]
    go_wp2_with fail
    refine (HK2.out _).mono ?_
    rintro e w3 ⟨rfl, rfl⟩
    go_wp2_with fail
    refine (HK3.out _).mono ?_
    rintro e w4 ⟨rfl, rfl⟩
    go_wp2_with fail
    refine (HN.out _).mono ?_
    rintro e w5 ⟨rfl, rfl⟩
    cases hn : nameB M.data.toList
    ·rw [hn, if_neg (by decide)] at HE
     go_wp2
     go_ret3
     exact ret_nx_none HE.out ⟨_, rfl⟩
    ·rw [hn, if_pos rfl] at HE
     go_wp2
     go_ret3
     exact ret_nx_some HE.out rfl (by push_cast; omega) ⟨_, rfl⟩
   ·rw [hp] at K2 hX
    rw [hsf] at K3 hX
    rw [if_neg (by decide), if_pos rfl] at hX
    subst hX
    have HK2 := hid K2
    have HK3 := hid K3
    simp only at HN HE
    clear K1 K2 K3 hM hMd hr he hm hsz hml hq hMs hXs hp hsf
    go_enter Tryz.func138, Tryz.ntmps138
    go_wp2_with fail
    refine (HK1.out _).mono ?_
    rintro e w2 ⟨rfl, rfl⟩
    go_wp2
    go_quiet (fail)
    rw [HM.out]
    go_wp2_with fail
    refine (HK2.out _).mono ?_
    rintro e w3 ⟨rfl, rfl⟩
    go_wp2_with fail
    refine (HK3.out _).mono ?_
    rintro e w4 ⟨rfl, rfl⟩
    go_wp2_with fail
    refine (HN.out _).mono ?_
    rintro e w5 ⟨rfl, rfl⟩
    cases hn : nameB B2.data.toList
    ·rw [hn, if_neg (by decide)] at HE
     go_wp2
     go_ret3
     exact ret_nx_none HE.out ⟨_, rfl⟩
    ·rw [hn, if_pos rfl] at HE
     go_wp2
     go_ret3
     exact ret_nx_some HE.out rfl (by push_cast; omega) ⟨_, rfl⟩
  ·rw [hp] at K2 hX
   rw [if_pos rfl] at hX
   subst hX
   have HK2 := hid K2
   simp only at HN HE
   clear K1 K2 K3 hM hMd hr he hm hsz hml hq hMs hXs hp
   go_enter Tryz.func138, Tryz.ntmps138
   go_wp2_with fail
   refine (HK1.out _).mono ?_
   rintro e w2 ⟨rfl, rfl⟩
   go_wp2
   go_quiet (fail)
   rw [HM.out]
   go_wp2_with fail
   refine (HK2.out _).mono ?_
   rintro e w3 ⟨rfl, rfl⟩
   go_wp2_with fail
   refine (HN.out _).mono ?_
   rintro e w5 ⟨rfl, rfl⟩
   cases hn : nameB B1.data.toList
   ·rw [hn, if_neg (by decide)] at HE
    go_wp2
    go_ret3
    exact ret_nx_none HE.out ⟨_, rfl⟩
   ·rw [hn, if_pos rfl] at HE
    go_wp2
    go_ret3
    exact ret_nx_some HE.out rfl (by push_cast; omega) ⟨_, rfl⟩
end Go.Proofs.YtiijdojihleggaaGreatDoor
namespace Go.Proofs.YtiijdojihleggaaGreatDoor
open Go.RowKit
theorem textN_len : ∀ (n : Nat) (s : By), s.length ≤ n → textN s ≤ s.length
 | 0, s, h => by
   cases s with
   | nil => exact Nat.le_refl _
   | cons c s => exact absurd h (by simp)
 | n + 1, [], _ => Nat.le_refl _
 | n + 1, [c], _ => by rw [textN]; split <;> simp
 | n + 1, c :: d :: r, h => by
   have h1 := textN_len n r (by simp at h; omega)
   have h2 := textN_len n (d :: r) (by simp at h ⊢; omega)
   rw [textN]
   simp only [List.length_cons] at h2 ⊢
   split
   ·split <;> omega
   ·omega
theorem wordN_len (s : By) : wordN s ≤ s.length := (List.takeWhile_sublist _).length_le
theorem extract_take {s : ByteArray} {k : Nat} : (s.extract 0 k).data.toList = s.data.toList.take k := by
 simp only [ByteArray.data_extract, Array.toList_extract, List.extract_eq_take_drop]
 rw [List.drop_zero, Nat.sub_zero]
set_option maxHeartbeats 4000000 in
theorem tnext_any (s : ByteArray) (c : UInt8) (r : By) (br : Bool) (w : World) (hs : s.size ≤ 1048576) (he : s.data.toList = c :: r) : Calls Tryz.prog 93 #[.string s, .bool br] w (RetNx w (nextP (c :: r) br)) := by
 have hs0 : 0 < s.size := by rw [← size_list, he]; simp
 have hc : s[0] = c := by
  have h := drop_at hs0
  rw [List.drop_zero, he] at h
  injection h with h1 _
  exact h1.symm
 have hI : (0 : Int) < (s.size : Int) := by omega
 have hI1 : (1 : Int) ≤ (s.size : Int) := by omega
 have h1 : (s.extract 0 1).data.toList = [c] := by
  simp only [ByteArray.data_extract, Array.toList_extract, List.extract_eq_take_drop]
  rw [he]; rfl
 have HC := hid hc
 have H1 := hid h1
 have HE := hid he
 obtain ⟨o, ho⟩ : ∃ o, o = nextP (c :: r) br := ⟨_, rfl⟩
 rw [← ho]
 unfold nextP at ho
 simp only at ho
 have htl := textN_len _ s.data.toList (Nat.le_refl _)
 have hwl := wordN_len s.data.toList
 rw [size_list, he] at htl hwl
 have KT := hid (fun W => tplain_any s W (by unfold maxLen; omega))
 have KW := hid (fun W => tword_any s W (by unfold maxLen; omega))
 rw [he] at KT KW
 clear h1 he
 by_cases e123 : c = 123
 ·subst e123
  rw [if_pos (by decide)] at ho
  have HO := hid ho
  clear ho
  have b123 : ((s[0].toNat : Int) == 123) = true := by rw [hc]; rfl
  clear hc htl hwl
  go_enter Tryz.func93, Tryz.ntmps93
  go_wp2
  go_quiet (fail)
  all_goals go_wp2
  all_goals go_ret3
  all_goals exact ret_nx_some (by rw [H1.out]; exact HO.out) rfl rfl ⟨_, rfl⟩
 by_cases e125 : c = 125
 ·subst e125
  rw [if_neg (by decide), if_pos (by decide)] at ho
  have HO := hid ho
  clear ho
  have b123 : ((s[0].toNat : Int) == 123) = false := by rw [hc]; rfl
  have b125 : ((s[0].toNat : Int) == 125) = true := by rw [hc]; rfl
  clear hc htl hwl
  go_enter Tryz.func93, Tryz.ntmps93
  go_wp2
  go_quiet (fail)
  all_goals go_wp2
  all_goals go_ret3
  all_goals exact ret_nx_some (by rw [H1.out]; exact HO.out) rfl rfl ⟨_, rfl⟩
 rw [if_neg (by rw [beq_iff_eq]; exact e123), if_neg (by rw [beq_iff_eq]; exact e125)] at ho
 cases br
 rotate_left
 ·rw [if_pos rfl] at ho
  by_cases e44 : c = 44
  ·subst e44
   rw [if_pos (by decide)] at ho
   have HO := hid ho
   clear ho
   have b123 : ((s[0].toNat : Int) == 123) = false := by rw [hc]; rfl
   have b125 : ((s[0].toNat : Int) == 125) = false := by rw [hc]; rfl
   have b44 : ((s[0].toNat : Int) == 44) = true := by rw [hc]; rfl
   clear hc htl hwl
   go_enter Tryz.func93, Tryz.ntmps93
   go_wp2
   go_quiet (fail)
   all_goals go_wp2
   all_goals go_ret3
   all_goals exact ret_nx_some (by rw [H1.out]; exact HO.out) rfl rfl ⟨_, rfl⟩
  rw [if_neg (by rw [beq_iff_eq]; exact e44)] at ho
  have b123 : ((s[0].toNat : Int) == 123) = false := by rw [hc]; exact u8_ne (n := 123) e123
  have b125 : ((s[0].toNat : Int) == 125) = false := by rw [hc]; exact u8_ne (n := 125) e125
  have b44 : ((s[0].toNat : Int) == 44) = false := by rw [hc]; exact u8_ne (n := 44) e44
  have HH := hid ho
  clear ho
  clear hc htl
  go_enter Tryz.func93, Tryz.ntmps93
  go_wp2_with fail
  refine (KW.out _).mono ?_
  rintro e w2 ⟨rfl, rfl⟩
  obtain ⟨n, hn⟩ : ∃ n, n = wordN (c :: r) := ⟨_, rfl⟩
  have ho := HH.out
  have HN := hid hn
  clear HH
  rw [← hn] at ho hwl ⊢
  by_cases hn0 : n = 0
  ·rw [if_pos hn0] at ho
   have HO := hid ho
   have hnI : ((n : Int) == 0) = true := by rw [beq_iff_eq]; omega
   clear ho hn
   go_wp2
   go_ret3
   exact ret_nx_none HO.out (drew0 _)
  ·rw [if_neg hn0] at ho
   have HO := hid ho
   have HX := hid (show (s.extract 0 n).data.toList = (c :: r).take n from by rw [extract_take, HE.out])
   have hnI : ((n : Int) == 0) = false := by rw [beq_eq_false_iff_ne]; omega
   have hnL : (n : Int) ≤ (s.size : Int) := by omega
   clear ho hn
   go_wp2
   go_quiet (fail)
   all_goals go_wp2
   all_goals go_ret3
   all_goals exact ret_nx_some (by rw [HX.out]; exact HO.out) rfl rfl ⟨_, rfl⟩
 rw [if_neg (by decide)] at ho
 by_cases e35 : c = 35
 ·subst e35
  rw [if_pos (by decide)] at ho
  have HO := hid ho
  clear ho
  have b123 : ((s[0].toNat : Int) == 123) = false := by rw [hc]; rfl
  have b125 : ((s[0].toNat : Int) == 125) = false := by rw [hc]; rfl
  have b35 : ((s[0].toNat : Int) == 35) = true := by rw [hc]; rfl
  clear hc htl hwl
  go_enter Tryz.func93, Tryz.ntmps93
  go_wp2
  go_quiet (fail)
  all_goals go_wp2
  all_goals go_ret3
  all_goals exact ret_nx_some (by rw [H1.out]; exact HO.out) rfl rfl ⟨_, rfl⟩
 rw [if_neg (by rw [beq_iff_eq]; exact e35)] at ho
 by_cases e60 : c = 60
 ·subst e60
  rw [if_pos (by decide)] at ho
  have KE := hid (fun W => telem_any s r W hs HE.out)
  rw [← ho] at KE
  clear ho
  have b123 : ((s[0].toNat : Int) == 123) = false := by rw [hc]; rfl
  have b125 : ((s[0].toNat : Int) == 125) = false := by rw [hc]; rfl
  have b35 : ((s[0].toNat : Int) == 35) = false := by rw [hc]; rfl
  have b60 : ((s[0].toNat : Int) == 60) = true := by rw [hc]; rfl
  clear hc htl hwl
  go_enter Tryz.func93, Tryz.ntmps93
  go_wp2_with fail
  refine (KE.out _).mono ?_
  rintro e w2 ⟨rfl, n, rfl⟩
  clear KE
  rcases o with _ | ⟨k, x, m⟩
  all_goals
   unfold nxV
   simp only []
   go_wp2
   go_ret3
   exact ⟨rfl, _, rfl⟩
 rw [if_neg (by rw [beq_iff_eq]; exact e60)] at ho
 have b123 : ((s[0].toNat : Int) == 123) = false := by rw [hc]; exact u8_ne (n := 123) e123
 have b125 : ((s[0].toNat : Int) == 125) = false := by rw [hc]; exact u8_ne (n := 125) e125
 have b35 : ((s[0].toNat : Int) == 35) = false := by rw [hc]; exact u8_ne (n := 35) e35
 have b60 : ((s[0].toNat : Int) == 60) = false := by rw [hc]; exact u8_ne (n := 60) e60
 have HH := hid ho
 clear ho
 clear hc hwl
 go_enter Tryz.func93, Tryz.ntmps93
 go_wp2_with fail
 refine (KT.out _).mono ?_
 rintro e w2 ⟨rfl, rfl⟩
 obtain ⟨n, hn⟩ : ∃ n, n = textN (c :: r) := ⟨_, rfl⟩
 have ho := HH.out
 have HN := hid hn
 clear HH
 rw [← hn] at ho htl ⊢
 by_cases hn0 : n = 0
 ·rw [if_pos hn0] at ho
  have HO := hid ho
  have hnI : ((n : Int) == 0) = true := by rw [beq_iff_eq]; omega
  clear ho hn
  go_wp2
  go_ret3
  exact ret_nx_none HO.out (drew0 _)
 ·rw [if_neg hn0] at ho
  have HO := hid ho
  have HX := hid (show (s.extract 0 n).data.toList = (c :: r).take n from by rw [extract_take, HE.out])
  have hnI : ((n : Int) == 0) = false := by rw [beq_eq_false_iff_ne]; omega
  have hnL : (n : Int) ≤ (s.size : Int) := by omega
  clear ho hn
  go_wp2
  go_quiet (fail)
  all_goals go_wp2
  all_goals go_ret3
  all_goals exact ret_nx_some (by rw [HX.out]; exact HO.out) rfl rfl ⟨_, rfl⟩
end Go.Proofs.YtiijdojihleggaaGreatDoor
namespace Go.Proofs.YtiijdojihleggaaGreatDoor
open Go.RowKit
theorem own_other {w w' : World} {B B2 : Nat} {e e2 : TypeId} {size s2 : Nat} {v v2 : Value} {n n2 : Nat} {xs x2 : List Value} (h : w.ownsRow B e size v n xs) (h2 : w.ownsRow B2 e2 s2 v2 n2 x2)
 (hg : w.grownBy w' v2.ownBlock) (he : e ≠ e2) : w'.ownsRow B e size v n xs := by
 obtain ⟨h1, h3⟩ := h
 refine ⟨h1, ?_⟩
 rcases h3 with h3 | ⟨g, cap, cur, hv, hb, hgc, r⟩
 ·exact .inl h3
 ·refine .inr ⟨g, cap, cur, hv, hb, (hg.block g (Array.getElem?_eq_some_iff.1 hgc).1 ?_).trans hgc, r⟩
  intro e0
  rcases h2.2 with ⟨hn, _⟩ | ⟨g2, c2, cur2, hv2, _, hgc2, _⟩
  ·rw [hn] at e0
   cases e0
  ·rw [hv2] at e0
   obtain rfl : g = g2 := by simpa [Value.ownBlock] using e0
   rw [hgc] at hgc2
   injection hgc2 with h4
   injection h4 with _ h5
   exact he h5
def tokC (t : Tok) : List Value := [.int .i64 t.k, .string ⟨t.t.toArray⟩, .int .i64 t.a, .int .i64 t.b]
def ahdT (ts : List Tok) (x : List Tok × Nat × Int) : List Tok × Nat × Int := if x.2.2 = 0 then (ts ++ x.1, 0, 0) else ([], x.2)
def dsV (d : Nat) : List Value := (List.range d).map fun i => Value.bool (i % 2 == 1)
theorem dsV_succ (d : Nat) : dsV (d + 1) = dsV d ++ [.bool (d % 2 == 1)] := by
 unfold dsV
 rw [List.range_succ, List.map_append]
 rfl
theorem dsV_len (d : Nat) : (dsV d).length = d := by unfold dsV; simp
theorem toks_code : ∀ (n : Nat) (s : By) (a d : Nat), (toksP n s a d).2.2 = 0 ∧ (toksP n s a d).2.1 = 0 ∨ (toksP n s a d).2.2 = 3 ∧ (toksP n s a d).1 = []
 | 0, _, _, _ => .inr ⟨rfl, rfl⟩
 | n + 1, [], a, d => by
   rw [toksP]
   split
   ·exact .inr ⟨rfl, rfl⟩
   ·exact .inl ⟨rfl, rfl⟩
 | n + 1, c :: r, a, d => by
   rw [toksP]
   split
   ·exact toks_code n r (a + 1) d
   ·split
    ·exact .inr ⟨rfl, rfl⟩
    ·rename_i k x m hn
     split
     ·exact .inr ⟨rfl, rfl⟩
     ·split
      ·exact .inl ⟨rfl, rfl⟩
      ·rcases toks_code n ((c :: r).drop m) (a + m) (deepN k d) with h | h
       ·rename_i h0
        exact absurd h.1 h0
       ·exact .inr ⟨h.1, rfl⟩
theorem ahd_start (x : List Tok × Nat × Int) (h : x.2.2 = 0 ∧ x.2.1 = 0 ∨ x.2.2 = 3 ∧ x.1 = []) : x = ahdT [] x := by
 obtain ⟨l, a, e⟩ := x
 simp only at h
 unfold ahdT
 rcases h with ⟨rfl, rfl⟩ | ⟨rfl, rfl⟩
 ·rfl
 ·rfl
theorem ahd_blank {ts : List Tok} {n : Nat} {c : UInt8} {r : By} {a d : Nat} (h : (d % 2 == 1 && blankB c) = true) : ahdT ts (toksP (n + 1) (c :: r) a d) = ahdT ts (toksP n r (a + 1) d) := by
 rw [toksP, if_pos h]
theorem ahd_bad {ts : List Tok} {n : Nat} {c : UInt8} {r : By} {a d : Nat} (h : (d % 2 == 1 && blankB c) = false) (hn : nextP (c :: r) (d % 2 == 1) = none) : ahdT ts (toksP (n + 1) (c :: r) a d) = ([], a, 3) := by
 rw [toksP, if_neg (by rw [h]; decide), hn]
 rfl
theorem ahd_shut {ts : List Tok} {n : Nat} {c : UInt8} {r : By} {a m : Nat} {x : By} (hn : nextP (c :: r) false = some (3, x, m)) : ahdT ts (toksP (n + 1) (c :: r) a 0) = ([], a, 3) := by
 rw [toksP, show ((0 : Nat) % 2 == 1) = false from rfl, Bool.false_and, if_neg (by decide), hn]
 rfl
theorem ahd_tok {ts : List Tok} {n : Nat} {c : UInt8} {r : By} {a d k m : Nat} {x : By} (h : (d % 2 == 1 && blankB c) = false) (hn : nextP (c :: r) (d % 2 == 1) = some (k, x, m)) (hk : ¬ (k = 3 ∧ d = 0)) :
 ahdT ts (toksP (n + 1) (c :: r) a d) = ahdT (ts ++ [⟨k, x, a, a + m⟩]) (toksP n ((c :: r).drop m) (a + m) (deepN k d)) := by
 rw [toksP, if_neg (by rw [h]; decide), hn]
 simp only []
 rw [if_neg hk]
 unfold ahdT
 by_cases h0 : (toksP n ((c :: r).drop m) (a + m) (deepN k d)).2.2 = 0
 ·rw [if_pos h0, if_pos h0, if_pos rfl, List.append_assoc]
  rfl
 ·rw [if_neg h0, if_neg h0, if_neg h0]
theorem ahd_end {ts : List Tok} {n : Nat} {a d : Nat} : ahdT ts (toksP (n + 1) [] a d) = if 0 < d then ([], a, 3) else (ts, 0, 0) := by
 rw [toksP]
 unfold ahdT
 by_cases h : 0 < d
 ·rw [if_pos h, if_pos h]; rfl
 ·rw [if_neg h, if_neg h, if_pos rfl, List.append_nil]
theorem nextP_pos {s : By} {b : Bool} {k m : Nat} {x : By} (h : nextP s b = some (k, x, m)) : 1 ≤ k := by
 cases s with
 | nil => cases h
 | cons c r =>
   simp only [nextP] at h
   repeat' split at h
   all_goals first
    | (cases h; done)
    | (injection h with h; injection h with h1 _; omega)
    | (have := elemP_some h; omega)
def RetTk (w : World) (x : List Tok × Nat × Int) (e : Ending) (w' : World) : Prop := ∃ A c, e = .returned (.tuple #[.slice A x.1.length c, .int .i64 x.2.1, .int .i64 x.2.2]) ∧ SlN w' A x.1.length 4 (x.1.flatMap tokC) ∧ Ext w w' ∧ ∀ ad, A = some ad → ad.block < w'.heap.size
theorem ret_tk_bad {w w' : World} {x : List Tok × Nat × Int} {a : Nat} {at_ e : Int} (h : x = ([], a, e)) (ha : at_ = a) (hw : Ext w w') : RetTk w x (.returned (.tuple #[.slice none 0 0, .int .i64 at_, .int .i64 e])) w' := by
 subst h ha
 exact ⟨none, 0, rfl, SlN.nil _ _ _, hw, fun ad h => by cases h⟩
theorem tok_one (l : List Tok) : ∀ u ∈ l.flatMap tokC, u.oneCell' = true := by
 intro u hu
 obtain ⟨t, _, h⟩ := List.mem_flatMap.1 hu
 unfold tokC at h
 simp at h
 rcases h with rfl | rfl | rfl | rfl <;> rfl
def TkI (w : World) (s : ByteArray) (R : List Tok × Nat × Int) (l i ms br : Value) (wr : World) : Prop :=
 ∃ (k d n : Nat) (ts : List Tok), k ≤ s.size ∧ i = .int .i64 k ∧ br = .bool (d % 2 == 1) ∧ s.size - k < n ∧ d ≤ k ∧ ts.length ≤ k ∧ R = ahdT ts (toksP n (s.data.toList.drop k) k d) ∧
   wr.ownsRow w.heap.size 4 1 ms d (dsV d) ∧ wr.ownsRow w.heap.size 162 4 l ts.length (ts.flatMap tokC) ∧ Ext w wr
end Go.Proofs.YtiijdojihleggaaGreatDoor
