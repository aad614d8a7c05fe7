import Derived.Test.YtehcldnicefmeaaGreatDoorNXE
import Derived.IntWalk
import Derived.Test.YtehcldnicefmeaaGreatDoorNX7
import Derived.Test.YtehcldnicefmeaaGreatDoorAnc
import Derived.Test.YtehcldnicefmeaaGreatDoorNX1
namespace Go.Proofs.YtehcldnicefmeaaGreatDoor
open Go.RowKit
set_option linter.unusedSimpArgs false
set_option linter.unusedVariables false

/-! Few aliases with short tags. -/
def shortA (a : Ali) : Bool := decide (a.1.size + a.2.size ≤ 120)
def fewL (l : List Ali) : Bool := l.all shortA && decide (l.length ≤ 12)
theorem fewL_len {l : List Ali} (h : fewL l = true) : l.length ≤ 12 ∧ ∀ a ∈ l, a.1.size ≤ 60000 ∧ a.2.size ≤ 60000 := by
  unfold fewL at h
  simp only [Bool.and_eq_true, decide_eq_true_eq] at h
  refine ⟨h.2, fun a ha => ?_⟩
  have := List.all_eq_true.1 h.1 a ha
  unfold shortA at this
  simp only [decide_eq_true_eq] at this
  omega
def FewInv (w : World) (l : List Ali) (n : Nat) (i : Value) (wr : World) : Prop :=
  ∃ k : Nat, k ≤ n ∧ i = .int .i64 k ∧ (l.take k).all shortA = true ∧ Ext w wr

set_option maxRecDepth 100000 in
theorem few20_any (l : List Ali) (A : Option Addr) (n c : Nat) (w : World) (hA : Als w A n l) (hn : n ≤ maxLen) (hz : ∀ a ∈ l, a.1.size ≤ reachBytes ∧ a.2.size ≤ reachBytes) :
    Calls Tryz.prog 28 #[.slice A n c] w fun e w' => e = .returned (.bool (fewL l)) ∧ Ext w w' := by
  unfold maxLen at hn
  have HA := Lib.hid hA
  have HL := Lib.hid hA.len
  have HZ := Lib.hid hz
  clear hA hz
  go_enter Tryz.func28, Tryz.ntmps28
  go_wp2_with fail
  go_loopw [3] (FewInv w l n) (fun i _ => n - (intOf i).toNat)
  case atStart => exact ⟨0, Nat.zero_le _, rfl, rfl, Ext.refl _⟩
  case round =>
    obtain ⟨k, hk, rfl, hall, hw⟩ := hrel
    have HALL := Lib.hid hall
    have HW := Lib.hid hw
    clear hall hw
    by_cases hkn : k < n
    · obtain ⟨⟨fb, ob⟩, hx⟩ : ∃ x, l[k]? = some x := ⟨_, List.getElem?_eq_getElem (by have := HL.out; omega)⟩
      obtain ⟨b, o, rfl, hb, c0, c1'⟩ := (HA.out.ext HW.out).at2 hx
      simp only at c0 c1'
      obtain ⟨z1, z2⟩ := HZ.out _ (List.mem_of_getElem? hx)
      simp only at z1 z2
      have zw : wrap64 ((fb.size : Int) + (ob.size : Int)) = (fb.size : Int) + (ob.size : Int) := by
        unfold reachBytes at z1 z2
        exact IntWalk.wrap64_in _ (by omega)
      have HX := Lib.hid hx
      clear hx
      go_wp2
      go_quiet (fail)
      by_cases h120 : fb.size + ob.size ≤ 120
      · have h120I : ¬ (120 : Int) < (fb.size : Int) + (ob.size : Int) := by omega
        go_wp2
        refine ⟨⟨k + 1, by omega, by go_num, ?_, HW.out.drewN _⟩, by simp [intOf]; omega⟩
        rw [take_next HX.out, List.all_append, HALL.out]
        simp [shortA, h120]
      · have h120I : (120 : Int) < (fb.size : Int) + (ob.size : Int) := by omega
        go_wp2
        go_ret
        refine ⟨ret_bool ?_, HW.out.drewN _⟩
        have : l.all shortA = false := by
          rw [List.all_eq_false]
          exact ⟨_, List.mem_of_getElem? HX.out, by simp [shortA]; omega⟩
        unfold fewL
        rw [this]
        rfl
    · have hkk : k = n := by omega
      subst hkk
      go_wp2
      go_ret
      refine ⟨ret_bool ?_, HW.out⟩
      have h := HALL.out
      rw [List.take_of_length_le (by have := HL.out; omega)] at h
      unfold fewL
      rw [h, HL.out, Bool.true_and]
      exact decide_eq_decide.2 (by omega)
end Go.Proofs.YtehcldnicefmeaaGreatDoor
namespace Go.Proofs.YtehcldnicefmeaaGreatDoor
set_option linter.unusedSimpArgs false
set_option linter.unusedVariables false

/-! Chains of locales, in plain words: a table is a list of tags with parents. -/
abbrev LocP := List UInt8 × List UInt8
abbrev BytesC := List UInt8
def tgC (T : List LocP) (i : Nat) : LocP := T.getD i ([], [])
def idxC (T : List LocP) (s : BytesC) : Option Nat := T.findIdx? fun x => x.1 == s
def nearC (T : List LocP) (s : BytesC) : Nat := match idxC T s with
  | some i => i
  | none => ((ancL s).1.findSome? (idxC T)).getD 0
def upC2 (T : List LocP) (i : Nat) : Option Nat := if (tgC T i).2 = [] then some (nearC T (parentP (tgC T i).1).1) else idxC T (tgC T i).2
/-- The chain goes on: what has come, and the last one of it. -/
def goC (T : List LocP) : Nat → List Nat → Nat → List Nat × Int
  | 0, _, _ => ([], 15)
  | n + 1, out, i => if i = 0 then (out, 0) else match upC2 T i with
    | none => ([], 10)
    | some k => if k ∈ out then ([], 15) else goC T n (out ++ [k]) k
def usableC (T : List LocP) (al : List Ali) : Bool := (T.head?.map (·.1) == some undP) && (T.all (fun x => isP x.1) && decide (T.map (·.1)).Nodup && al.all aliB)
def locsC (T : List LocP) (al : List Ali) (s : BytesC) : List Nat × Int :=
  if usableC T al = true then (if (canL al s).2 = 0 then goC T T.length [nearC T (canL al s).1] (nearC T (canL al s).1) else ([], (canL al s).2)) else ([], 1)
def ofC (T : List LocP) (al : List Ali) (s : BytesC) : List BytesC × Int := ((locsC T al s).1.map fun i => (tgC T i).1, (locsC T al s).2)

theorem tg_get {T : List LocP} {i : Nat} {x : LocP} (h : T[i]? = some x) : tgC T i = x := by
  unfold tgC; rw [List.getD_eq_getElem?_getD, h]; rfl
theorem idx_some {T : List LocP} {s : BytesC} {i : Nat} (h : idxC T s = some i) : i < T.length ∧ (tgC T i).1 = s := by
  unfold idxC at h
  rw [List.findIdx?_eq_some_iff_getElem] at h
  obtain ⟨hi, h1, _⟩ := h
  refine ⟨hi, ?_⟩
  rw [tg_get (List.getElem?_eq_getElem hi)]
  simpa using h1
theorem idx_none {T : List LocP} {s : BytesC} (h : idxC T s = none) : ∀ x ∈ T, x.1 ≠ s := by
  unfold idxC at h
  rw [List.findIdx?_eq_none_iff] at h
  intro x hx
  simpa using h x hx
theorem idx_of {T : List LocP} (hn : (T.map (·.1)).Nodup) {i : Nat} {x : LocP} (h : T[i]? = some x) : idxC T x.1 = some i := by
  unfold idxC
  rw [List.findIdx?_eq_some_iff_getElem]
  have hi := (List.getElem?_eq_some_iff.1 h).1
  have hx := (List.getElem?_eq_some_iff.1 h).2
  refine ⟨hi, by rw [hx]; simp, ?_⟩
  intro j hj
  have hne := List.pairwise_iff_getElem.1 hn j i (by simp; omega) (by simpa using hi) hj
  simp only [List.getElem_map, hx] at hne
  simpa using hne
theorem findSome_at {α β : Type} {f : α → Option β} {l : List α} {b : β} (h : l.findSome? f = some b) : ∃ a ∈ l, f a = some b := List.exists_of_findSome?_eq_some h
theorem near_lt {T : List LocP} (h0 : T ≠ []) (s : BytesC) : nearC T s < T.length := by
  have hp : 0 < T.length := List.length_pos_iff.2 h0
  unfold nearC
  split
  · rename_i i h; exact (idx_some h).1
  · cases h : (ancL s).1.findSome? (idxC T) with
    | none => simpa using hp
    | some i =>
      obtain ⟨a, _, ha⟩ := findSome_at h
      exact (idx_some ha).1
theorem up_lt {T : List LocP} (h0 : T ≠ []) {i k : Nat} (h : upC2 T i = some k) : k < T.length := by
  unfold upC2 at h
  split at h
  · injection h with h; subst h; exact near_lt h0 _
  · exact (idx_some h).1
/-- Different numbers below n are at most n. -/
theorem nodup_le {l : List Nat} {n : Nat} (h : l.Nodup) (hl : ∀ x ∈ l, x < n) : l.length ≤ n := by
  induction n generalizing l with
  | zero => cases l with
    | nil => simp
    | cons x r => exact absurd (hl x (by simp)) (by omega)
  | succ n ih =>
    by_cases hm : n ∈ l
    · have h1 := ih (h.erase n) (fun x hx => by
        have h2 := hl x (List.mem_of_mem_erase hx)
        have h3 : x ≠ n := fun e => by subst e; exact absurd hx h.not_mem_erase
        omega)
      rw [List.length_erase_of_mem hm] at h1
      omega
    · exact Nat.le_succ_of_le (ih h fun x hx => by
        have h2 := hl x hx
        have h3 : x ≠ n := fun e => hm (e ▸ hx)
        omega)
/-- What holds at the head of the loop. -/
def GoK (T : List LocP) (n : Nat) (out : List Nat) (i : Nat) : Prop := out.length + n = T.length + 1 ∧ out.Nodup ∧ (∀ x ∈ out, x < T.length) ∧ out.getLast? = some i
theorem GoK.lt {T : List LocP} {n : Nat} {out : List Nat} {i : Nat} (h : GoK T n out i) : i < T.length ∧ i ∈ out := by
  have h1 := List.mem_of_getLast? h.2.2.2
  exact ⟨h.2.2.1 i h1, h1⟩
theorem GoK.pos {T : List LocP} {n : Nat} {out : List Nat} {i : Nat} (h : GoK T n out i) : ∃ m, n = m + 1 := by
  have h1 := nodup_le h.2.1 h.2.2.1
  have h2 := h.1
  exact ⟨n - 1, by omega⟩
theorem GoK.start {T : List LocP} {i : Nat} (h : i < T.length) : GoK T T.length [i] i := ⟨by simp; omega, by simp, by simpa using h, rfl⟩
theorem GoK.next {T : List LocP} {n : Nat} {out : List Nat} {i k : Nat} (h : GoK T (n + 1) out i) (h0 : T ≠ []) (hk : upC2 T i = some k) (hn : k ∉ out) : GoK T n (out ++ [k]) k := by
  obtain ⟨h1, h2, h3, h4⟩ := h
  refine ⟨by simp; omega, ?_, ?_, by simp⟩
  · rw [List.nodup_append]
    exact ⟨h2, by simp, by intro a ha b hb; simp at hb; subst hb; rintro rfl; exact hn ha⟩
  · intro x hx
    rcases List.mem_append.1 hx with hx | hx
    · exact h3 x hx
    · obtain rfl := List.mem_singleton.1 hx
      exact up_lt h0 hk
theorem go_zero {T : List LocP} {n : Nat} {out : List Nat} {i : Nat} (h : GoK T n out i) (h0 : i = 0) : goC T n out i = (out, 0) := by
  obtain ⟨m, rfl⟩ := h.pos
  subst h0
  rfl
theorem go_none {T : List LocP} {n : Nat} {out : List Nat} {i : Nat} (h : GoK T n out i) (h0 : i ≠ 0) (hu : upC2 T i = none) : goC T n out i = ([], 10) := by
  obtain ⟨m, rfl⟩ := h.pos
  rw [goC, if_neg h0, hu]
theorem go_cycle {T : List LocP} {n : Nat} {out : List Nat} {i k : Nat} (h : GoK T n out i) (h0 : i ≠ 0) (hu : upC2 T i = some k) (hk : k ∈ out) : goC T n out i = ([], 15) := by
  obtain ⟨m, rfl⟩ := h.pos
  rw [goC, if_neg h0, hu]
  exact if_pos hk
theorem go_on {T : List LocP} {n : Nat} {out : List Nat} {i k : Nat} (h : GoK T n out i) (h0 : i ≠ 0) (hu : upC2 T i = some k) (hk : k ∉ out) (hT : T ≠ []) : goC T n out i = goC T (n - 1) (out ++ [k]) k ∧ GoK T (n - 1) (out ++ [k]) k := by
  obtain ⟨m, rfl⟩ := h.pos
  refine ⟨?_, h.next hT hu hk⟩
  rw [goC, if_neg h0, hu]
  exact if_neg hk
/-- What a chain that is whole looks like. -/
theorem go_ok {T : List LocP} (hT : T ≠ []) : ∀ (n : Nat) (out : List Nat) (i : Nat), GoK T n out i → (goC T n out i).2 = 0 →
    ∃ r, (goC T n out i).1 = out ++ r ∧ (out ++ r).Nodup ∧ (∀ x ∈ out ++ r, x < T.length) ∧ (out ++ r).getLast? = some 0
  | 0, out, i, h, _ => by obtain ⟨m, hm⟩ := h.pos; omega
  | n + 1, out, i, h, hc => by
    by_cases h0 : i = 0
    · subst h0
      exact ⟨[], by rw [go_zero h rfl]; simp, by simpa using h.2.1, by simpa using h.2.2.1, by simpa using h.2.2.2⟩
    · cases hu : upC2 T i with
      | none => rw [go_none h h0 hu] at hc; cases hc
      | some k =>
        by_cases hk : k ∈ out
        · rw [go_cycle h h0 hu hk] at hc; cases hc
        · obtain ⟨e, hg⟩ := go_on h h0 hu hk hT
          rw [e] at hc ⊢
          rw [show n + 1 - 1 = n from rfl] at *
          obtain ⟨r, h1, h2, h3, h4⟩ := go_ok hT n _ _ hg hc
          exact ⟨k :: r, by rw [h1]; simp, by simpa using h2, by simpa using h3, by simpa using h4⟩
theorem go_bad {T : List LocP} (hT : T ≠ []) : ∀ (n : Nat) (out : List Nat) (i : Nat), GoK T n out i → (goC T n out i).2 ≠ 0 → (goC T n out i).1 = []
  | 0, out, i, h, _ => rfl
  | n + 1, out, i, h, hc => by
    by_cases h0 : i = 0
    · rw [go_zero h h0] at hc; exact absurd rfl hc
    · cases hu : upC2 T i with
      | none => rw [go_none h h0 hu]
      | some k =>
        by_cases hk : k ∈ out
        · rw [go_cycle h h0 hu hk]
        · obtain ⟨e, hg⟩ := go_on h h0 hu hk hT
          rw [e] at hc ⊢
          exact go_bad hT n _ _ hg hc
/-- The rest of a chain is the chain of what stands there. -/
theorem go_suffix {T : List LocP} (hT : T ≠ []) : ∀ (n m : Nat) (out r : List Nat) (i : Nat) (pre suf : List Nat), GoK T n out i → out = pre ++ suf → suf.getLast? = some i → GoK T m suf i → goC T n out i = (out ++ r, 0) → goC T m suf i = (suf ++ r, 0)
  | 0, _, out, _, i, _, _, h, _, _, _, _ => by obtain ⟨m, hm⟩ := h.pos; omega
  | n + 1, m, out, r, i, pre, suf, h, ho, hs, hm, hc => by
    by_cases h0 : i = 0
    · rw [go_zero h h0] at hc
      injection hc with hc _
      have hr : r = [] := by simpa using hc
      subst hr
      rw [go_zero hm h0]
      simp
    · cases hu : upC2 T i with
      | none => rw [go_none h h0 hu] at hc; injection hc with _ hc; cases hc
      | some k =>
        by_cases hk : k ∈ out
        · rw [go_cycle h h0 hu hk] at hc; injection hc with _ hc; cases hc
        · obtain ⟨e, hg⟩ := go_on h h0 hu hk hT
          rw [e] at hc
          have hk2 : k ∉ suf := fun hx => hk (by rw [ho]; exact List.mem_append_right _ hx)
          obtain ⟨e2, hg2⟩ := go_on hm h0 hu hk2 hT
          rw [e2]
          have hr : ∃ r', r = k :: r' := by
            obtain ⟨r', h1, _⟩ := go_ok hT _ _ _ hg (by rw [show n + 1 - 1 = n from rfl] at hc ⊢; rw [hc])
            rw [hc] at h1
            simp at h1
            exact ⟨r', h1⟩
          obtain ⟨r', rfl⟩ := hr
          have := go_suffix hT (n + 1 - 1) (m - 1) (out ++ [k]) r' k pre (suf ++ [k]) hg (by rw [ho]; simp) (by simp) hg2 (by rw [hc]; simp)
          rw [this]
          simp

theorem usable_ok {T : List LocP} {al : List Ali} (h : usableC T al = true) : T ≠ [] ∧ (tgC T 0).1 = undP ∧ (∀ x ∈ T, isP x.1 = true) ∧ (T.map (·.1)).Nodup ∧ al.all aliB = true := by
  unfold usableC at h
  simp only [Bool.and_eq_true, beq_iff_eq, decide_eq_true_eq] at h
  obtain ⟨h1, ⟨h2, h3⟩, h4⟩ := h
  cases T with
  | nil => simp at h1
  | cons x r =>
    refine ⟨by simp, ?_, fun y hy => List.all_eq_true.1 h2 y hy, h3, h4⟩
    simpa [tgC] using h1
theorem locs_bad {T : List LocP} {al : List Ali} {s : BytesC} (h : (locsC T al s).2 ≠ 0) : (locsC T al s).1 = [] := by
  unfold locsC at h ⊢
  split
  · rename_i hu
    rw [if_pos hu] at h
    split
    · rename_i hc
      rw [if_pos hc] at h
      exact go_bad (usable_ok hu).1 _ _ _ (GoK.start (near_lt (usable_ok hu).1 _)) h
    · rfl
  · rfl
theorem locs_ok {T : List LocP} {al : List Ali} {s : BytesC} (h : (locsC T al s).2 = 0) : usableC T al = true ∧ (canL al s).2 = 0 ∧ ∃ r, (locsC T al s).1 = nearC T (canL al s).1 :: r ∧ (nearC T (canL al s).1 :: r).Nodup ∧ (∀ x ∈ nearC T (canL al s).1 :: r, x < T.length) ∧ (nearC T (canL al s).1 :: r).getLast? = some 0 ∧
    goC T T.length [nearC T (canL al s).1] (nearC T (canL al s).1) = (nearC T (canL al s).1 :: r, 0) := by
  unfold locsC at h ⊢
  by_cases hu : usableC T al = true
  · rw [if_pos hu] at h ⊢
    by_cases hc : (canL al s).2 = 0
    · rw [if_pos hc] at h ⊢
      obtain ⟨r, h1, h2, h3, h4⟩ := go_ok (usable_ok hu).1 _ _ _ (GoK.start (near_lt (usable_ok hu).1 _)) h
      refine ⟨hu, hc, r, h1, h2, h3, h4, ?_⟩
      rw [← h, ← show (goC T T.length [nearC T (canL al s).1] (nearC T (canL al s).1)).1 = nearC T (canL al s).1 :: r from h1]
    · rw [if_neg hc] at h; exact absurd h hc
  · rw [if_neg hu] at h; exact absurd h (by decide)
theorem near_idx {T : List LocP} {s : BytesC} {i : Nat} (h : idxC T s = some i) : nearC T s = i := by unfold nearC; rw [h]
/-- The chain of an element of a chain is what is left of it. -/
theorem ends_rest {T : List LocP} {s : BytesC} (h : (locsC T [] s).2 = 0) {j k : Nat} (hj : (locsC T [] s).1[j]? = some k) : locsC T [] (tgC T k).1 = ((locsC T [] s).1.drop j, 0) := by
  obtain ⟨hu, hc, r, h1, h2, h3, h4, h5⟩ := locs_ok h
  obtain ⟨hT, _, hp, hn, _⟩ := usable_ok hu
  rw [h1] at hj ⊢
  generalize nearC T (canL [] s).1 = i at *
  have hkl : k < T.length := h3 k (List.mem_of_getElem? hj)
  have hx : T[k]? = some T[k] := List.getElem?_eq_getElem hkl
  have hcan : canL [] (tgC T k).1 = ((tgC T k).1, 0) := by
    rw [canL_nil, tg_get hx]
    have := hp _ (List.mem_of_getElem? hx)
    unfold isP at this
    simp only [Bool.and_eq_true, beq_iff_eq] at this
    exact Prod.ext this.2 this.1
  have hidx : nearC T (tgC T k).1 = k := near_idx (by rw [tg_get hx]; exact idx_of hn hx)
  unfold locsC
  rw [if_pos hu, hcan]
  simp only [if_true, hidx]
  -- walk along to the j-th one
  have key : ∀ (q : Nat) (n : Nat) (out rest : List Nat) (i0 : Nat), GoK T n out i0 → goC T n out i0 = (out ++ rest, 0) → q < (i0 :: rest).length → ∃ n' out' i', GoK T n' out' i' ∧ goC T n' out' i' = (out' ++ rest.drop q, 0) ∧ (i0 :: rest)[q]? = some i' := by
    intro q
    induction q with
    | zero => intro n out rest i0 hg he _; exact ⟨n, out, i0, hg, by simpa using he, rfl⟩
    | succ q ih =>
      intro n out rest i0 hg he hq
      have h0 : i0 ≠ 0 := by
        intro h0
        rw [go_zero hg h0] at he
        injection he with he _
        have : rest = [] := by simpa using he
        subst this
        simp at hq
      cases hup : upC2 T i0 with
      | none => rw [go_none hg h0 hup] at he; injection he with _ he; cases he
      | some k0 =>
        by_cases hk0 : k0 ∈ out
        · rw [go_cycle hg h0 hup hk0] at he; injection he with _ he; cases he
        · obtain ⟨e, hg2⟩ := go_on hg h0 hup hk0 hT
          rw [e] at he
          obtain ⟨r', h1', _⟩ := go_ok hT _ _ _ hg2 (by rw [he])
          rw [he] at h1'
          have hr : rest = k0 :: r' := by simpa using h1'
          subst hr
          obtain ⟨n', out', i', a, b, c⟩ := ih (n - 1) (out ++ [k0]) r' k0 hg2 (by rw [he]; simp) (by simpa using hq)
          exact ⟨n', out', i', a, by simpa using b, by simpa using c⟩
  obtain ⟨n', out', i', hg', he', hi'⟩ := key j T.length [i] r i (GoK.start (h3 i (by simp))) (by simpa using h5) (List.getElem?_eq_some_iff.1 hj).1
  rw [hj] at hi'
  injection hi' with hi'
  subst hi'
  have hlast := hg'.2.2.2
  obtain ⟨pre, hpre⟩ : ∃ pre, out' = pre ++ [k] := by
    obtain ⟨p, hp⟩ := List.getLast?_eq_some_iff.1 hlast
    exact ⟨p, hp⟩
  have hfin := go_suffix hT n' T.length out' (r.drop j) k pre [k] hg' hpre rfl (GoK.start hkl) he'
  rw [hfin]
  congr 1
  have : (i :: r).drop j = k :: r.drop j := by
    have hjl := (List.getElem?_eq_some_iff.1 hj).1
    rw [List.drop_eq_getElem_cons hjl, (List.getElem?_eq_some_iff.1 hj).2]
    rfl
  rw [this]; rfl
end Go.Proofs.YtehcldnicefmeaaGreatDoor
namespace Go.Proofs.YtehcldnicefmeaaGreatDoor
set_option linter.unusedSimpArgs false
set_option linter.unusedVariables false

/-! The order of the locales behind the root. -/
def turnL {α : Type} : List α → List α
  | [] => []
  | x :: r => x :: r.reverse
def turnI (n i : Nat) : Nat := if i = 0 then 0 else n - i
theorem turn_lt {n i : Nat} (h : i < n) : turnI n i < n := by unfold turnI; split <;> omega
theorem turn_turn {n i : Nat} (h : i < n) : turnI n (turnI n i) = i := by
  unfold turnI
  by_cases h0 : i = 0
  · rw [if_pos h0, if_pos rfl, h0]
  · rw [if_neg h0, if_neg (by omega)]; omega
theorem turn_zero {n i : Nat} (h : i < n) : turnI n i = 0 ↔ i = 0 := by unfold turnI; split <;> omega
theorem turn_inj {n i j : Nat} (hi : i < n) (hj : j < n) : turnI n i = turnI n j ↔ i = j := by unfold turnI; split <;> split <;> omega
theorem turn_len {α : Type} (T : List α) : (turnL T).length = T.length := by cases T <;> simp [turnL]
theorem turn_perm {α : Type} (T : List α) : (turnL T).Perm T := by
  cases T with
  | nil => exact List.Perm.refl _
  | cons x r => exact (List.reverse_perm r).cons x
theorem turn_map {α β : Type} (f : α → β) (T : List α) : turnL (T.map f) = (turnL T).map f := by
  cases T with
  | nil => rfl
  | cons x r => simp [turnL]
theorem turn_at {α : Type} {T : List α} {i : Nat} (h : i < T.length) : (turnL T)[turnI T.length i]? = T[i]? := by
  cases T with
  | nil => simp at h
  | cons x r =>
    cases i with
    | zero => rfl
    | succ i =>
      simp only [List.length_cons] at h
      have e : turnI (r.length + 1) (i + 1) = (r.length - 1 - i) + 1 := by unfold turnI; rw [if_neg (by omega)]; omega
      show (x :: r.reverse)[turnI (r.length + 1) (i + 1)]? = (x :: r)[i + 1]?
      rw [e, List.getElem?_cons_succ, List.getElem?_cons_succ, List.getElem?_reverse (by omega)]
      congr 1
      omega
section
variable {T : List LocP}
theorem tg_turn {i : Nat} (h : i < T.length) : tgC (turnL T) (turnI T.length i) = tgC T i := by
  unfold tgC
  rw [List.getD_eq_getElem?_getD, List.getD_eq_getElem?_getD, turn_at h]
theorem idx_turn (hn : (T.map (·.1)).Nodup) (s : BytesC) : idxC (turnL T) s = (idxC T s).map (turnI T.length) := by
  cases h : idxC T s with
  | some i =>
    obtain ⟨hi, h1⟩ := idx_some h
    have hx : (turnL T)[turnI T.length i]? = some T[i] := by rw [turn_at hi]; exact List.getElem?_eq_getElem hi
    rw [tg_get (List.getElem?_eq_getElem hi)] at h1
    have hn2 : ((turnL T).map (·.1)).Nodup := ((turn_perm T).map _).nodup_iff.2 hn
    have := idx_of hn2 hx
    rw [h1] at this
    exact this
  | none =>
    unfold idxC
    simp only [Option.map_none]
    rw [List.findIdx?_eq_none_iff]
    intro x hx
    have := idx_none h x ((turn_perm T).mem_iff.1 hx)
    simpa using this
theorem near_turn (hn : (T.map (·.1)).Nodup) (s : BytesC) : nearC (turnL T) s = turnI T.length (nearC T s) := by
  unfold nearC
  rw [idx_turn hn]
  cases idxC T s with
  | some i => rfl
  | none =>
    simp only [Option.map_none]
    have e : ∀ l : List BytesC, l.findSome? (idxC (turnL T)) = (l.findSome? (idxC T)).map (turnI T.length) := by
      intro l
      induction l with
      | nil => rfl
      | cons a r ih =>
        rw [List.findSome?_cons, List.findSome?_cons, idx_turn hn]
        cases idxC T a with
        | none => exact ih
        | some i => rfl
    rw [e]
    cases (ancL s).1.findSome? (idxC T) with
    | none => rfl
    | some i => rfl
theorem up_turn (hn : (T.map (·.1)).Nodup) {i : Nat} (h : i < T.length) : upC2 (turnL T) (turnI T.length i) = (upC2 T i).map (turnI T.length) := by
  unfold upC2
  rw [tg_turn h]
  split
  · rw [near_turn hn]; rfl
  · exact idx_turn hn _
theorem mem_turn {out : List Nat} {k : Nat} (ho : ∀ x ∈ out, x < T.length) (hk : k < T.length) : turnI T.length k ∈ out.map (turnI T.length) ↔ k ∈ out := by
  rw [List.mem_map]
  constructor
  · rintro ⟨x, hx, e⟩
    rw [turn_inj (ho x hx) hk] at e
    exact e ▸ hx
  · intro h; exact ⟨k, h, rfl⟩
theorem go_turn (hT : T ≠ []) (hn : (T.map (·.1)).Nodup) : ∀ (n : Nat) (out : List Nat) (i : Nat), GoK T n out i → goC (turnL T) n (out.map (turnI T.length)) (turnI T.length i) = ((goC T n out i).1.map (turnI T.length), (goC T n out i).2)
  | 0, out, i, h => by obtain ⟨m, hm⟩ := h.pos; omega
  | n + 1, out, i, h => by
    have hi := h.lt.1
    by_cases h0 : i = 0
    · rw [go_zero h h0]
      subst h0
      rw [goC, if_pos (by rfl)]
    · have h0' : turnI T.length i ≠ 0 := fun e => h0 ((turn_zero hi).1 e)
      cases hu : upC2 T i with
      | none =>
        rw [go_none h h0 hu, goC, if_neg h0', up_turn hn hi, hu]
        rfl
      | some k =>
        have hk := up_lt hT hu
        by_cases hm : k ∈ out
        · rw [go_cycle h h0 hu hm, goC, if_neg h0', up_turn hn hi, hu]
          simp only [Option.map_some]
          rw [if_pos ((mem_turn h.2.2.1 hk).2 hm)]
          rfl
        · obtain ⟨e, hg⟩ := go_on h h0 hu hm hT
          rw [e, goC, if_neg h0', up_turn hn hi, hu]
          simp only [Option.map_some]
          rw [if_neg fun q => hm ((mem_turn h.2.2.1 hk).1 q)]
          have := go_turn hT hn n (out ++ [k]) k hg
          rw [List.map_append] at this
          exact this
theorem usable_turn (al : List Ali) : usableC (turnL T) al = usableC T al := by
  unfold usableC
  have h1 : (turnL T).head? = T.head? := by cases T <;> rfl
  have h2 : (turnL T).all (fun x => isP x.1) = T.all (fun x => isP x.1) := by
    rw [Bool.eq_iff_iff, List.all_eq_true, List.all_eq_true]
    exact ⟨fun h x hx => h x ((turn_perm T).mem_iff.2 hx), fun h x hx => h x ((turn_perm T).mem_iff.1 hx)⟩
  have h3 : decide ((turnL T).map (·.1)).Nodup = decide (T.map (·.1)).Nodup := by
    rw [Bool.eq_iff_iff, decide_eq_true_eq, decide_eq_true_eq]
    exact ((turn_perm T).map _).nodup_iff
  rw [h1, h2, h3]
theorem locs_turn (al : List Ali) (s : BytesC) : locsC (turnL T) al s = ((locsC T al s).1.map (turnI T.length), (locsC T al s).2) := by
  unfold locsC
  rw [usable_turn]
  by_cases hu : usableC T al = true
  · rw [if_pos hu, if_pos hu]
    obtain ⟨hT, _, _, hn, _⟩ := usable_ok hu
    by_cases hc : (canL al s).2 = 0
    · rw [if_pos hc, if_pos hc, turn_len, near_turn hn]
      exact go_turn hT hn T.length [nearC T (canL al s).1] _ (GoK.start (near_lt hT _))
    · rw [if_neg hc, if_neg hc]; rfl
  · rw [if_neg hu, if_neg hu]; rfl
theorem of_turn (al : List Ali) (s : BytesC) : ofC (turnL T) al s = ofC T al s := by
  unfold ofC
  rw [locs_turn]
  simp only [List.map_map]
  congr 1
  by_cases hc : (locsC T al s).2 = 0
  · obtain ⟨_, _, r, h1, _, h3, _⟩ := locs_ok hc
    refine List.map_congr_left fun x hx => ?_
    have hx' := h3 x (by rw [← h1]; exact hx)
    simp only [Function.comp]
    rw [tg_turn hx']
  · rw [locs_bad hc]; rfl
end

/-! What a chain is. -/
theorem of_err {T : List LocP} {al : List Ali} {s : BytesC} (h : (ofC T al s).2 ≠ 0) : (ofC T al s).1 = [] := by
  unfold ofC at h ⊢
  simp only at h ⊢
  rw [locs_bad h]; rfl
theorem tag_inj {T : List LocP} (hn : (T.map (·.1)).Nodup) {i j : Nat} (hi : i < T.length) (hj : j < T.length) (h : (tgC T i).1 = (tgC T j).1) : i = j := by
  have h1 := idx_of hn (List.getElem?_eq_getElem hi)
  have h2 := idx_of hn (List.getElem?_eq_getElem hj)
  rw [tg_get (List.getElem?_eq_getElem hi), tg_get (List.getElem?_eq_getElem hj)] at h
  rw [h, h2] at h1
  injection h1 with h1
  exact h1.symm
theorem of_shape {T : List LocP} {al : List Ali} {s : BytesC} (h : (ofC T al s).2 = 0) : (ofC T al s).1.getLast? = some undP ∧ (ofC T al s).1.Nodup := by
  have h' : (locsC T al s).2 = 0 := h
  obtain ⟨hu, _, r, h1, h2, h3, h4, _⟩ := locs_ok h'
  obtain ⟨hT, h0, _, hn, _⟩ := usable_ok hu
  unfold ofC
  simp only
  rw [h1]
  constructor
  · rw [List.getLast?_map, h4]
    show some (tgC T 0).1 = _
    rw [h0]
  · unfold List.Nodup
    rw [List.pairwise_map]
    refine List.Pairwise.imp_of_mem ?_ h2
    intro a b ha hb hab he
    exact hab (tag_inj hn (h3 a ha) (h3 b hb) he)
theorem of_rest {T : List LocP} {s : BytesC} (h : (ofC T [] s).2 = 0) {j : Nat} {x : BytesC} (hj : (ofC T [] s).1[j]? = some x) : ofC T [] x = ((ofC T [] s).1.drop j, 0) := by
  unfold ofC at hj ⊢
  simp only at hj ⊢
  rw [List.getElem?_map] at hj
  cases hk : (locsC T [] s).1[j]? with
  | none => rw [hk] at hj; cases hj
  | some k =>
    rw [hk] at hj
    injection hj with hj
    subst hj
    rw [ends_rest h hk, List.map_drop]

/-! Entries that are inherited. -/
abbrev EntP := BytesC × Int
def entB (id : BytesC) (x : EntP) : Bool := x.1 == id && (x.2 == 2 || x.2 == 3)
def inCat (x : BytesC) (id : BytesC) (c : BytesC × List EntP) : Option Nat := if c.1 = x then c.2.findIdx? (entB id) else none
/-- The first one of a list from a number on, with what it answers. -/
def firstN {α β : Type} (f : α → Option β) : Nat → List α → Option (Nat × β)
  | _, [] => none
  | n, a :: r => match f a with
    | some b => some (n, b)
    | none => firstN f (n + 1) r
def findL (tags : List BytesC) (cats : List (BytesC × List EntP)) (id : BytesC) : Option (Nat × Nat) := tags.findSome? fun x => firstN (inCat x id) 0 cats
def findC (T : List LocP) (al : List Ali) (cats : List (BytesC × List EntP)) (s id : BytesC) : (Int × Int) × Int :=
  if (ofC T al s).2 = 0 then (match findL (ofC T al s).1 cats id with
    | some (c, k) => (((c : Int), (k : Int)), 0)
    | none => ((0, 0), 8)) else ((0, 0), (ofC T al s).2)
theorem first_take {α β : Type} {f : α → Option β} : ∀ {l : List α} {n k : Nat}, (∀ j x, j < k → l[j]? = some x → f x = none) → k ≤ l.length → firstN f n l = firstN f (n + k) (l.drop k)
  | l, n, 0, _, _ => by simp
  | [], n, k + 1, _, h => by simp at h
  | a :: r, n, k + 1, h, hk => by
    rw [firstN, h 0 a (by omega) rfl]
    simp only [List.drop_succ_cons]
    rw [first_take (l := r) (n := n + 1) (k := k) (fun j x hj hx => h (j + 1) x (by omega) (by simpa using hx)) (by simpa using hk)]
    congr 1
    omega
theorem first_none {α β : Type} {f : α → Option β} {l : List α} {n : Nat} (h : ∀ j x, j < l.length → l[j]? = some x → f x = none) : firstN f n l = none := by
  rw [first_take (k := l.length) (fun j x hj hx => h j x hj hx) (Nat.le_refl _), List.drop_length]
  rfl
theorem first_some {α β : Type} {f : α → Option β} {l : List α} {n k : Nat} {x : α} {b : β} (h : ∀ j x, j < k → l[j]? = some x → f x = none) (hx : l[k]? = some x) (hb : f x = some b) : firstN f n l = some (n + k, b) := by
  have hk := (List.getElem?_eq_some_iff.1 hx).1
  rw [first_take h (Nat.le_of_lt hk), List.drop_eq_getElem_cons hk, (List.getElem?_eq_some_iff.1 hx).2, firstN, hb]

/-! Which locale is the best one. -/
def wantC (al : List Ali) : List BytesC → List BytesC × Int
  | [] => ([], 0)
  | s :: r => if (canL al s).2 = 0 then (if (wantC al r).2 = 0 then ((canL al s).1 :: (wantC al r).1, 0) else ([], (wantC al r).2)) else ([], (canL al s).2)
def negC (T : List LocP) (al : List Ali) (l : List NearP) (R : List BytesC) : BytesC × Int :=
  if (usableC T al && validN l) = true then (if (wantC al R).2 = 0 then (if (bestR EC l (wantC al R).1 (T.map (·.1))).2 = 0 then ((tgC T (bestR EC l (wantC al R).1 (T.map (·.1))).1.toNat).1, 0) else (undP, 0)) else ([], (wantC al R).2)) else ([], 1)

section
variable {l : List NearP}
theorem at_turn {S : List TagP} {k : Nat} (hk : k < S.length) : atP (turnL S) (turnI S.length k) = atP S k := by
  unfold atP
  rw [List.getD_eq_getElem?_getD, List.getD_eq_getElem?_getD, turn_at hk]
theorem at_turn2 {S : List TagP} {k : Nat} (hk : k < S.length) : atP (turnL S) k = atP S (turnI S.length k) := by
  have h := at_turn (turn_lt hk)
  rw [turn_turn hk] at h
  exact h
theorem nearB_turn {t : TagP} {S : List TagP} {k : Nat} (hk : k < S.length) : nearB l t (turnL S) k = nearB l t S (turnI S.length k) := by
  rw [Bool.eq_iff_iff, near_iff, near_iff, at_turn2 hk, turn_len]
  constructor
  · rintro ⟨h1, h2⟩
    refine ⟨h1, fun j hj hn => ?_⟩
    have := h2 (turnI S.length j) (turn_lt hj) (fun e => hn (by rw [← e, turn_turn hj]))
    rw [at_turn hj] at this
    exact this
  · rintro ⟨h1, h2⟩
    refine ⟨h1, fun j hj hn => ?_⟩
    rw [at_turn2 hj]
    exact h2 _ (turn_lt hj) fun e => hn ((turn_inj hj hk).1 e)
theorem bestT_turn (t : TagP) (S : List TagP) : bestT l t (turnL S) = (bestT l t S).map (turnI S.length) := by
  cases h : bestT l t S with
  | some k =>
    obtain ⟨hk, hn⟩ := best_some.1 h
    refine best_some.2 ⟨by rw [turn_len]; exact turn_lt hk, ?_⟩
    rw [nearB_turn (turn_lt hk), turn_turn hk]
    exact hn
  | none =>
    refine best_none.2 fun k hk => ?_
    rw [turn_len] at hk
    rw [nearB_turn hk]
    exact best_none.1 h _ (turn_lt hk)
theorem bestL_turn (T S : List TagP) : bestL l T (turnL S) = (bestL l T S).map (turnI S.length) := by
  unfold bestL
  induction T with
  | nil => rfl
  | cons t r ih =>
    rw [List.findSome?_cons, List.findSome?_cons, bestT_turn]
    cases bestT l t S with
    | none => exact ih
    | some k => rfl
theorem apart_turn (S : List TagP) : apartT (turnL S) = apartT S := by
  unfold apartT
  rw [Bool.eq_iff_iff, decide_eq_true_eq, decide_eq_true_eq]
  exact ((turn_perm S).map _).nodup_iff
theorem read_ok_turn {S : List BytesC} : (readP EC (turnL S)).2 = 0 ↔ (readP EC S).2 = 0 := by
  rw [read_ok, read_ok]
  exact ⟨fun h s hs => h s ((turn_perm S).mem_iff.2 hs), fun h s hs => h s ((turn_perm S).mem_iff.1 hs)⟩
/-- The order of the supported tags behind the first one does not matter, where all of them are tags. -/
theorem bestR_turn (R S : List BytesC) (hS : (readP EC S).2 = 0) : ((bestR EC l R (turnL S)).2 = 0 ↔ (bestR EC l R S).2 = 0) ∧ ((bestR EC l R S).2 = 0 → ∃ k : Nat, k < S.length ∧ (bestR EC l R S).1 = k ∧ (bestR EC l R (turnL S)).1 = (turnI S.length k : Nat)) := by
  have hS2 := read_ok_turn.2 hS
  have e1 : (readP EC (turnL S)).1 = turnL (readP EC S).1 := by rw [read_eq hS, read_eq hS2, turn_map]
  have hlen : (readP EC S).1.length = S.length := by rw [read_eq hS]; simp
  by_cases hb : (bothL EC l R S).2 = 0
  · obtain ⟨h1, h2, _, h4, h5⟩ := both_ok hb
    have hb2 := both_of (E := EC) (l := l) (R := R) (S := turnL S) h1 h2 hS2 (by rw [e1, apart_turn]; exact h4)
    have hb2' : (bothL EC l R (turnL S)).2 = 0 := by rw [hb2]
    have hbt := bestL_turn (l := l) (readP EC R).1 (readP EC S).1
    cases hbl : bestL l (readP EC R).1 (readP EC S).1 with
    | none =>
      rw [hbl] at hbt
      rw [bestR_none hb (by rw [h5]; exact hbl), bestR_none hb2' (by rw [hb2]; simp only; rw [e1]; exact hbt)]
      exact ⟨Iff.rfl, fun h => absurd h (by decide)⟩
    | some k =>
      rw [hbl] at hbt
      have hk := bestL_lt hbl
      rw [bestR_some hb (by rw [h5]; exact hbl), bestR_some hb2' (i := turnI (readP EC S).1.length k) (by rw [hb2]; simp only; rw [e1]; exact hbt)]
      refine ⟨Iff.rfl, fun _ => ⟨k, by rw [← hlen]; exact hk, rfl, by rw [hlen]⟩⟩
  · have hb2 : ¬ (bothL EC l R (turnL S)).2 = 0 := by
      intro h
      obtain ⟨h1, h2, h3, h4, _⟩ := both_ok h
      rw [e1, apart_turn] at h4
      exact hb (by rw [both_of h1 h2 hS h4])
    rw [bestR_bad hb, bestR_bad hb2]
    exact ⟨⟨fun h => absurd h hb2, fun h => absurd h hb⟩, fun h => absurd h hb⟩
theorem neg_turn (T : List LocP) (al : List Ali) (R : List BytesC) : negC (turnL T) al l R = negC T al l R := by
  unfold negC
  rw [usable_turn]
  by_cases hu : usableC T al = true
  · obtain ⟨hT, _, hp, hn, _⟩ := usable_ok hu
    have hS : (readP EC (T.map (·.1))).2 = 0 := read_ok.2 fun s hs => by
      obtain ⟨x, hx, rfl⟩ := List.mem_map.1 hs
      have := hp x hx
      unfold isP canP at this
      simp only [Bool.and_eq_true, beq_iff_eq] at this
      exact this.1
    obtain ⟨q1, q2⟩ := bestR_turn (l := l) (wantC al R).1 (T.map (·.1)) hS
    rw [turn_map] at q1 q2
    by_cases hv : (usableC T al && validN l) = true
    · rw [if_pos hv, if_pos hv]
      by_cases hw : (wantC al R).2 = 0
      · rw [if_pos hw, if_pos hw]
        by_cases hb : (bestR EC l (wantC al R).1 (T.map (·.1))).2 = 0
        · rw [if_pos hb, if_pos (q1.2 hb)]
          obtain ⟨k, hk, e1, e2⟩ := q2 hb
          rw [e1, e2]
          rw [List.length_map] at hk
          have := tg_turn (T := T) hk
          simp only [List.length_map, Int.toNat_natCast]
          rw [this]
        · rw [if_neg hb, if_neg fun h => hb (q1.1 h)]
      · rw [if_neg hw, if_neg hw]
    · rw [if_neg hv, if_neg hv]
  · have : ¬ (usableC T al && validN l) = true := by simp [hu]
    rw [if_neg this, if_neg this]
end
end Go.Proofs.YtehcldnicefmeaaGreatDoor
