import Derived.Test.YtljdlkonlnjadaaGreatDoorNXE
import Derived.IntWalk
import Derived.Test.YtljdlkonlnjadaaGreatDoorNX6
import Derived.Test.YtljdlkonlnjadaaGreatDoorAnc
set_option maxRecDepth 100000
set_option linter.unusedSimpArgs false
set_option linter.unusedVariables false
open Go.Lib (hid)
namespace Go.Proofs.YtljdlkonlnjadaaGreatDoor
open Go.RowKit
def shortA (a : Ali) : Bool := decide (a.1.size + a.2.size ≤ 120)
def fewL (l : List Ali) : Bool := l.all shortA && decide (l.length ≤ 12)
theorem fewL_len {l : List Ali} (h : fewL l = true) : l.length ≤ 12 ∧ ∀ a ∈ l, a.1.size ≤ 60000 ∧ a.2.size ≤ 60000 := by
 unfold fewL at h
 simp only [Bool.and_eq_true, decide_eq_true_eq] at h
 refine ⟨h.2, fun a ha => ?_⟩
 have := List.all_eq_true.1 h.1 a ha
 unfold shortA at this
 simp only [decide_eq_true_eq] at this
 omega
def FewInv (w : World) (l : List Ali) (n : Nat) (i : Value) (wr : World) : Prop :=
 ∃ k : Nat, k ≤ n ∧ i = .int .i64 k ∧ (l.take k).all shortA = true ∧ Ext w wr
theorem few20_any (l : List Ali) (A : Option Addr) (n c : Nat) (w : World) (hA : Als w A n l) (hn : n ≤ maxLen) (hz : ∀ a ∈ l, a.1.size ≤ reachBytes ∧ a.2.size ≤ reachBytes) :
 Calls Tryz.prog 16 #[.slice A n c] w fun e w' => e = .returned (.bool (fewL l)) ∧ Ext w w' := by
 unfold maxLen at hn
 have HA := hid hA
 have HL := hid hA.len
 have HZ := hid hz
 clear hA hz
 go_enter Tryz.func16, Tryz.ntmps16
 go_wp2_with fail
 go_loopw [3] (FewInv w l n) (fun i _ => n - (intOf i).toNat)
 case atStart => exact ⟨0, Nat.zero_le _, rfl, rfl, Ext.refl _⟩
 case round =>
  obtain ⟨k, hk, rfl, hall, hw⟩ := hrel
  have HALL := hid hall
  have HW := hid hw
  clear hall hw
  by_cases hkn : k < n
  ·obtain ⟨⟨fb, ob⟩, hx⟩ : ∃ x, l[k]? = some x := ⟨_, List.getElem?_eq_getElem (by have := HL.out; omega)⟩
   obtain ⟨b, o, rfl, hb, c0, c1'⟩ := (HA.out.ext HW.out).at2 hx
   simp only at c0 c1'
   obtain ⟨z1, z2⟩ := HZ.out _ (List.mem_of_getElem? hx)
   simp only at z1 z2
   have zw : wrap64 ((fb.size : Int) + (ob.size : Int)) = (fb.size : Int) + (ob.size : Int) := by
    unfold reachBytes at z1 z2
    exact IntWalk.wrap64_in _ (by omega)
   have HX := hid hx
   clear hx
   go_wp2
   go_quiet (fail)
   by_cases h120 : fb.size + ob.size ≤ 120
   ·have h120I : ¬ (120 : Int) < (fb.size : Int) + (ob.size : Int) := by omega
    go_wp2
    refine ⟨⟨k + 1, by omega, by go_num, ?_, HW.out.drewN _⟩, by simp [intOf]; omega⟩
    rw [take_next HX.out, List.all_append, HALL.out]
    simp [shortA, h120]
   ·have h120I : (120 : Int) < (fb.size : Int) + (ob.size : Int) := by omega
    go_wp2
    go_ret
    refine ⟨ret_bool ?_, HW.out.drewN _⟩
    have : l.all shortA = false := by
     rw [List.all_eq_false]
     exact ⟨_, List.mem_of_getElem? HX.out, by simp [shortA]; omega⟩
    unfold fewL
    rw [this]
    rfl
  ·have hkk : k = n := by omega
   subst hkk
   go_wp2
   go_ret
   refine ⟨ret_bool ?_, HW.out⟩
   have h := HALL.out
   rw [List.take_of_length_le (by have := HL.out; omega)] at h
   unfold fewL
   rw [h, HL.out, Bool.true_and]
   exact decide_eq_decide.2 (by omega)
end Go.Proofs.YtljdlkonlnjadaaGreatDoor
namespace Go.Proofs.YtljdlkonlnjadaaGreatDoor
abbrev LocP := List UInt8 × List UInt8
abbrev BytesC := List UInt8
def tgC (T : List LocP) (i : Nat) : LocP := T.getD i ([], [])
def idxC (T : List LocP) (s : BytesC) : Option Nat := T.findIdx? fun x => x.1 == s
def nearC (T : List LocP) (s : BytesC) : Nat := match idxC T s with
 | some i => i
 | none => ((ancL s).1.findSome? (idxC T)).getD 0
def upC2 (T : List LocP) (i : Nat) : Option Nat := if (tgC T i).2 = [] then some (nearC T (parentP (tgC T i).1).1) else idxC T (tgC T i).2
def goC (T : List LocP) : Nat → List Nat → Nat → List Nat × Int
 | 0, _, _ => ([], 15)
 | n + 1, out, i => if i = 0 then (out, 0) else match upC2 T i with
   | none => ([], 10)
   | some k => if k ∈ out then ([], 15) else goC T n (out ++ [k]) k
def usableC (T : List LocP) (al : List Ali) : Bool := (T.head?.map (·.1) == some undP) && (T.all (fun x => isP x.1) && decide (T.map (·.1)).Nodup && al.all aliB)
def locsC (T : List LocP) (al : List Ali) (s : BytesC) : List Nat × Int :=
 if usableC T al = true then (if (canL al s).2 = 0 then goC T T.length [nearC T (canL al s).1] (nearC T (canL al s).1) else ([], (canL al s).2)) else ([], 1)
def ofC (T : List LocP) (al : List Ali) (s : BytesC) : List BytesC × Int := ((locsC T al s).1.map fun i => (tgC T i).1, (locsC T al s).2)
theorem tg_get {T : List LocP} {i : Nat} {x : LocP} (h : T[i]? = some x) : tgC T i = x := by
 unfold tgC; rw [List.getD_eq_getElem?_getD, h]; rfl
theorem idx_some {T : List LocP} {s : BytesC} {i : Nat} (h : idxC T s = some i) : i < T.length ∧ (tgC T i).1 = s := by
 unfold idxC at h
 rw [List.findIdx?_eq_some_iff_getElem] at h
 obtain ⟨hi, h1, _⟩ := h
 refine ⟨hi, ?_⟩
 rw [tg_get (List.getElem?_eq_getElem hi)]
 simpa using h1
theorem idx_none {T : List LocP} {s : BytesC} (h : idxC T s = none) : ∀ x ∈ T, x.1 ≠ s := by
 unfold idxC at h
 rw [List.findIdx?_eq_none_iff] at h
 intro x hx
 simpa using h x hx
theorem idx_of {T : List LocP} (hn : (T.map (·.1)).Nodup) {i : Nat} {x : LocP} (h : T[i]? = some x) : idxC T x.1 = some i := by
 unfold idxC
 rw [List.findIdx?_eq_some_iff_getElem]
 have hi := (List.getElem?_eq_some_iff.1 h).1
 have hx := (List.getElem?_eq_some_iff.1 h).2
 refine ⟨hi, by rw [hx]; simp, ?_⟩
 intro j hj
 have hne := List.pairwise_iff_getElem.1 hn j i (by simp; omega) (by simpa using hi) hj
 simp only [List.getElem_map, hx] at hne
 simpa using hne
theorem findSome_at {α β : Type} {f : α → Option β} {l : List α} {b : β} (h : l.findSome? f = some b) : ∃ a ∈ l, f a = some b := List.exists_of_findSome?_eq_some h
theorem near_lt {T : List LocP} (h0 : T ≠ []) (s : BytesC) : nearC T s < T.length := by
 have hp : 0 < T.length := List.length_pos_iff.2 h0
 unfold nearC
 split
 ·rename_i i h; exact (idx_some h).1
 ·cases h : (ancL s).1.findSome? (idxC T) with
  | none => simpa using hp
  | some i =>
    obtain ⟨a, _, ha⟩ := findSome_at h
    exact (idx_some ha).1
theorem up_lt {T : List LocP} (h0 : T ≠ []) {i k : Nat} (h : upC2 T i = some k) : k < T.length := by
 unfold upC2 at h
 split at h
 ·injection h with h; subst h; exact near_lt h0 _
 ·exact (idx_some h).1
theorem nodup_le {l : List Nat} {n : Nat} (h : l.Nodup) (hl : ∀ x ∈ l, x < n) : l.length ≤ n := by
 induction n generalizing l with
 | zero => cases l with
   | nil => simp
   | cons x r => exact absurd (hl x (by simp)) (by omega)
 | succ n ih =>
   by_cases hm : n ∈ l
   ·have h1 := ih (h.erase n) (fun x hx => by
     have h2 := hl x (List.mem_of_mem_erase hx)
     have h3 : x ≠ n := fun e => by subst e; exact absurd hx h.not_mem_erase
     omega)
    rw [List.length_erase_of_mem hm] at h1
    omega
   ·exact Nat.le_succ_of_le (ih h fun x hx => by
     have h2 := hl x hx
     have h3 : x ≠ n := fun e => hm (e ▸ hx)
     omega)
def GoK (T : List LocP) (n : Nat) (out : List Nat) (i : Nat) : Prop := out.length + n = T.length + 1 ∧ out.Nodup ∧ (∀ x ∈ out, x < T.length) ∧ out.getLast? = some i
theorem GoK.lt {T : List LocP} {n : Nat} {out : List Nat} {i : Nat} (h : GoK T n out i) : i < T.length ∧ i ∈ out := by
 have h1 := List.mem_of_getLast? h.2.2.2
 exact ⟨h.2.2.1 i h1, h1⟩
theorem GoK.pos {T : List LocP} {n : Nat} {out : List Nat} {i : Nat} (h : GoK T n out i) : ∃ m, n = m + 1 := by
 have h1 := nodup_le h.2.1 h.2.2.1
 have h2 := h.1
 exact ⟨n - 1, by omega⟩
theorem GoK.start {T : List LocP} {i : Nat} (h : i < T.length) : GoK T T.length [i] i := ⟨by simp; omega, by simp, by simpa using h, rfl⟩
theorem GoK.next {T : List LocP} {n : Nat} {out : List Nat} {i k : Nat} (h : GoK T (n + 1) out i) (h0 : T ≠ []) (hk : upC2 T i = some k) (hn : k ∉ out) : GoK T n (out ++ [k]) k := by
 obtain ⟨h1, h2, h3, h4⟩ := h
 refine ⟨by simp; omega, ?_, ?_, by simp⟩
 ·rw [List.nodup_append]
  exact ⟨h2, by simp, by intro a ha b hb; simp at hb; subst hb; rintro rfl; exact hn ha⟩
 ·intro x hx
  rcases List.mem_append.1 hx with hx | hx
  ·exact h3 x hx
  ·obtain rfl := List.mem_singleton.1 hx
   exact up_lt h0 hk
theorem go_zero {T : List LocP} {n : Nat} {out : List Nat} {i : Nat} (h : GoK T n out i) (h0 : i = 0) : goC T n out i = (out, 0) := by
 obtain ⟨m, rfl⟩ := h.pos
 subst h0
 rfl
theorem go_none {T : List LocP} {n : Nat} {out : List Nat} {i : Nat} (h : GoK T n out i) (h0 : i ≠ 0) (hu : upC2 T i = none) : goC T n out i = ([], 10) := by
 obtain ⟨m, rfl⟩ := h.pos
 rw [goC, if_neg h0, hu]
theorem go_cycle {T : List LocP} {n : Nat} {out : List Nat} {i k : Nat} (h : GoK T n out i) (h0 : i ≠ 0) (hu : upC2 T i = some k) (hk : k ∈ out) : goC T n out i = ([], 15) := by
 obtain ⟨m, rfl⟩ := h.pos
 rw [goC, if_neg h0, hu]
 exact if_pos hk
theorem go_on {T : List LocP} {n : Nat} {out : List Nat} {i k : Nat} (h : GoK T n out i) (h0 : i ≠ 0) (hu : upC2 T i = some k) (hk : k ∉ out) (hT : T ≠ []) : goC T n out i = goC T (n - 1) (out ++ [k]) k ∧ GoK T (n - 1) (out ++ [k]) k := by
 obtain ⟨m, rfl⟩ := h.pos
 refine ⟨?_, h.next hT hu hk⟩
 rw [goC, if_neg h0, hu]
 exact if_neg hk
theorem go_ok {T : List LocP} (hT : T ≠ []) : ∀ (n : Nat) (out : List Nat) (i : Nat), GoK T n out i → (goC T n out i).2 = 0 →
 ∃ r, (goC T n out i).1 = out ++ r ∧ (out ++ r).Nodup ∧ (∀ x ∈ out ++ r, x < T.length) ∧ (out ++ r).getLast? = some 0
 | 0, out, i, h, _ => by obtain ⟨m, hm⟩ := h.pos; omega
 | n + 1, out, i, h, hc => by
   by_cases h0 : i = 0
   ·subst h0
    exact ⟨[], by rw [go_zero h rfl]; simp, by simpa using h.2.1, by simpa using h.2.2.1, by simpa using h.2.2.2⟩
   ·cases hu : upC2 T i with
    | none => rw [go_none h h0 hu] at hc; cases hc
    | some k =>
      by_cases hk : k ∈ out
      ·rw [go_cycle h h0 hu hk] at hc; cases hc
      ·obtain ⟨e, hg⟩ := go_on h h0 hu hk hT
       rw [e] at hc ⊢
       rw [show n + 1 - 1 = n from rfl] at *
       obtain ⟨r, h1, h2, h3, h4⟩ := go_ok hT n _ _ hg hc
       exact ⟨k :: r, by rw [h1]; simp, by simpa using h2, by simpa using h3, by simpa using h4⟩
theorem go_bad {T : List LocP} (hT : T ≠ []) : ∀ (n : Nat) (out : List Nat) (i : Nat), GoK T n out i → (goC T n out i).2 ≠ 0 → (goC T n out i).1 = []
 | 0, out, i, h, _ => rfl
 | n + 1, out, i, h, hc => by
   by_cases h0 : i = 0
   ·rw [go_zero h h0] at hc; exact absurd rfl hc
   ·cases hu : upC2 T i with
    | none => rw [go_none h h0 hu]
    | some k =>
      by_cases hk : k ∈ out
      ·rw [go_cycle h h0 hu hk]
      ·obtain ⟨e, hg⟩ := go_on h h0 hu hk hT
       rw [e] at hc ⊢
       exact go_bad hT n _ _ hg hc
theorem go_suffix {T : List LocP} (hT : T ≠ []) : ∀ (n m : Nat) (out r : List Nat) (i : Nat) (pre suf : List Nat), GoK T n out i → out = pre ++ suf → suf.getLast? = some i → GoK T m suf i → goC T n out i = (out ++ r, 0) → goC T m suf i = (suf ++ r, 0)
 | 0, _, out, _, i, _, _, h, _, _, _, _ => by obtain ⟨m, hm⟩ := h.pos; omega
 | n + 1, m, out, r, i, pre, suf, h, ho, hs, hm, hc => by
   by_cases h0 : i = 0
   ·rw [go_zero h h0] at hc
    injection hc with hc _
    have hr : r = [] := by simpa using hc
    subst hr
    rw [go_zero hm h0]
    simp
   ·cases hu : upC2 T i with
    | none => rw [go_none h h0 hu] at hc; injection hc with _ hc; cases hc
    | some k =>
      by_cases hk : k ∈ out
      ·rw [go_cycle h h0 hu hk] at hc; injection hc with _ hc; cases hc
      ·obtain ⟨e, hg⟩ := go_on h h0 hu hk hT
       rw [e] at hc
       have hk2 : k ∉ suf := fun hx => hk (by rw [ho]; exact List.mem_append_right _ hx)
       obtain ⟨e2, hg2⟩ := go_on hm h0 hu hk2 hT
       rw [e2]
       have hr : ∃ r', r = k :: r' := by
        obtain ⟨r', h1, _⟩ := go_ok hT _ _ _ hg (by rw [show n + 1 - 1 = n from rfl] at hc ⊢; rw [hc])
        rw [hc] at h1
        simp at h1
        exact ⟨r', h1⟩
       obtain ⟨r', rfl⟩ := hr
       have := go_suffix hT (n + 1 - 1) (m - 1) (out ++ [k]) r' k pre (suf ++ [k]) hg (by rw [ho]; simp) (by simp) hg2 (by rw [hc]; simp)
       rw [this]
       simp
theorem usable_ok {T : List LocP} {al : List Ali} (h : usableC T al = true) : T ≠ [] ∧ (tgC T 0).1 = undP ∧ (∀ x ∈ T, isP x.1 = true) ∧ (T.map (·.1)).Nodup ∧ al.all aliB = true := by
 unfold usableC at h
 simp only [Bool.and_eq_true, beq_iff_eq, decide_eq_true_eq] at h
 obtain ⟨h1, ⟨h2, h3⟩, h4⟩ := h
 cases T with
 | nil => simp at h1
 | cons x r =>
   refine ⟨by simp, ?_, fun y hy => List.all_eq_true.1 h2 y hy, h3, h4⟩
   simpa [tgC] using h1
theorem locs_bad {T : List LocP} {al : List Ali} {s : BytesC} (h : (locsC T al s).2 ≠ 0) : (locsC T al s).1 = [] := by
 unfold locsC at h ⊢
 split
 ·rename_i hu
  rw [if_pos hu] at h
  split
  ·rename_i hc
   rw [if_pos hc] at h
   exact go_bad (usable_ok hu).1 _ _ _ (GoK.start (near_lt (usable_ok hu).1 _)) h
  ·rfl
 ·rfl
theorem locs_ok {T : List LocP} {al : List Ali} {s : BytesC} (h : (locsC T al s).2 = 0) : usableC T al = true ∧ (canL al s).2 = 0 ∧ ∃ r, (locsC T al s).1 = nearC T (canL al s).1 :: r ∧ (nearC T (canL al s).1 :: r).Nodup ∧ (∀ x ∈ nearC T (canL al s).1 :: r, x < T.length) ∧ (nearC T (canL al s).1 :: r).getLast? = some 0 ∧
 goC T T.length [nearC T (canL al s).1] (nearC T (canL al s).1) = (nearC T (canL al s).1 :: r, 0) := by
 unfold locsC at h ⊢
 by_cases hu : usableC T al = true
 ·rw [if_pos hu] at h ⊢
  by_cases hc : (canL al s).2 = 0
  ·rw [if_pos hc] at h ⊢
   obtain ⟨r, h1, h2, h3, h4⟩ := go_ok (usable_ok hu).1 _ _ _ (GoK.start (near_lt (usable_ok hu).1 _)) h
   refine ⟨hu, hc, r, h1, h2, h3, h4, ?_⟩
   rw [← h, ← show (goC T T.length [nearC T (canL al s).1] (nearC T (canL al s).1)).1 = nearC T (canL al s).1 :: r from h1]
  ·rw [if_neg hc] at h; exact absurd h hc
 ·rw [if_neg hu] at h; exact absurd h (by decide)
theorem near_idx {T : List LocP} {s : BytesC} {i : Nat} (h : idxC T s = some i) : nearC T s = i := by unfold nearC; rw [h]
theorem ends_rest {T : List LocP} {s : BytesC} (h : (locsC T [] s).2 = 0) {j k : Nat} (hj : (locsC T [] s).1[j]? = some k) : locsC T [] (tgC T k).1 = ((locsC T [] s).1.drop j, 0) := by
 obtain ⟨hu, hc, r, h1, h2, h3, h4, h5⟩ := locs_ok h
 obtain ⟨hT, _, hp, hn, _⟩ := usable_ok hu
 rw [h1] at hj ⊢
 generalize nearC T (canL [] s).1 = i at *
 have hkl : k < T.length := h3 k (List.mem_of_getElem? hj)
 have hx : T[k]? = some T[k] := List.getElem?_eq_getElem hkl
 have hcan : canL [] (tgC T k).1 = ((tgC T k).1, 0) := by
  rw [canL_nil, tg_get hx]
  have := hp _ (List.mem_of_getElem? hx)
  unfold isP at this
  simp only [Bool.and_eq_true, beq_iff_eq] at this
  exact Prod.ext this.2 this.1
 have hidx : nearC T (tgC T k).1 = k := near_idx (by rw [tg_get hx]; exact idx_of hn hx)
 unfold locsC
 rw [if_pos hu, hcan]
 simp only [if_true, hidx]
 -- walk along to the j-th one
 have key : ∀ (q : Nat) (n : Nat) (out rest : List Nat) (i0 : Nat), GoK T n out i0 → goC T n out i0 = (out ++ rest, 0) → q < (i0 :: rest).length → ∃ n' out' i', GoK T n' out' i' ∧ goC T n' out' i' = (out' ++ rest.drop q, 0) ∧ (i0 :: rest)[q]? = some i' := by
  intro q
  induction q with
  | zero => intro n out rest i0 hg he _; exact ⟨n, out, i0, hg, by simpa using he, rfl⟩
  | succ q ih =>
    intro n out rest i0 hg he hq
    have h0 : i0 ≠ 0 := by
     intro h0
     rw [go_zero hg h0] at he
     injection he with he _
     have : rest = [] := by simpa using he
     subst this
     simp at hq
    cases hup : upC2 T i0 with
    | none => rw [go_none hg h0 hup] at he; injection he with _ he; cases he
    | some k0 =>
      by_cases hk0 : k0 ∈ out
      ·rw [go_cycle hg h0 hup hk0] at he; injection he with _ he; cases he
      ·obtain ⟨e, hg2⟩ := go_on hg h0 hup hk0 hT
       rw [e] at he
       obtain ⟨r', h1', _⟩ := go_ok hT _ _ _ hg2 (by rw [he])
       rw [he] at h1'
       have hr : rest = k0 :: r' := by simpa using h1'
       subst hr
       obtain ⟨n', out', i', a, b, c⟩ := ih (n - 1) (out ++ [k0]) r' k0 hg2 (by rw [he]; simp) (by simpa using hq)
       exact ⟨n', out', i', a, by simpa using b, by simpa using c⟩
 obtain ⟨n', out', i', hg', he', hi'⟩ := key j T.length [i] r i (GoK.start (h3 i (by simp))) (by simpa using h5) (List.getElem?_eq_some_iff.1 hj).1
 rw [hj] at hi'
 injection hi' with hi'
 subst hi'
 have hlast := hg'.2.2.2
 obtain ⟨pre, hpre⟩ : ∃ pre, out' = pre ++ [k] := by
  obtain ⟨p, hp⟩ := List.getLast?_eq_some_iff.1 hlast
  exact ⟨p, hp⟩
 have hfin := go_suffix hT n' T.length out' (r.drop j) k pre [k] hg' hpre rfl (GoK.start hkl) he'
 rw [hfin]
 congr 1
 have : (i :: r).drop j = k :: r.drop j := by
  have hjl := (List.getElem?_eq_some_iff.1 hj).1
  rw [List.drop_eq_getElem_cons hjl, (List.getElem?_eq_some_iff.1 hj).2]
  rfl
 rw [this]; rfl
end Go.Proofs.YtljdlkonlnjadaaGreatDoor
namespace Go.Proofs.YtljdlkonlnjadaaGreatDoor
open Go.RowKit
def cUn : BytesC := [117, 110, 100]
def cEn : BytesC := [101, 110]
def cGb : BytesC := [101, 110, 45, 71, 66]
def cAu : BytesC := [101, 110, 45, 65, 85]
def cNz : BytesC := [101, 110, 45, 78, 90]
def cAx : BytesC := [101, 110, 95, 65, 85]
def kUn : TagP := ⟨[117, 110, 100], [], [], []⟩
def kEn : TagP := ⟨[101, 110], [], [], []⟩
def kGb : TagP := ⟨[101, 110], [], [71, 66], []⟩
def kAu : TagP := ⟨[101, 110], [], [65, 85], []⟩
def kNz : TagP := ⟨[101, 110], [], [78, 90], []⟩
theorem qUn : parseP EC cUn = (kUn, 0) := (show parseP EC cUn = finT EC kUn by kernel_rfl).trans (finT_of _ _ (by decide +kernel))
theorem qEn : parseP EC cEn = (kEn, 0) := (show parseP EC cEn = finT EC kEn by kernel_rfl).trans (finT_of _ _ (by decide +kernel))
theorem qGb : parseP EC cGb = (kGb, 0) := (show parseP EC cGb = finT EC kGb by kernel_rfl).trans (finT_of _ _ (by decide +kernel))
theorem qAu : parseP EC cAu = (kAu, 0) := (show parseP EC cAu = finT EC kAu by kernel_rfl).trans (finT_of _ _ (by decide +kernel))
theorem qNz : parseP EC cNz = (kNz, 0) := (show parseP EC cNz = finT EC kNz by kernel_rfl).trans (finT_of _ _ (by decide +kernel))
theorem qAx : parseP EC cAx = (kAu, 0) := (show parseP EC cAx = finT EC kAu by kernel_rfl).trans (finT_of _ _ (by decide +kernel))
theorem isC_of {s : List UInt8} {t : TagP} (h : parseP EC s = (t, 0)) (h2 : textP t = s) : isP s = true := by
 unfold isP canP
 rw [h]
 simp [h2]
def exT : List LocP := [(cUn, []), (cEn, []), (cGb, []), (cAu, cGb)]
theorem exT_use : usableC exT [] = true := by
 have h1 := isC_of qUn (by decide +kernel)
 have h2 := isC_of qEn (by decide +kernel)
 have h3 := isC_of qGb (by decide +kernel)
 have h4 := isC_of qAu (by decide +kernel)
 unfold usableC exT
 simp only [List.all_cons, List.all_nil, h1, h2, h3, h4, Bool.and_true, Bool.true_and]
 decide +kernel
theorem exT_ax : canL [] cAx = (cAu, 0) := by
 rw [canL_nil]
 unfold canP
 rw [qAx]
 simp only [if_true]
 exact Prod.ext (by decide +kernel) rfl
theorem exT_nz : canL [] cNz = (cNz, 0) := by
 rw [canL_nil]
 unfold canP
 rw [qNz]
 simp only [if_true]
 exact Prod.ext (by decide +kernel) rfl
theorem exT_p2 : parentP cGb = (cEn, 0) := by unfold parentP; rw [qGb]; exact Prod.ext (by decide +kernel) rfl
theorem exT_p1 : parentP cEn = (cUn, 0) := by unfold parentP; rw [qEn]; exact Prod.ext (by decide +kernel) rfl
theorem exT_n1 : nearC exT cEn = 1 := near_idx (by decide +kernel)
theorem exT_n0 : nearC exT cUn = 0 := near_idx (by decide +kernel)
theorem exT_n3 : nearC exT cAu = 3 := near_idx (by decide +kernel)
theorem exT_u3 : upC2 exT 3 = some 2 := by unfold upC2; rw [if_neg (by decide +kernel)]; decide +kernel
theorem exT_u2 : upC2 exT 2 = some 1 := by unfold upC2; rw [if_pos (by decide +kernel), show (tgC exT 2).1 = cGb from by decide +kernel, exT_p2, exT_n1]
theorem exT_u1 : upC2 exT 1 = some 0 := by unfold upC2; rw [if_pos (by decide +kernel), show (tgC exT 1).1 = cEn from by decide +kernel, exT_p1, exT_n0]
theorem exT_anc : (ancL cNz).1 = [cEn, cUn] := by
 unfold ancL
 rw [qNz]
 show (ancs kNz).map textP = _
 decide +kernel
theorem exT_nn : nearC exT cNz = 1 := by
 have h : idxC exT cNz = none := by decide +kernel
 unfold nearC
 rw [h, exT_anc]
 decide +kernel
theorem exT_go1 (n : Nat) (out : List Nat) (h : 0 ∉ out) : goC exT (n + 2) out 1 = (out ++ [0], 0) := by
 rw [goC, if_neg (by decide), exT_u1]
 simp only
 rw [if_neg h, goC, if_pos rfl]
theorem exT_of1 : ofC exT [] cAx = ([cAu, cGb, cEn, cUn], 0) := by
 have h : locsC exT [] cAx = ([3, 2, 1, 0], 0) := by
  rw [locsC, if_pos exT_use, exT_ax]
  simp only [if_true]
  rw [exT_n3, show exT.length = 2 + 2 from rfl, goC, if_neg (by decide), exT_u3]
  simp only
  rw [if_neg (by decide), goC, if_neg (by decide), exT_u2]
  simp only
  rw [if_neg (by decide)]
  exact exT_go1 0 [3, 2, 1] (by decide)
 unfold ofC
 rw [h]
 exact Prod.ext (by decide +kernel) rfl
theorem exT_of2 : ofC exT [] cNz = ([cEn, cUn], 0) := by
 have h : locsC exT [] cNz = ([1, 0], 0) := by
  rw [locsC, if_pos exT_use, exT_nz]
  simp only [if_true]
  rw [exT_nn, show exT.length = 2 + 2 from rfl]
  exact exT_go1 2 [1] (by decide)
 unfold ofC
 rw [h]
 exact Prod.ext (by decide +kernel) rfl
end Go.Proofs.YtljdlkonlnjadaaGreatDoor
