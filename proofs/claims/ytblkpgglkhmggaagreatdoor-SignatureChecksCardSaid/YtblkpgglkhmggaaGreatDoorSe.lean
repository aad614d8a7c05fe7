import Derived.Test.YtblkpgglkhmggaaGreatDoorSd
import Derived.Test.YtblkpgglkhmggaaGreatDoorPl2
namespace Go.Proofs.YtblkpgglkhmggaaGreatDoor
set_option linter.unusedSimpArgs false
set_option linter.unusedVariables false

/-! The table of a signature and the sorted list. -/
theorem fold_app : ∀ (a b o : List ArgP), foldA o (a ++ b) = (foldA o a).bind fun p => foldA p b
  | [], b, o => rfl
  | x :: r, b, o => by
    show (if (putA o x).2 = true then foldA (putA o x).1 (r ++ b) else none) = ((if (putA o x).2 = true then foldA (putA o x).1 r else none).bind _)
    by_cases h : (putA o x).2 = true
    · rw [if_pos h, if_pos h]; exact fold_app r b _
    · rw [if_neg h, if_neg h]; rfl
theorem fold_self {a : List ArgP} (ha : a.Pairwise fun x y => x.1 < y.1) : foldA [] a = some a := by
  obtain ⟨o, e1, e2, e3⟩ := (fold_spec (a := []) (by simp) ha).1 (fun n s t hs _ => by simp [getA] at hs)
  rw [e1]
  congr 1
  refine asc_ext e2 ha fun n => ?_
  rw [e3]
  cases hg : getA a n <;> simp [getA, joinO, hg]
theorem add_wrong {t : TabP} {x : ArgP} (h : t.wrong = true) : (addT t x).wrong = true := by
  unfold addT
  cases getA t.m x.1 with
  | none => exact h
  | some s => simp [h]
theorem adds_wrong : ∀ (l : List ArgP) {t : TabP}, t.wrong = true → (l.foldl addT t).wrong = true
  | [], _, h => h
  | x :: r, t, h => adds_wrong r (add_wrong h)
/-- What the table and the sorted list have in common. -/
def TabO (t : TabP) (o : List ArgP) : Prop := (o.Pairwise fun x y => x.1 < y.1) ∧ (∀ n, getA t.m n = getA o n) ∧ t.wrong = false
theorem tab_step {t : TabP} {o : List ArgP} (h : TabO t o) (x : ArgP) : ((putA o x).2 = true → TabO (addT t x) (putA o x).1) ∧ ((putA o x).2 = false → (addT t x).wrong = true) := by
  obtain ⟨ha, hg, hw⟩ := h
  have hok := put_ok ha x
  unfold addT
  cases hx : getA t.m x.1 with
  | none =>
    have ho : getA o x.1 = none := by rw [← hg]; exact hx
    refine ⟨fun _ => ⟨put_asc ha x, fun n => ?_, hw⟩, fun h => ?_⟩
    · rw [put_get ha]
      show (if x.1 = n then some x.2 else getA t.m n) = _
      by_cases e : x.1 = n
      · subst e; rw [if_pos rfl, if_pos rfl, ho]; rfl
      · rw [if_neg e, if_neg e]; exact hg n
    · rw [hok.2 fun s hs => by rw [ho] at hs; cases hs] at h
      cases h
  | some s =>
    have ho : getA o x.1 = some s := by rw [← hg]; exact hx
    refine ⟨fun h => ⟨put_asc ha x, fun n => ?_, ?_⟩, fun h => ?_⟩
    · rw [put_get ha]
      show (if x.1 = n then some (comA s x.2).1 else getA t.m n) = _
      by_cases e : x.1 = n
      · subst e; rw [if_pos rfl, if_pos rfl, ho]; rfl
      · rw [if_neg e, if_neg e]; exact hg n
    · show (t.wrong || !(comA s x.2).2) = false
      rw [hw, hok.1 h s ho]; rfl
    · show (t.wrong || !(comA s x.2).2) = true
      rw [hw]
      cases hc : (comA s x.2).2 with
      | false => rfl
      | true =>
        rw [hok.2 fun u hu => by rw [ho] at hu; injection hu with hu; rw [← hu]; exact hc] at h
        cases h
theorem tab_fold : ∀ (l : List ArgP) {t : TabP} {o : List ArgP}, TabO t o → (∀ p, foldA o l = some p → TabO (l.foldl addT t) p) ∧ (foldA o l = none → (l.foldl addT t).wrong = true)
  | [], t, o, h => ⟨fun p hp => by simp only [foldA] at hp; injection hp with hp; subst hp; exact h, fun hp => by cases hp⟩
  | x :: r, t, o, h => by
    obtain ⟨h1, h2⟩ := tab_step h x
    show (∀ p, (if (putA o x).2 = true then foldA (putA o x).1 r else none) = some p → _) ∧ ((if (putA o x).2 = true then foldA (putA o x).1 r else none) = none → _)
    cases hp : (putA o x).2 with
    | true =>
      obtain ⟨i1, i2⟩ := tab_fold r (h1 hp)
      exact ⟨fun p q => i1 p (by simpa using q), fun q => i2 (by simpa using q)⟩
    | false => exact ⟨fun p q => by simp at q, fun _ => adds_wrong r (h2 hp)⟩
theorem tab_start : TabO ⟨[], false⟩ [] := ⟨by simp, fun n => rfl, rfl⟩
/-- What a merge is, by the table. -/
theorem merge_tab {a b : List ArgP} (ha : validA a = true) (hb : validA b = true) :
    (((a ++ b).foldl addT ⟨[], false⟩).wrong = true → mergeA a b = ([], 11)) ∧
    (((a ++ b).foldl addT ⟨[], false⟩).wrong = false → ∃ o, TabO ((a ++ b).foldl addT ⟨[], false⟩) o ∧ mergeA a b = if o.length ≤ 20 then (o, 0) else ([], 6)) := by
  obtain ⟨h1, h2⟩ := tab_fold (a ++ b) tab_start
  rw [fold_app, fold_self (sig_ok ha).2.1] at h1 h2
  simp only [Option.bind_some] at h1 h2
  unfold mergeA
  rw [if_pos (by rw [ha, hb]; rfl)]
  cases hf : foldA a b with
  | none =>
    have := h2 hf
    exact ⟨fun _ => rfl, fun h => by rw [this] at h; cases h⟩
  | some o =>
    have := h1 o hf
    exact ⟨fun h => (by rw [this.2.2] at h; cases h), fun _ => ⟨o, this, rfl⟩⟩
/-- The names of a list in their order are the sorted keys. -/
theorem names_sort {o : List ArgP} {ss : List By} (ha : o.Pairwise fun x y => x.1 < y.1) (hn : ss.Nodup) (hm : ∀ x, x ∈ ss ↔ (getA o x).isSome = true) : sortS ss = o.map (·.1) := by
  have hp : (o.map (·.1)).Pairwise (· < ·) := List.pairwise_map.2 ha
  have hnd : (o.map (·.1)).Nodup := hp.imp fun {a b} h e => by subst e; exact by_irr _ h
  refine sortS_of (hp.imp lt_le) ?_
  refine (List.perm_ext_iff_of_nodup hnd hn).2 fun x => ?_
  rw [hm, List.mem_map]
  constructor
  · rintro ⟨y, hy, rfl⟩
    rw [mem_get ha hy]; rfl
  · intro h
    cases hg : getA o x with
    | none => rw [hg] at h; cases h
    | some t => exact ⟨_, get_mem hg, rfl⟩
theorem names_len {o : List ArgP} {ss : List By} (ha : o.Pairwise fun x y => x.1 < y.1) (hn : ss.Nodup) (hm : ∀ x, x ∈ ss ↔ (getA o x).isSome = true) : ss.length = o.length := by
  have h := congrArg List.length (names_sort ha hn hm)
  rw [sortS_len, List.length_map] at h
  exact h
end Go.Proofs.YtblkpgglkhmggaaGreatDoor
