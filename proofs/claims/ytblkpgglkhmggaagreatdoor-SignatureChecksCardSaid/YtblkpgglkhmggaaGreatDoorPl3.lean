import Derived.Test.YtblkpgglkhmggaaGreatDoorPl2
namespace Go.Proofs.YtblkpgglkhmggaaGreatDoor
set_option linter.unusedSimpArgs false
set_option linter.unusedVariables false

/-! A valid tag is read from its text. -/
theorem small_sep {c : UInt8} (h : isSmall c = true) : isSep c = false := by
  simp [isSmall, UInt8.le_iff_toNat_le] at h
  simp only [isSep, Bool.or_eq_false_iff, beq_eq_false_iff_ne, ne_eq]
  constructor <;> (rintro rfl; simp at h)
theorem cap_sep {c : UInt8} (h : isCap c = true) : isSep c = false := by
  simp [isCap, UInt8.le_iff_toNat_le] at h
  simp only [isSep, Bool.or_eq_false_iff, beq_eq_false_iff_ne, ne_eq]
  constructor <;> (rintro rfl; simp at h)
theorem dig_sep {c : UInt8} (h : isDig c = true) : isSep c = false := by
  simp [isDig, UInt8.le_iff_toNat_le] at h
  simp only [isSep, Bool.or_eq_false_iff, beq_eq_false_iff_ne, ne_eq]
  constructor <;> (rintro rfl; simp at h)
def noSep (x : List UInt8) : Prop := ∀ c ∈ x, isSep c = false
theorem lang_sep {x : List UInt8} (h : langB x = true) : noSep x := by
  unfold langB at h
  rw [Bool.and_eq_true] at h
  exact fun c hc => small_sep (List.all_eq_true.1 h.2 c hc)
theorem script_sep {x : List UInt8} (h : scriptB x = true) : noSep x := by
  cases x with
  | nil => intro c hc; simp at hc
  | cons a r =>
    simp [scriptB] at h
    intro c hc
    rcases List.mem_cons.1 hc with rfl | hc
    · exact cap_sep h.1.2
    · exact small_sep (h.2 c hc)
theorem region_sep {x : List UInt8} (h : regionB x = true) : noSep x := by
  unfold regionB at h
  rcases Bool.or_eq_true_iff.1 h with h | h <;> rw [Bool.and_eq_true] at h
  · exact fun c hc => cap_sep (List.all_eq_true.1 h.2 c hc)
  · exact fun c hc => dig_sep (List.all_eq_true.1 h.2 c hc)
theorem variant_eith {x : List UInt8} (h : variantB x = true) : x.all isEith = true := by
  unfold variantB at h; rw [Bool.and_eq_true] at h; exact h.1
theorem eith_sep {c : UInt8} (h : isEith c = true) : isSep c = false := by
  unfold isEith at h
  rcases Bool.or_eq_true_iff.1 h with h | h
  · exact small_sep h
  · exact dig_sep h
theorem variant_sep {x : List UInt8} (h : variantB x = true) : noSep x :=
  fun c hc => eith_sep (List.all_eq_true.1 (variant_eith h) c hc)

theorem spOf_one (x : List UInt8) (h : noSep x) : spOf x = [x] := by
  induction x with
  | nil => rfl
  | cons c r ih =>
    unfold spOf
    rw [if_neg (by simp [h c (by simp)]), ih (fun d hd => h d (by simp [hd]))]
theorem spOf_cons (c : UInt8) (r : List UInt8) : spOf (c :: r) = if isSep c then [] :: spOf r else match spOf r with
    | [] => [[c]]
    | x :: xs => (c :: x) :: xs := rfl
theorem spOf_app (x b : List UInt8) (d : UInt8) (hd : isSep d = true) : spOf (x ++ d :: b) = spOf x ++ spOf b := by
  induction x with
  | nil => simp [spOf, hd]
  | cons c r ih =>
    rw [List.cons_append, spOf_cons, spOf_cons, ih]
    by_cases hc : isSep c = true
    · rw [if_pos hc, if_pos hc]; rfl
    · rw [if_neg hc, if_neg hc]
      cases h : spOf r with
      | nil => exact absurd h (spOf_ne r)
      | cons y ys => rfl
theorem spOf_join (x : List UInt8) (r : List (List UInt8)) (h : ∀ y ∈ x :: r, noSep y) : spOf (x ++ (r.map fun y => 45 :: y).flatten) = x :: r := by
  induction r generalizing x with
  | nil => simpa using spOf_one x (h x (by simp))
  | cons y r ih =>
    rw [List.map_cons, List.flatten_cons, List.cons_append, spOf_app x _ 45 (by decide), spOf_one x (h x (by simp)), ih y (fun z hz => h z (by simp [hz]))]
    rfl

theorem partsP_eq (t : TagP) (h : validP t = true) : ∃ o q, partsP t = t.lang :: (o ++ (q ++ t.vars)) ∧ (t.script = [] ∧ o = [] ∨ scriptB t.script = true ∧ o = [t.script]) ∧ (t.region = [] ∧ q = [] ∨ regionB t.region = true ∧ q = [t.region]) := by
  simp only [validP, Bool.and_eq_true] at h
  obtain ⟨⟨⟨⟨⟨h1, h2⟩, h3⟩, h4⟩, h5⟩, h6⟩ := h
  have hv : t.vars.filter (fun x => !(x == [])) = t.vars := by
    rw [List.filter_eq_self]
    intro x hx
    have := variant_ne (List.all_eq_true.1 h4 x hx)
    simpa using this
  have hl : (!(t.lang == [])) = true := by simpa using lang_ne h1
  refine ⟨[t.script].filter fun x => !(x == []), [t.region].filter fun x => !(x == []), ?_, ?_, ?_⟩
  · unfold partsP
    rw [List.filter_cons, if_pos hl, List.filter_cons, List.filter_cons, hv]
    by_cases hs : t.script = [] <;> by_cases hr : t.region = [] <;> simp [hs, hr]
  · by_cases hs : t.script = []
    · exact .inl ⟨hs, by simp [hs]⟩
    · exact .inr ⟨by simpa [hs] using h2, by simp [hs]⟩
  · by_cases hs : t.region = []
    · exact .inl ⟨hs, by simp [hs]⟩
    · exact .inr ⟨by simpa [hs] using h3, by simp [hs]⟩
theorem parts_sep (t : TagP) (h : validP t = true) : ∀ y ∈ partsP t, noSep y := by
  obtain ⟨o, q, h1, h2, h3⟩ := partsP_eq t h
  simp only [validP, Bool.and_eq_true] at h
  intro y hy
  rw [h1] at hy
  rcases List.mem_cons.1 hy with rfl | hy
  · exact lang_sep h.1.1.1.1.1
  · rcases List.mem_append.1 hy with hy | hy
    · rcases h2 with ⟨_, rfl⟩ | ⟨h2, rfl⟩
      · simp at hy
      · simp at hy; subst hy; exact script_sep h2
    · rcases List.mem_append.1 hy with hy | hy
      · rcases h3 with ⟨_, rfl⟩ | ⟨h3, rfl⟩
        · simp at hy
        · simp at hy; subst hy; exact region_sep h3
      · exact variant_sep (List.all_eq_true.1 h.1.1.2 y hy)
theorem spOf_text (t : TagP) (h : validP t = true) : spOf (textP t) = partsP t := by
  have hs := parts_sep t h
  obtain ⟨o, q, h1, _, _⟩ := partsP_eq t h
  unfold textP
  rw [h1] at hs ⊢
  rw [join_tail, spOf_join _ _ hs]

theorem small_low {c : UInt8} (h : isSmall c = true) : lowC c = c := by
  unfold lowC
  rw [if_neg]
  simp [isSmall, isCap, UInt8.le_iff_toNat_le] at *
  omega
theorem dig_low {c : UInt8} (h : isDig c = true) : lowC c = c := by
  unfold lowC
  rw [if_neg]
  simp [isDig, isCap, UInt8.le_iff_toNat_le] at *
  omega
theorem cap_up {c : UInt8} (h : isCap c = true) : upC c = c := by
  unfold upC
  rw [if_neg]
  simp [isSmall, isCap, UInt8.le_iff_toNat_le] at *
  omega
theorem dig_up {c : UInt8} (h : isDig c = true) : upC c = c := by
  unfold upC
  rw [if_neg]
  simp [isDig, isSmall, UInt8.le_iff_toNat_le] at *
  omega
theorem low_id {x : List UInt8} (h : ∀ c ∈ x, lowC c = c) : low x = x := by
  unfold low
  conv => rhs; rw [← List.map_id x]
  exact List.map_congr_left h
theorem up_id {x : List UInt8} (h : ∀ c ∈ x, upC c = c) : upOf x = x := by
  unfold upOf
  conv => rhs; rw [← List.map_id x]
  exact List.map_congr_left h
theorem lang_low {x : List UInt8} (h : langB x = true) : low x = x := by
  unfold langB at h
  rw [Bool.and_eq_true] at h
  exact low_id fun c hc => small_low (List.all_eq_true.1 h.2 c hc)
theorem variant_low {x : List UInt8} (h : variantB x = true) : low x = x := by
  refine low_id fun c hc => ?_
  have := List.all_eq_true.1 (variant_eith h) c hc
  unfold isEith at this
  rcases Bool.or_eq_true_iff.1 this with h | h
  · exact small_low h
  · exact dig_low h
theorem script_back {x : List UInt8} (h : scriptB x = true) : scriptL (low x) = true ∧ titleOf (low x) = x := by
  cases x with
  | nil => simp [scriptB] at h
  | cons a r =>
    have e : scriptB (upOf ((a :: r).take 1) ++ low ((a :: r).drop 1)) = scriptL (low (a :: r)) := script_eq _
    have h2 := h
    simp [scriptB] at h2
    have h3 : low r = r := low_id fun c hc => small_low (h2.2 c hc)
    have h4 : upOf ((a :: r).take 1) ++ low ((a :: r).drop 1) = a :: r := by simp [upOf, cap_up h2.1.2, h3]
    rw [h4] at e
    exact ⟨e.symm.trans h, by rw [← title_eq, h4]⟩
theorem region_back {x : List UInt8} (h : regionB x = true) : regionL (low x) = true ∧ upOf (low x) = x := by
  have h4 : upOf x = x := by
    refine up_id fun c hc => ?_
    unfold regionB at h
    rcases Bool.or_eq_true_iff.1 h with h | h <;> rw [Bool.and_eq_true] at h
    · exact cap_up (List.all_eq_true.1 h.2 c hc)
    · exact dig_up (List.all_eq_true.1 h.2 c hc)
  have e := region_eq x
  rw [h4] at e
  exact ⟨e.symm.trans h, by rw [upOf_low, h4]⟩
theorem script_iff (x : List UInt8) : scriptB x = (scriptL (low x) && titleOf (low x) == x) := by
  rw [Bool.eq_iff_iff, Bool.and_eq_true, beq_iff_eq]
  constructor
  · exact script_back
  · rintro ⟨h1, h2⟩
    rw [← h2]; exact scriptL_title h1
theorem region_iff (x : List UInt8) : regionB x = (regionL (low x) && upOf x == x) := by
  rw [Bool.eq_iff_iff, Bool.and_eq_true, beq_iff_eq]
  constructor
  · intro h
    have := region_back h
    exact ⟨this.1, by rw [← upOf_low]; exact this.2⟩
  · rintro ⟨h1, h2⟩
    have := regionL_up h1
    rw [upOf_low, h2] at this
    exact this
theorem variant_noscript {x : List UInt8} (h : variantB x = true) : scriptL x = false := by
  cases x with
  | nil => rfl
  | cons a r =>
    rw [Bool.eq_false_iff]
    intro h2
    simp [variantB] at h
    simp [scriptL] at h2
    have h3 := h2.2.1
    rcases h.2 with h4 | h4
    · omega
    · have h5 := h4.2
      simp [isSmall, isDig, UInt8.le_iff_toNat_le] at h3 h5
      omega
theorem variant_noregion {x : List UInt8} (h : variantB x = true) : regionL x = false := by
  rw [Bool.eq_false_iff]
  intro h2
  simp [variantB] at h
  simp [regionL] at h2
  omega
theorem region_noscript {x : List UInt8} (h : regionB x = true) : scriptL (low x) = false := by
  rw [Bool.eq_false_iff]
  intro h2
  simp [regionB] at h
  simp [scriptL, low] at h2
  omega
theorem finT_of (E : Codes) (t : TagP) (h : validP t = true) : finT E t = (t, 0) := by
  simp only [validP, Bool.and_eq_true] at h
  obtain ⟨⟨_, h5⟩, h6⟩ := h
  obtain ⟨h7, h8⟩ := (incB_iff _).1 h5
  unfold finT
  rw [if_pos (by simpa [isNodup] using h8), if_pos (by simpa using h6), sortS_of h7 (List.Perm.refl _)]

theorem low_vars {l : List (List UInt8)} (h : l.all variantB = true) : l.map low = l := by
  conv => rhs; rw [← List.map_id l]
  exact List.map_congr_left fun x hx => variant_low (List.all_eq_true.1 h x hx)
theorem c2_vars (E : Codes) (t : TagP) (v : List (List UInt8)) (h : v.all variantB = true) : c2 E t v = c3 E t v := by
  cases v with
  | nil => rfl
  | cons x r => rw [c2_cons, if_neg (by simp [variant_noregion (List.all_eq_true.1 h x (by simp))])]
theorem c1_vars (E : Codes) (t : TagP) (v : List (List UInt8)) (h : v.all variantB = true) : c1 E t v = c3 E t v := by
  cases v with
  | nil => rfl
  | cons x r => rw [c1_cons, if_neg (by simp [variant_noscript (List.all_eq_true.1 h x (by simp))]), c2_vars E t _ h]

theorem parse_text (E : Codes) (t : TagP) (h : validP t = true) : parseP E (textP t) = (t, 0) := by
  have hp := partsP_eq t h
  have hf := finT_of E t h
  have hv : t.vars.all variantB = true := by simp only [validP, Bool.and_eq_true] at h; exact h.1.1.2
  have hl : langB t.lang = true := by simp only [validP, Bool.and_eq_true] at h; exact h.1.1.1.1.1
  obtain ⟨o, q, h1, h2, h3⟩ := hp
  unfold parseP
  rw [spOf_text t h, h1, List.map_cons, List.map_append, List.map_append, low_vars hv, lang_low hl]
  show (if langB t.lang then _ else _) = _
  rw [if_pos hl]
  have hc3 : ∀ u : TagP, u.lang = t.lang → u.script = t.script → u.region = t.region → u.vars = [] → c3 E u t.vars = (t, 0) := by
    intro u e1 e2 e3 e4
    unfold c3
    rw [if_pos hv, e4, List.nil_append, ← hf]
    congr 1
    cases u; cases t
    simp_all
  have hc2 : ∀ u : TagP, u.lang = t.lang → u.script = t.script → u.region = [] → u.vars = [] → c2 E u (q.map low ++ t.vars) = (t, 0) := by
    intro u e1 e2 e3 e4
    rcases h3 with ⟨h3, rfl⟩ | ⟨h3, rfl⟩
    · simp only [List.map_nil, List.nil_append]
      rw [c2_vars E u _ hv]
      exact hc3 u e1 e2 (e3.trans h3.symm) e4
    · simp only [List.map_cons, List.map_nil, List.cons_append, List.nil_append]
      rw [c2_cons, if_pos (region_back h3).1]
      exact hc3 _ e1 e2 (region_back h3).2 e4
  rcases h2 with ⟨h2, rfl⟩ | ⟨h2, rfl⟩
  · simp only [List.map_nil, List.nil_append]
    rcases h3 with ⟨h3, rfl⟩ | ⟨h3, rfl⟩
    · simp only [List.map_nil, List.nil_append]
      rw [c1_vars E _ _ hv]
      exact hc3 _ rfl h2.symm h3.symm rfl
    · simp only [List.map_cons, List.map_nil, List.cons_append, List.nil_append] at hc2 ⊢
      rw [c1_cons, if_neg (by simp [region_noscript h3])]
      exact hc2 _ rfl h2.symm rfl rfl
  · simp only [List.map_cons, List.map_nil, List.cons_append, List.nil_append]
    rw [c1_cons, if_pos (script_back h2).1]
    exact hc2 _ rfl (script_back h2).2 rfl rfl

theorem text_inj (t u : TagP) (ht : validP t = true) (hu : validP u = true) (h : textP t = textP u) : t = u := by
  have h1 := parse_text ⟨1, 1, 1⟩ t ht
  rw [h, parse_text _ u hu] at h1
  injection h1 with h1 _
  exact h1.symm

/-! Spelling. -/
def normC (c : UInt8) : UInt8 := if isSep c then 45 else lowC c
theorem spOf_norm (l : List UInt8) : (spOf l).map low = spOf (l.map normC) := by
  induction l with
  | nil => rfl
  | cons c r ih =>
    rw [List.map_cons]
    unfold spOf
    rw [← ih]
    by_cases hc : isSep c = true
    · rw [if_pos hc, if_pos (by simp [normC, hc]; decide)]; rfl
    · have e : normC c = lowC c := by simp [normC, hc]
      rw [if_neg hc, if_neg (by rw [e, cap_low]; exact hc), e]
      cases h : spOf r with
      | nil => exact absurd h (spOf_ne r)
      | cons y ys => rfl
def spellC (c : UInt8) (b : Nat) : UInt8 := if b % 2 = 1 then (if upC c == 45 then 95 else upC c) else lowC c
def spellL : List UInt8 → Nat → List UInt8
  | [], _ => []
  | c :: r, b => spellC c b :: spellL r (b / 2)
theorem up_sep (c : UInt8) : isSep (upC c) = isSep c := by
  rw [← cap_low (upC c), low_up, cap_low]
theorem norm_spell (c : UInt8) (b : Nat) : normC (spellC c b) = normC c := by
  unfold spellC
  split
  · have e1 : normC (upC c) = normC c := by unfold normC; rw [up_sep, low_up]
    split
    · next h =>
      rw [beq_iff_eq] at h
      rw [← e1, h]
      decide
    · exact e1
  · unfold normC
    rw [cap_low, low_low]
theorem spell_norm (l : List UInt8) (b : Nat) : (spellL l b).map normC = l.map normC := by
  induction l generalizing b with
  | nil => rfl
  | cons c r ih => simp [spellL, norm_spell, ih]
theorem parse_spell (E : Codes) (l : List UInt8) (b : Nat) : parseP E (spellL l b) = parseP E l := by
  unfold parseP
  rw [spOf_norm, spOf_norm, spell_norm]
theorem spell_len (l : List UInt8) (b : Nat) : (spellL l b).length = l.length := by
  induction l generalizing b with
  | nil => rfl
  | cons c r ih => simp [spellL, ih]

/-! The order of variants. -/
theorem finT_perm (E : Codes) (t : TagP) (v v' : List (List UInt8)) (h : v.Perm v') : finT E { t with vars := v } = finT E { t with vars := v' } := by
  have h1 : isNodup v = isNodup v' := by unfold isNodup; rw [Bool.eq_iff_iff]; simp [h.nodup_iff]
  have h2 : sortS v = sortS v' := sortS_of (sortS_srt v') ((sortS_perm v').trans h.symm)
  unfold finT
  simp only [h1, h.length_eq, h2]
theorem c3_perm (E : Codes) (t : TagP) (r v v' : List (List UInt8)) (h : v.Perm v') : c3 E t (r ++ v) = c3 E t (r ++ v') := by
  have h1 : v.all variantB = v'.all variantB := by
    rw [Bool.eq_iff_iff, List.all_eq_true, List.all_eq_true]
    exact ⟨fun k x hx => k x (h.mem_iff.2 hx), fun k x hx => k x (h.mem_iff.1 hx)⟩
  unfold c3
  rw [List.all_append, List.all_append, h1, finT_perm E t _ _ ((h.append_left r).append_left t.vars)]
theorem c2_perm (E : Codes) (t : TagP) (r v v' : List (List UInt8)) (h : v.Perm v') (hv : v.all variantB = true) : c2 E t (r ++ v) = c2 E t (r ++ v') := by
  cases r with
  | nil =>
    have hv' : v'.all variantB = true := List.all_eq_true.2 fun x hx => List.all_eq_true.1 hv x (h.mem_iff.2 hx)
    rw [List.nil_append, List.nil_append, c2_vars E t v hv, c2_vars E t v' hv']
    exact c3_perm E t [] v v' h
  | cons x r =>
    rw [List.cons_append, List.cons_append, c2_cons, c2_cons, c3_perm E _ r v v' h, ← List.cons_append, ← List.cons_append, c3_perm E t (x :: r) v v' h]
theorem c1_perm (E : Codes) (t : TagP) (r v v' : List (List UInt8)) (h : v.Perm v') (hv : v.all variantB = true) : c1 E t (r ++ v) = c1 E t (r ++ v') := by
  cases r with
  | nil =>
    have hv' : v'.all variantB = true := List.all_eq_true.2 fun x hx => List.all_eq_true.1 hv x (h.mem_iff.2 hx)
    rw [List.nil_append, List.nil_append, c1_vars E t v hv, c1_vars E t v' hv']
    exact c3_perm E t [] v v' h
  | cons x r =>
    rw [List.cons_append, List.cons_append, c1_cons, c1_cons, c2_perm E _ r v v' h hv, ← List.cons_append, ← List.cons_append, c2_perm E t (x :: r) v v' h hv]
theorem c0_perm (E : Codes) (r v v' : List (List UInt8)) (h : v.Perm v') (hv : v.all variantB = true) (hr : r ≠ []) : c0 E (r ++ v) = c0 E (r ++ v') := by
  cases r with
  | nil => exact absurd rfl hr
  | cons x r =>
    show (if langB x then c1 E ⟨x, [], [], []⟩ (r ++ v) else _) = (if langB x then c1 E ⟨x, [], [], []⟩ (r ++ v') else _)
    rw [c1_perm E _ r v v' h hv]

/-- a, and each of l behind a hyphen. -/
def hang (a : List UInt8) (l : List (List UInt8)) : List UInt8 := a ++ (l.map fun x => 45 :: x).flatten
theorem hang_snoc (a : List UInt8) (l : List (List UInt8)) (x : List UInt8) : hang a (l ++ [x]) = hang a l ++ 45 :: x := by simp [hang]
theorem spOf_hang (a : List UInt8) (l : List (List UInt8)) : spOf (hang a l) = spOf a ++ (l.map spOf).flatten := by
  induction l generalizing a with
  | nil => simp [hang]
  | cons x r ih =>
    have e : hang a (x :: r) = hang (a ++ 45 :: x) r := by simp [hang]
    rw [e, ih, spOf_app a x 45 (by decide)]
    simp
theorem parse_hang (E : Codes) (s : List UInt8) (l l' : List (List UInt8)) (hp : l.Perm l') (hv : ∀ x ∈ l, (spOf x).all variantB = true) : parseP E (hang s l) = parseP E (hang s l') := by
  have e : ∀ k : List (List UInt8), (∀ x ∈ k, (spOf x).all variantB = true) → ((k.map spOf).flatten).all variantB = true := by
    intro k hk
    rw [List.all_eq_true]
    intro x hx
    obtain ⟨y, hy, hx⟩ := List.mem_flatten.1 hx
    obtain ⟨z, hz, rfl⟩ := List.mem_map.1 hy
    exact List.all_eq_true.1 (hk z hz) x hx
  have hv' : ∀ x ∈ l', (spOf x).all variantB = true := fun x hx => hv x (hp.mem_iff.2 hx)
  unfold parseP
  rw [spOf_hang, spOf_hang, List.map_append, List.map_append, low_vars (e l hv), low_vars (e l' hv')]
  refine c0_perm E _ _ _ ?_ (e l hv) (by simp [spOf_ne])
  exact (hp.map spOf).flatten

theorem lang_und {t : TagP} (hl : langB t.lang = true) {x r : List UInt8} (h : t.lang ++ r = 117 :: 110 :: 100 :: 45 :: x) (hr : r = [] ∨ r.head? = some 45) : t.lang = [117, 110, 100] ∧ r = 45 :: x := by
  have hs := lang_sep hl
  simp only [langB, Bool.and_eq_true, Bool.or_eq_true, decide_eq_true_eq] at hl
  match hm : t.lang, hl.1 with
  | [a, b], _ =>
    rw [hm] at h
    simp at h
    rcases hr with rfl | hr
    · simp at h
    · rw [h.2.2] at hr; simp at hr
  | [a, b, c], _ =>
    rw [hm] at h
    simp at h
    exact ⟨by simp [h.1, h.2.1, h.2.2.1], h.2.2.2⟩
theorem flat_head (l : List (List UInt8)) : (l.map fun x => (45 : UInt8) :: x).flatten = [] ∨ ((l.map fun x => (45 : UInt8) :: x).flatten).head? = some 45 := by
  cases l with
  | nil => exact .inl rfl
  | cons x r => exact .inr (by simp)
theorem opt_head (x r : List UInt8) (h : r = [] ∨ r.head? = some 45) : optP x ++ r = [] ∨ (optP x ++ r).head? = some 45 := by
  unfold optP
  split
  · simpa using h
  · exact .inr (by simp)
/-- What stands behind 'und-' and begins with no script and no region. -/
theorem und_variants (t : TagP) (hv : validP t = true) (x : List UInt8) (h : textR t = 117 :: 110 :: 100 :: 45 :: x) (h4 : 4 ≤ x.length) (h3 : x[3]? ≠ some 45) (h0 : ∀ c, x[0]? = some c → isCap c = false) :
    (spOf x).all variantB = true := by
  simp only [validP, Bool.and_eq_true] at hv
  obtain ⟨⟨⟨⟨⟨v1, v2⟩, v3⟩, v4⟩, v5⟩, v6⟩ := hv
  unfold textR at h
  rw [List.append_assoc, List.append_assoc] at h
  obtain ⟨_, h⟩ := lang_und v1 h (opt_head _ _ (opt_head _ _ (flat_head _)))
  by_cases hs : t.script = []
  · rw [show optP t.script = [] from by simp [optP, hs], List.nil_append] at h
    by_cases hr : t.region = []
    · rw [show optP t.region = [] from by simp [optP, hr], List.nil_append] at h
      cases hvs : t.vars with
      | nil => rw [hvs] at h; simp at h
      | cons y r =>
        rw [hvs] at h v4
        simp only [List.map_cons, List.flatten_cons, List.cons_append, List.cons.injEq, true_and] at h
        rw [← h, spOf_join y r (fun z hz => variant_sep (List.all_eq_true.1 v4 z hz))]
        exact v4
    · exfalso
      have hb : regionB t.region = true := by simpa [hr] using v3
      rw [show optP t.region = 45 :: t.region from by simp [optP, hr]] at h
      simp only [List.cons_append, List.cons.injEq, true_and] at h
      unfold regionB at hb
      rcases Bool.or_eq_true_iff.1 hb with hb | hb <;> rw [Bool.and_eq_true, decide_eq_true_eq] at hb
      · match hm : t.region, hb.1 with
        | [a, b], _ =>
          rw [hm] at h hb
          have := h0 a (by rw [← h]; rfl)
          simp [this] at hb
      · match hm : t.region, hb.1 with
        | [a, b, c], _ =>
          rw [hm] at h
          rcases flat_head t.vars with e | e
          · rw [e] at h; subst h; simp at h4
          · refine h3 ?_
            rw [← h]
            generalize (t.vars.map fun x => (45 : UInt8) :: x).flatten = F at e
            cases F with
            | nil => simp at e
            | cons f F => simp at e; subst e; rfl
  · exfalso
    have hb : scriptB t.script = true := by simpa [hs] using v2
    rw [show optP t.script = 45 :: t.script from by simp [optP, hs]] at h
    simp only [List.cons_append, List.cons.injEq, true_and] at h
    cases hm : t.script with
    | nil => exact hs hm
    | cons a r =>
      rw [hm] at h hb
      have := h0 a (by rw [← h]; rfl)
      simp [scriptB, this] at hb

/-! Ancestors. -/
def undP : List UInt8 := [117, 110, 100]
def upP (t : TagP) : Option TagP :=
  if t.vars ≠ [] then some { t with vars := t.vars.take (t.vars.length - 1) }
  else if t.region ≠ [] then some { t with region := [] }
  else if t.script ≠ [] then some { t with script := [] }
  else if t.lang ≠ undP then some { t with lang := undP }
  else none
def rankP (t : TagP) : Nat := t.vars.length + (if t.region = [] then 0 else 1) + (if t.script = [] then 0 else 1) + (if t.lang = undP then 0 else 1)
theorem rank_le {t : TagP} (h : validP t = true) : rankP t ≤ 7 := by
  simp only [validP, Bool.and_eq_true, decide_eq_true_eq] at h
  unfold rankP
  split <;> split <;> split <;> omega
theorem up_valid {t u : TagP} (h : validP t = true) (hu : upP t = some u) : validP u = true ∧ rankP u + 1 = rankP t := by
  simp only [validP, Bool.and_eq_true, decide_eq_true_eq] at h
  obtain ⟨⟨⟨⟨⟨v1, v2⟩, v3⟩, v4⟩, v5⟩, v6⟩ := h
  unfold upP at hu
  split at hu
  · next hv =>
    injection hu with hu
    subst hu
    have hl : 0 < t.vars.length := List.length_pos_iff.2 hv
    constructor
    · have e1 : (t.vars.take (t.vars.length - 1)).all variantB = true := by
        rw [List.all_eq_true] at v4 ⊢
        exact fun x hx => v4 x (List.mem_of_mem_take hx)
      have e2 : incB (t.vars.take (t.vars.length - 1)) = true := by
        refine pw_incB _ ((incB_pw _ v5).sublist (List.take_sublist _ _))
      simp only [validP, Bool.and_eq_true, decide_eq_true_eq]
      exact ⟨⟨⟨⟨⟨v1, v2⟩, v3⟩, e1⟩, e2⟩, by rw [List.length_take]; omega⟩
    · simp only [rankP, List.length_take]
      omega
  · next hv =>
    have hv : t.vars = [] := Classical.byContradiction hv
    split at hu
    · next hr =>
      injection hu with hu
      subst hu
      constructor
      · simp only [validP, Bool.and_eq_true, decide_eq_true_eq]
        exact ⟨⟨⟨⟨⟨v1, v2⟩, by simp⟩, v4⟩, v5⟩, v6⟩
      · simp only [rankP, if_neg hr]; simp; omega
    · next hr =>
      split at hu
      · next hs =>
        injection hu with hu
        subst hu
        constructor
        · simp only [validP, Bool.and_eq_true, decide_eq_true_eq]
          exact ⟨⟨⟨⟨⟨v1, by simp⟩, v3⟩, v4⟩, v5⟩, v6⟩
        · simp only [rankP, if_neg hs]; simp; omega
      · split at hu
        · next hl =>
          injection hu with hu
          subst hu
          constructor
          · simp only [validP, Bool.and_eq_true, decide_eq_true_eq]
            exact ⟨⟨⟨⟨⟨by decide, v2⟩, v3⟩, v4⟩, v5⟩, v6⟩
          · simp only [rankP, if_neg hl]; simp
        · cases hu
theorem up_none {t : TagP} (hu : upP t = none) : t = ⟨undP, [], [], []⟩ := by
  unfold upP at hu
  split at hu
  · cases hu
  · next h1 =>
    split at hu
    · cases hu
    · next h2 =>
      split at hu
      · cases hu
      · next h3 =>
        split at hu
        · cases hu
        · next h4 =>
          cases t
          simp only [Classical.not_not] at h1 h2 h3 h4
          simp_all
theorem rank_zero {t : TagP} : upP t = none ↔ rankP t = 0 := by
  constructor
  · intro h
    rw [up_none h]; rfl
  · intro h
    unfold rankP at h
    have h1 : t.vars = [] := List.eq_nil_of_length_eq_zero (by omega)
    have h2 : t.region = [] := Classical.byContradiction fun e => by rw [if_neg e] at h; omega
    have h3 : t.script = [] := Classical.byContradiction fun e => by rw [if_neg e] at h; omega
    have h4 : t.lang = undP := Classical.byContradiction fun e => by rw [if_neg e] at h; omega
    simp [upP, h1, h2, h3, h4]
/-- The ancestors: as many as the rank. -/
def ancP : Nat → TagP → List TagP
  | 0, _ => []
  | n + 1, t => match upP t with
    | none => []
    | some u => u :: ancP n u
def ancs (t : TagP) : List TagP := ancP (rankP t) t
theorem ancs_up {t u : TagP} (h : validP t = true) (hu : upP t = some u) : ancs t = u :: ancs u := by
  unfold ancs
  rw [← (up_valid h hu).2]
  simp only [ancP, hu]
theorem ancs_none {t : TagP} (hu : upP t = none) : ancs t = [] := by
  unfold ancs
  rw [rank_zero.1 hu]
  rfl
theorem ancs_len : ∀ (n : Nat) (t : TagP), validP t = true → rankP t = n → (ancs t).length = n
  | 0, t, h, hn => by rw [ancs_none (rank_zero.2 hn)]; rfl
  | n + 1, t, h, hn => by
    cases hu : upP t with
    | none => rw [rank_zero.1 hu] at hn; omega
    | some u =>
      obtain ⟨h1, h2⟩ := up_valid h hu
      rw [ancs_up h hu, List.length_cons, ancs_len n u h1 (by omega)]
/-- The chain: each is the parent of the one before, valid, and one less in rank. -/
theorem ancs_chain (t : TagP) (h : validP t = true) (i : Nat) (hi : i < (ancs t).length) : ∃ a u, (t :: ancs t)[i]? = some a ∧ (ancs t)[i]? = some u ∧ upP a = some u ∧ validP u = true ∧ validP a = true ∧ rankP u + i + 1 = rankP t := by
  induction i generalizing t with
  | zero =>
    cases hu : upP t with
    | none => rw [ancs_none hu] at hi; simp at hi
    | some u =>
      rw [ancs_up h hu]
      have := up_valid h hu
      exact ⟨t, u, rfl, rfl, hu, this.1, h, by omega⟩
  | succ i ih =>
    cases hu : upP t with
    | none => rw [ancs_none hu] at hi; simp at hi
    | some u =>
      have h2 := up_valid h hu
      rw [ancs_up h hu] at hi ⊢
      obtain ⟨a, v, k1, k2, k3, k4, k5, k6⟩ := ih u h2.1 (by simpa using hi)
      exact ⟨a, v, by simpa using k1, by simpa using k2, k3, k4, k5, by omega⟩
theorem text_und : textP ⟨undP, [], [], []⟩ = undP := by decide
theorem valid_und : validP ⟨undP, [], [], []⟩ = true := by decide
theorem textP_len {t : TagP} (h : validP t = true) : (textP t).length ≤ 60 := by
  have e := text_eq t h
  rw [← e]
  simp only [validP, Bool.and_eq_true, decide_eq_true_eq] at h
  obtain ⟨⟨⟨⟨⟨v1, v2⟩, v3⟩, v4⟩, v5⟩, v6⟩ := h
  have l1 : t.lang.length ≤ 3 := by simp [langB] at v1; omega
  have l2 : (optP t.script).length ≤ 5 := by
    unfold optP
    split
    · simp
    · next hs => simp at hs; simp [hs, scriptB] at v2; simp; omega
  have l3 : (optP t.region).length ≤ 4 := by
    unfold optP
    split
    · simp
    · next hs => simp at hs; simp [hs, regionB] at v3; simp; omega
  have l4 : ∀ (l : List (List UInt8)), l.all variantB = true → ((l.map fun x => (45 : UInt8) :: x).flatten).length ≤ 9 * l.length := by
    intro l
    induction l with
    | nil => intro; simp
    | cons x r ih =>
      intro h
      rw [List.all_cons, Bool.and_eq_true] at h
      have := ih h.2
      have hx := h.1
      simp [variantB] at hx
      simp only [List.map_cons, List.flatten_cons, List.length_append, List.length_cons] at this ⊢
      omega
  have := l4 _ v4
  unfold textR
  simp only [List.length_append]
  omega
end Go.Proofs.YtblkpgglkhmggaaGreatDoor
