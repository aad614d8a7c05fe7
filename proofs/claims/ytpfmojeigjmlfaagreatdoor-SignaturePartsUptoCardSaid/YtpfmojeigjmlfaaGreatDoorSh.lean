import Derived.Test.YtpfmojeigjmlfaaGreatDoorNP6
namespace Go.Proofs.YtpfmojeigjmlfaaGreatDoor
open Go.RowKit
set_option linter.unusedSimpArgs false
set_option linter.unusedVariables false

/-! Which signature covers which, by the program. -/
theorem acc_any (a b : Int) (w : World) : Calls Tryz.prog 65 #[.int .i64 a, .int .i64 b] w fun e w' => e = .returned (.bool (accB a b)) ∧ w = w' := by
  cases h1 : (a == b)
  · cases h2 : (b == 0)
    · go_enter Tryz.func65, Tryz.ntmps65
      go_wp2
      all_goals (go_ret; exact ⟨ret_bool (by unfold accB; rw [h1, h2]; first | done | rfl), rfl⟩)
    · cases h3 : (a == 4)
      · have h4 : (a != 4) = true := by rw [bne, h3]; rfl
        go_enter Tryz.func65, Tryz.ntmps65
        go_wp2
        all_goals (go_ret; exact ⟨ret_bool (by unfold accB; rw [h1, h2, h3]; first | done | rfl), rfl⟩)
      · have h4 : (a != 4) = false := by rw [bne, h3]; rfl
        go_enter Tryz.func65, Tryz.ntmps65
        go_wp2
        all_goals (go_ret; exact ⟨ret_bool (by unfold accB; rw [h1, h2, h3]; first | done | rfl), rfl⟩)
  · go_enter Tryz.func65, Tryz.ntmps65
    go_wp2
    all_goals (go_ret; exact ⟨ret_bool (by unfold accB; rw [h1]; first | done | rfl), rfl⟩)

def NoA (l : List Ag) (pr : Ag → Bool) (k : Nat) : Prop := ∀ j x, j < k → l[j]? = some x → pr x = false
theorem noA_next {l : List Ag} {pr : Ag → Bool} {k : Nat} {x : Ag} (h : NoA l pr k) (hx : l[k]? = some x) (hp : pr x = false) : NoA l pr (k + 1) := fun j y hj hy => by
  by_cases e : j = k
  · subst e; rw [hx] at hy; injection hy with hy; subst hy; exact hp
  · exact h j y (by omega) hy
theorem noA_end {l : List Ag} {pr : Ag → Bool} (h : NoA l pr l.length) : l.any pr = false := by
  rw [List.any_eq_false]
  intro x hx
  obtain ⟨j, hj, rfl⟩ := List.getElem_of_mem hx
  rw [h j _ hj (List.getElem?_eq_getElem hj)]
  decide
def IfInv (w : World) (l : List Ag) (pr : Ag → Bool) (n : Nat) (i : Value) (wr : World) : Prop := ∃ k : Nat, k ≤ n ∧ i = .int .i64 k ∧ NoA l pr k ∧ Ext w wr
def RetIdx (w : World) (b : Bool) (e : Ending) (w' : World) : Prop := ∃ i : Int, e = .returned (.int .i64 i) ∧ decide (0 ≤ i) = b ∧ Ext w w'
set_option maxHeartbeats 1000000 in
set_option maxRecDepth 100000 in
theorem idxA2_any (g : Nat) (pr : Ag → Bool) (l : List Ag) (A : Option Addr) (n c : Nat) (w : World) (hA : Ags w A n l) (hn : n ≤ maxLen)
    (K : ∀ x ∈ l, ∀ W, Ext w W → Calls Tryz.prog 64 #[.agg #[.string x.n, .int .i64 x.t], .pointer (some ⟨g, 0, none⟩)] W fun e W' => e = .returned (.bool (pr x)) ∧ Ext W W') :
    Calls Tryz.prog 91 #[.slice A n c, .func (.func 64) #[] #[.pointer (some ⟨g, 0, none⟩)]] w (RetIdx w (l.any pr)) := by
  unfold maxLen at hn
  have HA := Lib.hid hA
  have HL := Lib.hid hA.len
  have HK := Lib.hid K
  obtain ⟨R, hR⟩ : ∃ R, R = l.any pr := ⟨_, rfl⟩
  rw [← hR]
  have HR := Lib.hid hR
  clear hA K hR
  go_enter Tryz.func91, Tryz.ntmps91
  go_wp2_with fail
  go_loopw [8] (IfInv w l pr n) (fun i _ => n - (intOf i).toNat)
  case atStart => exact ⟨0, Nat.zero_le _, rfl, fun j x h _ => absurd h (Nat.not_lt_zero j), Ext.refl _⟩
  case round =>
    obtain ⟨k, hk, rfl, hpre, hw⟩ := hrel
    have HP := Lib.hid hpre
    have HW := Lib.hid hw
    clear hpre hw
    by_cases hkn : k < n
    · obtain ⟨x, hx⟩ : ∃ x, l[k]? = some x := ⟨_, List.getElem?_eq_getElem (by have := HL.out; omega)⟩
      obtain ⟨b, o, rfl, hb, c0, c1⟩ := (HA.out.ext HW.out).at_ hx
      have hkI : (k : Int) < (n : Int) := by omega
      have kx := HK.out x (List.mem_of_getElem? hx) wr HW.out
      have HX := Lib.hid hx
      clear hx
      cases hq : pr x
      · rw [hq] at kx
        have HX2 := Lib.hid (noA_next HP.out HX.out hq)
        have HKX := Lib.hid kx
        clear kx hq
        go_wp2_with fail
        refine HKX.out.mono ?_
        rintro e w2 ⟨rfl, hw2⟩
        have HW2 := Lib.hid (HW.out.trans hw2)
        clear hw2
        go_wp2
        exact ⟨⟨k + 1, by omega, by go_num, HX2.out, HW2.out⟩, by simp [intOf]; omega⟩
      · rw [hq] at kx
        have HF := Lib.hid (show R = true from by rw [HR.out, List.any_eq_true]; exact ⟨x, List.mem_of_getElem? HX.out, hq⟩)
        have HKX := Lib.hid kx
        clear kx hq
        go_wp2_with fail
        refine HKX.out.mono ?_
        rintro e w2 ⟨rfl, hw2⟩
        have HW2 := Lib.hid (HW.out.trans hw2)
        clear hw2
        go_wp2
        go_ret
        exact ⟨_, rfl, by rw [HF.out]; simp, HW2.out⟩
    · have hkk : k = n := by omega
      subst hkk
      have HF := Lib.hid (show R = false from by rw [HR.out]; have h := HP.out; rw [← HL.out] at h; exact noA_end h)
      go_wp2
      go_ret
      exact ⟨_, rfl, by rw [HF.out]; decide, HW.out⟩
theorem contA2_any (g : Nat) (pr : Ag → Bool) (l : List Ag) (A : Option Addr) (n c : Nat) (w : World) (hA : Ags w A n l) (hn : n ≤ maxLen)
    (K : ∀ x ∈ l, ∀ W, Ext w W → Calls Tryz.prog 64 #[.agg #[.string x.n, .int .i64 x.t], .pointer (some ⟨g, 0, none⟩)] W fun e W' => e = .returned (.bool (pr x)) ∧ Ext W W') :
    Calls Tryz.prog 62 #[.slice A n c, .func (.func 64) #[] #[.pointer (some ⟨g, 0, none⟩)]] w fun e w' => e = .returned (.bool (l.any pr)) ∧ Ext w w' := by
  have HK := Lib.hid (idxA2_any g pr l A n c w hA hn K)
  clear K hA
  go_enter Tryz.func62, Tryz.ntmps62
  go_wp2_with fail
  refine HK.out.mono ?_
  rintro e w2 ⟨i, rfl, hi, hw2⟩
  have HI := Lib.hid hi
  have HW2 := Lib.hid hw2
  clear hw2 hi
  go_wp2
  all_goals go_ret
  all_goals exact ⟨ret_bool (by rw [← HI.out]; first | done | rfl | simp [*]), HW2.out⟩
set_option maxHeartbeats 1000000 in
set_option maxRecDepth 100000 in
theorem idxA1_any (g : Nat) (pr : Ag → Bool) (l : List Ag) (A : Option Addr) (n c : Nat) (w : World) (hA : Ags w A n l) (hn : n ≤ maxLen)
    (K : ∀ x ∈ l, ∀ W, Ext w W → Calls Tryz.prog 63 #[.agg #[.string x.n, .int .i64 x.t], .pointer (some ⟨g, 0, none⟩)] W fun e W' => e = .returned (.bool (pr x)) ∧ Ext W W') :
    Calls Tryz.prog 91 #[.slice A n c, .func (.func 63) #[] #[.pointer (some ⟨g, 0, none⟩)]] w (RetIdx w (l.any pr)) := by
  unfold maxLen at hn
  have HA := Lib.hid hA
  have HL := Lib.hid hA.len
  have HK := Lib.hid K
  obtain ⟨R, hR⟩ : ∃ R, R = l.any pr := ⟨_, rfl⟩
  rw [← hR]
  have HR := Lib.hid hR
  clear hA K hR
  go_enter Tryz.func91, Tryz.ntmps91
  go_wp2_with fail
  go_loopw [8] (IfInv w l pr n) (fun i _ => n - (intOf i).toNat)
  case atStart => exact ⟨0, Nat.zero_le _, rfl, fun j x h _ => absurd h (Nat.not_lt_zero j), Ext.refl _⟩
  case round =>
    obtain ⟨k, hk, rfl, hpre, hw⟩ := hrel
    have HP := Lib.hid hpre
    have HW := Lib.hid hw
    clear hpre hw
    by_cases hkn : k < n
    · obtain ⟨x, hx⟩ : ∃ x, l[k]? = some x := ⟨_, List.getElem?_eq_getElem (by have := HL.out; omega)⟩
      obtain ⟨b, o, rfl, hb, c0, c1⟩ := (HA.out.ext HW.out).at_ hx
      have hkI : (k : Int) < (n : Int) := by omega
      have kx := HK.out x (List.mem_of_getElem? hx) wr HW.out
      have HX := Lib.hid hx
      clear hx
      cases hq : pr x
      · rw [hq] at kx
        have HX2 := Lib.hid (noA_next HP.out HX.out hq)
        have HKX := Lib.hid kx
        clear kx hq
        go_wp2_with fail
        refine HKX.out.mono ?_
        rintro e w2 ⟨rfl, hw2⟩
        have HW2 := Lib.hid (HW.out.trans hw2)
        clear hw2
        go_wp2
        exact ⟨⟨k + 1, by omega, by go_num, HX2.out, HW2.out⟩, by simp [intOf]; omega⟩
      · rw [hq] at kx
        have HF := Lib.hid (show R = true from by rw [HR.out, List.any_eq_true]; exact ⟨x, List.mem_of_getElem? HX.out, hq⟩)
        have HKX := Lib.hid kx
        clear kx hq
        go_wp2_with fail
        refine HKX.out.mono ?_
        rintro e w2 ⟨rfl, hw2⟩
        have HW2 := Lib.hid (HW.out.trans hw2)
        clear hw2
        go_wp2
        go_ret
        exact ⟨_, rfl, by rw [HF.out]; simp, HW2.out⟩
    · have hkk : k = n := by omega
      subst hkk
      have HF := Lib.hid (show R = false from by rw [HR.out]; have h := HP.out; rw [← HL.out] at h; exact noA_end h)
      go_wp2
      go_ret
      exact ⟨_, rfl, by rw [HF.out]; decide, HW.out⟩
theorem contA1_any (g : Nat) (pr : Ag → Bool) (l : List Ag) (A : Option Addr) (n c : Nat) (w : World) (hA : Ags w A n l) (hn : n ≤ maxLen)
    (K : ∀ x ∈ l, ∀ W, Ext w W → Calls Tryz.prog 63 #[.agg #[.string x.n, .int .i64 x.t], .pointer (some ⟨g, 0, none⟩)] W fun e W' => e = .returned (.bool (pr x)) ∧ Ext W W') :
    Calls Tryz.prog 62 #[.slice A n c, .func (.func 63) #[] #[.pointer (some ⟨g, 0, none⟩)]] w fun e w' => e = .returned (.bool (l.any pr)) ∧ Ext w w' := by
  have HK := Lib.hid (idxA1_any g pr l A n c w hA hn K)
  clear K hA
  go_enter Tryz.func62, Tryz.ntmps62
  go_wp2_with fail
  refine HK.out.mono ?_
  rintro e w2 ⟨i, rfl, hi, hw2⟩
  have HI := Lib.hid hi
  have HW2 := Lib.hid hw2
  clear hw2 hi
  go_wp2
  all_goals go_ret
  all_goals exact ⟨ret_bool (by rw [← HI.out]; first | done | rfl | simp [*]), HW2.out⟩
def acB (y x : Ag) : Bool := (agOf x).1 == (agOf y).1 && accB x.t y.t
set_option maxRecDepth 100000 in
theorem cov11_any (x y : Ag) (g : Nat) (w : World) (hg : AtC 66 w g #[.string y.n, .int .i64 y.t]) :
    Calls Tryz.prog 64 #[.agg #[.string x.n, .int .i64 x.t], .pointer (some ⟨g, 0, none⟩)] w fun e w' => e = .returned (.bool (acB y x)) ∧ Ext w w' := by
  have h0 := (hg.alloc (.cells #[.string x.n, .int .i64 x.t] 66)).cell 0 _ rfl
  have h1 := (hg.alloc (.cells #[.string x.n, .int .i64 x.t] 66)).cell 1 _ rfl
  have hab : acB y x = ((x.n.toList == y.n.toList) && accB x.t y.t) := by unfold acB; rw [eq_b]; rfl
  cases hq : (x.n.toList == y.n.toList)
  · rw [hq] at hab
    have HAB := Lib.hid hab
    clear hab
    go_enter Tryz.func64, Tryz.ntmps64
    go_wp2
    go_ret
    exact ⟨ret_bool (by rw [HAB.out]; rfl), (Ext.refl w).alloc _⟩
  · rw [hq] at hab
    have HAB := Lib.hid hab
    clear hab
    go_enter Tryz.func64, Tryz.ntmps64
    go_wp2_with (go_at_call 65; refine (acc_any x.t y.t _).mono ?_; rintro e w' ⟨rfl, rfl⟩)
    go_ret
    exact ⟨ret_bool (by rw [HAB.out]; simp), (Ext.refl w).alloc _⟩
set_option maxRecDepth 100000 in
theorem cov1_any (l : List Ag) (y : Ag) (A : Option Addr) (n c g : Nat) (w : World) (hA : Ags w A n l) (hn : n ≤ maxLen) (hg : AtC 41 w g #[.slice A n c]) :
    Calls Tryz.prog 63 #[.agg #[.string y.n, .int .i64 y.t], .pointer (some ⟨g, 0, none⟩)] w fun e w' => e = .returned (.bool (!(l.any (acB y)))) ∧ Ext w w' := by
  have h0 := (hg.alloc (.cells #[.string y.n, .int .i64 y.t] 66)).cell 0 _ rfl
  have HX := Lib.hid ((Ext.refl w).alloc (.cells #[.string y.n, .int .i64 y.t] 66))
  have HY := Lib.hid (AtC.new w #[.string y.n, .int .i64 y.t] : AtC 66 _ _ _)
  have HK := Lib.hid (contA2_any w.heap.size (acB y) l A n c _ (hA.ext HX.out) hn fun x _ W h => cov11_any x y w.heap.size W (HY.out.ext h))
  clear hA
  go_enter Tryz.func63, Tryz.ntmps63
  go_wp2_with fail
  refine HK.out.mono ?_
  rintro e w2 ⟨rfl, hw2⟩
  have HW2 := Lib.hid (HX.out.trans hw2)
  clear hw2
  go_wp2
  go_ret
  exact ⟨rfl, HW2.out⟩
theorem hasA_any (l : List Ag) (y : Ag) : hasA (l.map agOf) (agOf y) = l.any (acB y) := by
  unfold hasA acB
  rw [List.any_map]
  rfl
theorem covers_eq (a b : List Ag) : coversA (a.map agOf) (b.map agOf) = (validA (a.map agOf) && (validA (b.map agOf) && !(b.any fun y => !(a.any (acB y))))) := by
  unfold coversA
  rw [Bool.and_assoc]
  congr 2
  rw [Bool.eq_iff_iff]
  simp only [List.all_eq_true, List.mem_map, Bool.not_eq_true', List.any_eq_false, forall_exists_index, and_imp]
  constructor
  · intro h y hy
    have := h _ y hy rfl
    rw [hasA_any] at this
    simpa using this
  · rintro h _ y hy rfl
    have := h y hy
    rw [hasA_any]
    simpa using this
set_option maxHeartbeats 1000000 in
set_option maxRecDepth 100000 in
theorem tcovers_any (a b : List Ag) (A B : Option Addr) (n m c d : Nat) (w : World) (hA : Ags w A n a) (hB : Ags w B m b) (hn : n ≤ maxLen) (hm : m ≤ maxLen) (hza : ∀ x ∈ a, x.n.size ≤ maxLen) (hzb : ∀ x ∈ b, x.n.size ≤ maxLen) :
    Calls Tryz.prog 35 #[.slice A n c, .slice B m d] w fun e w' => e = .returned (.bool (coversA (a.map agOf) (b.map agOf))) ∧ Ext w w' := by
  have HX := Lib.hid ((Ext.refl w).alloc (.cells #[.slice A n c] 41))
  have HG := Lib.hid (AtC.new w #[.slice A n c] : AtC 41 _ _ _)
  have h0 := HG.out.cell 0 _ rfl
  have K1 := tvalid28_any a A n c _ (hA.ext HX.out) hn hza
  have K2 := fun W (h : Ext w W) => tvalid28_any b B m d W (hB.ext h) hm hzb
  have K3 := fun W (h : Ext (w.alloc (.cells #[.slice A n c] 41)) W) => contA1_any w.heap.size (fun y => !(a.any (acB y))) b B m d W (hB.ext (HX.out.trans h)) hm fun y _ W' h' => cov1_any a y A n c w.heap.size W' (hA.ext (HX.out.trans (h.trans h'))) hn (HG.out.ext (h.trans h'))
  obtain ⟨R, hR⟩ : ∃ R, R = coversA (a.map agOf) (b.map agOf) := ⟨_, rfl⟩
  rw [← hR]
  rw [covers_eq] at hR
  generalize validA (a.map agOf) = v1 at K1 hR
  generalize validA (b.map agOf) = v2 at K2 hR
  generalize (b.any fun y => !(a.any (acB y))) = v3 at K3 hR
  have HK1 := Lib.hid K1
  have HK2 := Lib.hid K2
  have HK3 := Lib.hid K3
  have HR := Lib.hid hR
  clear K1 K2 K3 hR hA hB
  go_enter Tryz.func35, Tryz.ntmps35
  cases v1
  · go_wp2_with fail
    refine HK1.out.mono ?_
    rintro e w2 ⟨rfl, hw2⟩
    have HW2 := Lib.hid (HX.out.trans hw2)
    clear hw2
    go_wp2
    go_ret
    exact ⟨ret_bool (by rw [HR.out]; rfl), HW2.out⟩
  go_wp2_with fail
  refine HK1.out.mono ?_
  rintro e w2 ⟨rfl, hw2⟩
  have HY2 := Lib.hid hw2
  have HW2 := Lib.hid (HX.out.trans hw2)
  clear hw2
  cases v2
  · go_wp2_with fail
    refine (HK2.out _ HW2.out).mono ?_
    rintro e w3 ⟨rfl, hw3⟩
    have HW3 := Lib.hid (HW2.out.trans hw3)
    clear hw3
    go_wp2
    go_ret
    exact ⟨ret_bool (by rw [HR.out]; rfl), HW3.out⟩
  go_wp2_with fail
  refine (HK2.out _ HW2.out).mono ?_
  rintro e w3 ⟨rfl, hw3⟩
  have HY3 := Lib.hid (HY2.out.trans hw3)
  have HW3 := Lib.hid (HW2.out.trans hw3)
  clear hw3
  go_wp2_with fail
  refine (HK3.out _ HY3.out).mono ?_
  rintro e w4 ⟨rfl, hw4⟩
  have HW4 := Lib.hid (HW3.out.trans hw4)
  clear hw4
  go_wp2
  go_ret
  exact ⟨ret_bool (by rw [HR.out]; first | done | rfl | simp), HW4.out⟩
end Go.Proofs.YtpfmojeigjmlfaaGreatDoor
