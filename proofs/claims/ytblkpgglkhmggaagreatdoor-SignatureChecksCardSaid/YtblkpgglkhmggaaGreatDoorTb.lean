import Derived.Test.YtblkpgglkhmggaaGreatDoorTa
import Derived.Test.YtblkpgglkhmggaaGreatDoorSc
namespace Go.Proofs.YtblkpgglkhmggaaGreatDoor
open Go.RowKit Go.Maps Go.Sort
set_option linter.unusedSimpArgs false
set_option linter.unusedVariables false

/-! The length of flat parts that use arguments. -/
section
variable {P : Program} {w : World} {ops : Array Oper} {rest : List Oper} {o : Oper} {a : Act} {Q : Exit → Act → World → Prop}
theorem keyOf_str_inv {k : TypeId} (hk : P.underlying k = some .string) {key : Value} {kl : Lit} (h : keyOf P k key = some kl) : ∃ x : ByteArray, key = .string x ∧ kl = .string x.data.toList := by
  cases key <;> simp [keyOf, hk, mapKey] at h
  first
    | exact ⟨_, rfl, by simp [h]⟩
    | (obtain ⟨_, h⟩ := h; exact ⟨_, rfl, h.symm⟩)
    | exact ⟨_, rfl, h.symm⟩
theorem getI_mem {M : List ArgP} {x : By} {c : Int} (h : c = (getA M x).getD 0) (hc : c ≠ 0) : (x, c) ∈ M := by
  cases hg : getA M x with
  | none => rw [hg] at h; exact absurd h hc
  | some t => rw [hg] at h; simp at h; subst h; exact get_mem hg
theorem wpList_rangeI (hg : o.guard = none) (m : Operand) (t : TypeId) (hop : o.op = Op.range t m) (k e : TypeId) (hk : P.underlying k = some .string) (ht : P.underlying t = some (.map k e)) (b n : Nat) (M : List ArgP)
    (hm : a.eval m = .map (some b)) (h : MapI P k e w b n M)
    (hK : ∀ (w' : World) (D : DataW Unit), w'.ranges P k (plainElem P e) b w.heap.size n D (Maps.has D) (Maps.size D) → (∀ x, D.atKey (.string x) (.lit (.int .i64 0)) = .lit (.int .i64 ((getA M x).getD 0))) → Maps.size D ≤ n → w.grownBy w' none → w'.heap.size = w.heap.size + 1 → wpList P ops Q rest (a.put o.dst (.pointer (some ⟨w.heap.size, 0, none⟩))) w') : wpList P ops Q (o :: rest) a w := by
  obtain ⟨D, hown, h1, _⟩ := h
  exact wpList_range_own w hg m t hop k e (string_keyed hk) ht _ b n D hm hown fun w' hr hg2 hs => hK w' D hr h1 hown.size_le hg2 hs
theorem wpList_nextI (hg : o.guard = none) (it : Operand) (hop : o.op = Op.next it false) (k e : TypeId) (hk : P.underlying k = some .string) (he : P.underlying e = some (.int .i64)) (b r n : Nat) (M : List ArgP) (D : DataW Unit) (left : Lit → Bool) (cnt : Nat)
    (hit : a.eval it = .pointer (some ⟨r, 0, none⟩)) (h : w.ranges P k (plainElem P e) b r n D left cnt) (hD : ∀ x, D.atKey (.string x) (.lit (.int .i64 0)) = .lit (.int .i64 ((getA M x).getD 0)))
    (hDone : cnt = 0 → wpList P ops Q rest (a.put o.dst (.tuple #[.bool false])) w)
    (hMore : ∀ (x : ByteArray) (c : Int) (left' : Lit → Bool) (w' : World) (cnt' : Nat), c = (getA M x.data.toList).getD 0 → w'.ranges P k (plainElem P e) b r n D left' cnt' → cnt' < cnt → w.grownBy w' (some r) → w'.heap.size = w.heap.size →
      (Instr.entry (.pointer (some ⟨r, 0, none⟩))).run P w' = .ok (.tuple #[.string x, .int .i64 c]) w' → wpList P ops Q rest (a.put o.dst (.tuple #[.bool true, .string x, .int .i64 c])) w') : wpList P ops Q (o :: rest) a w :=
  wpList_next_ranges w hg it hop k (string_keyed hk) (plainElem P e) Value.string (Value.int .i64) (fun key kl hkey => by obtain ⟨x, rfl, _⟩ := keyOf_str_inv hk hkey; exact ⟨x, rfl⟩) (fun v y hv => by obtain ⟨c, rfl, _⟩ := plainElem_int_inv he hv; exact ⟨c, rfl⟩)
    b r n D left cnt hit h (fun h0 _ => hDone h0) (fun x c kl y w' cnt' hkey hlk hv hat hrg hlt hgr hsz hen => by
      obtain ⟨x', ex, rfl⟩ := keyOf_str_inv hk hkey
      cases ex
      obtain ⟨c', ec, rfl, hwc⟩ := plainElem_int_inv he hv
      cases ec
      have h1 := hat (.lit (.int .i64 0))
      rw [hD] at h1
      injection h1 with h1
      injection h1 with _ h1
      exact hMore x c _ w' cnt' h1.symm hrg hlt hgr hsz hen)
end
/-- A flat part: kind, name, style. -/
structure Fp where
  k : Int
  n : ByteArray
  s : ByteArray
def fpC (x : Fp) : List Value := [.int .i64 x.k, .string ⟨#[]⟩, .string x.n, .string x.s, .slice none 0 0, .slice none 0 0]
def Fps (w : World) (A : Option Addr) (n : Nat) (l : List Fp) : Prop := SlN w A n 6 (l.flatMap fpC)
theorem Fps.ext {w w' : World} {A : Option Addr} {n : Nat} {l : List Fp} (h : Fps w A n l) (hw : Ext w w') : Fps w' A n l := SlN.ext h hw
theorem Fps.len {w : World} {A : Option Addr} {n : Nat} {l : List Fp} (h : Fps w A n l) : l.length = n := by
  have h1 := h.1
  rw [flat_len fpC 6 (fun _ => rfl)] at h1
  omega
theorem Fps.at_ {w : World} {A : Option Addr} {n : Nat} {l : List Fp} (h : Fps w A n l) {k : Nat} {x : Fp} (hx : l[k]? = some x) :
    ∃ b o, A = some ⟨b, o, none⟩ ∧ b < w.heap.size ∧ ∀ j u, (fpC x)[j]? = some u → w.cell? ⟨b, o + k * 6 + j, none⟩ = some u := flat_at (f := fpC) (m := 6) (fun _ => rfl) (by decide) h hx
structure Fok (x : Fp) : Prop where
  kind : x.k = 2 ∨ x.k = 3 ∨ x.k = 5
  name : 1 ≤ x.n.size ∧ x.n.size ≤ 40
  style : x.s.size ≤ 40
  fit : ∀ W, Calls Tryz.prog 92 #[.agg #[.int .i64 x.k, .string ⟨#[]⟩, .string x.n, .string x.s, .slice none 0 0, .slice none 0 0]] W fun e W' => e = .returned (.bool true) ∧ Ext W W'
def LnO (w : World) (n : Nat) (s i : Value) (wr : World) : Prop := ∃ (k : Nat) (v : Nat), k ≤ n ∧ i = .int .i64 k ∧ s = .int .i64 v ∧ v ≤ 200 * k ∧ Ext w wr
def LnI (w5 : World) (b r v0 : Nat) (D : DataW Unit) (s : Value) (wr : World) : Prop := ∃ (left : Lit → Bool) (cnt v : Nat), wr.ranges Tryz.prog 9 (plainElem Tryz.prog 3) b r 7 D left cnt ∧ cnt ≤ 7 ∧ s = .int .i64 v ∧ v ≤ v0 + 9 * (7 - cnt) ∧ Ext w5 wr
theorem uses_len {x : By} {c : Int} (h : (x, c) ∈ usesL) : x.length ≤ 7 := by
  unfold usesL at h
  simp at h
  rcases h with ⟨rfl, _⟩ | ⟨rfl, _⟩ | ⟨rfl, _⟩ | ⟨rfl, _⟩ | ⟨rfl, _⟩ | ⟨rfl, _⟩ | ⟨rfl, _⟩ <;> decide
set_option maxHeartbeats 2000000 in
set_option maxRecDepth 100000 in
theorem length_any (l : List Fp) (A : Option Addr) (n c : Nat) (w : World) (hA : Fps w A n l) (hn : n ≤ 300) (hok : ∀ x ∈ l, Fok x) :
    Calls Tryz.prog 76 #[.slice A n c] w fun e w' => ∃ v : Nat, e = .returned (.int .i64 v) ∧ v ≤ 200 * n ∧ Ext w w' := by
  have HA := Lib.hid hA
  have HL := Lib.hid hA.len
  have HOK := Lib.hid hok
  clear hA hok
  go_enter Tryz.func76, Tryz.ntmps76
  go_wp2_with fail
  go_loopw [3, 12] (LnO w n) (fun _ i _ => n - (intOf i).toNat)
  case atStart => exact ⟨0, 0, Nat.zero_le _, rfl, rfl, Nat.zero_le _, Ext.refl _⟩
  case round =>
    obtain ⟨k, v, hk, rfl, rfl, hv, hw⟩ := hrel
    obtain ⟨wo, rfl⟩ : ∃ wo : World, wo = wr := ⟨_, rfl⟩
    have HW := Lib.hid hw
    clear hw
    by_cases hkn : k < n
    · have hkI : (k : Int) < (n : Int) := by omega
      obtain ⟨x, hx⟩ : ∃ x, l[k]? = some x := ⟨_, List.getElem?_eq_getElem (by rw [HL.out]; exact hkn)⟩
      have HX := Lib.hid (HOK.out x (List.mem_of_getElem? hx))
      obtain ⟨b, o, rfl, hb, hc⟩ := (HA.out.ext HW.out).at_ hx
      have a0 := hc 0 _ rfl
      have a1 := hc 1 _ rfl
      have a2 := hc 2 _ rfl
      have a3 := hc 3 _ rfl
      have a4 := hc 4 _ rfl
      have a5 := hc 5 _ rfl
      rw [Nat.add_zero] at a0
      obtain ⟨xk, xn, xs⟩ := x
      have hkd := HX.out.kind
      have hnm := HX.out.name
      have hst := HX.out.style
      simp only at hkd hnm hst a0 a1 a2 a3 a4 a5
      have t1 : (xk == 1) = false := by rcases hkd with h | h | h <;> rw [h] <;> rfl
      have t10 : (xk == 10) = false := by rcases hkd with h | h | h <;> rw [h] <;> rfl
      have t11 : (xk == 11) = false := by rcases hkd with h | h | h <;> rw [h] <;> rfl
      clear hc hx
      have KA := (AtC.new wo #[.int .i64 xk, .string ⟨#[]⟩, .string xn, .string xs, .slice none 0 0, .slice none 0 0] : AtC 36 _ _ _)
      have HKA := Lib.hid KA
      have HC := Lib.hid (show Ext w (wo.alloc (.cells #[.int .i64 xk, .string ⟨#[]⟩, .string xn, .string xs, .slice none 0 0, .slice none 0 0] 36)) from HW.out.alloc _)
      clear KA
      go_wp2_with (first
        | (go_at_call 96; refine (uses_any _).mono ?_; rintro e w5 ⟨rfl, hm5, hw5⟩; rw [World.size_alloc] at hm5; have HM5 := Lib.hid hm5; have HW5 := Lib.hid (HC.out.trans hw5); have HK5 := Lib.hid (HKA.out.ext hw5); clear hm5 hw5)
        | (at_range; refine wpList_rangeI rfl _ 61 rfl 9 3 Tryz.underlying9 Tryz.underlying61 _ 7 usesL rfl HM5.out ?_; intro w6 D hrg hD hsz hg hs; have HRG := Lib.hid hrg; have HD := Lib.hid hD; have HW6 := Lib.hid ((Ext.refl w5).grown hg (by simp)); clear hrg hD hg hs))
      go_frame
      go_loopw [3] (LnI w5 (wo.heap.size + 1) w5.heap.size (v + (2 + xn.size)) D) (fun _ wr2 => wr2.rangeLeft (wo.heap.size + 1) w5.heap.size)
      case atStart => exact ⟨_, _, v + (2 + xn.size), HRG.out, hsz, by simp, by omega, HW6.out⟩
      case round =>
        obtain ⟨left, cnt, v2, hrg, hcnt, rfl, hv2, hw7⟩ := hrel
        have HRG2 := Lib.hid hrg
        have HW7 := Lib.hid hw7
        have kc0 := (HK5.out.ext hw7).cell 0 _ rfl
        have kc3 := (HK5.out.ext hw7).cell 3 _ rfl
        have kc4 := (HK5.out.ext hw7).cell 4 _ rfl
        clear hrg hw7
        go_wp2_with (first
          | (at_next; refine wpList_nextI rfl _ rfl 9 3 Tryz.underlying9 Tryz.underlying3 (wo.heap.size + 1) w5.heap.size 7 usesL D left cnt rfl HRG2.out HD.out ?_ ?_))
        · intro hc0
          have hbig : v2 ≤ v + 2 + xn.size + 63 := by omega
          have s9 : (decide (7 ≤ xk) && decide (xk ≤ 9)) = false := by rcases hkd with h | h | h <;> rw [h] <;> rfl
          have KS := sel_any xk
          rw [s9] at KS
          have HKS := Lib.hid KS
          clear KS s9
          rcases Nat.eq_zero_or_pos xs.size with hz | hz
          · have hse : xs = ⟨#[]⟩ := by
              apply ByteArray.ext
              exact Array.eq_empty_of_size_eq_zero hz
            subst hse
            go_wp2_with (go_at_call 93; refine (HKS.out _).mono ?_; rintro e w9 ⟨rfl, rfl⟩)
            refine wp_loop_rounds 1 ?_
            rw [rounds_succ]
            go_wp2
            refine ⟨⟨k + 1, v2, by omega, by go_num, rfl, by omega, HW5.out.trans HW7.out⟩, by simp [intOf]; omega⟩
          · have g0 : ¬ xs.toList = [] := by
              rw [ByteArray.toList_eq]
              intro h
              have h2 := size_list xs
              rw [h] at h2
              simp at h2
              omega
            have g0b : xs.toList.isEmpty = false := by
              cases h : xs.toList with
              | nil => exact absurd h g0
              | cons y r => rfl
            go_wp2_with (go_at_call 93; refine (HKS.out _).mono ?_; rintro e w9 ⟨rfl, rfl⟩)
            refine wp_loop_rounds 1 ?_
            rw [rounds_succ]
            go_wp2
            refine ⟨⟨k + 1, v2 + (2 + xs.size), by omega, by go_num, by simp, by omega, HW5.out.trans HW7.out⟩, by simp [intOf]; omega⟩
        · intro x c left' w8 cnt' hcv hrg8 hlt hg8 hs8 hen
          have HRG8 := Lib.hid hrg8
          have HW8 := Lib.hid (HW7.out.grown hg8 (by intro j hj; injection hj with hj; subst hj; exact Nat.le_refl _))
          have kd0 := (HK5.out.ext HW8.out).cell 0 _ rfl
          clear kc0 kc3 kc4 hrg8 hg8
          by_cases hcx : c = xk
          · have hx7 : x.size ≤ 7 := by
              have h := uses_len (getI_mem hcv (by rw [hcx]; rcases hkd with h | h | h <;> rw [h] <;> decide))
              rwa [size_list] at h
            subst hcx
            go_wp2
            exact ⟨⟨left', cnt', v2 + (2 + x.size), HRG8.out, by omega, by simp, by omega, HW8.out⟩, by rw [HRG8.out.left_eq, HRG2.out.left_eq]; exact hlt⟩
          · have hcb : (c == xk) = false := by simpa using hcx
            go_wp2
            exact ⟨⟨left', cnt', v2, HRG8.out, by omega, rfl, by omega, HW8.out⟩, by rw [HRG8.out.left_eq, HRG2.out.left_eq]; exact hlt⟩
    · have hkk : k = n := by omega
      subst hkk
      go_wp2
      go_ret
      exact ⟨v, rfl, hv, HW.out⟩
end Go.Proofs.YtblkpgglkhmggaaGreatDoor
