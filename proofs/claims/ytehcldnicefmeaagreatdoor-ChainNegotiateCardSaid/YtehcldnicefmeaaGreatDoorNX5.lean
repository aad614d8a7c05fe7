import Derived.Test.YtehcldnicefmeaaGreatDoorNX3
import Derived.Test.YtehcldnicefmeaaGreatDoorNX4
import Derived.Test.YtehcldnicefmeaaGreatDoorNX2
import Derived.BigQuiet
import Derived.Lib.MinMaxS
namespace Go.Proofs.YtehcldnicefmeaaGreatDoor
open Go.RowKit
set_option linter.unusedSimpArgs false
set_option linter.unusedVariables false

/-! The distance of two subtags. -/
def nrV (x : Nr) : Value := .agg #[.string x.f, .string x.o, .int .i64 x.c]

set_option maxHeartbeats 1000000 in
set_option maxRecDepth 100000 in
theorem rpair_any (x : Nr) (a b : ByteArray) (w : World) :
    Calls Tryz.prog 102 #[nrV x, .string a, .string b] w fun e w' => e = .returned (.bool (pairB (nearOf x) a.data.toList b.data.toList)) ∧ Ext w w' := by
  have HN := AtC.new (T := 122) w #[.string x.f, .string x.o, .int .i64 x.c]
  have c0 := HN.cell 0 _ rfl
  have c1 := HN.cell 1 _ rfl
  have hp : pairB (nearOf x) a.data.toList b.data.toList = ((x.f.toList == a.toList) && (x.o.toList == b.toList) || (x.f.toList == b.toList) && (x.o.toList == a.toList)) := by
    unfold pairB nearOf
    simp only [ByteArray.toList_eq]
  rw [hp]
  unfold nrV
  have HX := Lib.hid ((Ext.refl w).alloc (.cells #[.string x.f, .string x.o, .int .i64 x.c] 122))
  clear HN hp
  cases h1 : (x.f.toList == a.toList) <;> cases h2 : (x.o.toList == b.toList) <;> cases h3 : (x.f.toList == b.toList) <;> cases h4 : (x.o.toList == a.toList)
  all_goals
    go_enter Tryz.func102, Tryz.ntmps102
    go_wp2
    go_ret
    exact ⟨rfl, HX.out⟩

theorem sub_same (l : List NearP) (a : List UInt8) (m : Int) : subtagP l a a m = 0 := by unfold subtagP; rw [if_pos rfl]
theorem sub_found {l : List NearP} {a b : List UInt8} {m : Int} {x : NearP} (h : a ≠ b) (hf : l.find? (fun x => pairB x a b) = some x) : subtagP l a b m = x.c := by unfold subtagP; rw [if_neg h, hf]
theorem sub_none {l : List NearP} {a b : List UInt8} {m : Int} (h : a ≠ b) (hf : l.find? (fun x => pairB x a b) = none) : subtagP l a b m = m := by unfold subtagP; rw [if_neg h, hf]
def SubInv (l : List Nr) (a b : List UInt8) (w : World) (n : Nat) (i : Value) (wr : World) : Prop :=
  ∃ k : Nat, k ≤ n ∧ i = .int .i64 k ∧ Ext w wr ∧ (l.take k).all (fun x => !pairB (nearOf x) a b) = true

theorem find_at {l : List Nr} {k : Nat} {x : Nr} {q : NearP → Bool} (hx : l[k]? = some x) (h1 : (l.take k).all (fun x => !q (nearOf x)) = true) (h2 : q (nearOf x) = true) : (l.map nearOf).find? q = some (nearOf x) := by
  obtain ⟨hk, rfl⟩ := List.getElem?_eq_some_iff.1 hx
  have hl : l = l.take k ++ l[k] :: l.drop (k + 1) := by rw [List.getElem_cons_drop, List.take_append_drop]
  generalize l[k] = x at hl h2 ⊢
  generalize l.take k = p at hl h1
  generalize l.drop (k + 1) = r at hl
  subst hl
  rw [List.map_append, List.find?_append]
  have : (p.map nearOf).find? q = none := by
    rw [List.find?_eq_none]
    intro y hy
    obtain ⟨z, hz, rfl⟩ := List.mem_map.1 hy
    have := List.all_eq_true.1 h1 z hz
    simpa using this
  rw [this]
  simp [h2]
theorem find_no {l : List Nr} {k : Nat} {q : NearP → Bool} (hk : l.length ≤ k) (h1 : (l.take k).all (fun x => !q (nearOf x)) = true) : (l.map nearOf).find? q = none := by
  rw [List.take_of_length_le hk] at h1
  rw [List.find?_eq_none]
  intro y hy
  obtain ⟨z, hz, rfl⟩ := List.mem_map.1 hy
  have := List.all_eq_true.1 h1 z hz
  simpa using this
theorem nall_step {l : List Nr} {k : Nat} {x : Nr} {q : Nr → Bool} (hx : l[k]? = some x) (h1 : (l.take k).all q = true) (h2 : q x = true) : (l.take (k + 1)).all q = true := by
  rw [take_next hx, List.all_append]
  simp [h1, h2]

set_option maxHeartbeats 1000000 in
set_option maxRecDepth 100000 in
theorem rsub_any (l : List Nr) (A : Option Addr) (n c : Nat) (a b : ByteArray) (m : Int) (w : World) (hA : Nrs w A n l) (hn : n ≤ maxLen) :
    Calls Tryz.prog 136 #[.slice A n c, .string a, .string b, .int .i64 m] w fun e w' => e = .returned (.int .i64 (subtagP (l.map nearOf) a.data.toList b.data.toList m)) ∧ Ext w w' := by
  unfold maxLen at hn
  have L1 := Lib.hid hA.len
  have H1 := Lib.hid hA
  clear hA
  have hcon := fun (x : Nr) (W : World) => rpair_any x a b W
  unfold nrV at hcon
  have HC := Lib.hid hcon
  clear hcon
  by_cases hab : a = b
  · subst hab
    rw [sub_same]
    have hb : (a.toList == a.toList) = true := by simp
    go_enter Tryz.func136, Tryz.ntmps136
    go_wp2
    go_ret
    exact ⟨rfl, Ext.refl _⟩
  · have hab2 : ¬ a.data.toList = b.data.toList := fun h => hab (ByteArray.ext (Array.toList_inj.1 h))
    have hb := bytes_ne hab
    have HAB := Lib.hid hab2
    clear hab hab2
    go_enter Tryz.func136, Tryz.ntmps136
    go_wp2
    go_loopw [9] (SubInv l a.data.toList b.data.toList w n) (fun i _ => n - (intOf i).toNat)
    case atStart => exact ⟨0, Nat.zero_le _, rfl, Ext.refl _, by simp⟩
    case round =>
      obtain ⟨k, hk, rfl, hw, ht⟩ := hrel
      have HT := Lib.hid ht
      have HW := Lib.hid hw
      clear ht hw
      by_cases hlt : k < n
      · obtain ⟨x, hx⟩ : ∃ x, l[k]? = some x := ⟨_, List.getElem?_eq_getElem (by have := L1.out; omega)⟩
        obtain ⟨b', o', rfl, hb', c0, c1, c2⟩ := (H1.out.ext HW.out).at_ hx
        have HXX := Lib.hid hx
        clear hx
        have hkI : (k : Int) < (n : Int) := by omega
        have hcx := fun W => HC.out x W
        cases hq : pairB (nearOf x) a.data.toList b.data.toList with
        | true =>
          rw [hq] at hcx
          have HCX := Lib.hid hcx
          have HQ := Lib.hid hq
          clear hcx hq
          go_wp2_with fail
          refine (HCX.out _).mono ?_
          rintro e w1 ⟨rfl, hw1⟩
          obtain ⟨b2, o2, hA2, hb2, d0, d1, d2⟩ := (H1.out.ext (HW.out.trans hw1)).at_ HXX.out
          injection hA2 with hA2
          injection hA2 with e1 e2 _
          subst e1; subst e2
          have HW1 := Lib.hid (HW.out.trans hw1)
          clear hw1 c0 c1 c2
          go_wp2
          all_goals go_ret
          exact ⟨by rw [sub_found HAB.out (find_at (q := fun x => pairB x a.data.toList b.data.toList) HXX.out HT.out HQ.out)]; rfl, HW1.out⟩
        | false =>
          rw [hq] at hcx
          have HCX := Lib.hid hcx
          have HQ := Lib.hid hq
          clear hcx hq
          go_wp2_with fail
          refine (HCX.out _).mono ?_
          rintro e w1 ⟨rfl, hw1⟩
          have HW1 := Lib.hid (HW.out.trans hw1)
          clear hw1 c0 c1 c2
          go_wp2
          exact ⟨⟨k + 1, by omega, by go_num, HW1.out, nall_step HXX.out HT.out (by rw [HQ.out]; rfl)⟩, by simp [intOf]; omega⟩
      · go_wp2
        go_ret
        exact ⟨by rw [sub_none HAB.out (find_no (q := fun x => pairB x a.data.toList b.data.toList) (by have := L1.out; omega) HT.out)]; rfl, HW.out⟩
end Go.Proofs.YtehcldnicefmeaaGreatDoor
namespace Go.Proofs.YtehcldnicefmeaaGreatDoor
open Go.RowKit
set_option linter.unusedSimpArgs false
set_option linter.unusedVariables false

/-! The distance of two tags, by the reference. -/
theorem ext_of {W wx : World} (hx : ∃ x : ExtW W, wx = x.v) : Ext W wx := by obtain ⟨y, hy⟩ := hx; rw [hy]; exact y.h
theorem dist_parts (l : List Nr) (hl : ∀ x ∈ l, 1 ≤ x.c ∧ x.c ≤ 99) (a b : List UInt8) (m : Int) (hm : 1 ≤ m) (hm2 : m ≤ 100) : 0 ≤ subtagP (l.map nearOf) a b m ∧ subtagP (l.map nearOf) a b m ≤ 100 := by
  have h : ∀ x ∈ l.map nearOf, 1 ≤ x.c ∧ x.c ≤ 99 := by
    intro x hx
    obtain ⟨y, hy, rfl⟩ := List.mem_map.1 hx
    exact hl y hy
  obtain ⟨h1, h2, _⟩ := subtag_bd h a b m hm
  exact ⟨h1, by omega⟩

set_option maxHeartbeats 1000000 in
set_option maxRecDepth 100000 in
theorem rdist_any (l : List Nr) (L : Option Addr) (ln lc : Nat) (t u : TagP) (A B : Option Addr) (n c m d : Nat) (w : World) (hL : Nrs w L ln l) (hln : ln ≤ maxLen) (hl : ∀ x ∈ l, 1 ≤ x.c ∧ x.c ≤ 99) (hA : Sl w A n (t.vars.map strv)) (hB : Sl w B m (u.vars.map strv)) (hn : n ≤ 60000) (hm : m ≤ 60000) :
    Calls Tryz.prog 104 #[.slice L ln lc, tagV t A n c, tagV u B m d] w fun e w' => e = .returned (.int .i64 (distP (l.map nearOf) t u)) ∧ Ext w w' := by
  obtain ⟨tl, ht1, ht2⟩ := strv_b t.lang
  obtain ⟨ts, hs1, hs2⟩ := strv_b t.script
  obtain ⟨tr, hr1, hr2⟩ := strv_b t.region
  obtain ⟨ul, ht3, ht4⟩ := strv_b u.lang
  obtain ⟨us, hs3, hs4⟩ := strv_b u.script
  obtain ⟨ur, hr3, hr4⟩ := strv_b u.region
  have hw0 : Ext w ((w.alloc (.cells #[.string tl, .string ts, .string tr, .slice A n c] 167)).alloc (.cells #[.string ul, .string us, .string ur, .slice B m d] 167)) := ((Ext.refl w).alloc _).alloc _
  have HB1 := (AtC.new w _ : AtC 167 _ _ #[.string tl, .string ts, .string tr, .slice A n c]).alloc (.cells #[.string ul, .string us, .string ur, .slice B m d] 167)
  have HB2 := (AtC.new (w.alloc (.cells #[.string tl, .string ts, .string tr, .slice A n c] 167)) _ : AtC 167 _ _ #[.string ul, .string us, .string ur, .slice B m d])
  rw [show (w.alloc (.cells #[.string tl, .string ts, .string tr, .slice A n c] 167)).heap.size = w.heap.size + 1 from by simp] at HB2
  have hd : distP (l.map nearOf) t u = subtagP (l.map nearOf) tl.data.toList ul.data.toList 100 + subtagP (l.map nearOf) ts.data.toList us.data.toList 50 + subtagP (l.map nearOf) tr.data.toList ur.data.toList 5 + (if (t.vars == u.vars) = true then 0 else 1) := by
    unfold distP
    rw [ht2, hs2, hr2, ht4, hs4, hr4]
    simp
  rw [hd]
  unfold tagV
  rw [ht1, hs1, hr1, ht3, hs3, hr3]
  have G1 := fun W (y : ExtW W) (hy : Ext w W) => rsub_any l L ln lc tl ul 100 y.v (hL.ext (hy.trans y.h)) hln
  have G2 := fun W (y : ExtW W) (hy : Ext w W) => rsub_any l L ln lc ts us 50 y.v (hL.ext (hy.trans y.h)) hln
  have G3 := fun W (y : ExtW W) (hy : Ext w W) => rsub_any l L ln lc tr ur 5 y.v (hL.ext (hy.trans y.h)) hln
  have G4 := fun W (hy : Ext w W) => samestr_any _ _ _ _ _ _ c d W (hA.ext hy) (hB.ext hy) (by unfold maxLen; omega) (by unfold maxLen; omega)
  obtain ⟨k1, k2⟩ := dist_parts l hl tl.data.toList ul.data.toList 100 (by decide) (by decide)
  obtain ⟨k3, k4⟩ := dist_parts l hl ts.data.toList us.data.toList 50 (by decide) (by decide)
  obtain ⟨k5, k6⟩ := dist_parts l hl tr.data.toList ur.data.toList 5 (by decide) (by decide)
  generalize subtagP (l.map nearOf) tl.data.toList ul.data.toList 100 = d1 at *
  generalize subtagP (l.map nearOf) ts.data.toList us.data.toList 50 = d2 at *
  generalize subtagP (l.map nearOf) tr.data.toList ur.data.toList 5 = d3 at *
  generalize (t.vars == u.vars) = bv at *
  have q0 : IntKind.i64.wrap (d1 + d2) = d1 + d2 := IntWalk.i64_in _ (by omega)
  have q1 : IntKind.i64.wrap (d1 + d2 + d3) = d1 + d2 + d3 := IntWalk.i64_in _ (by omega)
  have q2 : IntKind.i64.wrap (d1 + d2 + d3 + 1) = d1 + d2 + d3 + 1 := IntWalk.i64_in _ (by omega)
  have b0 : ∀ y : ExtW _, y.v.cell? ⟨w.heap.size, 0, none⟩ = some (.string tl) := fun y => (HB1.ext y.h).cell 0 _ rfl
  have b1 : ∀ y : ExtW _, y.v.cell? ⟨w.heap.size, 1, none⟩ = some (.string ts) := fun y => (HB1.ext y.h).cell 1 _ rfl
  have b2 : ∀ y : ExtW _, y.v.cell? ⟨w.heap.size, 2, none⟩ = some (.string tr) := fun y => (HB1.ext y.h).cell 2 _ rfl
  have c0 : ∀ y : ExtW _, y.v.cell? ⟨w.heap.size + 1, 0, none⟩ = some (.string ul) := fun y => (HB2.ext y.h).cell 0 _ rfl
  have c1 : ∀ y : ExtW _, y.v.cell? ⟨w.heap.size + 1, 1, none⟩ = some (.string us) := fun y => (HB2.ext y.h).cell 1 _ rfl
  have c2 : ∀ y : ExtW _, y.v.cell? ⟨w.heap.size + 1, 2, none⟩ = some (.string ur) := fun y => (HB2.ext y.h).cell 2 _ rfl
  have K1 := Lib.hid (fun y => G1 _ y hw0)
  have K2 := Lib.hid (fun y => G2 _ y hw0)
  have K3 := Lib.hid (fun y => G3 _ y hw0)
  have K4 := Lib.hid G4
  have B1 := Lib.hid HB1
  have B2 := Lib.hid HB2
  have H0 := Lib.hid hw0
  clear G1 G2 G3 G4 HB1 HB2 hw0 ht1 hs1 hr1 ht2 hs2 hr2 ht3 hs3 hr3 ht4 hs4 hr4 hd hL hA hB hl hln hn hm k1 k2 k3 k4 k5 k6
  cases bv with
  | true =>
    go_enter Tryz.func104, Tryz.ntmps104
    go_wp2_with fail
    refine wp_region_ext (by kernel_rfl) (by kernel_rfl) ?_
    repeat (go_big_quiet_step ((go_at_call 136; with_reducible first | exact ExtW.call (K1.out _) | exact ExtW.call (K2.out _) | exact ExtW.call (K3.out _))))
    refine wpQuiet_nil ?_
    intro wx hx
    have hxx := ext_of hx
    clear hx b0 b1 b2 c0 c1 c2
    have r1 := (B1.out.ext hxx).cell 3 _ rfl
    have r2 := (B2.out.ext hxx).cell 3 _ rfl
    have HX := Lib.hid (H0.out.trans hxx)
    clear hxx
    go_wp2_with fail
    refine (K4.out _ HX.out).mono ?_
    rintro e w1 ⟨rfl, hw1⟩
    go_wp2
    go_ret
    exact ⟨by simp, HX.out.trans hw1⟩
  | false =>
    go_enter Tryz.func104, Tryz.ntmps104
    go_wp2_with fail
    refine wp_region_ext (by kernel_rfl) (by kernel_rfl) ?_
    repeat (go_big_quiet_step ((go_at_call 136; with_reducible first | exact ExtW.call (K1.out _) | exact ExtW.call (K2.out _) | exact ExtW.call (K3.out _))))
    refine wpQuiet_nil ?_
    intro wx hx
    have hxx := ext_of hx
    clear hx b0 b1 b2 c0 c1 c2
    have r1 := (B1.out.ext hxx).cell 3 _ rfl
    have r2 := (B2.out.ext hxx).cell 3 _ rfl
    have HX := Lib.hid (H0.out.trans hxx)
    clear hxx
    go_wp2_with fail
    refine (K4.out _ HX.out).mono ?_
    rintro e w1 ⟨rfl, hw1⟩
    go_wp2
    go_ret
    exact ⟨by simp, HX.out.trans hw1⟩
end Go.Proofs.YtehcldnicefmeaaGreatDoor
namespace Go.Proofs.YtehcldnicefmeaaGreatDoor
open Go.RowKit
set_option linter.unusedSimpArgs false
set_option linter.unusedVariables false

/-! The distance of two subtags, by the program. -/
theorem barr_ext {x y : ByteArray} (h : x.data.toList = y.data.toList) : x = y := ByteArray.ext (Array.toList_inj.1 h)
theorem mm_cases (a b : ByteArray) : (Lib.minS a b = a ∧ Lib.maxS a b = b) ∨ (Lib.minS a b = b ∧ Lib.maxS a b = a) := by
  unfold Lib.minS Lib.maxS
  by_cases h : a.data.toList < b.data.toList
  · left; simp [h]
  · by_cases h2 : a.data.toList = b.data.toList
    · have := barr_ext h2; subst this; left; simp
    · right; simp [h, h2]
theorem mm_comm (a b : ByteArray) : Lib.minS a b = Lib.minS b a ∧ Lib.maxS a b = Lib.maxS b a := by
  unfold Lib.minS Lib.maxS
  by_cases h : a.data.toList < b.data.toList
  · have h2 : ¬ b.data.toList < a.data.toList := fun k => List.lt_irrefl _ (List.lt_trans h k)
    have h3 : ¬ b.data.toList = a.data.toList := fun k => by rw [k] at h; exact List.lt_irrefl _ h
    simp [h, h2, h3]
  · by_cases h2 : a.data.toList = b.data.toList
    · have := barr_ext h2; subst this; simp
    · have h3 : b.data.toList < a.data.toList := by
        rcases List.le_total a.data.toList b.data.toList with k | k
        · rcases List.le_iff_lt_or_eq.1 k with k | k
          · exact absurd k h
          · exact absurd k h2
        · rcases List.le_iff_lt_or_eq.1 k with k | k
          · exact k
          · exact absurd k.symm h2
      simp [h, h2, h3]
theorem mm_pair (f o a b : ByteArray) : (Lib.minS f o = Lib.minS a b ∧ Lib.maxS f o = Lib.maxS a b) ↔ (f = a ∧ o = b) ∨ (f = b ∧ o = a) := by
  constructor
  · rintro ⟨h1, h2⟩
    rcases mm_cases f o with ⟨k1, k2⟩ | ⟨k1, k2⟩ <;> rcases mm_cases a b with ⟨g1, g2⟩ | ⟨g1, g2⟩ <;> rw [k1, g1] at h1 <;> rw [k2, g2] at h2
    · exact Or.inl ⟨h1, h2⟩
    · exact Or.inr ⟨h1, h2⟩
    · exact Or.inr ⟨h2, h1⟩
    · exact Or.inl ⟨h2, h1⟩
  · rintro (⟨rfl, rfl⟩ | ⟨rfl, rfl⟩)
    · exact ⟨rfl, rfl⟩
    · exact mm_comm _ _

set_option maxHeartbeats 1000000 in
set_option maxRecDepth 100000 in
theorem of_any (a b : ByteArray) (w : World) :
    Calls Tryz.prog 95 #[.string a, .string b] w fun e w' => e = .returned (.agg #[.string (Lib.minS a b), .string (Lib.maxS a b)]) ∧ Ext w w' := by
  have hmx : ∀ (w : World) (ts : Array TypeId) (t : TypeId) (x y : ByteArray), (Builtin.max_ ts t #[.string x, .string y]).run Tryz.prog w = .ok (.string (Lib.maxS x y)) w := Lib.run_max_strs
  have hmn : ∀ (w : World) (ts : Array TypeId) (t : TypeId) (x y : ByteArray), (Builtin.min_ ts t #[.string x, .string y]).run Tryz.prog w = .ok (.string (Lib.minS x y)) w := Lib.run_min_strs
  go_enter Tryz.func95, Tryz.ntmps95
  go_wp2
  refine bodyPost_ret (v := .agg #[.string (Lib.minS a b), .string (Lib.maxS a b)]) ?_ rfl ⟨rfl, (Ext.refl w).alloc _⟩
  exact results_cell_row rfl _ _ w.heap.size 152 _ (0, 0) _ rfl (heap_alloc_new w _) Tryz.underlying152 rfl (by kernel_rfl)

theorem pairB_mm (x : Nr) (a b : ByteArray) : pairB (nearOf x) a.data.toList b.data.toList = ((Lib.minS x.f x.o).toList == (Lib.minS a b).toList && (Lib.maxS x.f x.o).toList == (Lib.maxS a b).toList) := by
  have e : ∀ u v : ByteArray, (u.toList == v.toList) = decide (u = v) := fun u v => by
    by_cases h : u = v
    · subst h; simp
    · rw [bytes_ne h]; simp [h]
  have e2 : ∀ u v : ByteArray, (u.data.toList == v.data.toList) = decide (u = v) := fun u v => by rw [← e, ByteArray.toList_eq, ByteArray.toList_eq]
  unfold pairB nearOf
  simp only [e, e2]
  rw [Bool.eq_iff_iff]
  have := mm_pair x.f x.o a b
  simp only [Bool.or_eq_true, Bool.and_eq_true, decide_eq_true_eq]
  exact this.symm

set_option maxHeartbeats 1000000 in
set_option maxRecDepth 100000 in
theorem betw_any (l : List Nr) (A : Option Addr) (n c : Nat) (a b : ByteArray) (m : Int) (w : World) (hA : Nrs w A n l) (hn : n ≤ maxLen) :
    Calls Tryz.prog 131 #[.slice A n c, .string a, .string b, .int .i64 m] w fun e w' => e = .returned (.int .i64 (subtagP (l.map nearOf) a.data.toList b.data.toList m)) ∧ Ext w w' := by
  unfold maxLen at hn
  have L1 := Lib.hid hA.len
  have H1 := Lib.hid hA
  clear hA
  have HO := Lib.hid of_any
  by_cases hab : a = b
  · subst hab
    rw [sub_same]
    have hb : (a.toList == a.toList) = true := by simp
    go_enter Tryz.func131, Tryz.ntmps131
    go_wp2
    go_ret
    exact ⟨rfl, Ext.refl _⟩
  · have hab2 : ¬ a.data.toList = b.data.toList := fun h => hab (ByteArray.ext (Array.toList_inj.1 h))
    have hb := bytes_ne hab
    have HAB := Lib.hid hab2
    clear hab hab2
    go_enter Tryz.func131, Tryz.ntmps131
    go_wp2
    go_loopw [16] (SubInv l a.data.toList b.data.toList w n) (fun i _ => n - (intOf i).toNat)
    case atStart => exact ⟨0, Nat.zero_le _, rfl, Ext.refl _, by simp⟩
    case round =>
      obtain ⟨k, hk, rfl, hw, ht⟩ := hrel
      have HT := Lib.hid ht
      have HW := Lib.hid hw
      clear ht hw
      by_cases hlt : k < n
      · obtain ⟨x, hx⟩ : ∃ x, l[k]? = some x := ⟨_, List.getElem?_eq_getElem (by have := L1.out; omega)⟩
        obtain ⟨b', o', rfl, hb', c0, c1, c2⟩ := (H1.out.ext HW.out).at_ hx
        have HXX := Lib.hid hx
        clear hx
        have hkI : (k : Int) < (n : Int) := by omega
        have HE := Lib.hid (pairB_mm x a b)
        cases h1 : ((Lib.minS x.f x.o).toList == (Lib.minS a b).toList) <;> cases h2 : ((Lib.maxS x.f x.o).toList == (Lib.maxS a b).toList)
        all_goals
          have HQ := Lib.hid (HE.out.trans (by rw [h1, h2]))
          have hep := fun W => eq_pairs (Lib.minS x.f x.o) (Lib.maxS x.f x.o) (Lib.minS a b) (Lib.maxS a b) W
          rw [h1, h2] at hep
          go_wp2_with fail
          refine (HO.out _ _ _).mono ?_
          rintro e w1 ⟨rfl, hw1⟩
          have HN := ((AtC.new wr #[.string x.f, .string x.o, .int .i64 x.c] : AtC 122 _ _ _)).ext hw1
          have HW1 := Lib.hid ((HW.out.alloc _).trans hw1)
          clear hw1 c0 c1 c2
          go_wp2_with fail
          refine (HO.out _ _ _).mono ?_
          rintro e w2 ⟨rfl, hw2⟩
          have d2 := (HN.ext hw2).cell 2 _ rfl
          have HW2 := Lib.hid (HW1.out.trans hw2)
          clear hw2 HN
          go_wp2
          first
          | exact ⟨⟨k + 1, by omega, by go_num, HW2.out, nall_step HXX.out HT.out (by rw [HQ.out]; rfl)⟩, by simp [intOf]; omega⟩
          | all_goals go_ret
            exact ⟨by rw [sub_found HAB.out (find_at (q := fun x => pairB x a.data.toList b.data.toList) HXX.out HT.out HQ.out)]; rfl, HW2.out⟩
      · go_wp2
        go_ret
        exact ⟨by rw [sub_none HAB.out (find_no (q := fun x => pairB x a.data.toList b.data.toList) (by have := L1.out; omega) HT.out)]; rfl, HW.out⟩
end Go.Proofs.YtehcldnicefmeaaGreatDoor
