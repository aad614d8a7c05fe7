import Derived.Test.YtklobkpepbokkaaDoorNPA
import Derived.Test.YtklobkpepbokkaaDoorGf
import Derived.Test.YtklobkpepbokkaaDoorAppN
namespace Go.Proofs.YtklobkpepbokkaaDoor
open Go.RowKit Go.Shelf
set_option linter.unusedSimpArgs false
set_option linter.unusedVariables false

/-! Two lists of parts in one, by the reference. -/
section
variable {P : Program} (w : World)
/-- append of structs of whatever length, where the second slice may be nil. -/
theorem wpList_appSz {ops : Array Oper} {rest : List Oper} {o : Oper} {a : Act} {Q : Exit → Act → World → Prop} (hgd : o.guard = none) (s x : Operand) (t : TypeId)
    (ho : o.op = .call { callee := .builtin .append, args := #[s, x], argTypes := #[t, t] })
    (base : Nat) (e : TypeId) (i : TypeInfo) (z : Value) (size bytes : Nat) (ht : P.underlying t = some (.slice e)) (hi : P.info? e = some i) (hz : i.zero = some z)
    (hsize : i.size = size) (hby : i.bytes = bytes) (hzs : z.cells.size = size) (hpos : 0 < size)
    (v : Value) (n : Nat) (xs : List Value) (hs : a.eval s = v) (hown : w.ownsRow base e size v n xs)
    (A : Option Addr) (m c : Nat) (news : List Value) (hx : a.eval x = .slice A m c) (hsl : SlN w A m size news) (h1 : ∀ u ∈ news, u.oneCell' = true)
    (h63 : n + m ≤ maxLen) (hbytes : (n + m) * bytes ≤ 140737488355328) (hbase : base ≤ w.heap.size)
    (h : ∀ v' w', w'.ownsRow base e size v' (n + m) (xs ++ news) → w.grownBy w' v.ownBlock → wpList P ops Q rest (a.put o.dst v') w') :
    wpList P ops Q (o :: rest) a w := by
  cases A with
  | none =>
    have hn : news = [] := by
      cases hl : news with
      | nil => rfl
      | cons u r =>
        obtain ⟨b, o', e', _⟩ := hsl.2 0 u (by rw [hl]; rfl)
        cases e'
    have hm : m = 0 := by
      have h2 := hsl.1
      rw [hn] at h2
      have h3 : m * size = 0 := by simpa using h2.symm
      rcases Nat.mul_eq_zero.1 h3 with h3 | h3
      · exact h3
      · omega
    subst hm
    subst hn
    refine wpList_plain hgd fun K hK => ?_
    have hrun := run_append_nil_any (P := P) w base t o.type e i size ht hi v n xs hown c
    unfold Oper.wp execOp
    simp only [ho, resolve, invoke, builtin, Sem.run_bind, Sem.run_pure, Result.andThen_ok, List.map_toArray, List.map_cons, List.map_nil, hs, hx, hrun]
    exact hK _ _ (h v w (by simpa using hown) (World.grownBy.refl w _))
  | some ad =>
    refine wpList_appN w hgd s x t ho base e i z size bytes ht hi hz hsize hby hzs hpos v n xs hs hown ad m c news hx hsl.1 (fun j u hu => ?_) h1 h63 hbytes hbase (fun v' w' a1 a2 _ => h v' w' a1 a2)
    obtain ⟨b, o', e', _, hc⟩ := hsl.2 j u hu
    injection e' with e'
    subst e'
    rw [add_none]
    exact hc
end
theorem own_emptyZ (w : World) (e : TypeId) (size : Nat) : (w.alloc (.cells #[] e)).ownsRow w.heap.size e size (.slice (some ⟨w.heap.size, 0, none⟩) 0 0) 0 [] :=
  ⟨by simp, .inr ⟨w.heap.size, 0, #[], rfl, Nat.le_refl _, heap_alloc_new w _, Nat.le_refl _, Nat.zero_le _, by simp, by simp⟩⟩
theorem SlN.dropZ {w : World} {b o n size : Nat} {xs : List Value} (h : SlN w (some ⟨b, o, none⟩) n size xs) (k : Nat) (hk : k ≤ n) : SlN w (some ⟨b, o + k * size, none⟩) (n - k) size (xs.drop (k * size)) :=
  ⟨by rw [List.length_drop, h.1, Nat.sub_mul], fun j u hu => by
    rw [List.getElem?_drop] at hu
    obtain ⟨b', o', hA, hb, hc⟩ := h.2 _ u hu
    injection hA with hA
    injection hA with h1 h2
    subst h1 h2
    exact ⟨_, _, rfl, hb, by rw [Nat.add_assoc]; exact hc⟩⟩
def kindH : F → Int
  | .nil => 0
  | .cons k _ _ _ _ _ _ => k
theorem joinF_step (k : Int) (t n s : By) (ca pa : F) (k1 : Int) (t1 n1 s1 : By) (c1 p1 r1 g : F) : joinF (.cons k t n s ca pa (.cons k1 t1 n1 s1 c1 p1 r1)) g = .cons k t n s ca pa (joinF (.cons k1 t1 n1 s1 c1 p1 r1) g) := by
  rw [joinF]
  intro e
  cases e
theorem joinF_no : ∀ (f g : F), (f.len = 0 ∨ g.len = 0 ∨ kindH (fdrop f (f.len - 1)) ≠ 1 ∨ kindH g ≠ 1) → joinF f g = f.app g
  | .nil, g, _ => rfl
  | .cons k t n s ca pa .nil, .nil, _ => rfl
  | .cons k t n s ca pa .nil, .cons k2 t2 n2 s2 ca2 pa2 r2, h => by
    rw [joinF]
    have hne : ¬ (k = 1 ∧ k2 = 1) := by
      rintro ⟨rfl, rfl⟩
      rcases h with h | h | h | h
      · rw [F.len] at h; omega
      · rw [F.len] at h; omega
      · exact h rfl
      · exact h rfl
    rw [if_neg hne]
    rfl
  | .cons k t n s ca pa (.cons k1 t1 n1 s1 c1 p1 r1), g, h => by
    have ih := joinF_no (.cons k1 t1 n1 s1 c1 p1 r1) g (by
      rcases h with h | h | h | h
      · rw [F.len] at h; omega
      · exact .inr (.inl h)
      · refine .inr (.inr (.inl ?_))
        rw [show (F.cons k t n s ca pa (.cons k1 t1 n1 s1 c1 p1 r1)).len - 1 = (F.cons k1 t1 n1 s1 c1 p1 r1).len - 1 + 1 from by rw [F.len, F.len]; omega, fdrop] at h
        exact h
      · exact .inr (.inr (.inr h)))
    rw [joinF_step, ih]
    rfl
theorem Fw_join {w : World} {ok : Nat → Prop} {t2 n2 s2 : By} {c2 p2 r2 : F} {qs : List Value} (hg : Fw w ok (.cons 1 t2 n2 s2 c2 p2 r2) qs) : ∀ (f : F) (ps : List Value) (t n s : By) (ca pa : F), fdrop f (f.len - 1) = .cons 1 t n s ca pa .nil → 0 < f.len → Fw w ok f ps →
    Fw w ok (joinF f (.cons 1 t2 n2 s2 c2 p2 r2)) (ps.set ((f.len - 1) * 6 + 1) (.string ⟨(t ++ t2).toArray⟩) ++ qs.drop 6)
  | .nil, _, _, _, _, _, _, _, h, _ => absurd h (Nat.not_lt_zero _)
  | .cons k t0 n0 s0 ca0 pa0 .nil, ps, t, n, s, ca, pa, he, _, hf => by
    rw [show (F.cons k t0 n0 s0 ca0 pa0 .nil).len - 1 = 0 from rfl] at he ⊢
    rw [fdrop_zero] at he
    injection he with e1 e2 e3 e4 e5 e6 _
    subst e1 e2 e3 e4 e5 e6
    rw [joinF, if_pos ⟨rfl, rfl⟩]
    rw [Fw] at hf hg
    obtain ⟨Ac, cc, Ap, cp, ds, us, rs, rfl, h1, h2, h3⟩ := hf
    obtain ⟨Ac2, cc2, Ap2, cp2, ds2, us2, rs2, rfl, g1, g2, g3⟩ := hg
    rw [Fw] at h3
    subst h3
    rw [Fw]
    exact ⟨Ac, cc, Ap, cp, ds, us, rs2, by simp, h1, h2, g3⟩
  | .cons k t0 n0 s0 ca0 pa0 (.cons k1 t1 n1 s1 c1 p1 r1), ps, t, n, s, ca, pa, he, _, hf => by
    have hl : (F.cons k t0 n0 s0 ca0 pa0 (.cons k1 t1 n1 s1 c1 p1 r1)).len - 1 = (F.cons k1 t1 n1 s1 c1 p1 r1).len - 1 + 1 := by rw [F.len, F.len]; omega
    rw [hl] at he ⊢
    rw [fdrop] at he
    rw [Fw] at hf
    obtain ⟨Ac, cc, Ap, cp, ds, us, rs, rfl, h1, h2, h3⟩ := hf
    have ih := Fw_join hg (.cons k1 t1 n1 s1 c1 p1 r1) rs t n s ca pa he (by rw [F.len]; omega) h3
    rw [joinF_step, Fw]
    refine ⟨Ac, cc, Ap, cp, ds, us, _, ?_, h1, h2, ih⟩
    rw [show ((F.cons k1 t1 n1 s1 c1 p1 r1).len - 1 + 1) * 6 + 1 = 6 + ((F.cons k1 t1 n1 s1 c1 p1 r1).len - 1) * 6 + 1 from by omega]
    simp [Nat.add_assoc, Nat.add_comm 6]
theorem Fw_cell {w : World} {ok : Nat → Prop} : ∀ (f : F) (ps : List Value), Fw w ok f ps → ∀ u ∈ ps, u.oneCell' = true
  | .nil, ps, h, u, hu => by rw [Fw] at h; subst h; cases hu
  | .cons k t n s ca pa r, ps, h, u, hu => by
    rw [Fw] at h
    obtain ⟨Ac, cc, Ap, cp, ds, us, rs, rfl, _, _, h3⟩ := h
    rcases List.mem_append.1 hu with hu | hu
    · simp at hu
      rcases hu with rfl | rfl | rfl | rfl | rfl | rfl <;> rfl
    · exact Fw_cell r rs h3 u hu
theorem joinF_len_yes {t2 n2 s2 : By} {c2 p2 r2 : F} : ∀ (f : F) (t n s : By) (ca pa : F), fdrop f (f.len - 1) = .cons 1 t n s ca pa .nil → 0 < f.len → (joinF f (.cons 1 t2 n2 s2 c2 p2 r2)).len = f.len + r2.len
  | .nil, _, _, _, _, _, _, h => absurd h (Nat.not_lt_zero _)
  | .cons k t0 n0 s0 ca0 pa0 .nil, t, n, s, ca, pa, he, _ => by
    rw [show (F.cons k t0 n0 s0 ca0 pa0 .nil).len - 1 = 0 from rfl, fdrop_zero] at he
    injection he with e1 e2 e3 e4 e5 e6 _
    subst e1 e2 e3 e4 e5 e6
    rw [joinF, if_pos ⟨rfl, rfl⟩, F.len, F.len, F.len]
    omega
  | .cons k t0 n0 s0 ca0 pa0 (.cons k1 t1 n1 s1 c1 p1 r1), t, n, s, ca, pa, he, _ => by
    have hl : (F.cons k t0 n0 s0 ca0 pa0 (.cons k1 t1 n1 s1 c1 p1 r1)).len - 1 = (F.cons k1 t1 n1 s1 c1 p1 r1).len - 1 + 1 := by rw [F.len, F.len]; omega
    rw [hl, fdrop] at he
    have ih := joinF_len_yes (t2 := t2) (n2 := n2) (s2 := s2) (c2 := c2) (p2 := p2) (r2 := r2) (.cons k1 t1 n1 s1 c1 p1 r1) t n s ca pa he (by rw [F.len]; omega)
    rw [joinF_step, F.len, ih]
    simp only [F.len]
    omega
end Go.Proofs.YtklobkpepbokkaaDoor
namespace Go.Proofs.YtklobkpepbokkaaDoor
open Go.RowKit
set_option linter.unusedSimpArgs false
set_option linter.unusedVariables false

/-! Join, by the reference. -/
theorem Fw.extZ {w w' : World} {ok : Nat → Prop} {f : F} {cs : List Value} (h : Fw w ok f cs) (hw : Ext w w') : Fw w' ok f cs := (FCw_exc (Exc.of_ext (S := fun _ => False) hw) (fun _ _ h => h) (fun _ h => h) f).1 _ h
theorem app_ba (a b : By) : ((⟨a.toArray⟩ : ByteArray) ++ ⟨b.toArray⟩) = ⟨(a ++ b).toArray⟩ := by
  apply ByteArray.ext
  simp
def RetJ (w : World) (h : F) (e : Ending) (w' : World) : Prop := ∃ A c, e = .returned (.slice A h.len c) ∧ FwS w' (fun _ => True) h (.slice A h.len c) ∧ Ext w w'
theorem FwS.anyZ {w : World} {ok : Nat → Prop} {f : F} {v : Value} (h : FwS w ok f v) : FwS w (fun _ => True) f v := h.exc (Exc.refl (fun _ => False) w) (fun _ _ h => h) (fun _ _ => trivial)
theorem last_nil : ∀ (f : F), 0 < f.len → ∃ k t n s ca pa, fdrop f (f.len - 1) = .cons k t n s ca pa .nil
  | f, h => by
    obtain ⟨k, t, n, s, ca, pa, e⟩ := fdrop_cons f (f.len - 1) (by omega)
    rw [fdrop_end f (f.len - 1 + 1) (by omega)] at e
    exact ⟨k, t, n, s, ca, pa, e⟩
set_option maxHeartbeats 8000000 in
set_option maxRecDepth 100000 in
theorem rjoin_any {f g : F} {v : Value} {B : Option Addr} {cb : Nat} {ok : Nat → Prop} {w : World} (hf0 : FwS w ok f v) (hg0 : FwS w ok g (.slice B g.len cb)) (hcb : g.len ≤ cb) (hlf : f.len ≤ 100000000) (hlg : g.len ≤ 100000000) (hwf : wt f ≤ 40000000) (hwg : wt g ≤ 40000000) :
    Calls Tryd.prog 10 #[v, .slice B g.len cb] w (RetJ w (joinF f g)) := by
  obtain ⟨i0, hi, hz0, hz1, hz2⟩ := info_parts (show (Tryd.prog.info? 43).map (fun i => (i.zero, i.size, i.bytes)) = some (some (.agg #[.int .i64 0, .string ⟨#[]⟩, .string ⟨#[]⟩, .string ⟨#[]⟩, .slice none 0 0, .slice none 0 0]), 6, 104) from by kernel_rfl)
  have hfa := hf0.anyZ
  have hga := hg0.anyZ
  have HFA := Lib.hid hfa
  have HGA := Lib.hid hga
  obtain ⟨A, ca, ps, rfl, hs1, _, hp1⟩ := hfa
  obtain ⟨B', cb', qs, eb, hs2, _, hp2⟩ := hga
  injection eb with eb1 _ eb3
  subst eb1 eb3
  have HCB := Lib.hid hcb
  clear hcb
  have HS1 := Lib.hid hs1
  have HS2 := Lib.hid hs2
  have HP1 := Lib.hid hp1
  have HP2 := Lib.hid hp2
  have HC1 := Lib.hid (Fw_cell f ps hp1)
  have HC2 := Lib.hid (Fw_cell g qs hp2)
  have HX0 := Lib.hid ((Ext.refl w).alloc (.cells #[] 43))
  have HEM := Lib.hid (own_emptyZ w 43 6)
  have tk1 : True := trivial
  clear hf0 hg0 hs1 hs2 hp1 hp2
  by_cases h1 : f.len = 0
  · have HJ := Lib.hid (show joinF f g = f.app g from joinF_no f g (.inl h1))
    have h1I : ¬ (0 : Int) < (f.len : Int) := by omega
    clear h1 HFA HGA
    go_enter Tryd.func10, Tryd.ntmps10
    go_wp2_with (first | (have _t := tk1; at_builtin; refine wpList_appSz _ rfl _ _ 23 rfl w.heap.size 43 i0 _ 6 104 Tryd.underlying23 hi hz0 hz1 hz2 rfl (by decide) _ 0 [] rfl HEM.out _ _ _ ps rfl (HS1.out.ext HX0.out) HC1.out (by unfold maxLen; omega) (by omega) (by simp) ?_; intro v4 w4 hown hgr; rw [Nat.zero_add, List.nil_append] at hown; have HO4 := Lib.hid hown; have HX4 := Lib.hid (ext_grown (a := w) HX0.out HEM.out (Nat.le_refl _) hgr); clear hown hgr tk1) | (at_builtin; refine wpList_appSz _ rfl _ _ 23 rfl w.heap.size 43 i0 _ 6 104 Tryd.underlying23 hi hz0 hz1 hz2 rfl (by decide) _ f.len ps rfl HO4.out _ _ _ qs rfl (HS2.out.ext HX4.out) HC2.out (by unfold maxLen; omega) (by omega) (Ext.size HX4.out) ?_; intro v5 w5 hown5 hgr5; have HO5 := Lib.hid hown5; have HX5 := Lib.hid (ext_grown (a := w) HX4.out HO4.out (Nat.le_refl _) hgr5); clear hown5 hgr5))
    have h5 := HO5.out
    rw [show f.len + g.len = (f.app g).len from (F.len_app f g).symm] at h5
    have hfw := FwS_own h5 (((FCw_app w5 (fun _ => True) g f).1 ps qs (HP1.out.extZ HX5.out) (HP2.out.extZ HX5.out))) (fun _ _ => trivial)
    obtain ⟨A5, c5, hv5, _⟩ := own_slN h5
    subst hv5
    have HFW := Lib.hid hfw
    clear h5 hfw
    go_ret
    rw [HJ.out]
    exact ⟨A5, c5, rfl, HFW.out, HX5.out⟩
  have h1I : (0 : Int) < (f.len : Int) := by omega
  have H1 := Lib.hid h1
  by_cases h2 : g.len = 0
  · have HJ := Lib.hid (show joinF f g = f.app g from joinF_no f g (.inr (.inl h2)))
    have h2I : ¬ (0 : Int) < (g.len : Int) := by omega
    clear h2 HFA HGA
    go_enter Tryd.func10, Tryd.ntmps10
    go_wp2_with (first | (have _t := tk1; at_builtin; refine wpList_appSz _ rfl _ _ 23 rfl w.heap.size 43 i0 _ 6 104 Tryd.underlying23 hi hz0 hz1 hz2 rfl (by decide) _ 0 [] rfl HEM.out _ _ _ ps rfl (HS1.out.ext HX0.out) HC1.out (by unfold maxLen; omega) (by omega) (by simp) ?_; intro v4 w4 hown hgr; rw [Nat.zero_add, List.nil_append] at hown; have HO4 := Lib.hid hown; have HX4 := Lib.hid (ext_grown (a := w) HX0.out HEM.out (Nat.le_refl _) hgr); clear hown hgr tk1) | (at_builtin; refine wpList_appSz _ rfl _ _ 23 rfl w.heap.size 43 i0 _ 6 104 Tryd.underlying23 hi hz0 hz1 hz2 rfl (by decide) _ f.len ps rfl HO4.out _ _ _ qs rfl (HS2.out.ext HX4.out) HC2.out (by unfold maxLen; omega) (by omega) (Ext.size HX4.out) ?_; intro v5 w5 hown5 hgr5; have HO5 := Lib.hid hown5; have HX5 := Lib.hid (ext_grown (a := w) HX4.out HO4.out (Nat.le_refl _) hgr5); clear hown5 hgr5))
    have h5 := HO5.out
    rw [show f.len + g.len = (f.app g).len from (F.len_app f g).symm] at h5
    have hfw := FwS_own h5 (((FCw_app w5 (fun _ => True) g f).1 ps qs (HP1.out.extZ HX5.out) (HP2.out.extZ HX5.out))) (fun _ _ => trivial)
    obtain ⟨A5, c5, hv5, _⟩ := own_slN h5
    subst hv5
    have HFW := Lib.hid hfw
    clear h5 hfw
    go_ret
    rw [HJ.out]
    exact ⟨A5, c5, rfl, HFW.out, HX5.out⟩
  have h2I : (0 : Int) < (g.len : Int) := by omega
  have H2 := Lib.hid h2
  obtain ⟨n1, hn1⟩ : ∃ n1, n1 = f.len - 1 := ⟨_, rfl⟩
  have hI : (f.len : Int) - 1 = (n1 : Int) := by omega
  have hI2 : (n1 : Int) < (f.len : Int) := by omega
  have hfl1 : n1 < f.len := by omega
  have HN1 := Lib.hid hn1
  obtain ⟨b, o, cc0, k, t, n, s, fa, pa, Ac, cc, Ap, cp, hv, hbw, _, hdr, c0, c1, _, _, _, _, _, _⟩ := HFA.out.at_ hfl1
  injection hv with hA _ hcc
  subst hA hcc
  obtain ⟨b2, o2, cc02, k2, t2, n2, s2, fa2, pa2, Ac2, cc2, Ap2, cp2, hv2, hbw2, _, hdr2, d0, d1, _, _, _, _, _, _⟩ := HGA.out.at_ (i := 0) (by omega)
  injection hv2 with hA2 _ hcc2
  subst hA2 hcc2
  rw [Nat.zero_mul, Nat.add_zero] at d0 d1
  have hk1 : kindH (fdrop f (f.len - 1)) = k := by rw [← hn1, hdr]; rfl
  have hk2 : kindH g = k2 := by rw [← fdrop_zero g, hdr2]; rfl
  clear h1 h2
  by_cases h3 : k = 1
  rotate_left
  · have HJ := Lib.hid (show joinF f g = f.app g from joinF_no f g (.inr (.inr (.inl (by rw [hk1]; exact h3)))))
    have h3b : (k == 1) = false := by rw [beq_eq_false_iff_ne]; exact h3
    clear h3 hk1 hk2 hdr hdr2 hn1 HFA HGA
    go_enter Tryd.func10, Tryd.ntmps10
    go_wp2_with (first | (have _t := tk1; at_builtin; refine wpList_appSz _ rfl _ _ 23 rfl w.heap.size 43 i0 _ 6 104 Tryd.underlying23 hi hz0 hz1 hz2 rfl (by decide) _ 0 [] rfl HEM.out _ _ _ ps rfl (HS1.out.ext HX0.out) HC1.out (by unfold maxLen; omega) (by omega) (by simp) ?_; intro v4 w4 hown hgr; rw [Nat.zero_add, List.nil_append] at hown; have HO4 := Lib.hid hown; have HX4 := Lib.hid (ext_grown (a := w) HX0.out HEM.out (Nat.le_refl _) hgr); have e0 := (Ext.cell HX4.out (World.block_lt_of_cell? _ _ c0)).trans c0; clear hown hgr tk1) | (at_builtin; refine wpList_appSz _ rfl _ _ 23 rfl w.heap.size 43 i0 _ 6 104 Tryd.underlying23 hi hz0 hz1 hz2 rfl (by decide) _ f.len ps rfl HO4.out _ _ _ qs rfl (HS2.out.ext HX4.out) HC2.out (by unfold maxLen; omega) (by omega) (Ext.size HX4.out) ?_; intro v5 w5 hown5 hgr5; have HO5 := Lib.hid hown5; have HX5 := Lib.hid (ext_grown (a := w) HX4.out HO4.out (Nat.le_refl _) hgr5); clear hown5 hgr5))
    have h5 := HO5.out
    rw [show f.len + g.len = (f.app g).len from (F.len_app f g).symm] at h5
    have hfw := FwS_own h5 (((FCw_app w5 (fun _ => True) g f).1 ps qs (HP1.out.extZ HX5.out) (HP2.out.extZ HX5.out))) (fun _ _ => trivial)
    obtain ⟨A5, c5, hv5, _⟩ := own_slN h5
    subst hv5
    have HFW := Lib.hid hfw
    clear h5 hfw
    go_ret
    rw [HJ.out]
    exact ⟨A5, c5, rfl, HFW.out, HX5.out⟩
  by_cases h4 : k2 = 1
  rotate_left
  · have HJ := Lib.hid (show joinF f g = f.app g from joinF_no f g (.inr (.inr (.inr (by rw [hk2]; exact h4)))))
    have h3b : (k == 1) = true := by rw [beq_iff_eq]; exact h3
    have h4b : (k2 == 1) = false := by rw [beq_eq_false_iff_ne]; exact h4
    clear h3 h4 hk1 hk2 hdr hdr2 hn1 HFA HGA
    go_enter Tryd.func10, Tryd.ntmps10
    go_wp2_with (first | (have _t := tk1; at_builtin; refine wpList_appSz _ rfl _ _ 23 rfl w.heap.size 43 i0 _ 6 104 Tryd.underlying23 hi hz0 hz1 hz2 rfl (by decide) _ 0 [] rfl HEM.out _ _ _ ps rfl (HS1.out.ext HX0.out) HC1.out (by unfold maxLen; omega) (by omega) (by simp) ?_; intro v4 w4 hown hgr; rw [Nat.zero_add, List.nil_append] at hown; have HO4 := Lib.hid hown; have HX4 := Lib.hid (ext_grown (a := w) HX0.out HEM.out (Nat.le_refl _) hgr); have e0 := (Ext.cell HX4.out (World.block_lt_of_cell? _ _ c0)).trans c0; have g0 := (Ext.cell HX4.out (World.block_lt_of_cell? _ _ d0)).trans d0; clear hown hgr tk1) | (at_builtin; refine wpList_appSz _ rfl _ _ 23 rfl w.heap.size 43 i0 _ 6 104 Tryd.underlying23 hi hz0 hz1 hz2 rfl (by decide) _ f.len ps rfl HO4.out _ _ _ qs rfl (HS2.out.ext HX4.out) HC2.out (by unfold maxLen; omega) (by omega) (Ext.size HX4.out) ?_; intro v5 w5 hown5 hgr5; have HO5 := Lib.hid hown5; have HX5 := Lib.hid (ext_grown (a := w) HX4.out HO4.out (Nat.le_refl _) hgr5); clear hown5 hgr5))
    have h5 := HO5.out
    rw [show f.len + g.len = (f.app g).len from (F.len_app f g).symm] at h5
    have hfw := FwS_own h5 (((FCw_app w5 (fun _ => True) g f).1 ps qs (HP1.out.extZ HX5.out) (HP2.out.extZ HX5.out))) (fun _ _ => trivial)
    obtain ⟨A5, c5, hv5, _⟩ := own_slN h5
    subst hv5
    have HFW := Lib.hid hfw
    clear h5 hfw
    go_ret
    rw [HJ.out]
    exact ⟨A5, c5, rfl, HFW.out, HX5.out⟩
  subst h3
  subst h4
  obtain ⟨kx, tx, nx, sx, cx, px, hlast⟩ := last_nil f (by have := H1.out; omega)
  have hd2 := hdr
  rw [hn1, hlast] at hd2
  injection hd2 with q1 q2 q3 q4 q5 q6 q7
  subst q1 q2 q3 q4 q5 q6
  rw [fdrop_zero] at hdr2
  have HLAST := Lib.hid hlast
  have HDR2 := Lib.hid hdr2
  have htl : tx.length ≤ 20000000 := by have h := wt_drop f (f.len - 1) hlast; omega
  have htl2 : t2.length ≤ 20000000 := by have h := wt_drop g 0 (by rw [fdrop_zero]; exact hdr2); omega
  clear hk1 hk2 hdr hdr2 hn1 HFA HGA hlast q7
  go_enter Tryd.func10, Tryd.ntmps10
  go_wp2_with (first | (have _t := tk1; at_builtin; refine wpList_appSz _ rfl _ _ 23 rfl w.heap.size 43 i0 _ 6 104 Tryd.underlying23 hi hz0 hz1 hz2 rfl (by decide) _ 0 [] rfl HEM.out _ _ _ ps rfl (HS1.out.ext HX0.out) HC1.out (by unfold maxLen; omega) (by omega) (by simp) ?_; intro v4 w4 hown hgr; rw [Nat.zero_add, List.nil_append] at hown; have HO4 := Lib.hid hown; have HX4 := Lib.hid (ext_grown (a := w) HX0.out HEM.out (Nat.le_refl _) hgr); have e0 := (Ext.cell HX4.out (World.block_lt_of_cell? _ _ c0)).trans c0; have g0 := (Ext.cell HX4.out (World.block_lt_of_cell? _ _ d0)).trans d0; have e1 := (Ext.cell HX4.out (World.block_lt_of_cell? _ _ c1)).trans c1; have g1 := (Ext.cell HX4.out (World.block_lt_of_cell? _ _ d1)).trans d1; clear hown hgr tk1))
  obtain ⟨g4, cap4, hv4⟩ : ∃ g4 cap4, v4 = .slice (some ⟨g4, 0, none⟩) f.len cap4 := by
    rcases HO4.out.2 with ⟨_, h0⟩ | ⟨g4, cap4, _, hv, _⟩
    · exact absurd h0 H1.out
    · exact ⟨g4, cap4, hv⟩
  subst hv4
  obtain ⟨A4, c4, hq4, hsl4⟩ := own_slN HO4.out
  injection hq4 with hq4 _ hc4
  subst hq4 hc4
  obtain ⟨u, hu⟩ : ∃ u, ps[n1 * 6 + 1]? = some u := ⟨_, List.getElem?_eq_getElem (by rw [HS1.out.1]; omega)⟩
  obtain ⟨b', o', e', _, hcu⟩ := HS1.out.2 _ _ hu
  injection e' with e'
  injection e' with e1' e2'
  subst e1' e2'
  rw [← Nat.add_assoc, c1] at hcu
  injection hcu with hcu
  subst hcu
  obtain ⟨b', o', e', _, hcw⟩ := hsl4.2 _ _ hu
  injection e' with e'
  injection e' with e1' e2'
  subst e1' e2'
  rw [Nat.zero_add] at hcw
  have hfz : w4.frozen? ⟨g4, n1 * 6 + 1, none⟩ = false := HO4.out.frozenAt _
  clear hu e1
  have hst := (HO4.out.stored (n1 * 6 + 1) (.string ((⟨tx.toArray⟩ : ByteArray) ++ ⟨t2.toArray⟩))).1.drew
  have hx5 : Ext w (w4.setCell ⟨g4, n1 * 6 + 1, none⟩ (.string ((⟨tx.toArray⟩ : ByteArray) ++ ⟨t2.toArray⟩))).drew := (HX4.out.setCell (p := ⟨g4, n1 * 6 + 1, none⟩) (HO4.out.lt g4 rfl).1 _).drew
  have HO5 := Lib.hid hst
  have HX5 := Lib.hid hx5
  clear hst hx5
  go_region
  generalize (w4.setCell ⟨g4, n1 * 6 + 1, none⟩ (.string ((⟨tx.toArray⟩ : ByteArray) ++ ⟨t2.toArray⟩))).drew = W5 at *
  have hl1 : (1 : Int) ≤ (g.len : Int) := by omega
  obtain ⟨Ad, hAd, hsd⟩ : ∃ Ad, Ad = (if cb = 1 then some (⟨b2, o2, none⟩ : Addr) else some ⟨b2, o2 + 6, none⟩) ∧ SlN W5 Ad (g.len - 1) 6 (qs.drop 6) := by
    refine ⟨_, rfl, ?_⟩
    by_cases hc1 : cb = 1
    · rw [if_pos hc1]
      have hg1 : g.len = 1 := by have := HCB.out; have := H2.out; omega
      have hq := HS2.out.1
      rw [hg1] at hq ⊢
      rw [List.drop_eq_nil_of_le (by omega)]
      exact SlN.nil _ _ _
    · rw [if_neg hc1]
      exact (HS2.out.dropZ 1 (by have := H2.out; omega)).ext HX5.out
  have HSD := Lib.hid hsd
  have hAd2 : (if cb = 1 then some (⟨b2, o2, none⟩ : Addr) else some ⟨b2, o2 + 6, none⟩) = Ad := hAd.symm
  clear hAd hsd hcw hfz
  have HCD := Lib.hid (fun u (hu : u ∈ qs.drop 6) => HC2.out u (List.mem_of_mem_drop hu))
  have HCS := Lib.hid (show (⟨tx.toArray⟩ : ByteArray) ++ ⟨t2.toArray⟩ = ⟨(tx ++ t2).toArray⟩ from app_ba tx t2)
  go_wp2_with (at_builtin; refine wpList_appSz _ rfl _ _ 23 rfl w.heap.size 43 i0 _ 6 104 Tryd.underlying23 hi hz0 hz1 hz2 rfl (by decide) _ f.len _ rfl HO5.out Ad (g.len - 1) _ (qs.drop 6) rfl HSD.out HCD.out (by unfold maxLen; omega) (by omega) (Ext.size HX5.out) ?_; intro v6 w6 hown6 hgr6; have HO6 := Lib.hid hown6; have HX6 := Lib.hid (ext_grown (a := w) HX5.out HO5.out (Nat.le_refl _) hgr6); clear hown6 hgr6)
  have h6 := HO6.out
  rw [HCS.out] at h6
  have hg2 : g = .cons 1 t2 n2 s2 fa2 pa2 (fdrop g (0 + 1)) := HDR2.out
  have hlen : f.len + (g.len - 1) = (joinF f g).len := by
    have h : (joinF f g).len = f.len + (fdrop g (0 + 1)).len := by
      rw [show joinF f g = joinF f (.cons 1 t2 n2 s2 fa2 pa2 (fdrop g (0 + 1))) from congrArg (joinF f) hg2]
      exact joinF_len_yes f tx nx sx cx px HLAST.out (by have := H1.out; omega)
    rw [h, fdrop_len]
  rw [hlen] at h6
  have hfj : Fw w6 (fun _ => True) (joinF f g) (ps.set (n1 * 6 + 1) (.string ⟨(tx ++ t2).toArray⟩) ++ qs.drop 6) := by
    have h := Fw_join (w := w6) (ok := fun _ => True) (t2 := t2) (n2 := n2) (s2 := s2) (c2 := fa2) (p2 := pa2) (r2 := fdrop g (0 + 1)) (qs := qs) (by rw [← hg2]; exact HP2.out.extZ HX6.out) f ps tx nx sx cx px HLAST.out (by have := H1.out; omega) (HP1.out.extZ HX6.out)
    rw [← hg2, ← HN1.out] at h
    exact h
  have hfw := FwS_own h6 hfj (fun _ _ => trivial)
  obtain ⟨A6, c6, hv6, _⟩ := own_slN h6
  subst hv6
  have HFW := Lib.hid hfw
  clear h6 hfw hfj hlen hg2
  go_ret
  exact ⟨A6, c6, rfl, HFW.out, HX6.out⟩
end Go.Proofs.YtklobkpepbokkaaDoor
