import Derived.Test.YtpfmojeigjmlfaaGreatDoorNQ1
import Derived.BigQuiet
import Derived.Test.YtpfmojeigjmlfaaGreatDoorNQ2
set_option maxRecDepth 100000
set_option linter.unusedSimpArgs false
set_option linter.unusedVariables false
open Go.Lib (hid)
namespace Go.Proofs.YtpfmojeigjmlfaaGreatDoor
open Go.RowKit
theorem takeS_ok {k : Nat} {t : Tok} {r : List Tok} {ns : List By} (hk : t.k = k) : takeS k (.ok ⟨t :: r, ns⟩) = ⟨t.t.toArray⟩ := by show (if t.k = k then (⟨t.t.toArray⟩ : ByteArray) else ⟨#[]⟩) = _; rw [if_pos hk]
theorem takeX_ok {E k : Nat} {t : Tok} {r : List Tok} {ns : List By} (hk : t.k = k) : (Except.ok ⟨t :: r, ns⟩ : Except Err St).bind (takeX E k) = .ok ⟨r, ns⟩ := by
 show Except.map _ (if t.k = k then .ok (t.t, r) else .error (3, t.a)) = _
 rw [if_pos hk]
 rfl
theorem row_keepQ {g tb E B : Nat} {nb : Option Nat} {w w' : World} {X : Except Err St} {v : Value} {m : Nat} {xs : List Value} (hO : RqO g tb nb E w X) (hv : w.ownsRow B 50 6 v m xs) (hg : g < B) (h3 : Exc (qB g nb) w w') : w'.ownsRow B 50 6 v m xs :=
 own_excQ hv h3 (fun k hk hq => by
  rcases hq with hq | hq
  ·have := (hv.lt k hk).1; omega
  ·exact hO.row_ne hv (by decide) k hq.symm hk)
theorem elm_fin {E d : Nat} {c : Bool} {T T8 : Tok} {r : List Tok} {ns : List By} {sq : ByteArray} {Y Z : Except Err (F × St)} (hsq : (∃ y, Y = .ok y) → sq = ⟨T.t.toArray⟩)
 (hbad : (∀ u q yn f, Y = .ok (f, ⟨u :: q, yn⟩) → ¬ (u.k = 6 ∧ u.t = T.t)) → ∃ e, elmP E d c ⟨T :: r, ns⟩ = .error e ∧ ((Y.map (·.2)).bind fun st => .error (3, plE E st.left)).bind (takeX E 6) = .error e)
 (hgood : ∀ u q yn ff, Y = .ok (ff, ⟨u :: q, yn⟩) → (u.k = 6 ∧ u.t = sq.data.toList) → elmP E d c ⟨T :: r, ns⟩ = .ok (.one 11 [] T.t [] .nil ff, ⟨q, yn⟩) ∧ (Y.map (·.2)).bind (takeX E 6) = .ok ⟨q, yn⟩ ∧ sq = ⟨T.t.toArray⟩)
 (hz : HashR Y Z) (hT8 : ∀ st, Z.map (·.2) = .ok st → T8 = hdT E st.left) :
 ((¬ (T8.k = 6 ∧ T8.t ≠ sq.data.toList) → (Z.map (·.2)).bind (takeX E 6) = (elmP E d c ⟨T :: r, ns⟩).map (·.2)) ∧ ((T8.k = 6 ∧ T8.t ≠ sq.data.toList) → ((Z.map (·.2)).bind fun st => .error (3, plE E st.left)).bind (takeX E 6) = (elmP E d c ⟨T :: r, ns⟩).map (·.2))) ∧
 (∀ gp st, elmP E d c ⟨T :: r, ns⟩ = .ok (gp, st) → ∃ ff st', Z = .ok (ff, st') ∧ gp = .one 11 [] T.t [] .nil ff ∧ sq = ⟨T.t.toArray⟩) := by
 by_cases hg : ∃ u q yn ff, Y = .ok (ff, ⟨u :: q, yn⟩) ∧ (u.k = 6 ∧ u.t = sq.data.toList)
 ·obtain ⟨u, q, yn, ff, hy, hu⟩ := hg
  obtain ⟨g1, g2, g3⟩ := hgood u q yn ff hy hu
  have hZ : Z = Y := by
   rcases hz with h | ⟨_, _, _, _, _, _, h⟩
   ·exact h
   ·rw [hy] at h; cases h
  subst hZ
  have h8 : T8 = u := hT8 ⟨u :: q, yn⟩ (by rw [hy]; rfl)
  rw [g1]
  refine ⟨⟨fun _ => g2, fun h => absurd (by rw [h8]; exact hu.2) h.2⟩, fun gp st h => ?_⟩
  injection h with h
  injection h with h1 h2
  exact ⟨ff, _, hy, h1.symm, g3⟩
 ·obtain ⟨e, b1, b2⟩ := hbad (fun u q yn f hy hu => hg ⟨u, q, yn, f, hy, hu.1, by rw [hsq ⟨_, hy⟩]; exact hu.2⟩)
  rw [b1]
  refine ⟨?_, fun gp st h => (by cases h)⟩
  rcases hz with rfl | ⟨f4, t4, r4, n4, hZ, h4, hY⟩
  ·refine ⟨fun hn => ?_, fun _ => b2⟩
   rcases Z with x | ⟨ff, ⟨_ | ⟨u, q⟩, yn⟩⟩
   ·exact b2
   ·exact b2
   ·have h8 : T8 = u := hT8 ⟨u :: q, yn⟩ rfl
    have hk : ¬ u.k = 6 := fun hk => by
     by_cases ht : u.t = sq.data.toList
     ·exact hg ⟨u, q, yn, ff, rfl, hk, ht⟩
     ·exact hn ⟨by rw [h8]; exact hk, by rw [h8]; exact ht⟩
    have e1 : Except.error e = (Except.error (3, u.a) : Except Err St) := b2.symm
    show Except.map _ (if u.k = 6 then .ok (u.t, q) else .error (3, u.a)) = Except.error e
    rw [if_neg hk, e1]
    rfl
  ·subst hZ hY
   have e1 : Except.error e = (Except.error (3, t4.a) : Except Err St) := b2.symm
   have h8 : T8 = t4 := hT8 ⟨t4 :: r4, n4⟩ rfl
   refine ⟨fun _ => ?_, fun h => absurd h.1 (by rw [h8, h4]; decide)⟩
   show Except.map _ (if t4.k = 6 then .ok (t4.t, r4) else .error (3, t4.a)) = Except.error e
   rw [if_neg (by rw [h4]; decide), e1]
   rfl
def CqE (g tb : Nat) (nb : Option Nat) (E : Nat) (R : Except Err St) (w8 wr : World) : Prop := ∃ nb' X', Exc (qB g nb) w8 wr ∧ RqO g tb nb' E wr X' ∧ (nb' = nb ∨ ∀ k, nb' = some k → w8.heap.size ≤ k) ∧ X'.bind (takeX E 6) = R
set_option maxHeartbeats 16000000 in
theorem rmsg_step (N : Nat) (hM : MsgQ N) (hA : ArgQ N) : MsgQ (N + 1) := by
 intro g tb nb E X0 d c w h htb hX hd
 obtain ⟨i0, hi, hz0, hz1, hz2⟩ := info_parts (show (Tryz.prog.info? 50).map (fun i => (i.zero, i.size, i.bytes)) = some (some (.agg #[.int .i64 0, .string ⟨#[]⟩, .string ⟨#[]⟩, .string ⟨#[]⟩, .slice none 0 0, .slice none 0 0]), 6, 104) from by kernel_rfl)
 have hlx : lenX X0 ≤ 4003 := by
  rcases X0 with e | st
  ·exact Nat.zero_le _
  ·have := h.1.len
   show st.left.length + 1 ≤ 4003
   omega
 have H0 := hid (show MqI w g tb nb E X0 (N + 1) d c (.slice none 0 0) w from
  ⟨X0, .nil, 0, [], nb, (prepF_nil _).symm, h, hX, World.ownsRow_nil _ _ _ _, fun st _ => ⟨rfl, by rw [Fw]⟩, Exc.refl _ _, .inl rfl, by omega⟩)
 have HOLD := hid (show g < w.heap.size ∧ tb < w.heap.size from ⟨h.lt, htb⟩)
 clear h hX hlx htb
 go_enter Tryz.func78, Tryz.ntmps78
 go_wp2_with fail
 go_loopw [7] (MqI w g tb nb E X0 (N + 1) d c) (fun _ wr => mQ g wr)
 case atStart => exact H0.out
 case round =>
  obtain ⟨X, f, m, xs, nb1, hY, hO, hl, hown, hF, hE, hnb, hm⟩ := hrel
  obtain ⟨wo, rfl⟩ : ∃ wo : World, wo = wr := ⟨_, rfl⟩
  rw [mQ_eq hO]
  obtain ⟨A, cc, hout, _⟩ := own_slN hown
  subst hout
  have HY := hid hY
  have HO := hid hO
  have HOW := hid hown
  have HF := hid hF
  have HE := hid hE
  have HNB := hid hnb
  have c40 := hO.cell4
  have HSZ := hid hE.size
  rcases X with x | ⟨left, ns⟩
  ·have b1 : (x.1 == 0) = false := by rw [beq_eq_false_iff_ne]; exact hO.1
   have c4 : wo.cell? ⟨g, 4, none⟩ = some (.int .i64 x.1) := c40
   clear hY hown hF hE hO hl hnb c40
   go_wp2
   go_ret
   obtain ⟨q1, q2⟩ := show X0.bind (msgC E d c) = .error x ∧ True from ⟨HY.out, trivial⟩
   rw [q1]
   exact ⟨.error x, nb1, .inl rfl, ⟨none, 0, 0, rfl, fun f st h => (by cases h)⟩, exc_newQ HE.out, HO.out, HNB.out⟩
  have c4 : wo.cell? ⟨g, 4, none⟩ = some (.int .i64 0) := c40
  clear c40
  obtain ⟨hbb, hfew, a0, hwq⟩ := hO
  have hbb : RqB E left ns := hbb
  have hwq : RqW g tb nb1 E wo left ns a0 0 := hwq
  have K1 := hid (rpeek_any hwq hbb.len hbb.e4)
  obtain ⟨T, hT⟩ : ∃ T, T = hdT E left := ⟨_, rfl⟩
  rw [← hT] at K1
  unfold tokV at K1
  have HTK := hid (show T.k = kindL left from by rw [hT, hdT_k])
  have HTT := hid hT
  have HBB := hid hbb
  have HLL := hid (hl _ rfl)
  have HMM := hid hm
  have HLT := hid hwq.lt
  clear hY hown hF hE hnb hbb hfew hwq hT hl hm
  go_upto_region 5 with (first | (go_at_call 114; (with_reducible refine K1.out.mono ?_); rintro e w2 ⟨rfl, hx2⟩; have HX2 := hid hx2; clear hx2))
  obtain ⟨w3, hw3⟩ : ∃ w3, w3 = w2.alloc (.cells #[.int .i64 T.k, .string ⟨T.t.toArray⟩, .int .i64 T.a, .int .i64 T.b] 137) := ⟨_, rfl⟩
  rw [← hw3]
  have HX3 := hid (show Ext wo w3 from by rw [hw3]; exact HX2.out.alloc _)
  have HBX := hid (show AtC 137 w3 w2.heap.size #[.int .i64 T.k, .string ⟨T.t.toArray⟩, .int .i64 T.a, .int .i64 T.b] from by rw [hw3]; exact AtC.new w2 _)
  have HBG := hid (show ¬ qB g nb1 w2.heap.size from fun h => by
   have h1 := HLT.out
   have h2 := HX2.out.size
   rcases h with h | h
   ·omega
   ·have := HO.out.nlt _ h.symm
    omega)
  have x0 := HBX.out.cell 0 _ rfl
  clear hw3
  cases hgo : (begB T.k && !(T.k == 4 && !c))
  ·have HS := hid (show ∀ st, (Except.ok ⟨left, ns⟩ : Except Err St) = .ok st → HashR (msgC E d c st) (.ok (.nil, st)) from fun st h => by
    injection h with h
    subst h
    rcases left with _ | ⟨t, r⟩
    ·exact .inl (msgC_nil _ _ _ _).symm
    ·obtain rfl : T = t := HTT.out
     cases hbg : begB T.k
     ·exact .inl (msgC_stopB hbg).symm
     ·rw [hbg] at hgo
      have h4 : T.k = 4 ∧ c = false := by simpa using hgo
      refine .inr ⟨.nil, T, r, ns, rfl, h4.1, ?_⟩
      rw [msgC_part hbg, h4.2]
      unfold partP
      rw [if_neg (by omega), if_pos h4.1, if_neg (by decide)]
      rfl)
   have HK := hid (show T.k ≠ 1 ∧ T.k ≠ 7 ∧ T.k ≠ 5 ∧ T.k ≠ 2 ∧ (T.k = 4 → c = false) from by
    unfold begB at hgo
    cases c <;> simp at hgo <;> (refine ⟨?_, ?_, ?_, ?_, ?_⟩ <;> intro h <;> simp [h] at hgo ⊢))
   obtain ⟨n1, n7, n5, n2, h4⟩ := HK.out
   have b1 : ((T.k : Int) == 1) = false := by rw [beq_eq_false_iff_ne]; omega
   have b7 : ((T.k : Int) == 7) = false := by rw [beq_eq_false_iff_ne]; omega
   have b5 : ((T.k : Int) == 5) = false := by rw [beq_eq_false_iff_ne]; omega
   have b2 : ((T.k : Int) == 2) = false := by rw [beq_eq_false_iff_ne]; omega
   have HEND := hid (show RetMQ g tb nb w E (X0.bind (msgC E d c)) (.returned (.slice A m cc)) w3 from
    mq_ret HY.out (HO.out.ext HX3.out) (own_ext HOW.out HX3.out) (fun st h => ⟨(HF.out st h).1, (FCw_exc (Exc.of_ext (S := fun _ => False) HX3.out) (fun _ _ h => h) (fun _ h => h) f).1 _ (HF.out st h).2⟩) (HE.out.trans (Exc.of_ext HX3.out)) HNB.out HS.out)
   by_cases k4 : T.k = 4
   ·have b4 : ((T.k : Int) == 4) = true := by rw [k4]; rfl
    obtain rfl := h4 k4
    clear n1 n7 n5 n2 h4 k4 hgo c4
    go_wp2
    go_ret
    exact HEND.out
   ·have b4 : ((T.k : Int) == 4) = false := by rw [beq_eq_false_iff_ne]; omega
    clear n1 n7 n5 n2 h4 k4 hgo c4
    go_wp2
    go_ret
    exact HEND.out
  have hgo0 := hgo
  rw [Bool.and_eq_true] at hgo0
  obtain ⟨t, r, rfl⟩ : ∃ t r, left = t :: r := by
   rcases left with _ | ⟨t, r⟩
   ·rw [HTK.out] at hgo0
    exact absurd hgo0.1 (by decide)
   ·exact ⟨t, r, rfl⟩
  obtain rfl : T = t := HTT.out
  have HBT := hid hgo0.1
  have HL := hid (show (T :: r).length < N + 1 ∧ d ≤ 8 from HLL.out)
  have hd8 : d ≤ 8 := HLL.out.2
  have hl1b : r.length < N := by have := HLL.out.1; simp only [List.length_cons] at this; omega
  have hmb : m ≤ 4003 := by
   have h1 := HMM.out
   have : lenX (.ok ⟨T :: r, ns⟩) = (T :: r).length + 1 := rfl
   omega
  have HGD := hid (show tokB T = true ∧ T.t.length ≤ 4000 from by
   have := HBB.out.tok T List.mem_cons_self
   exact ⟨this.2.2, this.1⟩)
  clear hgo0
  by_cases k1 : T.k = 1
  ·have b1 : ((T.k : Int) == 1) = true := by rw [k1]; rfl
   have KT := hid (fun W (hx : Ext wo W) => rtake_any (X := .ok ⟨T :: r, ns⟩) T.k (by omega) (HO.out.ext hx))
   rw [takeS_ok rfl, takeX_ok rfl] at KT
   have HE3 := hid (show partP E d c T r ns = .ok (.one 1 (unescP T.t) [] [] .nil .nil, ⟨r, ns⟩) from if_pos k1)
   have KU := hid (fun W => runesc_any ⟨T.t.toArray⟩ W HGD.out.2 (by
    have h := HGD.out.1
    unfold tokB at h
    rw [if_pos k1, Bool.and_eq_true] at h
    exact h.2))
   rw [show (⟨T.t.toArray⟩ : ByteArray).data.toList = T.t from rfl] at KU
   clear k1
   go_wp2_with fail
   refine (KT.out _ HX3.out).mono ?_
   rintro e w4 ⟨rfl, hs4⟩
   go_wp2_with fail
   refine (KU.out _).mono ?_
   rintro e w5 ⟨rfl, hx5⟩
   obtain ⟨nb5, e5, o5, n5⟩ := (RqS.back HX3.out (hs4.ext hx5)).parts
   have HXP := hid e5
   have HNP := hid n5
   have HOP := hid (show RqO g tb nb5 E w5 ((partP E d c T r ns).map (·.2)) from by rw [HE3.out]; exact o5)
   have HLEN := hid (show ∀ gp st, partP E d c T r ns = .ok (gp, st) → st.left.length ≤ r.length ∧ gp.len = 1 ∧ Fw w5 (fun k => wo.heap.size ≤ k ∧ some k ≠ nb5) gp [.int .i64 1, .string ⟨(unescP T.t).toArray⟩, .string ⟨#[]⟩, .string ⟨#[]⟩, .slice none 0 0, .slice none 0 0] from by
    intro gp st h
    rw [HE3.out] at h
    injection h with h
    injection h with h1 h2
    subst h1 h2
    exact ⟨Nat.le_refl _, rfl, Fw_one (CwS.nil _ _) (FwS.nil _ _)⟩)
   clear hs4 hx5 e5 o5 n5 x0 c4
   have HAL := hid ((Ext.refl w5).alloc (.cells #[.int .i64 1, .string ⟨(unescP T.t).toArray⟩, .string ⟨#[]⟩, .string ⟨#[]⟩, .slice none 0 0, .slice none 0 0] 50))
   have HNC := hid (new_cells w5 #[.int .i64 1, .string ⟨(unescP T.t).toArray⟩, .string ⟨#[]⟩, .string ⟨#[]⟩, .slice none 0 0, .slice none 0 0] 50)
   have HOX := hid (own_ext (row_keepQ HO.out HOW.out HOLD.out.1 HXP.out) HAL.out)
   have HONE := hid (six_one (.int .i64 1 : Value) (.string ⟨(unescP T.t).toArray⟩) (.string ⟨#[]⟩) (.string ⟨#[]⟩) (.slice none 0 0) (.slice none 0 0) ⟨rfl, rfl, rfl, rfl, rfl, rfl⟩)
   have HZ := hid (show w.heap.size ≤ (w5.alloc (.cells #[.int .i64 1, .string ⟨(unescP T.t).toArray⟩, .string ⟨#[]⟩, .string ⟨#[]⟩, .slice none 0 0, .slice none 0 0] 50)).heap.size from Nat.le_trans (Nat.le_trans HSZ.out HXP.out.size) HAL.out.size)
   go_wp2_with (first
    | (at_builtin; refine wpList_appN _ rfl _ _ 22 rfl w.heap.size 50 i0 _ 6 104 Tryz.underlying22 hi hz0 hz1 hz2 rfl (by decide) _ m _ rfl HOX.out ⟨w5.heap.size, 0, none⟩ 1 1 _ rfl rfl HNC.out HONE.out (by unfold maxLen; omega) (by omega) HZ.out ?_; intro v9 w9 hown9 hgrow9 hwhere9; have HO9 := hid hown9; have HG9 := hid hgrow9; have HW9 := hid hwhere9; clear hown9 hgrow9 hwhere9))
   exact mq_go HY.out HBT.out HL.out HMM.out (HF.out _ rfl) HOW.out HE.out HNB.out HO.out HXP.out HNP.out HOP.out HLEN.out HOLD.out HO9.out HG9.out HW9.out
  have f1 : ((T.k : Int) == 1) = false := by rw [beq_eq_false_iff_ne]; omega
  by_cases k4 : T.k = 4
  ·have hct : c = true := by
    cases c
    ·rw [k4] at hgo
     exact absurd hgo (by decide)
    ·rfl
   subst hct
   have f4 : ((T.k : Int) == 4) = true := by rw [k4]; rfl
   have KT := hid (fun W (hx : Ext wo W) => rtake_any (X := .ok ⟨T :: r, ns⟩) T.k (by omega) (HO.out.ext hx))
   rw [takeS_ok rfl, takeX_ok rfl] at KT
   have HE3 := hid (show partP E d true T r ns = .ok (.one 10 [] [] [] .nil .nil, ⟨r, ns⟩) from by unfold partP; rw [if_neg k1, if_pos k4, if_pos rfl])
   clear k1 k4 hgo
   go_wp2_with fail
   refine (KT.out _ HX3.out).mono ?_
   rintro e w5 ⟨rfl, hs5⟩
   obtain ⟨nb5, e5, o5, n5⟩ := (RqS.back HX3.out hs5).parts
   have HXP := hid e5
   have HNP := hid n5
   have HOP := hid (show RqO g tb nb5 E w5 ((partP E d true T r ns).map (·.2)) from by rw [HE3.out]; exact o5)
   have HLEN := hid (show ∀ gp st, partP E d true T r ns = .ok (gp, st) → st.left.length ≤ r.length ∧ gp.len = 1 ∧ Fw w5 (fun k => wo.heap.size ≤ k ∧ some k ≠ nb5) gp [.int .i64 10, .string ⟨#[]⟩, .string ⟨#[]⟩, .string ⟨#[]⟩, .slice none 0 0, .slice none 0 0] from by
    intro gp st h
    rw [HE3.out] at h
    injection h with h
    injection h with h1 h2
    subst h1 h2
    exact ⟨Nat.le_refl _, rfl, Fw_one (CwS.nil _ _) (FwS.nil _ _)⟩)
   clear hs5 e5 o5 n5 x0 c4
   have HAL := hid ((Ext.refl w5).alloc (.cells #[.int .i64 10, .string ⟨#[]⟩, .string ⟨#[]⟩, .string ⟨#[]⟩, .slice none 0 0, .slice none 0 0] 50))
   have HNC := hid (new_cells w5 #[.int .i64 10, .string ⟨#[]⟩, .string ⟨#[]⟩, .string ⟨#[]⟩, .slice none 0 0, .slice none 0 0] 50)
   have HOX := hid (own_ext (row_keepQ HO.out HOW.out HOLD.out.1 HXP.out) HAL.out)
   have HONE := hid (six_one (.int .i64 10 : Value) (.string ⟨#[]⟩) (.string ⟨#[]⟩) (.string ⟨#[]⟩) (.slice none 0 0) (.slice none 0 0) ⟨rfl, rfl, rfl, rfl, rfl, rfl⟩)
   have HZ := hid (show w.heap.size ≤ (w5.alloc (.cells #[.int .i64 10, .string ⟨#[]⟩, .string ⟨#[]⟩, .string ⟨#[]⟩, .slice none 0 0, .slice none 0 0] 50)).heap.size from Nat.le_trans (Nat.le_trans HSZ.out HXP.out.size) HAL.out.size)
   go_wp2_with (first
    | (at_builtin; refine wpList_appN _ rfl _ _ 22 rfl w.heap.size 50 i0 _ 6 104 Tryz.underlying22 hi hz0 hz1 hz2 rfl (by decide) _ m _ rfl HOX.out ⟨w5.heap.size, 0, none⟩ 1 1 _ rfl rfl HNC.out HONE.out (by unfold maxLen; omega) (by omega) HZ.out ?_; intro v9 w9 hown9 hgrow9 hwhere9; have HO9 := hid hown9; have HG9 := hid hgrow9; have HW9 := hid hwhere9; clear hown9 hgrow9 hwhere9))
   exact mq_go HY.out HBT.out HL.out HMM.out (HF.out _ rfl) HOW.out HE.out HNB.out HO.out HXP.out HNP.out HOP.out HLEN.out HOLD.out HO9.out HG9.out HW9.out
  have f4 : ((T.k : Int) == 4) = false := by rw [beq_eq_false_iff_ne]; omega
  by_cases k7 : T.k = 7
  ·have f7 : ((T.k : Int) == 7) = true := by rw [k7]; rfl
   have KD := hid (fun W (hx : Ext wo W) => (show Calls Tryz.prog 117 #[.pointer (some ⟨g, 0, none⟩), .int .i64 ((d : Int) + 1)] W _ from rdeep_any (X := .ok ⟨T :: r, ns⟩) (d + 1) (HO.out.ext hx) (by omega)))
   obtain ⟨X1, hX1⟩ : ∃ X1, X1 = (Except.ok ⟨T :: r, ns⟩ : Except Err St).bind (deepX E (d + 1)) := ⟨_, rfl⟩
   rw [← hX1] at KD
   have KT := hid (fun W nb' (h : RqO g tb nb' E W X1) => rtake_any T.k (by omega) h)
   have HE3 := hid (show (partP E d c T r ns).map (·.2) = X1.bind (takeX E T.k) ∧ (∀ gp st, partP E d c T r ns = .ok (gp, st) → gp = .one 11 [] T.t [] .nil .nil ∧ st = ⟨r, ns⟩ ∧ takeS T.k X1 = ⟨T.t.toArray⟩) from by
    rw [hX1]
    unfold partP
    rw [if_neg k1, if_neg k4, if_pos k7]
    by_cases h8 : d < 8
    ·rw [if_pos h8, show (Except.ok ⟨T :: r, ns⟩ : Except Err St).bind (deepX E (d + 1)) = .ok ⟨T :: r, ns⟩ from if_neg (by omega), takeX_ok rfl, takeS_ok rfl]
     refine ⟨rfl, fun gp st h => ?_⟩
     injection h with h
     injection h with h1 h2
     exact ⟨h1.symm, h2.symm, rfl⟩
    ·rw [if_neg h8, show (Except.ok ⟨T :: r, ns⟩ : Except Err St).bind (deepX E (d + 1)) = .error (6, T.a) from if_pos (by omega)]
     exact ⟨rfl, fun gp st h => (by cases h)⟩)
   obtain ⟨sq, hsq⟩ : ∃ sq, sq = takeS T.k X1 := ⟨_, rfl⟩
   rw [← hsq] at KT HE3
   clear k1 k4 k7 hX1 hsq hgo
   go_wp2_with fail
   refine (KD.out _ HX3.out).mono ?_
   rintro e w4 ⟨rfl, hs4⟩
   obtain ⟨nb4, e4, o4, n4⟩ := (RqS.back HX3.out hs4).parts
   have HE4 := hid e4
   have HN4 := hid n4
   have HO4 := hid o4
   have x4 := (HBX.out.exc hs4.1 HBG.out).cell 0 _ rfl
   clear hs4 e4 o4 n4 x0 c4
   go_wp2_with fail
   refine (KT.out _ _ HO4.out).mono ?_
   rintro e w5 ⟨rfl, hs5⟩
   obtain ⟨nb5, e5, o5, n5⟩ := (RqS.step HE4.out HN4.out hs5).parts
   have HXP := hid e5
   have HNP := hid n5
   have HOP := hid (show RqO g tb nb5 E w5 ((partP E d c T r ns).map (·.2)) from by rw [HE3.out.1]; exact o5)
   have HLEN := hid (show ∀ gp st, partP E d c T r ns = .ok (gp, st) → st.left.length ≤ r.length ∧ gp.len = 1 ∧ Fw w5 (fun k => wo.heap.size ≤ k ∧ some k ≠ nb5) gp [.int .i64 11, .string ⟨#[]⟩, .string sq, .string ⟨#[]⟩, .slice none 0 0, .slice none 0 0] from by
    intro gp st h
    obtain ⟨rfl, rfl, h3⟩ := HE3.out.2 gp st h
    rw [h3]
    exact ⟨Nat.le_refl _, rfl, Fw_one (CwS.nil _ _) (FwS.nil _ _)⟩)
   clear hs5 e5 o5 n5 x4
   have HAL := hid ((Ext.refl w5).alloc (.cells #[.int .i64 11, .string ⟨#[]⟩, .string sq, .string ⟨#[]⟩, .slice none 0 0, .slice none 0 0] 50))
   have HNC := hid (new_cells w5 #[.int .i64 11, .string ⟨#[]⟩, .string sq, .string ⟨#[]⟩, .slice none 0 0, .slice none 0 0] 50)
   have HOX := hid (own_ext (row_keepQ HO.out HOW.out HOLD.out.1 HXP.out) HAL.out)
   have HONE := hid (six_one (.int .i64 11 : Value) (.string ⟨#[]⟩) (.string sq) (.string ⟨#[]⟩) (.slice none 0 0) (.slice none 0 0) ⟨rfl, rfl, rfl, rfl, rfl, rfl⟩)
   have HZ := hid (show w.heap.size ≤ (w5.alloc (.cells #[.int .i64 11, .string ⟨#[]⟩, .string sq, .string ⟨#[]⟩, .slice none 0 0, .slice none 0 0] 50)).heap.size from Nat.le_trans (Nat.le_trans HSZ.out HXP.out.size) HAL.out.size)
   go_wp2_with (first
    | (at_builtin; refine wpList_appN _ rfl _ _ 22 rfl w.heap.size 50 i0 _ 6 104 Tryz.underlying22 hi hz0 hz1 hz2 rfl (by decide) _ m _ rfl HOX.out ⟨w5.heap.size, 0, none⟩ 1 1 _ rfl rfl HNC.out HONE.out (by unfold maxLen; omega) (by omega) HZ.out ?_; intro v9 w9 hown9 hgrow9 hwhere9; have HO9 := hid hown9; have HG9 := hid hgrow9; have HW9 := hid hwhere9; clear hown9 hgrow9 hwhere9))
   exact mq_go HY.out HBT.out HL.out HMM.out (HF.out _ rfl) HOW.out HE.out HNB.out HO.out HXP.out HNP.out HOP.out HLEN.out HOLD.out HO9.out HG9.out HW9.out
  have f7 : ((T.k : Int) == 7) = false := by rw [beq_eq_false_iff_ne]; omega
  by_cases k2 : T.k = 2
  ·have f5 : ((T.k : Int) == 5) = false := by rw [beq_eq_false_iff_ne]; omega
   have f2 : ((T.k : Int) == 2) = true := by rw [k2]; rfl
   have KA := hid (fun W (hx : Ext wo W) => hA g tb nb1 E T r ns d c W (HO.out.ext hx) (by have := HOLD.out.2; have := HSZ.out; have := hx.size; omega) k2 hl1b hd8)
   have HE3 := hid (show partP E d c T r ns = argC E d c ⟨r, ns⟩ from by unfold partP; rw [if_neg k1, if_neg k4, if_neg k7, if_neg (by omega)])
   clear k1 k4 k7 k2 hgo
   go_wp2_with fail
   refine (KA.out _ HX3.out).mono ?_
   rintro e w5 ⟨nb5, ⟨pk, pt, pn, ps, pA, pa, pc, qA, qa, qc, rfl, hf5⟩, e5, o5, n5⟩
   have HXP := hid (show Exc (qB g nb1) wo w5 from (Exc.of_ext HX3.out).trans e5)
   have HNP := hid (show nb5 = nb1 ∨ ∀ k, nb5 = some k → wo.heap.size ≤ k from n5.imp id (fun h k hk => Nat.le_trans HX3.out.size (h k hk)))
   have HOP := hid (show RqO g tb nb5 E w5 ((partP E d c T r ns).map (·.2)) from by rw [HE3.out]; exact o5)
   have HLEN := hid (show ∀ gp st, partP E d c T r ns = .ok (gp, st) → st.left.length ≤ r.length ∧ gp.len = 1 ∧ Fw w5 (fun k => wo.heap.size ≤ k ∧ some k ≠ nb5) gp [.int .i64 pk, .string pt, .string pn, .string ps, .slice pA pa pc, .slice qA qa qc] from by
    intro gp st h
    rw [HE3.out] at h
    obtain ⟨l1, l2⟩ := hf5 gp st h
    exact ⟨argC_len h, l1, (FCw_exc (Exc.refl (fun _ => False) w5) (fun _ _ h => h) (fun k hk => ⟨Nat.le_trans HX3.out.size hk.1, hk.2⟩) gp).1 _ l2⟩)
   clear e5 o5 n5 hf5 x0 c4
   have HAL := hid ((Ext.refl w5).alloc (.cells #[.int .i64 pk, .string pt, .string pn, .string ps, .slice pA pa pc, .slice qA qa qc] 50))
   have HNC := hid (new_cells w5 #[.int .i64 pk, .string pt, .string pn, .string ps, .slice pA pa pc, .slice qA qa qc] 50)
   have HOX := hid (own_ext (row_keepQ HO.out HOW.out HOLD.out.1 HXP.out) HAL.out)
   have HONE := hid (six_one (.int .i64 pk : Value) (.string pt) (.string pn) (.string ps) (.slice pA pa pc) (.slice qA qa qc) ⟨rfl, rfl, rfl, rfl, rfl, rfl⟩)
   have HZ := hid (show w.heap.size ≤ (w5.alloc (.cells #[.int .i64 pk, .string pt, .string pn, .string ps, .slice pA pa pc, .slice qA qa qc] 50)).heap.size from Nat.le_trans (Nat.le_trans HSZ.out HXP.out.size) HAL.out.size)
   go_wp2_with (first
    | (at_builtin; refine wpList_appN _ rfl _ _ 22 rfl w.heap.size 50 i0 _ 6 104 Tryz.underlying22 hi hz0 hz1 hz2 rfl (by decide) _ m _ rfl HOX.out ⟨w5.heap.size, 0, none⟩ 1 1 _ rfl rfl HNC.out HONE.out (by unfold maxLen; omega) (by omega) HZ.out ?_; intro v9 w9 hown9 hgrow9 hwhere9; have HO9 := hid hown9; have HG9 := hid hgrow9; have HW9 := hid hwhere9; clear hown9 hgrow9 hwhere9))
   exact mq_go HY.out HBT.out HL.out HMM.out (HF.out _ rfl) HOW.out HE.out HNB.out HO.out HXP.out HNP.out HOP.out HLEN.out HOLD.out HO9.out HG9.out HW9.out
  have k5 : T.k = 5 := by
   have h := HBT.out
   unfold begB at h
   simpa [k1, k4, k7, k2] using h
  have f2 : ((T.k : Int) == 2) = false := by rw [beq_eq_false_iff_ne]; omega
  have f5 : ((T.k : Int) == 5) = true := by rw [k5]; rfl
  have KD := hid (fun W (hx : Ext wo W) => (show Calls Tryz.prog 117 #[.pointer (some ⟨g, 0, none⟩), .int .i64 ((d : Int) + 1)] W _ from rdeep_any (X := .ok ⟨T :: r, ns⟩) (d + 1) (HO.out.ext hx) (by omega)))
  obtain ⟨X1, hX1⟩ : ∃ X1, X1 = (Except.ok ⟨T :: r, ns⟩ : Except Err St).bind (deepX E (d + 1)) := ⟨_, rfl⟩
  rw [← hX1] at KD
  have KT := hid (fun W nb' (h : RqO g tb nb' E W X1) => rtake_any 5 (by decide) h)
  obtain ⟨X2, hX2⟩ : ∃ X2, X2 = X1.bind (takeX E 5) := ⟨_, rfl⟩
  rw [← hX2] at KT
  obtain ⟨Y, hYe⟩ : ∃ Y, Y = X2.bind (msgC E (d + 1) c) := ⟨_, rfl⟩
  obtain ⟨sq, hsq⟩ : ∃ sq, sq = takeS 5 X1 := ⟨_, rfl⟩
  have KM := hid (fun W nb' (h : RqO g tb nb' E W X2) (ht : tb < W.heap.size) => hM g tb nb' E X2 (d + 1) c W h ht (fun st hs => by
   rw [hX2, hX1] at hs
   by_cases h8 : d < 8
   ·rw [show (Except.ok ⟨T :: r, ns⟩ : Except Err St).bind (deepX E (d + 1)) = .ok ⟨T :: r, ns⟩ from if_neg (by omega), takeX_ok k5] at hs
    injection hs with hs
    subst hs
    exact ⟨hl1b, by omega⟩
   ·rw [show (Except.ok ⟨T :: r, ns⟩ : Except Err St).bind (deepX E (d + 1)) = .error (6, T.a) from if_pos (by omega)] at hs
    cases hs) (by omega))
  rw [← hYe] at KM
  have HE3 := hid (show partP E d c T r ns = elmP E d c ⟨T :: r, ns⟩ from by unfold partP; rw [if_neg k1, if_neg k4, if_neg k7, if_pos k5])
  have HBAD := hid (fun hb => elm_bad (E := E) (d := d) (c := c) (t := T) (r := r) (ns := ns) k5 hX1 hX2 hYe hb)
  have HGOOD := hid (fun u q yn ff (hy : Y = .ok (ff, ⟨u :: q, yn⟩)) hu => elm_good (E := E) (d := d) (c := c) (t := T) (u := u) (r := r) (q := q) (ns := ns) (yn := yn) (f := ff) k5 hX1 hX2 hYe hy hu)
  rw [← hsq] at KT HGOOD
  have HK5 := hid k5
  have HSQ := hid (show (∃ y, Y = .ok y) → sq = ⟨T.t.toArray⟩ from fun ⟨y, hy⟩ => by
   rw [hsq, hX1]
   by_cases h8 : d < 8
   ·rw [show (Except.ok ⟨T :: r, ns⟩ : Except Err St).bind (deepX E (d + 1)) = .ok ⟨T :: r, ns⟩ from if_neg (by omega), takeS_ok k5]
   ·rw [hYe, hX2, hX1, show (Except.ok ⟨T :: r, ns⟩ : Except Err St).bind (deepX E (d + 1)) = .error (6, T.a) from if_pos (by omega)] at hy
    cases hy)
  clear k1 k4 k7 k2 k5 hX1 hX2 hYe hsq hgo
  go_wp2_with fail
  refine (KD.out _ HX3.out).mono ?_
  rintro e w4 ⟨rfl, hs4⟩
  obtain ⟨nb4, e4, o4, n4⟩ := (RqS.back HX3.out hs4).parts
  have HE4 := hid e4
  have HN4 := hid n4
  have HO4 := hid o4
  have x4 : w4.cell? ⟨w2.heap.size, 0, none⟩ = some (.int .i64 5) := by
   have h := (HBX.out.exc hs4.1 HBG.out).cell 0 _ rfl
   have h2 : w4.cell? ⟨w2.heap.size, 0, none⟩ = some (.int .i64 (T.k : Int)) := h
   rw [HK5.out] at h2
   exact h2
  clear hs4 e4 o4 n4 x0 c4
  go_wp2_with fail
  refine (KT.out _ _ HO4.out).mono ?_
  rintro e w5 ⟨rfl, hs5⟩
  obtain ⟨nb5, e5, o5, n5⟩ := (RqS.step HE4.out HN4.out hs5).parts
  obtain ⟨w6, hw6⟩ : ∃ w6, w6 = w5.alloc (.cells #[.int .i64 11, .string ⟨#[]⟩, .string sq, .string ⟨#[]⟩, .slice none 0 0, .slice none 0 0] 50) := ⟨_, rfl⟩
  have hx6 : Ext w5 w6 := by rw [hw6]; exact (Ext.refl w5).alloc _
  have HB6 := hid (show AtC 50 w6 w5.heap.size #[.int .i64 11, .string ⟨#[]⟩, .string sq, .string ⟨#[]⟩, .slice none 0 0, .slice none 0 0] from by rw [hw6]; exact AtC.new w5 _)
  have HE6 := hid (show Exc (qB g nb1) wo w6 from e5.trans (Exc.of_ext hx6))
  have HN6 := hid n5
  have HO6 := hid (o5.ext hx6)
  have HS6 := hid (show w6.heap.size = w5.heap.size + 1 from by rw [hw6, World.size_alloc])
  have HBQ := hid (show ∀ nbx, (nbx = nb5 ∨ ∀ k, nbx = some k → w6.heap.size ≤ k) → ¬ qB g nbx w5.heap.size from fun nbx hn h => by
   have h1 := o5.lt
   have h2 := o5.nlt
   rcases h with h | h
   ·omega
   ·rcases hn with hn | hn
    ·have := h2 _ (hn ▸ h.symm)
     omega
    ·have := hn _ h.symm
     rw [hw6, World.size_alloc] at this
     omega)
  have HB0 := hid (show wo.heap.size ≤ w5.heap.size from e5.size)
  clear hs5 e5 o5 n5 x4 hx6
  go_upto_region 17 with (fail)
  rw [← hw6]
  clear hw6
  have y5 := frz_of HB6.out 5
  have KM6 := hid (KM.out w6 nb5 HO6.out (by have := HOLD.out.2; have := HSZ.out; have := HE6.out.size; omega))
  go_wp2_with fail
  refine KM6.out.mono ?_
  rintro e w7 ⟨Z, nb7, hz, ⟨A7, n7, c7, rfl, hf7⟩, e7, o7, n7'⟩
  have HB7 := hid (HB6.out.exc e7 (HBQ.out nb5 (.inl rfl)))
  have g5 := frz_of HB7.out 5
  have d5 := HB7.out.cell 5 _ rfl
  obtain ⟨w8, hw8⟩ : ∃ w8, w8 = w7.setCell ⟨w5.heap.size, 5, none⟩ (.slice A7 n7 c7) := ⟨_, rfl⟩
  have hx8 : Exc (fun k => k = w5.heap.size) w7 w8 := by rw [hw8]; exact exc_q 5 _
  have HB8 := hid (show AtC 50 w8 w5.heap.size #[.int .i64 11, .string ⟨#[]⟩, .string sq, .string ⟨#[]⟩, .slice none 0 0, .slice A7 n7 c7] from by rw [hw8]; exact at_six5 HB7.out)
  have HO8 := hid (show RqO g tb nb7 E w8 (Z.map (·.2)) from o7.exc hx8 (fun h => HBQ.out nb5 (.inl rfl) (.inl h.symm)) (fun h => by have := HOLD.out.2; have := HSZ.out; have := HB0.out; omega) (fun k hk h => HBQ.out nb7 n7' (.inr (by rw [hk, h]))))
  have HE8 := hid (show Exc (fun k => qB g nb5 k ∨ k = w5.heap.size) w6 w8 from (excMono e7 fun k h => .inl h).trans (excMono hx8 fun k h => .inr h))
  have HN8 := hid n7'
  have HZZ := hid hz
  have HF8 := hid (show ∀ ff st, Z = .ok (ff, st) → FwS w8 (fun k => w6.heap.size ≤ k ∧ some k ≠ nb7 ∧ k < w8.heap.size) ff (.slice A7 n7 c7) from fun ff st h => by
   have h1 := (hf7 ff st h).1.inQ
   exact h1.exc hx8 (fun k hk e => by have := hk.1.1; have := HS6.out; omega) (fun k hk => ⟨hk.1.1, hk.1.2, Nat.lt_of_lt_of_le hk.2 hx8.size⟩))
  clear y5 hz hf7 e7 o7 n7' hx8
  go_upto_region 18 with (fail)
  rw [← hw8]
  clear hw8 g5 d5
  obtain ⟨l8, ns8, a8, er8, hb8, hw8q, hok8, herr8⟩ := HO8.out.any
  obtain ⟨T8, hT8⟩ : ∃ T8, T8 = hdT E l8 := ⟨_, rfl⟩
  have KPE0 := fun y : ExtW w8 => rpeek_any (hw8q.ext y.h) hb8.len hb8.e4
  rw [← hT8] at KPE0
  unfold tokV at KPE0
  have KPE := hid KPE0
  have HFIN := hid (elm_fin (T8 := T8) HSQ.out HBAD.out HGOOD.out HZZ.out (fun st h => by obtain ⟨h1, _, _⟩ := hok8 st h; rw [hT8, h1]))
  rw [← HE3.out] at HFIN
  have KF := hid (fun W (hx : Ext w8 W) => rfail_any (X := Z.map (·.2)) 3 (by decide) (HO8.out.ext hx))
  have z2 : ∀ y : ExtW w8, y.v.cell? ⟨w5.heap.size, 2, none⟩ = some (.string sq) := fun y => (HB8.out.ext y.h).cell 2 _ rfl
  have hfd0 := tokF0
  have hfd1 := tokF1
  obtain ⟨GX, hGX⟩ : ∃ GX, GX = (partP E d c T r ns).map (·.2) := ⟨_, rfl⟩
  rw [← hGX] at HFIN
  have HGX := hid hGX
  clear KPE0 hT8 hb8 hw8q hok8 herr8 hGX HBAD HGOOD HSQ
  obtain ⟨bq, hbq⟩ : ∃ bq, bq = (T8.k == 6 && !(T8.t == sq.toList)) := ⟨_, rfl⟩
  have HBQ2 := hid hbq
  clear hbq
  go_cut [98] (BWr bq w8)
  case first =>
   by_cases h6 : T8.k = 6
   ·have u6 : ((T8.k : Int) == 6) = true := by rw [h6]; rfl
    cases ht : (T8.t == sq.toList)
    all_goals
     have HB2 := hid HBQ2.out
     rw [h6, ht] at HB2
     clear h6
     refine wp_region_ext (by kernel_rfl) (by kernel_rfl) ?_
     repeat (go_big_quiet_step ((go_at_call 114; exact ExtW.call (KPE.out _))))
     refine wpQuiet_nil ?_
     intro wb hwb
     have HWB := hid (ext_ofQ hwb)
     clear hwb
     try go_wp2
     go_meet
     exact ⟨by rw [HB2.out]; rfl, HWB.out⟩
   ·have u6 : ((T8.k : Int) == 6) = false := by rw [beq_eq_false_iff_ne]; omega
    have HB2 := hid (show bq = false from by rw [HBQ2.out, beq_eq_false_iff_ne.2 h6]; rfl)
    clear h6
    refine wp_region_ext (by kernel_rfl) (by kernel_rfl) ?_
    repeat (go_big_quiet_step ((go_at_call 114; exact ExtW.call (KPE.out _))))
    refine wpQuiet_nil ?_
    intro wb hwb
    have HWB := hid (ext_ofQ hwb)
    clear hwb
    try go_wp2
    go_meet
    exact ⟨by rw [HB2.out], HWB.out⟩
  case rest =>
  obtain ⟨rfl, hxc⟩ := hcut
  obtain ⟨w9, hw9⟩ : ∃ w9 : World, w9 = wc := ⟨_, rfl⟩
  rw [← hw9] at hxc
  have HX9 := hid hxc
  clear hxc z2 KPE
  go_upto_if 98 with (fail)
  rw [← hw9]
  clear hw9
  go_cut [] (CqE g tb nb7 E GX w8)
  case first =>
   cases hbq : bq
   ·have HNOT := hid (show ¬ (T8.k = 6 ∧ T8.t ≠ sq.data.toList) from fun hh => by
     have h := HBQ2.out
     rw [hbq, ByteArray.toList_eq] at h
     simp [hh.1, hh.2] at h)
    have HR := hid (show CqE g tb nb7 E GX w8 w9 from ⟨nb7, _, Exc.of_ext HX9.out, HO8.out.ext HX9.out, .inl rfl, HFIN.out.1.1 HNOT.out⟩)
    clear hbq HBQ2
    go_wp2_with fail
    go_meet
    exact HR.out
   ·have HYES := hid (show T8.k = 6 ∧ T8.t ≠ sq.data.toList from by
     have h := HBQ2.out
     rw [hbq, ByteArray.toList_eq] at h
     simpa using h.symm)
    clear hbq HBQ2
    go_wp2_with fail
    refine (KF.out _ HX9.out).mono ?_
    rintro e w10 ⟨rfl, hs10⟩
    obtain ⟨nb10, e10, o10, n10⟩ := (RqS.back HX9.out hs10).parts
    have HR := hid (show CqE g tb nb7 E GX w8 w10 from ⟨nb10, _, e10, o10, n10, HFIN.out.1.2 HYES.out⟩)
    clear hs10 e10 o10 n10
    go_wp2_with fail
    go_meet
    exact HR.out
  case rest =>
  obtain ⟨nb10, X10, e10, o10, n10, hR⟩ := hcut
  obtain ⟨w10, hw10⟩ : ∃ w10 : World, w10 = wc := ⟨_, rfl⟩
  rw [← hw10] at e10 o10
  have KT6 := rtake_any (X := X10) 6 (by decide) o10
  rw [hR] at KT6
  have KT6 := hid KT6
  have HE10 := hid e10
  have HN10 := hid n10
  clear e10 o10 n10 hR
  go_upto_region 20 with (fail)
  rw [← hw10]
  clear hw10
  go_wp2_with fail
  refine KT6.out.mono ?_
  rintro e w11 ⟨rfl, hs11⟩
  obtain ⟨nb11, e11, o11, n11⟩ := (RqS.step HE10.out HN10.out hs11).parts
  have HB11 := hid (HB8.out.exc e11 (HBQ.out nb7 HN8.out))
  have s0 := HB11.out.cell 0 _ rfl
  have s1 := HB11.out.cell 1 _ rfl
  have s2 := HB11.out.cell 2 _ rfl
  have s3 := HB11.out.cell 3 _ rfl
  have s4 := HB11.out.cell 4 _ rfl
  have s5 := HB11.out.cell 5 _ rfl
  have HXP := hid (show Exc (qB g nb1) wo w11 from exc_stepQ (exc_stepQ HE6.out HN6.out (excMono HE8.out fun k h => by
   rcases h with h | h
   ·exact .inl h
   ·exact .inr (by have := HB0.out; omega))) (nb_step HN6.out HN8.out HE6.out.size) (excMono e11 fun k h => .inl h))
  have HNP := hid (show nb11 = nb1 ∨ ∀ k, nb11 = some k → wo.heap.size ≤ k from nb_step (nb_step HN6.out HN8.out HE6.out.size) n11 (Nat.le_trans HE6.out.size HE8.out.size))
  have HOP := hid (show RqO g tb nb11 E w11 ((partP E d c T r ns).map (·.2)) from by rw [← HGX.out]; exact o11)
  have HLEN := hid (show ∀ gp st, partP E d c T r ns = .ok (gp, st) → st.left.length ≤ r.length ∧ gp.len = 1 ∧ Fw w11 (fun k => wo.heap.size ≤ k ∧ some k ≠ nb11) gp [.int .i64 11, .string ⟨#[]⟩, .string sq, .string ⟨#[]⟩, .slice none 0 0, .slice A7 n7 c7] from by
   intro gp st h
   rw [HE3.out] at h
   obtain ⟨ff, st', hZ, hgp, hsq⟩ := HFIN.out.2 gp st (by rw [HE3.out]; exact h)
   refine ⟨(elmP_len h).2, by rw [hgp]; rfl, ?_⟩
   rw [hgp, hsq]
   refine Fw_one (CwS.nil _ _) ((HF8.out ff st' hZ).exc e11 (fun k hk hq => ?_) (fun k hk => ⟨Nat.le_trans HE6.out.size hk.1, fun e0 => ?_⟩))
   ·rcases hq with hq | hq
    ·have := HLT.out; have := HE6.out.size; have := hk.1; omega
    ·exact hk.2.1 hq
   ·rcases n11 with h | h
    ·exact hk.2.1 (e0.trans h)
    ·have := h k e0.symm
     have := hk.2.2
     omega)
  clear hs11 e11 o11 n11
  have HAL := hid ((Ext.refl w11).alloc (.cells #[.int .i64 11, .string ⟨#[]⟩, .string sq, .string ⟨#[]⟩, .slice none 0 0, .slice A7 n7 c7] 50))
  have HNC := hid (new_cells w11 #[.int .i64 11, .string ⟨#[]⟩, .string sq, .string ⟨#[]⟩, .slice none 0 0, .slice A7 n7 c7] 50)
  have HOX := hid (own_ext (row_keepQ HO.out HOW.out HOLD.out.1 HXP.out) HAL.out)
  have HONE := hid (six_one (.int .i64 11 : Value) (.string ⟨#[]⟩) (.string sq) (.string ⟨#[]⟩) (.slice none 0 0) (.slice A7 n7 c7) ⟨rfl, rfl, rfl, rfl, rfl, rfl⟩)
  have HZ := hid (show w.heap.size ≤ (w11.alloc (.cells #[.int .i64 11, .string ⟨#[]⟩, .string sq, .string ⟨#[]⟩, .slice none 0 0, .slice A7 n7 c7] 50)).heap.size from Nat.le_trans (Nat.le_trans HSZ.out HXP.out.size) HAL.out.size)
  go_wp2_with (first
   | (at_builtin; refine wpList_appN _ rfl _ _ 22 rfl w.heap.size 50 i0 _ 6 104 Tryz.underlying22 hi hz0 hz1 hz2 rfl (by decide) _ m _ rfl HOX.out ⟨w11.heap.size, 0, none⟩ 1 1 _ rfl rfl HNC.out HONE.out (by unfold maxLen; omega) (by omega) HZ.out ?_; intro v9 w9 hown9 hgrow9 hwhere9; have HO9 := hid hown9; have HG9 := hid hgrow9; have HW9 := hid hwhere9; clear hown9 hgrow9 hwhere9))
  exact mq_go HY.out HBT.out HL.out HMM.out (HF.out _ rfl) HOW.out HE.out HNB.out HO.out HXP.out HNP.out HOP.out HLEN.out HOLD.out HO9.out HG9.out HW9.out
end Go.Proofs.YtpfmojeigjmlfaaGreatDoor
namespace Go.Proofs.YtpfmojeigjmlfaaGreatDoor
open Go.RowKit
theorem CwS.inQ {w : World} {ok : Nat → Prop} {f : F} {v : Value} (h : CwS w ok f v) : CwS w (fun k => ok k ∧ k < w.heap.size) f v := by
 obtain ⟨A, c, ps, e, h1, h2, h3⟩ := h
 exact ⟨A, c, ps, e, h1, fun h0 ad hA => ⟨h2 h0 ad hA, h1.inside (by decide) h0 ad hA⟩, (FCw_in w ok f).2 _ h3⟩
def CqA (g tb bx : Nat) (nb : Option Nat) (w : World) (E : Nat) (NM : ByteArray) (Y : Except Err (F × St)) (w' : World) : Prop :=
 ∃ nb' k ST A n cc Z, UqW w g tb bx nb nb' k NM ST (.slice A n cc) w' ∧ RqO g tb nb' E w' Z ∧ Z.bind (takeX E 3) = Y.map (·.2) ∧
   ∀ f st, Y = .ok (f, st) → ∃ gg, f = .one k [] NM.data.toList ST.data.toList gg .nil ∧ CwS w' (fun j => w.heap.size ≤ j ∧ some j ≠ nb') gg (.slice A n cc)
theorem arg_endQ {w w3 w8 w9 : World} {g tb bx E : Nat} {nb nb2 nb8 : Option Nat} {k : Int} {NM ST : ByteArray} {A : Option Addr} {n cc : Nat} {Y : Except Err (F × St)} (hx : Exc (qB g nb) w w3) (hn : nb2 = nb ∨ ∀ j, nb2 = some j → w.heap.size ≤ j) (hs3 : w.heap.size < w3.heap.size) (hbx : w.heap.size < bx) (hlt : g < w.heap.size) (htb : tb < w.heap.size)
 (hU : UqW w3 g tb bx nb2 nb8 k NM ST (.slice A n cc) w8) (hO : RqO g tb nb8 E w8 (Y.map (·.2))) (hnr : nb8 ≠ some w.heap.size) (hf : ∀ f st, Y = .ok (f, st) → ∃ gg, f = .one k [] NM.data.toList ST.data.toList gg .nil ∧ CwS w8 (fun j => w3.heap.size ≤ j ∧ some j ≠ nb8) gg (.slice A n cc))
 (h9 : Exc (fun j => j = w.heap.size) w8 w9) : RetPQ g tb nb w E Y (.returned (.agg #[.int .i64 k, .string ⟨#[]⟩, .string NM, .string ST, .slice A n cc, .slice none 0 0])) w9 := by
 refine ⟨nb8, ⟨k, ⟨#[]⟩, NM, ST, A, n, cc, none, 0, 0, rfl, fun f st hY => ?_⟩, ?_, hO.exc h9 (fun e => by omega) (fun e => by omega) (fun j hj e => hnr (by rw [hj, e])), nb_step hn hU.nbb (Nat.le_of_lt hs3)⟩
 ·obtain ⟨gg, rfl, h⟩ := hf f st hY
  refine ⟨rfl, Fw_one (h.exc h9 (fun j hj e => by have := hj.1; omega) (fun j hj => ⟨Nat.le_trans (Nat.le_of_lt hs3) hj.1, hj.2⟩)) (FwS.nil _ _)⟩
 ·refine exc_newQ (((excMono hx fun j e => .inl e).trans (excMono hU.exc fun j e => ?_)).trans (excMono h9 fun j e => .inr (by omega)))
  rcases e with (e | e) | e
  ·exact .inl (.inl e)
  ·rcases hn with h | h
   ·exact .inl (.inr (by rw [e, h]))
   ·exact .inr (h j e.symm)
  ·exact .inr (by omega)
theorem arg_skip {E d : Nat} {c : Bool} {nm : By} {l : List Tok} {n1 : List By} (h : ¬ kindL l = 8) : takeX E 3 ⟨l, n1⟩ = (argN E d c nm n1 l).map (·.2) ∧ ∀ f st, argN E d c nm n1 l = .ok (f, st) → f = .one 2 [] nm [] .nil .nil := by
 by_cases h3 : kindL l = 3
 ·obtain ⟨st, h1, h2⟩ := arg_close (E := E) (d := d) (c := c) (nm := nm) (n1 := n1) h3
  rw [h1, h2]
  exact ⟨rfl, fun f st' h => by injection h with h; injection h with h _; exact h.symm⟩
 ·rcases arg_comma (E := E) (d := d) (c := c) (nm := nm) (n1 := n1) h3 with ⟨e, h1, h2⟩ | ⟨q, h1, h2, _⟩
  ·rw [h2]
   refine ⟨?_, fun f st h => by cases h⟩
   rcases l with _ | ⟨t, r⟩
   ·exact h1
   ·have k8 : ¬ t.k = 8 := h
    have k3 : ¬ t.k = 3 := h3
    have e1 : (Except.map (fun y => (⟨y.2, n1⟩ : St)) (if t.k = 8 then .ok (t.t, r) else .error (3, t.a)) : Except Err St) = .error e := h1
    rw [if_neg k8] at e1
    show Except.map _ (if t.k = 3 then .ok (t.t, r) else .error (3, t.a)) = _
    rw [if_neg k3]
    exact e1
  ·rcases l with _ | ⟨t, r⟩
   ·exact absurd h2 (Nat.not_lt_zero _)
   ·have k8 : ¬ t.k = 8 := h
    have e1 : (Except.map (fun y => (⟨y.2, n1⟩ : St)) (if t.k = 8 then .ok (t.t, r) else .error (3, t.a)) : Except Err St) = .ok ⟨q, n1⟩ := h1
    rw [if_neg k8] at e1
    cases e1
set_option maxHeartbeats 16000000 in
theorem rarg (N : Nat) (hU : UseQ N) : ArgQ N := by
 intro g tb nb E t r ns d c w h htb hk2 hr hd
 have e2 : (Except.ok ⟨t :: r, ns⟩ : Except Err St).bind (takeX E 2) = .ok ⟨r, ns⟩ := takeX_ok hk2
 have KT := hid (fun W (hx : Ext w W) => rtake_any 2 (by decide) (h.ext hx))
 rw [e2] at KT
 obtain ⟨X2, hX2⟩ : ∃ X2, X2 = (Except.ok ⟨r, ns⟩ : Except Err St).bind (namX E) := ⟨_, rfl⟩
 obtain ⟨NM, hNM⟩ : ∃ NM, NM = namS E (.ok ⟨r, ns⟩) := ⟨_, rfl⟩
 have KN := hid (fun W nb' (hW : RqO g tb nb' E W (.ok ⟨r, ns⟩)) => rnamQ_any hW)
 rw [← hX2, ← hNM] at KN
 have HO := hid h
 have HG := hid h.lt
 have HX2 := hid hX2
 have HNM := hid hNM
 have HB0 := hid (AtC.new w zP : AtC 50 _ _ _)
 have HX0 := hid ((Ext.refl w).alloc (.cells zP 50))
 have HNLT := hid h.nlt
 clear h hX2 hNM e2 hk2
 unfold zP at HB0 HX0
 go_enter Tryz.func118, Tryz.ntmps118
 go_wp2_with fail
 refine (KT.out _ HX0.out).mono ?_
 rintro e w1 ⟨rfl, hs1⟩
 obtain ⟨nb1, e1, o1, n1'⟩ := hs1.parts
 have HB1 := hid (HB0.out.exc e1 (fun h => by
  rcases h with h | h
  ·have := HG.out; omega
  ·have := HNLT.out _ h.symm; omega))
 have HE1 := hid e1
 have HN1 := hid n1'
 have HO1 := hid o1
 clear hs1 e1 o1 n1'
 go_wp2_with fail
 refine (KN.out _ _ HO1.out).mono ?_
 rintro e w2 ⟨rfl, hs2⟩
 obtain ⟨nb2, e2, o2, n2⟩ := (RqS.step HE1.out HN1.out hs2).parts
 have HNR := hid (show nb2 ≠ some w.heap.size from fun e => by
  rcases n2 with h | h
  ·have := HNLT.out _ (h ▸ e); omega
  ·have := h _ e
   rw [World.size_alloc] at this
   omega)
 obtain ⟨w3, hw3⟩ : ∃ w3, w3 = w2.alloc (.cells #[.int .i64 2, .string ⟨#[]⟩, .string NM, .string ⟨#[]⟩, .slice none 0 0, .slice none 0 0] 50) := ⟨_, rfl⟩
 have hx3 : Ext w2 w3 := by rw [hw3]; exact (Ext.refl w2).alloc _
 have HP3 := hid (show AtC 50 w3 w2.heap.size #[.int .i64 2, .string ⟨#[]⟩, .string NM, .string ⟨#[]⟩, .slice none 0 0, .slice none 0 0] from by rw [hw3]; exact AtC.new w2 _)
 have HSZ := hid (show w.heap.size < w2.heap.size ∧ w3.heap.size = w2.heap.size + 1 from by
  have h1 := e2.size
  rw [World.size_alloc] at h1
  exact ⟨by omega, by rw [hw3, World.size_alloc]⟩)
 have HE3 := hid (show Exc (qB g nb) w w3 from ((Exc.of_ext HX0.out).trans e2).trans (Exc.of_ext hx3))
 have HN3 := hid (show nb2 = nb ∨ ∀ k, nb2 = some k → w.heap.size ≤ k from n2.imp id (fun h k hk => by have := h k hk; rw [World.size_alloc] at this; omega))
 have HO3 := hid (o2.ext hx3)
 have HB3 := hid (show AtC 50 w3 w.heap.size #[.int .i64 0, .string ⟨#[]⟩, .string ⟨#[]⟩, .string ⟨#[]⟩, .slice none 0 0, .slice none 0 0] from (HB0.out.exc e2 (fun h => by
  rcases h with h | h
  ·have := HG.out; omega
  ·have := HNLT.out _ h.symm; omega)).ext hx3)
 have HU3 := hid (show UqW w3 g tb w2.heap.size nb2 nb2 2 NM ⟨#[]⟩ (.slice none 0 0) w3 from ⟨HP3.out, Exc.refl _ _, .inl rfl, by
  have h1 := HG.out
  have h2 := HSZ.out
  exact ⟨by omega, by omega, by omega, by omega, by omega, fun e => by have := o2.nlt _ e; omega⟩⟩)
 clear hs2 e2 o2 n2 hx3 HB1 HE1 HN1 HO1 KT KN
 go_upto_region 3 with (fail)
 rw [← hw3]
 clear hw3
 obtain ⟨Y, hY⟩ : ∃ Y, Y = argC E d c ⟨r, ns⟩ := ⟨_, rfl⟩
 rw [← hY]
 have HYY := hid hY
 clear hY
 have c40 := HO3.out.cell4
 obtain ⟨bq, hbq⟩ : ∃ bq, bq = decide (kindX X2 = 8) := ⟨_, rfl⟩
 have HBQ := hid hbq
 clear hbq
 go_cut [23] (BWr bq w3)
 case first =>
  rcases X2 with x | ⟨l, n1⟩
  ·have b1 : (x.1 == 0) = false := by rw [beq_eq_false_iff_ne]; exact HO3.out.ne
   replace c40 : w3.cell? ⟨g, 4, none⟩ = some (.int .i64 x.1) := c40
   have HB := hid (show bq = false from HBQ.out)
   clear HBQ
   go_wp2
   go_meet
   exact ⟨by rw [HB.out], Ext.refl _⟩
  ·replace c40 : w3.cell? ⟨g, 4, none⟩ = some (.int .i64 0) := c40
   have KP := hid (show Calls Tryz.prog 114 #[.pointer (some ⟨g, 0, none⟩)] w3 fun e w' => e = .returned (.agg #[.int .i64 (hdT E l).k, .string ⟨(hdT E l).t.toArray⟩, .int .i64 (hdT E l).a, .int .i64 (hdT E l).b]) ∧ Ext w3 w' from by
    obtain ⟨hb, _, a, hw⟩ := HO3.out
    exact rpeek_any hw hb.len hb.e4)
   have HQK := hid (show bq = ((hdT E l).k == 8) from by
    rw [HBQ.out, hdT_k, Bool.eq_iff_iff, beq_iff_eq, decide_eq_true_iff]
    exact Iff.rfl)
   generalize hdT E l = T7 at KP HQK
   have HQ2 := hid (show bq = ((T7.k : Int) == 8) from by
    rw [HQK.out, Bool.eq_iff_iff, beq_iff_eq, beq_iff_eq]
    omega)
   have hfd0 := tokF0
   clear HQK HBQ
   go_wp2_with (first | (go_at_call 114; (with_reducible refine KP.out.mono ?_); rintro e w4 ⟨rfl, hx4⟩; have HX4 := hid hx4; clear hx4))
   all_goals go_meet
   all_goals exact ⟨by rw [HQ2.out], HX4.out⟩
 case rest =>
 obtain ⟨rfl, hxc⟩ := hcut
 obtain ⟨w4, hw4⟩ : ∃ w4 : World, w4 = wc := ⟨_, rfl⟩
 rw [← hw4] at hxc
 have HX4 := hid hxc
 have HU4 := hid (HU3.out.go (Exc.of_ext hxc) (.inl rfl))
 have HO4 := hid (HO3.out.ext hxc)
 clear hxc c40
 go_upto_if 23 with (fail)
 rw [← hw4]
 clear hw4
 go_cut [] (CqA g tb w2.heap.size nb2 w3 E NM Y)
 case first =>
  cases hbq : bq
  ·have HR := hid (show CqA g tb w2.heap.size nb2 w3 E NM Y w4 from by
    have hn8 : ¬ kindX X2 = 8 := by
     have h := HBQ.out
     rw [hbq] at h
     exact of_decide_eq_false h.symm
    refine ⟨nb2, 2, ⟨#[]⟩, none, 0, 0, X2, HU4.out, HO4.out, ?_⟩
    rw [HYY.out]
    have hx2 : X2 = namX E ⟨r, ns⟩ := HX2.out
    rcases arg_start E d c r ns with ⟨e, a1, a2⟩ | ⟨nm, l, n1, a1, a2, a0, a3⟩
    ·rw [hx2, a1, a2]
     exact ⟨rfl, fun f st h => by cases h⟩
    ·rw [a1] at hx2
     rw [hx2] at hn8
     obtain ⟨s1, s2⟩ := arg_skip (E := E) (d := d) (c := c) (nm := nm) (n1 := n1) (l := l) hn8
     rw [hx2, a3]
     refine ⟨s1, fun f st h => ⟨.nil, ?_, CwS.nil _ _⟩⟩
     rw [s2 f st h, HNM.out, a2])
   clear hbq HBQ
   go_wp2_with fail
   go_meet
   exact HR.out
  ·obtain ⟨nm, l, n1, tq, q, hx2, hnm, hlq, hlen, hYu, hk8⟩ : ∃ (nm : By) (l : List Tok) (n1 : List By) (tq : Tok) (q : List Tok), X2 = .ok ⟨tq :: q, n1⟩ ∧ NM = ⟨nm.toArray⟩ ∧ l = tq :: q ∧ q.length < r.length ∧ Y = useC E d c nm n1 q ∧ tq.k = 8 := by
    have hn8 : kindX X2 = 8 := by
     have h := HBQ.out
     rw [hbq] at h
     exact of_decide_eq_true h.symm
    have hx2 : X2 = namX E ⟨r, ns⟩ := HX2.out
    rcases arg_start E d c r ns with ⟨e, a1, a2⟩ | ⟨nm, l, n1, a1, a2, a0, a3⟩
    ·rw [hx2, a1] at hn8
     exact absurd (show (0 : Nat) = 8 from hn8) (by decide)
    ·rw [a1] at hx2
     rw [hx2] at hn8
     rcases l with _ | ⟨tq, q⟩
     ·exact absurd (show (0 : Nat) = 8 from hn8) (by decide)
     ·have h8 : tq.k = 8 := hn8
      refine ⟨nm, tq :: q, n1, tq, q, hx2, by rw [HNM.out, a2], rfl, by rw [List.length_cons] at a0; omega, ?_, h8⟩
      rw [HYY.out, a3, argN, if_neg (by omega), if_pos h8]
   subst hx2
   have KT8 := hid (rtake_any 8 (by decide) HO4.out)
   rw [takeX_ok hk8] at KT8
   have HLEN := hid (show q.length < N from by omega)
   have HYU := hid (show Y = useC E d c NM.data.toList n1 q from by rw [hYu, hnm])
   clear hbq HBQ hnm hlq hlen hYu hk8
   go_wp2_with fail
   refine KT8.out.mono ?_
   rintro e w5 ⟨rfl, hs5⟩
   obtain ⟨nb5, e5, o5, n5⟩ := hs5.parts
   have HU5 := hid (HU4.out.go e5 n5)
   have HO5 := hid o5
   have KU := hid (hU g tb w2.heap.size nb5 E q n1 d c NM w5 o5 (by have := HU5.out.old; have := HU5.out.exc.size; omega) HU5.out.box HU5.out.old.2.2.2.1 HU5.out.old.2.2.2.2.1 (fun e => HU5.out.bq (.inr e.symm)) HLEN.out hd)
   rw [← HYU.out] at KU
   clear hs5 e5 o5 n5 KT8
   go_wp2_with fail
   refine KU.out.mono ?_
   rintro e w6 ⟨nb6, k6, ST6, A6, c6, cc6, Z6, rfl, u6, o6, z6, f6⟩
   have HR := hid (show CqA g tb w2.heap.size nb2 w3 E NM Y w6 from ⟨nb6, k6, ST6, A6, c6, cc6, Z6, HU5.out.cas u6.exc u6.box u6.nbb, o6, z6, fun f st h => by
    obtain ⟨gg, h1, h2⟩ := f6 f st h
    exact ⟨gg, h1, h2.exc (Exc.refl (fun _ => False) w6) (fun _ _ h => h) (fun k hk => ⟨Nat.le_trans HU5.out.exc.size hk.1, hk.2⟩)⟩⟩)
   clear u6 o6 z6 f6
   go_wp2
   go_meet
   exact HR.out
 case rest =>
 obtain ⟨nb6, k, ST, A, n, cc, Z, u6, o6, z6, f6⟩ := hcut
 obtain ⟨w6, hw6⟩ : ∃ w6 : World, w6 = wc := ⟨_, rfl⟩
 rw [← hw6] at u6 o6 f6
 have HU6 := hid u6
 have HF6 := hid (fun f st h => (show ∃ gg, f = F.one k [] NM.data.toList ST.data.toList gg .nil ∧ CwS w6 (fun j => (w3.heap.size ≤ j ∧ some j ≠ nb6) ∧ j < w6.heap.size) gg (.slice A n cc) from by
  obtain ⟨gg, h1, h2⟩ := f6 f st h
  exact ⟨gg, h1, h2.inQ⟩))
 have KT3 := rtake_any 3 (by decide) o6
 rw [z6] at KT3
 have KT3 := hid KT3
 clear u6 o6 z6 f6
 go_upto_region 6 with (fail)
 rw [← hw6]
 clear hw6
 go_wp2_with fail
 refine KT3.out.mono ?_
 rintro e w8 ⟨rfl, hs8⟩
 obtain ⟨nb8, e8, o8, n8⟩ := hs8.parts
 have HU8 := hid (HU6.out.go e8 n8)
 have HO8 := hid o8
 have HNR8 := hid (show nb8 ≠ some w.heap.size from fun e => by
  have h1 := HSZ.out
  rcases HU8.out.nbb with h | h
  ·exact HNR.out (by rw [← h, e])
  ·have := h _ e
   omega)
 have HRES := hid (HB3.out.exc HU8.out.exc (fun h => by
  have h1 := HSZ.out
  have h2 := HG.out
  rcases h with (h | h) | h
  ·omega
  ·exact HNR.out h.symm
  ·omega))
 have HF8 := hid (fun f st h => (show ∃ gg, f = F.one k [] NM.data.toList ST.data.toList gg .nil ∧ CwS w8 (fun j => w3.heap.size ≤ j ∧ some j ≠ nb8) gg (.slice A n cc) from by
  obtain ⟨gg, h1, h2⟩ := HF6.out f st h
  refine ⟨gg, h1, h2.exc e8 (fun j hj hq => ?_) (fun j hj => ⟨hj.1.1, fun e0 => ?_⟩)⟩
  ·rcases hq with hq | hq
   ·have := HG.out; have := HSZ.out; have := hj.1.1; omega
   ·exact hj.1.2 hq
  ·rcases n8 with h | h
   ·exact hj.1.2 (e0.trans h)
   ·have := h j e0.symm
    have := hj.2
    omega))
 have q0 := HU8.out.box.cell 0 _ rfl
 have q1 := HU8.out.box.cell 1 _ rfl
 have q2 := HU8.out.box.cell 2 _ rfl
 have q3 := HU8.out.box.cell 3 _ rfl
 have q4 := HU8.out.box.cell 4 _ rfl
 have q5 := HU8.out.box.cell 5 _ rfl
 have r0 := HRES.out.cell 0 _ rfl
 have r1 := HRES.out.cell 1 _ rfl
 have r2 := HRES.out.cell 2 _ rfl
 have r3 := HRES.out.cell 3 _ rfl
 have r4 := HRES.out.cell 4 _ rfl
 have r5 := HRES.out.cell 5 _ rfl
 have u0 := frz_of HRES.out 0
 have u1 := frz_of HRES.out 1
 have u2 := frz_of HRES.out 2
 have u3 := frz_of HRES.out 3
 have u4 := frz_of HRES.out 4
 have u5 := frz_of HRES.out 5
 clear hs8 e8 o8 n8 KT3
 go_wp2
 have hat := at_six (b0 := .int .i64 k) (b1 := .string ⟨#[]⟩) (b2 := .string NM) (b3 := .string ST) (b4 := .slice A n cc) (b5 := .slice none 0 0) HRES.out
 clear q0 q1 q2 q3 q4 q5 r0 r1 r2 r3 r4 r5 u0 u1 u2 u3 u4 u5
 refine bodyPost_ret (results_cell_row rfl _ _ w.heap.size 50 _ (0, 0) _ rfl hat Tryz.underlying50 rfl (by kernel_rfl)) rfl ?_
 clear hat
 rw [← HYY.out]
 exact arg_endQ HE3.out HN3.out (by have := HSZ.out; omega) HSZ.out.1 HG.out htb HU8.out HO8.out HNR8.out HF8.out exc_six
set_option maxHeartbeats 2000000 in
theorem rmsg_zero : MsgQ 0 := by
 intro g tb nb E X d c w h htb hX hd
 rcases X with x | st
 ·have HO := hid h
  have b1 : (x.1 == 0) = false := by rw [beq_eq_false_iff_ne]; exact h.ne
  have c4 : w.cell? ⟨g, 4, none⟩ = some (.int .i64 x.1) := h.cell4
  clear h hX
  go_enter Tryz.func78, Tryz.ntmps78
  go_wp2_with fail
  go_loopw [7] (fun (o : Value) (wr : World) => o = .slice none 0 0 ∧ wr = w) (fun _ _ => 0)
  case atStart => exact ⟨rfl, rfl⟩
  case round =>
   obtain ⟨rfl, rfl⟩ := hrel
   go_wp2
   go_ret
   exact ⟨.error x, nb, .inl rfl, ⟨none, 0, 0, rfl, fun f st h => (by cases h)⟩, Exc.refl _ _, HO.out, .inl rfl⟩
 ·exact absurd (hX st rfl).1 (Nat.not_lt_zero _)
set_option maxHeartbeats 2000000 in
theorem rmsg_bad {g tb E : Nat} {nb : Option Nat} {x : Err} {d : Int} {c : Bool} {w : World} (h : RqO g tb nb E w (.error x)) : Calls Tryz.prog 78 #[.pointer (some ⟨g, 0, none⟩), .int .i64 d, .bool c] w fun e w' => e = .returned (.slice none 0 0) ∧ w = w' := by
 have b1 : (x.1 == 0) = false := by rw [beq_eq_false_iff_ne]; exact h.ne
 have c4 : w.cell? ⟨g, 4, none⟩ = some (.int .i64 x.1) := h.cell4
 clear h
 go_enter Tryz.func78, Tryz.ntmps78
 go_wp2_with fail
 go_loopw [7] (fun (o : Value) (wr : World) => o = .slice none 0 0 ∧ wr = w) (fun _ _ => 0)
 case atStart => exact ⟨rfl, rfl⟩
 case round =>
  obtain ⟨rfl, rfl⟩ := hrel
  go_wp2
  go_ret
  exact ⟨rfl, rfl⟩
theorem msgQ_all : ∀ N, MsgQ N
 | 0 => rmsg_zero
 | N + 1 => rmsg_step N (msgQ_all N) (rarg N (ruse N (rcas N (msgQ_all N))))
theorem rmsg_any {g tb E : Nat} {nb : Option Nat} {X : Except Err St} {d : Nat} {c : Bool} {w : World} (h : RqO g tb nb E w X) (htb : tb < w.heap.size) (hd : d ≤ 8) :
 Calls Tryz.prog 78 #[.pointer (some ⟨g, 0, none⟩), .int .i64 ((d : Int) + 1), .bool c] w (RetMQ g tb nb w E (X.bind (msgC E d c))) := by
 rcases X with e | st
 ·exact msgQ_all 0 g tb nb E (.error e) d c w h htb (fun st h => by cases h) (by omega)
 ·exact msgQ_all (st.left.length + 1) g tb nb E (.ok st) d c w h htb (fun st' h' => by injection h' with h'; subst h'; exact ⟨Nat.lt_succ_self _, hd⟩) (by omega)
end Go.Proofs.YtpfmojeigjmlfaaGreatDoor
