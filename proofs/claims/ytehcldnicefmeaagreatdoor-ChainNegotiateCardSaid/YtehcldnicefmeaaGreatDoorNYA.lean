import Derived.Test.YtehcldnicefmeaaGreatDoorCq
import Derived.Test.YtehcldnicefmeaaGreatDoorCu
import Derived.Test.YtehcldnicefmeaaGreatDoorNXH
import Derived.Test.YtehcldnicefmeaaGreatDoorMd
import Derived.Test.YtehcldnicefmeaaGreatDoorNXB
import Derived.Test.YtehcldnicefmeaaGreatDoorNXA
import Derived.Test.YtehcldnicefmeaaGreatDoorNXF
import Derived.Test.YtehcldnicefmeaaGreatDoorCh
import Derived.Test.YtehcldnicefmeaaGreatDoorNXC
import Derived.Test.YtehcldnicefmeaaGreatDoorNXG
import Derived.Test.YtehcldnicefmeaaGreatDoorCs
namespace Go.Proofs.YtehcldnicefmeaaGreatDoor
open Go.RowKit
set_option linter.unusedSimpArgs false
set_option linter.unusedVariables false

/-! The best locale, by the program. -/
theorem want_ok {al : List Ali} : ∀ {l : List BytesC}, (∀ s ∈ l, (canL al s).2 = 0) → wantC al l = (l.map fun s => (canL al s).1, 0)
  | [], _ => rfl
  | s :: r, h => by
    unfold wantC
    rw [if_pos (h s (by simp)), want_ok (l := r) fun x hx => h x (by simp [hx])]
    simp
theorem want_bad {al : List Ali} : ∀ {l : List BytesC} {k : Nat} {s : BytesC}, (∀ j x, j < k → l[j]? = some x → (canL al x).2 = 0) → l[k]? = some s → (canL al s).2 ≠ 0 → wantC al l = ([], (canL al s).2)
  | [], k, s, _, h, _ => by simp at h
  | x :: r, 0, s, _, h, hb => by
    simp at h
    subst h
    unfold wantC
    rw [if_neg hb]
  | x :: r, k + 1, s, hp, h, hb => by
    unfold wantC
    rw [if_pos (hp 0 x (by omega) rfl), want_bad (l := r) (k := k) (fun j y hj hy => hp (j + 1) y (by omega) (by simpa using hy)) (by simpa using h) hb, if_neg hb]
def canB (al : List Ali) (s : ByteArray) : ByteArray := ⟨(canL al s.data.toList).1.toArray⟩
theorem Sl.one2 (w : World) (X : Obj) (u : Value) (t : TypeId) : Sl ((w.alloc X).alloc (.cells #[u] t)) (some ⟨w.heap.size + 1, 0, none⟩) 1 [u] := by
  have h := Sl.one (w.alloc X) u t
  rwa [World.size_alloc] at h
def WantI (w2 : World) (al : List Ali) (R : List ByteArray) (n : Nat) (out i : Value) (wr : World) : Prop :=
  ∃ k : Nat, k ≤ n ∧ i = .int .i64 k ∧ (∀ j x, j < k → (dl R)[j]? = some x → (canL al x).2 = 0) ∧ wr.ownsRow w2.heap.size 9 1 out k (((R.take k).map (canB al)).map .string) ∧ Ext w2 wr
def HaveI (w2 : World) (l : List Lc) (n : Nat) (out i : Value) (wr : World) : Prop :=
  ∃ k : Nat, k ≤ n ∧ i = .int .i64 k ∧ wr.ownsRow w2.heap.size 9 1 out k (((l.take k).map Lc.t).map .string) ∧ Ext w2 wr
theorem canB_size (al : List Ali) (s : ByteArray) : (canB al s).size ≤ 60 := by
  show (canL al s.data.toList).1.toArray.size ≤ 60
  rw [List.size_toArray]
  by_cases h : (canL al s.data.toList).2 = 0
  · obtain ⟨e, h1, h2, _⟩ := can_shape h
    rw [h1]; exact textP_len h2
  · rw [can_bad h]; simp
theorem dl_get {R : List ByteArray} {k : Nat} {s : ByteArray} (h : R[k]? = some s) : (dl R)[k]? = some s.data.toList := by unfold dl; rw [List.getElem?_map, h]; rfl
theorem dl_want (al : List Ali) (R : List ByteArray) : dl (R.map (canB al)) = (dl R).map fun s => (canL al s).1 := by
  unfold dl
  rw [List.map_map, List.map_map]
  rfl
theorem dl_have (l : List Lc) : dl (l.map Lc.t) = (l.map locOf).map (·.1) := by
  unfold dl
  rw [List.map_map, List.map_map]
  rfl
def RetNeg (w : World) (F : BytesC × Int) (e : Ending) (w' : World) : Prop := ∃ b : ByteArray, e = .returned (.tuple #[.string b, .int .i64 F.2]) ∧ b.data.toList = F.1 ∧ Ext w w'
theorem ret_neg {w w' : World} {F : BytesC × Int} {b : ByteArray} {c : Int} (h : F = (b.data.toList, c)) (hw : Ext w w') : RetNeg w F (.returned (.tuple #[.string b, .int .i64 c])) w' := by subst h; exact ⟨b, rfl, rfl, hw⟩
theorem neg_no {T : List LocP} {al : List Ali} {l : List NearP} {R : List BytesC} (h : (usableC T al && validN l) = false) : negC T al l R = ([], 1) := by unfold negC; rw [if_neg (by rw [h]; decide)]
theorem neg_want {T : List LocP} {al : List Ali} {l : List NearP} {R : List BytesC} {e : Int} (h : (usableC T al && validN l) = true) (hw : wantC al R = ([], e)) (he : e ≠ 0) : negC T al l R = ([], e) := by
  unfold negC; rw [if_pos h, hw, if_neg he]
theorem neg_root {T : List LocP} {al : List Ali} {l : List NearP} {R W S : List BytesC} (h : (usableC T al && validN l) = true) (hw : wantC al R = (W, 0)) (hS : S = T.map (·.1)) (hb : (bestR EC l W S).2 ≠ 0) : negC T al l R = (undP, 0) := by
  subst hS
  unfold negC; rw [if_pos h, hw, if_pos rfl, if_neg hb]
theorem neg_best {T : List LocP} {al : List Ali} {l : List NearP} {R W S : List BytesC} {k : Nat} (h : (usableC T al && validN l) = true) (hw : wantC al R = (W, 0)) (hS : S = T.map (·.1)) (hb : (bestR EC l W S).2 = 0) (hk : (bestR EC l W S).1 = (k : Int)) : negC T al l R = ((tgC T k).1, 0) := by
  subst hS
  unfold negC; rw [if_pos h, hw, if_pos rfl, if_pos hb, hk, Int.toNat_natCast]

set_option maxHeartbeats 4000000 in
set_option maxRecDepth 100000 in
theorem tneg_any (l : List Lc) (al : List Ali) (nl : List Nr) (L A N : Option Addr) (ln lc n c m d : Nat) (R : List ByteArray) (E : Option Addr) (en ec : Nat) (w : World) (hm : Mx w) (hL : Lcs w L ln l) (hln : ln ≤ 100000) (hA : Als w A n al) (hn : n ≤ 100000) (hz : ∀ a ∈ al, a.1.size ≤ 60000 ∧ a.2.size ≤ 60000) (hs : ∀ x ∈ l, x.t.size ≤ 60000)
    (hN : Nrs w N m nl) (hmm : m ≤ maxLen) (hzn : ∀ x ∈ nl, x.f.size ≤ 1000000 ∧ x.o.size ≤ 1000000) (hR : Sl w E en (R.map .string)) (hen : en ≤ 100000) (hRs : ∀ s ∈ R, s.size ≤ 60000) :
    Calls Tryz.prog 25 #[.agg #[.slice L ln lc, .slice A n c, .slice N m d], .slice E en ec] w (RetNeg w (negC (l.map locOf) al (nl.map nearOf) (dl R))) := by
  obtain ⟨i0, hi, hz0, hz1, hz2⟩ := info_parts (show (Tryz.prog.info? 9).map (fun i => (i.zero, i.size, i.bytes)) = some (some (.string ⟨#[]⟩), 1, 16) from by kernel_rfl)
  have KB := Lib.hid (AtC.new w #[.slice L ln lc, .slice A n c, .slice N m d] : AtC 26 _ _ _)
  have HW0 := Lib.hid ((Ext.refl w).alloc (.cells #[.slice L ln lc, .slice A n c, .slice N m d] 26))
  have h0 := KB.out.cell 0 _ rfl
  have h1 := KB.out.cell 1 _ rfl
  have h2 := KB.out.cell 2 _ rfl
  have HM := Lib.hid hm
  have HL := Lib.hid hL
  have HLN := Lib.hid hL.len
  have HA := Lib.hid hA
  have HN := Lib.hid hN
  have HR := Lib.hid hR
  have hrl : R.length = en := by have h := hR.1; rwa [List.length_map] at h
  have HRL := Lib.hid hrl
  have HZ := Lib.hid hz
  have HS := Lib.hid hs
  have HZN := Lib.hid hzn
  have HRS := Lib.hid hRs
  have K1 := cusable_any l al L A N ln lc n c m d _ (hm.ext HW0.out) (hL.ext HW0.out) hln (hA.ext HW0.out) hn hz hs
  have K2 := fun W (h : Ext w W) => tvalN_any nl N m d W (HN.out.ext h) hmm HZN.out
  have f0 := fun h => neg_no (T := l.map locOf) (al := al) (l := nl.map nearOf) (R := dl R) h
  have f1 := fun e h => neg_want (T := l.map locOf) (al := al) (l := nl.map nearOf) (R := dl R) (e := e) h
  have f2 := fun W S h => neg_root (T := l.map locOf) (al := al) (l := nl.map nearOf) (R := dl R) (W := W) (S := S) h
  have f3 := fun W S k h => neg_best (T := l.map locOf) (al := al) (l := nl.map nearOf) (R := dl R) (W := W) (S := S) (k := k) h
  generalize negC (l.map locOf) al (nl.map nearOf) (dl R) = F at f0 f1 f2 f3
  generalize usableC (l.map locOf) al = u at K1 f0 f1 f2 f3
  generalize validN (nl.map nearOf) = v at K2 f0 f1 f2 f3
  have HF0 := Lib.hid f0
  have HF1 := Lib.hid f1
  have HF2 := Lib.hid f2
  have HF3 := Lib.hid f3
  have HK1 := Lib.hid K1
  have HK2 := Lib.hid K2
  clear hm hL hA hN hR hz hs hzn hRs hrl K1 K2 f0 f1 f2 f3
  go_enter Tryz.func25, Tryz.ntmps25
  cases u
  · have HF := Lib.hid (HF0.out rfl)
    go_wp2_with fail
    refine HK1.out.mono ?_
    rintro e2 w2 ⟨rfl, hw2⟩
    have HW2 := Lib.hid (HW0.out.trans hw2)
    clear hw2 h0 h1 h2
    go_wp2
    go_ret2
    exact ret_neg HF.out HW2.out
  go_wp2_with fail
  refine HK1.out.mono ?_
  rintro e2 w2 ⟨rfl, hw2⟩
  have HW2 := Lib.hid (HW0.out.trans hw2)
  have KB2 := Lib.hid (KB.out.ext hw2)
  clear hw2 h0 h1 h2
  have h2 := KB2.out.cell 2 _ rfl
  cases v
  · have HF := Lib.hid (HF0.out rfl)
    go_wp2_with fail
    refine (HK2.out _ HW2.out).mono ?_
    rintro e2 w3 ⟨rfl, hw3⟩
    have HW3 := Lib.hid (HW2.out.trans hw3)
    clear hw3 h2
    go_wp2
    go_ret2
    exact ret_neg HF.out HW3.out
  go_wp2_with fail
  refine (HK2.out _ HW2.out).mono ?_
  rintro e2 w3 ⟨rfl, hw3⟩
  have HW3 := Lib.hid (HW2.out.trans hw3)
  have KB3 := Lib.hid (KB2.out.ext hw3)
  clear hw3 h2
  go_wp2_with fail
  go_loopw [6, 27] (WantI w3 al R en) (fun _ i _ => en - (intOf i).toNat)
  case atStart => exact ⟨0, Nat.zero_le _, rfl, fun j x h _ => absurd h (Nat.not_lt_zero j), World.ownsRow_nil _ _ _ _, Ext.refl _⟩
  case round =>
    obtain ⟨k, hk, rfl, hok, how, hw⟩ := hrel
    have HOK := Lib.hid hok
    have HOW := Lib.hid how
    have HW := Lib.hid hw
    clear hok how hw
    by_cases hkn : k < en
    · obtain ⟨ad, x, rfl, hx, hcx⟩ := (HR.out.ext (HW3.out.trans HW.out)).at_map hkn
      have g1 := (KB3.out.ext HW.out).cell 1 _ rfl
      have hkI : (k : Int) < (en : Int) := by omega
      have K3 := tacan_any al x A n c wr (HM.out.ext (HW3.out.trans HW.out)) (HA.out.ext (HW3.out.trans HW.out)) hn HZ.out (HRS.out x (List.mem_of_getElem? hx))
      rw [show strv (canL al x.data.toList).1 = .string (canB al x) from rfl] at K3
      have HX := Lib.hid hx
      have hbad := fun h => HF1.out (canL al x.data.toList).2 rfl (want_bad HOK.out (dl_get hx) h) h
      have hgo := HOK.out
      have hnx : (canL al x.data.toList).2 = 0 → ∀ j y, j < k + 1 → (dl R)[j]? = some y → (canL al y).2 = 0 := fun h j y hj hy => by
        by_cases e : j = k
        · subst e
          rw [dl_get HX.out] at hy
          injection hy with hy
          rw [← hy]; exact h
        · exact hgo j y (by omega) hy
      generalize (canL al x.data.toList).2 = ce at K3 hbad hnx
      have HBAD := Lib.hid hbad
      have HNX := Lib.hid hnx
      have HK3 := Lib.hid K3
      clear hx K3 hbad hgo hnx
      by_cases hce : ce = 0
      · subst hce
        go_wp2_with fail
        refine HK3.out.mono ?_
        rintro e4 w4 ⟨rfl, hw4⟩
        have HW4 := Lib.hid (HW.out.trans hw4)
        have HOW4 := Lib.hid (own_ext HOW.out hw4)
        clear hw4 g1 hcx
        go_wp2_with (at_builtin; refine wpList_app2 _ rfl _ _ 29 rfl w3.heap.size 9 i0 _ 16 Tryz.underlying29 hi hz0 hz1 hz2 rfl _ k _ rfl (HOW4.out.alloc _) _ 1 _ _ rfl (Sl.one _ _ _) (by simp [Value.oneCell']) (by unfold maxLen; omega) (by omega) (by have := Ext.size HW4.out; simp; omega) ?_; intro v6 w6 hown6 hgrow6 hwh6; have HO6 := Lib.hid hown6; have HX6 := Lib.hid (ext_grown (a := w3) (B := w3.heap.size) (HW4.out.alloc _) (HOW4.out.alloc _) (Nat.le_refl _) hgrow6); clear hown6 hgrow6 hwh6)
        all_goals refine ⟨⟨k + 1, by omega, by go_num, HNX.out (by first | exact rfl | trivial), ?_, HX6.out⟩, by simp [intOf]; omega⟩
        all_goals rw [take_next HX.out, List.map_append, List.map_append]
        all_goals exact HO6.out
      · have hnz : (ce == 0) = false := by simpa using hce
        have HF := Lib.hid (HBAD.out hce)
        go_wp2_with fail
        refine HK3.out.mono ?_
        rintro e4 w4 ⟨rfl, hw4⟩
        have HW4 := Lib.hid (HW.out.trans hw4)
        clear hw4 g1 hcx
        go_wp2
        go_ret2
        exact ret_neg HF.out (HW3.out.trans HW4.out)
    · have hkk : k = en := by omega
      subst hkk
      have hwant : wantC al (dl R) = ((dl R).map fun s => (canL al s).1, 0) := want_ok fun s hs => by
        obtain ⟨j, hj, rfl⟩ := List.getElem_of_mem hs
        exact HOK.out j _ (by have : (dl R).length = R.length := by unfold dl; simp
                              have := HRL.out; omega) (List.getElem?_eq_getElem hj)
      obtain ⟨A5, c5, hv5, hs5, hc5⟩ := own_sl HOW.out
      subst hv5
      rw [List.take_of_length_le (by rw [HRL.out]; exact Nat.le_refl _)] at hs5
      have HS5 := Lib.hid hs5
      have HWT := Lib.hid hwant
      have KB4 := Lib.hid (KB3.out.ext HW.out)
      have HW4 := Lib.hid (HW3.out.trans HW.out)
      have g0 := KB4.out.cell 0 _ rfl
      obtain ⟨wo, rfl⟩ : ∃ wo : World, wo = wr := ⟨_, rfl⟩
      clear hwant hs5 HOW
      go_wp2_with fail
      go_loopw [7, 49] (HaveI wo l ln) (fun _ i _ => ln - (intOf i).toNat)
      case atStart => exact ⟨0, Nat.zero_le _, rfl, World.ownsRow_nil _ _ _ _, Ext.refl _⟩
      case round =>
        obtain ⟨q, hq, rfl, how, hw⟩ := hrel
        have HOW := Lib.hid how
        have HW9 := Lib.hid hw
        clear how hw g0
        by_cases hqn : q < ln
        · obtain ⟨x, hx⟩ : ∃ x, l[q]? = some x := ⟨_, List.getElem?_eq_getElem (by have := HLN.out; omega)⟩
          obtain ⟨b, o, rfl, hb, hc⟩ := (HL.out.ext (HW4.out.trans HW9.out)).at_ hx
          have a0 := hc 0 _ rfl
          have a1 := hc 1 _ rfl
          have a2 := hc 2 _ rfl
          have a3 := hc 3 _ rfl
          have a4 := hc 4 _ rfl
          have a5 := hc 5 _ rfl
          have a6 := hc 6 _ rfl
          have a7 := hc 7 _ rfl
          have a8 := hc 8 _ rfl
          have a9 := hc 9 _ rfl
          have a10 := hc 10 _ rfl
          have a11 := hc 11 _ rfl
          have a12 := hc 12 _ rfl
          have a13 := hc 13 _ rfl
          have a14 := hc 14 _ rfl
          have a15 := hc 15 _ rfl
          rw [Nat.add_zero] at a0
          have hqI : (q : Int) < (ln : Int) := by omega
          have HX := Lib.hid hx
          have HOW9 := Lib.hid (HOW.out.alloc (.cells #[.string x.t, .string x.p, .string x.d, .slice (x.A 0) (x.n 0) (x.c 0), .slice (x.A 1) (x.n 1) (x.c 1), .string (x.s 0), .string (x.s 1), .string (x.s 2), .string (x.s 3), .int .i64 (x.i 0), .int .i64 (x.i 1), .slice (x.A 2) (x.n 2) (x.c 2), .slice (x.A 3) (x.n 3) (x.c 3), .slice (x.A 4) (x.n 4) (x.c 4), .slice (x.A 5) (x.n 5) (x.c 5), .slice (x.A 6) (x.n 6) (x.c 6)] 56))
          have HX9 := Lib.hid (HW9.out.alloc (.cells #[.string x.t, .string x.p, .string x.d, .slice (x.A 0) (x.n 0) (x.c 0), .slice (x.A 1) (x.n 1) (x.c 1), .string (x.s 0), .string (x.s 1), .string (x.s 2), .string (x.s 3), .int .i64 (x.i 0), .int .i64 (x.i 1), .slice (x.A 2) (x.n 2) (x.c 2), .slice (x.A 3) (x.n 3) (x.c 3), .slice (x.A 4) (x.n 4) (x.c 4), .slice (x.A 5) (x.n 5) (x.c 5), .slice (x.A 6) (x.n 6) (x.c 6)] 56))
          clear hx hc hb
          go_wp2_with (at_builtin; refine wpList_app2 _ rfl _ _ 29 rfl wo.heap.size 9 i0 _ 16 Tryz.underlying29 hi hz0 hz1 hz2 rfl _ q _ rfl (HOW9.out.alloc _) _ 1 _ _ rfl (Sl.one2 _ _ _ _) (by simp [Value.oneCell']) (by unfold maxLen; omega) (by omega) (by have := Ext.size HX9.out; simp at this ⊢; omega) ?_; intro v6 w6 hown6 hgrow6 hwh6; have HO6 := Lib.hid hown6; have HX6 := Lib.hid (ext_grown (a := wo) (B := wo.heap.size) (HX9.out.alloc _) (HOW9.out.alloc _) (Nat.le_refl _) hgrow6); clear hown6 hgrow6 hwh6)
          all_goals refine ⟨⟨q + 1, by omega, by go_num, ?_, HX6.out⟩, by simp [intOf]; omega⟩
          all_goals rw [take_next HX.out, List.map_append, List.map_append]
          all_goals exact HO6.out
        · have hqq : q = ln := by omega
          subst hqq
          obtain ⟨A7, c7, hv7, hs7, hc7⟩ := own_sl HOW.out
          subst hv7
          rw [List.take_of_length_le (by rw [HLN.out]; exact Nat.le_refl _)] at hs7
          have g2 := (KB4.out.ext HW9.out).cell 2 _ rfl
          have K5 := tbest_any nl N m d (R.map (canB al)) (l.map Lc.t) A5 A7 k c5 q c7 _ (HM.out.ext (HW4.out.trans HW9.out)) (HN.out.ext (HW4.out.trans HW9.out)) hmm HZN.out (HS5.out.ext HW9.out) hs7 hen hln
            (fun s hs => by obtain ⟨y, _, rfl⟩ := List.mem_map.1 hs; have := canB_size al y; omega) (fun s hs => by obtain ⟨y, hy, rfl⟩ := List.mem_map.1 hs; exact HS.out y hy)
          have hrg := fun h => best_range (l := nl.map nearOf) (R := dl (R.map (canB al))) (S := dl (l.map Lc.t)) h
          have f2 := HF2.out (dl (R.map (canB al))) (dl (l.map Lc.t)) rfl (by rw [dl_want]; exact HWT.out) (dl_have l)
          have f3 := fun k => HF3.out (dl (R.map (canB al))) (dl (l.map Lc.t)) k rfl (by rw [dl_want]; exact HWT.out) (dl_have l)
          have hdl : (dl (l.map Lc.t)).length = q := by unfold dl; rw [List.length_map, List.length_map]; exact HLN.out
          rw [hdl] at hrg
          generalize bestR EC (nl.map nearOf) (dl (R.map (canB al))) (dl (l.map Lc.t)) = D at K5 hrg f2 f3
          obtain ⟨bi, be⟩ := D
          simp only at K5 hrg f2 f3
          have HK5 := Lib.hid K5
          have HS7 := Lib.hid hs7
          have HG2 := Lib.hid f2
          have HG3 := Lib.hid f3
          clear K5 hs7 f2 f3 hdl HOW
          by_cases hbe : be = 0
          · subst hbe
            rcases hrg (.inl rfl) with h8 | ⟨kk, hkk1, hkk2⟩
            · exact absurd h8 (by decide)
            subst hkk1
            have HF := Lib.hid (HG3.out kk rfl rfl)
            have hkkI : (kk : Int) < (q : Int) := by omega
            go_wp2_with fail
            refine HK5.out.mono ?_
            rintro e6 w6 ⟨rfl, hw6⟩
            have HW6 := Lib.hid (HW9.out.trans hw6)
            obtain ⟨ad7, x7, rfl, hx7, hc7⟩ := (HS7.out.ext hw6).at_map hkk2
            have HX7 := Lib.hid (show (tgC (l.map locOf) kk).1 = x7.data.toList from by
              rw [List.getElem?_map] at hx7
              cases hl7 : l[kk]? with
              | none => rw [hl7] at hx7; cases hx7
              | some y =>
                rw [hl7] at hx7
                injection hx7 with hx7
                rw [tg_get (show (l.map locOf)[kk]? = some (locOf y) from by rw [List.getElem?_map, hl7]; rfl), ← hx7]
                rfl)
            clear hw6 g2 hx7 hrg
            go_wp2
            go_ret2
            exact ret_neg (by rw [HF.out, HX7.out]) (HW4.out.trans HW6.out)
          · have hnz : (be == 0) = false := by simpa using hbe
            have HF := Lib.hid (HG2.out hbe)
            go_wp2_with fail
            refine HK5.out.mono ?_
            rintro e6 w6 ⟨rfl, hw6⟩
            have HW6 := Lib.hid (HW9.out.trans hw6)
            clear hw6 g2 hrg
            go_wp2
            go_ret2
            exact ret_neg HF.out (HW4.out.trans HW6.out)
end Go.Proofs.YtehcldnicefmeaaGreatDoor
namespace Go.Proofs.YtehcldnicefmeaaGreatDoor
open Go.RowKit
set_option linter.unusedSimpArgs false
set_option linter.unusedVariables false

/-! The best locale, by the reference. -/
set_option maxHeartbeats 4000000 in
set_option maxRecDepth 100000 in
theorem rneg_any (l : List Lc) (al : List Ali) (nl : List Nr) (L A N : Option Addr) (ln lc n c m d : Nat) (R : List ByteArray) (E : Option Addr) (en ec : Nat) (w : World) (hL : Lcs w L ln l) (hln : ln ≤ 100000) (hA : Als w A n al) (hn : n ≤ 100000) (hz : ∀ a ∈ al, a.1.size ≤ 60000 ∧ a.2.size ≤ 60000) (hs : ∀ x ∈ l, x.t.size ≤ 60000)
    (hN : Nrs w N m nl) (hmm : m ≤ maxLen) (hzn : ∀ x ∈ nl, x.f.size ≤ 1000000 ∧ x.o.size ≤ 1000000) (hR : Sl w E en (R.map .string)) (hen : en ≤ 100000) (hRs : ∀ s ∈ R, s.size ≤ 60000) :
    Calls Tryz.prog 26 #[.agg #[.slice L ln lc, .slice A n c, .slice N m d], .slice E en ec] w (RetNeg w (negC (l.map locOf) al (nl.map nearOf) (dl R))) := by
  obtain ⟨i0, hi, hz0, hz1, hz2⟩ := info_parts (show (Tryz.prog.info? 9).map (fun i => (i.zero, i.size, i.bytes)) = some (some (.string ⟨#[]⟩), 1, 16) from by kernel_rfl)
  have KB := Lib.hid (AtC.new w #[.slice L ln lc, .slice A n c, .slice N m d] : AtC 26 _ _ _)
  have HW0 := Lib.hid ((Ext.refl w).alloc (.cells #[.slice L ln lc, .slice A n c, .slice N m d] 26))
  have h0 := KB.out.cell 0 _ rfl
  have h1 := KB.out.cell 1 _ rfl
  have h2 := KB.out.cell 2 _ rfl
  have HL := Lib.hid hL
  have HLN := Lib.hid hL.len
  have HA := Lib.hid hA
  have HN := Lib.hid hN
  have HR := Lib.hid hR
  have hrl : R.length = en := by have h := hR.1; rwa [List.length_map] at h
  have HRL := Lib.hid hrl
  have HZ := Lib.hid hz
  have HS := Lib.hid hs
  have HZN := Lib.hid hzn
  have HRS := Lib.hid hRs
  have K1 := rusable_any l al L A N ln lc n c m d _ (hL.ext HW0.out) hln (hA.ext HW0.out) hn hz hs
  have K2 := fun W (h : Ext w W) => rvalN_any nl N m d W (HN.out.ext h) hmm HZN.out
  have f0 := fun h => neg_no (T := l.map locOf) (al := al) (l := nl.map nearOf) (R := dl R) h
  have f1 := fun e h => neg_want (T := l.map locOf) (al := al) (l := nl.map nearOf) (R := dl R) (e := e) h
  have f2 := fun W S h => neg_root (T := l.map locOf) (al := al) (l := nl.map nearOf) (R := dl R) (W := W) (S := S) h
  have f3 := fun W S k h => neg_best (T := l.map locOf) (al := al) (l := nl.map nearOf) (R := dl R) (W := W) (S := S) (k := k) h
  generalize negC (l.map locOf) al (nl.map nearOf) (dl R) = F at f0 f1 f2 f3
  generalize usableC (l.map locOf) al = u at K1 f0 f1 f2 f3
  generalize validN (nl.map nearOf) = v at K2 f0 f1 f2 f3
  have HF0 := Lib.hid f0
  have HF1 := Lib.hid f1
  have HF2 := Lib.hid f2
  have HF3 := Lib.hid f3
  have HK1 := Lib.hid K1
  have HK2 := Lib.hid K2
  clear hL hA hN hR hz hs hzn hRs hrl K1 K2 f0 f1 f2 f3
  go_enter Tryz.func26, Tryz.ntmps26
  cases u
  · have HF := Lib.hid (HF0.out rfl)
    go_wp2_with fail
    refine HK1.out.mono ?_
    rintro e2 w2 ⟨rfl, hw2⟩
    have HW2 := Lib.hid (HW0.out.trans hw2)
    clear hw2 h0 h1 h2
    go_wp2
    go_ret2
    exact ret_neg HF.out HW2.out
  go_wp2_with fail
  refine HK1.out.mono ?_
  rintro e2 w2 ⟨rfl, hw2⟩
  have HW2 := Lib.hid (HW0.out.trans hw2)
  have KB2 := Lib.hid (KB.out.ext hw2)
  clear hw2 h0 h1 h2
  have h2 := KB2.out.cell 2 _ rfl
  cases v
  · have HF := Lib.hid (HF0.out rfl)
    go_wp2_with fail
    refine (HK2.out _ HW2.out).mono ?_
    rintro e2 w3 ⟨rfl, hw3⟩
    have HW3 := Lib.hid (HW2.out.trans hw3)
    clear hw3 h2
    go_wp2
    go_ret2
    exact ret_neg HF.out HW3.out
  go_wp2_with fail
  refine (HK2.out _ HW2.out).mono ?_
  rintro e2 w3 ⟨rfl, hw3⟩
  have HW3 := Lib.hid (HW2.out.trans hw3)
  have KB3 := Lib.hid (KB2.out.ext hw3)
  clear hw3 h2
  go_wp2_with fail
  go_loopw [6, 8] (WantI w3 al R en) (fun _ i _ => en - (intOf i).toNat)
  case atStart => exact ⟨0, Nat.zero_le _, rfl, fun j x h _ => absurd h (Nat.not_lt_zero j), World.ownsRow_nil _ _ _ _, Ext.refl _⟩
  case round =>
    obtain ⟨k, hk, rfl, hok, how, hw⟩ := hrel
    have HOK := Lib.hid hok
    have HOW := Lib.hid how
    have HW := Lib.hid hw
    clear hok how hw
    by_cases hkn : k < en
    · obtain ⟨ad, x, rfl, hx, hcx⟩ := (HR.out.ext (HW3.out.trans HW.out)).at_map hkn
      have g1 := fun v : ExtW wr => ((KB3.out.ext HW.out).ext v.h).cell 1 _ rfl
      have g3 : ∀ v : ExtW wr, v.v.cell? (ad.add k) = some (.string x) := fun v => (Ext.cell v.h (World.block_lt_of_cell? wr _ hcx)).trans hcx
      have hkI : (k : Int) < (en : Int) := by omega
      have K3 := fun v : ExtW wr => rcan20_any al x A n c v.v (HA.out.ext (HW3.out.trans (HW.out.trans v.h))) hn HZ.out (HRS.out x (List.mem_of_getElem? hx))
      rw [show strv (canL al x.data.toList).1 = .string (canB al x) from rfl] at K3
      have HX := Lib.hid hx
      have hbad := fun h => HF1.out (canL al x.data.toList).2 rfl (want_bad HOK.out (dl_get hx) h) h
      have hgo := HOK.out
      have hnx : (canL al x.data.toList).2 = 0 → ∀ j y, j < k + 1 → (dl R)[j]? = some y → (canL al y).2 = 0 := fun h j y hj hy => by
        by_cases e : j = k
        · subst e
          rw [dl_get HX.out] at hy
          injection hy with hy
          rw [← hy]; exact h
        · exact hgo j y (by omega) hy
      generalize (canL al x.data.toList).2 = ce at K3 hbad hnx
      have HBAD := Lib.hid hbad
      have HNX := Lib.hid hnx
      have HK3 := Lib.hid K3
      clear hx K3 hbad hgo hnx
      by_cases hce : ce = 0
      · subst hce
        go_wp2_with fail
        refine wp_region_ext (by kernel_rfl) (by kernel_rfl) ?_
        repeat (go_big_quiet_step ((go_at_call 61; with_reducible exact ExtW.call (HK3.out _))))
        refine wpQuiet_nil ?_
        intro w4 hwx4
        have hw4 := ext_of hwx4
        have HW4 := Lib.hid (HW.out.trans hw4)
        have HOW4 := Lib.hid (own_ext HOW.out hw4)
        clear hw4 hwx4 g1 g3 hcx
        go_wp2_with (at_builtin; refine wpList_app2 _ rfl _ _ 29 rfl w3.heap.size 9 i0 _ 16 Tryz.underlying29 hi hz0 hz1 hz2 rfl _ k _ rfl (HOW4.out.alloc _) _ 1 _ _ rfl (Sl.one _ _ _) (by simp [Value.oneCell']) (by unfold maxLen; omega) (by omega) (by have := Ext.size HW4.out; simp; omega) ?_; intro v6 w6 hown6 hgrow6 hwh6; have HO6 := Lib.hid hown6; have HX6 := Lib.hid (ext_grown (a := w3) (B := w3.heap.size) (HW4.out.alloc _) (HOW4.out.alloc _) (Nat.le_refl _) hgrow6); clear hown6 hgrow6 hwh6)
        all_goals refine ⟨⟨k + 1, by omega, by go_num, HNX.out (by first | exact rfl | trivial), ?_, HX6.out⟩, by simp [intOf]; omega⟩
        all_goals rw [take_next HX.out, List.map_append, List.map_append]
        all_goals exact HO6.out
      · have hnz : (ce == 0) = false := by simpa using hce
        have HF := Lib.hid (HBAD.out hce)
        go_wp2_with fail
        refine wp_region_ext (by kernel_rfl) (by kernel_rfl) ?_
        repeat (go_big_quiet_step ((go_at_call 61; with_reducible exact ExtW.call (HK3.out _))))
        refine wpQuiet_nil ?_
        intro w4 hwx4
        have HW4 := Lib.hid (HW.out.trans (ext_of hwx4))
        clear hwx4 g1 g3 hcx
        go_wp2
        go_ret2
        exact ret_neg HF.out (HW3.out.trans HW4.out)
    · have hkk : k = en := by omega
      subst hkk
      have hwant : wantC al (dl R) = ((dl R).map fun s => (canL al s).1, 0) := want_ok fun s hs => by
        obtain ⟨j, hj, rfl⟩ := List.getElem_of_mem hs
        exact HOK.out j _ (by have : (dl R).length = R.length := by unfold dl; simp
                              have := HRL.out; omega) (List.getElem?_eq_getElem hj)
      obtain ⟨A5, c5, hv5, hs5, hc5⟩ := own_sl HOW.out
      subst hv5
      rw [List.take_of_length_le (by rw [HRL.out]; exact Nat.le_refl _)] at hs5
      have HS5 := Lib.hid hs5
      have HWT := Lib.hid hwant
      have KB4 := Lib.hid (KB3.out.ext HW.out)
      have HW4 := Lib.hid (HW3.out.trans HW.out)
      obtain ⟨wo, rfl⟩ : ∃ wo : World, wo = wr := ⟨_, rfl⟩
      clear hwant hs5 HOW
      go_wp2_with fail
      go_loopw [7, 11] (HaveI wo l ln) (fun _ i _ => ln - (intOf i).toNat)
      case atStart => exact ⟨0, Nat.zero_le _, rfl, World.ownsRow_nil _ _ _ _, Ext.refl _⟩
      case round =>
        obtain ⟨q, hq, rfl, how, hw⟩ := hrel
        have HOW := Lib.hid how
        have HW9 := Lib.hid hw
        clear how hw
        have g0 := (KB4.out.ext HW9.out).cell 0 _ rfl
        by_cases hqn : q < ln
        · obtain ⟨x, hx⟩ : ∃ x, l[q]? = some x := ⟨_, List.getElem?_eq_getElem (by have := HLN.out; omega)⟩
          obtain ⟨b, o, rfl, hb, hc⟩ := (HL.out.ext (HW4.out.trans HW9.out)).at_ hx
          have a0 := hc 0 _ rfl
          rw [Nat.add_zero] at a0
          have hqI : (q : Int) < (ln : Int) := by omega
          have HX := Lib.hid hx
          have HOW9 := HOW
          have HX9 := HW9
          clear hx hc hb
          go_wp2_with (at_builtin; refine wpList_app2 _ rfl _ _ 29 rfl wo.heap.size 9 i0 _ 16 Tryz.underlying29 hi hz0 hz1 hz2 rfl _ q _ rfl (HOW9.out.alloc _) _ 1 _ _ rfl (Sl.one _ _ _) (by simp [Value.oneCell']) (by unfold maxLen; omega) (by omega) (by have := Ext.size HX9.out; simp; omega) ?_; intro v6 w6 hown6 hgrow6 hwh6; have HO6 := Lib.hid hown6; have HX6 := Lib.hid (ext_grown (a := wo) (B := wo.heap.size) (HX9.out.alloc _) (HOW9.out.alloc _) (Nat.le_refl _) hgrow6); clear hown6 hgrow6 hwh6)
          all_goals refine ⟨⟨q + 1, by omega, by go_num, ?_, HX6.out⟩, by simp [intOf]; omega⟩
          all_goals rw [take_next HX.out, List.map_append, List.map_append]
          all_goals exact HO6.out
        · have hqq : q = ln := by omega
          subst hqq
          obtain ⟨A7, c7, hv7, hs7, hc7⟩ := own_sl HOW.out
          subst hv7
          rw [List.take_of_length_le (by rw [HLN.out]; exact Nat.le_refl _)] at hs7
          have g2 := (KB4.out.ext HW9.out).cell 2 _ rfl
          have K5 := rbest_any nl N m d (R.map (canB al)) (l.map Lc.t) A5 A7 k c5 q c7 _ (HN.out.ext (HW4.out.trans HW9.out)) hmm HZN.out (HS5.out.ext HW9.out) hs7 hen hln
            (fun s hs => by obtain ⟨y, _, rfl⟩ := List.mem_map.1 hs; have := canB_size al y; omega) (fun s hs => by obtain ⟨y, hy, rfl⟩ := List.mem_map.1 hs; exact HS.out y hy)
          have hrg := fun h => best_range (l := nl.map nearOf) (R := dl (R.map (canB al))) (S := dl (l.map Lc.t)) h
          have f2 := HF2.out (dl (R.map (canB al))) (dl (l.map Lc.t)) rfl (by rw [dl_want]; exact HWT.out) (dl_have l)
          have f3 := fun k => HF3.out (dl (R.map (canB al))) (dl (l.map Lc.t)) k rfl (by rw [dl_want]; exact HWT.out) (dl_have l)
          have hdl : (dl (l.map Lc.t)).length = q := by unfold dl; rw [List.length_map, List.length_map]; exact HLN.out
          rw [hdl] at hrg
          generalize bestR EC (nl.map nearOf) (dl (R.map (canB al))) (dl (l.map Lc.t)) = D at K5 hrg f2 f3
          obtain ⟨bi, be⟩ := D
          simp only at K5 hrg f2 f3
          have HK5 := Lib.hid K5
          have HS7 := Lib.hid hs7
          have HG2 := Lib.hid f2
          have HG3 := Lib.hid f3
          clear K5 hs7 f2 f3 hdl HOW
          by_cases hbe : be = 0
          · subst hbe
            rcases hrg (.inl rfl) with h8 | ⟨kk, hkk1, hkk2⟩
            · exact absurd h8 (by decide)
            subst hkk1
            have HF := Lib.hid (HG3.out kk rfl rfl)
            have hkkI : (kk : Int) < (q : Int) := by omega
            go_wp2_with fail
            refine HK5.out.mono ?_
            rintro e6 w6 ⟨rfl, hw6⟩
            have HW6 := Lib.hid (HW9.out.trans hw6)
            obtain ⟨ad7, x7, rfl, hx7, hc7⟩ := (HS7.out.ext hw6).at_map hkk2
            have HX7 := Lib.hid (show (tgC (l.map locOf) kk).1 = x7.data.toList from by
              rw [List.getElem?_map] at hx7
              cases hl7 : l[kk]? with
              | none => rw [hl7] at hx7; cases hx7
              | some y =>
                rw [hl7] at hx7
                injection hx7 with hx7
                rw [tg_get (show (l.map locOf)[kk]? = some (locOf y) from by rw [List.getElem?_map, hl7]; rfl), ← hx7]
                rfl)
            clear hw6 g2 hx7 hrg
            go_wp2
            go_ret2
            exact ret_neg (by rw [HF.out, HX7.out]) (HW4.out.trans HW6.out)
          · have hnz : (be == 0) = false := by simpa using hbe
            have HF := Lib.hid (HG2.out hbe)
            go_wp2_with fail
            refine HK5.out.mono ?_
            rintro e6 w6 ⟨rfl, hw6⟩
            have HW6 := Lib.hid (HW9.out.trans hw6)
            clear hw6 g2 hrg
            go_wp2
            go_ret2
            exact ret_neg HF.out (HW4.out.trans HW6.out)
end Go.Proofs.YtehcldnicefmeaaGreatDoor
