import Derived.Test.YtiijdojihleggaaGreatDoorNZK
import Derived.Test.YtiijdojihleggaaGreatDoorNZG
import Derived.Test.YtiijdojihleggaaGreatDoorNB1
import Derived.Test.YtiijdojihleggaaGreatDoorShelf
import Derived.Test.YtiijdojihleggaaGreatDoorRows
import Derived.Test.YtiijdojihleggaaGreatDoorCards
import Derived.Test.YtiijdojihleggaaGreatDoorTie
import Derived.Shelf.Vars
set_option maxRecDepth 100000
set_option linter.unusedSimpArgs false
set_option linter.unusedVariables false
open Go.Lib (hid)
namespace Go.Proofs.YtiijdojihleggaaGreatDoor.lawMemoryNil
open Go.ChangeShapes Go.WideShapes Go.ChangeAt Go.RowKit
def LgI (W : World) (v : Value) (wr : World) : Prop := ∃ L : ByteArray, v = .string L ∧ L.size ≤ 4420 ∧ wr = W
def lgM (v : Value) : Nat := match v with | .string L => 5000 - L.size | _ => 0
def WdI (W : World) (n : Nat) (v i : Value) (wr : World) : Prop := ∃ j : Nat, i = .int .i64 j ∧ j ≤ 401 + n ∧ v = .string ⟨(repL j).toArray⟩ ∧ wr = W
set_option maxHeartbeats 8000000 in
theorem law (s t : ByteArray) (n : Nat) (w : World) (hm : Mx w) (hs : s.size ≤ maxLen) (ht : t.size ≤ maxLen) (hn : n < 256) : Calls Tryz.prog 9 #[.string s, .string t, .int .u8 n] w (RetTrue w) := by
 unfold maxLen at hs ht
 have HM := hid hm
 clear hm
 by_cases h1 : 400 < s.size
 ·go_enter Tryz.func9, Tryz.ntmps9
  go_wp2_with fail
  refine (awake_any _ HM.out).mono ?_
  rintro e w1 ⟨rfl, hw1⟩
  have HW1 := hid hw1
  clear hw1
  go_wp2
  go_ret
  exact ⟨rfl, HW1.out⟩
 by_cases h2 : 400 < t.size
 ·go_enter Tryz.func9, Tryz.ntmps9
  go_wp2_with fail
  refine (awake_any _ HM.out).mono ?_
  rintro e w1 ⟨rfl, hw1⟩
  have HW1 := hid hw1
  clear hw1
  go_wp2
  go_ret
  exact ⟨rfl, HW1.out⟩
 have hs2 : s.size ≤ 400 := by omega
 have ht2 : t.size ≤ 400 := by omega
 go_enter Tryz.func9, Tryz.ntmps9
 go_wp2_with fail
 refine (awake_any _ HM.out).mono ?_
 rintro e w1 ⟨rfl, hw1⟩
 have HW1 := hid hw1
 clear hw1
 go_wp2_with (go_at_call 13; refine (nGet_any 0 _).mono ?_; rintro e w2 ⟨rfl, rfl⟩)
 refine (nBest_any s 0 _ (by omega)).mono ?_
 rintro e w2 ⟨hr, hx2⟩
 have hr2 : e = .returned (.tuple #[.agg #[.int .i64 0, .int .i64 0, .string ⟨#[]⟩, .string ⟨#[]⟩], .bool false]) := by
  rcases hr with ⟨_, h⟩ | ⟨x, r, h, _⟩
  ·exact h
  ·cases h
 subst hr2
 have HX2 := hid (HW1.out.trans (hx2.alloc (.cells #[.int .i64 0, .int .i64 0, .string ⟨#[]⟩, .string ⟨#[]⟩] 39)))
 clear hr hx2
 go_upto_region 8 with (fail)
 obtain ⟨w3, hw3⟩ : ∃ x, x = w2.alloc (.cells #[.int .i64 0, .int .i64 0, .string ⟨#[]⟩, .string ⟨#[]⟩] 39) := ⟨_, rfl⟩
 rw [← hw3] at HX2 ⊢
 clear hw3
 go_wp2_with (first
  | (go_at_call 27; refine (nAdd_any _ _ _).mono ?_; rintro e w4 ⟨rfl, rfl⟩)
  | (go_at_call 28; refine (nLen_any _).mono ?_; rintro e w4 ⟨rfl, rfl⟩)
  | (go_at_call 14; refine (nAll_any s 0 _ (by omega)).mono ?_; rintro e w5 ⟨A5, c5, rfl, _, hx5⟩; have HX5 := hid (HX2.out.trans hx5); clear hx5; simp only [List.length_nil]))
 go_loopw [13] (LgI w5) (fun v _ => lgM v)
 case atStart => exact ⟨⟨#[]⟩, rfl, by decide, rfl⟩
 case round =>
  obtain ⟨L, rfl, hL, rfl⟩ := hrel
  by_cases hl : L.size ≤ 4000
  ·as_aux_lemma =>
   have hl2 : (L.size : Int) ≤ 4000 := by omega
   go_wp2
   have ha : (L ++ ((⟨#[97, 97, 97, 97, 97, 97, 97, 97, 97, 97, 97, 97, 97, 97, 97, 97, 97, 97, 97, 97]⟩ : ByteArray) ++ s)).size = L.size + (20 + s.size) := by rw [ByteArray.size_append, ByteArray.size_append]; rfl
   refine ⟨⟨_, rfl, by rw [ha]; omega, rfl⟩, ?_⟩
   show 5000 - (L ++ ((⟨#[97, 97, 97, 97, 97, 97, 97, 97, 97, 97, 97, 97, 97, 97, 97, 97, 97, 97, 97, 97]⟩ : ByteArray) ++ s)).size < 5000 - L.size
   rw [ha]
   omega
  ·have hl2 : ¬ (L.size : Int) ≤ 4000 := by omega
   have hLL : longB L = true := size_long (by omega)
   have HLL := hid hLL
   have HLS := hid (show 4000 < L.size from by omega)
   clear hLL
   go_wp2_with fail
   go_loopw [14, 15] (WdI wr n) (fun _ i _ => 401 + n - (intOf i).toNat)
   case atStart => exact ⟨0, rfl, Nat.zero_le _, rfl, rfl⟩
   case round =>
    obtain ⟨j, rfl, hj, rfl, rfl⟩ := hrel
    obtain ⟨Rj, hRj⟩ : ∃ Rj : ByteArray, Rj = ⟨(repL j).toArray⟩ := ⟨_, rfl⟩
    have hRs : Rj.size = 2 * j := by rw [hRj]; show (repL j).toArray.size = _; rw [List.size_toArray, repL_len]
    rw [← hRj]
    have hRb : Rj.size ≤ 2000 := by omega
    have HRJ := hid hRj
    have HRS := hid hRs
    clear hRj hRs
    by_cases hjn : j < 401 + n
    ·as_aux_lemma =>
     have hjI : (j : Int) < 401 + (n : Int) := by omega
     go_wp2
     refine ⟨⟨j + 1, by go_num, by omega, ?_, rfl⟩, by simp [intOf]; omega⟩
     rw [HRJ.out]
     congr 1
     apply ByteArray.ext
     apply Array.toList_inj.1
     rw [repL_snoc]
     simp
    ·have hje : j = 401 + n := by omega
     have HRL := hid (show longB Rj = true from by rw [HRJ.out]; exact rep_long (by omega))
     have hjI : ¬ (j : Int) < 401 + (n : Int) := by omega
     obtain ⟨hA1, hA2⟩ := add_short1 hs2 ht2
     have HA1 := hid hA1
     have HA2 := hid hA2
     have HSH := hid (show ShortM [(s, t)] from by have h := short_add (m := []) short_nil s t; rw [hA1] at h; exact h)
     clear hA1 hA2 hje
     go_wp2_with fail
     refine (newE w _ HX5.out).mono ?_
     rintro e w6 ⟨gm, rfl, h6, _⟩
     have H6 := hid h6
     clear h6
     go_wp2_with fail
     refine (addE L t H6.out (by omega) (by omega) (add_longS HLL.out)).mono ?_
     rintro e w7 ⟨rfl, h7⟩
     have H7 := hid h7
     clear h7
     go_wp2_with fail
     refine (addE t L H7.out (by omega) (by omega) (add_longT HLS.out)).mono ?_
     rintro e w8 ⟨rfl, h8⟩
     have H8 := hid h8
     clear h8
     go_wp2_with fail
     refine (addE Rj t H8.out (by omega) (by omega) (add_longS HRL.out)).mono ?_
     rintro e w9 ⟨rfl, h9⟩
     have H9 := hid h9
     clear h9
     go_wp2_with fail
     refine (lenE H9.out).mono ?_
     rintro e w10 ⟨rfl, rfl⟩
     go_wp2_with fail
     refine (addE s t H9.out (by omega) (by omega) HA1.out).mono ?_
     rintro e w11 ⟨rfl, h11⟩
     have H11 := hid h11
     clear h11
     go_wp2_with fail
     refine (addE s t H11.out (by omega) (by omega) HA2.out).mono ?_
     rintro e w12 ⟨rfl, h12⟩
     have H12 := hid h12
     clear h12
     go_wp2_with fail
     refine (bestE H12.out HSH.out stab_small (by simp) (by simp) Rj (by omega) 0 (all_long HRL.out)).mono ?_
     rintro e w13 ⟨hr, hx13⟩
     have hr13 : e = .returned (.tuple #[.agg #[.int .i64 0, .int .i64 0, .string ⟨#[]⟩, .string ⟨#[]⟩], .bool false]) := by
      rcases hr with ⟨_, h⟩ | ⟨x, r, h, _⟩
      ·exact h
      ·cases h
     subst hr13
     have H13 := hid (H12.out.ext (hx13.alloc (.cells #[.int .i64 0, .int .i64 0, .string ⟨#[]⟩, .string ⟨#[]⟩] 39)))
     clear hr hx13
     go_wp2_with fail
     refine (bestE H13.out HSH.out stab_small (by simp) (by simp) L (by omega) 0 (all_long HLL.out)).mono ?_
     rintro e w14 ⟨hr, hx14⟩
     have hr14 : e = .returned (.tuple #[.agg #[.int .i64 0, .int .i64 0, .string ⟨#[]⟩, .string ⟨#[]⟩], .bool false]) := by
      rcases hr with ⟨_, h⟩ | ⟨x, r, h, _⟩
      ·exact h
      ·cases h
     subst hr14
     have H14 := hid (H13.out.ext (hx14.alloc (.cells #[.int .i64 0, .int .i64 0, .string ⟨#[]⟩, .string ⟨#[]⟩] 39)))
     clear hr hx14
     go_wp2_with fail
     refine (allE H14.out HSH.out stab_small (by simp) (by simp) Rj (by omega) 0 (all_long HRL.out)).mono ?_
     rintro e w15 ⟨A15, c15, rfl, _, hx15⟩
     have H15 := hid (H14.out.ext hx15)
     clear hx15
     simp only [List.length_nil]
     go_wp2_with fail
     refine (lenE H15.out).mono ?_
     rintro e w16 ⟨rfl, rfl⟩
     go_wp2
     go_ret
     exact ⟨rfl, H15.out.out⟩
end Go.Proofs.YtiijdojihleggaaGreatDoor.lawMemoryNil
namespace Go.Proofs.YtiijdojihleggaaGreatDoor.lawMemoryNil
open Go.ChangeShapes Go.WideShapes Go.ChangeAt Go.RowKit
open Go.ChangeMaps (open_string shut_string)
def laidL : List (String × DataW Unit) := Rows.memoryNilRow.laid
theorem wf_u8 {x : Int} (h : (Lit.int .u8 x).wf = true) : ∃ a : Nat, x = a ∧ a < 256 := by
 have h2 : (decide (IntKind.u8.min ≤ x) && decide (x ≤ IntKind.u8.max)) = true := h
 rw [Bool.and_eq_true, decide_eq_true_eq, decide_eq_true_eq] at h2
 have h3 : (0 : Int) ≤ x := h2.1
 have h4 : x ≤ 255 := h2.2
 exact ⟨x.toNat, by omega, by omega⟩
theorem mx_of {W : World} (h : W.ShapedOpen Tryz.prog) : Mx W := Go.Proofs.cell_of_shapedOpen_int (zero := #[.int .i64 0]) (t := 3) h (of_decide_eq_true (by kernel_rfl)) (by kernel_rfl) rfl (by kernel_rfl) (by kernel_rfl) Tryz.underlying3
theorem lifted (os : Os) (started : os.Started) (H : Type) (enc : TypeId × Value → H) :
 ReturnsInHanded {} Tryz.checked os 9 .any (fun w args => (Rows.memoryNilSpec.pre enc Tryz.prog Tryz.f9 [] false w args ∧ laidMetH Tryz.prog laidL w) ∧ sizedMet enc Tryz.prog Tryz.f9 (OpenSpec.ofChange Rows.memoryNilSpec) false w args)
  (Rows.memoryNilSpec.post enc Tryz.prog Tryz.f9 false true false false) := by
 refine lifted_and_sized (C := Tryz.checked) (X := fun w _ => laidMetH Tryz.prog laidL w) (fun _ _ _ hh h => h.of_heap hh) own started (by kernel_rfl) Tryz.func9
  (ChangeSpec.witness_shaped (enc := enc) (C := Tryz.checked) (os := os) (X := fun w _ => laidMetH Tryz.prog laidL w) false (World.laidAll Tryz.prog os laidL) #[.string ⟨#[]⟩, .string ⟨#[]⟩, .int .u8 0] 8 (World.laidAll_os _ _ _)
   (World.shaped_of_ZipB (by kernel_rfl) (by kernel_rfl)) (by kernel_rfl) (by kernel_rfl) (by kernel_rfl)
   (by rw [MakeChecks.laidMetH_plain _ _ _ (by kernel_rfl)]; exact laidMet_laidAll _ (by kernel_rfl) (by kernel_rfl))) ?_
 intro W base args ds gs before hval0 hW hL hshape hsz0
 have hval : ∀ (j : Nat) t v, Tryz.f9.params[j]? = some t → args[j]? = some v → Value.okWide Tryz.prog W .any base t v := hval0
 have hW' := hW
 obtain ⟨p, q, hA0, hV, rfl, hfz, hnd⟩ := hW
 have hA : DataW.TrodAll enc Tryz.prog W 0 (fun _ => true) true Tryz.f9.params.toList args.toList ds p := hA0
 obtain ⟨rfl, rfl⟩ := trodVars_none hV
 have hsz : ∀ m ∈ DataW.weightsEach Tryz.prog Tryz.f9.params.toList ds, m ≤ reachBytes := fun m hm => hsz0 m (by
  rw [List.append_nil, show Rows.memoryNilSpec.plain.varTypes Tryz.checked.prog = [] from rfl, List.append_nil]
  exact hm)
 rw [Tryz.params9] at hA hval hsz
 obtain ⟨v0, v1, v2, d0, d1, d2, p0, p1, p2, rfl, rfl, rfl, h0, h1, h2⟩ := trodAll_three hA
 obtain ⟨s, rfl, rfl, rfl, hs⟩ := open_string Tryz.underlying9 (hval 0 9 v0 rfl rfl) h0
 obtain ⟨t, rfl, rfl, rfl, ht⟩ := open_string Tryz.underlying9 (hval 1 9 v1 rfl rfl) h1
 obtain ⟨x, rfl, rfl, rfl, wx⟩ := open_int Tryz.underlying5 (hval 2 5 v2 rfl rfl) h2
 obtain ⟨n, rfl, hn⟩ := wf_u8 wx
 refine (law s t n W (mx_of hshape) hs ht hn).mono fun e W' ⟨he, hw⟩ => ?_
 subst he
 exact ⟨_, rfl, law_post (t := 4) laidOut (by rw [Tryz.params9]; intro t ht; simp at ht; rcases ht with rfl | rfl <;> exact ⟨by kernel_rfl, of_decide_eq_true (by kernel_rfl)⟩) rfl Tryz.underlying4 rfl ⟨rfl, rfl, rfl⟩ hW' hw⟩
end Go.Proofs.YtiijdojihleggaaGreatDoor.lawMemoryNil
