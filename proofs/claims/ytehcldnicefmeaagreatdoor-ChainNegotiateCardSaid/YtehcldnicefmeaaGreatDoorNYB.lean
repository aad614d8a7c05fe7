import Derived.Test.YtehcldnicefmeaaGreatDoorAw22
import Derived.Test.YtehcldnicefmeaaGreatDoorCq
import Derived.Test.YtehcldnicefmeaaGreatDoorCn
import Derived.Test.YtehcldnicefmeaaGreatDoorNYA
import Derived.Test.YtehcldnicefmeaaGreatDoorNX3
import Derived.Test.YtehcldnicefmeaaGreatDoorShelf
import Derived.Test.YtehcldnicefmeaaGreatDoorRows
import Derived.Test.YtehcldnicefmeaaGreatDoorCards
import Derived.Test.YtehcldnicefmeaaGreatDoorTie
import Derived.Shelf.Vars
namespace Go.Proofs.YtehcldnicefmeaaGreatDoor.lawChainNegotiate
open Go.ChangeShapes Go.WideShapes Go.ChangeAt Go.RowKit
open Go.ChangeMaps (open_string shut_string)
set_option linter.unusedSimpArgs false
set_option linter.unusedVariables false


theorem neg_det {P : Program} {f : FuncId} {args : Array Value} {W : World} {rb : ByteArray} {e : Int} (h : Calls P f args W (RetNeg W (rb.data.toList, e))) : Calls P f args W fun e' W' => e' = .returned (.tuple #[.string rb, .int .i64 e]) ∧ Ext W W' := by
  refine h.mono ?_
  rintro e' W' ⟨b, he, hb, hw⟩
  have hb2 : b = rb := ByteArray.ext (Array.toList_inj.1 hb)
  subst hb2
  exact ⟨he, hw⟩
theorem ba_of {a b : ByteArray} (h : a.data.toList = b.data.toList) : a = b := ByteArray.ext (Array.toList_inj.1 h)
set_option maxRecDepth 100000 in
set_option maxHeartbeats 8000000 in
theorem law (l : List Lc) (al : List Ali) (nl : List Nr) (L A N : Option Addr) (ln lc n c m d : Nat) (S : List ByteArray) (E : Option Addr) (en ec : Nat) (w : World) (hm : Mx w) (hL : Lcs w L ln l) (hln : ln ≤ maxLen) (hok : ∀ x ∈ l, lcOK x) (hA : Als w A n al) (hn : n ≤ maxLen) (hz : ∀ a ∈ al, a.1.size ≤ reachBytes ∧ a.2.size ≤ reachBytes) (hN : Nrs w N m nl) (hmm : m ≤ maxLen) (hzn : ∀ a ∈ nl, a.f.size ≤ reachBytes ∧ a.o.size ≤ reachBytes) (hS : Sl w E en (S.map .string)) (hen : en ≤ maxLen) :
    Calls Tryz.prog 9 #[.agg #[.slice L ln lc, .slice A n c, .slice N m d], .slice E en ec] w (RetTrue w) := by
  have HX0 := Lib.hid ((Ext.refl w).alloc (.cells #[.slice L ln lc, .slice A n c, .slice N m d] 26))
  have HL := Lib.hid (hL.ext HX0.out)
  have hm0 := Lib.hid (hm.ext HX0.out)
  have HA := Lib.hid (hA.ext HX0.out)
  have HN := Lib.hid (hN.ext HX0.out)
  have KB := Lib.hid (AtC.new w #[.slice L ln lc, .slice A n c, .slice N m d] : AtC 26 _ _ _)
  have x0 := KB.out.cell 0 _ rfl
  have x1 := KB.out.cell 1 _ rfl
  have x2 := KB.out.cell 2 _ rfl
  have hf1 := fun W (h : Ext (w.alloc (.cells #[.slice L ln lc, .slice A n c, .slice N m d] 26)) W) => few22_any l al nl L A N ln lc n c m d W (HL.out.ext h) hln hok (HA.out.ext h) hn hz (HN.out.ext h) hmm hzn
  clear hL hA hN
  cases q0 : fewC l al nl with
  | false =>
   rw [q0] at hf1
   have HF1 := Lib.hid hf1
   clear q0 hf1
   go_enter Tryz.func9, Tryz.ntmps9
   go_wp2_with fail
   refine (awake_any _ (hm0.out.ext (Ext.refl _))).mono ?_
   rintro e w1 ⟨rfl, hw1⟩
   have HW1 := Lib.hid ((Ext.refl _).trans hw1)
   clear x0 x1 x2
   have x0 := (KB.out.ext HW1.out).cell 0 _ rfl
   have x1 := (KB.out.ext HW1.out).cell 1 _ rfl
   have x2 := (KB.out.ext HW1.out).cell 2 _ rfl
   clear hw1
   go_wp2_with fail
   refine (HF1.out _ HW1.out).mono ?_
   rintro e w2 ⟨rfl, hw2⟩
   have HW2 := Lib.hid (HW1.out.trans hw2)
   clear x0 x1 x2
   have x0 := (KB.out.ext HW2.out).cell 0 _ rfl
   have x1 := (KB.out.ext HW2.out).cell 1 _ rfl
   have x2 := (KB.out.ext HW2.out).cell 2 _ rfl
   clear hw2
   go_wp2_with fail
   refine (awake_any _ (hm0.out.ext HW2.out)).mono ?_
   rintro e w3 ⟨rfl, hw3⟩
   have HW3 := Lib.hid (HW2.out.trans hw3)
   clear x0 x1 x2
   have x0 := (KB.out.ext HW3.out).cell 0 _ rfl
   have x1 := (KB.out.ext HW3.out).cell 1 _ rfl
   have x2 := (KB.out.ext HW3.out).cell 2 _ rfl
   clear hw3
   go_wp2
   go_ret
   exact ⟨rfl, HX0.out.trans HW3.out⟩
  | true =>
   obtain ⟨g1, g2, g3, g4, g5⟩ := fewC_len q0
   have hl12 : ln ≤ 12 := by have := HL.out.len; omega
   have hn12 : n ≤ 12 := by have := HA.out.len; omega
   have hm30 : m ≤ 30 := by have := HN.out.len; omega
   have HZ1 := Lib.hid (show ∀ a ∈ al, a.1.size ≤ 60000 ∧ a.2.size ≤ 60000 from fun a ha => by have := g4 a ha; omega)
   have HZ2 := Lib.hid (show ∀ x ∈ l, x.t.size ≤ 60000 from fun x hx => by have := g2 x hx; omega)
   have HZ3 := Lib.hid (show ∀ x ∈ nl, x.f.size ≤ 1000000 ∧ x.o.size ≤ 1000000 from fun x hx => by have := g5 x hx; omega)
   clear g1 g2 g3 g4 g5
   rw [q0] at hf1
   have HF1 := Lib.hid hf1
   clear q0 hf1
   have HE := Lib.hid (hS.ext HX0.out)
   have hfs := fun W (h : Ext (w.alloc (.cells #[.slice L ln lc, .slice A n c, .slice N m d] 26)) W) => fews_any S E en ec W (HE.out.ext h) hen
   clear hS
   cases q1 : fewS S with
   | false =>
    rw [q1] at hfs
    have HFS := Lib.hid hfs
    clear q1 hfs
    go_enter Tryz.func9, Tryz.ntmps9
    go_wp2_with fail
    refine (awake_any _ (hm0.out.ext (Ext.refl _))).mono ?_
    rintro e w1 ⟨rfl, hw1⟩
    have HW1 := Lib.hid ((Ext.refl _).trans hw1)
    clear x0 x1 x2
    have x0 := (KB.out.ext HW1.out).cell 0 _ rfl
    have x1 := (KB.out.ext HW1.out).cell 1 _ rfl
    have x2 := (KB.out.ext HW1.out).cell 2 _ rfl
    clear hw1
    go_wp2_with fail
    refine (HF1.out _ HW1.out).mono ?_
    rintro e w2 ⟨rfl, hw2⟩
    have HW2 := Lib.hid (HW1.out.trans hw2)
    clear x0 x1 x2
    have x0 := (KB.out.ext HW2.out).cell 0 _ rfl
    have x1 := (KB.out.ext HW2.out).cell 1 _ rfl
    have x2 := (KB.out.ext HW2.out).cell 2 _ rfl
    clear hw2
    go_wp2_with fail
    refine (HFS.out _ HW2.out).mono ?_
    rintro e w3 ⟨rfl, hw3⟩
    have HW3 := Lib.hid (HW2.out.trans hw3)
    clear x0 x1 x2
    have x0 := (KB.out.ext HW3.out).cell 0 _ rfl
    have x1 := (KB.out.ext HW3.out).cell 1 _ rfl
    have x2 := (KB.out.ext HW3.out).cell 2 _ rfl
    clear hw3
    go_wp2_with fail
    refine (awake_any _ (hm0.out.ext HW3.out)).mono ?_
    rintro e w4 ⟨rfl, hw4⟩
    have HW4 := Lib.hid (HW3.out.trans hw4)
    clear x0 x1 x2
    have x0 := (KB.out.ext HW4.out).cell 0 _ rfl
    have x1 := (KB.out.ext HW4.out).cell 1 _ rfl
    have x2 := (KB.out.ext HW4.out).cell 2 _ rfl
    clear hw4
    go_wp2
    go_ret
    exact ⟨rfl, HX0.out.trans HW4.out⟩
   | true =>
    obtain ⟨g1, g2⟩ := fewS_len q1
    have he20 : en ≤ 20 := by have := HE.out.1; rw [List.length_map] at this; omega
    have hS60 : ∀ s ∈ S, s.size ≤ 60000 := fun s hs => by have := g2 s hs; omega
    rw [q1] at hfs
    have HFS := Lib.hid hfs
    have k1 := fun W (h : Ext (w.alloc (.cells #[.slice L ln lc, .slice A n c, .slice N m d] 26)) W) => tneg_any l al nl L A N ln lc n c m d S E en ec W (hm0.out.ext h) (HL.out.ext h) (by omega) (HA.out.ext h) (by omega) HZ1.out HZ2.out (HN.out.ext h) hmm HZ3.out (HE.out.ext h) (by omega) hS60
    have k2 := fun W (h : Ext (w.alloc (.cells #[.slice L ln lc, .slice A n c, .slice N m d] 26)) W) => rneg_any l al nl L A N ln lc n c m d S E en ec W (HL.out.ext h) (by omega) (HA.out.ext h) (by omega) HZ1.out HZ2.out (HN.out.ext h) hmm HZ3.out (HE.out.ext h) (by omega) hS60
    generalize negC (l.map locOf) al (nl.map nearOf) (dl S) = D at k1 k2
    obtain ⟨r, e⟩ := D
    obtain ⟨rb, hrb⟩ : ∃ rb : ByteArray, rb.data.toList = r := ⟨⟨r.toArray⟩, by simp⟩
    subst hrb
    have K1 := Lib.hid (fun W (h : Ext (w.alloc (.cells #[.slice L ln lc, .slice A n c, .slice N m d] 26)) W) => neg_det (k1 W h))
    have K2 := Lib.hid (fun W (h : Ext (w.alloc (.cells #[.slice L ln lc, .slice A n c, .slice N m d] 26)) W) => neg_det (k2 W h))
    clear k1 k2 q1 hfs g1 g2 hS60
    go_enter Tryz.func9, Tryz.ntmps9
    go_wp2_with fail
    refine (awake_any _ (hm0.out.ext (Ext.refl _))).mono ?_
    rintro e w1 ⟨rfl, hw1⟩
    have HW1 := Lib.hid ((Ext.refl _).trans hw1)
    clear x0 x1 x2
    have x0 := (KB.out.ext HW1.out).cell 0 _ rfl
    have x1 := (KB.out.ext HW1.out).cell 1 _ rfl
    have x2 := (KB.out.ext HW1.out).cell 2 _ rfl
    clear hw1
    go_wp2_with fail
    refine (HF1.out _ HW1.out).mono ?_
    rintro e w2 ⟨rfl, hw2⟩
    have HW2 := Lib.hid (HW1.out.trans hw2)
    clear x0 x1 x2
    have x0 := (KB.out.ext HW2.out).cell 0 _ rfl
    have x1 := (KB.out.ext HW2.out).cell 1 _ rfl
    have x2 := (KB.out.ext HW2.out).cell 2 _ rfl
    clear hw2
    go_wp2_with fail
    refine (HFS.out _ HW2.out).mono ?_
    rintro e w3 ⟨rfl, hw3⟩
    have HW3 := Lib.hid (HW2.out.trans hw3)
    clear x0 x1 x2
    have x0 := (KB.out.ext HW3.out).cell 0 _ rfl
    have x1 := (KB.out.ext HW3.out).cell 1 _ rfl
    have x2 := (KB.out.ext HW3.out).cell 2 _ rfl
    clear hw3
    go_wp2_with fail
    refine (K1.out _ HW3.out).mono ?_
    rintro e w4 ⟨rfl, hw4⟩
    have HW4 := Lib.hid (HW3.out.trans hw4)
    clear x0 x1 x2
    have x0 := (KB.out.ext HW4.out).cell 0 _ rfl
    have x1 := (KB.out.ext HW4.out).cell 1 _ rfl
    have x2 := (KB.out.ext HW4.out).cell 2 _ rfl
    clear hw4
    go_wp2_with fail
    refine (K2.out _ HW4.out).mono ?_
    rintro e w5 ⟨rfl, hw5⟩
    have HW5 := Lib.hid (HW4.out.trans hw5)
    clear x0 x1 x2
    have x0 := (KB.out.ext HW5.out).cell 0 _ rfl
    have x1 := (KB.out.ext HW5.out).cell 1 _ rfl
    have x2 := (KB.out.ext HW5.out).cell 2 _ rfl
    clear hw5
    go_wp2
    go_ret
    exact ⟨by first | rfl | simp | simp [*], HX0.out.trans HW5.out⟩

end Go.Proofs.YtehcldnicefmeaaGreatDoor.lawChainNegotiate
namespace Go.Proofs.YtehcldnicefmeaaGreatDoor.lawChainNegotiate
open Go.ChangeShapes Go.WideShapes Go.ChangeAt Go.RowKit
open Go.ChangeMaps (open_string shut_string)
set_option linter.unusedSimpArgs false
set_option linter.unusedVariables false

def laidL : List (String × DataW Unit) := Rows.chainNegotiateRow.laid
theorem mx_of {W : World} (h : W.ShapedOpen Tryz.prog) : Mx W := Tryz.laysM146.s1_3 W h

set_option maxRecDepth 100000 in
theorem lifted (os : Os) (started : os.Started) (H : Type) (enc : TypeId × Value → H) :
    ReturnsInHanded {} Tryz.checked os 9 .any (fun w args => (Rows.chainNegotiateSpec.pre enc Tryz.prog Tryz.f9 [] false w args ∧ laidMetH Tryz.prog laidL w) ∧ sizedMet enc Tryz.prog Tryz.f9 (OpenSpec.ofChange Rows.chainNegotiateSpec) false w args)
      (Rows.chainNegotiateSpec.post enc Tryz.prog Tryz.f9 false true false false) := by
  refine lifted_and_sized (C := Tryz.checked) (X := fun w _ => laidMetH Tryz.prog laidL w) (fun _ _ _ hh h => h.of_heap hh) own started (by kernel_rfl) Tryz.func9
    (ChangeSpec.witness_shaped (enc := enc) (C := Tryz.checked) (os := os) (X := fun w _ => laidMetH Tryz.prog laidL w) false (World.laidAll Tryz.prog os laidL) #[.agg #[.slice none 0 0, .slice none 0 0, .slice none 0 0], .slice none 0 0] 8 (World.laidAll_os _ _ _)
      (World.shaped_of_ZipB (by kernel_rfl) (by kernel_rfl)) (by kernel_rfl) (by kernel_rfl) (by kernel_rfl)
      (by rw [MakeChecks.laidMetH_plain _ _ _ (by kernel_rfl)]; exact laidMet_laidAll _ (by kernel_rfl) (by kernel_rfl))) ?_
  intro W base args ds gs before hval0 hW hL hshape hsz0
  have hval : ∀ (j : Nat) t v, Tryz.f9.params[j]? = some t → args[j]? = some v → Value.okWide Tryz.prog W .any base t v := hval0
  have hW' := hW
  obtain ⟨p, q, hA0, hV, rfl, hfz, hnd⟩ := hW
  have hA : DataW.TrodAll enc Tryz.prog W 0 (fun _ => true) true Tryz.f9.params.toList args.toList ds p := hA0
  obtain ⟨rfl, rfl⟩ := trodVars_none hV
  have hsz : ∀ m ∈ DataW.weightsEach Tryz.prog Tryz.f9.params.toList ds, m ≤ reachBytes := fun m hm => hsz0 m (by
    rw [List.append_nil, show Rows.chainNegotiateSpec.plain.varTypes Tryz.checked.prog = [] from rfl, List.append_nil]
    exact hm)
  rw [Tryz.params9] at hA hval hsz
  obtain ⟨v0, v1, d0, d1, p0, p1, rfl, rfl, rfl, h0, h1⟩ := trodAll_two hA
  obtain ⟨L, A, N, ln, lc, n, c, m, k, l, al, nl, rfl, hL, hln, hok, hA1, hn, hz, hN, hm2, hzn⟩ := open_table (hval 0 26 v0 rfl rfl) h0 (fun m hm => hsz m (DataW.weights_mem_each (j := 0) rfl rfl m hm))
  obtain ⟨E, en, ec, S, rfl, hS, hen⟩ := open_strs Tryz.underlying29 Tryz.underlying9 (by kernel_rfl) (okWide_slice Tryz.underlying29 (hval 1 29 v1 rfl rfl)) h1
  refine (law l al nl L A N ln lc n c m k S E en ec W (mx_of hshape) hL hln hok hA1 hn hz hN hm2 hzn hS hen).mono fun e W' ⟨he, hw⟩ => ?_
  subst he
  exact ⟨_, rfl, law_post (t := 4) laidOut (by rw [Tryz.params9]; intro t ht; simp at ht; rcases ht with rfl | rfl <;> exact ⟨by kernel_rfl, of_decide_eq_true (by kernel_rfl)⟩) rfl Tryz.underlying4 rfl ⟨rfl, rfl, rfl⟩ hW' hw⟩


end Go.Proofs.YtehcldnicefmeaaGreatDoor.lawChainNegotiate
