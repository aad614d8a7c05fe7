import Derived.Test.YtpfmojeigjmlfaaGreatDoorNPX
import Derived.Test.YtpfmojeigjmlfaaGreatDoorShelf
import Derived.Test.YtpfmojeigjmlfaaGreatDoorRows
import Derived.Test.YtpfmojeigjmlfaaGreatDoorCards
import Derived.Test.YtpfmojeigjmlfaaGreatDoorTie
import Derived.Shelf.Vars
namespace Go.Proofs.YtpfmojeigjmlfaaGreatDoor.lawSyntaxSpaces
open Go.ChangeShapes Go.WideShapes Go.ChangeAt Go.RowKit
set_option linter.unusedSimpArgs false
set_option linter.unusedVariables false

def RetU (w : World) (v : Value) (er : Int) (e : Ending) (w' : World) : Prop := Ext w w' ∧ ∃ A n cc, e = .returned (.tuple #[.slice A n cc, v, .int .i64 er])
theorem retZ_any {w w' : World} {s : By} {Y : Except (Int × Option Nat) F} {e : Ending} (h : RetZ w s Y e w') : RetU w (posE s Y) (errE Y) e w' := by
  obtain ⟨h1, A, n, cc, he, _⟩ := h
  exact ⟨h1, A, n, cc, he⟩
def SpI (w : World) (n : Nat) (s i : Value) (wr : World) : Prop := ∃ (k : Nat) (a : ByteArray), k ≤ n ∧ i = .int .i64 k ∧ s = .string a ∧ a.size = k ∧ a.data.toList.all blankB = true ∧ Ext w wr
theorem push_blank {a : ByteArray} {c : UInt8} (h : a.data.toList.all blankB = true) (hc : blankB c = true) : (a ++ ⟨#[c]⟩ : ByteArray).data.toList.all blankB = true := by
  rw [data_add, List.all_append, h, Bool.true_and]
  show ([c] : By).all blankB = true
  simp [hc]
set_option maxHeartbeats 4000000 in
set_option maxRecDepth 100000 in
theorem law {f : F} {v : Value} (g : By) (A : Option Addr) (c : Nat) (w : World) (hm : Mx w) (hF : FwS w (fun _ => True) f v) (hcan : Can f) (hwt : wt f ≤ 40000000) (hg : SlN w A g.length 1 (Lib.byteCells g)) (hgl : g.length ≤ 1048576) :
    Calls Tryz.prog 3 #[v, .slice A g.length c] w (RetTrue w) := by
  obtain ⟨Af, cf, rfl⟩ := hF.val
  have hn : f.nodes < 100000000 := by have := nodes_wtg f; omega
  have HM := Lib.hid hm
  have HFW := Lib.hid hF
  have KF := Lib.hid (fun W (hx : Ext w W) => rfew_any (hF.ext hx) hcan hwt hn)
  have KV := Lib.hid (fun W (hx : Ext w W) => rvalid_any (hF.ext hx) hcan hwt)
  have KT := Lib.hid (fun (a : ByteArray) W (hx : Ext w W) (ha : a.size ≤ 20) => (show Calls Tryz.prog 13 #[.slice Af f.len cf, .string a] W _ from rtxt_any a.data.toList (by rw [size_list]; omega) (hF.ext hx) hcan hwt))
  have HCAN := Lib.hid hcan
  have HN := Lib.hid hn
  have HG := Lib.hid hg
  clear hm hF hcan hwt hn hg
  cases hv : validF false f
  · rw [hv] at KV
    clear hv
    go_enter Tryz.func3, Tryz.ntmps3
    go_wp2_with fail
    refine (awake_any _ HM.out).mono ?_
    rintro e w1 ⟨rfl, hw1⟩
    have HW1 := Lib.hid hw1
    clear hw1
    go_wp2_with fail
    refine (KF.out _ HW1.out).mono ?_
    rintro e w2 ⟨b, rfl, hx2⟩
    have HW2 := Lib.hid (HW1.out.trans hx2)
    clear hx2
    cases b
    · go_wp2
      go_ret
      exact ⟨rfl, HW2.out⟩
    go_wp2_with fail
    refine (KV.out _ HW2.out).mono ?_
    rintro e w3 ⟨rfl, hx3⟩
    have HW3 := Lib.hid (HW2.out.trans hx3)
    clear hx3
    go_wp2
    go_ret
    exact ⟨rfl, HW3.out⟩
  rw [hv] at KV
  have HV := Lib.hid hv
  clear hv
  go_enter Tryz.func3, Tryz.ntmps3
  go_wp2_with fail
  refine (awake_any _ HM.out).mono ?_
  rintro e w1 ⟨rfl, hw1⟩
  have HW1 := Lib.hid hw1
  clear hw1
  go_wp2_with fail
  refine (KF.out _ HW1.out).mono ?_
  rintro e w2 ⟨b, rfl, hx2⟩
  have HW2 := Lib.hid (HW1.out.trans hx2)
  clear hx2
  cases b
  · go_wp2
    go_ret
    exact ⟨rfl, HW2.out⟩
  go_wp2_with fail
  refine (KV.out _ HW2.out).mono ?_
  rintro e w3 ⟨rfl, hx3⟩
  have HW3 := Lib.hid (HW2.out.trans hx3)
  clear hx3 KF KV
  by_cases h20 : 20 < g.length
  · have h20I : (20 : Int) < (g.length : Int) := by omega
    go_wp2
    go_ret
    exact ⟨rfl, HW3.out⟩
  have h20I : ¬ (20 : Int) < (g.length : Int) := by omega
  have H0 := Lib.hid (show SpI w3 g.length (.string ⟨#[]⟩) (.int .i64 0) w3 from ⟨0, _, Nat.zero_le _, rfl, rfl, rfl, rfl, Ext.refl _⟩)
  go_wp2_with fail
  go_loopw [5, 6] (SpI w3 g.length) (fun _ i _ => g.length - (intOf i).toNat)
  case atStart => exact H0.out
  case round =>
    obtain ⟨k, a, hk, rfl, rfl, hak, hab, hw⟩ := hrel
    have HW := Lib.hid hw
    have HAB := Lib.hid hab
    have HAK := Lib.hid hak
    have hal : a.size ≤ 20 := by omega
    clear hw hab hak
    by_cases hkl : k < g.length
    · have hkI : (k : Int) < (g.length : Int) := by omega
      obtain ⟨b, o, rfl, hb, hc0⟩ := HG.out.2 k (.int .u8 (g[k].toNat : Int)) (by unfold Lib.byteCells; rw [List.getElem?_map, List.getElem?_eq_getElem hkl]; rfl)
      have hc := (Ext.cell ((HW3.out.trans HW.out).alloc (.cells #[.string ⟨#[32]⟩, .string ⟨#[9]⟩, .string ⟨#[10]⟩] 9)) hb).trans hc0
      have h256 : g[k].toNat < 256 := g[k].toNat_lt
      generalize g[k].toNat = x at hc h256
      clear hc0
      have h3 : x % 3 = 0 ∨ x % 3 = 1 ∨ x % 3 = 2 := by omega
      rcases h3 with h3 | h3 | h3
      · have e1 : (x : Int) % 3 = 0 := by omega
        go_wp2
        exact ⟨⟨k + 1, _, hkl, by go_num, rfl, by rw [ByteArray.size_append, HAK.out]; rfl, push_blank HAB.out rfl, HW.out.alloc _⟩, by simp [intOf]; omega⟩
      · have e1 : (x : Int) % 3 = 1 := by omega
        go_wp2
        exact ⟨⟨k + 1, _, hkl, by go_num, rfl, by rw [ByteArray.size_append, HAK.out]; rfl, push_blank HAB.out rfl, HW.out.alloc _⟩, by simp [intOf]; omega⟩
      · have e1 : (x : Int) % 3 = 2 := by omega
        go_wp2
        exact ⟨⟨k + 1, _, hkl, by go_num, rfl, by rw [ByteArray.size_append, HAK.out]; rfl, push_blank HAB.out rfl, HW.out.alloc _⟩, by simp [intOf]; omega⟩
    · have hkI : ¬ (k : Int) < (g.length : Int) := by omega
      have hx := txt_gap (gap := a.data.toList) (by rw [size_list]; omega) HV.out
      have KT2 := Lib.hid (fun W hx => KT.out a W hx hal)
      obtain ⟨S, hS⟩ : ∃ S, S = txtP a.data.toList f := ⟨_, rfl⟩
      rw [← hS] at KT2 hx
      have KP := Lib.hid (fun W (hx : Ext w W) => (show Calls Tryz.prog 14 #[.string ⟨S.toArray⟩] W (RetZ W S (parseR false S)) from tParse_any ⟨S.toArray⟩ W (HM.out.ext hx) (by show S.length ≤ _; omega)))
      have HS := Lib.hid hS
      clear hS KT
      by_cases h4 : 4000 < S.length
      · have h4I : (4000 : Int) < (S.length : Int) := by omega
        obtain ⟨ap, al, ac, hpa⟩ := posE_three S (parseR false S)
        have K1 := Lib.hid (fun W (hx : Ext w W) => (KP.out W hx).mono fun e w' h => retZ_any h)
        rw [hpa] at K1
        generalize errE (parseR false S) = er at K1
        clear hpa KP
        go_wp2_with fail
        refine (KT2.out _ (HW3.out.trans HW.out)).mono ?_
        rintro e w4 ⟨rfl, hx4⟩
        have HW4 := Lib.hid ((HW3.out.trans HW.out).trans hx4)
        clear hx4
        go_wp2_with fail
        refine (K1.out _ HW4.out).mono ?_
        rintro e w5 ⟨hx5, A5, n5, c5, rfl⟩
        have HW5 := Lib.hid ((HW4.out.trans hx5).alloc (.cells #[.int .i64 ap, .int .i64 al, .int .i64 ac] 29))
        clear hx5
        go_wp2
        go_ret
        exact ⟨rfl, HW5.out⟩
      have h4I : ¬ (4000 : Int) < (S.length : Int) := by omega
      have hpt := parse_text (gap := a.data.toList) HAB.out HV.out (by rw [← HS.out]; omega)
      rw [← HS.out] at hpt
      have K1 := Lib.hid (fun W (hx : Ext w W) => (KP.out W hx).mono fun e w' h => retZ_cap h hpt)
      clear hpt KP
      go_wp2_with fail
      refine (KT2.out _ (HW3.out.trans HW.out)).mono ?_
      rintro e w4 ⟨rfl, hx4⟩
      have HW4 := Lib.hid ((HW3.out.trans HW.out).trans hx4)
      clear hx4
      go_wp2_with fail
      refine (K1.out _ HW4.out).mono ?_
      rintro e w5 ⟨hx5, A5, c5, rfl, hf5, _⟩
      have HW5 := Lib.hid ((HW4.out.trans hx5).alloc (.cells #[.int .i64 0, .int .i64 0, .int .i64 0] 29))
      have KE := Lib.hid (requal26_any HN.out (by have := HN.out; omega) (HFW.out.ext HW5.out) (hf5.anyS.ext ((Ext.refl w5).alloc (.cells #[.int .i64 0, .int .i64 0, .int .i64 0] 29))) HCAN.out HCAN.out)
      rw [eqF_refl] at KE
      clear hx5 hf5
      go_wp2_with fail
      refine KE.out.mono ?_
      rintro e w6 ⟨rfl, hx6⟩
      have HW6 := Lib.hid (HW5.out.trans hx6)
      clear hx6 KE
      go_wp2
      go_ret
      exact ⟨rfl, HW6.out⟩
end Go.Proofs.YtpfmojeigjmlfaaGreatDoor.lawSyntaxSpaces
/- SyntaxSpaces: the law returns true and changes nothing of its arguments; condition: the arguments are together of bulk at most 1048576 (the second form). -/
namespace Go.Proofs.YtpfmojeigjmlfaaGreatDoor.lawSyntaxSpaces
open Go.ChangeShapes Go.WideShapes Go.ChangeAt Go.RowKit
open Go.ChangeMaps (open_string shut_string)
set_option linter.unusedSimpArgs false
set_option linter.unusedVariables false

def laidL : List (String × DataW Unit) := Rows.syntaxSpacesUptoRow.laid
theorem mx_of {W : World} (h : W.ShapedOpen Tryz.prog) : Mx W := Go.Proofs.cell_of_shapedOpen_int (zero := #[.int .i64 0]) (t := 3) h (of_decide_eq_true (by kernel_rfl)) (by kernel_rfl) rfl (by kernel_rfl) (by kernel_rfl) Tryz.underlying3
set_option maxRecDepth 100000 in
theorem liftedU (os : Os) (started : os.Started) (H : Type) (enc : TypeId × Value → H) (F : Stop.Interp) :
    ReturnsInHanded {} Tryz.checked os 3 .any ((Rows.OpenSpec.upto Rows.syntaxSpacesSpec).preRow enc Tryz.prog Tryz.f3 Rows.syntaxSpacesUptoRow.domain false Rows.syntaxSpacesUptoRow.laid)
      (((Rows.OpenSpec.upto Rows.syntaxSpacesSpec).at F).post enc Tryz.prog Tryz.f3 false true false false) := by
  refine returnsInHanded_of_row (C := Tryz.checked) (s := Rows.OpenSpec.upto Rows.syntaxSpacesSpec) own started (by kernel_rfl) Tryz.func3
    (witness_row_shaped (enc := enc) (C := Tryz.checked) (os := os) false (World.laidAll Tryz.prog os laidL) #[.slice none 0 0, .slice none 0 0] (World.laidAll_os _ _ _) (World.shaped_of_ZipB (by kernel_rfl) (by kernel_rfl)) (by kernel_rfl)
      (OpenSpec.preRow_of_cond 8 (x := ([.nil, .nil], [], [])) (by kernel_rfl) (by kernel_rfl) (fun k hk => by cases hk; kernel_rfl) (by kernel_rfl)
        (by rw [MakeChecks.laidMetH_plain _ _ _ (by kernel_rfl)]; exact laidMet_laidAll _ (by kernel_rfl) (by kernel_rfl)))) ?_
  intro W base args ds gs before hval0 hW _ hcond _ hL hshape _
  have hval : ∀ (j : Nat) t v, Tryz.f3.params[j]? = some t → args[j]? = some v → Value.okWide Tryz.prog W .any base t v := hval0
  have hW' := hW
  obtain ⟨p, q, hA0, hV, rfl, hfz, hnd⟩ := hW
  have hA : DataW.TrodAll enc Tryz.prog W 0 (fun _ => true) true Tryz.f3.params.toList args.toList ds p := hA0
  rw [Tryz.params3] at hA hval
  obtain ⟨v0, v1, d0, d1, p0, p1, rfl, rfl, rfl, h0, h1⟩ := trodAll_two hA
  have hk : Rows.uptoSmall H ([d0, d1] ++ gs) = true := hcond _ rfl
  have hk2 := of_decide_eq_true hk
  have hb : Rows.uptoBulkAll ([d0, d1] ++ gs) = Rows.uptoBulk d0 + (Rows.uptoBulk d1 + (Rows.uptoBulkAll gs)) := by
    simp only [List.cons_append, List.nil_append, Rows.uptoBulkAll]
  rw [hb] at hk2
  obtain ⟨f, hF0, hC0, hw0, hcap0⟩ := open_parts (okWide_slice Tryz.underlying22 (hval 0 22 v0 rfl rfl)) h0 (by omega)
  obtain ⟨A, g, c, rfl, hg, hgl⟩ := open_bytesU (okWide_slice Tryz.underlying23 (hval 1 23 v1 rfl rfl)) h1
  refine (law g A c W (mx_of hshape) hF0 hC0 (by omega) hg (by omega)).mono fun e W' ⟨he, hw⟩ => ?_
  subst he
  exact ⟨_, rfl, law_post (t := 4) laidOut (by rw [Tryz.params3]; intro t ht; simp at ht; rcases ht with rfl | rfl <;> exact ⟨by kernel_rfl, of_decide_eq_true (by kernel_rfl)⟩) rfl Tryz.underlying4 rfl ⟨rfl, rfl, rfl⟩ hW' hw⟩
end Go.Proofs.YtpfmojeigjmlfaaGreatDoor.lawSyntaxSpaces
