import Derived.Test.YtpfmojeigjmlfaaGreatDoorKe
import Derived.Test.YtpfmojeigjmlfaaGreatDoorNPJ
import Derived.Test.YtpfmojeigjmlfaaGreatDoorNB1
set_option maxRecDepth 100000
set_option linter.unusedSimpArgs false
set_option linter.unusedVariables false
open Go.Lib (hid)
namespace Go.Proofs.YtpfmojeigjmlfaaGreatDoor
open Go.RowKit
def RetU27 (w : World) (v : Value) (er : Int) (e : Ending) (w' : World) : Prop := Ext w w' ∧ ∃ A n cc, e = .returned (.tuple #[.slice A n cc, v, .int .i64 er])
theorem retU27_any {w w' : World} {s : By} {Y : Except (Int × Option Nat) F} {e : Ending} (h : RetZ w s Y e w') : RetU27 w (posE s Y) (errE Y) e w' := by
 obtain ⟨h1, A, n, cc, he, _⟩ := h
 exact ⟨h1, A, n, cc, he⟩
def RetY27 (w : World) (f : F) (e : Ending) (w' : World) : Prop := Ext w w' ∧ ∃ A cc, e = .returned (.tuple #[.slice A f.len cc, .agg #[.int .i64 0, .int .i64 0, .int .i64 0], .int .i64 0]) ∧ FwS w' (fun k => w.heap.size ≤ k) f (.slice A f.len cc)
theorem retY27_of {w w' : World} {s : By} {Y : Except (Int × Option Nat) F} {f : F} {e : Ending} (h : RetZ w s Y e w') (hy : Y = .ok f) : RetY27 w f e w' := by
 subst hy
 obtain ⟨h1, A, n, cc, he, h2, _⟩ := h
 have h3 := (h2 f rfl).1
 obtain ⟨A', c', e'⟩ := h3.val
 injection e' with e1 e2 e3
 subst e1 e2 e3
 exact ⟨h1, A, cc, he, h3⟩
def canP (s : By) : By × Int := match parseR false s with
 | .ok f => (txtP [32] f, 0)
 | .error x => ([], x.1)
theorem err_ne {c : Bool} {s : By} {x : Int × Option Nat} (h : parseR c s = .error x) : x.1 ≠ 0 := by
 obtain ⟨e, a⟩ := x
 cases a with
 | none => have := parse_none h; show e ≠ 0; omega
 | some a => have := (parse_err h).2.1; show e ≠ 0; omega
set_option maxHeartbeats 2000000 in
theorem tcanon_any (s : ByteArray) (w : World) (hm : Mx w) (hs : s.size ≤ 1048576) : Calls Tryz.prog 20 #[.string s] w (RetSE w (canP s.data.toList)) := by
 have K := tParse_any s w hm hs
 have HM := hid hm
 unfold canP
 cases hy : parseR false s.data.toList with
 | error x =>
   obtain ⟨ap, al, ac, hpa⟩ := posE_three s.data.toList (parseR false s.data.toList)
   have K1 := hid (K.mono fun e w' h => retU27_any h)
   rw [hpa, hy] at K1
   have hne := err_ne hy
   obtain ⟨er, oa⟩ := x
   have b1 : (er != 0) = true := by rw [bne_iff_ne]; exact hne
   have b2 : (er == 0) = false := by rw [beq_eq_false_iff_ne]; exact hne
   rw [show errE (.error (er, oa)) = er from rfl] at K1
   clear K hpa hy hne hm
   go_enter Tryz.func20, Tryz.ntmps20
   go_wp2_with fail
   refine K1.out.mono ?_
   rintro e w2 ⟨hx2, A2, n2, c2, rfl⟩
   have HX2 := hid (hx2.alloc (.cells #[.int .i64 ap, .int .i64 al, .int .i64 ac] 29))
   clear hx2
   go_wp2
   go_ret2
   first
    | exact ⟨rfl, HX2.out⟩
    | exact ⟨rfl, by assumption⟩
 | ok f =>
   have K1 := hid (K.mono fun e w' h => retY27_of h hy)
   obtain ⟨hcan, hwt, _⟩ := parse_fit hy
   have HV := hid (show prtP false f = (txtP [32] f, 0) from if_pos (parse_valid hy))
   have KP := hid (fun W v (h : FwS W (fun k => w.heap.size ≤ k) f v) (hx : Ext w W) => tprint_any h hcan hwt (HM.out.ext hx))
   rw [HV.out] at KP
   obtain ⟨T, hT⟩ : ∃ T, T = txtP [32] f := ⟨_, rfl⟩
   show Calls _ _ _ _ (RetSE w (txtP [32] f, 0))
   rw [← hT] at KP ⊢
   clear K hy hcan hwt hm HV hT
   go_enter Tryz.func20, Tryz.ntmps20
   go_wp2_with fail
   refine K1.out.mono ?_
   rintro e w2 ⟨hx2, A2, c2, rfl, hf2⟩
   have HX2 := hid (hx2.alloc (.cells #[.int .i64 0, .int .i64 0, .int .i64 0] 29))
   have KP2 := hid (KP.out _ _ (hf2.ext ((Ext.refl w2).alloc (.cells #[.int .i64 0, .int .i64 0, .int .i64 0] 29))) HX2.out)
   clear hx2 hf2 KP
   go_wp2_with fail
   refine KP2.out.mono ?_
   rintro e w3 ⟨rfl, hx3⟩
   have HX3 := hid (HX2.out.trans hx3)
   clear hx3
   go_wp2
   go_ret2
   exact ⟨rfl, HX3.out⟩
def ex27 : By := [123, 110, 44, 112, 108, 117, 114, 97, 108, 44, 111, 110, 101, 123, 97, 125, 111, 116, 104, 101, 114, 123, 35, 125, 125]
def ex27t : By := [123, 110, 44, 32, 112, 108, 117, 114, 97, 108, 44, 32, 111, 110, 101, 32, 123, 97, 125, 32, 111, 116, 104, 101, 114, 32, 123, 35, 125, 125]
theorem ex27_can : canP ex27 = (ex27t, 0) := by kernel_rfl
theorem awake27_any (w : World) (hm : Mx w) : Calls Tryz.prog 19 #[] w (RetTrue w) := by
 have K := hid (show Calls Tryz.prog 20 #[.string ⟨ex27.toArray⟩] w (RetSE w (ex27t, 0)) from by
  have h := tcanon_any ⟨ex27.toArray⟩ w hm (by decide)
  rw [show canP (⟨ex27.toArray⟩ : ByteArray).data.toList = (ex27t, 0) from ex27_can] at h
  exact h)
 clear hm
 go_enter Tryz.func19, Tryz.ntmps19
 go_wp2_with fail
 refine K.out.mono ?_
 rintro e w2 ⟨rfl, hx2⟩
 have HX2 := hid hx2
 clear hx2
 go_wp2
 go_ret
 exact ⟨rfl, HX2.out⟩
end Go.Proofs.YtpfmojeigjmlfaaGreatDoor
