import Derived.Test.YtpfmojeigjmlfaaGreatDoorNQ4
import Derived.Test.YtpfmojeigjmlfaaGreatDoorKf
import Derived.Test.YtpfmojeigjmlfaaGreatDoorKr
set_option maxRecDepth 100000
set_option linter.unusedSimpArgs false
set_option linter.unusedVariables false
open Go.Lib (hid)
namespace Go.Proofs.YtpfmojeigjmlfaaGreatDoor
open Go.RowKit
set_option maxHeartbeats 2000000 in
theorem rcanon27_any (s : ByteArray) (w : World) (hs : s.size ≤ 1048576) : Calls Tryz.prog 21 #[.string s] w (RetSE w (canP s.data.toList)) := by
 have K := rParse26_any s w hs
 unfold canP
 cases hy : parseR false s.data.toList with
 | error x =>
   obtain ⟨ap, al, ac, hpa⟩ := posE_three s.data.toList (parseR false s.data.toList)
   have K1 := hid (K.mono fun e w' h => retU27_any h)
   rw [hpa, hy] at K1
   have hne := err_ne hy
   obtain ⟨er, oa⟩ := x
   have b1 : (er != 0) = true := by rw [bne_iff_ne]; exact hne
   have b2 : (er == 0) = false := by rw [beq_eq_false_iff_ne]; exact hne
   rw [show errE (.error (er, oa)) = er from rfl] at K1
   clear K hpa hy hne
   go_enter Tryz.func21, Tryz.ntmps21
   go_wp2_with fail
   refine K1.out.mono ?_
   rintro e w2 ⟨hx2, A2, n2, c2, rfl⟩
   have HX2 := hid (hx2.alloc (.cells #[.int .i64 ap, .int .i64 al, .int .i64 ac] 29))
   clear hx2
   go_wp2
   go_ret2
   first
    | exact ⟨rfl, HX2.out⟩
    | exact ⟨rfl, by assumption⟩
 | ok f =>
   have K1 := hid (K.mono fun e w' h => retY27_of h hy)
   obtain ⟨hcan, hwt, _⟩ := parse_fit hy
   have HV := hid (show prtP false f = (txtP [32] f, 0) from if_pos (parse_valid hy))
   have KP := hid (fun W v (h : FwS W (fun k => w.heap.size ≤ k) f v) (hx : Ext w W) => rprint_any h hcan hwt)
   rw [HV.out] at KP
   obtain ⟨T, hT⟩ : ∃ T, T = txtP [32] f := ⟨_, rfl⟩
   show Calls _ _ _ _ (RetSE w (txtP [32] f, 0))
   rw [← hT] at KP ⊢
   clear K hy hcan hwt HV hT
   go_enter Tryz.func21, Tryz.ntmps21
   go_wp2_with fail
   refine K1.out.mono ?_
   rintro e w2 ⟨hx2, A2, c2, rfl, hf2⟩
   have HX2 := hid (hx2.alloc (.cells #[.int .i64 0, .int .i64 0, .int .i64 0] 29))
   have KP2 := hid (KP.out _ _ (hf2.ext ((Ext.refl w2).alloc (.cells #[.int .i64 0, .int .i64 0, .int .i64 0] 29))) HX2.out)
   clear hx2 hf2 KP
   go_wp2_with fail
   refine KP2.out.mono ?_
   rintro e w3 ⟨rfl, hx3⟩
   have HX3 := hid (HX2.out.trans hx3)
   clear hx3
   go_wp2
   go_ret2
   exact ⟨rfl, HX3.out⟩
end Go.Proofs.YtpfmojeigjmlfaaGreatDoor
