import Derived.Test.YtpfmojeigjmlfaaGreatDoorNPI
import Derived.Test.YtpfmojeigjmlfaaGreatDoorNPJ
import Derived.Test.YtpfmojeigjmlfaaGreatDoorNB1
import Derived.Laws.StructEq
set_option maxRecDepth 100000
set_option linter.unusedSimpArgs false
set_option linter.unusedVariables false
open Go.Lib (hid)
namespace Go.Proofs.YtpfmojeigjmlfaaGreatDoor
open Go.RowKit
def ex1 : By := [123, 110, 44, 32, 112, 108, 117, 114, 97, 108, 44, 32, 111, 110, 101, 32, 123, 35, 32, 102, 105, 108, 101, 125, 32, 111, 116, 104, 101, 114, 32, 123, 35, 32, 102, 105, 108, 101, 115, 125, 125]
def ex2 : By := [123, 110, 44, 32, 112, 108, 117, 114, 97, 108, 44, 32, 111, 110, 101, 32, 123, 35, 125, 125]
def exC1 : F := .cons 0 [] [111, 110, 101] [] .nil (.cons 10 [] [] [] .nil .nil (.cons 1 [32, 102, 105, 108, 101] [] [] .nil .nil .nil)) (.cons 0 [] [111, 116, 104, 101, 114] [] .nil (.cons 10 [] [] [] .nil .nil (.cons 1 [32, 102, 105, 108, 101, 115] [] [] .nil .nil .nil)) .nil)
def exF1 : F := .cons 7 [] [110] [] exC1 .nil .nil
theorem ex1_parse : parseR false ex1 = .ok exF1 := by kernel_rfl
theorem ex2_parse : parseR false ex2 = .error (13, some 19) := by kernel_rfl
theorem ex2_at : plV ex2 19 = .agg #[.int .i64 19, .int .i64 1, .int .i64 20] := by kernel_rfl
def RetY (w : World) (f : F) (e : Ending) (w' : World) : Prop := Ext w w' ∧ ∃ A cc, e = .returned (.tuple #[.slice A f.len cc, .agg #[.int .i64 0, .int .i64 0, .int .i64 0], .int .i64 0]) ∧ FwS w' (fun k => w.heap.size ≤ k) f (.slice A f.len cc)
def RetN (w : World) (v : Value) (er : Int) (e : Ending) (w' : World) : Prop := Ext w w' ∧ ∃ A cc, e = .returned (.tuple #[.slice A 0 cc, v, .int .i64 er])
theorem retZ_ok {w w' : World} {s : By} {Y : Except (Int × Option Nat) F} {f : F} {e : Ending} (h : RetZ w s Y e w') (hy : Y = .ok f) : RetY w f e w' := by
 subst hy
 obtain ⟨h1, A, n, cc, he, h2, _⟩ := h
 have h3 := (h2 f rfl).1
 obtain ⟨A', c', ps, e2, h4⟩ := h3
 injection e2 with e3 e4 e5
 subst e3 e4 e5
 exact ⟨h1, A, cc, he, A, cc, ps, rfl, h4⟩
theorem retZ_err {w w' : World} {s : By} {Y : Except (Int × Option Nat) F} {x : Int × Option Nat} {e : Ending} (h : RetZ w s Y e w') (hy : Y = .error x) : RetN w (posE s Y) x.1 e w' := by
 obtain ⟨h1, A, n, cc, he, _, h3⟩ := h
 have h4 := h3 x hy
 subst h4
 subst hy
 exact ⟨h1, A, cc, he⟩
set_option maxHeartbeats 4000000 in
theorem awake_any (w : World) (hm : Mx w) : Calls Tryz.prog 10 #[] w (RetTrue w) := by
 have K1 := hid ((tParse_any ⟨#[123, 110, 44, 32, 112, 108, 117, 114, 97, 108, 44, 32, 111, 110, 101, 32, 123, 35, 32, 102, 105, 108, 101, 125, 32, 111, 116, 104, 101, 114, 32, 123, 35, 32, 102, 105, 108, 101, 115, 125, 125]⟩ w hm (by decide)).mono fun e w' h => retZ_ok h (show parseR false ex1 = .ok exF1 from ex1_parse))
 have K2 := hid (fun W (hx : Ext w W) => (tParse_any ⟨#[123, 110, 44, 32, 112, 108, 117, 114, 97, 108, 44, 32, 111, 110, 101, 32, 123, 35, 125, 125]⟩ W (hm.ext hx) (by decide)).mono fun e w' h => retZ_err h (show parseR false ex2 = .error (13, some 19) from ex2_parse))
 rw [show posE (⟨#[123, 110, 44, 32, 112, 108, 117, 114, 97, 108, 44, 32, 111, 110, 101, 32, 123, 35, 125, 125]⟩ : ByteArray).data.toList (parseR false (⟨#[123, 110, 44, 32, 112, 108, 117, 114, 97, 108, 44, 32, 111, 110, 101, 32, 123, 35, 125, 125]⟩ : ByteArray).data.toList) = .agg #[.int .i64 19, .int .i64 1, .int .i64 20] from by
  rw [show parseR false (⟨#[123, 110, 44, 32, 112, 108, 117, 114, 97, 108, 44, 32, 111, 110, 101, 32, 123, 35, 125, 125]⟩ : ByteArray).data.toList = .error (13, some 19) from ex2_parse]
  exact ex2_at] at K2
 have HM := hid hm
 clear hm
 go_enter Tryz.func10, Tryz.ntmps10
 go_wp2_with fail
 refine K1.out.mono ?_
 rintro e w1 ⟨hx1, A, cc, rfl, hf1⟩
 have HX1 := hid hx1
 have HF1 := hid hf1
 have HXB := hid (hx1.trans ((Ext.refl w1).alloc (.cells #[.int .i64 0, .int .i64 0, .int .i64 0] 29)))
 clear hx1 hf1 K1
 go_wp2_with fail
 refine (K2.out _ HXB.out).mono ?_
 rintro e w2 ⟨hx2, A2, cc2, rfl⟩
 have hxx : Ext w1 (w2.alloc (.cells #[.int .i64 19, .int .i64 1, .int .i64 20] 29)) := (((Ext.refl w1).alloc _).trans hx2).alloc _
 have HXX := hid hxx
 have hf := HF1.out.ext hxx
 obtain ⟨b, o, c, k, t, n', s, ca, pa, Ac, ccc, Ap, cp, hv, hbw, _, hdr, c0, c1, c2, c3, c4, c5, hC, hP⟩ := hf.at_ (i := 0) (by decide)
 injection hv with hA _ hcc
 subst hA hcc
 have hl1 : exF1.len = 1 := rfl
 rw [fdrop_zero, exF1] at hdr
 injection hdr with e1 e2 e3 e4 e5 e6 e7
 subst e1 e5
 obtain ⟨b', o', cc', k', t', n'', s', ca', pa', Ap', cp', hv', hbw', _, hdr', d0, d1, hPA'⟩ := hC.at_ (i := 1) (by decide)
 injection hv' with hA' _ hcc'
 subst hA' hcc'
 rw [exC1, fdrop, fdrop_zero] at hdr'
 injection hdr' with f1 f2 f3 f4 f5 f6 f7
 subst f6
 have KV := hid (tValid_any hf (parse_fit ex1_parse).1 (parse_fit ex1_parse).2.1 (by have := (parse_fit ex1_parse).2.2; omega) ((HM.out.ext HX1.out).ext hxx))
 rw [parse_valid ex1_parse] at KV
 clear hxx hx2 hC hP hPA' hf hbw hbw' e2 e3 e4 e6 e7 f1 f2 f3 f4 f5 f7 c1 c2 c3 c5 d0
 simp only [exC1, exF1, F.len, Nat.zero_mul, Nat.one_mul, Nat.zero_add, Nat.add_zero, Nat.reduceAdd] at c0 c4 d1 KV
 go_wp2_with fail
 refine KV.out.mono ?_
 rintro e w3 ⟨rfl, hx3⟩
 have HW3 := hid (HX1.out.trans (HXX.out.trans hx3))
 clear hx3
 go_wp2
 go_ret
 exact ⟨rfl, HW3.out⟩
end Go.Proofs.YtpfmojeigjmlfaaGreatDoor
namespace Go.Proofs.YtpfmojeigjmlfaaGreatDoor
open Go.RowKit
theorem eq_pos (a b c d e f : Int) (w : World) : (Op.equalIn 10000 29 (.agg #[.int .i64 a, .int .i64 b, .int .i64 c]) (.agg #[.int .i64 d, .int .i64 e, .int .i64 f])).run Tryz.prog w = .ok (a == d && b == e && c == f) w := by
 have u4 := Tryz.underlying3
 have u5 := Tryz.underlying29
 have a4 := Tryz.isAgg3
 have z4 := Tryz.sizeOf3
 rw [show (10000 : Nat) = 9999 + 1 from rfl, run_equalIn_agg w 9999 _ _ _ (by kernel_rfl) (by kernel_rfl)]
 go_simp
 by_cases h1 : a = d <;> by_cases h2 : b = e <;> by_cases h3 : c = f <;> simp [h1, h2, h3]
theorem eq_pos_self (a b c : Int) (w : World) : (Op.equalIn 10000 29 (.agg #[.int .i64 a, .int .i64 b, .int .i64 c]) (.agg #[.int .i64 a, .int .i64 b, .int .i64 c])).run Tryz.prog w = .ok true w := by
 rw [eq_pos]
 simp
end Go.Proofs.YtpfmojeigjmlfaaGreatDoor
