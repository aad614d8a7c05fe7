import Derived.Test.YtljdlkonlnjadaaGreatDoorNZ8
import Derived.Test.YtljdlkonlnjadaaGreatDoorNZ9
import Derived.Test.YtljdlkonlnjadaaGreatDoorNX2
import Derived.Laws.StructEq
import Derived.Test.YtljdlkonlnjadaaGreatDoorYs
set_option maxRecDepth 100000
set_option linter.unusedSimpArgs false
set_option linter.unusedVariables false
open Go.Lib (hid)
namespace Go.Proofs.YtljdlkonlnjadaaGreatDoor
open Go.RowKit
theorem ys_ext {W wx : World} (hx : ∃ x : ExtW W, wx = x.v) : Ext W wx := by obtain ⟨y, hy⟩ := hx; rw [hy]; exact y.h
theorem ys_cell {w : World} {p : Addr} {u : Value} (h : w.cell? p = some u) (v : ExtW w) : v.v.cell? p = some u := (Ext.cell v.h (World.block_lt_of_cell? w _ h)).trans h
theorem ys_sl {w : World} {A : Option Addr} {n : Nat} {xs : List Value} (h : SlN w A n 1 xs) : Sl w A n xs :=
 ⟨by have := h.1; omega, fun j u hu => by
  obtain ⟨b, o, ha, hb, hc⟩ := h.2 j u hu
  exact ⟨⟨b, o, none⟩, ha, hb, by rw [add_none]; exact hc⟩⟩
theorem ys_two1 (w : World) (a b : Array Value) (T U : TypeId) : AtC T ((w.alloc (.cells a T)).alloc (.cells b U)).drew w.heap.size a := ((AtC.new w a : AtC T _ _ _).alloc (.cells b U)).ext (Ext.refl _).drew
theorem ys_two2 (w : World) (a b : Array Value) (T U : TypeId) : AtC U ((w.alloc (.cells a T)).alloc (.cells b U)).drew (w.heap.size + 1) b := by
 have h := (AtC.new (w.alloc (.cells a T)) b : AtC U _ _ _)
 rw [World.size_alloc] at h
 exact h.ext (Ext.refl _).drew
theorem ys_one : ∀ (l : List El), (∀ x ∈ l, x.length = 1) → l.flatMap elC = (l.map fun x => x.headD eB).map .string
 | [], _ => rfl
 | x :: l, h => by
   rw [List.flatMap_cons, ys_one l fun y hy => h y (List.mem_cons_of_mem _ hy), List.map_cons, List.map_cons]
   match x, h x (List.mem_cons_self ..) with
   | [b], _ => rfl
theorem ElM.sl {w : World} {A : Option Addr} {n : Nat} {l : List El} (h : ElM 1 w A n l) : Sl w A n ((l.map fun x => x.headD eB).map .string) := by
 have h1 := h.1
 rw [ys_one l h.2.1] at h1
 exact ys_sl h1
def YsI (w : World) (n : Nat) (i : Value) (wr : World) : Prop := ∃ k : Nat, k ≤ n ∧ i = .int .i64 k ∧ Ext w wr
set_option maxHeartbeats 2000000 in
theorem rstrs_same (xs : List ByteArray) (A B : Option Addr) (n ca cb : Nat) (w : World) (hA : Sl w A n (xs.map .string)) (hB : Sl w B n (xs.map .string)) (hn : n ≤ 1000000000) :
 Calls Tryz.prog 48 #[.slice A n ca, .slice B n cb] w fun e w' => e = .returned (.bool true) ∧ Ext w w' := by
 have H1 := hid hA
 have H2 := hid hB
 clear hA hB
 go_enter Tryz.func48, Tryz.ntmps48
 go_wp2
 go_loopw [5] (YsI w n) (fun i _ => n - (intOf i).toNat)
 case atStart => exact ⟨0, Nat.zero_le _, rfl, Ext.refl _⟩
 case round =>
  obtain ⟨k, hk, rfl, hw⟩ := hrel
  have HW := hid hw
  clear hw
  by_cases hlt : k < n
  ·obtain ⟨ad, x, rfl, hu, hc⟩ := (H1.out.ext HW.out).at_map hlt
   obtain ⟨bd, y, rfl, hv, hd⟩ := (H2.out.ext HW.out).at_map hlt
   have hxy : y = x := by rw [hu] at hv; injection hv with hv; exact hv.symm
   subst hxy
   have hkI : (k : Int) < (n : Int) := by omega
   have hb : (!y.toList == y.toList) = false := by simp
   clear hu hv
   go_wp2
   go_quiet (fail)
   all_goals go_wp2
   exact ⟨⟨k + 1, by omega, by go_num, HW.out.drewN _⟩, by simp [intOf]; omega⟩
  ·go_wp2
   go_ret
   exact ⟨rfl, HW.out⟩
theorem eq_span (a b : Int) (w : World) : (Op.equalIn 10000 119 (.agg #[.int .i64 a, .int .i64 b]) (.agg #[.int .i64 a, .int .i64 b])).run Tryz.prog w = .ok true w := by
 have u4 := Tryz.underlying3
 have u5 := Tryz.underlying119
 have a4 := Tryz.isAgg3
 have z4 := Tryz.sizeOf3
 rw [show (10000 : Nat) = 9999 + 1 from rfl, run_equalIn_agg w 9999 _ _ _ (by kernel_rfl) (by kernel_rfl)]
 go_simp
theorem eq_lp (b0 b1 b2 b3 b4 : ByteArray) (w : World) : (Op.equalIn 10000 71 (.agg #[.string b0, .string b1, .string b2, .string b3, .string b4]) (.agg #[.string b0, .string b1, .string b2, .string b3, .string b4])).run Tryz.prog w = .ok true w := by
 have u3 := Tryz.underlying9
 have u5 := Tryz.underlying71
 have a3 := Tryz.isAgg9
 have z3 := Tryz.sizeOf9
 rw [show (10000 : Nat) = 9999 + 1 from rfl, run_equalIn_agg w 9999 _ _ _ (by kernel_rfl) (by kernel_rfl)]
 go_simp
theorem eq_up (b0 b1 b2 : ByteArray) (w : World) : (Op.equalIn 10000 48 (.agg #[.string b0, .string b1, .string b2]) (.agg #[.string b0, .string b1, .string b2])).run Tryz.prog w = .ok true w := by
 have u3 := Tryz.underlying9
 have u5 := Tryz.underlying48
 have a3 := Tryz.isAgg9
 have z3 := Tryz.sizeOf9
 rw [show (10000 : Nat) = 9999 + 1 from rfl, run_equalIn_agg w 9999 _ _ _ (by kernel_rfl) (by kernel_rfl)]
 go_simp
theorem eq_dp (b0 b1 : ByteArray) (w : World) : (Op.equalIn 10000 87 (.agg #[.string b0, .string b1]) (.agg #[.string b0, .string b1])).run Tryz.prog w = .ok true w := by
 have u3 := Tryz.underlying9
 have u5 := Tryz.underlying87
 have a3 := Tryz.isAgg9
 have z3 := Tryz.sizeOf9
 rw [show (10000 : Nat) = 9999 + 1 from rfl, run_equalIn_agg w 9999 _ _ _ (by kernel_rfl) (by kernel_rfl)]
 go_simp
end Go.Proofs.YtljdlkonlnjadaaGreatDoor
namespace Go.Proofs.YtljdlkonlnjadaaGreatDoor
open Go.RowKit
noncomputable def regC11 : Code := ((Tryz.f74).body.bind (regOf 11)).getD .skip
set_option maxHeartbeats 4000000 in
theorem creg11 {u2 u3 u4 u7 u8 u9 u10 u11 u12 u13 u14 u15 u16 u17 u18 u19 u20 u21 u22 u23 u24 u25 u26 u27 u28 u29 u30 u31 u32 u33 u34 u35 u36 u37 u38 u39 u40 u41 u42 u43 u44 u45 u46 u47 u48 u49 u50 u51 u52 u53 u54 u55 u56 u57 u58 u59 u60 u61 u62 u63 u64 u65 u66 u67 u68 u69 u70 u71 u72 u73 u74 u75 u76 u77 u78 u79 u80 u81 u82 u83 u84 u85 u86 u87 u88 u89 u90 u91 u92 u93 u94 u95 u96 u97 u98 u99 u100 : Value} {ad bd : Addr} {n ca cb k j m c1 c2 b1 o1 b2 o2 : Nat} {x y : Rl} {w : World} {Q : Exit → Act → World → Prop} {C : Code} (hC : C = regC11) (hk : k < n) (hj : j < m)
 (h0 : w.cell? (ad.add k) = some (.slice (some ⟨b1, o1, none⟩) m c1)) (h1 : w.cell? (bd.add k) = some (.slice (some ⟨b2, o2, none⟩) m c2)) (h2 : w.cell? ⟨b1, o1 + j * 4, none⟩ = some (.int .i64 x.op)) (h3 : w.cell? ⟨b1, o1 + j * 4 + 1, none⟩ = some (.int .i64 x.md)) (h4 : w.cell? ⟨b1, o1 + j * 4 + 2, none⟩ = some (.bool x.nt)) (h5 : w.cell? ⟨b1, o1 + j * 4 + 3, none⟩ = some (.slice x.A x.n x.c)) (h6 : w.cell? ⟨b2, o2 + j * 4, none⟩ = some (.int .i64 y.op)) (h7 : w.cell? ⟨b2, o2 + j * 4 + 1, none⟩ = some (.int .i64 y.md)) (h8 : w.cell? ⟨b2, o2 + j * 4 + 2, none⟩ = some (.bool y.nt)) (h9 : w.cell? ⟨b2, o2 + j * 4 + 3, none⟩ = some (.slice y.A y.n y.c))
 (hQ : ∀ v41 v42 v43 v44 v45 v46 v47 v48 v49 v50 v51 v52 v53 v54 p q wx, AtC 116 wx p #[.int .i64 x.op, .int .i64 x.md, .bool x.nt, .slice x.A x.n x.c] → AtC 116 wx q #[.int .i64 y.op, .int .i64 y.md, .bool y.nt, .slice y.A y.n y.c] → Ext w wx → Q .normal ⟨#[.slice (some ad) n ca, .slice (some bd) n cb, u2, u3, u4, .int .i64 k, .int .i64 j, .pointer (some ⟨p, 0, none⟩), .pointer (some ⟨q, 0, none⟩), u9, u10, u11, u12, u13, u14, u15, u16, u17, u18, u19, u20, u21, u22, u23, u24, u25, u26, u27, u28, u29, u30, u31, u32, u33, u34, u35, u36, u37, u38, u39, u40, v41, v42, v43, v44, v45, v46, v47, v48, v49, v50, v51, v52, v53, v54, u55, u56, u57, u58, u59, u60, u61, u62, u63, u64, u65, u66, u67, u68, u69, u70, u71, u72, u73, u74, u75, u76, u77, u78, u79, u80, u81, u82, u83, u84, u85, u86, u87, u88, u89, u90, u91, u92, u93, u94, u95, u96, u97, u98, u99, u100], []⟩ wx) :
 Code.wp Tryz.prog C Q ⟨#[.slice (some ad) n ca, .slice (some bd) n cb, u2, u3, u4, .int .i64 k, .int .i64 j, u7, u8, u9, u10, u11, u12, u13, u14, u15, u16, u17, u18, u19, u20, u21, u22, u23, u24, u25, u26, u27, u28, u29, u30, u31, u32, u33, u34, u35, u36, u37, u38, u39, u40, u41, u42, u43, u44, u45, u46, u47, u48, u49, u50, u51, u52, u53, u54, u55, u56, u57, u58, u59, u60, u61, u62, u63, u64, u65, u66, u67, u68, u69, u70, u71, u72, u73, u74, u75, u76, u77, u78, u79, u80, u81, u82, u83, u84, u85, u86, u87, u88, u89, u90, u91, u92, u93, u94, u95, u96, u97, u98, u99, u100], []⟩ w := by
 subst hC
 conv => arg 2; whnf
 have hkI : (k : Int) < (n : Int) := by omega
 have hjI : (j : Int) < (m : Int) := by omega
 have HQ := hid hQ
 have e0 := World.new_ne w _ h0; have e1 := World.new_ne w _ h1; have e2 := World.new_ne w _ h2; have e3 := World.new_ne w _ h3; have e4 := World.new_ne w _ h4; have e5 := World.new_ne w _ h5; have e6 := World.new_ne w _ h6; have e7 := World.new_ne w _ h7; have e8 := World.new_ne w _ h8; have e9 := World.new_ne w _ h9
 clear hQ
 go_region_held3 (fun w' => w'.cell? (ad.add k) = some (.slice (some ⟨b1, o1, none⟩) m c1) ∧ w'.cell? (bd.add k) = some (.slice (some ⟨b2, o2, none⟩) m c2) ∧ w'.cell? ⟨b1, o1 + j * 4, none⟩ = some (.int .i64 x.op) ∧ w'.cell? ⟨b1, o1 + j * 4 + 1, none⟩ = some (.int .i64 x.md) ∧ w'.cell? ⟨b1, o1 + j * 4 + 2, none⟩ = some (.bool x.nt) ∧ w'.cell? ⟨b1, o1 + j * 4 + 3, none⟩ = some (.slice x.A x.n x.c) ∧ w'.cell? ⟨b2, o2 + j * 4, none⟩ = some (.int .i64 y.op) ∧ w'.cell? ⟨b2, o2 + j * 4 + 1, none⟩ = some (.int .i64 y.md) ∧ w'.cell? ⟨b2, o2 + j * 4 + 2, none⟩ = some (.bool y.nt) ∧ w'.cell? ⟨b2, o2 + j * 4 + 3, none⟩ = some (.slice y.A y.n y.c)) (go_keep) (fail)
 all_goals first
  | exact HQ.out _ _ _ _ _ _ _ _ _ _ _ _ _ _ _ _ _ (ys_two1 w _ _ _ _) (ys_two2 w _ _ _ _) (((Ext.refl w).alloc _).alloc _).drew
  | exact HQ.out _ _ _ _ _ _ _ _ _ _ _ _ _ _ _ _ _ (ys_two2 w _ _ _ _) (ys_two1 w _ _ _ _) (((Ext.refl w).alloc _).alloc _).drew
theorem SlO.ext {ok : Nat → Prop} {w w' : World} {A : Option Addr} {n m : Nat} {xs : List Value} (h : SlO ok w A n m xs) (hw : Ext w w') : SlO ok w' A n m xs := h.kp (Kp.ext hw)
def cjV (x : Cj) : Value := .slice x.A x.n x.c
theorem cj_flat (l : List Cj) : l.flatMap cjC = l.map cjV := by induction l with
 | nil => rfl
 | cons x l ih => rw [List.flatMap_cons, ih]; rfl
theorem cj_sl {ok : Nat → Prop} {w : World} {A : Option Addr} {n : Nat} {l : List Cj} (h : SlO ok w A n 1 (l.flatMap cjC)) : Sl w A n (l.map cjV) := by
 have h1 := h.1
 rw [cj_flat] at h1
 exact ys_sl h1
theorem flat_cell {α : Type} {f : α → List Value} {m : Nat} (hf : ∀ a, (f a).length = m) {w : World} {A : Option Addr} {n : Nat} {l : List α} (h : SlN w A n m (l.flatMap f)) (hm : 0 < m) {k : Nat} {x : α} (hx : l[k]? = some x) :
 ∃ b o, A = some ⟨b, o, none⟩ ∧ ∀ j u, (f x)[j]? = some u → w.cell? ⟨b, o + k * m + j, none⟩ = some u := by
 have g0 := flat_get f m hf l k 0 x hx hm
 obtain ⟨u0, hu0⟩ : ∃ u, (f x)[0]? = some u := ⟨_, List.getElem?_eq_getElem (by rw [hf]; exact hm)⟩
 rw [hu0] at g0
 obtain ⟨b, o, rfl, _, _⟩ := h.2 _ _ g0
 refine ⟨b, o, rfl, fun j u hu => ?_⟩
 have hj : j < m := by have := (List.getElem?_eq_some_iff.1 hu).1; rwa [hf] at this
 have g1 := flat_get f m hf l k j x hx hj
 rw [hu] at g1
 obtain ⟨b', o', e, _, h1⟩ := h.2 _ _ g1
 injection e with e
 injection e with e1 e2 _
 subst e1; subst e2
 rw [Nat.add_assoc]
 exact h1
theorem map_len {α β γ : Type} {f : α → γ} {g : β → γ} {l : List α} {l' : List β} (h : l.map f = l'.map g) : l'.length = l.length := by
 have := congrArg List.length h
 simpa using this.symm
theorem map_get {α β γ : Type} {f : α → γ} {g : β → γ} {l : List α} {l' : List β} (h : l.map f = l'.map g) {k : Nat} {x : α} {y : β} (hx : l[k]? = some x) (hy : l'[k]? = some y) : f x = g y := by
 have h1 : (l.map f)[k]? = (l'.map g)[k]? := by rw [h]
 rw [List.getElem?_map, List.getElem?_map, hx, hy] at h1
 injection h1
theorem CjM.ext {ok : Nat → Prop} {w w' : World} {x : Cj} (h : CjM ok w x) (hw : Ext w w') : CjM ok w' x := h.kp (Kp.ext hw)
theorem RuM.ext {ok : Nat → Prop} {w w' : World} {x : Ru} (h : RuM ok w x) (hw : Ext w w') : RuM ok w' x := h.kp (Kp.ext hw)
theorem RlM.ext {ok : Nat → Prop} {w w' : World} {x : Rl} (h : RlM ok w x) (hw : Ext w w') : RlM ok w' x := h.kp (Kp.ext hw)
set_option maxHeartbeats 8000000 in
theorem rcond_same (l l' : List Cj) (A B : Option Addr) (n n' ca cb : Nat) (w : World) (hA : SlO (fun _ => True) w A n 1 (l.flatMap cjC)) (hA2 : ∀ y ∈ l, CjM (fun _ => True) w y) (hB : SlO (fun _ => True) w B n' 1 (l'.flatMap cjC)) (hB2 : ∀ y ∈ l', CjM (fun _ => True) w y) (he : l.map cjP = l'.map cjP) (hnb : n * 24 ≤ lim47) :
 Calls Tryz.prog 74 #[.slice A n ca, .slice B n' cb] w fun e w' => e = .returned (.bool true) ∧ Ext w w' := by
 have hl1 : l.length = n := SlO.len (f := cjC) (fun _ => rfl) (by decide) hA
 have hl2 : l'.length = n' := SlO.len (f := cjC) (fun _ => rfl) (by decide) hB
 have hnn : n' = n := by rw [← hl1, ← hl2]; exact map_len he
 subst hnn
 have hn0 : n' ≤ 9000000000000 := by unfold lim47 at hnb; omega
 have H1 := hid (cj_sl hA)
 have H2 := hid (cj_sl hB)
 have M1 := hid hA2
 have M2 := hid hB2
 have HE := hid he
 clear hA hB hA2 hB2 he hl1 hl2
 go_enter Tryz.func74, Tryz.ntmps74
 go_wp2_with fail
 go_loopw [5] (YsI w n') (fun i _ => n' - (intOf i).toNat)
 case atStart => exact ⟨0, Nat.zero_le _, rfl, Ext.refl _⟩
 case round =>
  obtain ⟨k, hk, rfl, hw⟩ := hrel
  obtain ⟨wo, rfl⟩ : ∃ wo : World, wo = wr := ⟨_, rfl⟩
  have HW := hid hw
  clear hw
  by_cases hkn : k < n'
  ·obtain ⟨ad, x, rfl, hx, hcx⟩ := (H1.out.ext HW.out).at_map hkn
   obtain ⟨bd, y, rfl, hy, hcy⟩ := (H2.out.ext HW.out).at_map hkn
   have hxy := map_get HE.out hx hy
   have HMX := hid ((M1.out x (List.mem_of_getElem? hx)).ext HW.out)
   have HMY := hid ((M2.out y (List.mem_of_getElem? hy)).ext HW.out)
   have hxn : y.n = x.n := by
    rw [← SlO.len (f := rlC) (fun _ => rfl) (by decide) HMX.out.1.1, ← SlO.len (f := rlC) (fun _ => rfl) (by decide) HMY.out.1.1]
    exact map_len (show x.l.map rlP = y.l.map rlP from hxy)
   have hxb : x.n ≤ 9000000000000 := by have := HMX.out.1.2; unfold lim47 at this; omega
   have HXY := hid (show x.l.map rlP = y.l.map rlP from hxy)
   obtain ⟨xA, xn, xc, xl⟩ := x
   obtain ⟨yA, yn, yc, yl⟩ := y
   simp only at hxn hxb
   subst hxn
   have HCX := hid (fun W (h : Ext wo W) => cell_midY h (show wo.cell? (ad.add k) = some (.slice xA yn xc) from hcx))
   have HCY := hid (fun W (h : Ext wo W) => cell_midY h (show wo.cell? (bd.add k) = some (.slice yA yn yc) from hcy))
   have hkI : (k : Int) < (n' : Int) := by omega
   clear hx hy hxy hcx hcy
   have c0 := HCX.out _ (Ext.refl wo)
   have d0 := HCY.out _ (Ext.refl wo)
   go_upto_region 6 with fail
   go_quiet (fail)
   obtain ⟨w6, hw6⟩ : ∃ w6, w6 = wo.drewN nq := ⟨_, rfl⟩
   rw [← hw6]
   have HW6 := hid (show Ext wo w6 from by rw [hw6]; exact (Ext.refl wo).drewN nq)
   clear hw6 c0 d0
   go_wp2_with fail
   go_loopw [6] (YsI w6 yn) (fun i _ => yn - (intOf i).toNat)
   case atStart => exact ⟨0, Nat.zero_le _, rfl, Ext.refl _⟩
   case round =>
    obtain ⟨j, hj, rfl, hw⟩ := hrel
    obtain ⟨wi, rfl⟩ : ∃ wi : World, wi = wr := ⟨_, rfl⟩
    have HWI := hid (HW6.out.trans hw)
    have HWI6 := hid hw
    clear hw
    have c0 := HCX.out _ HWI.out
    have d0 := HCY.out _ HWI.out
    by_cases hjn : j < yn
    ·have hx1 := SlO.len (f := rlC) (fun _ => rfl) (by decide) HMX.out.1.1
     have hy1 := SlO.len (f := rlC) (fun _ => rfl) (by decide) HMY.out.1.1
     simp only at hx1 hy1
     obtain ⟨z, hz⟩ : ∃ z, xl[j]? = some z := ⟨_, List.getElem?_eq_getElem (by omega)⟩
     obtain ⟨z', hz'⟩ : ∃ z, yl[j]? = some z := ⟨_, List.getElem?_eq_getElem (by omega)⟩
     have hzz := map_get HXY.out hz hz'
     have HMZ := hid ((HMX.out.2 z (List.mem_of_getElem? hz)).ext HWI.out)
     have HMV := hid ((HMY.out.2 z' (List.mem_of_getElem? hz')).ext HWI.out)
     obtain ⟨b1, o1, hA1, hcz⟩ := flat_cell (f := rlC) (m := 4) (fun _ => rfl) (HMX.out.1.1.1.ext HWI.out) (by decide) hz
     obtain ⟨b2, o2, hA2, hcv⟩ := flat_cell (f := rlC) (m := 4) (fun _ => rfl) (HMY.out.1.1.1.ext HWI.out) (by decide) hz'
     simp only at hA1 hA2
     subst hA1 hA2
     unfold rlP at hzz
     injection hzz with g1 hzz
     injection hzz with g2 hzz
     injection hzz with g3 g4
     obtain ⟨zo, zm, zt, zA, zn, zc, zs⟩ := z
     obtain ⟨vo, vm, vt, vA, vn, vc, vs⟩ := z'
     simp only at g1 g2 g3 g4
     subst g1 g2 g3 g4
     have hz1 := SlO.len (f := spC) (fun _ => rfl) (by decide) HMZ.out.1
     have hv1 := SlO.len (f := spC) (fun _ => rfl) (by decide) HMV.out.1
     simp only at hz1 hv1
     have hvn : vn = zn := by omega
     subst hvn
     have hvb : vn ≤ 9000000000000 := by have := HMV.out.2; unfold lim47 at this; simp only at this; omega
     have x0 := hcz 0 _ rfl
     have x1 := hcz 1 _ rfl
     have x2 := hcz 2 _ rfl
     have x3 := hcz 3 _ rfl
     have y0 := hcv 0 _ rfl
     have y1 := hcv 1 _ rfl
     have y2 := hcv 2 _ rfl
     have y3 := hcv 3 _ rfl
     rw [Nat.add_zero] at x0 y0
     clear hz hz' hcz hcv hx1 hy1
     have HL := hid hz1
     clear hz1 hv1
     have hjI : (j : Int) < (yn : Int) := by omega
     go_upto_region 11 with fail
     refine creg11 (by kernel_rfl) hkn hjn c0 d0 x0 x1 x2 x3 y0 y1 y2 y3 ?_
     intro v41 v42 v43 v44 v45 v46 v47 v48 v49 v50 v51 v52 v53 v54 p q wx hp hq hwx
     have HP := hid hp
     have HQ := hid hq
     have HWX := hid (HWI6.out.trans hwx)
     have HMZ2 := hid (HMZ.out.ext hwx)
     have HMV2 := hid (HMV.out.ext hwx)
     have p0 := hp.cell 0 _ rfl
     have p1 := hp.cell 1 _ rfl
     have p2 := hp.cell 2 _ rfl
     have p3 := hp.cell 3 _ rfl
     have q0 := hq.cell 0 _ rfl
     have q1 := hq.cell 1 _ rfl
     have q2 := hq.cell 2 _ rfl
     have q3 := hq.cell 3 _ rfl
     clear hp hq hwx c0 d0 x0 x1 x2 x3 y0 y1 y2 y3 HMZ HMV
     go_wp2_with fail
     go_loopw [9] (YsI wx vn) (fun i _ => vn - (intOf i).toNat)
     case atStart => exact ⟨0, Nat.zero_le _, rfl, Ext.refl _⟩
     case round =>
      obtain ⟨r, hr, rfl, hw⟩ := hrel
      have HWT := hid hw
      clear hw p0 p1 p2 p3 q0 q1 q2 q3
      by_cases hrn : r < vn
      ·obtain ⟨sp, hsp⟩ : ∃ z, zs[r]? = some z := ⟨_, List.getElem?_eq_getElem (by have := HL.out; omega)⟩
       obtain ⟨s, t⟩ := sp
       obtain ⟨b3, o3, hA3, hcs⟩ := flat_cell (f := spC) (m := 2) (fun _ => rfl) (HMZ2.out.1.1.ext HWT.out) (by decide) hsp
       obtain ⟨b4, o4, hA4, hct⟩ := flat_cell (f := spC) (m := 2) (fun _ => rfl) (HMV2.out.1.1.ext HWT.out) (by decide) hsp
       simp only at hA3 hA4
       subst hA3 hA4
       have s0 := hcs 0 _ rfl
       have s1 := hcs 1 _ rfl
       have t0 := hct 0 _ rfl
       have t1 := hct 1 _ rfl
       rw [Nat.add_zero] at s0 t0
       clear hcs hct hsp
       have hrI : (r : Int) < (vn : Int) := by omega
       have p3 := (HP.out.ext HWT.out).cell 3 _ rfl
       have q3 := (HQ.out.ext HWT.out).cell 3 _ rfl
       have e1 : ∀ v : ExtW wr, v.v.cell? ⟨p, 3, none⟩ = some (.slice (some ⟨b3, o3, none⟩) vn zc) := fun v => ys_cell p3 v
       have e2 : ∀ v : ExtW wr, v.v.cell? ⟨q, 3, none⟩ = some (.slice (some ⟨b4, o4, none⟩) vn vc) := fun v => ys_cell q3 v
       have e3 : ∀ v : ExtW wr, v.v.cell? ⟨b3, o3 + r * 2, none⟩ = some (.int .i64 s) := fun v => ys_cell s0 v
       have e4 : ∀ v : ExtW wr, v.v.cell? ⟨b3, o3 + r * 2 + 1, none⟩ = some (.int .i64 t) := fun v => ys_cell s1 v
       have e5 : ∀ v : ExtW wr, v.v.cell? ⟨b4, o4 + r * 2, none⟩ = some (.int .i64 s) := fun v => ys_cell t0 v
       have e6 : ∀ v : ExtW wr, v.v.cell? ⟨b4, o4 + r * 2 + 1, none⟩ = some (.int .i64 t) := fun v => ys_cell t1 v
       have e58 : ∀ W : World, (Op.equalIn 10000 119 (.agg #[.int .i64 s, .int .i64 t]) (.agg #[.int .i64 s, .int .i64 t])).run Tryz.prog W = .ok true W := fun W => eq_span s t W
       have g58 : Tryz.prog.eqGuardType Tryz.prog.depth 119 = false := by kernel_rfl
       clear s0 s1 t0 t1
       go_wp2_with fail
       refine wp_region_ext (by kernel_rfl) (by kernel_rfl) ?_
       repeat (go_big_quiet_step (fail))
       refine wpQuiet_nil ?_
       intro wz hwz
       have HWZ := hid (HWT.out.trans (ys_ext hwz))
       clear hwz p3 q3 e1 e2 e3 e4 e5 e6 e58 g58
       go_wp2
       exact ⟨⟨r + 1, by omega, by go_num, HWZ.out⟩, by simp [intOf]; omega⟩
      ·have hrr : r = vn := by omega
       subst hrr
       have p3 := (HP.out.ext HWT.out).cell 3 _ rfl
       have q3 := (HQ.out.ext HWT.out).cell 3 _ rfl
       go_wp2
       exact ⟨⟨j + 1, by omega, by go_num, HWX.out.trans HWT.out⟩, by simp [intOf]; omega⟩
    ·have hjj : j = yn := by omega
     subst hjj
     go_wp2
     exact ⟨⟨k + 1, by omega, by go_num, HW.out.trans HWI.out⟩, by simp [intOf]; omega⟩
  ·go_wp2
   go_ret
   exact ⟨rfl, HW.out⟩
set_option maxHeartbeats 8000000 in
theorem rrules_same (l l' : List Ru) (A B : Option Addr) (n n' ca cb : Nat) (w : World) (hA : RusM (fun _ => True) w A n l) (hB : RusM (fun _ => True) w B n' l') (he : l.map ruP = l'.map ruP) :
 Calls Tryz.prog 47 #[.slice A n ca, .slice B n' cb] w fun e w' => e = .returned (.bool true) ∧ Ext w w' := by
 have hl1 : l.length = n := SlO.len (f := ruC) (fun _ => rfl) (by decide) hA.1.1
 have hl2 : l'.length = n' := SlO.len (f := ruC) (fun _ => rfl) (by decide) hB.1.1
 have hnn : n' = n := by rw [← hl1, ← hl2]; exact map_len he
 subst hnn
 have hn0 : n' ≤ 9000000000000 := by have := hA.1.2; unfold lim47 at this; omega
 have H1 := hid hA
 have H2 := hid hB
 have HE := hid he
 have HL1 := hid hl1
 have HL2 := hid hl2
 clear hA hB he hl1 hl2
 go_enter Tryz.func47, Tryz.ntmps47
 go_wp2_with fail
 go_loopw [5] (YsI w n') (fun i _ => n' - (intOf i).toNat)
 case atStart => exact ⟨0, Nat.zero_le _, rfl, Ext.refl _⟩
 case round =>
  obtain ⟨k, hk, rfl, hw⟩ := hrel
  have HW := hid hw
  clear hw
  by_cases hkn : k < n'
  ·obtain ⟨x, hx⟩ : ∃ x, l[k]? = some x := ⟨_, List.getElem?_eq_getElem (by have := HL1.out; omega)⟩
   obtain ⟨y, hy⟩ : ∃ y, l'[k]? = some y := ⟨_, List.getElem?_eq_getElem (by have := HL2.out; omega)⟩
   have hxy := map_get HE.out hx hy
   have HMX := hid ((H1.out.2 x (List.mem_of_getElem? hx)).ext HW.out)
   have HMY := hid ((H2.out.2 y (List.mem_of_getElem? hy)).ext HW.out)
   obtain ⟨b1, o1, rfl, hcx⟩ := flat_cell (f := ruC) (m := 2) (fun _ => rfl) (H1.out.1.1.1.ext HW.out) (by decide) hx
   obtain ⟨b2, o2, rfl, hcy⟩ := flat_cell (f := ruC) (m := 2) (fun _ => rfl) (H2.out.1.1.1.ext HW.out) (by decide) hy
   unfold ruP at hxy
   injection hxy with g1 g2
   obtain ⟨xt, xA, xn, xc, xl⟩ := x
   obtain ⟨yt, yA, yn, yc, yl⟩ := y
   simp only at g1 g2
   subst g1
   have K := hid (fun (v : ExtW wr) => rcond_same xl yl xA yA xn yn xc yc v.v (HMX.out.1.1.ext v.h) (fun z hz => (HMX.out.2 z hz).ext v.h) (HMY.out.1.1.ext v.h) (fun z hz => (HMY.out.2 z hz).ext v.h) g2 HMX.out.1.2)
   have x0 := hcx 0 _ rfl
   have x1 := hcx 1 _ rfl
   have y0 := hcy 0 _ rfl
   have y1 := hcy 1 _ rfl
   rw [Nat.add_zero] at x0 y0
   have e1 : ∀ v : ExtW wr, v.v.cell? ⟨b1, o1 + k * 2, none⟩ = some (.string xt) := fun v => ys_cell x0 v
   have e2 : ∀ v : ExtW wr, v.v.cell? ⟨b1, o1 + k * 2 + 1, none⟩ = some (.slice xA xn xc) := fun v => ys_cell x1 v
   have e3 : ∀ v : ExtW wr, v.v.cell? ⟨b2, o2 + k * 2, none⟩ = some (.string xt) := fun v => ys_cell y0 v
   have e4 : ∀ v : ExtW wr, v.v.cell? ⟨b2, o2 + k * 2 + 1, none⟩ = some (.slice yA yn yc) := fun v => ys_cell y1 v
   have hkI : (k : Int) < (n' : Int) := by omega
   have hb : (!xt.toList == xt.toList) = false := by simp
   clear hx hy hcx hcy x0 x1 y0 y1 g2 HMX HMY
   go_wp2_with fail
   refine wp_region_ext (by kernel_rfl) (by kernel_rfl) ?_
   repeat (go_big_quiet_step ((go_at_call 74; with_reducible exact ExtW.call (K.out _))))
   refine wpQuiet_nil ?_
   intro wz hwz
   have HWZ := hid (HW.out.trans (ys_ext hwz))
   clear hwz e1 e2 e3 e4 hb K
   go_wp2
   exact ⟨⟨k + 1, by omega, by go_num, HWZ.out⟩, by simp [intOf]; omega⟩
  ·go_wp2
   go_ret
   exact ⟨rfl, HW.out⟩
end Go.Proofs.YtljdlkonlnjadaaGreatDoor
namespace Go.Proofs.YtljdlkonlnjadaaGreatDoor
open Go.RowKit
theorem eq_sym (b0 b1 b2 b3 : ByteArray) (i0 i1 : Int) (w : World) : (Op.equalIn 10000 31 (.agg #[.string b0, .string b1, .string b2, .string b3, .int .i64 i0, .int .i64 i1]) (.agg #[.string b0, .string b1, .string b2, .string b3, .int .i64 i0, .int .i64 i1])).run Tryz.prog w = .ok true w := by
 have u3 := Tryz.underlying9
 have u4 := Tryz.underlying3
 have u5 := Tryz.underlying31
 have a3 := Tryz.isAgg9
 have z3 := Tryz.sizeOf9
 have a4 := Tryz.isAgg3
 have z4 := Tryz.sizeOf3
 rw [show (10000 : Nat) = 9999 + 1 from rfl, run_equalIn_agg w 9999 _ _ _ (by kernel_rfl) (by kernel_rfl)]
 go_simp
set_option maxHeartbeats 8000000 in
theorem rsame_aux (t p d s0 s1 s2 s3 : ByteArray) (i0 i1 : Int) (a0 a1 a2 a3 a4 a5 a6 b0 b1 b2 b3 b4 b5 b6 : Option Addr) (n0 n1 n2 n3 n4 n5 n6 ac0 ac1 ac2 ac3 ac4 ac5 ac6 bc0 bc1 bc2 bc3 bc4 bc5 bc6 : Nat) (w : World)
 (R0 R0' R1 R1' : List Ru) (E : Nat → List El) (h0 : RusM (fun _ => True) w a0 n0 R0) (h0' : RusM (fun _ => True) w b0 n0 R0') (h1 : RusM (fun _ => True) w a1 n1 R1) (h1' : RusM (fun _ => True) w b1 n1 R1') (e0 : R0.map ruP = R0'.map ruP) (e1 : R1.map ruP = R1'.map ruP)
 (h2 : ElM 5 w a2 n2 (E 0)) (h2' : ElM 5 w b2 n2 (E 0)) (h3 : ElM 3 w a3 n3 (E 1)) (h3' : ElM 3 w b3 n3 (E 1)) (h4 : ElM 2 w a4 n4 (E 2)) (h4' : ElM 2 w b4 n4 (E 2)) (h5 : ElM 1 w a5 n5 (E 3)) (h5' : ElM 1 w b5 n5 (E 3)) (h6 : ElM 1 w a6 n6 (E 4)) (h6' : ElM 1 w b6 n6 (E 4)) (l2 : n2 ≤ 1000000) (l3 : n3 ≤ 1000000) (l4 : n4 ≤ 1000000) (l5 : n5 ≤ 1000000) (l6 : n6 ≤ 1000000) :
 Calls Tryz.prog 10 #[.agg #[.string t, .string p, .string d, .slice a0 n0 ac0, .slice a1 n1 ac1, .string s0, .string s1, .string s2, .string s3, .int .i64 i0, .int .i64 i1, .slice a2 n2 ac2, .slice a3 n3 ac3, .slice a4 n4 ac4, .slice a5 n5 ac5, .slice a6 n6 ac6], .agg #[.string t, .string p, .string d, .slice b0 n0 bc0, .slice b1 n1 bc1, .string s0, .string s1, .string s2, .string s3, .int .i64 i0, .int .i64 i1, .slice b2 n2 bc2, .slice b3 n3 bc3, .slice b4 n4 bc4, .slice b5 n5 bc5, .slice b6 n6 bc6]] w fun e w' => e = .returned (.bool true) ∧ Ext w w' := by
 have hw0 : Ext w ((w.alloc (.cells #[.string t, .string p, .string d, .slice a0 n0 ac0, .slice a1 n1 ac1, .string s0, .string s1, .string s2, .string s3, .int .i64 i0, .int .i64 i1, .slice a2 n2 ac2, .slice a3 n3 ac3, .slice a4 n4 ac4, .slice a5 n5 ac5, .slice a6 n6 ac6] 37)).alloc (.cells #[.string t, .string p, .string d, .slice b0 n0 bc0, .slice b1 n1 bc1, .string s0, .string s1, .string s2, .string s3, .int .i64 i0, .int .i64 i1, .slice b2 n2 bc2, .slice b3 n3 bc3, .slice b4 n4 bc4, .slice b5 n5 bc5, .slice b6 n6 bc6] 37)) := ((Ext.refl w).alloc _).alloc _
 have HW0 := hid hw0
 have KA := hid ((AtC.new w #[.string t, .string p, .string d, .slice a0 n0 ac0, .slice a1 n1 ac1, .string s0, .string s1, .string s2, .string s3, .int .i64 i0, .int .i64 i1, .slice a2 n2 ac2, .slice a3 n3 ac3, .slice a4 n4 ac4, .slice a5 n5 ac5, .slice a6 n6 ac6] : AtC 37 _ _ _).alloc (.cells #[.string t, .string p, .string d, .slice b0 n0 bc0, .slice b1 n1 bc1, .string s0, .string s1, .string s2, .string s3, .int .i64 i0, .int .i64 i1, .slice b2 n2 bc2, .slice b3 n3 bc3, .slice b4 n4 bc4, .slice b5 n5 bc5, .slice b6 n6 bc6] 37))
 have KB := hid (show AtC 37 ((w.alloc (.cells #[.string t, .string p, .string d, .slice a0 n0 ac0, .slice a1 n1 ac1, .string s0, .string s1, .string s2, .string s3, .int .i64 i0, .int .i64 i1, .slice a2 n2 ac2, .slice a3 n3 ac3, .slice a4 n4 ac4, .slice a5 n5 ac5, .slice a6 n6 ac6] 37)).alloc (.cells #[.string t, .string p, .string d, .slice b0 n0 bc0, .slice b1 n1 bc1, .string s0, .string s1, .string s2, .string s3, .int .i64 i0, .int .i64 i1, .slice b2 n2 bc2, .slice b3 n3 bc3, .slice b4 n4 bc4, .slice b5 n5 bc5, .slice b6 n6 bc6] 37)) (w.heap.size + 1) #[.string t, .string p, .string d, .slice b0 n0 bc0, .slice b1 n1 bc1, .string s0, .string s1, .string s2, .string s3, .int .i64 i0, .int .i64 i1, .slice b2 n2 bc2, .slice b3 n3 bc3, .slice b4 n4 bc4, .slice b5 n5 bc5, .slice b6 n6 bc6] from by
  have h := (AtC.new (w.alloc (.cells #[.string t, .string p, .string d, .slice a0 n0 ac0, .slice a1 n1 ac1, .string s0, .string s1, .string s2, .string s3, .int .i64 i0, .int .i64 i1, .slice a2 n2 ac2, .slice a3 n3 ac3, .slice a4 n4 ac4, .slice a5 n5 ac5, .slice a6 n6 ac6] 37)) #[.string t, .string p, .string d, .slice b0 n0 bc0, .slice b1 n1 bc1, .string s0, .string s1, .string s2, .string s3, .int .i64 i0, .int .i64 i1, .slice b2 n2 bc2, .slice b3 n3 bc3, .slice b4 n4 bc4, .slice b5 n5 bc5, .slice b6 n6 bc6] : AtC 37 _ _ _)
  rwa [World.size_alloc] at h)
 have K0 := hid (fun W (h : Ext w W) => rrules_same R0 R0' a0 b0 n0 n0 ac0 bc0 W (h0.ext h) (h0'.ext h) e0)
 have K1 := hid (fun W (h : Ext w W) => rrules_same R1 R1' a1 b1 n1 n1 ac1 bc1 W (h1.ext h) (h1'.ext h) e1)
 have K5 := hid (fun W (h : Ext w W) => rstrs_same _ a5 b5 n5 ac5 bc5 W (h5.ext h).sl (h5'.ext h).sl (by omega))
 have K6 := hid (fun W (h : Ext w W) => rstrs_same _ a6 b6 n6 ac6 bc6 W (h6.ext h).sl (h6'.ext h).sl (by omega))
 have H2 := hid h2; have H2' := hid h2'; have H3 := hid h3; have H3' := hid h3'; have H4 := hid h4; have H4' := hid h4'
 clear h0 h0' h1 h1' e0 e1 h2 h2' h3 h3' h4 h4' h5 h5' h6 h6' hw0
 have HB := hid (Ext.refl ((w.alloc (.cells #[.string t, .string p, .string d, .slice a0 n0 ac0, .slice a1 n1 ac1, .string s0, .string s1, .string s2, .string s3, .int .i64 i0, .int .i64 i1, .slice a2 n2 ac2, .slice a3 n3 ac3, .slice a4 n4 ac4, .slice a5 n5 ac5, .slice a6 n6 ac6] 37)).alloc (.cells #[.string t, .string p, .string d, .slice b0 n0 bc0, .slice b1 n1 bc1, .string s0, .string s1, .string s2, .string s3, .int .i64 i0, .int .i64 i1, .slice b2 n2 bc2, .slice b3 n3 bc3, .slice b4 n4 bc4, .slice b5 n5 bc5, .slice b6 n6 bc6] 37)))
 have q0 := (KA.out.ext (Ext.refl _)).cell 0 _ rfl; have r0 := (KB.out.ext (Ext.refl _)).cell 0 _ rfl; have q1 := (KA.out.ext (Ext.refl _)).cell 1 _ rfl; have r1 := (KB.out.ext (Ext.refl _)).cell 1 _ rfl; have q2 := (KA.out.ext (Ext.refl _)).cell 2 _ rfl; have r2 := (KB.out.ext (Ext.refl _)).cell 2 _ rfl; have q3 := (KA.out.ext (Ext.refl _)).cell 3 _ rfl; have r3 := (KB.out.ext (Ext.refl _)).cell 3 _ rfl; have q4 := (KA.out.ext (Ext.refl _)).cell 4 _ rfl; have r4 := (KB.out.ext (Ext.refl _)).cell 4 _ rfl; have q5 := (KA.out.ext (Ext.refl _)).cell 5 _ rfl; have r5 := (KB.out.ext (Ext.refl _)).cell 5 _ rfl; have q6 := (KA.out.ext (Ext.refl _)).cell 6 _ rfl; have r6 := (KB.out.ext (Ext.refl _)).cell 6 _ rfl; have q7 := (KA.out.ext (Ext.refl _)).cell 7 _ rfl; have r7 := (KB.out.ext (Ext.refl _)).cell 7 _ rfl; have q8 := (KA.out.ext (Ext.refl _)).cell 8 _ rfl; have r8 := (KB.out.ext (Ext.refl _)).cell 8 _ rfl; have q9 := (KA.out.ext (Ext.refl _)).cell 9 _ rfl; have r9 := (KB.out.ext (Ext.refl _)).cell 9 _ rfl; have q10 := (KA.out.ext (Ext.refl _)).cell 10 _ rfl; have r10 := (KB.out.ext (Ext.refl _)).cell 10 _ rfl
 have z1 : (!t.toList == t.toList) = false := by simp
 have z2 : (!p.toList == p.toList) = false := by simp
 have z3 : (!d.toList == d.toList) = false := by simp
 have e31 : ∀ W : World, (Op.equalIn 10000 31 (.agg #[.string s0, .string s1, .string s2, .string s3, .int .i64 i0, .int .i64 i1]) (.agg #[.string s0, .string s1, .string s2, .string s3, .int .i64 i0, .int .i64 i1])).run Tryz.prog W = .ok true W := fun W => eq_sym _ _ _ _ _ _ W
 have g31 : Tryz.prog.eqGuardType Tryz.prog.depth 31 = false := by kernel_rfl
 go_enter Tryz.func10, Tryz.ntmps10
 go_wp2_with fail
 refine (K0.out _ HW0.out).mono ?_
 rintro ev wa ⟨rfl, hwa⟩
 have HWA := hid hwa
 clear hwa q0 r0 q1 r1 q2 r2 q3 r3 q4 r4 q5 r5 q6 r6 q7 r7 q8 r8 q9 r9 q10 r10 e31 g31 z1 z2 z3 K0
 have q4 := (KA.out.ext HWA.out).cell 4 _ rfl
 have r4 := (KB.out.ext HWA.out).cell 4 _ rfl
 simp only
 go_wp2_with fail
 refine (K1.out _ (HW0.out.trans HWA.out)).mono ?_
 rintro ev wb ⟨rfl, hwb⟩
 have HWB := hid (HWA.out.trans hwb)
 clear hwb q4 r4 K1
 have q14 := (KA.out.ext HWB.out).cell 14 _ rfl
 have r14 := (KB.out.ext HWB.out).cell 14 _ rfl
 simp only
 go_wp2_with fail
 refine (K5.out _ (HW0.out.trans HWB.out)).mono ?_
 rintro ev wc ⟨rfl, hwc⟩
 have HWC := hid (HWB.out.trans hwc)
 clear hwc q14 r14 K5
 have q15 := (KA.out.ext HWC.out).cell 15 _ rfl
 have r15 := (KB.out.ext HWC.out).cell 15 _ rfl
 simp only
 go_wp2_with fail
 refine (K6.out _ (HW0.out.trans HWC.out)).mono ?_
 rintro ev wd ⟨rfl, hwd⟩
 have HWD := hid (HWC.out.trans hwd)
 clear hwd q15 r15 K6
 have q11 := (KA.out.ext HWD.out).cell 11 _ rfl
 have r11 := (KB.out.ext HWD.out).cell 11 _ rfl
 have q12 := (KA.out.ext HWD.out).cell 12 _ rfl
 have r12 := (KB.out.ext HWD.out).cell 12 _ rfl
 have q13 := (KA.out.ext HWD.out).cell 13 _ rfl
 have r13 := (KB.out.ext HWD.out).cell 13 _ rfl
 simp only
 go_wp2_with fail
 go_loopw [5] (YsI wd n2) (fun i _ => n2 - (intOf i).toNat)
 case atStart => exact ⟨0, Nat.zero_le _, rfl, Ext.refl _⟩
 case round =>
  obtain ⟨k, hk, rfl, hw⟩ := hrel
  have HW := hid (HWD.out.trans hw)
  have HWL := hid hw
  clear hw q11 r11 q12 r12 q13 r13
  have q11 := (KA.out.ext HW.out).cell 11 _ rfl
  have r11 := (KB.out.ext HW.out).cell 11 _ rfl
  by_cases hkn : k < n2
  ·obtain ⟨z, hz⟩ : ∃ z, (E 0)[k]? = some z := ⟨_, List.getElem?_eq_getElem (by rw [H2.out.len (by decide)]; exact hkn)⟩
   obtain ⟨hzl, bA, oA, hA, _, hcA⟩ := (H2.out.ext (HW0.out.trans HW.out)).at_ (by decide) hz
   obtain ⟨_, bB, oB, hB, _, hcB⟩ := (H2'.out.ext (HW0.out.trans HW.out)).at_ (by decide) hz
   obtain ⟨x0, x1, x2, x3, x4, rfl⟩ : ∃ x0 x1 x2 x3 x4 : ByteArray, z = [x0, x1, x2, x3, x4] := by
    match z, hzl with
    | [x0, x1, x2, x3, x4], _ => exact ⟨x0, x1, x2, x3, x4, rfl⟩
   rw [hA] at q11
   rw [hB] at r11
   have c0 := hcA 0 x0 rfl
   have d0 := hcB 0 x0 rfl
   have c1 := hcA 1 x1 rfl
   have d1 := hcB 1 x1 rfl
   have c2 := hcA 2 x2 rfl
   have d2 := hcB 2 x2 rfl
   have c3 := hcA 3 x3 rfl
   have d3 := hcB 3 x3 rfl
   have c4 := hcA 4 x4 rfl
   have d4 := hcB 4 x4 rfl
   rw [Nat.add_zero] at c0 d0
   have p0 : ∀ v : ExtW wr, v.v.cell? ⟨w.heap.size, 11, none⟩ = some (.slice (some ⟨bA, oA, none⟩) n2 ac2) := fun v => ys_cell q11 v
   have p1 : ∀ v : ExtW wr, v.v.cell? ⟨w.heap.size + 1, 11, none⟩ = some (.slice (some ⟨bB, oB, none⟩) n2 bc2) := fun v => ys_cell r11 v
   have s0_ : ∀ v : ExtW wr, v.v.cell? ⟨bA, oA + k * 5, none⟩ = some (.string x0) := fun v => ys_cell c0 v
   have t0_ : ∀ v : ExtW wr, v.v.cell? ⟨bB, oB + k * 5, none⟩ = some (.string x0) := fun v => ys_cell d0 v
   have s1_ : ∀ v : ExtW wr, v.v.cell? ⟨bA, oA + k * 5 + 1, none⟩ = some (.string x1) := fun v => ys_cell c1 v
   have t1_ : ∀ v : ExtW wr, v.v.cell? ⟨bB, oB + k * 5 + 1, none⟩ = some (.string x1) := fun v => ys_cell d1 v
   have s2_ : ∀ v : ExtW wr, v.v.cell? ⟨bA, oA + k * 5 + 2, none⟩ = some (.string x2) := fun v => ys_cell c2 v
   have t2_ : ∀ v : ExtW wr, v.v.cell? ⟨bB, oB + k * 5 + 2, none⟩ = some (.string x2) := fun v => ys_cell d2 v
   have s3_ : ∀ v : ExtW wr, v.v.cell? ⟨bA, oA + k * 5 + 3, none⟩ = some (.string x3) := fun v => ys_cell c3 v
   have t3_ : ∀ v : ExtW wr, v.v.cell? ⟨bB, oB + k * 5 + 3, none⟩ = some (.string x3) := fun v => ys_cell d3 v
   have s4_ : ∀ v : ExtW wr, v.v.cell? ⟨bA, oA + k * 5 + 4, none⟩ = some (.string x4) := fun v => ys_cell c4 v
   have t4_ : ∀ v : ExtW wr, v.v.cell? ⟨bB, oB + k * 5 + 4, none⟩ = some (.string x4) := fun v => ys_cell d4 v
   have e58 : ∀ W : World, (Op.equalIn 10000 71 (.agg #[.string x0, .string x1, .string x2, .string x3, .string x4]) (.agg #[.string x0, .string x1, .string x2, .string x3, .string x4])).run Tryz.prog W = .ok true W := fun W => eq_lp _ _ _ _ _ W
   have g58 : Tryz.prog.eqGuardType Tryz.prog.depth 71 = false := by kernel_rfl
   have hkI : (k : Int) < (n2 : Int) := by omega
   clear hz hA hB hcA hcB hzl c0 d0 c1 d1 c2 d2 c3 d3 c4 d4
   go_upto_region 8 with fail
   refine wp_region_ext (by kernel_rfl) (by kernel_rfl) ?_
   repeat (go_big_quiet_step (fail))
   refine wpQuiet_nil ?_
   intro wz hwz
   have HWZ := hid (HWL.out.trans (ys_ext hwz))
   clear hwz p0 p1 e58 g58 q11 r11 s0_ t0_ s1_ t1_ s2_ t2_ s3_ t3_ s4_ t4_
   go_wp2
   exact ⟨⟨k + 1, by omega, by go_num, HWZ.out⟩, by simp [intOf]; omega⟩
  ·have hkk : k = n2 := by omega
   obtain ⟨we, hN_⟩ : ∃ W : World, W = wr := ⟨_, rfl⟩
   have HWE := hid (show Ext ((w.alloc (.cells #[.string t, .string p, .string d, .slice a0 n0 ac0, .slice a1 n1 ac1, .string s0, .string s1, .string s2, .string s3, .int .i64 i0, .int .i64 i1, .slice a2 n2 ac2, .slice a3 n3 ac3, .slice a4 n4 ac4, .slice a5 n5 ac5, .slice a6 n6 ac6] 37)).alloc (.cells #[.string t, .string p, .string d, .slice b0 n0 bc0, .slice b1 n1 bc1, .string s0, .string s1, .string s2, .string s3, .int .i64 i0, .int .i64 i1, .slice b2 n2 bc2, .slice b3 n3 bc3, .slice b4 n4 bc4, .slice b5 n5 bc5, .slice b6 n6 bc6] 37)) we from by rw [hN_]; exact HW.out)
   have q12 := (KA.out.ext HWE.out).cell 12 _ rfl
   have r12 := (KB.out.ext HWE.out).cell 12 _ rfl
   rw [hN_] at q12 r12
   clear hkk
   have hkk2 : ¬ k < n2 := hkn
   subst hN_
   go_wp2_with fail
   go_loopw [6] (YsI we n3) (fun i _ => n3 - (intOf i).toNat)
   case atStart => exact ⟨0, Nat.zero_le _, rfl, Ext.refl _⟩
   case round =>
    obtain ⟨k, hk, rfl, hw⟩ := hrel
    have HW := hid (HWE.out.trans hw)
    have HWL := hid hw
    clear hw q12 r12
    have q12 := (KA.out.ext HW.out).cell 12 _ rfl
    have r12 := (KB.out.ext HW.out).cell 12 _ rfl
    by_cases hkn : k < n3
    ·obtain ⟨z, hz⟩ : ∃ z, (E 1)[k]? = some z := ⟨_, List.getElem?_eq_getElem (by rw [H3.out.len (by decide)]; exact hkn)⟩
     obtain ⟨hzl, bA, oA, hA, _, hcA⟩ := (H3.out.ext (HW0.out.trans HW.out)).at_ (by decide) hz
     obtain ⟨_, bB, oB, hB, _, hcB⟩ := (H3'.out.ext (HW0.out.trans HW.out)).at_ (by decide) hz
     obtain ⟨x0, x1, x2, rfl⟩ : ∃ x0 x1 x2 : ByteArray, z = [x0, x1, x2] := by
      match z, hzl with
      | [x0, x1, x2], _ => exact ⟨x0, x1, x2, rfl⟩
     rw [hA] at q12
     rw [hB] at r12
     have c0 := hcA 0 x0 rfl
     have d0 := hcB 0 x0 rfl
     have c1 := hcA 1 x1 rfl
     have d1 := hcB 1 x1 rfl
     have c2 := hcA 2 x2 rfl
     have d2 := hcB 2 x2 rfl
     rw [Nat.add_zero] at c0 d0
     have p0 : ∀ v : ExtW wr, v.v.cell? ⟨w.heap.size, 12, none⟩ = some (.slice (some ⟨bA, oA, none⟩) n3 ac3) := fun v => ys_cell q12 v
     have p1 : ∀ v : ExtW wr, v.v.cell? ⟨w.heap.size + 1, 12, none⟩ = some (.slice (some ⟨bB, oB, none⟩) n3 bc3) := fun v => ys_cell r12 v
     have s0_ : ∀ v : ExtW wr, v.v.cell? ⟨bA, oA + k * 3, none⟩ = some (.string x0) := fun v => ys_cell c0 v
     have t0_ : ∀ v : ExtW wr, v.v.cell? ⟨bB, oB + k * 3, none⟩ = some (.string x0) := fun v => ys_cell d0 v
     have s1_ : ∀ v : ExtW wr, v.v.cell? ⟨bA, oA + k * 3 + 1, none⟩ = some (.string x1) := fun v => ys_cell c1 v
     have t1_ : ∀ v : ExtW wr, v.v.cell? ⟨bB, oB + k * 3 + 1, none⟩ = some (.string x1) := fun v => ys_cell d1 v
     have s2_ : ∀ v : ExtW wr, v.v.cell? ⟨bA, oA + k * 3 + 2, none⟩ = some (.string x2) := fun v => ys_cell c2 v
     have t2_ : ∀ v : ExtW wr, v.v.cell? ⟨bB, oB + k * 3 + 2, none⟩ = some (.string x2) := fun v => ys_cell d2 v
     have e58 : ∀ W : World, (Op.equalIn 10000 48 (.agg #[.string x0, .string x1, .string x2]) (.agg #[.string x0, .string x1, .string x2])).run Tryz.prog W = .ok true W := fun W => eq_up _ _ _ W
     have g58 : Tryz.prog.eqGuardType Tryz.prog.depth 48 = false := by kernel_rfl
     have hkI : (k : Int) < (n3 : Int) := by omega
     clear hz hA hB hcA hcB hzl c0 d0 c1 d1 c2 d2
     go_upto_region 13 with fail
     refine wp_region_ext (by kernel_rfl) (by kernel_rfl) ?_
     repeat (go_big_quiet_step (fail))
     refine wpQuiet_nil ?_
     intro wz hwz
     have HWZ := hid (HWL.out.trans (ys_ext hwz))
     clear hwz p0 p1 e58 g58 q12 r12 s0_ t0_ s1_ t1_ s2_ t2_
     go_wp2
     exact ⟨⟨k + 1, by omega, by go_num, HWZ.out⟩, by simp [intOf]; omega⟩
    ·have hkk : k = n3 := by omega
     obtain ⟨wf, hN_⟩ : ∃ W : World, W = wr := ⟨_, rfl⟩
     have HWF := hid (show Ext ((w.alloc (.cells #[.string t, .string p, .string d, .slice a0 n0 ac0, .slice a1 n1 ac1, .string s0, .string s1, .string s2, .string s3, .int .i64 i0, .int .i64 i1, .slice a2 n2 ac2, .slice a3 n3 ac3, .slice a4 n4 ac4, .slice a5 n5 ac5, .slice a6 n6 ac6] 37)).alloc (.cells #[.string t, .string p, .string d, .slice b0 n0 bc0, .slice b1 n1 bc1, .string s0, .string s1, .string s2, .string s3, .int .i64 i0, .int .i64 i1, .slice b2 n2 bc2, .slice b3 n3 bc3, .slice b4 n4 bc4, .slice b5 n5 bc5, .slice b6 n6 bc6] 37)) wf from by rw [hN_]; exact HW.out)
     have q13 := (KA.out.ext HWF.out).cell 13 _ rfl
     have r13 := (KB.out.ext HWF.out).cell 13 _ rfl
     rw [hN_] at q13 r13
     clear hkk
     have hkk2 : ¬ k < n3 := hkn
     subst hN_
     go_wp2_with fail
     go_loopw [7] (YsI wf n4) (fun i _ => n4 - (intOf i).toNat)
     case atStart => exact ⟨0, Nat.zero_le _, rfl, Ext.refl _⟩
     case round =>
      obtain ⟨k, hk, rfl, hw⟩ := hrel
      have HW := hid (HWF.out.trans hw)
      have HWL := hid hw
      clear hw q13 r13
      have q13 := (KA.out.ext HW.out).cell 13 _ rfl
      have r13 := (KB.out.ext HW.out).cell 13 _ rfl
      by_cases hkn : k < n4
      ·obtain ⟨z, hz⟩ : ∃ z, (E 2)[k]? = some z := ⟨_, List.getElem?_eq_getElem (by rw [H4.out.len (by decide)]; exact hkn)⟩
       obtain ⟨hzl, bA, oA, hA, _, hcA⟩ := (H4.out.ext (HW0.out.trans HW.out)).at_ (by decide) hz
       obtain ⟨_, bB, oB, hB, _, hcB⟩ := (H4'.out.ext (HW0.out.trans HW.out)).at_ (by decide) hz
       obtain ⟨x0, x1, rfl⟩ : ∃ x0 x1 : ByteArray, z = [x0, x1] := by
        match z, hzl with
        | [x0, x1], _ => exact ⟨x0, x1, rfl⟩
       rw [hA] at q13
       rw [hB] at r13
       have c0 := hcA 0 x0 rfl
       have d0 := hcB 0 x0 rfl
       have c1 := hcA 1 x1 rfl
       have d1 := hcB 1 x1 rfl
       rw [Nat.add_zero] at c0 d0
       have p0 : ∀ v : ExtW wr, v.v.cell? ⟨w.heap.size, 13, none⟩ = some (.slice (some ⟨bA, oA, none⟩) n4 ac4) := fun v => ys_cell q13 v
       have p1 : ∀ v : ExtW wr, v.v.cell? ⟨w.heap.size + 1, 13, none⟩ = some (.slice (some ⟨bB, oB, none⟩) n4 bc4) := fun v => ys_cell r13 v
       have s0_ : ∀ v : ExtW wr, v.v.cell? ⟨bA, oA + k * 2, none⟩ = some (.string x0) := fun v => ys_cell c0 v
       have t0_ : ∀ v : ExtW wr, v.v.cell? ⟨bB, oB + k * 2, none⟩ = some (.string x0) := fun v => ys_cell d0 v
       have s1_ : ∀ v : ExtW wr, v.v.cell? ⟨bA, oA + k * 2 + 1, none⟩ = some (.string x1) := fun v => ys_cell c1 v
       have t1_ : ∀ v : ExtW wr, v.v.cell? ⟨bB, oB + k * 2 + 1, none⟩ = some (.string x1) := fun v => ys_cell d1 v
       have e58 : ∀ W : World, (Op.equalIn 10000 87 (.agg #[.string x0, .string x1]) (.agg #[.string x0, .string x1])).run Tryz.prog W = .ok true W := fun W => eq_dp _ _ W
       have g58 : Tryz.prog.eqGuardType Tryz.prog.depth 87 = false := by kernel_rfl
       have hkI : (k : Int) < (n4 : Int) := by omega
       clear hz hA hB hcA hcB hzl c0 d0 c1 d1
       go_upto_region 18 with fail
       refine wp_region_ext (by kernel_rfl) (by kernel_rfl) ?_
       repeat (go_big_quiet_step (fail))
       refine wpQuiet_nil ?_
       intro wz hwz
       have HWZ := hid (HWL.out.trans (ys_ext hwz))
       clear hwz p0 p1 e58 g58 q13 r13 s0_ t0_ s1_ t1_
       go_wp2
       exact ⟨⟨k + 1, by omega, by go_num, HWZ.out⟩, by simp [intOf]; omega⟩
      ·have hkk : k = n4 := by omega
       clear hkk
       go_wp2
       go_ret
       exact ⟨rfl, HW0.out.trans HW.out⟩
theorem rsame_any (y1 y2 : Lk) (w : World) (h1 : LkM (fun _ => True) w y1) (h2 : LkM (fun _ => True) w y2) (he : lkP y1 = lkP y2) (hb : ∀ j, j < 5 → (y1.e j).length ≤ 1000000) :
 Calls Tryz.prog 10 #[.agg #[.string y1.x.t, .string y1.x.p, .string y1.x.d, .slice (y1.x.A 0) (y1.x.n 0) (y1.x.c 0), .slice (y1.x.A 1) (y1.x.n 1) (y1.x.c 1), .string (y1.x.s 0), .string (y1.x.s 1), .string (y1.x.s 2), .string (y1.x.s 3), .int .i64 (y1.x.i 0), .int .i64 (y1.x.i 1), .slice (y1.x.A 2) (y1.x.n 2) (y1.x.c 2), .slice (y1.x.A 3) (y1.x.n 3) (y1.x.c 3), .slice (y1.x.A 4) (y1.x.n 4) (y1.x.c 4), .slice (y1.x.A 5) (y1.x.n 5) (y1.x.c 5), .slice (y1.x.A 6) (y1.x.n 6) (y1.x.c 6)], .agg #[.string y2.x.t, .string y2.x.p, .string y2.x.d, .slice (y2.x.A 0) (y2.x.n 0) (y2.x.c 0), .slice (y2.x.A 1) (y2.x.n 1) (y2.x.c 1), .string (y2.x.s 0), .string (y2.x.s 1), .string (y2.x.s 2), .string (y2.x.s 3), .int .i64 (y2.x.i 0), .int .i64 (y2.x.i 1), .slice (y2.x.A 2) (y2.x.n 2) (y2.x.c 2), .slice (y2.x.A 3) (y2.x.n 3) (y2.x.c 3), .slice (y2.x.A 4) (y2.x.n 4) (y2.x.c 4), .slice (y2.x.A 5) (y2.x.n 5) (y2.x.c 5), .slice (y2.x.A 6) (y2.x.n 6) (y2.x.c 6)]] w fun e w' => e = .returned (.bool true) ∧ Ext w w' := by
 unfold lkP at he
 injection he with g1 g2 g3 g4 g5 g6 g7
 injection g6 with g8 g9
 injection g8 with k0 g8
 injection g8 with k1 g8
 injection g8 with k2 g8
 injection g8 with k3 _
 injection g9 with i0 g9
 injection g9 with i1 _
 have rl : ∀ {A B : Option Addr} {n m : Nat} {l l' : List Ru}, RusM (fun _ => True) w A n l → RusM (fun _ => True) w B m l' → l.map ruP = l'.map ruP → m = n := fun a b h => by
  rw [← SlO.len (f := ruC) (fun _ => rfl) (by decide) a.1.1, ← SlO.len (f := ruC) (fun _ => rfl) (by decide) b.1.1]
  exact map_len h
 have n0 := rl h1.1 h2.1 g4
 have n1 := rl h1.2.1 h2.2.1 g5
 have wp : ∀ j, 0 < wdE j := fun j => by unfold wdE; split <;> (try split) <;> (try split) <;> omega
 have en : ∀ j, j < 5 → y2.x.n (j + 2) = y1.x.n (j + 2) ∧ y1.x.n (j + 2) ≤ 1000000 := fun j hj => by
  have a := (h1.2.2 j hj).len (wp j)
  have b := (h2.2.2 j hj).len (wp j)
  rw [← g7] at b
  have := hb j hj
  omega
 have n2 := en 0 (by decide)
 have n3 := en 1 (by decide)
 have n4 := en 2 (by decide)
 have n5 := en 3 (by decide)
 have n6 := en 4 (by decide)
 rw [← g1, ← g2, ← g3, ← k0, ← k1, ← k2, ← k3, ← i0, ← i1, n0, n1, n2.1, n3.1, n4.1, n5.1, n6.1]
 have q := h2
 unfold LkM at q
 have e2 := fun j hj => q.2.2 j hj
 rw [← g7] at e2
 have m2 := e2 0 (by decide)
 have m3 := e2 1 (by decide)
 have m4 := e2 2 (by decide)
 have m5 := e2 3 (by decide)
 have m6 := e2 4 (by decide)
 rw [n2.1] at m2
 rw [n3.1] at m3
 rw [n4.1] at m4
 rw [n5.1] at m5
 rw [n6.1] at m6
 have r0 := q.1
 have r1 := q.2.1
 rw [n0] at r0
 rw [n1] at r1
 exact rsame_aux _ _ _ _ _ _ _ _ _ _ _ _ _ _ _ _ _ _ _ _ _ _ _ _ _ _ _ _ _ _ _ _ _ _ _ _ _ _ _ _ _ _ _ _ w (y1.r 0) (y2.r 0) (y1.r 1) (y2.r 1) y1.e h1.1 r0 h1.2.1 r1 g4 g5 (h1.2.2 0 (by decide)) m2 (h1.2.2 1 (by decide)) m3 (h1.2.2 2 (by decide)) m4 (h1.2.2 3 (by decide)) m5 (h1.2.2 4 (by decide)) m6 n2.2 n3.2 n4.2 n5.2 n6.2
end Go.Proofs.YtljdlkonlnjadaaGreatDoor
