import Derived.Test.YtljdlkonlnjadaaGreatDoorNXH
import Derived.Test.YtljdlkonlnjadaaGreatDoorNZ4
import Derived.Test.YtljdlkonlnjadaaGreatDoorNX4
import Derived.Test.YtljdlkonlnjadaaGreatDoorNX3
set_option maxRecDepth 100000
set_option linter.unusedSimpArgs false
set_option linter.unusedVariables false
open Go.Lib (hid)
namespace Go.Proofs.YtljdlkonlnjadaaGreatDoor
open Go.RowKit
theorem SlN.lit2 (w : World) (cs : List Value) (t : TypeId) (n size : Nat) (h : cs.length = n * size) : SlN (w.alloc (.cells cs.toArray t)) (some ⟨w.heap.size, 0, none⟩) n size cs :=
 ⟨h, fun j u hu => ⟨w.heap.size, 0, rfl, by simp, by
  have h0 := heap_alloc_new w (.cells cs.toArray t)
  rw [Nat.zero_add, cell_of_row _ w.heap.size j cs.toArray t (0, 0) h0]
  simpa using hu⟩⟩
theorem SlN.lit3 (w : World) (cs : Array Value) (t : TypeId) (n size : Nat) (h : cs.toList.length = n * size) : SlN (w.alloc (.cells cs t)) (some ⟨w.heap.size, 0, none⟩) n size cs.toList := SlN.lit2 w cs.toList t n size h
def zLc (t p : ByteArray) : Lc := ⟨t, p, ⟨#[]⟩, fun _ => none, fun _ => 0, fun _ => 0, fun _ => ⟨#[]⟩, fun _ => 0⟩
def exC : List Lc := [zLc ⟨#[117, 110, 100]⟩ ⟨#[]⟩, zLc ⟨#[101, 110]⟩ ⟨#[]⟩, zLc ⟨#[101, 110, 45, 71, 66]⟩ ⟨#[]⟩, zLc ⟨#[101, 110, 45, 65, 85]⟩ ⟨#[101, 110, 45, 71, 66]⟩]
theorem exC_map : exC.map locOf = exT := by kernel_rfl
theorem aw_of1 (L : Option Addr) (ln lc : Nat) (w : World) (hm : Mx w) (hL : Lcs w L ln exC) : Calls Tryz.prog 14 #[.agg #[.slice L ln lc, .slice none 0 0, .slice none 0 0], .string ⟨#[101, 110, 95, 65, 85]⟩] w fun e w' => ∃ A c, e = .returned (.tuple #[.slice A 4 c, .int .i64 0]) ∧ Sl w' A 4 ([cAu, cGb, cEn, cUn].map strv) ∧ Ext w w' := by
 have hl : ln = 4 := hL.len.symm
 have h := tof_any exC [] L none none ln lc 0 0 0 0 ⟨#[101, 110, 95, 65, 85]⟩ w hm hL (by omega) (SlN.nil _ _ _) (by omega) (by simp) (by intro x hx; unfold exC at hx; simp at hx; rcases hx with rfl | rfl | rfl | rfl <;> decide) (by decide)
 rw [exC_map, show (⟨#[101, 110, 95, 65, 85]⟩ : ByteArray).data.toList = cAx from rfl, exT_of1] at h
 refine h.mono ?_
 rintro e w' ⟨A', n', c', he, hs, _, hw⟩
 have e3 : n' = 4 := by rw [hs.len]; rfl
 subst e3
 exact ⟨A', c', he, hs, hw⟩
theorem aw_of2 (L : Option Addr) (ln lc : Nat) (w : World) (hm : Mx w) (hL : Lcs w L ln exC) : Calls Tryz.prog 14 #[.agg #[.slice L ln lc, .slice none 0 0, .slice none 0 0], .string ⟨#[101, 110, 45, 78, 90]⟩] w fun e w' => ∃ A c, e = .returned (.tuple #[.slice A 2 c, .int .i64 0]) ∧ Sl w' A 2 ([cEn, cUn].map strv) ∧ Ext w w' := by
 have hl : ln = 4 := hL.len.symm
 have h := tof_any exC [] L none none ln lc 0 0 0 0 ⟨#[101, 110, 45, 78, 90]⟩ w hm hL (by omega) (SlN.nil _ _ _) (by omega) (by simp) (by intro x hx; unfold exC at hx; simp at hx; rcases hx with rfl | rfl | rfl | rfl <;> decide) (by decide)
 rw [exC_map, show (⟨#[101, 110, 45, 78, 90]⟩ : ByteArray).data.toList = cNz from rfl, exT_of2] at h
 refine h.mono ?_
 rintro e w' ⟨A', n', c', he, hs, _, hw⟩
 have e3 : n' = 2 := by rw [hs.len]; rfl
 subst e3
 exact ⟨A', c', he, hs, hw⟩
set_option maxHeartbeats 1000000 in
theorem awake_any (w : World) (hm : Mx w) : Calls Tryz.prog 6 #[] w (RetTrue w) := by
 have hal : Lcs (w.alloc (.cells #[.string ⟨#[117, 110, 100]⟩, .string ⟨#[]⟩, .string ⟨#[]⟩, .slice none 0 0, .slice none 0 0, .string ⟨#[]⟩, .string ⟨#[]⟩, .string ⟨#[]⟩, .string ⟨#[]⟩, .int .i64 0, .int .i64 0, .slice none 0 0, .slice none 0 0, .slice none 0 0, .slice none 0 0, .slice none 0 0, .string ⟨#[101, 110]⟩, .string ⟨#[]⟩, .string ⟨#[]⟩, .slice none 0 0, .slice none 0 0, .string ⟨#[]⟩, .string ⟨#[]⟩, .string ⟨#[]⟩, .string ⟨#[]⟩, .int .i64 0, .int .i64 0, .slice none 0 0, .slice none 0 0, .slice none 0 0, .slice none 0 0, .slice none 0 0, .string ⟨#[101, 110, 45, 71, 66]⟩, .string ⟨#[]⟩, .string ⟨#[]⟩, .slice none 0 0, .slice none 0 0, .string ⟨#[]⟩, .string ⟨#[]⟩, .string ⟨#[]⟩, .string ⟨#[]⟩, .int .i64 0, .int .i64 0, .slice none 0 0, .slice none 0 0, .slice none 0 0, .slice none 0 0, .slice none 0 0, .string ⟨#[101, 110, 45, 65, 85]⟩, .string ⟨#[101, 110, 45, 71, 66]⟩, .string ⟨#[]⟩, .slice none 0 0, .slice none 0 0, .string ⟨#[]⟩, .string ⟨#[]⟩, .string ⟨#[]⟩, .string ⟨#[]⟩, .int .i64 0, .int .i64 0, .slice none 0 0, .slice none 0 0, .slice none 0 0, .slice none 0 0, .slice none 0 0] 37)) (some ⟨w.heap.size, 0, none⟩) 4 exC := by
  have h := SlN.lit3 w #[.string ⟨#[117, 110, 100]⟩, .string ⟨#[]⟩, .string ⟨#[]⟩, .slice none 0 0, .slice none 0 0, .string ⟨#[]⟩, .string ⟨#[]⟩, .string ⟨#[]⟩, .string ⟨#[]⟩, .int .i64 0, .int .i64 0, .slice none 0 0, .slice none 0 0, .slice none 0 0, .slice none 0 0, .slice none 0 0, .string ⟨#[101, 110]⟩, .string ⟨#[]⟩, .string ⟨#[]⟩, .slice none 0 0, .slice none 0 0, .string ⟨#[]⟩, .string ⟨#[]⟩, .string ⟨#[]⟩, .string ⟨#[]⟩, .int .i64 0, .int .i64 0, .slice none 0 0, .slice none 0 0, .slice none 0 0, .slice none 0 0, .slice none 0 0, .string ⟨#[101, 110, 45, 71, 66]⟩, .string ⟨#[]⟩, .string ⟨#[]⟩, .slice none 0 0, .slice none 0 0, .string ⟨#[]⟩, .string ⟨#[]⟩, .string ⟨#[]⟩, .string ⟨#[]⟩, .int .i64 0, .int .i64 0, .slice none 0 0, .slice none 0 0, .slice none 0 0, .slice none 0 0, .slice none 0 0, .string ⟨#[101, 110, 45, 65, 85]⟩, .string ⟨#[101, 110, 45, 71, 66]⟩, .string ⟨#[]⟩, .slice none 0 0, .slice none 0 0, .string ⟨#[]⟩, .string ⟨#[]⟩, .string ⟨#[]⟩, .string ⟨#[]⟩, .int .i64 0, .int .i64 0, .slice none 0 0, .slice none 0 0, .slice none 0 0, .slice none 0 0, .slice none 0 0] 37 4 16 rfl
  exact h
 have HX := hid (show Ext w ((w.alloc (.cells #[.string ⟨#[117, 110, 100]⟩, .string ⟨#[]⟩, .string ⟨#[]⟩, .slice none 0 0, .slice none 0 0, .string ⟨#[]⟩, .string ⟨#[]⟩, .string ⟨#[]⟩, .string ⟨#[]⟩, .int .i64 0, .int .i64 0, .slice none 0 0, .slice none 0 0, .slice none 0 0, .slice none 0 0, .slice none 0 0, .string ⟨#[101, 110]⟩, .string ⟨#[]⟩, .string ⟨#[]⟩, .slice none 0 0, .slice none 0 0, .string ⟨#[]⟩, .string ⟨#[]⟩, .string ⟨#[]⟩, .string ⟨#[]⟩, .int .i64 0, .int .i64 0, .slice none 0 0, .slice none 0 0, .slice none 0 0, .slice none 0 0, .slice none 0 0, .string ⟨#[101, 110, 45, 71, 66]⟩, .string ⟨#[]⟩, .string ⟨#[]⟩, .slice none 0 0, .slice none 0 0, .string ⟨#[]⟩, .string ⟨#[]⟩, .string ⟨#[]⟩, .string ⟨#[]⟩, .int .i64 0, .int .i64 0, .slice none 0 0, .slice none 0 0, .slice none 0 0, .slice none 0 0, .slice none 0 0, .string ⟨#[101, 110, 45, 65, 85]⟩, .string ⟨#[101, 110, 45, 71, 66]⟩, .string ⟨#[]⟩, .slice none 0 0, .slice none 0 0, .string ⟨#[]⟩, .string ⟨#[]⟩, .string ⟨#[]⟩, .string ⟨#[]⟩, .int .i64 0, .int .i64 0, .slice none 0 0, .slice none 0 0, .slice none 0 0, .slice none 0 0, .slice none 0 0] 37)).alloc (.cells #[.slice (some ⟨w.heap.size, 0, none⟩) 4 4, .slice none 0 0, .slice none 0 0] 26)) from ((Ext.refl w).alloc _).alloc _)
 have HAL := hid (hal.ext (show Ext (w.alloc (.cells #[.string ⟨#[117, 110, 100]⟩, .string ⟨#[]⟩, .string ⟨#[]⟩, .slice none 0 0, .slice none 0 0, .string ⟨#[]⟩, .string ⟨#[]⟩, .string ⟨#[]⟩, .string ⟨#[]⟩, .int .i64 0, .int .i64 0, .slice none 0 0, .slice none 0 0, .slice none 0 0, .slice none 0 0, .slice none 0 0, .string ⟨#[101, 110]⟩, .string ⟨#[]⟩, .string ⟨#[]⟩, .slice none 0 0, .slice none 0 0, .string ⟨#[]⟩, .string ⟨#[]⟩, .string ⟨#[]⟩, .string ⟨#[]⟩, .int .i64 0, .int .i64 0, .slice none 0 0, .slice none 0 0, .slice none 0 0, .slice none 0 0, .slice none 0 0, .string ⟨#[101, 110, 45, 71, 66]⟩, .string ⟨#[]⟩, .string ⟨#[]⟩, .slice none 0 0, .slice none 0 0, .string ⟨#[]⟩, .string ⟨#[]⟩, .string ⟨#[]⟩, .string ⟨#[]⟩, .int .i64 0, .int .i64 0, .slice none 0 0, .slice none 0 0, .slice none 0 0, .slice none 0 0, .slice none 0 0, .string ⟨#[101, 110, 45, 65, 85]⟩, .string ⟨#[101, 110, 45, 71, 66]⟩, .string ⟨#[]⟩, .slice none 0 0, .slice none 0 0, .string ⟨#[]⟩, .string ⟨#[]⟩, .string ⟨#[]⟩, .string ⟨#[]⟩, .int .i64 0, .int .i64 0, .slice none 0 0, .slice none 0 0, .slice none 0 0, .slice none 0 0, .slice none 0 0] 37)) ((w.alloc (.cells #[.string ⟨#[117, 110, 100]⟩, .string ⟨#[]⟩, .string ⟨#[]⟩, .slice none 0 0, .slice none 0 0, .string ⟨#[]⟩, .string ⟨#[]⟩, .string ⟨#[]⟩, .string ⟨#[]⟩, .int .i64 0, .int .i64 0, .slice none 0 0, .slice none 0 0, .slice none 0 0, .slice none 0 0, .slice none 0 0, .string ⟨#[101, 110]⟩, .string ⟨#[]⟩, .string ⟨#[]⟩, .slice none 0 0, .slice none 0 0, .string ⟨#[]⟩, .string ⟨#[]⟩, .string ⟨#[]⟩, .string ⟨#[]⟩, .int .i64 0, .int .i64 0, .slice none 0 0, .slice none 0 0, .slice none 0 0, .slice none 0 0, .slice none 0 0, .string ⟨#[101, 110, 45, 71, 66]⟩, .string ⟨#[]⟩, .string ⟨#[]⟩, .slice none 0 0, .slice none 0 0, .string ⟨#[]⟩, .string ⟨#[]⟩, .string ⟨#[]⟩, .string ⟨#[]⟩, .int .i64 0, .int .i64 0, .slice none 0 0, .slice none 0 0, .slice none 0 0, .slice none 0 0, .slice none 0 0, .string ⟨#[101, 110, 45, 65, 85]⟩, .string ⟨#[101, 110, 45, 71, 66]⟩, .string ⟨#[]⟩, .slice none 0 0, .slice none 0 0, .string ⟨#[]⟩, .string ⟨#[]⟩, .string ⟨#[]⟩, .string ⟨#[]⟩, .int .i64 0, .int .i64 0, .slice none 0 0, .slice none 0 0, .slice none 0 0, .slice none 0 0, .slice none 0 0] 37)).alloc (.cells #[.slice (some ⟨w.heap.size, 0, none⟩) 4 4, .slice none 0 0, .slice none 0 0] 26)) from (Ext.refl _).alloc _))
 have KB := hid (show AtC 26 ((w.alloc (.cells #[.string ⟨#[117, 110, 100]⟩, .string ⟨#[]⟩, .string ⟨#[]⟩, .slice none 0 0, .slice none 0 0, .string ⟨#[]⟩, .string ⟨#[]⟩, .string ⟨#[]⟩, .string ⟨#[]⟩, .int .i64 0, .int .i64 0, .slice none 0 0, .slice none 0 0, .slice none 0 0, .slice none 0 0, .slice none 0 0, .string ⟨#[101, 110]⟩, .string ⟨#[]⟩, .string ⟨#[]⟩, .slice none 0 0, .slice none 0 0, .string ⟨#[]⟩, .string ⟨#[]⟩, .string ⟨#[]⟩, .string ⟨#[]⟩, .int .i64 0, .int .i64 0, .slice none 0 0, .slice none 0 0, .slice none 0 0, .slice none 0 0, .slice none 0 0, .string ⟨#[101, 110, 45, 71, 66]⟩, .string ⟨#[]⟩, .string ⟨#[]⟩, .slice none 0 0, .slice none 0 0, .string ⟨#[]⟩, .string ⟨#[]⟩, .string ⟨#[]⟩, .string ⟨#[]⟩, .int .i64 0, .int .i64 0, .slice none 0 0, .slice none 0 0, .slice none 0 0, .slice none 0 0, .slice none 0 0, .string ⟨#[101, 110, 45, 65, 85]⟩, .string ⟨#[101, 110, 45, 71, 66]⟩, .string ⟨#[]⟩, .slice none 0 0, .slice none 0 0, .string ⟨#[]⟩, .string ⟨#[]⟩, .string ⟨#[]⟩, .string ⟨#[]⟩, .int .i64 0, .int .i64 0, .slice none 0 0, .slice none 0 0, .slice none 0 0, .slice none 0 0, .slice none 0 0] 37)).alloc (.cells #[.slice (some ⟨w.heap.size, 0, none⟩) 4 4, .slice none 0 0, .slice none 0 0] 26)) (w.heap.size + 1) #[.slice (some ⟨w.heap.size, 0, none⟩) 4 4, .slice none 0 0, .slice none 0 0] from by
  have h := (AtC.new (w.alloc (.cells #[.string ⟨#[117, 110, 100]⟩, .string ⟨#[]⟩, .string ⟨#[]⟩, .slice none 0 0, .slice none 0 0, .string ⟨#[]⟩, .string ⟨#[]⟩, .string ⟨#[]⟩, .string ⟨#[]⟩, .int .i64 0, .int .i64 0, .slice none 0 0, .slice none 0 0, .slice none 0 0, .slice none 0 0, .slice none 0 0, .string ⟨#[101, 110]⟩, .string ⟨#[]⟩, .string ⟨#[]⟩, .slice none 0 0, .slice none 0 0, .string ⟨#[]⟩, .string ⟨#[]⟩, .string ⟨#[]⟩, .string ⟨#[]⟩, .int .i64 0, .int .i64 0, .slice none 0 0, .slice none 0 0, .slice none 0 0, .slice none 0 0, .slice none 0 0, .string ⟨#[101, 110, 45, 71, 66]⟩, .string ⟨#[]⟩, .string ⟨#[]⟩, .slice none 0 0, .slice none 0 0, .string ⟨#[]⟩, .string ⟨#[]⟩, .string ⟨#[]⟩, .string ⟨#[]⟩, .int .i64 0, .int .i64 0, .slice none 0 0, .slice none 0 0, .slice none 0 0, .slice none 0 0, .slice none 0 0, .string ⟨#[101, 110, 45, 65, 85]⟩, .string ⟨#[101, 110, 45, 71, 66]⟩, .string ⟨#[]⟩, .slice none 0 0, .slice none 0 0, .string ⟨#[]⟩, .string ⟨#[]⟩, .string ⟨#[]⟩, .string ⟨#[]⟩, .int .i64 0, .int .i64 0, .slice none 0 0, .slice none 0 0, .slice none 0 0, .slice none 0 0, .slice none 0 0] 37)) #[.slice (some ⟨w.heap.size, 0, none⟩) 4 4, .slice none 0 0, .slice none 0 0] : AtC 26 _ _ _)
  rw [World.size_alloc] at h
  exact h)
 have h0 := KB.out.cell 0 _ rfl
 have h1 := KB.out.cell 1 _ rfl
 have h2 := KB.out.cell 2 _ rfl
 have K1 := hid (aw_of1 (some ⟨w.heap.size, 0, none⟩) 4 4 _ (hm.ext HX.out) HAL.out)
 clear hal
 go_enter Tryz.func6, Tryz.ntmps6
 go_wp2_with fail
 refine K1.out.mono ?_
 rintro e w1 ⟨A, c, rfl, hs1, hw1⟩
 have HS1 := hid hs1
 have HW1 := hid (HX.out.trans hw1)
 have HAL1 := hid (HAL.out.ext hw1)
 have KB1 := hid (KB.out.ext hw1)
 clear hs1 hw1 h0 h1 h2 K1
 have h0 := KB1.out.cell 0 _ rfl
 have h1 := KB1.out.cell 1 _ rfl
 have h2 := KB1.out.cell 2 _ rfl
 go_wp2_with fail
 refine (aw_of2 _ _ _ _ (hm.ext HW1.out) HAL1.out).mono ?_
 rintro e w2 ⟨A5, c5, rfl, hs2, hw2⟩
 have HS2 := hid (hs2.ext ((Ext.refl w2).alloc (.cells #[.string ⟨#[101, 110, 45, 65, 85]⟩, .string ⟨#[101, 110, 45, 71, 66]⟩, .string ⟨#[101, 110]⟩, .string ⟨#[117, 110, 100]⟩] 9)))
 have HS1b := hid (HS1.out.ext (hw2.alloc (.cells #[.string ⟨#[101, 110, 45, 65, 85]⟩, .string ⟨#[101, 110, 45, 71, 66]⟩, .string ⟨#[101, 110]⟩, .string ⟨#[117, 110, 100]⟩] 9)))
 have HW2 := hid (HW1.out.trans hw2)
 have HL1 : Hid (Sl (w2.alloc (.cells #[.string ⟨#[101, 110, 45, 65, 85]⟩, .string ⟨#[101, 110, 45, 71, 66]⟩, .string ⟨#[101, 110]⟩, .string ⟨#[117, 110, 100]⟩] 9)) (some ⟨w2.heap.size, 0, none⟩) 4 ([cAu, cGb, cEn, cUn].map strv)) := hid (Sl.lit w2 #[.string ⟨#[101, 110, 45, 65, 85]⟩, .string ⟨#[101, 110, 45, 71, 66]⟩, .string ⟨#[101, 110]⟩, .string ⟨#[117, 110, 100]⟩] 9 4 rfl)
 have SB1 : Hid ((([cAu, cGb, cEn, cUn] : List (List UInt8)) == [cAu, cGb, cEn, cUn]) = true) := hid (by decide)
 have SB2 : Hid ((([cEn, cUn] : List (List UInt8)) == [cEn, cUn]) = true) := hid (by decide)
 clear hs2 hw2 h0 h1 h2 HS1
 have hl4 : ∀ W : World, Sl (W.alloc (.cells #[.string ⟨#[101, 110]⟩, .string ⟨#[117, 110, 100]⟩] 9)) (some ⟨W.heap.size, 0, none⟩) 2 ([cEn, cUn].map strv) := fun W => Sl.lit W #[.string ⟨#[101, 110]⟩, .string ⟨#[117, 110, 100]⟩] 9 2 rfl
 have HL4 := hid hl4
 clear hl4
 have tok : True := trivial
 go_wp2_with (first
  | (have _t := tok; go_at_call 12; with_reducible refine (samestr_any [cAu, cGb, cEn, cUn] [cAu, cGb, cEn, cUn] _ _ _ _ c 4 _ HS1b.out HL1.out (by unfold maxLen; omega) (by unfold maxLen; omega)).mono ?_; rintro e w4 ⟨rfl, hw4⟩; rw [SB1.out]; have HW4 := hid ((HW2.out.alloc (.cells #[.string ⟨#[101, 110, 45, 65, 85]⟩, .string ⟨#[101, 110, 45, 71, 66]⟩, .string ⟨#[101, 110]⟩, .string ⟨#[117, 110, 100]⟩] 9)).trans hw4); have HS4 := hid ((HS2.out.ext hw4).ext ((Ext.refl w4).alloc (.cells #[.string ⟨#[101, 110]⟩, .string ⟨#[117, 110, 100]⟩] 9))); clear hw4 tok)
  | (go_at_call 12; with_reducible refine (samestr_any [cEn, cUn] [cEn, cUn] _ _ _ _ c5 2 _ HS4.out (HL4.out _) (by unfold maxLen; omega) (by unfold maxLen; omega)).mono ?_; rintro e w5 ⟨rfl, hw5⟩; rw [SB2.out]; have HW5 := hid ((HW4.out.alloc (.cells #[.string ⟨#[101, 110]⟩, .string ⟨#[117, 110, 100]⟩] 9)).trans hw5); clear hw5))
 go_ret
 exact ⟨rfl, HW5.out⟩
end Go.Proofs.YtljdlkonlnjadaaGreatDoor
