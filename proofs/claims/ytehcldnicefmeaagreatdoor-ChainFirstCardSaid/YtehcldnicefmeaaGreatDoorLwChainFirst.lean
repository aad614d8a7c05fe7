import Derived.Test.YtehcldnicefmeaaGreatDoorAw22
import Derived.Test.YtehcldnicefmeaaGreatDoorCq
import Derived.Test.YtehcldnicefmeaaGreatDoorCn
import Derived.Test.YtehcldnicefmeaaGreatDoorFd
import Derived.Test.YtehcldnicefmeaaGreatDoorFb
import Derived.Test.YtehcldnicefmeaaGreatDoorFc
import Derived.Test.YtehcldnicefmeaaGreatDoorNX5
namespace Go.Proofs.YtehcldnicefmeaaGreatDoor.lawChainFirst
open Go.ChangeShapes Go.WideShapes Go.ChangeAt Go.RowKit
open Go.ChangeMaps (open_string shut_string)
set_option linter.unusedSimpArgs false
set_option linter.unusedVariables false


def FI1 (w4 : World) (cats : List (BytesC × List EntP)) (id : BytesC) (tags : List BytesC) (n : Nat) (f i : Value) (wr : World) : Prop := ∃ (k : Nat) (fd : Bool), k ≤ n ∧ i = .int .i64 k ∧ f = .bool fd ∧ (fd = false → NoT cats id tags k) ∧ Ext w4 wr
def FI2 (w4 : World) (cats : List (BytesC × List EntP)) (x id : BytesC) (tags : List BytesC) (i0 n : Nat) (f i : Value) (wr : World) : Prop := ∃ (k : Nat) (fd : Bool), k ≤ n ∧ i = .int .i64 k ∧ f = .bool fd ∧ (fd = false → NoT cats id tags i0) ∧ (fd = false → NoC x id cats k) ∧ Ext w4 wr
def FI3 (w4 : World) (cats : List (BytesC × List EntP)) (x id : BytesC) (tags : List BytesC) (i0 k0 : Nat) (c : BytesC × List EntP) (n : Nat) (f i : Value) (wr : World) : Prop := ∃ (k : Nat) (fd : Bool), k ≤ n ∧ i = .int .i64 k ∧ f = .bool fd ∧ (fd = false → NoT cats id tags i0) ∧ (fd = false → NoC x id cats k0) ∧ (fd = false → (c.1 == x) = true → NoE id c.2 k) ∧ Ext w4 wr
set_option maxRecDepth 100000 in
set_option maxHeartbeats 8000000 in
theorem law (l : List Lc) (al : List Ali) (nl : List Nr) (L A N : Option Addr) (ln lc n c m d : Nat) (ct : List Ct) (E : Option Addr) (en ec : Nat) (s id : ByteArray) (w : World) (hm : Mx w) (hL : Lcs w L ln l) (hln : ln ≤ maxLen) (hok : ∀ x ∈ l, lcOK x) (hA : Als w A n al) (hn : n ≤ maxLen) (hz : ∀ a ∈ al, a.1.size ≤ reachBytes ∧ a.2.size ≤ reachBytes) (hN : Nrs w N m nl) (hmm : m ≤ maxLen) (hzn : ∀ a ∈ nl, a.f.size ≤ reachBytes ∧ a.o.size ≤ reachBytes) (hE : Cts w E en ct) (hen : en ≤ maxLen) (hes : ∀ x ∈ ct, x.n 2 ≤ maxLen) (hs : s.size ≤ reachBytes) :
    Calls Tryz.prog 6 #[.agg #[.slice L ln lc, .slice A n c, .slice N m d], .slice E en ec, .agg #[.string s, .string id]] w (RetTrue w) := by
  have HE := Lib.hid (hE.ext ((Ext.refl w).alloc (.cells #[.slice L ln lc, .slice A n c, .slice N m d] 26)|>.alloc (.cells #[.string s, .string id] 37)))
  have hfk := fun W (h : Ext ((w.alloc (.cells #[.slice L ln lc, .slice A n c, .slice N m d] 26)).alloc (.cells #[.string s, .string id] 37)) W) => fewk_any ct E en ec W (HE.out.ext h) hen hes
  clear hE
  have HFK := Lib.hid hfk
  clear hfk
  have HX0 := Lib.hid (((Ext.refl w).alloc (.cells #[.slice L ln lc, .slice A n c, .slice N m d] 26)).alloc (.cells #[.string s, .string id] 37))
  have HL := Lib.hid (hL.ext HX0.out)
  have hm0 := Lib.hid (hm.ext HX0.out)
  have HA := Lib.hid (hA.ext HX0.out)
  have HN := Lib.hid (hN.ext HX0.out)
  have KB := Lib.hid ((AtC.new w #[.slice L ln lc, .slice A n c, .slice N m d] : AtC 26 _ _ _).alloc (.cells #[.string s, .string id] 37))
  have KQ := Lib.hid (show AtC 37 ((w.alloc (.cells #[.slice L ln lc, .slice A n c, .slice N m d] 26)).alloc (.cells #[.string s, .string id] 37)) (w.heap.size + 1) #[.string s, .string id] from by
    have h := (AtC.new (w.alloc (.cells #[.slice L ln lc, .slice A n c, .slice N m d] 26)) #[.string s, .string id] : AtC 37 _ _ _)
    rwa [World.size_alloc] at h)
  have y0 := KQ.out.cell 0 _ rfl
  have y1 := KQ.out.cell 1 _ rfl
  have x0 := KB.out.cell 0 _ rfl
  have x1 := KB.out.cell 1 _ rfl
  have x2 := KB.out.cell 2 _ rfl
  have hf1 := fun W (h : Ext ((w.alloc (.cells #[.slice L ln lc, .slice A n c, .slice N m d] 26)).alloc (.cells #[.string s, .string id] 37)) W) => few22_any l al nl L A N ln lc n c m d W (HL.out.ext h) hln hok (HA.out.ext h) hn hz (HN.out.ext h) hmm hzn
  clear hL hA hN
  cases q0 : fewC l al nl with
  | false =>
   rw [q0] at hf1
   have HF1 := Lib.hid hf1
   clear q0 hf1
   go_enter Tryz.func6, Tryz.ntmps6
   go_wp2_with fail
   refine (awake_any _ (hm0.out.ext (Ext.refl _))).mono ?_
   rintro e w1 ⟨rfl, hw1⟩
   have HW1 := Lib.hid ((Ext.refl _).trans hw1)
   clear x0 x1 x2 y0 y1
   have x0 := (KB.out.ext HW1.out).cell 0 _ rfl
   have x1 := (KB.out.ext HW1.out).cell 1 _ rfl
   have x2 := (KB.out.ext HW1.out).cell 2 _ rfl
   have y0 := (KQ.out.ext HW1.out).cell 0 _ rfl
   have y1 := (KQ.out.ext HW1.out).cell 1 _ rfl
   clear hw1
   go_wp2_with fail
   refine (HF1.out _ HW1.out).mono ?_
   rintro e w2 ⟨rfl, hw2⟩
   have HW2 := Lib.hid (HW1.out.trans hw2)
   clear x0 x1 x2 y0 y1
   have x0 := (KB.out.ext HW2.out).cell 0 _ rfl
   have x1 := (KB.out.ext HW2.out).cell 1 _ rfl
   have x2 := (KB.out.ext HW2.out).cell 2 _ rfl
   have y0 := (KQ.out.ext HW2.out).cell 0 _ rfl
   have y1 := (KQ.out.ext HW2.out).cell 1 _ rfl
   clear hw2
   go_wp2_with fail
   refine (awake_any _ (hm0.out.ext HW2.out)).mono ?_
   rintro e w3 ⟨rfl, hw3⟩
   have HW3 := Lib.hid (HW2.out.trans hw3)
   clear x0 x1 x2 y0 y1
   have x0 := (KB.out.ext HW3.out).cell 0 _ rfl
   have x1 := (KB.out.ext HW3.out).cell 1 _ rfl
   have x2 := (KB.out.ext HW3.out).cell 2 _ rfl
   have y0 := (KQ.out.ext HW3.out).cell 0 _ rfl
   have y1 := (KQ.out.ext HW3.out).cell 1 _ rfl
   clear hw3
   go_wp2
   go_ret
   exact ⟨rfl, HX0.out.trans HW3.out⟩
  | true =>
   obtain ⟨g1, g2, g3, g4, g5⟩ := fewC_len q0
   have hl12 : ln ≤ 12 := by have := HL.out.len; omega
   have hn12 : n ≤ 12 := by have := HA.out.len; omega
   have hm30 : m ≤ 30 := by have := HN.out.len; omega
   have HZ1 := Lib.hid (show ∀ a ∈ al, a.1.size ≤ 60000 ∧ a.2.size ≤ 60000 from fun a ha => by have := g4 a ha; omega)
   have HZ2 := Lib.hid (show ∀ x ∈ l, x.t.size ≤ 60000 from fun x hx => by have := g2 x hx; omega)
   have HZ3 := Lib.hid (show ∀ x ∈ nl, x.f.size ≤ 1000000 ∧ x.o.size ≤ 1000000 from fun x hx => by have := g5 x hx; omega)
   clear g1 g2 g3 g4 g5
   rw [q0] at hf1
   have HF1 := Lib.hid hf1
   clear q0 hf1
   cases q1 : fewK ct with
   | false =>
    rw [q1] at HFK
    clear q1
    go_enter Tryz.func6, Tryz.ntmps6
    go_wp2_with fail
    refine (awake_any _ (hm0.out.ext (Ext.refl _))).mono ?_
    rintro e w1 ⟨rfl, hw1⟩
    have HW1 := Lib.hid ((Ext.refl _).trans hw1)
    clear x0 x1 x2 y0 y1
    have x0 := (KB.out.ext HW1.out).cell 0 _ rfl
    have x1 := (KB.out.ext HW1.out).cell 1 _ rfl
    have x2 := (KB.out.ext HW1.out).cell 2 _ rfl
    have y0 := (KQ.out.ext HW1.out).cell 0 _ rfl
    have y1 := (KQ.out.ext HW1.out).cell 1 _ rfl
    clear hw1
    go_wp2_with fail
    refine (HF1.out _ HW1.out).mono ?_
    rintro e w2 ⟨rfl, hw2⟩
    have HW2 := Lib.hid (HW1.out.trans hw2)
    clear x0 x1 x2 y0 y1
    have x0 := (KB.out.ext HW2.out).cell 0 _ rfl
    have x1 := (KB.out.ext HW2.out).cell 1 _ rfl
    have x2 := (KB.out.ext HW2.out).cell 2 _ rfl
    have y0 := (KQ.out.ext HW2.out).cell 0 _ rfl
    have y1 := (KQ.out.ext HW2.out).cell 1 _ rfl
    clear hw2
    go_wp2_with fail
    refine (HFK.out _ HW2.out).mono ?_
    rintro e w3 ⟨rfl, hw3⟩
    have HW3 := Lib.hid (HW2.out.trans hw3)
    clear x0 x1 x2 y0 y1
    have x0 := (KB.out.ext HW3.out).cell 0 _ rfl
    have x1 := (KB.out.ext HW3.out).cell 1 _ rfl
    have x2 := (KB.out.ext HW3.out).cell 2 _ rfl
    have y0 := (KQ.out.ext HW3.out).cell 0 _ rfl
    have y1 := (KQ.out.ext HW3.out).cell 1 _ rfl
    clear hw3
    go_wp2_with fail
    refine (awake_any _ (hm0.out.ext HW3.out)).mono ?_
    rintro e w4 ⟨rfl, hw4⟩
    have HW4 := Lib.hid (HW3.out.trans hw4)
    clear x0 x1 x2 y0 y1
    have x0 := (KB.out.ext HW4.out).cell 0 _ rfl
    have x1 := (KB.out.ext HW4.out).cell 1 _ rfl
    have x2 := (KB.out.ext HW4.out).cell 2 _ rfl
    have y0 := (KQ.out.ext HW4.out).cell 0 _ rfl
    have y1 := (KQ.out.ext HW4.out).cell 1 _ rfl
    clear hw4
    go_wp2
    go_ret
    exact ⟨rfl, HX0.out.trans HW4.out⟩
   | true =>
    obtain ⟨g1, g2⟩ := fewK_len q1
    have he12 : en ≤ 12 := by have := HE.out.len; omega
    have HES := Lib.hid (show ∀ x ∈ ct, x.n 2 ≤ 100000 from fun x hx => by have := g2 x hx; have h2 := (HE.out.2 x hx).len; omega)
    clear g1 g2
    rw [q1] at HFK
    clear q1
    by_cases h100 : s.size ≤ 100
    rotate_left
    · have u100 : decide ((100 : Int) < (s.size : Int)) = true := by simp; omega
      go_enter Tryz.func6, Tryz.ntmps6
      go_wp2_with fail
      refine (awake_any _ (hm0.out.ext (Ext.refl _))).mono ?_
      rintro e w1 ⟨rfl, hw1⟩
      have HW1 := Lib.hid ((Ext.refl _).trans hw1)
      clear x0 x1 x2 y0 y1
      have x0 := (KB.out.ext HW1.out).cell 0 _ rfl
      have x1 := (KB.out.ext HW1.out).cell 1 _ rfl
      have x2 := (KB.out.ext HW1.out).cell 2 _ rfl
      have y0 := (KQ.out.ext HW1.out).cell 0 _ rfl
      have y1 := (KQ.out.ext HW1.out).cell 1 _ rfl
      clear hw1
      go_wp2_with fail
      refine (HF1.out _ HW1.out).mono ?_
      rintro e w2 ⟨rfl, hw2⟩
      have HW2 := Lib.hid (HW1.out.trans hw2)
      clear x0 x1 x2 y0 y1
      have x0 := (KB.out.ext HW2.out).cell 0 _ rfl
      have x1 := (KB.out.ext HW2.out).cell 1 _ rfl
      have x2 := (KB.out.ext HW2.out).cell 2 _ rfl
      have y0 := (KQ.out.ext HW2.out).cell 0 _ rfl
      have y1 := (KQ.out.ext HW2.out).cell 1 _ rfl
      clear hw2
      go_wp2_with fail
      refine (HFK.out _ HW2.out).mono ?_
      rintro e w3 ⟨rfl, hw3⟩
      have HW3 := Lib.hid (HW2.out.trans hw3)
      clear x0 x1 x2 y0 y1
      have x0 := (KB.out.ext HW3.out).cell 0 _ rfl
      have x1 := (KB.out.ext HW3.out).cell 1 _ rfl
      have x2 := (KB.out.ext HW3.out).cell 2 _ rfl
      have y0 := (KQ.out.ext HW3.out).cell 0 _ rfl
      have y1 := (KQ.out.ext HW3.out).cell 1 _ rfl
      clear hw3
      go_wp2_with fail
      refine (awake_any _ (hm0.out.ext HW3.out)).mono ?_
      rintro e w4 ⟨rfl, hw4⟩
      have HW4 := Lib.hid (HW3.out.trans hw4)
      clear x0 x1 x2 y0 y1
      have x0 := (KB.out.ext HW4.out).cell 0 _ rfl
      have x1 := (KB.out.ext HW4.out).cell 1 _ rfl
      have x2 := (KB.out.ext HW4.out).cell 2 _ rfl
      have y0 := (KQ.out.ext HW4.out).cell 0 _ rfl
      have y1 := (KQ.out.ext HW4.out).cell 1 _ rfl
      clear hw4
      go_wp2
      go_ret
      exact ⟨rfl, HX0.out.trans HW4.out⟩
    have u100 : decide ((100 : Int) < (s.size : Int)) = false := by simp; omega
    have hs60 : s.size ≤ 60000 := by omega
    have k1 := fun W (h : Ext ((w.alloc (.cells #[.slice L ln lc, .slice A n c, .slice N m d] 26)).alloc (.cells #[.string s, .string id] 37)) W) => tfind_any l al L A N ln lc n c m d ct E en ec s id W (hm0.out.ext h) (HL.out.ext h) (by omega) (HA.out.ext h) (by omega) HZ1.out HZ2.out hs60 (HE.out.ext h) (by omega) HES.out
    have k2 := fun W (h : Ext ((w.alloc (.cells #[.slice L ln lc, .slice A n c, .slice N m d] 26)).alloc (.cells #[.string s, .string id] 37)) W) => tof_any l al L A N ln lc n c m d s W (hm0.out.ext h) (HL.out.ext h) (by omega) (HA.out.ext h) (by omega) HZ1.out HZ2.out hs60
    obtain ⟨O, hO⟩ : ∃ O, O = ofC (l.map locOf) al s.data.toList := ⟨_, rfl⟩
    have f0 := fun h => findC_bad (cats := ct.map catOf) (id := id.data.toList) hO h
    have f1 := fun h hf => findC_none (cats := ct.map catOf) (id := id.data.toList) hO h hf
    have f2 := fun k q h hf => findC_some (cats := ct.map catOf) (id := id.data.toList) (k := k) (q := q) hO h hf
    have hlen := of_len (T := l.map locOf) (al := al) (s := s.data.toList)
    rw [← hO] at k2 hlen
    rw [List.length_map, HL.out.len] at hlen
    generalize findC (l.map locOf) al (ct.map catOf) s.data.toList id.data.toList = F at k1 f0 f1 f2
    obtain ⟨tags, e⟩ := O
    obtain ⟨⟨fc, fe⟩, ff⟩ := F
    simp only at f0 f1 f2 hlen
    have K1 := Lib.hid k1
    have K2 := Lib.hid k2
    have HC0 := Lib.hid f0
    have HC1 := Lib.hid f1
    have HC2 := Lib.hid f2
    have HCL := Lib.hid (show (ct.map catOf).length = en from by rw [List.length_map]; exact HE.out.len)
    clear k1 k2 f0 f1 f2 hO
    by_cases he : e = 0
    rotate_left
    · have hnz : (e == 0) = false := by simpa using he
      go_enter Tryz.func6, Tryz.ntmps6
      go_wp2_with fail
      refine (awake_any _ (hm0.out.ext (Ext.refl _))).mono ?_
      rintro e w1 ⟨rfl, hw1⟩
      have HW1 := Lib.hid ((Ext.refl _).trans hw1)
      clear x0 x1 x2 y0 y1
      have x0 := (KB.out.ext HW1.out).cell 0 _ rfl
      have x1 := (KB.out.ext HW1.out).cell 1 _ rfl
      have x2 := (KB.out.ext HW1.out).cell 2 _ rfl
      have y0 := (KQ.out.ext HW1.out).cell 0 _ rfl
      have y1 := (KQ.out.ext HW1.out).cell 1 _ rfl
      clear hw1
      go_wp2_with fail
      refine (HF1.out _ HW1.out).mono ?_
      rintro e w2 ⟨rfl, hw2⟩
      have HW2 := Lib.hid (HW1.out.trans hw2)
      clear x0 x1 x2 y0 y1
      have x0 := (KB.out.ext HW2.out).cell 0 _ rfl
      have x1 := (KB.out.ext HW2.out).cell 1 _ rfl
      have x2 := (KB.out.ext HW2.out).cell 2 _ rfl
      have y0 := (KQ.out.ext HW2.out).cell 0 _ rfl
      have y1 := (KQ.out.ext HW2.out).cell 1 _ rfl
      clear hw2
      go_wp2_with fail
      refine (HFK.out _ HW2.out).mono ?_
      rintro e w3 ⟨rfl, hw3⟩
      have HW3 := Lib.hid (HW2.out.trans hw3)
      clear x0 x1 x2 y0 y1
      have x0 := (KB.out.ext HW3.out).cell 0 _ rfl
      have x1 := (KB.out.ext HW3.out).cell 1 _ rfl
      have x2 := (KB.out.ext HW3.out).cell 2 _ rfl
      have y0 := (KQ.out.ext HW3.out).cell 0 _ rfl
      have y1 := (KQ.out.ext HW3.out).cell 1 _ rfl
      clear hw3
      go_wp2_with fail
      refine (K1.out _ HW3.out).mono ?_
      rintro e w4 ⟨rfl, hw4⟩
      have HW4 := Lib.hid (HW3.out.trans hw4)
      clear x0 x1 x2 y0 y1
      have x0 := (KB.out.ext HW4.out).cell 0 _ rfl
      have x1 := (KB.out.ext HW4.out).cell 1 _ rfl
      have x2 := (KB.out.ext HW4.out).cell 2 _ rfl
      have y0 := (KQ.out.ext HW4.out).cell 0 _ rfl
      have y1 := (KQ.out.ext HW4.out).cell 1 _ rfl
      clear hw4
      go_wp2_with fail
      refine (K2.out _ HW4.out).mono ?_
      rintro e1 wa ⟨A1, n1, c1, rfl, hs1, hc1, hwa⟩
      have HSA := Lib.hid hs1
      have HWA := Lib.hid (HW4.out.trans hwa)
      have hnr : tags.length = n1 := by have h := hs1.1; rwa [List.length_map] at h
      clear hs1 hwa
      clear x0 x1 x2 y0 y1
      have hfe := HC0.out he
      injection hfe with _ hfe
      subst hfe
      simp only
      go_wp2
      go_ret
      exact ⟨by first | rfl | simp | simp [*], HX0.out.trans HWA.out⟩
    subst he
    go_enter Tryz.func6, Tryz.ntmps6
    go_wp2_with fail
    refine (awake_any _ (hm0.out.ext (Ext.refl _))).mono ?_
    rintro e w1 ⟨rfl, hw1⟩
    have HW1 := Lib.hid ((Ext.refl _).trans hw1)
    clear x0 x1 x2 y0 y1
    have x0 := (KB.out.ext HW1.out).cell 0 _ rfl
    have x1 := (KB.out.ext HW1.out).cell 1 _ rfl
    have x2 := (KB.out.ext HW1.out).cell 2 _ rfl
    have y0 := (KQ.out.ext HW1.out).cell 0 _ rfl
    have y1 := (KQ.out.ext HW1.out).cell 1 _ rfl
    clear hw1
    go_wp2_with fail
    refine (HF1.out _ HW1.out).mono ?_
    rintro e w2 ⟨rfl, hw2⟩
    have HW2 := Lib.hid (HW1.out.trans hw2)
    clear x0 x1 x2 y0 y1
    have x0 := (KB.out.ext HW2.out).cell 0 _ rfl
    have x1 := (KB.out.ext HW2.out).cell 1 _ rfl
    have x2 := (KB.out.ext HW2.out).cell 2 _ rfl
    have y0 := (KQ.out.ext HW2.out).cell 0 _ rfl
    have y1 := (KQ.out.ext HW2.out).cell 1 _ rfl
    clear hw2
    go_wp2_with fail
    refine (HFK.out _ HW2.out).mono ?_
    rintro e w3 ⟨rfl, hw3⟩
    have HW3 := Lib.hid (HW2.out.trans hw3)
    clear x0 x1 x2 y0 y1
    have x0 := (KB.out.ext HW3.out).cell 0 _ rfl
    have x1 := (KB.out.ext HW3.out).cell 1 _ rfl
    have x2 := (KB.out.ext HW3.out).cell 2 _ rfl
    have y0 := (KQ.out.ext HW3.out).cell 0 _ rfl
    have y1 := (KQ.out.ext HW3.out).cell 1 _ rfl
    clear hw3
    go_wp2_with fail
    refine (K1.out _ HW3.out).mono ?_
    rintro e w4 ⟨rfl, hw4⟩
    have HW4 := Lib.hid (HW3.out.trans hw4)
    clear x0 x1 x2 y0 y1
    have x0 := (KB.out.ext HW4.out).cell 0 _ rfl
    have x1 := (KB.out.ext HW4.out).cell 1 _ rfl
    have x2 := (KB.out.ext HW4.out).cell 2 _ rfl
    have y0 := (KQ.out.ext HW4.out).cell 0 _ rfl
    have y1 := (KQ.out.ext HW4.out).cell 1 _ rfl
    clear hw4
    go_wp2_with fail
    refine (K2.out _ HW4.out).mono ?_
    rintro e1 wa ⟨A1, n1, c1, rfl, hs1, hc1, hwa⟩
    have HSA := Lib.hid hs1
    have HWA := Lib.hid (HW4.out.trans hwa)
    have hnr : tags.length = n1 := by have h := hs1.1; rwa [List.length_map] at h
    clear hs1 hwa
    clear x0 x1 x2 y0 y1
    have HNR := Lib.hid hnr
    have hn1b : n1 ≤ 12 := by omega
    have HEA := Lib.hid (HE.out.ext HWA.out)
    have KQA := Lib.hid (KQ.out.ext HWA.out)
    simp only
    clear hnr
    go_wp2_with fail
    go_loopw [12, 13] (FI1 wa (ct.map catOf) id.data.toList tags n1) (fun _ i _ => n1 - (intOf i).toNat)
    case atStart => exact ⟨0, false, Nat.zero_le _, rfl, rfl, fun _ => noT_zero _ _ _, Ext.refl _⟩
    case round =>
      obtain ⟨k, fd0, hk, rfl, rfl, hnt, hw⟩ := hrel
      obtain ⟨wo, rfl⟩ : ∃ wo : World, wo = wr := ⟨_, rfl⟩
      have HNT := Lib.hid hnt
      have HWO := Lib.hid hw
      clear hnt hw
      by_cases hkn : k < n1
      · have hkI : (k : Int) < (n1 : Int) := by omega
        obtain ⟨ad, x, rfl, hx, hcx⟩ := (HSA.out.ext HWO.out).at_map hkn
        obtain ⟨xb, hx1, hx2⟩ := strv_b x
        rw [hx1] at hcx
        subst hx2
        have HCX := Lib.hid (fun W (h : Ext wo W) => (Ext.cell h (World.block_lt_of_cell? wo _ hcx)).trans hcx)
        have HX := Lib.hid hx
        clear hx hx1 hcx
        go_wp2_with fail
        go_loopw [12, 14] (FI2 wo (ct.map catOf) xb.data.toList id.data.toList tags k en) (fun _ i _ => en - (intOf i).toNat)
        case atStart => exact ⟨0, fd0, Nat.zero_le _, rfl, rfl, HNT.out, fun _ => noC_zero _ _ _, Ext.refl _⟩
        case round =>
          obtain ⟨q, fd1, hq, rfl, rfl, hnt, hnc, hw⟩ := hrel
          obtain ⟨wi, rfl⟩ : ∃ wi : World, wi = wr := ⟨_, rfl⟩
          have HNT1 := Lib.hid hnt
          have HNC := Lib.hid hnc
          have HWI := Lib.hid hw
          clear hnt hnc hw
          by_cases hqn : q < en
          · obtain ⟨y, hy⟩ : ∃ y, ct[q]? = some y := ⟨_, List.getElem?_eq_getElem (by have := HCL.out; rw [List.length_map] at this; omega)⟩
            obtain ⟨b, o, rfl, hb, hc⟩ := (HEA.out.ext (HWO.out.trans HWI.out)).at_ hy
            have a0 := hc 0 _ rfl
            have a3 := hc 3 _ rfl
            rw [Nat.add_zero] at a0
            have HA0 := Lib.hid (fun W (h : Ext wi W) => (Ext.cell h (World.block_lt_of_cell? wi _ a0)).trans a0)
            have HA3 := Lib.hid (fun W (h : Ext wi W) => (Ext.cell h (World.block_lt_of_cell? wi _ a3)).trans a3)
            have hqI : (q : Int) < (en : Int) := by omega
            have HY := Lib.hid (show (ct.map catOf)[q]? = some (catOf y) from by rw [List.getElem?_map, hy]; rfl)
            have HEN := Lib.hid (HEA.out.2 y (List.mem_of_getElem? hy))
            have hy2 := HES.out y (List.mem_of_getElem? hy)
            have HYL := Lib.hid (show (catOf y).2.length = y.n 2 from by show (y.es.map entOf).length = _; rw [List.length_map]; exact HEN.out.len)
            clear hy hc a0 a3
            go_wp2_with fail
            go_loopw [12, 15] (FI3 wi (ct.map catOf) xb.data.toList id.data.toList tags k q (catOf y) (y.n 2)) (fun _ i _ => y.n 2 - (intOf i).toNat)
            case atStart => exact ⟨0, fd1, Nat.zero_le _, rfl, rfl, HNT1.out, HNC.out, fun _ _ => noE_zero _ _, Ext.refl _⟩
            case round =>
              obtain ⟨p, fd2, hp, rfl, rfl, hnt, hnc, hne, hw⟩ := hrel
              have HNT2 := Lib.hid hnt
              have HNC2 := Lib.hid hnc
              have HNE := Lib.hid hne
              have HW := Lib.hid hw
              clear hnt hnc hne hw
              have a3 := HA3.out _ HW.out
              by_cases hpn : p < y.n 2
              · have hpI : (p : Int) < (y.n 2 : Int) := by omega
                obtain ⟨z, hz⟩ : ∃ z, y.es[p]? = some z := ⟨_, List.getElem?_eq_getElem (by have := HEN.out.len; omega)⟩
                obtain ⟨b2, o2, hA3, hb2, hc2⟩ := (HEN.out.ext (HWO.out.trans (HWI.out.trans HW.out))).at_ hz
                rw [hA3] at a3
                have g0 := hc2 0 _ rfl
                have g1 := hc2 1 _ rfl
                have g2 := hc2 2 _ rfl
                have g3 := hc2 3 _ rfl
                have g4 := hc2 4 _ rfl
                have g5 := hc2 5 _ rfl
                have g6 := hc2 6 _ rfl
                rw [Nat.add_zero] at g0
                have HZ := Lib.hid (show (catOf y).2[p]? = some (entOf z) from by show (y.es.map entOf)[p]? = _; rw [List.getElem?_map, hz]; rfl)
                have HB := Lib.hid (entB_eq (id := id) (y := z))
                have KZ := (AtC.new wr #[.string z.i, .string z.s, .string z.t, .slice (z.A 0) (z.n 0) (z.c 0), .slice (z.A 1) (z.n 1) (z.c 1), .int .i64 z.st, .slice (z.A 2) (z.n 2) (z.c 2)] : AtC 47 _ _ _)
                have r0 : ∀ v : ExtW (wr.alloc (.cells #[.string z.i, .string z.s, .string z.t, .slice (z.A 0) (z.n 0) (z.c 0), .slice (z.A 1) (z.n 1) (z.c 1), .int .i64 z.st, .slice (z.A 2) (z.n 2) (z.c 2)] 47)), v.v.cell? ⟨wr.heap.size, 0, none⟩ = some (.string z.i) := fun v => (KZ.ext v.h).cell 0 _ rfl
                have r1 : ∀ v : ExtW (wr.alloc (.cells #[.string z.i, .string z.s, .string z.t, .slice (z.A 0) (z.n 0) (z.c 0), .slice (z.A 1) (z.n 1) (z.c 1), .int .i64 z.st, .slice (z.A 2) (z.n 2) (z.c 2)] 47)), v.v.cell? ⟨wr.heap.size, 1, none⟩ = some (.string z.s) := fun v => (KZ.ext v.h).cell 1 _ rfl
                have r2 : ∀ v : ExtW (wr.alloc (.cells #[.string z.i, .string z.s, .string z.t, .slice (z.A 0) (z.n 0) (z.c 0), .slice (z.A 1) (z.n 1) (z.c 1), .int .i64 z.st, .slice (z.A 2) (z.n 2) (z.c 2)] 47)), v.v.cell? ⟨wr.heap.size, 2, none⟩ = some (.string z.t) := fun v => (KZ.ext v.h).cell 2 _ rfl
                have r3 : ∀ v : ExtW (wr.alloc (.cells #[.string z.i, .string z.s, .string z.t, .slice (z.A 0) (z.n 0) (z.c 0), .slice (z.A 1) (z.n 1) (z.c 1), .int .i64 z.st, .slice (z.A 2) (z.n 2) (z.c 2)] 47)), v.v.cell? ⟨wr.heap.size, 3, none⟩ = some (.slice (z.A 0) (z.n 0) (z.c 0)) := fun v => (KZ.ext v.h).cell 3 _ rfl
                have r4 : ∀ v : ExtW (wr.alloc (.cells #[.string z.i, .string z.s, .string z.t, .slice (z.A 0) (z.n 0) (z.c 0), .slice (z.A 1) (z.n 1) (z.c 1), .int .i64 z.st, .slice (z.A 2) (z.n 2) (z.c 2)] 47)), v.v.cell? ⟨wr.heap.size, 4, none⟩ = some (.slice (z.A 1) (z.n 1) (z.c 1)) := fun v => (KZ.ext v.h).cell 4 _ rfl
                have r5 : ∀ v : ExtW (wr.alloc (.cells #[.string z.i, .string z.s, .string z.t, .slice (z.A 0) (z.n 0) (z.c 0), .slice (z.A 1) (z.n 1) (z.c 1), .int .i64 z.st, .slice (z.A 2) (z.n 2) (z.c 2)] 47)), v.v.cell? ⟨wr.heap.size, 5, none⟩ = some (.int .i64 z.st) := fun v => (KZ.ext v.h).cell 5 _ rfl
                have r6 : ∀ v : ExtW (wr.alloc (.cells #[.string z.i, .string z.s, .string z.t, .slice (z.A 0) (z.n 0) (z.c 0), .slice (z.A 1) (z.n 1) (z.c 1), .int .i64 z.st, .slice (z.A 2) (z.n 2) (z.c 2)] 47)), v.v.cell? ⟨wr.heap.size, 6, none⟩ = some (.slice (z.A 2) (z.n 2) (z.c 2)) := fun v => (KZ.ext v.h).cell 6 _ rfl
                have s0 : ∀ v : ExtW (wr.alloc (.cells #[.string z.i, .string z.s, .string z.t, .slice (z.A 0) (z.n 0) (z.c 0), .slice (z.A 1) (z.n 1) (z.c 1), .int .i64 z.st, .slice (z.A 2) (z.n 2) (z.c 2)] 47)), v.v.cell? ⟨b, o + q * 4, none⟩ = some (.string y.t) := fun v => HA0.out _ ((HW.out.alloc _).trans v.h)
                have s1 : ∀ v : ExtW (wr.alloc (.cells #[.string z.i, .string z.s, .string z.t, .slice (z.A 0) (z.n 0) (z.c 0), .slice (z.A 1) (z.n 1) (z.c 1), .int .i64 z.st, .slice (z.A 2) (z.n 2) (z.c 2)] 47)), v.v.cell? (ad.add k) = some (.string xb) := fun v => HCX.out _ (HWI.out.trans ((HW.out.alloc _).trans v.h))
                have s2 : ∀ v : ExtW (wr.alloc (.cells #[.string z.i, .string z.s, .string z.t, .slice (z.A 0) (z.n 0) (z.c 0), .slice (z.A 1) (z.n 1) (z.c 1), .int .i64 z.st, .slice (z.A 2) (z.n 2) (z.c 2)] 47)), v.v.cell? ⟨w.heap.size + 1, 1, none⟩ = some (.string id) := fun v => (KQA.out.ext (HWO.out.trans (HWI.out.trans ((HW.out.alloc _).trans v.h)))).cell 1 _ rfl
                have hU := fun v : ExtW (wr.alloc (.cells #[.string z.i, .string z.s, .string z.t, .slice (z.A 0) (z.n 0) (z.c 0), .slice (z.A 1) (z.n 1) (z.c 1), .int .i64 z.st, .slice (z.A 2) (z.n 2) (z.c 2)] 47)) => uent_any z v.v
                clear hz hc2 KZ
                cases t1 : (y.t.toList == xb.toList)
                · have HNX := Lib.hid (show fd2 = false → ((catOf y).1 == xb.data.toList) = true → NoE id.data.toList (catOf y).2 (p + 1) from fun _ h => by
                    rw [eq_b] at t1
                    rw [show (catOf y).1 = y.t.data.toList from rfl, t1] at h
                    cases h)
                  have HU := Lib.hid hU
                  clear hU
                  go_wp2_with fail
                  refine wp_region_ext (by kernel_rfl) (by kernel_rfl) ?_
                  repeat (go_big_quiet_step ((go_at_call 19; with_reducible exact ExtW.call (HU.out _))))
                  refine wpQuiet_nil ?_
                  intro wx hwx
                  have HXX := Lib.hid ((HW.out.alloc _).trans (ext_of hwx))
                  clear hwx r0 r1 r2 r3 r4 r5 r6 s0 s1 s2
                  go_wp2
                  exact ⟨⟨p + 1, fd2, by omega, by go_num, rfl, HNT2.out, HNC2.out, HNX.out, HXX.out⟩, by simp [intOf]; omega⟩
                cases t2 : (z.i.toList == id.toList)
                · have HNX := Lib.hid (show fd2 = false → ((catOf y).1 == xb.data.toList) = true → NoE id.data.toList (catOf y).2 (p + 1) from fun h h2 => noE_next (HNE.out h h2) HZ.out (by rw [HB.out, t2]; rfl))
                  have HU := Lib.hid hU
                  clear hU
                  go_wp2_with fail
                  refine wp_region_ext (by kernel_rfl) (by kernel_rfl) ?_
                  repeat (go_big_quiet_step ((go_at_call 19; with_reducible exact ExtW.call (HU.out _))))
                  refine wpQuiet_nil ?_
                  intro wx hwx
                  have HXX := Lib.hid ((HW.out.alloc _).trans (ext_of hwx))
                  clear hwx r0 r1 r2 r3 r4 r5 r6 s0 s1 s2
                  go_wp2
                  exact ⟨⟨p + 1, fd2, by omega, by go_num, rfl, HNT2.out, HNC2.out, HNX.out, HXX.out⟩, by simp [intOf]; omega⟩
                cases t3 : ((z.st == 2) || (z.st == 3))
                · have HNX := Lib.hid (show fd2 = false → ((catOf y).1 == xb.data.toList) = true → NoE id.data.toList (catOf y).2 (p + 1) from fun h h2 => noE_next (HNE.out h h2) HZ.out (by rw [HB.out, t2, t3]; rfl))
                  rw [t3] at hU
                  have HU := Lib.hid hU
                  clear hU
                  go_wp2_with fail
                  refine wp_region_ext (by kernel_rfl) (by kernel_rfl) ?_
                  repeat (go_big_quiet_step ((go_at_call 19; with_reducible exact ExtW.call (HU.out _))))
                  refine wpQuiet_nil ?_
                  intro wx hwx
                  have HXX := Lib.hid ((HW.out.alloc _).trans (ext_of hwx))
                  clear hwx r0 r1 r2 r3 r4 r5 r6 s0 s1 s2
                  go_wp2
                  exact ⟨⟨p + 1, fd2, by omega, by go_num, rfl, HNT2.out, HNC2.out, HNX.out, HXX.out⟩, by simp [intOf]; omega⟩
                rw [t3] at hU
                have HU := Lib.hid hU
                clear hU
                cases fd2
                · have HT := Lib.hid (show ((catOf y).1 == xb.data.toList) = true from by rw [eq_b] at t1; exact t1)
                  have HFF := HC2.out q p (by first | exact rfl | trivial) (find_found (HNT2.out rfl) HX.out (HNC2.out rfl) HY.out HT.out (HNE.out rfl HT.out) HZ.out (by rw [HB.out, t2, t3]; rfl))
                  injection HFF with HFF hf3
                  injection HFF with hf1 hf2
                  subst hf1 hf2 hf3
                  go_wp2_with fail
                  refine wp_region_ext (by kernel_rfl) (by kernel_rfl) ?_
                  repeat (go_big_quiet_step ((go_at_call 19; with_reducible exact ExtW.call (HU.out _))))
                  refine wpQuiet_nil ?_
                  intro wx hwx
                  have HXX := Lib.hid ((HW.out.alloc _).trans (ext_of hwx))
                  clear hwx r0 r1 r2 r3 r4 r5 r6 s0 s1 s2
                  go_wp2
                  exact ⟨⟨p + 1, true, by omega, by go_num, rfl, (fun h => by cases h), (fun h => by cases h), (fun h => by cases h), HXX.out⟩, by simp [intOf]; omega⟩
                · have tok : True := trivial
                  go_wp2_with fail
                  refine wp_region_ext (by kernel_rfl) (by kernel_rfl) ?_
                  repeat (go_big_quiet_step ((go_at_call 19; with_reducible exact ExtW.call (HU.out _))))
                  refine wpQuiet_nil ?_
                  intro wx hwx
                  have HXX := Lib.hid ((HW.out.alloc _).trans (ext_of hwx))
                  clear hwx r0 r1 r2 r3 r4 r5 r6 s0 s1 s2
                  go_wp2
                  exact ⟨⟨p + 1, true, by omega, by go_num, rfl, (fun h => by cases h), (fun h => by cases h), (fun h => by cases h), HXX.out⟩, by simp [intOf]; omega⟩
              · have hpp : p = y.n 2 := by omega
                subst hpp
                have HNX := Lib.hid (show fd2 = false → NoC xb.data.toList id.data.toList (ct.map catOf) (q + 1) from fun h => by
                  cases ht : ((catOf y).1 == xb.data.toList)
                  · exact noC_other (HNC2.out h) HY.out ht
                  · exact noC_none (HNC2.out h) HY.out (HNE.out h ht) (by rw [HYL.out]; exact Nat.le_refl _))
                go_wp2
                exact ⟨⟨q + 1, fd2, by omega, by go_num, rfl, HNT2.out, HNX.out, HWI.out.trans HW.out⟩, by simp [intOf]; omega⟩
          · have hqq : q = en := by omega
            subst hqq
            have HNX := Lib.hid (show fd1 = false → NoT (ct.map catOf) id.data.toList tags (k + 1) from fun h => noT_next (HNT1.out h) HX.out (HNC.out h) (by rw [HCL.out]; exact Nat.le_refl _))
            go_wp2
            exact ⟨⟨k + 1, fd1, by omega, by go_num, rfl, HNX.out, HWO.out.trans HWI.out⟩, by simp [intOf]; omega⟩
      · have hkk : k = n1 := by omega
        subst hkk
        cases fd0
        · have HFF := HC1.out (by first | exact rfl | trivial) (noT_end (HNT.out rfl) (by rw [HNR.out]; exact Nat.le_refl _))
          injection HFF with HFF hf3
          injection HFF with hf1 hf2
          subst hf1 hf2 hf3
          go_wp2
          go_ret
          exact ⟨by first | rfl | simp | simp [*], HX0.out.trans (HWA.out.trans HWO.out)⟩
        · go_wp2
          go_ret
          exact ⟨by first | rfl | simp | simp [*], HX0.out.trans (HWA.out.trans HWO.out)⟩

end Go.Proofs.YtehcldnicefmeaaGreatDoor.lawChainFirst
