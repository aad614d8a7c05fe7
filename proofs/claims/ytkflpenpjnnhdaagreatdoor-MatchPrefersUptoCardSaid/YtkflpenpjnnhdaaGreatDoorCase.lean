import Derived.Test.YtkflpenpjnnhdaaGreatDoorForms
import Derived.Laws.IdiomStrings
namespace Go.Proofs.YtkflpenpjnnhdaaGreatDoor
open Go.RowKit
set_option linter.unusedSimpArgs false
set_option linter.unusedVariables false


/-- The new block shows the bytes l. -/
def BsAt (w0 wr : World) (l : List UInt8) : Prop :=
  Ext w0 wr ∧ w0.heap.size < wr.heap.size ∧ ∀ j (h : j < l.length), wr.cell? ⟨w0.heap.size, j, none⟩ = some (.int .u8 (l[j].toNat : Int)) ∧ wr.frozen? ⟨w0.heap.size, j, none⟩ = false
theorem BsAt.set {w0 wr : World} {l : List UInt8} (h : BsAt w0 wr l) (k : Nat) (hk : k < l.length) (c : UInt8) :
    BsAt w0 (wr.setCell ⟨w0.heap.size, k, none⟩ (.int .u8 (c.toNat : Int))) (l.set k c) := by
  obtain ⟨h1, h2, h3⟩ := h
  have hsz := (h1.setCell (p := ⟨w0.heap.size, k, none⟩) (Nat.le_refl _) (.int .u8 (c.toNat : Int)))
  refine ⟨hsz, by simpa using h2, fun j hj => ?_⟩
  rw [List.length_set] at hj
  obtain ⟨ha, hb⟩ := h3 j hj
  refine ⟨?_, by rw [World.frozen?_setCell]; exact hb⟩
  by_cases hjk : j = k
  · subst hjk
    rw [World.cell?_setCell_same _ _ _ ha]
    simp
  · rw [World.cell?_setCell_other _ _ _ _ (by intro e; injection e with _ e; exact hjk e.symm), ha, List.getElem_set_ne (Ne.symm hjk)]
theorem BsAt.drew {w0 wr : World} {l : List UInt8} (h : BsAt w0 wr l) : BsAt w0 wr.drew l := ⟨h.1.drew, h.2.1, h.2.2⟩
theorem BsAt.new (w : World) (s : ByteArray) (cap : Nat) (hc : s.size ≤ cap) :
    BsAt w (w.drew.alloc (.cells (bytesRow s cap) 5 ((bytesRow s cap).size, (bytesRow s cap).size + 1))) s.data.toList := by
  refine ⟨(Ext.refl w).drew.alloc _, by simp, fun j hj => ⟨?_, ?_⟩⟩
  · have h1 := World.cell?_alloc_mark w.drew (bytesRow s cap) 5 ((bytesRow s cap).size, (bytesRow s cap).size + 1) j
    refine h1.trans ?_
    rw [bytesRow_at s cap j (by simpa using hj)]
    simp
  · have h1 := World.frozen?_alloc_mark w.drew (bytesRow s cap) 5 (bytesRow s cap).size ((bytesRow s cap).size + 1) j
    refine h1.trans ?_
    have hz : (bytesRow s cap).size = s.size + (cap - s.size) := by
      unfold bytesRow
      simp
    have : j < s.size := hj
    simp
    omega

/-- The first k bytes mapped. -/
def mapTo (f : UInt8 → UInt8) (l : List UInt8) (k : Nat) : List UInt8 := (l.take k).map f ++ l.drop k
theorem mapTo_len (f : UInt8 → UInt8) (l : List UInt8) (k : Nat) : (mapTo f l k).length = l.length := by
  unfold mapTo; simp; omega
theorem mapTo_at (f : UInt8 → UInt8) (l : List UInt8) (k : Nat) (h : k < l.length) : (mapTo f l k)[k]'(by rw [mapTo_len]; exact h) = l[k] := by
  unfold mapTo
  rw [List.getElem_append_right (by simp; omega)]
  simp [Nat.min_eq_left (Nat.le_of_lt h)]
theorem mapTo_set (f : UInt8 → UInt8) (l : List UInt8) (k : Nat) (h : k < l.length) : (mapTo f l k).set k (f l[k]) = mapTo f l (k + 1) := by
  unfold mapTo
  have e1 : ((l.take k).map f).length = k := by simp; omega
  rw [List.set_append_right _ _ (by omega), e1, Nat.sub_self, List.drop_eq_getElem_cons h, List.set_cons_zero, take_next (List.getElem?_eq_getElem h), List.map_append, List.append_assoc]
  rfl
theorem mapTo_skip (f : UInt8 → UInt8) (l : List UInt8) (k : Nat) (h : k < l.length) (hf : f l[k] = l[k]) : mapTo f l k = mapTo f l (k + 1) := by
  rw [← mapTo_set f l k h, hf]
  conv => rhs; rw [← mapTo_at f l k h]
  exact (List.set_getElem_self _).symm
theorem mapTo_end (f : UInt8 → UInt8) (l : List UInt8) (k : Nat) (h : l.length ≤ k) : mapTo f l k = l.map f := by
  unfold mapTo; rw [List.take_of_length_le h, List.drop_of_length_le h]; simp

theorem lowC_num (c : UInt8) (h : isCap c = true) : ((c.toNat : Int) + 97 - 65) % 256 = ((lowC c).toNat : Int) := by
  unfold lowC
  rw [if_pos h]
  simp [isCap, UInt8.le_iff_toNat_le] at h
  have h1 : (c + 32).toNat = c.toNat + 32 := by simp [UInt8.toNat_add]; omega
  rw [h1]
  omega
theorem upC_num (c : UInt8) (h : isSmall c = true) : ((c.toNat : Int) - 97 + 65) % 256 = ((upC c).toNat : Int) := by
  unfold upC
  rw [if_pos h]
  simp [isSmall, UInt8.le_iff_toNat_le] at h
  have h1 : (c - 32).toNat = c.toNat - 32 := by rw [UInt8.toNat_sub_of_le _ _ (by rw [UInt8.le_iff_toNat_le]; simp; omega)]; rfl
  rw [h1]
  omega
theorem add_at (g j : Nat) : (⟨g, 0, none⟩ : Addr).add j = ⟨g, j, none⟩ := by
  unfold Addr.add
  split
  · subst_vars; rfl
  · simp

def CaseInv (f : UInt8 → UInt8) (s : ByteArray) (w : World) (i : Value) (wr : World) : Prop :=
  ∃ k : Nat, k ≤ s.size ∧ i = .int .i64 k ∧ BsAt w wr (mapTo f s.data.toList k)

set_option maxRecDepth 100000 in
theorem lower_any (s : ByteArray) (w : World) (hs : s.size ≤ 9223372036854775807) :
    Calls Tryz.prog 59 #[.string s] w fun e w' => e = .returned (strv (s.data.toList.map lowC)) ∧ Ext w w' := by
  have hcv := run_bytes_of_string (P := Tryz.prog) w 9 86 5 s Tryz.underlying9 Tryz.underlying86 Tryz.underlying5
  have hge := grownCap_ge w s.size 0 5
  have hnew := BsAt.new w s (grownCap w s.size 0 5) (by omega)
  generalize hcap : grownCap w s.size 0 5 = cap at hcv hnew hge
  generalize hC : bytesRow s cap = C at hcv hnew
  have HN := Lib.hid hnew
  clear hnew hcap hC
  go_enter Tryz.func59, Tryz.ntmps59
  go_wp2
  go_loopw [10] (CaseInv lowC s w) (fun i _ => s.size - (intOf i).toNat)
  case atStart => exact ⟨0, Nat.zero_le _, rfl, HN.out⟩
  case round =>
    obtain ⟨k, hk, rfl, hb⟩ := hrel
    have HB := Lib.hid hb
    clear hb
    by_cases hlt : k < s.size
    · obtain ⟨h1, h2⟩ := HB.out.2.2 k (by rw [mapTo_len, size_list]; exact hlt)
      rw [mapTo_at _ _ _ (by rw [size_list]; exact hlt), get_list s k hlt] at h1
      cases hp : isCap s[k] with
      | true =>
        have HN1 : ((s[k].toNat : Int) + 97 - 65) % 256 = ((lowC s[k]).toNat : Int) := lowC_num _ hp
        have HM := Lib.hid HN1
        clear HN1
        go_wp2_with (go_at_call 84; refine (cap_any s[k] _).mono ?_; rintro e w' ⟨rfl, rfl⟩; rw [hp])
        refine ⟨⟨k + 1, by omega, by go_num, ?_⟩, by simp [intOf]; omega⟩
        rw [← mapTo_set lowC s.data.toList k (by rw [size_list]; exact hlt), get_list s k hlt]
        rw [HM.out]
        exact HB.out.set k (by rw [mapTo_len, size_list]; exact hlt) _
      | false =>
        go_wp2_with (go_at_call 84; refine (cap_any s[k] _).mono ?_; rintro e w' ⟨rfl, rfl⟩; rw [hp])
        refine ⟨⟨k + 1, by omega, by go_num, ?_⟩, by simp [intOf]; omega⟩
        rw [← mapTo_skip lowC s.data.toList k (by rw [size_list]; exact hlt) (by rw [get_list s k hlt]; simp [lowC, hp])]
        exact HB.out
    · have hl : mapTo lowC s.data.toList k = s.data.toList.map lowC := mapTo_end _ _ _ (by rw [size_list]; omega)
      have hback := run_convert_bytes_back (P := Tryz.prog) wr 86 9 5 ⟨w.heap.size, 0, none⟩ cap (s.data.toList.map lowC) Tryz.underlying86 Tryz.underlying5 Tryz.underlying9 (fun j hj => by
        rw [add_at]
        have h := (HB.out.2.2 j (by rw [hl]; exact hj)).1
        simp only [hl] at h
        exact h)
      rw [List.length_map, size_list] at hback
      go_wp2
      go_ret
      exact ⟨rfl, HB.out.1⟩

set_option maxRecDepth 100000 in
theorem upper_any (s : ByteArray) (w : World) (hs : s.size ≤ 9223372036854775807) :
    Calls Tryz.prog 61 #[.string s] w fun e w' => e = .returned (strv (s.data.toList.map upC)) ∧ Ext w w' := by
  have hcv := run_bytes_of_string (P := Tryz.prog) w 9 86 5 s Tryz.underlying9 Tryz.underlying86 Tryz.underlying5
  have hge := grownCap_ge w s.size 0 5
  have hnew := BsAt.new w s (grownCap w s.size 0 5) (by omega)
  generalize hcap : grownCap w s.size 0 5 = cap at hcv hnew hge
  generalize hC : bytesRow s cap = C at hcv hnew
  have HN := Lib.hid hnew
  clear hnew hcap hC
  go_enter Tryz.func61, Tryz.ntmps61
  go_wp2
  go_loopw [10] (CaseInv upC s w) (fun i _ => s.size - (intOf i).toNat)
  case atStart => exact ⟨0, Nat.zero_le _, rfl, HN.out⟩
  case round =>
    obtain ⟨k, hk, rfl, hb⟩ := hrel
    have HB := Lib.hid hb
    clear hb
    by_cases hlt : k < s.size
    · obtain ⟨h1, h2⟩ := HB.out.2.2 k (by rw [mapTo_len, size_list]; exact hlt)
      rw [mapTo_at _ _ _ (by rw [size_list]; exact hlt), get_list s k hlt] at h1
      cases hp : isSmall s[k] with
      | true =>
        have HN1 : ((s[k].toNat : Int) - 97 + 65) % 256 = ((upC s[k]).toNat : Int) := upC_num _ hp
        have HM := Lib.hid HN1
        clear HN1
        go_wp2_with (go_at_call 83; refine (small_any s[k] _).mono ?_; rintro e w' ⟨rfl, rfl⟩; rw [hp])
        refine ⟨⟨k + 1, by omega, by go_num, ?_⟩, by simp [intOf]; omega⟩
        rw [← mapTo_set upC s.data.toList k (by rw [size_list]; exact hlt), get_list s k hlt]
        rw [HM.out]
        exact HB.out.set k (by rw [mapTo_len, size_list]; exact hlt) _
      | false =>
        go_wp2_with (go_at_call 83; refine (small_any s[k] _).mono ?_; rintro e w' ⟨rfl, rfl⟩; rw [hp])
        refine ⟨⟨k + 1, by omega, by go_num, ?_⟩, by simp [intOf]; omega⟩
        rw [← mapTo_skip upC s.data.toList k (by rw [size_list]; exact hlt) (by rw [get_list s k hlt]; simp [upC, hp])]
        exact HB.out
    · have hl : mapTo upC s.data.toList k = s.data.toList.map upC := mapTo_end _ _ _ (by rw [size_list]; omega)
      have hback := run_convert_bytes_back (P := Tryz.prog) wr 86 9 5 ⟨w.heap.size, 0, none⟩ cap (s.data.toList.map upC) Tryz.underlying86 Tryz.underlying5 Tryz.underlying9 (fun j hj => by
        rw [add_at]
        have h := (HB.out.2.2 j (by rw [hl]; exact hj)).1
        simp only [hl] at h
        exact h)
      rw [List.length_map, size_list] at hback
      go_wp2
      go_ret
      exact ⟨rfl, HB.out.1⟩

end Go.Proofs.YtkflpenpjnnhdaaGreatDoor
