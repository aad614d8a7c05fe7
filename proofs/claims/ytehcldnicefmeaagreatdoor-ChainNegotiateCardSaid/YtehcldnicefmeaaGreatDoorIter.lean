import Derived.Test.YtehcldnicefmeaaGreatDoorIterS
namespace Go.Proofs
open Go.RowKit Go.Maps Go.Sort Go.Shelf


theorem Tryz.sorts221 (m : Nat) : AnyZ.SortsIn Tryz.prog Tryz.sorted221_ren Fence.wide m :=
  ⟨fun blk off cap ss W hH hblk hsz => callsIn_wide.2 (AnyM.slices_Sort_string Tryz.sort187 blk off cap ss W hH hblk hsz),
   fun p cap W => callsIn_wide.2 (AnyM.slices_Sort_string_none Tryz.sort187 p cap W)⟩

theorem Tryz.maps_Keys_222 (mb : Option Nat) (W : World) : CallsIn Fence.wide 5 Tryz.prog 222 #[.map mb] W fun e w' => e = .returned (.func (.func 254) #[] #[.pointer (some ⟨W.heap.size, 0, none⟩)]) ∧ w' = W.alloc (.cells #[.map mb] 137) :=
  AnyZ.keys_in Tryz.keys222 Fence.wide 5 trivial rfl mb W

set_option maxHeartbeats 1000000 in
theorem Tryz.slices_Sorted_keys_221_222 {H : Type} (b nn : Nat) (D0 : DataW H) (R : Value → Option (DataW H × List MemPlace)) (w : World) (hown : w.ownsMap Tryz.prog 9 R b nn D0) (hmax : Maps.size D0 ≤ maxLen) (hbytes : Maps.size D0 * 16 ≤ 140737488355328) :
    CallsIn Fence.wide 5 Tryz.prog 221 #[.func (.func 254) #[] #[.pointer (some ⟨w.heap.size, 0, none⟩)]] (w.alloc (.cells #[.map (some b)] 137)) fun e w' => ∃ (v : Value) (ss : List (List UInt8)), e = .returned v ∧ ss.Perm (strKeys D0) ∧
      w'.ownsRow (w.alloc (.cells #[.map (some b)] 137)).heap.size 9 1 v ss.length ((ss.mergeSort (fun x y => decide (x ≤ y))).map encStr) ∧ (v = .slice none 0 0 ↔ ss = []) ∧ Below (w.alloc (.cells #[.map (some b)] 137)).heap.size (w.alloc (.cells #[.map (some b)] 137)) w' := by
  have hbl := hown.lt
  have hseq : SeqGives Fence.wide 2 Tryz.prog 254 #[.pointer (some ⟨w.heap.size, 0, none⟩)] encStr (fun ss => ss.Perm (strKeys D0)) (Maps.size D0) (w.alloc (.cells #[.map (some b)] 137)) :=
    AnyZ.keys_gives (ρ := Tryz.keys222_ren) { Tryz.keys222 with } Fence.wide _ trivial rfl (by omega) w.heap.size b nn D0 _ (by simp) (by simp) (by
      obtain ⟨es, clock, hb, Ft, hs, hD⟩ := hown
      exact ⟨es, clock, (Below.heap_alloc _ _ b hbl).trans hb, Ft, hs, hD⟩)
  exact AnyZ.sorted_in Tryz.sorted221 Fence.wide 5 trivial trivial trivial trivial rfl (by omega) (Tryz.sorts221 _) (enters_of Tryz.func187 (by kernel_rfl) rfl) 254 #[.pointer (some ⟨w.heap.size, 0, none⟩)] trivial (enters_of Tryz.func254 (by kernel_rfl) rfl) _ _ hmax hbytes _ hseq

set_option maxHeartbeats 1000000 in
theorem Tryz.slices_Sorted_keys_nil_221_222 (w : World) :
    CallsIn Fence.wide 5 Tryz.prog 221 #[.func (.func 254) #[] #[.pointer (some ⟨w.heap.size, 0, none⟩)]] (w.alloc (.cells #[.map none] 137)) fun e w' => ∃ (v : Value) (ss : List (List UInt8)), e = .returned v ∧ ss = [] ∧
      w'.ownsRow (w.alloc (.cells #[.map none] 137)).heap.size 9 1 v ss.length ((ss.mergeSort (fun x y => decide (x ≤ y))).map encStr) ∧ (v = .slice none 0 0 ↔ ss = []) ∧ Below (w.alloc (.cells #[.map none] 137)).heap.size (w.alloc (.cells #[.map none] 137)) w' := by
  have hseq : SeqGives Fence.wide 2 Tryz.prog 254 #[.pointer (some ⟨w.heap.size, 0, none⟩)] encStr (fun ss : List (List UInt8) => ss = []) 0 (w.alloc (.cells #[.map none] 137)) :=
    AnyZ.keys_gives_nil (ρ := Tryz.keys222_ren) { Tryz.keys222 with } Fence.wide _ trivial rfl w.heap.size _ (by simp) (by simp)
  exact AnyZ.sorted_in Tryz.sorted221 Fence.wide 5 trivial trivial trivial trivial rfl (by omega) (Tryz.sorts221 _) (enters_of Tryz.func187 (by kernel_rfl) rfl) 254 #[.pointer (some ⟨w.heap.size, 0, none⟩)] trivial (enters_of Tryz.func254 (by kernel_rfl) rfl) _ 0 (Nat.zero_le _) (by omega) _ hseq



end Go.Proofs

