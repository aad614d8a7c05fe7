import Derived.Test.YtklobkpepbokkaaDoorAr
namespace Go.Proofs.YtklobkpepbokkaaDoor
open Go.RowKit
set_option linter.unusedSimpArgs false
set_option linter.unusedVariables false

/-! The parser: messages of whatever length. -/
set_option maxHeartbeats 4000000 in
theorem pmsg_zero : MsgH 0 := by
  intro C X d c w h hX hd
  rcases X with ⟨ee, a⟩ | st
  rotate_left
  · exact absurd (hX st rfl).1 (Nat.not_lt_zero _)
  have HO := Lib.hid h
  obtain ⟨h0, n, ns, hp⟩ := h
  have c5 := hp.cells.2.2.2.2.2
  have b1 : (ee == 0) = false := by rw [beq_eq_false_iff_ne]; exact h0
  clear hp hX
  go_enter Tryd.func32, Tryd.ntmps32
  go_wp2_with fail
  go_loopw [7] (fun (o : Value) (wr : World) => o = .slice none 0 0 ∧ wr = w) (fun _ _ => 0)
  case atStart => exact ⟨rfl, rfl⟩
  case round =>
    obtain ⟨rfl, rfl⟩ := hrel
    go_wp2
    go_ret
    exact ⟨⟨none, 0, 0, rfl, fun f st h => by cases h⟩, HO.out, Exc.refl _ _⟩
theorem msg_all : ∀ N, MsgH N
  | 0 => pmsg_zero
  | N + 1 => pmsg_step N (msg_all N) (parg N (pcas N (msg_all N)))
/-- A message is read. -/
theorem pmsg_any (C : Pc) (X : Except Err St) (d : Nat) (c : Bool) (w : World) (h : PsO w C X) (hd : d ≤ 8) :
    Calls Tryd.prog 32 #[.pointer (some ⟨C.g, 0, none⟩), .int .i64 d, .bool c] w (RetM w C (X.bind (msgC C.s.size d c))) := by
  rcases X with e | st
  · exact msg_all 0 C (.error e) d c w h (fun st h => by cases h) (by omega)
  · exact msg_all (st.left.length + 1) C (.ok st) d c w h (fun st' h' => by injection h' with h'; subst h'; exact ⟨Nat.lt_succ_self _, hd⟩) (by omega)
end Go.Proofs.YtklobkpepbokkaaDoor
