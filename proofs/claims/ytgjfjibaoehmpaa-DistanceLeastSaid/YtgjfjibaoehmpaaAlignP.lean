import Derived.Test.YtgjfjibaoehmpaaTabBase
import Derived.OwnWalk
namespace Go.Proofs.Ytgjfjibaoehmpaa
open Go.RowKit

/-- The way back through the table, from the end. -/
def alignN (F : Nat → Nat → Nat) (E : Nat → Nat → Bool) : Nat → Nat → Nat → List (Int × Int)
  | 0, _, _ => []
  | fuel + 1, i, k =>
    if i = 0 ∧ k = 0 then []
    else if 0 < i ∧ 0 < k ∧ ((E (i - 1) (k - 1) = true ∧ F i k = F (i - 1) (k - 1)) ∨ (E (i - 1) (k - 1) = false ∧ F i k = F (i - 1) (k - 1) + 1)) then
      ((i : Int) - 1, (k : Int) - 1) :: alignN F E fuel (i - 1) (k - 1)
    else if 0 < i ∧ F i k = F (i - 1) k + 1 then ((i : Int) - 1, -1) :: alignN F E fuel (i - 1) k
    else (-1, (k : Int) - 1) :: alignN F E fuel i (k - 1)

section
variable {F : Nat → Nat → Nat} {E : Nat → Nat → Bool}
theorem al_end (fuel : Nat) : alignN F E fuel 0 0 = [] := by cases fuel <;> simp [alignN]
theorem al_diag {fuel i k : Nat} (hi : 0 < i) (hk : 0 < k) (h : (E (i - 1) (k - 1) = true ∧ F i k = F (i - 1) (k - 1)) ∨ (E (i - 1) (k - 1) = false ∧ F i k = F (i - 1) (k - 1) + 1)) :
    alignN F E (fuel + 1) i k = ((i : Int) - 1, (k : Int) - 1) :: alignN F E fuel (i - 1) (k - 1) := by
  rw [alignN, if_neg (by omega), if_pos ⟨hi, hk, h⟩]
theorem al_up {fuel i k : Nat} (hi : 0 < i) (h : k = 0 ∨ (E (i - 1) (k - 1) = false ∧ F i k ≠ F (i - 1) (k - 1) + 1)) (h2 : F i k = F (i - 1) k + 1) :
    alignN F E (fuel + 1) i k = ((i : Int) - 1, -1) :: alignN F E fuel (i - 1) k := by
  rw [alignN, if_neg (by omega), if_neg, if_pos ⟨hi, h2⟩]
  rintro ⟨_, hk, h3⟩
  rcases h with h | ⟨h4, h5⟩
  · omega
  · rcases h3 with ⟨h6, _⟩ | ⟨_, h7⟩
    · rw [h4] at h6; cases h6
    · exact h5 h7
theorem al_left {fuel i k : Nat} (hk : 0 < k) (h : i = 0 ∨ (E (i - 1) (k - 1) = false ∧ F i k ≠ F (i - 1) (k - 1) + 1 ∧ F i k ≠ F (i - 1) k + 1)) :
    alignN F E (fuel + 1) i k = (-1, (k : Int) - 1) :: alignN F E fuel i (k - 1) := by
  rw [alignN, if_neg (by omega), if_neg, if_neg]
  · rintro ⟨hi, h2⟩
    rcases h with h | ⟨_, _, h3⟩
    · omega
    · exact h3 h2
  · rintro ⟨hi, _, h3⟩
    rcases h with h | ⟨h4, h5, _⟩
    · omega
    · rcases h3 with ⟨h6, _⟩ | ⟨_, h7⟩
      · rw [h4] at h6; cases h6
      · exact h5 h7
end

/-- The table in block g can be read. -/
def TabAt (w : World) (g n m : Nat) (F : Nat → Nat → Nat) : Prop :=
  g < w.heap.size ∧ ∀ i, i ≤ n → ∃ b, b < w.heap.size ∧ w.cell? ⟨g, i, none⟩ = some (.slice (some ⟨b, 0, none⟩) (m + 1) (m + 1)) ∧ ∀ k, k ≤ m → w.cell? ⟨b, k, none⟩ = some (.int .i64 (F i k))

theorem TabAt.ext {w w' : World} {g n m : Nat} {F : Nat → Nat → Nat} (h : TabAt w g n m F) (hw : Ext w w') : TabAt w' g n m F :=
  ⟨Nat.lt_of_lt_of_le h.1 (Ext.size hw), fun i hi =>
    let ⟨b, h1, h2, h3⟩ := h.2 i hi
    ⟨b, Nat.lt_of_lt_of_le h1 (Ext.size hw), (Ext.cell hw h.1).trans h2, fun k hk => (Ext.cell (p := ⟨b, k, none⟩) hw h1).trans (h3 k hk)⟩⟩

theorem TabAt.of {w w' : World} {n m : Nat} {f : Nat → Value} {F : Nat → Nat → Nat} (h1 : w'.rowIs w.heap.size 46 (n + 1) f) (h2 : TabR w' w.heap.size w'.heap.size w.heap.size (m + 1) (n + 1) f F) :
    TabAt w' w.heap.size n m F :=
  ⟨h1.lt, fun i hi => by
    obtain ⟨b, e1, _, _, e4, e5⟩ := h2 i (by omega)
    exact ⟨b, e4, by rw [h1.cell (i := i) (by omega), e1]; rfl, fun k hk => e5.cell (i := k) (by omega)⟩⟩

/-- The cells of steps. -/
def stepCells (l : List (Int × Int)) : List Value := l.flatMap fun x => [.int .i64 x.1, .int .i64 x.2]
theorem stepCells_len (l : List (Int × Int)) : (stepCells l).length = l.length * 2 := by
  unfold stepCells
  induction l with
  | nil => rfl
  | cons a r ih => simp only [List.flatMap_cons, List.length_append, ih, List.length_cons, List.length_nil]; omega
theorem stepCells_snoc (l : List (Int × Int)) (x : Int × Int) : stepCells l ++ [.int .i64 x.1, .int .i64 x.2] = stepCells (l ++ [x]) := by simp [stepCells]
theorem stepCells_cons (l : List (Int × Int)) (x : Int × Int) : [.int .i64 x.1, .int .i64 x.2] ++ stepCells l = stepCells (x :: l) := by simp [stepCells]

theorem new_two (w : World) (u v : Value) (t : TypeId) : ∀ j x, [u, v][j]? = some x → (w.alloc (.cells #[u, v] t)).cell? ((⟨w.heap.size, 0, none⟩ : Addr).add j) = some x := by
  intro j x hx
  have h0 := cell_of_row (w.alloc (.cells #[u, v] t)) w.heap.size
  match j, hx with
  | 0, hx =>
    show (w.alloc (.cells #[u, v] t)).cell? ⟨w.heap.size, 0, none⟩ = _
    rw [h0 0 #[u, v] t (0, 0) (heap_alloc_new w _)]; simpa using hx
  | 1, hx =>
    show (w.alloc (.cells #[u, v] t)).cell? ⟨w.heap.size, 1, none⟩ = _
    rw [h0 1 #[u, v] t (0, 0) (heap_alloc_new w _)]; simpa using hx

/-- The slice at A shows the steps. -/
def StepsAt (w : World) (A : Option Addr) (l : List (Int × Int)) : Prop :=
  ∀ j (h : j < l.length), ∃ b o, A = some ⟨b, o, none⟩ ∧ b < w.heap.size ∧ w.cell? ⟨b, o + j * 2, none⟩ = some (.int .i64 l[j].1) ∧ w.cell? ⟨b, o + (j * 2 + 1), none⟩ = some (.int .i64 l[j].2)
theorem StepsAt.ext {w w' : World} {A : Option Addr} {l : List (Int × Int)} (h : StepsAt w A l) (hw : Ext w w') : StepsAt w' A l := fun j hj =>
  let ⟨b, o, h1, h2, h3, h4⟩ := h j hj
  ⟨b, o, h1, Nat.lt_of_lt_of_le h2 (Ext.size hw), (Ext.cell (p := ⟨b, o + j * 2, none⟩) hw h2).trans h3, (Ext.cell (p := ⟨b, o + (j * 2 + 1), none⟩) hw h2).trans h4⟩

def RetSteps (w : World) (l : List (Int × Int)) : Ending → World → Prop := fun e w' =>
  ∃ A c, e = .returned (.slice A l.length c) ∧ StepsAt w' A l ∧ Ext w w'

/-- What steps cost from a place on, if they are an alignment. -/
def costF (E : Nat → Nat → Bool) (n m : Nat) : List (Int × Int) → Nat → Nat → Nat → Option Nat
  | [], i, k, c => if i = n ∧ k = m then some c else none
  | (a, b) :: r, i, k, c =>
    if a = i ∧ b = k ∧ i < n ∧ k < m then costF E n m r (i + 1) (k + 1) (if E i k then c else c + 1)
    else if a = i ∧ b = -1 ∧ i < n then costF E n m r (i + 1) k (c + 1)
    else if a = -1 ∧ b = k ∧ k < m then costF E n m r i (k + 1) (c + 1)
    else none

def RetCost (w : World) (o : Option Nat) : Ending → World → Prop := fun e w' =>
  (match o with
    | some c => e = .returned (.tuple #[.int .i64 c, .bool true])
    | none => e = .returned (.tuple #[.int .i64 0, .bool false])) ∧ Ext w w'

def CostInv (w : World) (E : Nat → Nat → Bool) (n m : Nat) (l : List (Int × Int)) (iv kv cv jv : Value) (wr : World) : Prop :=
  ∃ i k c j : Nat, i ≤ n ∧ k ≤ m ∧ j ≤ l.length ∧ c ≤ j ∧ iv = .int .i64 i ∧ kv = .int .i64 k ∧ cv = .int .i64 c ∧ jv = .int .i64 j ∧
    costF E n m (l.drop j) i k c = costF E n m l 0 0 0 ∧ Ext w wr

theorem costF_at {E : Nat → Nat → Bool} {n m j i k c : Nat} {l : List (Int × Int)} (hj : j < l.length) : costF E n m (l.drop j) i k c =
    if l[j].1 = i ∧ l[j].2 = k ∧ i < n ∧ k < m then costF E n m (l.drop (j + 1)) (i + 1) (k + 1) (if E i k then c else c + 1)
    else if l[j].1 = i ∧ l[j].2 = -1 ∧ i < n then costF E n m (l.drop (j + 1)) (i + 1) k (c + 1)
    else if l[j].1 = -1 ∧ l[j].2 = k ∧ k < m then costF E n m (l.drop (j + 1)) i (k + 1) (c + 1)
    else none := by
  rw [List.drop_eq_getElem_cons hj]; rfl
theorem costF_end {E : Nat → Nat → Bool} {n m j i k c : Nat} {l : List (Int × Int)} (hj : l.length ≤ j) : costF E n m (l.drop j) i k c = if i = n ∧ k = m then some c else none := by
  rw [List.drop_of_length_le hj]; rfl

end Go.Proofs.Ytgjfjibaoehmpaa
