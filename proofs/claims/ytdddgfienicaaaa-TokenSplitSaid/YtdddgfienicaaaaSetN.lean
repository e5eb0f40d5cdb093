/- Cells of a block written one behind the other. -/
import Derived.Test.YtdddgfienicaaaaSl
namespace Go.XL
open Go.RowKit Go.Shelf
set_option linter.unusedVariables false
/-- 5 cells of a block written, one behind the other -/
theorem set5 {w : World} {g : Nat} {a0 a1 a2 a3 a4 : Value} {E : TypeId} (h : w.heap[g]? = some (.cells #[a0, a1, a2, a3, a4] E (0, 0))) (b0 b1 b2 b3 b4 : Value) :
    ∃ w1 w2 w3 w4 w5, w.setCell ⟨g, 0, none⟩ b0 = w1 ∧ w1.setCell ⟨g, 1, none⟩ b1 = w2 ∧ w2.setCell ⟨g, 2, none⟩ b2 = w3 ∧ w3.setCell ⟨g, 3, none⟩ b3 = w4 ∧ w4.setCell ⟨g, 4, none⟩ b4 = w5 ∧
      w.cell? ⟨g, 0, none⟩ = some a0 ∧ w1.cell? ⟨g, 1, none⟩ = some a1 ∧ w2.cell? ⟨g, 2, none⟩ = some a2 ∧ w3.cell? ⟨g, 3, none⟩ = some a3 ∧ w4.cell? ⟨g, 4, none⟩ = some a4 ∧
      w.frozen? ⟨g, 0, none⟩ = false ∧ w1.frozen? ⟨g, 1, none⟩ = false ∧ w2.frozen? ⟨g, 2, none⟩ = false ∧ w3.frozen? ⟨g, 3, none⟩ = false ∧ w4.frozen? ⟨g, 4, none⟩ = false ∧
      w5.heap[g]? = some (.cells #[b0, b1, b2, b3, b4] E (0, 0)) ∧ Fr (fun i => i = g) w w5 := by
  obtain ⟨w1, hw1⟩ : ∃ x, w.setCell ⟨g, 0, none⟩ b0 = x := ⟨_, rfl⟩
  have h1 : w1.heap[g]? = some (.cells #[b0, a1, a2, a3, a4] E (0, 0)) := by rw [← hw1]; simpa using heap_setC (j := 0) b0 h
  obtain ⟨w2, hw2⟩ : ∃ x, w1.setCell ⟨g, 1, none⟩ b1 = x := ⟨_, rfl⟩
  have h2 : w2.heap[g]? = some (.cells #[b0, b1, a2, a3, a4] E (0, 0)) := by rw [← hw2]; simpa using heap_setC (j := 1) b1 h1
  obtain ⟨w3, hw3⟩ : ∃ x, w2.setCell ⟨g, 2, none⟩ b2 = x := ⟨_, rfl⟩
  have h3 : w3.heap[g]? = some (.cells #[b0, b1, b2, a3, a4] E (0, 0)) := by rw [← hw3]; simpa using heap_setC (j := 2) b2 h2
  obtain ⟨w4, hw4⟩ : ∃ x, w3.setCell ⟨g, 3, none⟩ b3 = x := ⟨_, rfl⟩
  have h4 : w4.heap[g]? = some (.cells #[b0, b1, b2, b3, a4] E (0, 0)) := by rw [← hw4]; simpa using heap_setC (j := 3) b3 h3
  obtain ⟨w5, hw5⟩ : ∃ x, w4.setCell ⟨g, 4, none⟩ b4 = x := ⟨_, rfl⟩
  have h5 : w5.heap[g]? = some (.cells #[b0, b1, b2, b3, b4] E (0, 0)) := by rw [← hw5]; simpa using heap_setC (j := 4) b4 h4
  have F : ∀ (X Y : World) (j : Nat) (v : Value), X.setCell ⟨g, j, none⟩ v = Y → Fr (fun i => i = g) X Y := fun X Y j v h => by rw [← h]; exact (Fr.refl (fun i => i = g) X).setCell (p := ⟨g, j, none⟩) (fun _ => rfl) _
  exact ⟨w1, w2, w3, w4, w5, hw1, hw2, hw3, hw4, hw5, cell_of_block h rfl, cell_of_block h1 rfl, cell_of_block h2 rfl, cell_of_block h3 rfl, cell_of_block h4 rfl, frozen_of_block h, frozen_of_block h1, frozen_of_block h2, frozen_of_block h3, frozen_of_block h4, h5, ((((F _ _ _ _ hw1).trans' (F _ _ _ _ hw2)).trans' (F _ _ _ _ hw3)).trans' (F _ _ _ _ hw4)).trans' (F _ _ _ _ hw5)⟩
/-- 6 cells of a block written, one behind the other -/
theorem set6 {w : World} {g : Nat} {a0 a1 a2 a3 a4 a5 : Value} {E : TypeId} (h : w.heap[g]? = some (.cells #[a0, a1, a2, a3, a4, a5] E (0, 0))) (b0 b1 b2 b3 b4 b5 : Value) :
    ∃ w1 w2 w3 w4 w5 w6, w.setCell ⟨g, 0, none⟩ b0 = w1 ∧ w1.setCell ⟨g, 1, none⟩ b1 = w2 ∧ w2.setCell ⟨g, 2, none⟩ b2 = w3 ∧ w3.setCell ⟨g, 3, none⟩ b3 = w4 ∧ w4.setCell ⟨g, 4, none⟩ b4 = w5 ∧ w5.setCell ⟨g, 5, none⟩ b5 = w6 ∧
      w.cell? ⟨g, 0, none⟩ = some a0 ∧ w1.cell? ⟨g, 1, none⟩ = some a1 ∧ w2.cell? ⟨g, 2, none⟩ = some a2 ∧ w3.cell? ⟨g, 3, none⟩ = some a3 ∧ w4.cell? ⟨g, 4, none⟩ = some a4 ∧ w5.cell? ⟨g, 5, none⟩ = some a5 ∧
      w.frozen? ⟨g, 0, none⟩ = false ∧ w1.frozen? ⟨g, 1, none⟩ = false ∧ w2.frozen? ⟨g, 2, none⟩ = false ∧ w3.frozen? ⟨g, 3, none⟩ = false ∧ w4.frozen? ⟨g, 4, none⟩ = false ∧ w5.frozen? ⟨g, 5, none⟩ = false ∧
      w6.heap[g]? = some (.cells #[b0, b1, b2, b3, b4, b5] E (0, 0)) ∧ Fr (fun i => i = g) w w6 := by
  obtain ⟨w1, hw1⟩ : ∃ x, w.setCell ⟨g, 0, none⟩ b0 = x := ⟨_, rfl⟩
  have h1 : w1.heap[g]? = some (.cells #[b0, a1, a2, a3, a4, a5] E (0, 0)) := by rw [← hw1]; simpa using heap_setC (j := 0) b0 h
  obtain ⟨w2, hw2⟩ : ∃ x, w1.setCell ⟨g, 1, none⟩ b1 = x := ⟨_, rfl⟩
  have h2 : w2.heap[g]? = some (.cells #[b0, b1, a2, a3, a4, a5] E (0, 0)) := by rw [← hw2]; simpa using heap_setC (j := 1) b1 h1
  obtain ⟨w3, hw3⟩ : ∃ x, w2.setCell ⟨g, 2, none⟩ b2 = x := ⟨_, rfl⟩
  have h3 : w3.heap[g]? = some (.cells #[b0, b1, b2, a3, a4, a5] E (0, 0)) := by rw [← hw3]; simpa using heap_setC (j := 2) b2 h2
  obtain ⟨w4, hw4⟩ : ∃ x, w3.setCell ⟨g, 3, none⟩ b3 = x := ⟨_, rfl⟩
  have h4 : w4.heap[g]? = some (.cells #[b0, b1, b2, b3, a4, a5] E (0, 0)) := by rw [← hw4]; simpa using heap_setC (j := 3) b3 h3
  obtain ⟨w5, hw5⟩ : ∃ x, w4.setCell ⟨g, 4, none⟩ b4 = x := ⟨_, rfl⟩
  have h5 : w5.heap[g]? = some (.cells #[b0, b1, b2, b3, b4, a5] E (0, 0)) := by rw [← hw5]; simpa using heap_setC (j := 4) b4 h4
  obtain ⟨w6, hw6⟩ : ∃ x, w5.setCell ⟨g, 5, none⟩ b5 = x := ⟨_, rfl⟩
  have h6 : w6.heap[g]? = some (.cells #[b0, b1, b2, b3, b4, b5] E (0, 0)) := by rw [← hw6]; simpa using heap_setC (j := 5) b5 h5
  have F : ∀ (X Y : World) (j : Nat) (v : Value), X.setCell ⟨g, j, none⟩ v = Y → Fr (fun i => i = g) X Y := fun X Y j v h => by rw [← h]; exact (Fr.refl (fun i => i = g) X).setCell (p := ⟨g, j, none⟩) (fun _ => rfl) _
  exact ⟨w1, w2, w3, w4, w5, w6, hw1, hw2, hw3, hw4, hw5, hw6, cell_of_block h rfl, cell_of_block h1 rfl, cell_of_block h2 rfl, cell_of_block h3 rfl, cell_of_block h4 rfl, cell_of_block h5 rfl, frozen_of_block h, frozen_of_block h1, frozen_of_block h2, frozen_of_block h3, frozen_of_block h4, frozen_of_block h5, h6, (((((F _ _ _ _ hw1).trans' (F _ _ _ _ hw2)).trans' (F _ _ _ _ hw3)).trans' (F _ _ _ _ hw4)).trans' (F _ _ _ _ hw5)).trans' (F _ _ _ _ hw6)⟩
end Go.XL
