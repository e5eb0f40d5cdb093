/- Numbers as a vector (the laws' up); plain laws of what is joined, what is met, of sums. -/
import Derived.Test.YtgcjnhocoklfbaaGreatDoorVecK
import Derived.Test.YtgcjnhocoklfbaaGreatDoorOpen2
namespace Go.XL
open Go.RowKit Go.Shelf
set_option linter.unusedVariables false
set_option linter.unusedSimpArgs false
theorem vget_beyond (xs : List Int) (j : Nat) (h : xs.length ≤ j) : vget xs j = 0 := by rw [vget_nat, List.getElem?_eq_none h]; rfl
theorem vget_both (g : Int → Int → Int) (h0 : g 0 0 = 0) (a b : List Int) (j : Nat) : vget (vboth g a b) j = g (vget a j) (vget b j) := by
  by_cases h : j < max a.length b.length
  · rw [vget_nat (vboth g a b)]
    unfold vboth
    rw [List.getElem?_map, List.getElem?_range h]
    rfl
  · rw [vget_beyond a j (by omega), vget_beyond b j (by omega), vget_beyond _ j (by unfold vboth; simp; omega), h0]
theorem vboth_len (g : Int → Int → Int) (a b : List Int) : (vboth g a b).length = max a.length b.length := by simp [vboth]
theorem vcov_all (a b : List Int) : vcov a b = true ↔ ∀ j : Nat, vget b j ≤ vget a j := by
  unfold vcov
  rw [List.all_eq_true]
  constructor
  · intro h j
    by_cases hj : j < max a.length b.length
    · simpa using h j (List.mem_range.2 hj)
    · rw [vget_beyond a j (by omega), vget_beyond b j (by omega)]; exact Int.le_refl _
  · intro h j _; simpa using h j
/-- a sum over the first n places -/
def rsum (f : Nat → Int) : Nat → Int
  | 0 => 0
  | n + 1 => rsum f n + f n
theorem rsum_congr {f g : Nat → Int} {n : Nat} (h : ∀ i, i < n → f i = g i) : rsum f n = rsum g n := by
  induction n with
  | zero => rfl
  | succ n ih => rw [rsum, rsum, ih (fun i hi => h i (by omega)), h n (by omega)]
theorem rsum_add (f g : Nat → Int) (n : Nat) : rsum (fun i => f i + g i) n = rsum f n + rsum g n := by
  induction n with
  | zero => rfl
  | succ n ih => rw [rsum, rsum, rsum, ih]; omega
theorem rsum_bounds {f : Nat → Int} {n : Nat} {b : Int} (h : ∀ i, i < n → 0 ≤ f i ∧ f i ≤ b) : 0 ≤ rsum f n ∧ rsum f n ≤ n * b := by
  induction n with
  | zero => simp [rsum]
  | succ n ih =>
    have h1 := ih (fun i hi => h i (by omega))
    have h2 := h n (by omega)
    rw [rsum]
    push_cast
    rw [Int.add_mul]
    omega
theorem vsum_app (xs : List Int) (x : Int) : vsum (xs ++ [x]) = vsum xs + x := by
  induction xs with
  | nil => simp [vsum]
  | cons y xs ih => rw [List.cons_append, vsum_cons, vsum_cons, ih]; omega
theorem vsum_take (xs : List Int) (k : Nat) : vsum (xs.take k) = rsum (fun i => vget xs i) k := by
  induction k with
  | zero => rfl
  | succ k ih =>
    rw [List.take_add_one, rsum, ← ih]
    cases h : xs[k]? with
    | none => rw [vget_nat, h]; simp
    | some x => rw [vget_nat, h]; simp only [Option.toList_some, Option.getD_some]; exact vsum_app _ _
theorem vsum_rsum (xs : List Int) (n : Nat) (h : xs.length ≤ n) : vsum xs = rsum (fun i => vget xs i) n := by
  rw [← vsum_take, List.take_of_length_le h]
/-- numbers of 16 bits -/
def U16s (xs : List Int) : Prop := ∀ x ∈ xs, 0 ≤ x ∧ x ≤ 65535
theorem u16_vget {xs : List Int} (h : U16s xs) (j : Nat) : 0 ≤ vget xs j ∧ vget xs j ≤ 65535 := by
  rw [vget_nat]
  cases e : xs[j]? with
  | none => simp
  | some x => exact h x (List.mem_of_getElem? e)
theorem u16_of_vget {xs : List Int} (h : ∀ j : Nat, 0 ≤ vget xs j ∧ vget xs j ≤ 65535) : U16s xs := by
  intro x hx
  obtain ⟨j, hj⟩ := List.mem_iff_getElem?.1 hx
  have := h j
  rw [vget_nat, hj] at this
  exact this
theorem u16_both {a b : List Int} (ha : U16s a) (hb : U16s b) : U16s (vboth max a b) ∧ U16s (vboth min a b) :=
  ⟨u16_of_vget fun j => by rw [vget_both max rfl]; have := u16_vget ha j; have := u16_vget hb j; omega, u16_of_vget fun j => by rw [vget_both min rfl]; have := u16_vget ha j; have := u16_vget hb j; omega⟩
theorem u16_sum {xs : List Int} (h : U16s xs) (hl : xs.length ≤ 8) : 0 ≤ vsum xs ∧ vsum xs ≤ 600000 := by
  rw [vsum_rsum xs 8 hl]
  have := rsum_bounds (f := fun i => vget xs i) (n := 8) (b := 65535) (fun i _ => u16_vget h i)
  push_cast at this
  omega
end Go.XL
namespace Go.Proofs.YtgcjnhocoklfbaaGreatDoor
open Go.RowKit Go.Shelf Go.XL
set_option linter.unusedVariables false
set_option linter.unusedSimpArgs false
attribute [local go_sem] Oper.semAt_some
end Go.Proofs.YtgcjnhocoklfbaaGreatDoor
