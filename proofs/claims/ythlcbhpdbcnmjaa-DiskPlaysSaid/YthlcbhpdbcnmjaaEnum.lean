/- Elements with their places. -/
import Derived.Test.YthlcbhpdbcnmjaaLib
namespace Go.XL
/-- each with its place -/
def enumG {α : Type} (l : List α) (k : Nat) : List (Nat × α) := match l with
  | [] => []
  | x :: r => (k, x) :: enumG r (k + 1)
theorem enumG_some {α : Type} {xs : List α} {k j : Nat} {x : α} (h : xs[k]? = some x) : enumG (xs.drop k) j = (j, x) :: enumG (xs.drop (k + 1)) (j + 1) := by
  obtain ⟨hk, hx⟩ := List.getElem?_eq_some_iff.1 h
  rw [List.drop_eq_getElem_cons hk, hx]; simp [enumG]
theorem enumG_cons {α : Type} {vs : List α} {k j : Nat} {x : Nat × α} {s : List (Nat × α)} (h : enumG (vs.drop k) j = x :: s) : ∃ u, vs[k]? = some u ∧ x = (j, u) ∧ s = enumG (vs.drop (k + 1)) (j + 1) := by
  by_cases hk : k < vs.length
  · have hu : vs[k]? = some vs[k] := by simp [hk]
    rw [enumG_some hu] at h
    cases h
    exact ⟨_, hu, rfl, rfl⟩
  · rw [List.drop_eq_nil_of_le (by omega)] at h
    simp [enumG] at h
theorem enumG_nil {α : Type} {vs : List α} {k j : Nat} (h : enumG (vs.drop k) j = []) : vs.length ≤ k := by
  by_cases hk : k < vs.length
  · have hu : vs[k]? = some vs[k] := by simp [hk]
    rw [enumG_some hu] at h
    cases h
  · omega
theorem enumG_length {α : Type} (l : List α) (k : Nat) : (enumG l k).length = l.length := by
  induction l generalizing k with
  | nil => rfl
  | cons x r ih => simp [enumG, ih]
end Go.XL
