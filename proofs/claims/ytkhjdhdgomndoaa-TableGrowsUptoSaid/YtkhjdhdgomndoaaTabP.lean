/- Plain laws of tables: joined row by row. -/
import Derived.Test.YtkhjdhdgomndoaaKnownT
namespace Go.XL
open Go.RowKit Go.Shelf
set_option linter.unusedVariables false
set_option linter.unusedSimpArgs false
theorem tjoined_len (t : List (List Int)) (k : Nat) (b : List Int) : (tjoined t k b).length = t.length := by simp [tjoined]
theorem tjoined_get (t : List (List Int)) (k i : Nat) (b : List Int) : (tjoined t k b)[i]? = if k = i then (if i < t.length then some (vboth max (t[k]?.getD []) b) else none) else t[i]? := by
  rw [tjoined, List.getElem?_set]
  by_cases h : k = i
  · subst h; simp
  · simp [h]
theorem tmerge_len (b : List (List Int)) (a : List (List Int)) (k : Nat) : (tmerge a k b).length = a.length := by
  induction b generalizing a k with
  | nil => rfl
  | cons x r ih => simp only [tmerge]; rw [ih, tjoined_len]
theorem tmerge_get (b : List (List Int)) (a : List (List Int)) (k i : Nat) : (tmerge a k b)[i]? = if k ≤ i ∧ i < k + b.length ∧ i < a.length then some (vboth max (a[i]?.getD []) (b[i - k]?.getD [])) else a[i]? := by
  induction b generalizing a k with
  | nil => simp only [tmerge, List.length_nil]; rw [if_neg (by omega)]
  | cons x r ih =>
    simp only [tmerge]
    rw [ih, tjoined_len, tjoined_get, List.length_cons]
    by_cases hi : i = k
    · subst hi
      rw [if_neg (by omega), if_pos rfl]
      by_cases h2 : i < a.length
      · rw [if_pos h2, if_pos (by omega)]; simp
      · rw [if_neg h2, if_neg (by omega), List.getElem?_eq_none (by omega)]
    · by_cases h1 : k + 1 ≤ i ∧ i < k + 1 + r.length ∧ i < a.length
      · rw [if_pos h1, if_neg (by omega), if_pos (by omega)]
        congr 2
        obtain ⟨m, hm⟩ : ∃ m, i - k = m + 1 := ⟨i - k - 1, by omega⟩
        rw [hm, show i - (k + 1) = m by omega]; rfl
      · rw [if_neg h1, if_neg (fun e => hi e.symm), if_neg (by omega)]
theorem tmerge_zip (a b : List (List Int)) (h : a.length = b.length) (i : Nat) (x y : List Int) (hx : a[i]? = some x) (hy : b[i]? = some y) : (tmerge a 0 b)[i]? = some (vboth max x y) := by
  have hi := (List.getElem?_eq_some_iff.1 hx).1
  rw [tmerge_get, if_pos (by omega), hx, Nat.sub_zero, hy]; rfl
end Go.XL
