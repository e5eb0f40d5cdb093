/- Plain laws of tables: covers. -/
import Derived.Test.YtkhjdhdgomndoaaTabP
namespace Go.XL
open Go.RowKit Go.Shelf
set_option linter.unusedVariables false
set_option linter.unusedSimpArgs false
theorem vget_out (xs : List Int) (j : Nat) (h : xs.length ≤ j) : vget xs j = 0 := by rw [vget_nat, List.getElem?_eq_none h]; rfl
theorem vcov_all (a b : List Int) : vcov a b = true ↔ ∀ j : Nat, vget b j ≤ vget a j := by
  unfold vcov
  rw [List.all_eq_true]
  constructor
  · intro h j
    by_cases hj : j < max a.length b.length
    · simpa using h j (List.mem_range.2 hj)
    · rw [vget_out a j (by omega), vget_out b j (by omega)]; exact Int.le_refl _
  · intro h j _; simpa using h j
theorem vget_both' (g : Int → Int → Int) (h0 : g 0 0 = 0) (a b : List Int) (j : Nat) : vget (vboth g a b) j = g (vget a j) (vget b j) := by
  by_cases hj : j < max a.length b.length
  · rw [vget_nat]; simp [vboth, hj]
  · rw [vget_out _ j (by rw [vboth_len]; omega), vget_out a j (by omega), vget_out b j (by omega), h0]
theorem vget_max (a b : List Int) (j : Nat) : vget (vboth max a b) j = max (vget a j) (vget b j) := vget_both' max (by decide) a b j
theorem vget_min (a b : List Int) (j : Nat) : vget (vboth min a b) j = min (vget a j) (vget b j) := vget_both' min (by decide) a b j
theorem vcov_refl (a : List Int) : vcov a a = true := (vcov_all a a).2 fun j => Int.le_refl _
theorem vcov_max_left (a b : List Int) : vcov (vboth max a b) a = true := (vcov_all _ _).2 fun j => by rw [vget_max]; omega
theorem vcov_max_right (a b : List Int) : vcov (vboth max a b) b = true := (vcov_all _ _).2 fun j => by rw [vget_max]; omega
theorem tall_le (rest : List (List Int)) (cur : List Int) (k : Nat) : (k ≠ 0 → ∀ j : Nat, vget (tall cur k rest) j ≤ vget cur j) ∧ ∀ x ∈ rest, ∀ j : Nat, vget (tall cur k rest) j ≤ vget x j := by
  induction rest generalizing cur k with
  | nil => exact ⟨fun _ j => Int.le_refl _, by simp⟩
  | cons y r ih =>
    simp only [tall]
    have h := ih (vboth min (if k = 0 then y else cur) y) (k + 1)
    have h1 := h.1 (by omega)
    refine ⟨fun hk j => ?_, fun x hx j => ?_⟩
    · have := h1 j
      rw [vget_min, if_neg hk] at this
      rw [if_neg hk] at *
      omega
    · rcases List.mem_cons.1 hx with rfl | hx
      · have := h1 j
        rw [vget_min] at this
        omega
      · exact h.2 x hx j
theorem tsame_true (s t : List (List Int)) (h : s.length = t.length) (hr : ∀ (i : Nat) x y, s[i]? = some x → t[i]? = some y → ∀ j : Nat, vget x j = vget y j) : tsame s t = true := by
  rw [tsame_iff s t h]
  intro i hi
  have e1 : s[i]? = some s[i] := by simp [hi]
  have e2 : t[i]? = some (t[i]'(by omega)) := by simp [show i < t.length by omega]
  have := hr i _ _ e1 e2
  rw [e1, e2]
  simp only [Option.getD_some, Bool.and_eq_true]
  exact ⟨(vcov_all _ _).2 fun j => by rw [this j]; exact Int.le_refl _, (vcov_all _ _).2 fun j => by rw [this j]; exact Int.le_refl _⟩
theorem tbad_rows (t : List (List Int)) (sites : Int) (h : tbad t sites = 0) : ∀ x ∈ t, vcheck x sites = 0 := by
  induction t with
  | nil => simp
  | cons y r ih =>
    unfold tbad at h
    split at h
    · rename_i e
      intro x hx
      rcases List.mem_cons.1 hx with rfl | hx
      · exact e
      · exact ih h x hx
    · rename_i e; exact absurd h e
theorem vcheck_len (x : List Int) (sites : Int) (h : vcheck x sites = 0) : (x.length : Int) ≤ sites := by
  unfold vcheck at h
  split at h
  · cases h
  · split at h
    · cases h
    · split at h
      · cases h
      · omega
theorem tcheck_zero (t : List (List Int)) (n : Nat) (h : tcheck t n = 0) : tbad t n = 0 ∧ t.length = n := by
  unfold tcheck at h
  split at h
  · cases h
  · split at h
    · cases h
    · split at h
      · exact ⟨h, by omega⟩
      · cases h
/-- all that the law says of the tables, row by row -/
theorem grows_plain (a b : List (List Int)) (n : Nat) (ha : a.length = n) (hb : b.length = n) :
    tsame (tmerge a 0 b) (tmerge b 0 a) = true ∧ tsame (tmerge a 0 b) (tmerge (tmerge a 0 b) 0 a) = true ∧
    ∀ (i : Nat) (x y : List Int), a[i]? = some x → b[i]? = some y → (tmerge a 0 b)[i]? = some (vboth max x y) ∧ vcov (vboth max x y) x = true ∧ vcov (vboth max x y) y = true ∧ vcov (vboth max x y) (tall [] 0 (tmerge a 0 b)) = true := by
  have key : ∀ (i : Nat), i < n → ∃ x y, a[i]? = some x ∧ b[i]? = some y := fun i hi => ⟨a[i]'(by omega), b[i]'(by omega), by simp [show i < a.length by omega], by simp [show i < b.length by omega]⟩
  refine ⟨tsame_true _ _ (by rw [tmerge_len, tmerge_len]; omega) (fun i x y h1 h2 j => ?_), tsame_true _ _ (by simp only [tmerge_len]) (fun i x y h1 h2 j => ?_), fun i x y hx hy => ?_⟩
  · have hi : i < n := by have := (List.getElem?_eq_some_iff.1 h1).1; rw [tmerge_len] at this; omega
    obtain ⟨p, q, hp, hq⟩ := key i hi
    rw [tmerge_zip a b (by omega) i p q hp hq] at h1
    rw [tmerge_zip b a (by omega) i q p hq hp] at h2
    cases h1; cases h2
    rw [vget_max, vget_max]; omega
  · have hi : i < n := by have := (List.getElem?_eq_some_iff.1 h1).1; rw [tmerge_len] at this; omega
    obtain ⟨p, q, hp, hq⟩ := key i hi
    have h3 := tmerge_zip a b (by omega) i p q hp hq
    rw [tmerge_zip _ a (by rw [tmerge_len]) i _ p h3 hp] at h2
    rw [h3] at h1
    cases h1; cases h2
    rw [vget_max, vget_max, vget_max]; omega
  · have h3 := tmerge_zip a b (by omega) i x y hx hy
    exact ⟨h3, vcov_max_left _ _, vcov_max_right _ _, (vcov_all _ _).2 fun j => (tall_le (tmerge a 0 b) [] 0).2 _ (List.mem_of_getElem? h3) j⟩
end Go.XL
