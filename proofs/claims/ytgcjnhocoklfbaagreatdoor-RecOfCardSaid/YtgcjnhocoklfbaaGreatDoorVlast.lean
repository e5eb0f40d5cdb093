/- Plain laws: where a vector ends; how long its words are; words joined one by one. -/
import Derived.Test.YtgcjnhocoklfbaaGreatDoorVecT
namespace Go.XL
open Go.RowKit Go.Shelf
set_option linter.unusedVariables false
set_option linter.unusedSimpArgs false
theorem vlast_go (xs : List Int) : ∀ (k a : Nat), ((vallF xs k).foldl (fun _ x => x.1 + 1) a = a ∧ ∀ x ∈ xs, x = 0) ∨
    (∃ j x, xs[j]? = some x ∧ x ≠ 0 ∧ (vallF xs k).foldl (fun _ x => x.1 + 1) a = k + j + 1 ∧ ∀ i y, j < i → xs[i]? = some y → y = 0) := by
  induction xs with
  | nil => intro k a; exact .inl ⟨rfl, by simp⟩
  | cons x xs ih =>
    intro k a
    rw [vallF]
    by_cases h : x = 0
    · rw [if_pos h]
      rcases ih (k + 1) a with ⟨h1, h2⟩ | ⟨j, y, h1, h2, h3, h4⟩
      · exact .inl ⟨h1, fun z hz => by
        rcases List.mem_cons.1 hz with rfl | hz
        · exact h
        · exact h2 z hz⟩
      · refine .inr ⟨j + 1, y, by simpa using h1, h2, by rw [h3]; omega, fun i z hi hz => ?_⟩
        cases i with
        | zero => omega
        | succ i => exact h4 i z (by omega) (by simpa using hz)
    · rw [if_neg h, List.foldl_cons]
      rcases ih (k + 1) (k + 1) with ⟨h1, h2⟩ | ⟨j, y, h1, h2, h3, h4⟩
      · refine .inr ⟨0, x, rfl, h, h1, fun i z hi hz => ?_⟩
        cases i with
        | zero => omega
        | succ i => exact h2 z (List.mem_of_getElem? (by simpa using hz))
      · refine .inr ⟨j + 1, y, by simpa using h1, h2, by rw [h3]; omega, fun i z hi hz => ?_⟩
        cases i with
        | zero => omega
        | succ i => exact h4 i z (by omega) (by simpa using hz)
/-- where a vector ends -/
theorem vlast_spec (xs : List Int) : (vlast xs = 0 ∨ ∃ x, xs[vlast xs - 1]? = some x ∧ x ≠ 0 ∧ 0 < vlast xs) ∧ ∀ j : Nat, vlast xs ≤ j → vget xs j = 0 := by
  have h := vlast_go xs 0 0
  have e : (vallF xs 0).foldl (fun _ x => x.1 + 1) 0 = vlast xs := rfl
  rw [e] at h
  rcases h with ⟨h1, h2⟩ | ⟨j, x, h1, h2, h3, h4⟩
  · refine ⟨.inl h1, fun i _ => ?_⟩
    rw [vget_nat]
    cases e : xs[i]? with
    | none => rfl
    | some y => exact h2 y (List.mem_of_getElem? e)
  · refine ⟨.inr ⟨x, by rw [h3, show 0 + j + 1 - 1 = j by omega]; exact h1, h2, by omega⟩, fun i hi => ?_⟩
    rw [vget_nat]
    cases e : xs[i]? with
    | none => rfl
    | some y => exact h4 i y (by omega) e
theorem vtext_len {xs : List Int} (h64 : I64s xs) : (vtext xs).length ≤ 23 * xs.length + 2 := by
  unfold vtext
  have h1 := wjoin_len ((xs.take (vlast xs)).map Lib.itoa) (fun w hw => by
    obtain ⟨x, hx, rfl⟩ := List.mem_map.1 hw
    have := h64 x (List.mem_of_mem_take hx)
    exact itoa_len x this.1 this.2)
  rw [List.length_map, List.length_take] at h1
  simp only [List.length_cons, List.length_append, List.length_nil]
  omega
theorem vlast_uniq {xs : List Int} {k : Nat} (h0 : ∀ j : Nat, k ≤ j → vget xs j = 0) (h1 : k = 0 ∨ vget xs (k - 1 : Nat) ≠ 0) : vlast xs = k := by
  obtain ⟨h2, h3⟩ := vlast_spec xs
  rcases Nat.lt_trichotomy (vlast xs) k with h | h | h
  · rcases h1 with h1 | h1
    · omega
    · exact absurd (h3 _ (by omega)) h1
  · exact h
  · rcases h2 with h2 | ⟨x, hx, hx0, hp⟩
    · omega
    · have := h0 (vlast xs - 1) (by omega)
      rw [vget_nat, hx] at this
      exact absurd this hx0
theorem wjoin_app (ws : List (List UInt8)) (w : List UInt8) : wjoin (ws ++ [w]) = if ws = [] then w else wjoin ws ++ 32 :: w := by
  induction ws with
  | nil => rfl
  | cons a ws ih =>
    rw [if_neg (by simp), List.cons_append, wjoin_cons _ _ (by simp), ih]
    by_cases h : ws = []
    · subst h; rw [if_pos rfl]; simp [wjoin]
    · rw [if_neg h, wjoin_cons _ _ h]; simp
/-- the words so far -/
def vfront (xs : List Int) (i : Nat) : List UInt8 := 91 :: wjoin ((xs.take i).map Lib.itoa)
theorem vfront_zero (xs : List Int) : vfront xs 0 = [91] := rfl
theorem vfront_one {xs : List Int} {x : Int} (h : xs[0]? = some x) : vfront xs 1 = vfront xs 0 ++ Lib.itoa x := by
  cases xs with
  | nil => cases h
  | cons y ys => simp at h; subst h; simp [vfront, wjoin]
theorem vfront_succ {xs : List Int} {i : Nat} {x : Int} (h : xs[i]? = some x) (hi : 0 < i) : vfront xs (i + 1) = vfront xs i ++ 32 :: Lib.itoa x := by
  have hl : i < xs.length := (List.getElem?_eq_some_iff.1 h).1
  have hne : (xs.take i).map Lib.itoa ≠ [] := by
    intro e
    have := congrArg List.length e
    rw [List.length_map, List.length_take, List.length_nil] at this
    omega
  unfold vfront
  rw [List.take_add_one, h, List.map_append]
  simp only [Option.toList_some, List.map_cons, List.map_nil]
  rw [wjoin_app, if_neg hne]
  simp
theorem vfront_len {xs : List Int} (h64 : I64s xs) (i : Nat) : (vfront xs i).length ≤ 23 * i + 1 := by
  unfold vfront
  have h1 := wjoin_len ((xs.take i).map Lib.itoa) (fun w hw => by
    obtain ⟨x, hx, rfl⟩ := List.mem_map.1 hw
    have := h64 x (List.mem_of_mem_take hx)
    exact itoa_len x this.1 this.2)
  rw [List.length_map, List.length_take] at h1
  simp only [List.length_cons]
  omega
theorem vtext_front (xs : List Int) : vtext xs = vfront xs (vlast xs) ++ [93] := by unfold vtext vfront; simp
end Go.XL
