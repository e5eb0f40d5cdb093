/- Arguments opened: slices of strings. -/
import Derived.Test.YthlcbhpdbcnmjaaOpen
import Derived.OpenShut
namespace Go.XL
open Go.RowKit Go.Shelf Go.ChangeShapes Go.WideShapes Go.ChangeAt
set_option linter.unusedVariables false
set_option linter.unusedSimpArgs false
variable {H : Type} {enc : TypeId × Value → H} {P : Program} {w : World} {base : Nat} {spare : Nat → Bool} {held : Bool}

/-- a slice of strings, at the cells' level -/
theorem open_strs_cells {t e : TypeId} {fuel : Nat} {cs : List Value} {x : DataW H × List MemPlace} (ht : P.underlying t = some (.slice e)) (he : P.underlying e = some .string) (hce : P.cellsOf e = 1)
    (h : DataW.trod enc P w base spare held fuel t cs = some x) : ∃ (v : Value) (zs : List ByteArray), cs = [v] ∧ Rd w 1 v zs.length (zs.map Value.string) ∧ ∀ y ∈ zs, y.size ≤ Go.maxLen := by
  obtain ⟨v, rows, hv, hr, hall⟩ := open_rows ht hce (by decide) h
  have key : ∀ rows : List (List Value), (∀ r ∈ rows, ∃ a : ByteArray, r = [.string a] ∧ a.size ≤ Go.maxLen) → ∃ l : List ByteArray, l.length = rows.length ∧ rows.flatten = l.map Value.string ∧ ∀ y ∈ l, y.size ≤ Go.maxLen := by
    intro rows
    induction rows with
    | nil => exact fun _ => ⟨[], rfl, rfl, by simp⟩
    | cons r rows ih =>
      intro h
      obtain ⟨l, h1, h2, h3⟩ := ih (fun r hr => h r (by simp [hr]))
      obtain ⟨a, rfl, ha⟩ := h r (by simp)
      refine ⟨a :: l, by simp [h1], by simp [h2], fun y hy => ?_⟩
      rcases List.mem_cons.1 hy with rfl | hy
      · exact ha
      · exact h3 y hy
  obtain ⟨l, h1, h2, h3⟩ := key rows (fun r hr => by
    obtain ⟨hl, n, y, hy⟩ := hall r hr
    obtain ⟨a, e, _, hw⟩ := DataW.trod_string he hy
    exact ⟨a, e, hw⟩)
  refine ⟨v, l, hv, ?_, h3⟩
  rw [h1, ← h2]
  exact hr

/-- a slice of strings -/
theorem strs_open {t e : TypeId} {v : Value} {d : DataW H} {p : List MemPlace} (ht : P.underlying t = some (.slice e)) (he : P.underlying e = some .string) (hce : P.cellsOf e = 1)
    {base' : Nat} (hok : Value.okWide P w .any base' t v) (h : DataW.Trod enc P w base spare held t v d p) : ∃ zs : List ByteArray, Rd w 1 v zs.length (zs.map Value.string) ∧ ∀ y ∈ zs, y.size ≤ Go.maxLen := by
  obtain ⟨a, len, cap, rfl⟩ := okWide_slice ht hok
  obtain ⟨fuel, hf⟩ := h
  obtain ⟨v, zs, hv, hr, hw⟩ := open_strs_cells ht he hce hf
  simp [Value.cells] at hv
  subst hv
  exact ⟨zs, hr, hw⟩
end Go.XL
