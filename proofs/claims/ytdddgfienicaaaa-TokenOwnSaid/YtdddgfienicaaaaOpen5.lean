/- Arguments opened: slices of Bools. -/
import Derived.Test.YtdddgfienicaaaaOpen
import Derived.OpenShut
namespace Go.XL
open Go.RowKit Go.Shelf Go.ChangeShapes Go.WideShapes Go.ChangeAt
set_option linter.unusedVariables false
set_option linter.unusedSimpArgs false
variable {H : Type} {enc : TypeId × Value → H} {P : Program} {w : World} {base : Nat} {spare : Nat → Bool} {held : Bool}

/-- a slice of Bools, at the cells' level -/
theorem open_bools_cells {t e : TypeId} {fuel : Nat} {cs : List Value} {x : DataW H × List MemPlace} (ht : P.underlying t = some (.slice e)) (he : P.underlying e = some .bool) (hce : P.cellsOf e = 1)
    (h : DataW.trod enc P w base spare held fuel t cs = some x) : ∃ (v : Value) (zs : List Bool), cs = [v] ∧ Rd w 1 v zs.length (zs.map Value.bool) := by
  obtain ⟨v, rows, hv, hr, hall⟩ := open_rows ht hce (by decide) h
  have key : ∀ rows : List (List Value), (∀ r ∈ rows, ∃ a : Bool, r = [.bool a]) → ∃ l : List Bool, l.length = rows.length ∧ rows.flatten = l.map Value.bool := by
    intro rows
    induction rows with
    | nil => exact fun _ => ⟨[], rfl, rfl⟩
    | cons r rows ih =>
      intro h
      obtain ⟨l, h1, h2⟩ := ih (fun r hr => h r (by simp [hr]))
      obtain ⟨a, rfl⟩ := h r (by simp)
      exact ⟨a :: l, by simp [h1], by simp [h2]⟩
  obtain ⟨l, h1, h2⟩ := key rows (fun r hr => by
    obtain ⟨hl, n, y, hy⟩ := hall r hr
    obtain ⟨a, e, _⟩ := DataW.trod_bool he hy
    exact ⟨a, e⟩)
  refine ⟨v, l, hv, ?_⟩
  rw [h1, ← h2]
  exact hr

/-- a slice of Bools -/
theorem bools_open {t e : TypeId} {v : Value} {d : DataW H} {p : List MemPlace} (ht : P.underlying t = some (.slice e)) (he : P.underlying e = some .bool) (hce : P.cellsOf e = 1)
    {base' : Nat} (hok : Value.okWide P w .any base' t v) (h : DataW.Trod enc P w base spare held t v d p) : ∃ zs : List Bool, Rd w 1 v zs.length (zs.map Value.bool) := by
  obtain ⟨a, len, cap, rfl⟩ := okWide_slice ht hok
  obtain ⟨fuel, hf⟩ := h
  obtain ⟨v, zs, hv, hr⟩ := open_bools_cells ht he hce hf
  simp [Value.cells] at hv
  subst hv
  exact ⟨zs, hr⟩
end Go.XL
