/- Arguments opened: slices of integers, slices of slices of integers. -/
import Derived.Test.YtlohbikkhojlaaaOpen
import Derived.OpenShut
namespace Go.XL
open Go.RowKit Go.Shelf Go.ChangeShapes Go.WideShapes Go.ChangeAt
set_option linter.unusedVariables false
set_option linter.unusedSimpArgs false
variable {H : Type} {enc : TypeId × Value → H} {P : Program} {w : World} {base : Nat} {spare : Nat → Bool} {held : Bool}

/-- a slice of integers, at the cells' level -/
theorem open_ints_cells {t e : TypeId} {k : IntKind} {fuel : Nat} {cs : List Value} {x : DataW H × List MemPlace} (ht : P.underlying t = some (.slice e)) (he : P.underlying e = some (.int k)) (hce : P.cellsOf e = 1)
    (h : DataW.trod enc P w base spare held fuel t cs = some x) : ∃ (v : Value) (zs : List Int), cs = [v] ∧ Rd w 1 v zs.length (zs.map (Value.int k)) ∧ ∀ y ∈ zs, (Lit.int k y).wf = true := by
  obtain ⟨v, rows, hv, hr, hall⟩ := open_rows ht hce (by decide) h
  have key : ∀ rows : List (List Value), (∀ r ∈ rows, ∃ a : Int, r = [.int k a] ∧ (Lit.int k a).wf = true) → ∃ l : List Int, l.length = rows.length ∧ rows.flatten = l.map (Value.int k) ∧ ∀ y ∈ l, (Lit.int k y).wf = true := by
    intro rows
    induction rows with
    | nil => exact fun _ => ⟨[], rfl, rfl, by simp⟩
    | cons r rows ih =>
      intro h
      obtain ⟨l, h1, h2, h3⟩ := ih (fun r hr => h r (by simp [hr]))
      obtain ⟨a, rfl, ha⟩ := h r (by simp)
      refine ⟨a :: l, by simp [h1], by simp [h2], fun y hy => ?_⟩
      rcases List.mem_cons.1 hy with rfl | hy
      · exact ha
      · exact h3 y hy
  obtain ⟨l, h1, h2, h3⟩ := key rows (fun r hr => by
    obtain ⟨hl, n, y, hy⟩ := hall r hr
    obtain ⟨a, e, _, hw⟩ := DataW.trod_int he hy
    exact ⟨a, e, hw⟩)
  refine ⟨v, l, hv, ?_, h3⟩
  rw [h1, ← h2]
  exact hr

/-- a slice of integers -/
theorem ints_open {t e : TypeId} {k : IntKind} {v : Value} {d : DataW H} {p : List MemPlace} (ht : P.underlying t = some (.slice e)) (he : P.underlying e = some (.int k)) (hce : P.cellsOf e = 1)
    {base' : Nat} (hok : Value.okWide P w .any base' t v) (h : DataW.Trod enc P w base spare held t v d p) : ∃ zs : List Int, Rd w 1 v zs.length (zs.map (Value.int k)) ∧ ∀ y ∈ zs, (Lit.int k y).wf = true := by
  obtain ⟨a, len, cap, rfl⟩ := okWide_slice ht hok
  obtain ⟨fuel, hf⟩ := h
  obtain ⟨v, zs, hv, hr, hw⟩ := open_ints_cells ht he hce hf
  simp [Value.cells] at hv
  subst hv
  exact ⟨zs, hr, hw⟩

/-- a slice of slices of integers -/
theorem ints2_open {t s e : TypeId} {k : IntKind} {v : Value} {d : DataW H} {p : List MemPlace} (ht : P.underlying t = some (.slice s)) (hs : P.underlying s = some (.slice e)) (he : P.underlying e = some (.int k)) (hcs : P.cellsOf s = 1) (hce : P.cellsOf e = 1)
    {base' : Nat} (hok : Value.okWide P w .any base' t v) (h : DataW.Trod enc P w base spare held t v d p) :
    ∃ (vs : List Value) (zss : List (List Int)), Rd w 1 v zss.length vs ∧ (∀ (i : Nat) u zs, vs[i]? = some u → zss[i]? = some zs → Rd w 1 u zs.length (zs.map (Value.int k))) ∧ ∀ zs ∈ zss, ∀ y ∈ zs, (Lit.int k y).wf = true := by
  obtain ⟨a, len, cap, rfl⟩ := okWide_slice ht hok
  obtain ⟨fuel, hf⟩ := h
  obtain ⟨v, rows, hv, hr, hall⟩ := open_rows ht hcs (by decide) hf
  simp [Value.cells] at hv
  subst hv
  have key : ∀ rows : List (List Value), (∀ r ∈ rows, ∃ (u : Value) (zs : List Int), r = [u] ∧ Rd w 1 u zs.length (zs.map (Value.int k)) ∧ ∀ y ∈ zs, (Lit.int k y).wf = true) →
      ∃ zss : List (List Int), zss.length = rows.length ∧ (∀ (i : Nat) u zs, rows.flatten[i]? = some u → zss[i]? = some zs → Rd w 1 u zs.length (zs.map (Value.int k))) ∧ ∀ zs ∈ zss, ∀ y ∈ zs, (Lit.int k y).wf = true := by
    intro rows
    induction rows with
    | nil => exact fun _ => ⟨[], rfl, by simp, by simp⟩
    | cons r rows ih =>
      intro h
      obtain ⟨zss, h1, h2, h3⟩ := ih (fun r hr => h r (by simp [hr]))
      obtain ⟨u, zs, rfl, hu, hw⟩ := h r (by simp)
      refine ⟨zs :: zss, by simp [h1], fun i u' zs' e1 e2 => ?_, fun y hy => ?_⟩
      · cases i with
        | zero => simp at e1 e2; subst e1; subst e2; exact hu
        | succ i => simp at e1 e2; exact h2 i u' zs' (by simpa using e1) e2
      · rcases List.mem_cons.1 hy with rfl | hy
        · exact hw
        · exact h3 y hy
  obtain ⟨zss, h1, h2, h3⟩ := key rows (fun r hr => by
    obtain ⟨hl, n, y, hy⟩ := hall r hr
    obtain ⟨u, zs, e, hu, hw⟩ := open_ints_cells hs he hce hy
    exact ⟨u, zs, e, hu, hw⟩)
  exact ⟨rows.flatten, zss, by rw [h1]; exact hr, h2, h3⟩
end Go.XL
