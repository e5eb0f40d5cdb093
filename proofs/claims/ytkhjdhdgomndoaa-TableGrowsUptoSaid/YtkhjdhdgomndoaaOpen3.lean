/- Arguments opened, with what their reading holds: slices, slices of slices. -/
import Derived.Test.YtkhjdhdgomndoaaOpen2
namespace Go.XL
open Go.RowKit Go.Shelf Go.ChangeShapes Go.WideShapes Go.ChangeAt
set_option linter.unusedVariables false
set_option linter.unusedSimpArgs false
variable {H : Type} {enc : TypeId × Value → H} {P : Program} {w : World} {base : Nat} {spare : Nat → Bool} {held : Bool}

/-- what a slice reads as: its elements' readings -/
def Elems (d : DataW H) (l : List (DataW H)) : Prop := (d = .nil ∧ l = []) ∨ ∃ sp, d = .slice l sp

/-- a slice, opened: its elements' cells as rows, with their readings -/
theorem open_rows_d {t e : TypeId} {fuel : Nat} {cs : List Value} {x : DataW H × List MemPlace} {size : Nat}
    (ht : P.underlying t = some (.slice e)) (hce : P.cellsOf e = size) (hs : 0 < size) (h : DataW.trod enc P w base spare held fuel t cs = some x) :
    ∃ (v : Value) (rows : List (List Value)) (ds : List (DataW H)), cs = [v] ∧ Rd w size v rows.length rows.flatten ∧ Elems x.1 ds ∧ ds.length = rows.length ∧
      ∀ (i : Nat) r, rows[i]? = some r → r.length = size ∧ ∃ n y pl, ds[i]? = some y ∧ DataW.trod enc P w base spare held n e r = some (y, pl) := by
  rcases Go.Deep.open_slice ht h with ⟨rfl, rfl⟩ | ⟨a, len, cap, m, n, D, Pl, rfl, hb, hl, hm, hmm, rfl, hx⟩
  · exact ⟨_, [], [], rfl, ⟨by simp, none, 0, rfl, Nat.le_refl _, by simp [maxLen], fun _ => rfl, fun h => absurd h (Nat.lt_irrefl _)⟩, .inl ⟨rfl, rfl⟩, rfl, by simp⟩
  · have hlm : len ≤ m := by rw [hmm]; split <;> omega
    rw [hce] at hx
    have hex : ∀ i, i < len → ∃ r : List Value, (r.length = size ∧ ∃ pl, DataW.trod enc P w base spare held n e r = some (D i, pl)) ∧ ∀ j u, r[j]? = some u → w.cell? (a.add (i * size + j)) = some u := fun i hi => by
      obtain ⟨r, hr, hd⟩ := hx i (by omega)
      obtain ⟨h1, h2⟩ := cells_some hr
      exact ⟨r, ⟨h1, _, hd⟩, fun j u hj => by rw [← addr_add_add]; exact h2 j u hj⟩
    obtain ⟨f, hf⟩ := Go.Deep.choose_lt hex
    have hrl : ((List.range len).map f).length = len := by simp
    have hall : ∀ r ∈ (List.range len).map f, r.length = size := fun r hr => by
      simp at hr
      obtain ⟨i, hi, rfl⟩ := hr
      exact (hf i hi).1.1
    refine ⟨_, (List.range len).map f, (List.range len).map D, rfl, ⟨?_, some a, cap, by rw [hrl], by rw [hrl]; exact hl, hm, by simp, fun h0 => ?_⟩, .inr ⟨_, rfl⟩, by simp, fun i r hr => ?_⟩
    · rw [flatten_len size _ hall]
    · rw [hrl] at h0
      obtain ⟨b, off, spot⟩ := a
      have hne : (f 0)[0]? = some ((f 0)[0]'(by rw [(hf 0 h0).1.1]; exact hs)) := by simp
      have hspot : spot = none := by
        have := (hf 0 h0).2 0 _ hne
        simpa [Addr.add] using World.cell?_spot this
      subst hspot
      refine ⟨b, off, rfl, fun j u hj => ?_⟩
      have hjl := (List.getElem?_eq_some_iff.1 hj).1
      rw [flatten_len size _ hall, hrl] at hjl
      have hi : j / size < len := Nat.div_lt_of_lt_mul (by rw [Nat.mul_comm]; exact hjl)
      have hm' : j % size < size := Nat.mod_lt _ hs
      have e : j / size * size + j % size = j := Nat.div_add_mod' j size
      have hg : ((List.range len).map f)[j / size]? = some (f (j / size)) := by simp [hi]
      have := flatten_get size _ hall (j / size) (j % size) _ hg hm'
      rw [e, hj] at this
      have h2 := (hf (j / size) hi).2 (j % size) u this.symm
      rwa [e, Addr.add_lit] at h2
    · have hil := (List.getElem?_eq_some_iff.1 hr).1
      rw [hrl] at hil
      simp [hil] at hr
      subst hr
      exact ⟨(hf i hil).1.1, n, D i, (hf i hil).1.2.choose, by simp [hil], (hf i hil).1.2.choose_spec⟩

/-- rows of one cell each -/
theorem flatten_one {rows : List (List Value)} (h : ∀ r ∈ rows, r.length = 1) : rows.flatten.length = rows.length ∧ ∀ (i : Nat) u, rows.flatten[i]? = some u → rows[i]? = some [u] := by
  have h1 := flatten_len 1 rows h
  refine ⟨by omega, fun i u hu => ?_⟩
  have hil := (List.getElem?_eq_some_iff.1 hu).1
  have hr : rows[i]? = some rows[i] := by simp [show i < rows.length by omega]
  have hl := h rows[i] (List.getElem_mem _)
  have := flatten_get 1 rows h i 0 _ hr (by decide)
  rw [Nat.mul_one, Nat.add_zero, hu] at this
  rw [hr]
  congr 1
  match hm : rows[i], hl with
  | [x], _ => rw [hm] at this; simp at this; rw [this]

/-- a slice of slices of integers, with their readings -/
theorem ints2_open_d {t s e : TypeId} {k : IntKind} {v : Value} {d : DataW H} {p : List MemPlace} (ht : P.underlying t = some (.slice s)) (hs : P.underlying s = some (.slice e)) (he : P.underlying e = some (.int k)) (hcs : P.cellsOf s = 1) (hce : P.cellsOf e = 1)
    {base' : Nat} (hok : Value.okWide P w .any base' t v) (h : DataW.Trod enc P w base spare held t v d p) :
    ∃ (vs : List Value) (zss : List (List Int)) (ds : List (DataW H)), Rd w 1 v zss.length vs ∧ (∀ (i : Nat) u zs, vs[i]? = some u → zss[i]? = some zs → Rd w 1 u zs.length (zs.map (Value.int k))) ∧ (∀ zs ∈ zss, ∀ y ∈ zs, (Lit.int k y).wf = true) ∧
      Elems d ds ∧ ∀ zs ∈ zss, ∃ dd ∈ ds, ∃ es, Elems dd es ∧ es.length = zs.length := by
  obtain ⟨a, len, cap, rfl⟩ := okWide_slice ht hok
  obtain ⟨fuel, hf⟩ := h
  obtain ⟨v, rows, ds, hv, hr, hE, hdl, hall⟩ := open_rows_d ht hcs (by decide) hf
  simp [Value.cells] at hv
  subst hv
  have h1 : ∀ r ∈ rows, r.length = 1 := fun r hr => by
    obtain ⟨i, hi⟩ := List.getElem?_of_mem hr
    exact (hall i r hi).1
  obtain ⟨hfl, hfg⟩ := flatten_one h1
  have hz : ∀ i, i < rows.length → ∃ zs : List Int, (∀ u, rows.flatten[i]? = some u → Rd w 1 u zs.length (zs.map (Value.int k))) ∧ (∀ y ∈ zs, (Lit.int k y).wf = true) ∧ ∃ dd ∈ ds, ∃ es, Elems dd es ∧ es.length = zs.length := fun i hi => by
    obtain ⟨u, hu⟩ : ∃ u, rows.flatten[i]? = some u := ⟨rows.flatten[i]'(by omega), by simp [show i < rows.flatten.length by omega]⟩
    obtain ⟨_, n, y, pl, hy, ht2⟩ := hall i [u] (hfg i u hu)
    obtain ⟨u2, zs, e1, hzr, hw⟩ := open_ints_cells hs he hce ht2
    simp at e1
    obtain ⟨u3, rows3, es, e3, hr3, hE3, hl3, _⟩ := open_rows_d hs hce (by decide) ht2
    simp at e3
    subst e1; subst e3
    refine ⟨zs, fun u' hu' => ?_, hw, y, List.mem_of_getElem? hy, es, hE3, ?_⟩
    · rw [hu] at hu'; cases hu'; exact hzr
    · obtain ⟨_, _, e5, _, _⟩ := hr3.cap
      obtain ⟨_, _, e6, _, _⟩ := hzr.cap
      rw [e6] at e5
      have := (Value.slice.inj e5).2.1
      omega
  obtain ⟨f, hf⟩ := Go.Deep.choose_lt hz
  have hzl : ((List.range rows.length).map f).length = rows.length := by simp
  refine ⟨rows.flatten, (List.range rows.length).map f, ds, by rw [hzl]; exact hr, fun i u zs e1 e2 => ?_, fun zs hzs => ?_, hE, fun zs hzs => ?_⟩
  · have hil := (List.getElem?_eq_some_iff.1 e2).1
    rw [hzl] at hil
    simp [hil] at e2
    subst e2
    exact (hf i hil).1 u e1
  · simp at hzs
    obtain ⟨i, hi, rfl⟩ := hzs
    exact (hf i hi).2.1
  · simp at hzs
    obtain ⟨i, hi, rfl⟩ := hzs
    exact (hf i hi).2.2
end Go.XL
