/- The walk of TableGrows at arguments as they are read, few as they are. -/
import Derived.Test.YtkhjdhdgomndoaaRows
import Derived.Test.YtkhjdhdgomndoaaGrowsR
import Derived.Test.YtkhjdhdgomndoaaOpen3
namespace Go.Proofs.Ytkhjdhdgomndoaa
open Go.RowKit Go.Shelf Go.XL Go.ChangeShapes Go.WideShapes Go.ChangeAt
set_option linter.unusedVariables false
set_option linter.unusedSimpArgs false
theorem bulk_one {H : Type} (d : DataW H) : 1 ≤ Rows.uptoBulk d := by
  cases d with
  | lit l => cases l <;> simp [Rows.uptoBulk]
  | nil => simp [Rows.uptoBulk]
  | ptr d => simp [Rows.uptoBulk]
  | slice elems spare => simp [Rows.uptoBulk]
  | agg parts => simp [Rows.uptoBulk]
  | iface t d => simp [Rows.uptoBulk]
  | map entries => simp [Rows.uptoBulk]
  | held h => simp [Rows.uptoBulk]
theorem bulk_part {H : Type} {d : DataW H} {l : List (DataW H)} (h : d ∈ l) : Rows.uptoBulk d ≤ Rows.uptoBulkAll l := by
  induction l with
  | nil => cases h
  | cons x r ih =>
    simp only [Rows.uptoBulkAll]
    cases List.mem_cons.1 h with
    | inl e => subst e; omega
    | inr e => have := ih e; omega
theorem bulk_length {H : Type} (l : List (DataW H)) : l.length ≤ Rows.uptoBulkAll l := by
  induction l with
  | nil => simp [Rows.uptoBulkAll]
  | cons x r ih => have := bulk_one x; simp only [Rows.uptoBulkAll, List.length_cons]; omega
theorem bulk_elems {H : Type} {d : DataW H} {l : List (DataW H)} (h : Elems d l) : Rows.uptoBulkAll l ≤ Rows.uptoBulk d := by
  rcases h with ⟨rfl, rfl⟩ | ⟨sp, rfl⟩
  · simp [Rows.uptoBulkAll]
  · simp only [Rows.uptoBulk]; omega
theorem bulk_rows {H : Type} {d : DataW H} {ds : List (DataW H)} {zss : List (List Int)} (hE : Elems d ds) (hz : ∀ zs ∈ zss, ∃ dd ∈ ds, ∃ es, Elems dd es ∧ es.length = zs.length) (hd : Rows.uptoBulk d ≤ 1048576) : ∀ zs ∈ zss, zs.length ≤ 1048576 := by
  intro zs hzs
  obtain ⟨dd, hdd, es, hE2, hl⟩ := hz zs hzs
  have h1 := bulk_elems hE
  have h2 := bulk_part hdd
  have h3 := bulk_elems hE2
  have h4 := bulk_length es
  omega
theorem bulk_bound {H : Type} {l : List (DataW H)} (hk : Rows.uptoSmall H l = true) : Rows.uptoBulkAll l ≤ 1048576 := of_decide_eq_true hk

theorem tableGrows_row {H : Type} {enc : TypeId × Value → H} (v0 v1 : Value) {d0 d1 : DataW H} {p0 p1 : List MemPlace} {base : Nat} (a : Int) (w : World) (ok0 : Value.okWide Try.prog w .any base 22 v0) (h0 : DataW.Trod enc Try.prog w 0 (fun _ => true) true 22 v0 d0 p0)
    (ok1 : Value.okWide Try.prog w .any base 22 v1) (h1 : DataW.Trod enc Try.prog w 0 (fun _ => true) true 22 v1 d1 p1) (ha : (Lit.int .u8 a).wf = true) (b0 : Rows.uptoBulk d0 ≤ 1048576) (b1 : Rows.uptoBulk d1 ≤ 1048576) :
    Calls Try.prog 3 #[v0, v1, .int .u8 a] w fun e w' => e = .returned (.bool true) ∧ Below w.heap.size w w' := by
  obtain ⟨us, xs, dx, hx1, hx2, hx3, hx4, hx5⟩ := ints2_open_d (k := .u16) Try.underlying22 Try.underlying41 Try.underlying42 (by kernel_rfl) (by kernel_rfl) ok0 h0
  obtain ⟨ut, ys, dy, hy1, hy2, hy3, hy4, hy5⟩ := ints2_open_d (k := .u16) Try.underlying22 Try.underlying41 Try.underlying42 (by kernel_rfl) (by kernel_rfl) ok1 h1
  refine (grows_any v0 v1 us ut xs ys a w hx1 hx2 (fun zs hz y hy => bounds_u16 (hx3 zs hz y hy)) (bulk_rows hx4 hx5 b0) hy1 hy2 (fun zs hz y hy => bounds_u16 (hy3 zs hz y hy)) (bulk_rows hy4 hy5 b1) (bounds_u8 ha).1 (bounds_u8 ha).2).mono ?_
  rintro e w' ⟨he, hf⟩
  exact ⟨he, hf.below⟩
end Go.Proofs.Ytkhjdhdgomndoaa
