/- Arguments opened: maps. -/
import Derived.Test.YtkdcldnbdhfobaaDoorProg
import Derived.Test.YtkdcldnbdhfobaaDoorOpen
import Derived.Test.YtkdcldnbdhfobaaDoorMp3
namespace Go.Proofs.YtkdcldnbdhfobaaDoor
open Go.RowKit Go.Shelf Go.XL Go.ChangeShapes Go.WideShapes Go.ChangeAt
set_option linter.unusedVariables false
set_option linter.unusedSimpArgs false
variable {H : Type} {enc : TypeId × Value → H} {w : World} {base : Nat} {spare : Nat → Bool} {held : Bool}
theorem cellsOf_int : Tryd.prog.cellsOf 3 = 1 := by kernel_rfl
theorem cellsOf_span : Tryd.prog.cellsOf 48 = 2 := by kernel_rfl
theorem len2 {cs : List Value} (h : cs.length = 2) : ∃ a b, cs = [a, b] := by
  match cs, h with
  | [a, b], _ => exact ⟨a, b, rfl⟩
theorem span_open {fuel : Nat} {cs : List Value} {x : DataW H × List MemPlace} (h : DataW.trod enc Tryd.prog w base spare held fuel 48 cs = some x) :
    ∃ (y : Int × Int), cs = [.int .i64 y.1, .int .i64 y.2] ∧ (-9223372036854775808 ≤ y.1 ∧ y.1 ≤ 9223372036854775807) ∧ (-9223372036854775808 ≤ y.2 ∧ y.2 ≤ 9223372036854775807) := by
  obtain ⟨xs, n, _, _, hl, hlen, hf⟩ := DataW.trod_struct Tryd.underlying48 h
  rw [cellsOf_span] at hl
  obtain ⟨a, b, rfl⟩ := len2 hl
  have f0 : DataW.trod enc Tryd.prog w base spare held n 3 ((([a, b] : List Value).drop 0).take (Tryd.prog.cellsOf 3)) = xs[0]? := hf 0 _ rfl
  have f1 : DataW.trod enc Tryd.prog w base spare held n 3 ((([a, b] : List Value).drop 1).take (Tryd.prog.cellsOf 3)) = xs[1]? := hf 1 _ rfl
  have hx : ∀ i, i < 2 → ∃ y, xs[i]? = some y := fun i hi => ⟨xs[i]'(by rw [hlen]; exact hi), by simp⟩
  obtain ⟨y0, h0⟩ := hx 0 (by decide)
  obtain ⟨y1, h1⟩ := hx 1 (by decide)
  rw [h0] at f0
  rw [h1] at f1
  rw [cellsOf_int] at f0 f1
  obtain ⟨s, e0, _, g0⟩ := DataW.trod_int Tryd.underlying3 f0
  obtain ⟨q, e1, _, g1⟩ := DataW.trod_int Tryd.underlying3 f1
  simp at e0 e1
  subst e0; subst e1
  exact ⟨(s, q), rfl, bounds_i64 g0, bounds_i64 g1⟩
set_option maxRecDepth 100000 in
theorem map_open {v : Value} {d : DataW H} {p : List MemPlace} {base' : Nat} (hok : Value.okWide Tryd.prog w .any base' 23 v) (h : DataW.Trod enc Tryd.prog w base spare held 23 v d p) : ∃ m : Mp, MpAt w v m ∧ Mp64 m := by
  obtain ⟨a, len, cap, rfl⟩ := okWide_slice Tryd.underlying23 hok
  obtain ⟨fuel, hf⟩ := h
  obtain ⟨v, rows, hv, hr, hall⟩ := open_rows Tryd.underlying23 cellsOf_span (by decide) hf
  simp [Value.cells] at hv
  subst hv
  have key : ∀ rows : List (List Value), (∀ r ∈ rows, ∃ y : Int × Int, r = [.int .i64 y.1, .int .i64 y.2] ∧ (-9223372036854775808 ≤ y.1 ∧ y.1 ≤ 9223372036854775807) ∧ (-9223372036854775808 ≤ y.2 ∧ y.2 ≤ 9223372036854775807)) → ∃ l : Mp, l.length = rows.length ∧ rows.flatten = mpCells l ∧ Mp64 l := by
    intro rows
    induction rows with
    | nil => exact fun _ => ⟨[], rfl, rfl, by intro x hx; cases hx⟩
    | cons r rows ih =>
      intro h
      obtain ⟨l, h1, h2, h3⟩ := ih (fun r hr => h r (by simp [hr]))
      obtain ⟨y, rfl, hy⟩ := h r (by simp)
      refine ⟨y :: l, by simp [h1], by rw [List.flatten_cons, h2]; rfl, fun x hx => ?_⟩
      rcases List.mem_cons.1 hx with rfl | hx
      · exact hy
      · exact h3 x hx
  obtain ⟨l, h1, h2, h3⟩ := key rows (fun r hr => by
    obtain ⟨hl, n, y, hy⟩ := hall r hr
    exact span_open hy)
  refine ⟨l, ?_, h3⟩
  show Rd w 2 _ l.length (mpCells l)
  rw [h1, ← h2]
  exact hr
end Go.Proofs.YtkdcldnbdhfobaaDoor
