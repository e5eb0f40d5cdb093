/- The walk of BatchPlays at an argument as it is read. -/
import Derived.Test.YtnchmnkiokofhaaPlaysW
import Derived.Test.YtnchmnkiokofhaaOpen
namespace Go.Proofs.Ytnchmnkiokofhaa
open Go.RowKit Go.Shelf Go.XL Go.ChangeShapes Go.WideShapes Go.ChangeAt
set_option linter.unusedVariables false
set_option linter.unusedSimpArgs false

theorem act_row {H : Type} {enc : TypeId × Value → H} {w : World} {base : Nat} {spare : Nat → Bool} {held : Bool} {n : Nat} {cs : List Value} {y : DataW H × List MemPlace} (h : DataW.trod enc Try.prog w base spare held n 36 cs = some y) (hl : cs.length = 2) :
    ∃ a b : Int, cs = [.int .i64 a, .int .i64 b] := by
  obtain ⟨y0, y1, m, _, _, h0, h1⟩ := trod_struct2 Try.underlying36 h
  obtain ⟨c0, c1, rfl⟩ : ∃ c0 c1, cs = [c0, c1] := by
    match cs, hl with
    | [c0, c1], _ => exact ⟨c0, c1, rfl⟩
  have e : Try.prog.cellsOf 3 = 1 := by kernel_rfl
  simp only [e] at h0 h1
  obtain ⟨a, e0, _, _⟩ := DataW.trod_int Try.underlying3 h0
  obtain ⟨b, e1, _, _⟩ := DataW.trod_int Try.underlying3 h1
  simp at e0 e1
  exact ⟨a, b, by rw [e0, e1]⟩

theorem acts_open {H : Type} {enc : TypeId × Value → H} {w : World} {v : Value} {d : DataW H} {p : List MemPlace} (hok : Value.okWide Try.prog w .any 0 34 v) (h : DataW.Trod enc Try.prog w 0 (fun _ => true) true 34 v d p) :
    ∃ l : List (Int × Int), Rd w 2 v l.length (actCells l) := by
  obtain ⟨a, len, cap, rfl⟩ := okWide_slice Try.underlying34 hok
  obtain ⟨fuel, hf⟩ := h
  obtain ⟨v, rows, hv, hr, hall⟩ := open_rows Try.underlying34 (size := 2) (by kernel_rfl) (by decide) hf
  simp [Value.cells] at hv
  subst hv
  have key : ∀ rows : List (List Value), (∀ r ∈ rows, ∃ a b : Int, r = [.int .i64 a, .int .i64 b]) → ∃ l : List (Int × Int), l.length = rows.length ∧ rows.flatten = actCells l := by
    intro rows
    induction rows with
    | nil => exact fun _ => ⟨[], rfl, rfl⟩
    | cons r rows ih =>
      intro h
      obtain ⟨l, h1, h2⟩ := ih (fun r hr => h r (by simp [hr]))
      obtain ⟨a, b, rfl⟩ := h r (by simp)
      exact ⟨(a, b) :: l, by simp [h1], by simp [h2, actCells]⟩
  obtain ⟨l, h1, h2⟩ := key rows (fun r hr => by obtain ⟨hl, n, y, hy⟩ := hall r hr; exact act_row hy hl)
  refine ⟨l, ?_⟩
  rw [h1, ← h2]
  exact hr

theorem batchPlays_row {H : Type} {enc : TypeId × Value → H} (a0 a1 : Int) (v2 : Value) {d2 : DataW H} {p2 : List MemPlace} {base : Nat} (w : World) (w0 : (Lit.int .i64 a0).wf = true) (w1 : (Lit.int .i64 a1).wf = true) (hok : Value.okWide Try.prog w .any base 34 v2) (h : DataW.Trod enc Try.prog w 0 (fun _ => true) true 34 v2 d2 p2) :
    Calls Try.prog 4 #[.int .i64 a0, .int .i64 a1, v2] w fun e w' => e = .returned (.bool true) ∧ Below w.heap.size w w' := by
  obtain ⟨l, hl⟩ := acts_open hok h
  exact plays_any a0 a1 v2 _ l w hl rfl
end Go.Proofs.Ytnchmnkiokofhaa
