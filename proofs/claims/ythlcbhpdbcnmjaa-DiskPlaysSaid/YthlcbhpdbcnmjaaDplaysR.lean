/- The walk of DiskPlays at arguments as they are read. -/
import Derived.Test.YthlcbhpdbcnmjaaDplaysW
import Derived.Test.YthlcbhpdbcnmjaaOpen
import Derived.Deep.Strs
namespace Go.Proofs.Ythlcbhpdbcnmjaa
open Go.RowKit Go.Shelf Go.XL Go.ChangeShapes Go.WideShapes Go.ChangeAt
set_option linter.unusedVariables false
set_option linter.unusedSimpArgs false

theorem act_row {H : Type} {enc : TypeId × Value → H} {w : World} {base : Nat} {spare : Nat → Bool} {held : Bool} {n : Nat} {cs : List Value} {y : DataW H × List MemPlace} (h : DataW.trod enc Try.prog w base spare held n 33 cs = some y) (hl : cs.length = 3) :
    ∃ (a b : Int) (s : ByteArray), cs = [.int .i64 a, .int .i64 b, .string s] ∧ s.size ≤ Go.maxLen ∧ -9223372036854775808 ≤ b ∧ b ≤ 9223372036854775807 := by
  obtain ⟨y0, y1, y2, m, _, _, h0, h1, h2⟩ := Go.Deep.trod_struct3 Try.underlying33 h
  obtain ⟨c0, c1, c2, rfl⟩ : ∃ c0 c1 c2, cs = [c0, c1, c2] := by
    match cs, hl with
    | [c0, c1, c2], _ => exact ⟨c0, c1, c2, rfl⟩
  have e : Try.prog.cellsOf 3 = 1 := by kernel_rfl
  have e' : Try.prog.cellsOf 9 = 1 := by kernel_rfl
  simp only [e, e'] at h0 h1 h2
  obtain ⟨a, e0, _, _⟩ := DataW.trod_int Try.underlying3 h0
  obtain ⟨b, e1, _, hb⟩ := DataW.trod_int Try.underlying3 h1
  obtain ⟨s, e2, _, hs⟩ := DataW.trod_string Try.underlying9 h2
  simp at e0 e1 e2
  exact ⟨a, b, s, by rw [e0, e1, e2], hs, bounds_i64 hb⟩

theorem acts_open {H : Type} {enc : TypeId × Value → H} {w : World} {v : Value} {d : DataW H} {p : List MemPlace} {base base' : Nat} {spare : Nat → Bool} {held : Bool} (hok : Value.okWide Try.prog w .any base' 22 v) (h : DataW.Trod enc Try.prog w base spare held 22 v d p) :
    ∃ l : List (Int × Int × ByteArray), Rd w 3 v l.length (actCells l) ∧ ∀ x ∈ l, x.2.2.size ≤ Go.maxLen ∧ -9223372036854775808 ≤ x.2.1 ∧ x.2.1 ≤ 9223372036854775807 := by
  obtain ⟨a, len, cap, rfl⟩ := okWide_slice Try.underlying22 hok
  obtain ⟨fuel, hf⟩ := h
  obtain ⟨v, rows, hv, hr, hall⟩ := open_rows Try.underlying22 (size := 3) (by kernel_rfl) (by decide) hf
  simp [Value.cells] at hv
  subst hv
  have key : ∀ rows : List (List Value), (∀ r ∈ rows, ∃ (a b : Int) (s : ByteArray), r = [.int .i64 a, .int .i64 b, .string s] ∧ s.size ≤ Go.maxLen ∧ -9223372036854775808 ≤ b ∧ b ≤ 9223372036854775807) →
      ∃ l : List (Int × Int × ByteArray), l.length = rows.length ∧ rows.flatten = actCells l ∧ ∀ x ∈ l, x.2.2.size ≤ Go.maxLen ∧ -9223372036854775808 ≤ x.2.1 ∧ x.2.1 ≤ 9223372036854775807 := by
    intro rows
    induction rows with
    | nil => exact fun _ => ⟨[], rfl, rfl, by simp⟩
    | cons r rows ih =>
      intro h
      obtain ⟨l, h1, h2, h3⟩ := ih (fun r hr => h r (by simp [hr]))
      obtain ⟨a, b, s, rfl, h4⟩ := h r (by simp)
      refine ⟨(a, b, s) :: l, by simp [h1], by simp [h2, actCells], fun x hx => ?_⟩
      rcases List.mem_cons.1 hx with rfl | hx
      · exact h4
      · exact h3 x hx
  obtain ⟨l, h1, h2, h3⟩ := key rows (fun r hr => by obtain ⟨hl, n, y, hy⟩ := hall r hr; exact act_row hy hl)
  refine ⟨l, ?_, h3⟩
  rw [h1, ← h2]
  exact hr

theorem diskPlays_row {H : Type} {enc : TypeId × Value → H} {base : Nat} {spare : Nat → Bool} {held : Bool} {d : DataW H} {p : List MemPlace} {base' : Nat} (a : Int) (v : Value) (w : World) (ha : (Lit.int .i64 a).wf = true)
    (hok : Value.okWide Try.prog w .any base' 22 v) (h : DataW.Trod enc Try.prog w base spare held 22 v d p) :
    Calls Try.prog 3 #[.int .i64 a, v] w fun e w' => e = .returned (.bool true) ∧ Below w.heap.size w w' := by
  obtain ⟨l, hl, hz⟩ := acts_open hok h
  refine (dplays_any a v l w (bounds_i64 ha).1 (bounds_i64 ha).2 hl hz).mono ?_
  rintro e w' ⟨he, hf⟩
  exact ⟨he, hf.below⟩
end Go.Proofs.Ythlcbhpdbcnmjaa
