/- Arguments opened: records, drafts, tokens. -/
import Derived.Test.YtdddgfienicaaaaOpen2
import Derived.Test.YtdddgfienicaaaaTok3
namespace Go.Proofs.Ytdddgfienicaaaa
open Go.RowKit Go.Shelf Go.XL Go.ChangeShapes Go.WideShapes Go.ChangeAt
set_option linter.unusedVariables false
set_option linter.unusedSimpArgs false
variable {H : Type} {enc : TypeId × Value → H} {w : World} {base : Nat} {spare : Nat → Bool} {held : Bool}
theorem cellsOf_int : Try.prog.cellsOf 3 = 1 := by kernel_rfl
theorem cellsOf_vec : Try.prog.cellsOf 23 = 1 := by kernel_rfl
theorem cellsOf_str : Try.prog.cellsOf 9 = 1 := by kernel_rfl
theorem cellsOf_rec : Try.prog.cellsOf 39 = 5 := by kernel_rfl
theorem cellsOf_draft : Try.prog.cellsOf 41 = 6 := by kernel_rfl
theorem cellsOf_drafts : Try.prog.cellsOf 24 = 1 := by kernel_rfl
theorem cellsOf_token : Try.prog.cellsOf 26 = 4 := by kernel_rfl
theorem len5 {cs : List Value} (h : cs.length = 5) : ∃ a b c d e, cs = [a, b, c, d, e] := by
  match cs, h with
  | [a, b, c, d, e], _ => exact ⟨a, b, c, d, e, rfl⟩
theorem len6 {cs : List Value} (h : cs.length = 6) : ∃ a b c d e f, cs = [a, b, c, d, e, f] := by
  match cs, h with
  | [a, b, c, d, e, f], _ => exact ⟨a, b, c, d, e, f, rfl⟩
theorem len4 {cs : List Value} (h : cs.length = 4) : ∃ a b c d, cs = [a, b, c, d] := by
  match cs, h with
  | [a, b, c, d], _ => exact ⟨a, b, c, d, rfl⟩
theorem rec_open {fuel : Nat} {cs : List Value} {x : DataW H × List MemPlace} (h : DataW.trod enc Try.prog w base spare held fuel 39 cs = some x) :
    ∃ (s q : Int) (dv : Value) (dep : List Int) (key val : ByteArray), cs = [.int .i64 s, .int .i64 q, dv, .string key, .string val] ∧ Rd w 1 dv dep.length (dep.map (Value.int .i64)) := by
  obtain ⟨xs, n, _, _, hl, hlen, hf⟩ := DataW.trod_struct Try.underlying39 h
  rw [cellsOf_rec] at hl
  obtain ⟨a, b, c, d, e, rfl⟩ := len5 hl
  have f0 : DataW.trod enc Try.prog w base spare held n 3 ((([a, b, c, d, e] : List Value).drop 0).take (Try.prog.cellsOf 3)) = xs[0]? := hf 0 _ rfl
  have f1 : DataW.trod enc Try.prog w base spare held n 3 ((([a, b, c, d, e] : List Value).drop 1).take (Try.prog.cellsOf 3)) = xs[1]? := hf 1 _ rfl
  have f2 : DataW.trod enc Try.prog w base spare held n 23 ((([a, b, c, d, e] : List Value).drop 2).take (Try.prog.cellsOf 23)) = xs[2]? := hf 2 _ rfl
  have f3 : DataW.trod enc Try.prog w base spare held n 9 ((([a, b, c, d, e] : List Value).drop 3).take (Try.prog.cellsOf 9)) = xs[3]? := hf 3 _ rfl
  have f4 : DataW.trod enc Try.prog w base spare held n 9 ((([a, b, c, d, e] : List Value).drop 4).take (Try.prog.cellsOf 9)) = xs[4]? := hf 4 _ rfl
  have hx : ∀ i, i < 5 → ∃ y, xs[i]? = some y := fun i hi => ⟨xs[i]'(by rw [hlen]; exact hi), by simp⟩
  obtain ⟨y0, h0⟩ := hx 0 (by decide)
  obtain ⟨y1, h1⟩ := hx 1 (by decide)
  obtain ⟨y2, h2⟩ := hx 2 (by decide)
  obtain ⟨y3, h3⟩ := hx 3 (by decide)
  obtain ⟨y4, h4⟩ := hx 4 (by decide)
  rw [h0] at f0
  rw [h1] at f1
  rw [h2] at f2
  rw [h3] at f3
  rw [h4] at f4
  rw [cellsOf_int] at f0 f1
  rw [cellsOf_vec] at f2
  rw [cellsOf_str] at f3 f4
  obtain ⟨s, e0, _, _⟩ := DataW.trod_int Try.underlying3 f0
  obtain ⟨q, e1, _, _⟩ := DataW.trod_int Try.underlying3 f1
  obtain ⟨v, zs, e2, hr, _⟩ := open_ints_cells Try.underlying23 Try.underlying3 cellsOf_int f2
  obtain ⟨k, e3, _, _⟩ := DataW.trod_string Try.underlying9 f3
  obtain ⟨u, e4, _, _⟩ := DataW.trod_string Try.underlying9 f4
  simp at e0 e1 e2 e3 e4
  subst e0; subst e1; subst e2; subst e3; subst e4
  exact ⟨s, q, _, zs, k, u, rfl, hr⟩
theorem draft_open {fuel : Nat} {cs : List Value} {x : DataW H × List MemPlace} (h : DataW.trod enc Try.prog w base spare held fuel 41 cs = some x) : ∃ d : Dr, cs = d.cs ∧ DrOk w d := by
  obtain ⟨xs, n, _, _, hl, hlen, hf⟩ := DataW.trod_struct Try.underlying41 h
  rw [cellsOf_draft] at hl
  obtain ⟨a, b, c, d, e, f, rfl⟩ := len6 hl
  have f0 : DataW.trod enc Try.prog w base spare held n 3 ((([a, b, c, d, e, f] : List Value).drop 0).take (Try.prog.cellsOf 3)) = xs[0]? := hf 0 _ rfl
  have f1 : DataW.trod enc Try.prog w base spare held n 39 ((([a, b, c, d, e, f] : List Value).drop 1).take (Try.prog.cellsOf 39)) = xs[1]? := hf 1 _ rfl
  have hx : ∀ i, i < 2 → ∃ y, xs[i]? = some y := fun i hi => ⟨xs[i]'(by rw [hlen]; exact hi), by simp⟩
  obtain ⟨y0, h0⟩ := hx 0 (by decide)
  obtain ⟨y1, h1⟩ := hx 1 (by decide)
  rw [h0] at f0
  rw [h1] at f1
  rw [cellsOf_int] at f0
  rw [cellsOf_rec] at f1
  obtain ⟨t, e0, _, _⟩ := DataW.trod_int Try.underlying3 f0
  obtain ⟨s, q, dv, dep, key, val, e1, hr⟩ := rec_open f1
  simp at e0 e1
  obtain ⟨r1, r2, r3, r4, r5⟩ := e1
  subst e0; subst r1; subst r2; subst r3; subst r4; subst r5
  exact ⟨⟨t, s, q, _, dep, key, val⟩, rfl, hr⟩
theorem drafts_cells {fuel : Nat} {cs : List Value} {x : DataW H × List MemPlace} (h : DataW.trod enc Try.prog w base spare held fuel 24 cs = some x) : ∃ (v : Value) (l : List Dr), cs = [v] ∧ DrsAt w v l ∧ ∀ d ∈ l, DrOk w d := by
  obtain ⟨v, rows, hv, hr, hall⟩ := open_rows Try.underlying24 cellsOf_draft (by decide) h
  have key : ∀ rows : List (List Value), (∀ r ∈ rows, ∃ d : Dr, r = d.cs ∧ DrOk w d) → ∃ l : List Dr, l.length = rows.length ∧ rows.flatten = drCells l ∧ ∀ d ∈ l, DrOk w d := by
    intro rows
    induction rows with
    | nil => exact fun _ => ⟨[], rfl, rfl, by simp⟩
    | cons r rows ih =>
      intro h
      obtain ⟨l, h1, h2, h3⟩ := ih (fun r hr => h r (by simp [hr]))
      obtain ⟨d, rfl, hd⟩ := h r (by simp)
      refine ⟨d :: l, by simp [h1], by rw [List.flatten_cons, h2]; rfl, fun x hx => ?_⟩
      rcases List.mem_cons.1 hx with rfl | hx
      · exact hd
      · exact h3 x hx
  obtain ⟨l, h1, h2, h3⟩ := key rows (fun r hr => by
    obtain ⟨hl, n, y, hy⟩ := hall r hr
    exact draft_open hy)
  refine ⟨v, l, hv, ?_, h3⟩
  show Rd w 6 v l.length (drCells l)
  rw [h1, ← h2]
  exact hr
theorem drafts_open {v : Value} {d : DataW H} {p : List MemPlace} {base' : Nat} (hok : Value.okWide Try.prog w .any base' 24 v) (h : DataW.Trod enc Try.prog w base spare held 24 v d p) : ∃ l : List Dr, DrsAt w v l ∧ ∀ d ∈ l, DrOk w d := by
  obtain ⟨a, len, cap, rfl⟩ := okWide_slice Try.underlying24 hok
  obtain ⟨fuel, hf⟩ := h
  obtain ⟨v, zs, hv, hr, hw⟩ := drafts_cells hf
  simp [Value.cells] at hv
  subst hv
  exact ⟨zs, hr, hw⟩
theorem token_open {v : Value} {d : DataW H} {p : List MemPlace} {base' : Nat} (hok : Value.okWide Try.prog w .any base' 26 v) (h : DataW.Trod enc Try.prog w base spare held 26 v d p) :
    ∃ (own next : Int) (sv lv : Value) (seen : List Int) (late : List Dr), v = tkV own next sv lv ∧ IntsAt w sv seen ∧ DrsAt w lv late ∧ ∀ d ∈ late, DrOk w d := by
  obtain ⟨cs, rfl, hsz⟩ := okWide_struct Try.underlying26 hok
  obtain ⟨fuel, hf'⟩ := h
  simp only [Value.cells] at hf'
  obtain ⟨xs, n, _, _, hl, hlen, hf⟩ := DataW.trod_struct Try.underlying26 hf'
  rw [cellsOf_token] at hl
  obtain ⟨a, b, c, e, hcs⟩ := len4 hl
  have f0 : DataW.trod enc Try.prog w base spare held n 3 ((cs.toList.drop 0).take (Try.prog.cellsOf 3)) = xs[0]? := hf 0 _ rfl
  have f1 : DataW.trod enc Try.prog w base spare held n 3 ((cs.toList.drop 1).take (Try.prog.cellsOf 3)) = xs[1]? := hf 1 _ rfl
  have f2 : DataW.trod enc Try.prog w base spare held n 23 ((cs.toList.drop 2).take (Try.prog.cellsOf 23)) = xs[2]? := hf 2 _ rfl
  have f3 : DataW.trod enc Try.prog w base spare held n 24 ((cs.toList.drop 3).take (Try.prog.cellsOf 24)) = xs[3]? := hf 3 _ rfl
  have hx : ∀ i, i < 4 → ∃ y, xs[i]? = some y := fun i hi => ⟨xs[i]'(by rw [hlen]; exact hi), by simp⟩
  obtain ⟨y0, h0⟩ := hx 0 (by decide)
  obtain ⟨y1, h1⟩ := hx 1 (by decide)
  obtain ⟨y2, h2⟩ := hx 2 (by decide)
  obtain ⟨y3, h3⟩ := hx 3 (by decide)
  rw [h0] at f0
  rw [h1] at f1
  rw [h2] at f2
  rw [h3] at f3
  rw [cellsOf_int] at f0 f1
  rw [cellsOf_vec] at f2
  rw [cellsOf_drafts] at f3
  rw [hcs] at f0 f1 f2 f3
  obtain ⟨s, e0, _, _⟩ := DataW.trod_int Try.underlying3 f0
  obtain ⟨q, e1, _, _⟩ := DataW.trod_int Try.underlying3 f1
  obtain ⟨v, zs, e2, hr, _⟩ := open_ints_cells Try.underlying23 Try.underlying3 cellsOf_int f2
  obtain ⟨u, l, e3, hlr, hld⟩ := drafts_cells f3
  simp at e0 e1 e2 e3
  subst e0; subst e1; subst e2; subst e3
  refine ⟨s, q, _, _, zs, l, ?_, hr, hlr, hld⟩
  unfold tkV
  rw [← Array.toArray_toList (xs := cs), hcs]
end Go.Proofs.Ytdddgfienicaaaa
