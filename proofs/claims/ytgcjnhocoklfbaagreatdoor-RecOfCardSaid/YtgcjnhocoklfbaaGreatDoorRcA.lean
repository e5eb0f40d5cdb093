/- Records as arguments; the law's Of and Few. -/
import Derived.Test.YtgcjnhocoklfbaaGreatDoorOpen2
import Derived.Test.YtgcjnhocoklfbaaGreatDoorRc7
namespace Go.Proofs.YtgcjnhocoklfbaaGreatDoor
open Go.RowKit Go.Shelf Go.XL Go.ChangeShapes Go.WideShapes Go.ChangeAt
set_option linter.unusedVariables false
set_option linter.unusedSimpArgs false
section
variable {H : Type} {enc : TypeId × Value → H} {w : World} {base : Nat} {spare : Nat → Bool} {held : Bool}
theorem cellsOf_int : Tryz.prog.cellsOf 3 = 1 := by kernel_rfl
theorem cellsOf_vec : Tryz.prog.cellsOf 23 = 1 := by kernel_rfl
theorem cellsOf_str : Tryz.prog.cellsOf 9 = 1 := by kernel_rfl
theorem cellsOf_rec : Tryz.prog.cellsOf 25 = 5 := by kernel_rfl
theorem len5 {cs : List Value} (h : cs.length = 5) : ∃ a b c d e, cs = [a, b, c, d, e] := by
  match cs, h with
  | [a, b, c, d, e], _ => exact ⟨a, b, c, d, e, rfl⟩
/-- what an argument's record is known to be -/
def RcArg (w : World) (r : Rc) : Prop := RcOk w r ∧ I64s r.dep ∧ (-9223372036854775808 ≤ r.s ∧ r.s ≤ 9223372036854775807) ∧ (-9223372036854775808 ≤ r.q ∧ r.q ≤ 9223372036854775807)
theorem rec_open {fuel : Nat} {cs : List Value} {x : DataW H × List MemPlace} (h : DataW.trod enc Tryz.prog w base spare held fuel 25 cs = some x) : ∃ r : Rc, cs = r.cs ∧ RcArg w r := by
  obtain ⟨xs, n, _, _, hl, hlen, hf⟩ := DataW.trod_struct Tryz.underlying25 h
  rw [cellsOf_rec] at hl
  obtain ⟨a, b, c, d, e, rfl⟩ := len5 hl
  have f0 : DataW.trod enc Tryz.prog w base spare held n 3 ((([a, b, c, d, e] : List Value).drop 0).take (Tryz.prog.cellsOf 3)) = xs[0]? := hf 0 _ rfl
  have f1 : DataW.trod enc Tryz.prog w base spare held n 3 ((([a, b, c, d, e] : List Value).drop 1).take (Tryz.prog.cellsOf 3)) = xs[1]? := hf 1 _ rfl
  have f2 : DataW.trod enc Tryz.prog w base spare held n 23 ((([a, b, c, d, e] : List Value).drop 2).take (Tryz.prog.cellsOf 23)) = xs[2]? := hf 2 _ rfl
  have f3 : DataW.trod enc Tryz.prog w base spare held n 9 ((([a, b, c, d, e] : List Value).drop 3).take (Tryz.prog.cellsOf 9)) = xs[3]? := hf 3 _ rfl
  have f4 : DataW.trod enc Tryz.prog w base spare held n 9 ((([a, b, c, d, e] : List Value).drop 4).take (Tryz.prog.cellsOf 9)) = xs[4]? := hf 4 _ rfl
  have hx : ∀ i, i < 5 → ∃ y, xs[i]? = some y := fun i hi => ⟨xs[i]'(by rw [hlen]; exact hi), by simp⟩
  obtain ⟨y0, h0⟩ := hx 0 (by decide)
  obtain ⟨y1, h1⟩ := hx 1 (by decide)
  obtain ⟨y2, h2⟩ := hx 2 (by decide)
  obtain ⟨y3, h3⟩ := hx 3 (by decide)
  obtain ⟨y4, h4⟩ := hx 4 (by decide)
  rw [h0] at f0
  rw [h1] at f1
  rw [h2] at f2
  rw [h3] at f3
  rw [h4] at f4
  rw [cellsOf_int] at f0 f1
  rw [cellsOf_vec] at f2
  rw [cellsOf_str] at f3 f4
  obtain ⟨s, e0, _, g0⟩ := DataW.trod_int Tryz.underlying3 f0
  obtain ⟨q, e1, _, g1⟩ := DataW.trod_int Tryz.underlying3 f1
  obtain ⟨v, zs, e2, hr, hz⟩ := open_ints_cells Tryz.underlying23 Tryz.underlying3 cellsOf_int f2
  obtain ⟨k, e3, _, _⟩ := DataW.trod_string Tryz.underlying9 f3
  obtain ⟨u, e4, _, _⟩ := DataW.trod_string Tryz.underlying9 f4
  simp at e0 e1 e2 e3 e4
  subst e0; subst e1; subst e2; subst e3; subst e4
  exact ⟨⟨s, q, _, zs, k, u⟩, rfl, hr, fun x hx => bounds_i64 (hz x hx), bounds_i64 g0, bounds_i64 g1⟩
set_option maxRecDepth 100000 in
theorem recv_open {v : Value} {d : DataW H} {p : List MemPlace} {base' : Nat} (hok : Value.okWide Tryz.prog w .any base' 25 v) (h : DataW.Trod enc Tryz.prog w base spare held 25 v d p) : ∃ r : Rc, v = r.v ∧ RcArg w r := by
  obtain ⟨cs, rfl, hsz⟩ := okWide_struct Tryz.underlying25 hok
  obtain ⟨fuel, hf'⟩ := h
  simp only [Value.cells] at hf'
  obtain ⟨r, hr, hx⟩ := rec_open hf'
  refine ⟨r, ?_, hx⟩
  rw [← Array.toArray_toList (xs := cs), hr]
  rfl
set_option maxRecDepth 100000 in
theorem recs_open {v : Value} {d : DataW H} {p : List MemPlace} {base' : Nat} (hok : Value.okWide Tryz.prog w .any base' 41 v) (h : DataW.Trod enc Tryz.prog w base spare held 41 v d p) : ∃ l : List Rc, RcsAt w v l ∧ ∀ r ∈ l, RcArg w r := by
  obtain ⟨a, len, cap, rfl⟩ := okWide_slice Tryz.underlying41 hok
  obtain ⟨fuel, hf⟩ := h
  obtain ⟨v, rows, hv, hr, hall⟩ := open_rows Tryz.underlying41 cellsOf_rec (by decide) hf
  simp [Value.cells] at hv
  subst hv
  have key : ∀ rows : List (List Value), (∀ r ∈ rows, ∃ y : Rc, r = y.cs ∧ RcArg w y) → ∃ l : List Rc, l.length = rows.length ∧ rows.flatten = rcCells l ∧ ∀ r ∈ l, RcArg w r := by
    intro rows
    induction rows with
    | nil => exact fun _ => ⟨[], rfl, rfl, by intro x hx; cases hx⟩
    | cons r rows ih =>
      intro h
      obtain ⟨l, h1, h2, h3⟩ := ih (fun r hr => h r (by simp [hr]))
      obtain ⟨y, rfl, hy⟩ := h r (by simp)
      refine ⟨y :: l, by simp [h1], by rw [List.flatten_cons, h2]; rfl, fun x hx => ?_⟩
      rcases List.mem_cons.1 hx with rfl | hx
      · exact hy
      · exact h3 x hx
  obtain ⟨l, h1, h2, h3⟩ := key rows (fun r hr => by
    obtain ⟨hl, n, y, hy⟩ := hall r hr
    exact rec_open hy)
  refine ⟨l, ?_, h3⟩
  show Rd w 5 _ l.length (rcCells l)
  rw [h1, ← h2]
  exact hr
end
attribute [local go_sem] Oper.semAt_some
theorem l2Of (s q : Int) (dO : Option Addr) (dn dc : Nat) (key val : ByteArray) (w : World) :
    Calls Tryz.prog 12 #[.agg #[.int .i64 s, .int .i64 q, .slice dO dn dc, .string key, .string val]] w fun e w' => e = .returned (.agg #[.int .i64 s, .int .i64 q, .slice dO dn dc, .string key, .string val]) ∧ Fr no w w' := by
  have hf : ∀ c c', Fr no w ((w.alloc c).alloc c') := fun c c' => ((Fr.refl no w).alloc _).alloc _
  have HF := Lib.hid hf
  clear hf
  go_enter Tryz.func12, Tryz.ntmps12
  go_wp2
  refine bodyPost_ret (v := .agg #[.int .i64 s, .int .i64 q, .slice dO dn dc, .string key, .string val]) ?_ rfl ⟨rfl, HF.out _ _⟩
  have hb := World.alloc_heap_new (w.alloc (.cells #[.int .i64 s, .int .i64 q, .slice dO dn dc, .string key, .string val] 25)) (.cells #[.int .i64 s, .int .i64 q, .slice dO dn dc, .string key, .string val] 29)
  rw [World.size_alloc] at hb
  have y0 := cell_of_block (j := 0) hb rfl
  have y1 := cell_of_block (j := 1) hb rfl
  have y2 := cell_of_block (j := 2) hb rfl
  have y3 := cell_of_block (j := 3) hb rfl
  have y4 := cell_of_block (j := 4) hb rfl
  clear hb
  simp [results, Tryz.results12, go_sem, y0, y1, y2, y3, y4]

theorem l2FewD (s q : Int) (dO : Option Addr) (dn dc : Nat) (key val : ByteArray) (w : World) (b : Bool) (hb : (decide (dn ≤ 70) && decide (key.size ≤ 50) && decide (val.size ≤ 50)) = b) :
    Calls Tryz.prog 11 #[.agg #[.int .i64 s, .int .i64 q, .slice dO dn dc, .string key, .string val]] w fun e w' => e = .returned (.bool b) ∧ Fr no w w' := by
  have hf : ∀ c, Fr no w (w.alloc c) := fun c => (Fr.refl no w).alloc _
  have HF := Lib.hid hf
  clear hf
  by_cases h1 : dn ≤ 70
  · by_cases h2 : key.size ≤ 50
    · by_cases h3 : val.size ≤ 50
      · obtain rfl : true = b := by rw [← hb]; simp [h1, h2, h3]
        go_enter Tryz.func11, Tryz.ntmps11
        go_wp2
        go_ret
        first | exact ⟨rfl, HF.out _⟩ | (refine ⟨?_, HF.out _⟩; simp; omega)
      · obtain rfl : false = b := by rw [← hb]; simp [h1, h2, h3]
        go_enter Tryz.func11, Tryz.ntmps11
        go_wp2
        go_ret
        first | exact ⟨rfl, HF.out _⟩ | (refine ⟨?_, HF.out _⟩; simp; omega)
    · obtain rfl : false = b := by rw [← hb]; simp [h1, h2]
      go_enter Tryz.func11, Tryz.ntmps11
      go_wp2
      go_ret
      first | exact ⟨rfl, HF.out _⟩ | (refine ⟨?_, HF.out _⟩; simp; omega)
  · obtain rfl : false = b := by rw [← hb]; simp [h1]
    go_enter Tryz.func11, Tryz.ntmps11
    go_wp2
    go_ret
    first | exact ⟨rfl, HF.out _⟩ | (refine ⟨?_, HF.out _⟩; simp; omega)

def _root_.Go.XL.Rc.few (r : Rc) : Bool := decide (r.dep.length ≤ 70) && decide (r.key.size ≤ 50) && decide (r.val.size ≤ 50)
theorem law_of (r : Rc) (w : World) (hr : RcOk w r) : Calls Tryz.prog 12 #[r.v] w fun e w' => e = .returned r.v ∧ Fr no w w' := by
  obtain ⟨s, q, dv, dep, key, val⟩ := r
  obtain ⟨dO, dc, hdv, _, _⟩ := Rd.cap hr
  dsimp only at hdv
  subst hdv
  exact l2Of s q dO dep.length dc key val w
theorem law_few (r : Rc) (w : World) (hr : RcOk w r) : Calls Tryz.prog 11 #[r.v] w fun e w' => e = .returned (.bool r.few) ∧ Fr no w w' := by
  obtain ⟨s, q, dv, dep, key, val⟩ := r
  obtain ⟨dO, dc, hdv, _, _⟩ := Rd.cap hr
  dsimp only at hdv
  subst hdv
  exact l2FewD s q dO dep.length dc key val w _ rfl
end Go.Proofs.YtgcjnhocoklfbaaGreatDoor
