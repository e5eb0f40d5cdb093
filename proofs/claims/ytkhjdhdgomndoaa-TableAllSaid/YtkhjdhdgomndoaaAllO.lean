/- The walk of TableAll at an argument as it is read. -/
import Derived.Test.YtkhjdhdgomndoaaAllR
import Derived.Test.YtkhjdhdgomndoaaOpen2
namespace Go.Proofs.Ytkhjdhdgomndoaa
open Go.RowKit Go.Shelf Go.XL Go.ChangeShapes Go.WideShapes Go.ChangeAt
set_option linter.unusedVariables false
set_option linter.unusedSimpArgs false
theorem tableAll_row {H : Type} {enc : TypeId × Value → H} (v0 : Value) {d0 : DataW H} {p0 : List MemPlace} {base : Nat} (b : Int) (w : World) (hok : Value.okWide Try.prog w .any base 41 v0) (h : DataW.Trod enc Try.prog w 0 (fun _ => true) true 41 v0 d0 p0) (hb : (Lit.int .u8 b).wf = true) :
    Calls Try.prog 5 #[v0, .int .u8 b] w fun e w' => e = .returned (.bool true) ∧ Below w.heap.size w w' := by
  obtain ⟨zs, hz, hw⟩ := ints_open (k := .u16) Try.underlying41 Try.underlying42 (by kernel_rfl) hok h
  refine (all_any _ zs _ b w hz (fun x hx => bounds_u16 (hw x hx)) (bounds_u8 hb).1 (bounds_u8 hb).2).mono ?_
  rintro e w' ⟨he, hf⟩
  exact ⟨he, hf.below⟩
end Go.Proofs.Ytkhjdhdgomndoaa
