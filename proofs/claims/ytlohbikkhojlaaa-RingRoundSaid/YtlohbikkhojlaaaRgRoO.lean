/- The walk of RingRound at arguments as they are read. -/
import Derived.Test.YtlohbikkhojlaaaRgRo
import Derived.Test.YtlohbikkhojlaaaOpen2
namespace Go.Proofs.Ytlohbikkhojlaaa
open Go.RowKit Go.Shelf Go.XL Go.ChangeShapes Go.WideShapes Go.ChangeAt
set_option linter.unusedVariables false
set_option linter.unusedSimpArgs false
set_option maxRecDepth 100000 in
theorem ringRound_row {H : Type} {enc : TypeId × Value → H} (a : Int) (v0 : Value) {d0 : DataW H} {p0 : List MemPlace} {base : Nat} (w : World) (ha : (Lit.int .u8 a).wf = true) (hok : Value.okWide Try.prog w .any base 22 v0) (h : DataW.Trod enc Try.prog w 0 (fun _ => true) true 22 v0 d0 p0) :
    Calls Try.prog 3 #[.int .u8 a, v0] w fun e w' => e = .returned (.bool true) ∧ Below w.heap.size w w' := by
  obtain ⟨zs, hz, hw⟩ := ints_open (k := .u8) Try.underlying22 Try.underlying5 (by kernel_rfl) hok h
  refine (ringRound_any a (bounds_u8 ha).1 (bounds_u8 ha).2 v0 w zs hz (fun x hx => bounds_u8 (hw x hx))).mono ?_
  rintro e w' ⟨he, hf⟩
  exact ⟨he, hf.below⟩
end Go.Proofs.Ytlohbikkhojlaaa
