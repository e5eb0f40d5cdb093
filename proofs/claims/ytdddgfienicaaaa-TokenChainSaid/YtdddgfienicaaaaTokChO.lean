/- The walk of TokenChain at arguments as they are read. -/
import Derived.Test.YtdddgfienicaaaaTokChR
import Derived.Test.YtdddgfienicaaaaOpen2
namespace Go.Proofs.Ytdddgfienicaaaa
open Go.RowKit Go.Shelf Go.XL Go.ChangeShapes Go.WideShapes Go.ChangeAt
set_option linter.unusedVariables false
set_option linter.unusedSimpArgs false
theorem tokenChain_row {H : Type} {enc : TypeId × Value → H} (a : Int) (v0 : Value) {d0 : DataW H} {p0 : List MemPlace} {base : Nat} (w : World) (ha : (Lit.int .u8 a).wf = true) (hok : Value.okWide Try.prog w .any base 62 v0) (h : DataW.Trod enc Try.prog w 0 (fun _ => true) true 62 v0 d0 p0) :
    Calls Try.prog 5 #[.int .u8 a, v0] w fun e w' => e = .returned (.bool true) ∧ Below w.heap.size w w' := by
  obtain ⟨zs, hz, hw⟩ := ints_open (k := .u8) Try.underlying62 Try.underlying5 (by kernel_rfl) hok h
  refine (tokenChain_any a (bounds_u8 ha).1 (bounds_u8 ha).2 v0 w zs hz (fun x hx => bounds_u8 (hw x hx))).mono ?_
  rintro e w' ⟨he, hf⟩
  exact ⟨he, hf.below⟩
end Go.Proofs.Ytdddgfienicaaaa
