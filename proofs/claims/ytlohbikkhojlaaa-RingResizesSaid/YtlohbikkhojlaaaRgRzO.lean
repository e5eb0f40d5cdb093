/- The walk of RingResizes at arguments as they are read. -/
import Derived.Test.YtlohbikkhojlaaaRgRz
import Derived.Test.YtlohbikkhojlaaaOpen2
namespace Go.Proofs.Ytlohbikkhojlaaa
open Go.RowKit Go.Shelf Go.XL Go.ChangeShapes Go.WideShapes Go.ChangeAt
set_option linter.unusedVariables false
set_option linter.unusedSimpArgs false
set_option maxRecDepth 100000 in
theorem ringResizes_row {H : Type} {enc : TypeId × Value → H} (v0 v1 : Value) {d0 d1 : DataW H} {p0 p1 : List MemPlace} {base : Nat} (w : World) (hok0 : Value.okWide Try.prog w .any base 22 v0) (h0 : DataW.Trod enc Try.prog w 0 (fun _ => true) true 22 v0 d0 p0)
    (hok1 : Value.okWide Try.prog w .any base 22 v1) (h1 : DataW.Trod enc Try.prog w 0 (fun _ => true) true 22 v1 d1 p1) :
    Calls Try.prog 5 #[v0, v1] w fun e w' => e = .returned (.bool true) ∧ Below w.heap.size w w' := by
  obtain ⟨zs, hz, hw⟩ := ints_open (k := .u8) Try.underlying22 Try.underlying5 (by kernel_rfl) hok0 h0
  obtain ⟨ys, hy, hv⟩ := ints_open (k := .u8) Try.underlying22 Try.underlying5 (by kernel_rfl) hok1 h1
  refine (ringResizes_any v0 v1 w zs ys hz (fun x hx => bounds_u8 (hw x hx)) hy (fun x hx => bounds_u8 (hv x hx))).mono ?_
  rintro e w' ⟨he, hf⟩
  exact ⟨he, hf.below⟩
end Go.Proofs.Ytlohbikkhojlaaa
