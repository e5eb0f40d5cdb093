/- The walk of TokenOwn at an argument as it is read. -/
import Derived.Test.YtdddgfienicaaaaTokOwnR
import Derived.Test.YtdddgfienicaaaaOpen5
namespace Go.Proofs.Ytdddgfienicaaaa
open Go.RowKit Go.Shelf Go.XL Go.ChangeShapes Go.WideShapes Go.ChangeAt
set_option linter.unusedVariables false
set_option linter.unusedSimpArgs false
theorem tokenOwn_row {H : Type} {enc : TypeId × Value → H} (v0 : Value) {d0 : DataW H} {p0 : List MemPlace} {base : Nat} (w : World) (hok : Value.okWide Try.prog w .any base 65 v0) (h : DataW.Trod enc Try.prog w 0 (fun _ => true) true 65 v0 d0 p0) :
    Calls Try.prog 6 #[v0] w fun e w' => e = .returned (.bool true) ∧ Below w.heap.size w w' := by
  obtain ⟨zs, hz⟩ := bools_open Try.underlying65 Try.underlying4 (by kernel_rfl) hok h
  refine (tokenOwn_any v0 w zs hz).mono ?_
  rintro e w' ⟨he, hf⟩
  exact ⟨he, hf.below⟩
end Go.Proofs.Ytdddgfienicaaaa
