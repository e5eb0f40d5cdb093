/- The walk of RingFull at arguments as they are read. -/
import Derived.Test.YtlohbikkhojlaaaRgFu
import Derived.Test.YtlohbikkhojlaaaOpen2
namespace Go.Proofs.Ytlohbikkhojlaaa
open Go.RowKit Go.Shelf Go.XL Go.ChangeShapes Go.WideShapes Go.ChangeAt
set_option linter.unusedVariables false
set_option linter.unusedSimpArgs false
theorem ringFull_row (a b : Int) (w : World) (ha : (Lit.int .u8 a).wf = true) (hb : (Lit.int .u8 b).wf = true) :
    Calls Try.prog 4 #[.int .u8 a, .int .u8 b] w fun e w' => e = .returned (.bool true) ∧ Below w.heap.size w w' := by
  refine (ringFull_any a b (bounds_u8 ha).1 (bounds_u8 ha).2 (bounds_u8 hb).1 (bounds_u8 hb).2 w).mono ?_
  rintro e w' ⟨he, hf⟩
  exact ⟨he, hf.below⟩
end Go.Proofs.Ytlohbikkhojlaaa
