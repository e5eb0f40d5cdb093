/- The walk of NetFull at arguments as they are read. -/
import Derived.Test.YtbjipgignnaomaaNetFullR
import Derived.Test.YtbjipgignnaomaaOpen2
namespace Go.Proofs.Ytbjipgignnaomaa
open Go.RowKit Go.Shelf Go.XL Go.ChangeShapes Go.WideShapes Go.ChangeAt
set_option linter.unusedVariables false
set_option linter.unusedSimpArgs false
theorem netFull_row (a b : Int) (w : World) (ha : (Lit.int .u8 a).wf = true) (hb : (Lit.int .u8 b).wf = true) :
    Calls Try.prog 4 #[.int .u8 a, .int .u8 b] w fun e w' => e = .returned (.bool true) ∧ Below w.heap.size w w' := by
  refine (full_any a b w (bounds_u8 ha).1 (bounds_u8 ha).2 (bounds_u8 hb).1 (bounds_u8 hb).2).mono ?_
  rintro e w' ⟨he, hf⟩
  exact ⟨he, hf.below⟩
end Go.Proofs.Ytbjipgignnaomaa
