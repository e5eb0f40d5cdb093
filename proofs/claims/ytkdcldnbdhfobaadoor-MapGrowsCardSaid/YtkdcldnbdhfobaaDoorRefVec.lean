/- Contracts of the reference's vectors: Get, Covers, SameVec. -/
import Derived.Test.YtkdcldnbdhfobaaDoorVec
namespace Go.Proofs.YtkdcldnbdhfobaaDoor
open Go.RowKit Go.Shelf Go.XL
set_option linter.unusedVariables false
set_option linter.unusedSimpArgs false
attribute [local go_sem] Oper.semAt_some

end Go.Proofs.YtkdcldnbdhfobaaDoor
