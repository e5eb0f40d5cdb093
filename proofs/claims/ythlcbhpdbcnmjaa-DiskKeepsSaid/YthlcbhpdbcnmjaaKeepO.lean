/- The walk of DiskKeeps at arguments as they are read. -/
import Derived.Test.YthlcbhpdbcnmjaaKeepR
import Derived.Test.YthlcbhpdbcnmjaaOpen4
namespace Go.Proofs.Ythlcbhpdbcnmjaa
open Go.RowKit Go.Shelf Go.XL Go.ChangeShapes Go.WideShapes Go.ChangeAt
set_option linter.unusedVariables false
set_option linter.unusedSimpArgs false
theorem diskKeeps_row {H : Type} {enc : TypeId × Value → H} {base : Nat} {spare : Nat → Bool} {held : Bool} {d : DataW H} {p : List MemPlace} {base' : Nat} (v : Value) (r a b : Int) (w : World)
    (hok : Value.okWide Try.prog w .any base' 40 v) (h : DataW.Trod enc Try.prog w base spare held 40 v d p) (hr : (Lit.int .u8 r).wf = true) (ha : (Lit.int .u8 a).wf = true) (hb : (Lit.int .u8 b).wf = true) :
    Calls Try.prog 4 #[v, .int .u8 r, .int .u8 a, .int .u8 b] w fun e w' => e = .returned (.bool true) ∧ Below w.heap.size w w' := by
  obtain ⟨zs, hrd, hz⟩ := strs_open Try.underlying40 Try.underlying9 (by kernel_rfl) hok h
  refine (keeps_any r a b v zs w (bounds_u8 hr).1 (bounds_u8 hr).2 (bounds_u8 ha).1 (bounds_u8 ha).2 (bounds_u8 hb).1 (bounds_u8 hb).2 hrd hz).mono ?_
  rintro e w' ⟨he, hf⟩
  exact ⟨he, hf.below⟩
end Go.Proofs.Ythlcbhpdbcnmjaa
