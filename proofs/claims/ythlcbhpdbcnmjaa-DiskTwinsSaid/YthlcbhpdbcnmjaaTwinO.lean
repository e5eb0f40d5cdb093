/- The walk of DiskTwins at arguments as they are read. -/
import Derived.Test.YthlcbhpdbcnmjaaTwinR
import Derived.Test.YthlcbhpdbcnmjaaOpen2
namespace Go.Proofs.Ythlcbhpdbcnmjaa
open Go.RowKit Go.Shelf Go.XL Go.ChangeShapes Go.WideShapes Go.ChangeAt
set_option linter.unusedVariables false
set_option linter.unusedSimpArgs false
theorem diskTwins_row {H : Type} {enc : TypeId × Value → H} {base : Nat} {spare : Nat → Bool} {held : Bool} {d : DataW H} {p : List MemPlace} {base' : Nat} (v : Value) (a : Int) (w : World)
    (hok : Value.okWide Try.prog w .any base' 53 v) (h : DataW.Trod enc Try.prog w base spare held 53 v d p) (ha : (Lit.int .u8 a).wf = true) :
    Calls Try.prog 7 #[v, .int .u8 a] w fun e w' => e = .returned (.bool true) ∧ Below w.heap.size w w' := by
  obtain ⟨zs, hr, hz⟩ := ints_open Try.underlying53 Try.underlying5 (by kernel_rfl) hok h
  refine (twins_any a v zs w (bounds_u8 ha).1 (bounds_u8 ha).2 hr (fun z hz' => bounds_u8 (hz z hz'))).mono ?_
  rintro e w' ⟨he, hf⟩
  exact ⟨he, hf.below⟩
end Go.Proofs.Ythlcbhpdbcnmjaa
