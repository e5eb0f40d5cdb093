/- The walk of DiskCuts at arguments as they are read. -/
import Derived.Test.YthlcbhpdbcnmjaaCutsR
import Derived.Test.YthlcbhpdbcnmjaaOpen4
namespace Go.Proofs.Ythlcbhpdbcnmjaa
open Go.RowKit Go.Shelf Go.XL Go.ChangeShapes Go.WideShapes Go.ChangeAt
set_option linter.unusedVariables false
set_option linter.unusedSimpArgs false
theorem diskCuts_row {H : Type} {enc : TypeId × Value → H} {base : Nat} {spare : Nat → Bool} {held : Bool} {d : DataW H} {p : List MemPlace} {base' : Nat} (v : Value) (k : Int) (w : World)
    (hok : Value.okWide Try.prog w .any base' 40 v) (h : DataW.Trod enc Try.prog w base spare held 40 v d p) (hk : (Lit.int .i64 k).wf = true) :
    Calls Try.prog 6 #[v, .int .i64 k] w fun e w' => e = .returned (.bool true) ∧ Below w.heap.size w w' := by
  obtain ⟨zs, hrd, hz⟩ := strs_open Try.underlying40 Try.underlying9 (by kernel_rfl) hok h
  refine (cuts_any k v zs w (bounds_i64 hk).1 (bounds_i64 hk).2 hrd hz).mono ?_
  rintro e w' ⟨he, hf⟩
  exact ⟨he, hf.below⟩
end Go.Proofs.Ythlcbhpdbcnmjaa
