/- The walk of TokenSplit at arguments as they are read. -/
import Derived.Test.YtdddgfienicaaaaTokSpR
import Derived.Test.YtdddgfienicaaaaTokOp
namespace Go.Proofs.Ytdddgfienicaaaa
open Go.RowKit Go.Shelf Go.XL Go.ChangeShapes Go.WideShapes Go.ChangeAt
set_option linter.unusedVariables false
set_option linter.unusedSimpArgs false
theorem tokenSplit_row {H : Type} {enc : TypeId × Value → H} (v0 v1 : Value) {d0 d1 : DataW H} {p0 p1 : List MemPlace} {base : Nat} (w : World) (hok0 : Value.okWide Try.prog w .any base 26 v0) (h0 : DataW.Trod enc Try.prog w 0 (fun _ => true) true 26 v0 d0 p0)
    (hok1 : Value.okWide Try.prog w .any base 24 v1) (h1 : DataW.Trod enc Try.prog w 0 (fun _ => true) true 24 v1 d1 p1) :
    Calls Try.prog 7 #[v0, v1] w fun e w' => e = .returned (.bool true) ∧ Below w.heap.size w w' := by
  obtain ⟨own, next, sv, lv, seen, late, rfl, hs, hl, hld⟩ := token_open hok0 h0
  obtain ⟨l, hr, hrd⟩ := drafts_open hok1 h1
  refine (tokenSplit_any own next sv lv v1 seen late l w hs hl hr (fun d hd => ?_)).mono ?_
  · rcases List.mem_append.1 hd with hd | hd
    · exact hld d hd
    · exact hrd d hd
  · rintro e w' ⟨he, hf⟩
    exact ⟨he, hf.below⟩
end Go.Proofs.Ytdddgfienicaaaa
