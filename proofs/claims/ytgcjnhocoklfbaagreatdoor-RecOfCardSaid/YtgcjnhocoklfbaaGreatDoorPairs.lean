/- The laws' Pairs and Ints. -/
import Derived.Test.YtgcjnhocoklfbaaGreatDoorProg
import Derived.Test.YtgcjnhocoklfbaaGreatDoorIterD
import Derived.Test.YtgcjnhocoklfbaaGreatDoorHeld
import Derived.Test.YtgcjnhocoklfbaaGreatDoorOwn
import Derived.OwnWalkIn
namespace Go.Proofs.YtgcjnhocoklfbaaGreatDoor
open Go.RowKit Go.Shelf Go.XL
set_option linter.unusedVariables false
set_option linter.unusedSimpArgs false
attribute [local go_sem] Oper.semAt_some

abbrev encP (x : Nat × Int) : Array Value := #[.int .i64 x.1, .int .i64 x.2]
abbrev fstI (x : Nat × Int) : Int := x.1

/-- what holds between two rounds of Pairs: w + 0 (most), + 1 .. + 3 (the results), + 4, + 5 (a, b) -/
def PrI (w : World) (ls : List (Nat × Int)) (most : Int) (s : List (Nat × Int)) (W : World) : Prop :=
  ∃ (done : List (Nat × Int)) (ao : Option Addr) (ac : Nat) (bo : Option Addr) (bc : Nat), ls = done ++ s ∧ W.heap[w.heap.size]? = some (.cells #[.int .i64 most] 3 (0, 0)) ∧
    W.heap[w.heap.size + 1]? = some (.cells #[.slice none 0 0] 22 (0, 0)) ∧ W.heap[w.heap.size + 2]? = some (.cells #[.slice none 0 0] 22 (0, 0)) ∧ W.heap[w.heap.size + 3]? = some (.cells #[.bool false] 4 (0, 0)) ∧
    W.heap[w.heap.size + 4]? = some (.cells #[.slice ao done.length ac] 22 (0, 0)) ∧ W.heap[w.heap.size + 5]? = some (.cells #[.slice bo done.length bc] 22 (0, 0)) ∧
    Sl W 3 1 (.slice ao done.length ac) done.length ((done.map fstI).map (Value.int .i64)) ∧ Sl W 3 1 (.slice bo done.length bc) done.length ((done.map (·.2)).map (Value.int .i64)) ∧
    (∀ g, Value.ownBlock (.slice ao done.length ac) = some g → w.heap.size + 6 ≤ g ∧ Value.ownBlock (.slice bo done.length bc) ≠ some g) ∧ (∀ g, Value.ownBlock (.slice bo done.length bc) = some g → w.heap.size + 6 ≤ g) ∧ Fr no w W

end Go.Proofs.YtgcjnhocoklfbaaGreatDoor
