/-
  No cell of these rows narrows 'for every input' (looked for: loops, veiled, ifaces, maps, wideKeys, modest, calm, conditions, laid).
  DERIVED. THE GIVEN ROWS OF THIS SEAT. 4 by the template 'for every input the law returns true; each argument reads behind the call as it read before'; 0 by the template 'total and deterministic' (their statements: YtlohbikkhojlaaaTotals.lean).
  GIVEN WITH THE SEED: the statements are not yours to turn. If you find one false, say at which input.
  Laid BY PROGRAM, IN A SANDBOX (cutbox-rows.mjs): the forced cells as the released guide's own fill.sh prints them over the translation 8737ae4727a73e2a… (all of the seat's roots in one cut). By AI agents, Wed Nov 11 2026. No macro, syntax, notation, axiom, sorry.
-/
import Derived.Test.YtlohbikkhojlaaaChecked
import GoSem.Claim
import GoSem.ClaimJoined
import GoSem.ClaimMapViews
import Derived.JoinedTies
import Derived.KernelRfl
namespace Go.Proofs.Ytlohbikkhojlaaa
/- THE CELL 'sum', in the pinned program and in every row, IS THE sha256 OF THE DUMP (.gsa) THAT YtlohbikkhojlaaaProg.lean LOADS. Nothing in Lean hashes anything: it is a label: what it is worth is what the hold of that sum in a sandbox is worth. -/
noncomputable def Try.pinned : Pinned := { name := "ytlohbikkhojlaaa", sum := "8737ae4727a73e2aca89d8b128e68ca9d548308074cdd6b3f50e7a8d4733c0a4", checked := Try.checked }
namespace Rows
def none {H : Type} : Left H := { results := [], args := [] }

/-- 'landaulaw10.RingRound': WHATEVER THE INPUT: true; the input reads as it did. -/
def ringRoundSpec : ChangeSpec := { name := "ringRound", fn := fun _ => fun
  | [d1, d2] => { results := [.lit (.bool true)], args := [d1, d2] }
  | _ => none }
def ringRoundRow : OpenClaim := { program := "ytlohbikkhojlaaa", sum := "8737ae4727a73e2aca89d8b128e68ca9d548308074cdd6b3f50e7a8d4733c0a4", func := "landau/landaulaw10.RingRound", spec := "ringRound", unfollowed := true, recurses := true, apart := false }
def RingRoundSaid : Prop := ringRoundRow.holds Try.pinned (OpenSpec.ofChange ringRoundSpec)

/-- ITS FALSE NEIGHBOUR: 'it returns false'. Refute it at one input. -/
def ringRoundWrong : ChangeSpec := { name := "ringRound", fn := fun _ => fun
  | [d1, d2] => { results := [.lit (.bool false)], args := [d1, d2] }
  | _ => none }
def RingRoundWrongFalsely : Prop := ringRoundRow.holds Try.pinned (OpenSpec.ofChange ringRoundWrong)

/-- 'landaulaw10.RingFull': WHATEVER THE INPUT: true; the input reads as it did. -/
def ringFullSpec : ChangeSpec := { name := "ringFull", fn := fun _ => fun
  | [d1, d2] => { results := [.lit (.bool true)], args := [d1, d2] }
  | _ => none }
def ringFullRow : OpenClaim := { program := "ytlohbikkhojlaaa", sum := "8737ae4727a73e2aca89d8b128e68ca9d548308074cdd6b3f50e7a8d4733c0a4", func := "landau/landaulaw10.RingFull", spec := "ringFull", unfollowed := true, recurses := true, apart := false }
def RingFullSaid : Prop := ringFullRow.holds Try.pinned (OpenSpec.ofChange ringFullSpec)

/-- ITS FALSE NEIGHBOUR: 'it returns false'. Refute it at one input. -/
def ringFullWrong : ChangeSpec := { name := "ringFull", fn := fun _ => fun
  | [d1, d2] => { results := [.lit (.bool false)], args := [d1, d2] }
  | _ => none }
def RingFullWrongFalsely : Prop := ringFullRow.holds Try.pinned (OpenSpec.ofChange ringFullWrong)

/-- 'landaulaw10.RingResizes': WHATEVER THE INPUT: true; the input reads as it did. -/
def ringResizesSpec : ChangeSpec := { name := "ringResizes", fn := fun _ => fun
  | [d1, d2] => { results := [.lit (.bool true)], args := [d1, d2] }
  | _ => none }
def ringResizesRow : OpenClaim := { program := "ytlohbikkhojlaaa", sum := "8737ae4727a73e2aca89d8b128e68ca9d548308074cdd6b3f50e7a8d4733c0a4", func := "landau/landaulaw10.RingResizes", spec := "ringResizes", unfollowed := true, recurses := true, apart := false }
def RingResizesSaid : Prop := ringResizesRow.holds Try.pinned (OpenSpec.ofChange ringResizesSpec)

/-- ITS FALSE NEIGHBOUR: 'it returns false'. Refute it at one input. -/
def ringResizesWrong : ChangeSpec := { name := "ringResizes", fn := fun _ => fun
  | [d1, d2] => { results := [.lit (.bool false)], args := [d1, d2] }
  | _ => none }
def RingResizesWrongFalsely : Prop := ringResizesRow.holds Try.pinned (OpenSpec.ofChange ringResizesWrong)

/-- 'landaulaw10.RingPlays': WHATEVER THE INPUT: true; the input reads as it did. -/
def ringPlaysSpec : ChangeSpec := { name := "ringPlays", fn := fun _ => fun
  | [d1, d2, d3, d4] => { results := [.lit (.bool true)], args := [d1, d2, d3, d4] }
  | _ => none }
def ringPlaysRow : OpenClaim := { program := "ytlohbikkhojlaaa", sum := "8737ae4727a73e2aca89d8b128e68ca9d548308074cdd6b3f50e7a8d4733c0a4", func := "landau/landaulaw10.RingPlays", spec := "ringPlays", unfollowed := true, recurses := true, apart := false }
def RingPlaysSaid : Prop := ringPlaysRow.holds Try.pinned (OpenSpec.ofChange ringPlaysSpec)

/-- ITS FALSE NEIGHBOUR: 'it returns false'. Refute it at one input. -/
def ringPlaysWrong : ChangeSpec := { name := "ringPlays", fn := fun _ => fun
  | [d1, d2, d3, d4] => { results := [.lit (.bool false)], args := [d1, d2, d3, d4] }
  | _ => none }
def RingPlaysWrongFalsely : Prop := ringPlaysRow.holds Try.pinned (OpenSpec.ofChange ringPlaysWrong)

/- THE SECOND FORM. 'bulk': how many values and letters a reading holds, each counted each time it is reached (what is shared counts as often as it is met; a slice's spare places count too). A statement '..UptoSaid' is the law's where the arguments, and the package variables that the reading takes, are together of bulk at most 1048576: NARROWER than '..Said'. Prove '..Said' where nothing that the law and all that it calls make is longer than what came in: it says more and counts as full. Else prove '..UptoSaid'. A law counts once. -/
mutual
def uptoBulk {H : Type} : DataW H → Nat
  | .lit (.string bytes) => bytes.length + 1
  | .lit _ => 1
  | .nil => 1
  | .ptr d => uptoBulk d + 1
  | .slice elems spare => uptoBulkAll elems + uptoBulkAll spare + 1
  | .agg parts => uptoBulkAll parts + 1
  | .iface _ d => uptoBulk d + 1
  | .map entries => uptoBulkEntries entries + 1
  | .held _ => 1
def uptoBulkAll {H : Type} : List (DataW H) → Nat
  | [] => 0
  | d :: r => uptoBulk d + uptoBulkAll r
def uptoBulkEntries {H : Type} : List (Lit × DataW H) → Nat
  | [] => 0
  | x :: r => uptoBulkEntry x + uptoBulkEntries r
def uptoBulkEntry {H : Type} : Lit × DataW H → Nat
  | (.string bytes, d) => bytes.length + uptoBulk d + 1
  | (_, d) => uptoBulk d + 1
 end
def uptoSmall : (H : Type) → List (DataW H) → Bool := fun _ ds => decide (uptoBulkAll ds ≤ 1048576)
def OpenSpec.upto (s : _root_.Go.ChangeSpec) : _root_.Go.OpenSpec := { _root_.Go.OpenSpec.ofChange s with cond := some uptoSmall }

/-- 'landaulaw10.RingRound', WHERE WHAT IT READS IS OF BULK AT MOST 1048576: true; the input reads as it did. -/
def ringRoundUptoRow : OpenClaim := { program := "ytlohbikkhojlaaa", sum := "8737ae4727a73e2aca89d8b128e68ca9d548308074cdd6b3f50e7a8d4733c0a4", func := "landau/landaulaw10.RingRound", spec := "ringRound", unfollowed := true, recurses := true, apart := false, narrowed := true }
def RingRoundUptoSaid : Prop := ringRoundUptoRow.holds Try.pinned (OpenSpec.upto ringRoundSpec)

/-- 'landaulaw10.RingFull', WHERE WHAT IT READS IS OF BULK AT MOST 1048576: true; the input reads as it did. -/
def ringFullUptoRow : OpenClaim := { program := "ytlohbikkhojlaaa", sum := "8737ae4727a73e2aca89d8b128e68ca9d548308074cdd6b3f50e7a8d4733c0a4", func := "landau/landaulaw10.RingFull", spec := "ringFull", unfollowed := true, recurses := true, apart := false, narrowed := true }
def RingFullUptoSaid : Prop := ringFullUptoRow.holds Try.pinned (OpenSpec.upto ringFullSpec)

/-- 'landaulaw10.RingResizes', WHERE WHAT IT READS IS OF BULK AT MOST 1048576: true; the input reads as it did. -/
def ringResizesUptoRow : OpenClaim := { program := "ytlohbikkhojlaaa", sum := "8737ae4727a73e2aca89d8b128e68ca9d548308074cdd6b3f50e7a8d4733c0a4", func := "landau/landaulaw10.RingResizes", spec := "ringResizes", unfollowed := true, recurses := true, apart := false, narrowed := true }
def RingResizesUptoSaid : Prop := ringResizesUptoRow.holds Try.pinned (OpenSpec.upto ringResizesSpec)

/-- 'landaulaw10.RingPlays', WHERE WHAT IT READS IS OF BULK AT MOST 1048576: true; the input reads as it did. -/
def ringPlaysUptoRow : OpenClaim := { program := "ytlohbikkhojlaaa", sum := "8737ae4727a73e2aca89d8b128e68ca9d548308074cdd6b3f50e7a8d4733c0a4", func := "landau/landaulaw10.RingPlays", spec := "ringPlays", unfollowed := true, recurses := true, apart := false, narrowed := true }
def RingPlaysUptoSaid : Prop := ringPlaysUptoRow.holds Try.pinned (OpenSpec.upto ringPlaysSpec)

end Rows
end Go.Proofs.Ytlohbikkhojlaaa
