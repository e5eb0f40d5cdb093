/-
  No cell of these rows narrows 'for every input' (looked for: loops, veiled, ifaces, maps, wideKeys, modest, calm, conditions, laid).
  DERIVED. THE GIVEN ROWS OF THIS SEAT. 4 by the template 'for every input the law returns true; each argument reads behind the call as it read before'; 0 by the template 'total and deterministic' (their statements: YtkhjdhdgomndoaaTotals.lean).
  GIVEN WITH THE SEED: the statements are not yours to turn. If you find one false, say at which input.
  Laid BY PROGRAM, IN A SANDBOX (cutbox-rows.mjs): the forced cells as the released guide's own fill.sh prints them over the translation de3f35966a00a4f2… (all of the seat's roots in one cut). By AI agents, Wed Nov 11 2026. No macro, syntax, notation, axiom, sorry.
-/
import Derived.Test.YtkhjdhdgomndoaaChecked
import GoSem.Claim
import GoSem.ClaimJoined
import GoSem.ClaimMapViews
import Derived.JoinedTies
import Derived.KernelRfl
namespace Go.Proofs.Ytkhjdhdgomndoaa
/- THE CELL 'sum', in the pinned program and in every row, IS THE sha256 OF THE DUMP (.gsa) THAT YtkhjdhdgomndoaaProg.lean LOADS. Nothing in Lean hashes anything: it is a label: what it is worth is what the hold of that sum in a sandbox is worth. -/
noncomputable def Try.pinned : Pinned := { name := "ytkhjdhdgomndoaa", sum := "de3f35966a00a4f2e418ab08c4fd856066af44f96aa157c546b8fba1179e60c8", checked := Try.checked }
namespace Rows
def none {H : Type} : Left H := { results := [], args := [] }

/-- 'landaulaw12.TableGrows': WHATEVER THE INPUT: true; the input reads as it did. -/
def tableGrowsSpec : ChangeSpec := { name := "tableGrows", fn := fun _ => fun
  | [d1, d2, d3] => { results := [.lit (.bool true)], args := [d1, d2, d3] }
  | _ => none }
def tableGrowsRow : OpenClaim := { program := "ytkhjdhdgomndoaa", sum := "de3f35966a00a4f2e418ab08c4fd856066af44f96aa157c546b8fba1179e60c8", func := "landau/landaulaw12.TableGrows", spec := "tableGrows", unfollowed := true, recurses := true, apart := false }
def TableGrowsSaid : Prop := tableGrowsRow.holds Try.pinned (OpenSpec.ofChange tableGrowsSpec)

/-- ITS FALSE NEIGHBOUR: 'it returns false'. Refute it at one input. -/
def tableGrowsWrong : ChangeSpec := { name := "tableGrows", fn := fun _ => fun
  | [d1, d2, d3] => { results := [.lit (.bool false)], args := [d1, d2, d3] }
  | _ => none }
def TableGrowsWrongFalsely : Prop := tableGrowsRow.holds Try.pinned (OpenSpec.ofChange tableGrowsWrong)

/-- 'landaulaw12.TableLimits': WHATEVER THE INPUT: true; the input reads as it did. -/
def tableLimitsSpec : ChangeSpec := { name := "tableLimits", fn := fun _ => fun
  | [d1, d2] => { results := [.lit (.bool true)], args := [d1, d2] }
  | _ => none }
def tableLimitsRow : OpenClaim := { program := "ytkhjdhdgomndoaa", sum := "de3f35966a00a4f2e418ab08c4fd856066af44f96aa157c546b8fba1179e60c8", func := "landau/landaulaw12.TableLimits", spec := "tableLimits", unfollowed := true, recurses := true, apart := false }
def TableLimitsSaid : Prop := tableLimitsRow.holds Try.pinned (OpenSpec.ofChange tableLimitsSpec)

/-- ITS FALSE NEIGHBOUR: 'it returns false'. Refute it at one input. -/
def tableLimitsWrong : ChangeSpec := { name := "tableLimits", fn := fun _ => fun
  | [d1, d2] => { results := [.lit (.bool false)], args := [d1, d2] }
  | _ => none }
def TableLimitsWrongFalsely : Prop := tableLimitsRow.holds Try.pinned (OpenSpec.ofChange tableLimitsWrong)

/-- 'landaulaw12.TableAll': WHATEVER THE INPUT: true; the input reads as it did. -/
def tableAllSpec : ChangeSpec := { name := "tableAll", fn := fun _ => fun
  | [d1, d2] => { results := [.lit (.bool true)], args := [d1, d2] }
  | _ => none }
def tableAllRow : OpenClaim := { program := "ytkhjdhdgomndoaa", sum := "de3f35966a00a4f2e418ab08c4fd856066af44f96aa157c546b8fba1179e60c8", func := "landau/landaulaw12.TableAll", spec := "tableAll", unfollowed := true, recurses := true, apart := false }
def TableAllSaid : Prop := tableAllRow.holds Try.pinned (OpenSpec.ofChange tableAllSpec)

/-- ITS FALSE NEIGHBOUR: 'it returns false'. Refute it at one input. -/
def tableAllWrong : ChangeSpec := { name := "tableAll", fn := fun _ => fun
  | [d1, d2] => { results := [.lit (.bool false)], args := [d1, d2] }
  | _ => none }
def TableAllWrongFalsely : Prop := tableAllRow.holds Try.pinned (OpenSpec.ofChange tableAllWrong)

/-- 'landaulaw12.TableGossip': WHATEVER THE INPUT: true; the input reads as it did. -/
def tableGossipSpec : ChangeSpec := { name := "tableGossip", fn := fun _ => fun
  | [d1, d2] => { results := [.lit (.bool true)], args := [d1, d2] }
  | _ => none }
def tableGossipRow : OpenClaim := { program := "ytkhjdhdgomndoaa", sum := "de3f35966a00a4f2e418ab08c4fd856066af44f96aa157c546b8fba1179e60c8", func := "landau/landaulaw12.TableGossip", spec := "tableGossip", unfollowed := true, recurses := true, apart := false }
def TableGossipSaid : Prop := tableGossipRow.holds Try.pinned (OpenSpec.ofChange tableGossipSpec)

/-- ITS FALSE NEIGHBOUR: 'it returns false'. Refute it at one input. -/
def tableGossipWrong : ChangeSpec := { name := "tableGossip", fn := fun _ => fun
  | [d1, d2] => { results := [.lit (.bool false)], args := [d1, d2] }
  | _ => none }
def TableGossipWrongFalsely : Prop := tableGossipRow.holds Try.pinned (OpenSpec.ofChange tableGossipWrong)

/- THE SECOND FORM. 'bulk': how many values and letters a reading holds, each counted each time it is reached (what is shared counts as often as it is met; a slice's spare places count too). A statement '..UptoSaid' is the law's where the arguments, and the package variables that the reading takes, are together of bulk at most 1048576: NARROWER than '..Said'. Prove '..Said' where nothing that the law and all that it calls make is longer than what came in: it says more and counts as full. Else prove '..UptoSaid'. A law counts once. -/
mutual
def uptoBulk {H : Type} : DataW H → Nat
  | .lit (.string bytes) => bytes.length + 1
  | .lit _ => 1
  | .nil => 1
  | .ptr d => uptoBulk d + 1
  | .slice elems spare => uptoBulkAll elems + uptoBulkAll spare + 1
  | .agg parts => uptoBulkAll parts + 1
  | .iface _ d => uptoBulk d + 1
  | .map entries => uptoBulkEntries entries + 1
  | .held _ => 1
def uptoBulkAll {H : Type} : List (DataW H) → Nat
  | [] => 0
  | d :: r => uptoBulk d + uptoBulkAll r
def uptoBulkEntries {H : Type} : List (Lit × DataW H) → Nat
  | [] => 0
  | x :: r => uptoBulkEntry x + uptoBulkEntries r
def uptoBulkEntry {H : Type} : Lit × DataW H → Nat
  | (.string bytes, d) => bytes.length + uptoBulk d + 1
  | (_, d) => uptoBulk d + 1
 end
def uptoSmall : (H : Type) → List (DataW H) → Bool := fun _ ds => decide (uptoBulkAll ds ≤ 1048576)
def OpenSpec.upto (s : _root_.Go.ChangeSpec) : _root_.Go.OpenSpec := { _root_.Go.OpenSpec.ofChange s with cond := some uptoSmall }

/-- 'landaulaw12.TableGrows', WHERE WHAT IT READS IS OF BULK AT MOST 1048576: true; the input reads as it did. -/
def tableGrowsUptoRow : OpenClaim := { program := "ytkhjdhdgomndoaa", sum := "de3f35966a00a4f2e418ab08c4fd856066af44f96aa157c546b8fba1179e60c8", func := "landau/landaulaw12.TableGrows", spec := "tableGrows", unfollowed := true, recurses := true, apart := false, narrowed := true }
def TableGrowsUptoSaid : Prop := tableGrowsUptoRow.holds Try.pinned (OpenSpec.upto tableGrowsSpec)

/-- 'landaulaw12.TableLimits', WHERE WHAT IT READS IS OF BULK AT MOST 1048576: true; the input reads as it did. -/
def tableLimitsUptoRow : OpenClaim := { program := "ytkhjdhdgomndoaa", sum := "de3f35966a00a4f2e418ab08c4fd856066af44f96aa157c546b8fba1179e60c8", func := "landau/landaulaw12.TableLimits", spec := "tableLimits", unfollowed := true, recurses := true, apart := false, narrowed := true }
def TableLimitsUptoSaid : Prop := tableLimitsUptoRow.holds Try.pinned (OpenSpec.upto tableLimitsSpec)

/-- 'landaulaw12.TableAll', WHERE WHAT IT READS IS OF BULK AT MOST 1048576: true; the input reads as it did. -/
def tableAllUptoRow : OpenClaim := { program := "ytkhjdhdgomndoaa", sum := "de3f35966a00a4f2e418ab08c4fd856066af44f96aa157c546b8fba1179e60c8", func := "landau/landaulaw12.TableAll", spec := "tableAll", unfollowed := true, recurses := true, apart := false, narrowed := true }
def TableAllUptoSaid : Prop := tableAllUptoRow.holds Try.pinned (OpenSpec.upto tableAllSpec)

/-- 'landaulaw12.TableGossip', WHERE WHAT IT READS IS OF BULK AT MOST 1048576: true; the input reads as it did. -/
def tableGossipUptoRow : OpenClaim := { program := "ytkhjdhdgomndoaa", sum := "de3f35966a00a4f2e418ab08c4fd856066af44f96aa157c546b8fba1179e60c8", func := "landau/landaulaw12.TableGossip", spec := "tableGossip", unfollowed := true, recurses := true, apart := false, narrowed := true }
def TableGossipUptoSaid : Prop := tableGossipUptoRow.holds Try.pinned (OpenSpec.upto tableGossipSpec)

end Rows
end Go.Proofs.Ytkhjdhdgomndoaa
