/-
  No cell of these rows narrows 'for every input' (looked for: loops, veiled, ifaces, maps, wideKeys, modest, calm, conditions, laid).
  DERIVED. THE GIVEN ROWS OF THIS SEAT. 5 by the template 'for every input the law returns true; each argument reads behind the call as it read before'; 0 by the template 'total and deterministic' (their statements: YtdddgfienicaaaaTotals.lean).
  GIVEN WITH THE SEED: the statements are not yours to turn. If you find one false, say at which input.
  Laid BY PROGRAM, IN A SANDBOX (cutbox-rows.mjs): the forced cells as the released guide's own fill.sh prints them over the translation 0075279a828952bb… (all of the seat's roots in one cut). By AI agents, Wed Nov 11 2026. No macro, syntax, notation, axiom, sorry.
-/
import Derived.Test.YtdddgfienicaaaaChecked
import GoSem.Claim
import GoSem.ClaimJoined
import GoSem.ClaimMapViews
import Derived.JoinedTies
import Derived.KernelRfl
namespace Go.Proofs.Ytdddgfienicaaaa
/- THE CELL 'sum', in the pinned program and in every row, IS THE sha256 OF THE DUMP (.gsa) THAT YtdddgfienicaaaaProg.lean LOADS. Nothing in Lean hashes anything: it is a label: what it is worth is what the hold of that sum in a sandbox is worth. -/
noncomputable def Try.pinned : Pinned := { name := "ytdddgfienicaaaa", sum := "0075279a828952bb50e37474bdbe4eaa11e3a4190a335dee5d883076b6e3bd01", checked := Try.checked }
namespace Rows
def none {H : Type} : Left H := { results := [], args := [] }

/-- 'landaulaw9.TokenAdmit': WHATEVER THE INPUT: true; the input reads as it did. -/
def tokenAdmitSpec : ChangeSpec := { name := "tokenAdmit", fn := fun _ => fun
  | [d1, d2] => { results := [.lit (.bool true)], args := [d1, d2] }
  | _ => none }
def tokenAdmitRow : OpenClaim := { program := "ytdddgfienicaaaa", sum := "0075279a828952bb50e37474bdbe4eaa11e3a4190a335dee5d883076b6e3bd01", func := "landau/landaulaw9.TokenAdmit", spec := "tokenAdmit", unfollowed := true, recurses := true, apart := false }
def TokenAdmitSaid : Prop := tokenAdmitRow.holds Try.pinned (OpenSpec.ofChange tokenAdmitSpec)

/-- ITS FALSE NEIGHBOUR: 'it returns false'. Refute it at one input. -/
def tokenAdmitWrong : ChangeSpec := { name := "tokenAdmit", fn := fun _ => fun
  | [d1, d2] => { results := [.lit (.bool false)], args := [d1, d2] }
  | _ => none }
def TokenAdmitWrongFalsely : Prop := tokenAdmitRow.holds Try.pinned (OpenSpec.ofChange tokenAdmitWrong)

/-- 'landaulaw9.TokenRight': WHATEVER THE INPUT: true; the input reads as it did. -/
def tokenRightSpec : ChangeSpec := { name := "tokenRight", fn := fun _ => fun
  | [d1, d2] => { results := [.lit (.bool true)], args := [d1, d2] }
  | _ => none }
def tokenRightRow : OpenClaim := { program := "ytdddgfienicaaaa", sum := "0075279a828952bb50e37474bdbe4eaa11e3a4190a335dee5d883076b6e3bd01", func := "landau/landaulaw9.TokenRight", spec := "tokenRight", unfollowed := true, recurses := true, apart := false }
def TokenRightSaid : Prop := tokenRightRow.holds Try.pinned (OpenSpec.ofChange tokenRightSpec)

/-- ITS FALSE NEIGHBOUR: 'it returns false'. Refute it at one input. -/
def tokenRightWrong : ChangeSpec := { name := "tokenRight", fn := fun _ => fun
  | [d1, d2] => { results := [.lit (.bool false)], args := [d1, d2] }
  | _ => none }
def TokenRightWrongFalsely : Prop := tokenRightRow.holds Try.pinned (OpenSpec.ofChange tokenRightWrong)

/-- 'landaulaw9.TokenChain': WHATEVER THE INPUT: true; the input reads as it did. -/
def tokenChainSpec : ChangeSpec := { name := "tokenChain", fn := fun _ => fun
  | [d1, d2] => { results := [.lit (.bool true)], args := [d1, d2] }
  | _ => none }
def tokenChainRow : OpenClaim := { program := "ytdddgfienicaaaa", sum := "0075279a828952bb50e37474bdbe4eaa11e3a4190a335dee5d883076b6e3bd01", func := "landau/landaulaw9.TokenChain", spec := "tokenChain", unfollowed := true, recurses := true, apart := false }
def TokenChainSaid : Prop := tokenChainRow.holds Try.pinned (OpenSpec.ofChange tokenChainSpec)

/-- ITS FALSE NEIGHBOUR: 'it returns false'. Refute it at one input. -/
def tokenChainWrong : ChangeSpec := { name := "tokenChain", fn := fun _ => fun
  | [d1, d2] => { results := [.lit (.bool false)], args := [d1, d2] }
  | _ => none }
def TokenChainWrongFalsely : Prop := tokenChainRow.holds Try.pinned (OpenSpec.ofChange tokenChainWrong)

/-- 'landaulaw9.TokenOwn': WHATEVER THE INPUT: true; the input reads as it did. -/
def tokenOwnSpec : ChangeSpec := { name := "tokenOwn", fn := fun _ => fun
  | [d] => { results := [.lit (.bool true)], args := [d] }
  | _ => none }
def tokenOwnRow : OpenClaim := { program := "ytdddgfienicaaaa", sum := "0075279a828952bb50e37474bdbe4eaa11e3a4190a335dee5d883076b6e3bd01", func := "landau/landaulaw9.TokenOwn", spec := "tokenOwn", unfollowed := true, recurses := true, apart := false }
def TokenOwnSaid : Prop := tokenOwnRow.holds Try.pinned (OpenSpec.ofChange tokenOwnSpec)

/-- ITS FALSE NEIGHBOUR: 'it returns false'. Refute it at one input. -/
def tokenOwnWrong : ChangeSpec := { name := "tokenOwn", fn := fun _ => fun
  | [d] => { results := [.lit (.bool false)], args := [d] }
  | _ => none }
def TokenOwnWrongFalsely : Prop := tokenOwnRow.holds Try.pinned (OpenSpec.ofChange tokenOwnWrong)

/-- 'landaulaw9.TokenSplit': WHATEVER THE INPUT: true; the input reads as it did. -/
def tokenSplitSpec : ChangeSpec := { name := "tokenSplit", fn := fun _ => fun
  | [d1, d2] => { results := [.lit (.bool true)], args := [d1, d2] }
  | _ => none }
def tokenSplitRow : OpenClaim := { program := "ytdddgfienicaaaa", sum := "0075279a828952bb50e37474bdbe4eaa11e3a4190a335dee5d883076b6e3bd01", func := "landau/landaulaw9.TokenSplit", spec := "tokenSplit", unfollowed := true, recurses := true, apart := false }
def TokenSplitSaid : Prop := tokenSplitRow.holds Try.pinned (OpenSpec.ofChange tokenSplitSpec)

/-- ITS FALSE NEIGHBOUR: 'it returns false'. Refute it at one input. -/
def tokenSplitWrong : ChangeSpec := { name := "tokenSplit", fn := fun _ => fun
  | [d1, d2] => { results := [.lit (.bool false)], args := [d1, d2] }
  | _ => none }
def TokenSplitWrongFalsely : Prop := tokenSplitRow.holds Try.pinned (OpenSpec.ofChange tokenSplitWrong)

/- THE SECOND FORM. 'bulk': how many values and letters a reading holds, each counted each time it is reached (what is shared counts as often as it is met; a slice's spare places count too). A statement '..UptoSaid' is the law's where the arguments, and the package variables that the reading takes, are together of bulk at most 1048576: NARROWER than '..Said'. Prove '..Said' where nothing that the law and all that it calls make is longer than what came in: it says more and counts as full. Else prove '..UptoSaid'. A law counts once. -/
mutual
def uptoBulk {H : Type} : DataW H → Nat
  | .lit (.string bytes) => bytes.length + 1
  | .lit _ => 1
  | .nil => 1
  | .ptr d => uptoBulk d + 1
  | .slice elems spare => uptoBulkAll elems + uptoBulkAll spare + 1
  | .agg parts => uptoBulkAll parts + 1
  | .iface _ d => uptoBulk d + 1
  | .map entries => uptoBulkEntries entries + 1
  | .held _ => 1
def uptoBulkAll {H : Type} : List (DataW H) → Nat
  | [] => 0
  | d :: r => uptoBulk d + uptoBulkAll r
def uptoBulkEntries {H : Type} : List (Lit × DataW H) → Nat
  | [] => 0
  | x :: r => uptoBulkEntry x + uptoBulkEntries r
def uptoBulkEntry {H : Type} : Lit × DataW H → Nat
  | (.string bytes, d) => bytes.length + uptoBulk d + 1
  | (_, d) => uptoBulk d + 1
 end
def uptoSmall : (H : Type) → List (DataW H) → Bool := fun _ ds => decide (uptoBulkAll ds ≤ 1048576)
def OpenSpec.upto (s : _root_.Go.ChangeSpec) : _root_.Go.OpenSpec := { _root_.Go.OpenSpec.ofChange s with cond := some uptoSmall }

/-- 'landaulaw9.TokenAdmit', WHERE WHAT IT READS IS OF BULK AT MOST 1048576: true; the input reads as it did. -/
def tokenAdmitUptoRow : OpenClaim := { program := "ytdddgfienicaaaa", sum := "0075279a828952bb50e37474bdbe4eaa11e3a4190a335dee5d883076b6e3bd01", func := "landau/landaulaw9.TokenAdmit", spec := "tokenAdmit", unfollowed := true, recurses := true, apart := false, narrowed := true }
def TokenAdmitUptoSaid : Prop := tokenAdmitUptoRow.holds Try.pinned (OpenSpec.upto tokenAdmitSpec)

/-- 'landaulaw9.TokenRight', WHERE WHAT IT READS IS OF BULK AT MOST 1048576: true; the input reads as it did. -/
def tokenRightUptoRow : OpenClaim := { program := "ytdddgfienicaaaa", sum := "0075279a828952bb50e37474bdbe4eaa11e3a4190a335dee5d883076b6e3bd01", func := "landau/landaulaw9.TokenRight", spec := "tokenRight", unfollowed := true, recurses := true, apart := false, narrowed := true }
def TokenRightUptoSaid : Prop := tokenRightUptoRow.holds Try.pinned (OpenSpec.upto tokenRightSpec)

/-- 'landaulaw9.TokenChain', WHERE WHAT IT READS IS OF BULK AT MOST 1048576: true; the input reads as it did. -/
def tokenChainUptoRow : OpenClaim := { program := "ytdddgfienicaaaa", sum := "0075279a828952bb50e37474bdbe4eaa11e3a4190a335dee5d883076b6e3bd01", func := "landau/landaulaw9.TokenChain", spec := "tokenChain", unfollowed := true, recurses := true, apart := false, narrowed := true }
def TokenChainUptoSaid : Prop := tokenChainUptoRow.holds Try.pinned (OpenSpec.upto tokenChainSpec)

/-- 'landaulaw9.TokenOwn', WHERE WHAT IT READS IS OF BULK AT MOST 1048576: true; the input reads as it did. -/
def tokenOwnUptoRow : OpenClaim := { program := "ytdddgfienicaaaa", sum := "0075279a828952bb50e37474bdbe4eaa11e3a4190a335dee5d883076b6e3bd01", func := "landau/landaulaw9.TokenOwn", spec := "tokenOwn", unfollowed := true, recurses := true, apart := false, narrowed := true }
def TokenOwnUptoSaid : Prop := tokenOwnUptoRow.holds Try.pinned (OpenSpec.upto tokenOwnSpec)

/-- 'landaulaw9.TokenSplit', WHERE WHAT IT READS IS OF BULK AT MOST 1048576: true; the input reads as it did. -/
def tokenSplitUptoRow : OpenClaim := { program := "ytdddgfienicaaaa", sum := "0075279a828952bb50e37474bdbe4eaa11e3a4190a335dee5d883076b6e3bd01", func := "landau/landaulaw9.TokenSplit", spec := "tokenSplit", unfollowed := true, recurses := true, apart := false, narrowed := true }
def TokenSplitUptoSaid : Prop := tokenSplitUptoRow.holds Try.pinned (OpenSpec.upto tokenSplitSpec)

end Rows
end Go.Proofs.Ytdddgfienicaaaa
