/-
  DERIVED. GIVEN WITH THE SEED: THE CARDS: each row of YtdepenibifbcpaaGreatDoorRows.lean that lists a variable, with what it lists TIED to the program's text (the seventh form; the later family's looks); each row that meets fmt, with fmt's text TOLD by the authors' own Lean function (tested against real Go, not proved from fmt's source: count such statements apart). THE CARD IS WHAT COUNTS. Prove the row's statement (the work); the ties are given (YtdepenibifbcpaaGreatDoorTie.lean); close each card by the builder's one call (the guide's Derived/Test/ToyasCard.lean, 'card_holds'). Laid BY PROGRAM, IN A SANDBOX (cutbox-door.mjs). By AI agents, Wed Nov 11 2026. No macro, syntax, notation, axiom, sorry.
-/
import Derived.Test.YtdepenibifbcpaaGreatDoorRows
import GoSem.ClaimSeven
namespace Go.Proofs.YtdepenibifbcpaaGreatDoor
namespace Rows

/-- THE TIED CARD OF 'landaulaw1.VecTwo'. -/
def vecTwoCard : Claim7 := { stood := { row := vecTwoRow, standIns := [], harness := (true, "221549fda914d83a4c7c9083c5827e8e3d469f851b0d252de6ea881bdae748a7"), looks := true }, kinds := [], alts := [], laidByText := true, laidKinds := [.data, .data, .data, .data, .sentinel, .sentinel, .pinned], laidTests := true, laidLooks := .later }
def VecTwoCardSaid : Prop := Claim7.holds Tryz.pinned (.plain (OpenSpec.ofChange vecTwoSpec)) vecTwoCard

/-- THE TIED CARD OF 'landaulaw1.VecWords'. -/
def vecWordsCard : Claim7 := { stood := { row := vecWordsRow, standIns := [], harness := (true, "221549fda914d83a4c7c9083c5827e8e3d469f851b0d252de6ea881bdae748a7"), looks := true }, kinds := [], alts := [], laidByText := true, laidKinds := [.data, .data, .data, .data, .sentinel, .sentinel, .pinned], laidTests := true, laidLooks := .later }
def VecWordsCardSaid : Prop := Claim7.holds Tryz.pinned (.plain (OpenSpec.ofChange vecWordsSpec)) vecWordsCard

/-- THE TIED CARD OF 'landaulaw1.VecPuts'. -/
def vecPutsCard : Claim7 := { stood := { row := vecPutsRow, standIns := [], harness := (true, "221549fda914d83a4c7c9083c5827e8e3d469f851b0d252de6ea881bdae748a7"), looks := true }, kinds := [], alts := [], laidByText := true, laidKinds := [.data, .data, .data, .data, .sentinel, .sentinel, .pinned], laidTests := true, laidLooks := .later }
def VecPutsCardSaid : Prop := Claim7.holds Tryz.pinned (.plain (OpenSpec.ofChange vecPutsSpec)) vecPutsCard

/-- THE SECOND FORM's CARD OF 'landaulaw1.VecTwo'. -/
def vecTwoUptoCard : Claim7 := { stood := { row := vecTwoUptoRow, standIns := [], harness := (true, "221549fda914d83a4c7c9083c5827e8e3d469f851b0d252de6ea881bdae748a7"), looks := true }, kinds := [], alts := [], laidByText := true, laidKinds := [.data, .data, .data, .data, .sentinel, .sentinel, .pinned], laidTests := true, laidLooks := .later }
def VecTwoUptoCardSaid : Prop := Claim7.holds Tryz.pinned (.plain (OpenSpec.upto vecTwoSpec)) vecTwoUptoCard

/-- THE SECOND FORM's CARD OF 'landaulaw1.VecWords'. -/
def vecWordsUptoCard : Claim7 := { stood := { row := vecWordsUptoRow, standIns := [], harness := (true, "221549fda914d83a4c7c9083c5827e8e3d469f851b0d252de6ea881bdae748a7"), looks := true }, kinds := [], alts := [], laidByText := true, laidKinds := [.data, .data, .data, .data, .sentinel, .sentinel, .pinned], laidTests := true, laidLooks := .later }
def VecWordsUptoCardSaid : Prop := Claim7.holds Tryz.pinned (.plain (OpenSpec.upto vecWordsSpec)) vecWordsUptoCard

/-- THE SECOND FORM's CARD OF 'landaulaw1.VecPuts'. -/
def vecPutsUptoCard : Claim7 := { stood := { row := vecPutsUptoRow, standIns := [], harness := (true, "221549fda914d83a4c7c9083c5827e8e3d469f851b0d252de6ea881bdae748a7"), looks := true }, kinds := [], alts := [], laidByText := true, laidKinds := [.data, .data, .data, .data, .sentinel, .sentinel, .pinned], laidTests := true, laidLooks := .later }
def VecPutsUptoCardSaid : Prop := Claim7.holds Tryz.pinned (.plain (OpenSpec.upto vecPutsSpec)) vecPutsUptoCard
end Rows
end Go.Proofs.YtdepenibifbcpaaGreatDoor
