/-
  DERIVED. GIVEN WITH THE SEED: THE CARDS: each row of YtdepenibifbcpaaDoorRows.lean that lists a variable, with what it lists TIED to the program's text (the seventh form; the later family's looks); each row that meets fmt, with fmt's text TOLD by the authors' own Lean function (tested against real Go, not proved from fmt's source: count such statements apart). THE CARD IS WHAT COUNTS. Prove the row's statement (the work); the ties are given (YtdepenibifbcpaaDoorTie.lean); close each card by the builder's one call (the guide's Derived/Test/ToyasCard.lean, 'card_holds'). Laid BY PROGRAM, IN A SANDBOX (cutbox-door.mjs). By AI agents, Wed Nov 11 2026. No macro, syntax, notation, axiom, sorry.
-/
import Derived.Test.YtdepenibifbcpaaDoorRows
import GoSem.ClaimSeven
namespace Go.Proofs.YtdepenibifbcpaaDoor
namespace Rows

/-- THE TIED CARD OF 'landaulaw1.VecAll'. -/
def vecAllCard : Claim7 := { stood := { row := vecAllRow, standIns := [], harness := (true, "24f5a85050c36241b8f481dd772d5ff70a0f63efe1a32ae73d83dd27da10eb88"), looks := true }, kinds := [], alts := [], laidByText := true, laidKinds := [.data, .data, .data, .data, .sentinel, .sentinel, .pinned], laidTests := true, laidLooks := .later }
def VecAllCardSaid : Prop := Claim7.holds Tryd.pinned (.plain (OpenSpec.ofChange vecAllSpec)) vecAllCard

/-- THE TIED CARD OF 'landaulaw1.VecOrder'. -/
def vecOrderCard : Claim7 := { stood := { row := vecOrderRow, standIns := [], harness := (true, "24f5a85050c36241b8f481dd772d5ff70a0f63efe1a32ae73d83dd27da10eb88"), looks := true }, kinds := [], alts := [], laidByText := true, laidKinds := [.data, .data, .data, .data, .sentinel, .sentinel, .pinned], laidTests := true, laidLooks := .later }
def VecOrderCardSaid : Prop := Claim7.holds Tryd.pinned (.plain (OpenSpec.ofChange vecOrderSpec)) vecOrderCard

/-- THE TIED CARD OF 'landaulaw1.VecBack'. -/
def vecBackCard : Claim7 := { stood := { row := vecBackRow, standIns := [], harness := (true, "24f5a85050c36241b8f481dd772d5ff70a0f63efe1a32ae73d83dd27da10eb88"), looks := true }, kinds := [], alts := [], laidByText := true, laidKinds := [.data, .data, .data, .data, .sentinel, .sentinel, .pinned], laidTests := true, laidLooks := .later }
def VecBackCardSaid : Prop := Claim7.holds Tryd.pinned (.plain (OpenSpec.ofChange vecBackSpec)) vecBackCard

/-- THE TIED CARD OF 'landaulaw1.VecLimits'. -/
def vecLimitsCard : Claim7 := { stood := { row := vecLimitsRow, standIns := [], harness := (true, "24f5a85050c36241b8f481dd772d5ff70a0f63efe1a32ae73d83dd27da10eb88"), looks := true }, kinds := [], alts := [], laidByText := true, laidKinds := [.data, .data, .data, .data, .sentinel, .sentinel, .pinned], laidTests := true, laidLooks := .later }
def VecLimitsCardSaid : Prop := Claim7.holds Tryd.pinned (.plain (OpenSpec.ofChange vecLimitsSpec)) vecLimitsCard

/-- THE TIED CARD OF 'landaulaw1.VecParts'. -/
def vecPartsCard : Claim7 := { stood := { row := vecPartsRow, standIns := [], harness := (true, "24f5a85050c36241b8f481dd772d5ff70a0f63efe1a32ae73d83dd27da10eb88"), looks := true }, kinds := [], alts := [], laidByText := true, laidKinds := [.data, .data, .data, .data, .sentinel, .sentinel, .pinned], laidTests := true, laidLooks := .later }
def VecPartsCardSaid : Prop := Claim7.holds Tryd.pinned (.plain (OpenSpec.ofChange vecPartsSpec)) vecPartsCard

/-- THE SECOND FORM's CARD OF 'landaulaw1.VecAll'. -/
def vecAllUptoCard : Claim7 := { stood := { row := vecAllUptoRow, standIns := [], harness := (true, "24f5a85050c36241b8f481dd772d5ff70a0f63efe1a32ae73d83dd27da10eb88"), looks := true }, kinds := [], alts := [], laidByText := true, laidKinds := [.data, .data, .data, .data, .sentinel, .sentinel, .pinned], laidTests := true, laidLooks := .later }
def VecAllUptoCardSaid : Prop := Claim7.holds Tryd.pinned (.plain (OpenSpec.upto vecAllSpec)) vecAllUptoCard

/-- THE SECOND FORM's CARD OF 'landaulaw1.VecOrder'. -/
def vecOrderUptoCard : Claim7 := { stood := { row := vecOrderUptoRow, standIns := [], harness := (true, "24f5a85050c36241b8f481dd772d5ff70a0f63efe1a32ae73d83dd27da10eb88"), looks := true }, kinds := [], alts := [], laidByText := true, laidKinds := [.data, .data, .data, .data, .sentinel, .sentinel, .pinned], laidTests := true, laidLooks := .later }
def VecOrderUptoCardSaid : Prop := Claim7.holds Tryd.pinned (.plain (OpenSpec.upto vecOrderSpec)) vecOrderUptoCard

/-- THE SECOND FORM's CARD OF 'landaulaw1.VecBack'. -/
def vecBackUptoCard : Claim7 := { stood := { row := vecBackUptoRow, standIns := [], harness := (true, "24f5a85050c36241b8f481dd772d5ff70a0f63efe1a32ae73d83dd27da10eb88"), looks := true }, kinds := [], alts := [], laidByText := true, laidKinds := [.data, .data, .data, .data, .sentinel, .sentinel, .pinned], laidTests := true, laidLooks := .later }
def VecBackUptoCardSaid : Prop := Claim7.holds Tryd.pinned (.plain (OpenSpec.upto vecBackSpec)) vecBackUptoCard

/-- THE SECOND FORM's CARD OF 'landaulaw1.VecLimits'. -/
def vecLimitsUptoCard : Claim7 := { stood := { row := vecLimitsUptoRow, standIns := [], harness := (true, "24f5a85050c36241b8f481dd772d5ff70a0f63efe1a32ae73d83dd27da10eb88"), looks := true }, kinds := [], alts := [], laidByText := true, laidKinds := [.data, .data, .data, .data, .sentinel, .sentinel, .pinned], laidTests := true, laidLooks := .later }
def VecLimitsUptoCardSaid : Prop := Claim7.holds Tryd.pinned (.plain (OpenSpec.upto vecLimitsSpec)) vecLimitsUptoCard

/-- THE SECOND FORM's CARD OF 'landaulaw1.VecParts'. -/
def vecPartsUptoCard : Claim7 := { stood := { row := vecPartsUptoRow, standIns := [], harness := (true, "24f5a85050c36241b8f481dd772d5ff70a0f63efe1a32ae73d83dd27da10eb88"), looks := true }, kinds := [], alts := [], laidByText := true, laidKinds := [.data, .data, .data, .data, .sentinel, .sentinel, .pinned], laidTests := true, laidLooks := .later }
def VecPartsUptoCardSaid : Prop := Claim7.holds Tryd.pinned (.plain (OpenSpec.upto vecPartsSpec)) vecPartsUptoCard
end Rows
end Go.Proofs.YtdepenibifbcpaaDoor
