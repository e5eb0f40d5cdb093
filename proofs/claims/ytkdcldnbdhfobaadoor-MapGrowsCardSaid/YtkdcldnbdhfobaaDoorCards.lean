/-
  DERIVED. GIVEN WITH THE SEED: THE CARDS: each row of YtkdcldnbdhfobaaDoorRows.lean that lists a variable, with what it lists TIED to the program's text (the seventh form; the later family's looks); each row that meets fmt, with fmt's text TOLD by the authors' own Lean function (tested against real Go, not proved from fmt's source: count such statements apart). THE CARD IS WHAT COUNTS. Prove the row's statement (the work); the ties are given (YtkdcldnbdhfobaaDoorTie.lean); close each card by the builder's one call (the guide's Derived/Test/ToyasCard.lean, 'card_holds'). Laid BY PROGRAM, IN A SANDBOX (cutbox-door.mjs). By AI agents, Wed Nov 11 2026. No macro, syntax, notation, axiom, sorry.
-/
import Derived.Test.YtkdcldnbdhfobaaDoorRows
import GoSem.ClaimSeven
namespace Go.Proofs.YtkdcldnbdhfobaaDoor
namespace Rows

/-- THE TIED CARD OF 'landaulaw5.MapAny'. -/
def mapAnyCard : Claim7 := { stood := { row := mapAnyRow, standIns := [], harness := (true, "5bf1bd26b479207e873df48b5330bf6afe9e36ced5adc65025e9336a32f8cff6"), looks := true }, kinds := [], alts := [], laidByText := true, laidKinds := [.data, .data, .data, .data, .sentinel, .sentinel, .pinned], laidTests := true, laidLooks := .later }
def MapAnyCardSaid : Prop := Claim7.holds Tryd.pinned (.plain (OpenSpec.ofChange mapAnySpec)) mapAnyCard

/-- THE TIED CARD OF 'landaulaw5.MapWords'. -/
def mapWordsCard : Claim7 := { stood := { row := mapWordsRow, standIns := [], harness := (true, "5bf1bd26b479207e873df48b5330bf6afe9e36ced5adc65025e9336a32f8cff6"), looks := true }, kinds := [], alts := [], laidByText := true, laidKinds := [.data, .data, .data, .data, .sentinel, .sentinel, .pinned], laidTests := true, laidLooks := .later }
def MapWordsCardSaid : Prop := Claim7.holds Tryd.pinned (.plain (OpenSpec.ofChange mapWordsSpec)) mapWordsCard

/-- THE TIED CARD OF 'landaulaw5.MapParts'. -/
def mapPartsCard : Claim7 := { stood := { row := mapPartsRow, standIns := [], harness := (true, "5bf1bd26b479207e873df48b5330bf6afe9e36ced5adc65025e9336a32f8cff6"), looks := true }, kinds := [], alts := [], laidByText := true, laidKinds := [.data, .data, .data, .data, .sentinel, .sentinel, .pinned], laidTests := true, laidLooks := .later }
def MapPartsCardSaid : Prop := Claim7.holds Tryd.pinned (.plain (OpenSpec.ofChange mapPartsSpec)) mapPartsCard

/-- THE TIED CARD OF 'landaulaw5.MapGrows'. -/
def mapGrowsCard : Claim7 := { stood := { row := mapGrowsRow, standIns := [], harness := (true, "5bf1bd26b479207e873df48b5330bf6afe9e36ced5adc65025e9336a32f8cff6"), looks := true }, kinds := [], alts := [], laidByText := true, laidKinds := [.data, .data, .data, .data, .sentinel, .sentinel, .pinned], laidTests := true, laidLooks := .later }
def MapGrowsCardSaid : Prop := Claim7.holds Tryd.pinned (.plain (OpenSpec.ofChange mapGrowsSpec)) mapGrowsCard

/-- THE TIED CARD OF 'landaulaw5.MapWhole'. -/
def mapWholeCard : Claim7 := { stood := { row := mapWholeRow, standIns := [], harness := (true, "5bf1bd26b479207e873df48b5330bf6afe9e36ced5adc65025e9336a32f8cff6"), looks := true }, kinds := [], alts := [], laidByText := true, laidKinds := [.data, .data, .data, .data, .sentinel, .sentinel, .pinned], laidTests := true, laidLooks := .later }
def MapWholeCardSaid : Prop := Claim7.holds Tryd.pinned (.plain (OpenSpec.ofChange mapWholeSpec)) mapWholeCard

/-- THE SECOND FORM's CARD OF 'landaulaw5.MapAny'. -/
def mapAnyUptoCard : Claim7 := { stood := { row := mapAnyUptoRow, standIns := [], harness := (true, "5bf1bd26b479207e873df48b5330bf6afe9e36ced5adc65025e9336a32f8cff6"), looks := true }, kinds := [], alts := [], laidByText := true, laidKinds := [.data, .data, .data, .data, .sentinel, .sentinel, .pinned], laidTests := true, laidLooks := .later }
def MapAnyUptoCardSaid : Prop := Claim7.holds Tryd.pinned (.plain (OpenSpec.upto mapAnySpec)) mapAnyUptoCard

/-- THE SECOND FORM's CARD OF 'landaulaw5.MapWords'. -/
def mapWordsUptoCard : Claim7 := { stood := { row := mapWordsUptoRow, standIns := [], harness := (true, "5bf1bd26b479207e873df48b5330bf6afe9e36ced5adc65025e9336a32f8cff6"), looks := true }, kinds := [], alts := [], laidByText := true, laidKinds := [.data, .data, .data, .data, .sentinel, .sentinel, .pinned], laidTests := true, laidLooks := .later }
def MapWordsUptoCardSaid : Prop := Claim7.holds Tryd.pinned (.plain (OpenSpec.upto mapWordsSpec)) mapWordsUptoCard

/-- THE SECOND FORM's CARD OF 'landaulaw5.MapParts'. -/
def mapPartsUptoCard : Claim7 := { stood := { row := mapPartsUptoRow, standIns := [], harness := (true, "5bf1bd26b479207e873df48b5330bf6afe9e36ced5adc65025e9336a32f8cff6"), looks := true }, kinds := [], alts := [], laidByText := true, laidKinds := [.data, .data, .data, .data, .sentinel, .sentinel, .pinned], laidTests := true, laidLooks := .later }
def MapPartsUptoCardSaid : Prop := Claim7.holds Tryd.pinned (.plain (OpenSpec.upto mapPartsSpec)) mapPartsUptoCard

/-- THE SECOND FORM's CARD OF 'landaulaw5.MapGrows'. -/
def mapGrowsUptoCard : Claim7 := { stood := { row := mapGrowsUptoRow, standIns := [], harness := (true, "5bf1bd26b479207e873df48b5330bf6afe9e36ced5adc65025e9336a32f8cff6"), looks := true }, kinds := [], alts := [], laidByText := true, laidKinds := [.data, .data, .data, .data, .sentinel, .sentinel, .pinned], laidTests := true, laidLooks := .later }
def MapGrowsUptoCardSaid : Prop := Claim7.holds Tryd.pinned (.plain (OpenSpec.upto mapGrowsSpec)) mapGrowsUptoCard

/-- THE SECOND FORM's CARD OF 'landaulaw5.MapWhole'. -/
def mapWholeUptoCard : Claim7 := { stood := { row := mapWholeUptoRow, standIns := [], harness := (true, "5bf1bd26b479207e873df48b5330bf6afe9e36ced5adc65025e9336a32f8cff6"), looks := true }, kinds := [], alts := [], laidByText := true, laidKinds := [.data, .data, .data, .data, .sentinel, .sentinel, .pinned], laidTests := true, laidLooks := .later }
def MapWholeUptoCardSaid : Prop := Claim7.holds Tryd.pinned (.plain (OpenSpec.upto mapWholeSpec)) mapWholeUptoCard
end Rows
end Go.Proofs.YtkdcldnbdhfobaaDoor
