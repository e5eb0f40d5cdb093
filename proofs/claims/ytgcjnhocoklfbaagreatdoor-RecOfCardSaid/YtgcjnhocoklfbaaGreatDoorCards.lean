/-
  DERIVED. GIVEN WITH THE SEED: THE CARDS: each row of YtgcjnhocoklfbaaGreatDoorRows.lean that lists a variable, with what it lists TIED to the program's text (the seventh form; the later family's looks); each row that meets fmt, with fmt's text TOLD by the authors' own Lean function (tested against real Go, not proved from fmt's source: count such statements apart). THE CARD IS WHAT COUNTS. Prove the row's statement (the work); the ties are given (YtgcjnhocoklfbaaGreatDoorTie.lean); close each card by the builder's one call (the guide's Derived/Test/ToyasCard.lean, 'card_holds'). Laid BY PROGRAM, IN A SANDBOX (cutbox-door.mjs). By AI agents, Wed Nov 11 2026. No macro, syntax, notation, axiom, sorry.
-/
import Derived.Test.YtgcjnhocoklfbaaGreatDoorRows
import GoSem.ClaimSeven
namespace Go.Proofs.YtgcjnhocoklfbaaGreatDoor
namespace Rows

/-- THE TIED CARD OF 'landaulaw2.RecAny'. -/
def recAnyCard : Claim7 := { stood := { row := recAnyRow, standIns := [], harness := (true, "927c3b41054b2cef1e1a4e56666995ddd32b8337abec526f954edb206a79427f"), looks := true }, kinds := [], alts := [], laidByText := true, laidKinds := [.data, .data, .data, .data, .sentinel, .sentinel, .pinned], laidTests := true, laidLooks := .later }
def RecAnyCardSaid : Prop := Claim7.holds Tryz.pinned (.plain (OpenSpec.ofChange recAnySpec)) recAnyCard

/-- THE TIED CARD OF 'landaulaw2.RecTwo'. -/
def recTwoCard : Claim7 := { stood := { row := recTwoRow, standIns := [], harness := (true, "927c3b41054b2cef1e1a4e56666995ddd32b8337abec526f954edb206a79427f"), looks := true }, kinds := [], alts := [], laidByText := true, laidKinds := [.data, .data, .data, .data, .sentinel, .sentinel, .pinned], laidTests := true, laidLooks := .later }
def RecTwoCardSaid : Prop := Claim7.holds Tryz.pinned (.plain (OpenSpec.ofChange recTwoSpec)) recTwoCard

/-- THE TIED CARD OF 'landaulaw2.RecOf'. -/
def recOfCard : Claim7 := { stood := { row := recOfRow, standIns := [], harness := (true, "927c3b41054b2cef1e1a4e56666995ddd32b8337abec526f954edb206a79427f"), looks := true }, kinds := [], alts := [], laidByText := true, laidKinds := [.data, .data, .data, .data, .sentinel, .sentinel, .pinned], laidTests := true, laidLooks := .later }
def RecOfCardSaid : Prop := Claim7.holds Tryz.pinned (.plain (OpenSpec.ofChange recOfSpec)) recOfCard

/-- THE TIED CARD OF 'landaulaw2.RecKeys'. -/
def recKeysCard : Claim7 := { stood := { row := recKeysRow, standIns := [], harness := (true, "927c3b41054b2cef1e1a4e56666995ddd32b8337abec526f954edb206a79427f"), looks := true }, kinds := [], alts := [], laidByText := true, laidKinds := [.data, .data, .data, .data, .sentinel, .sentinel, .pinned], laidTests := true, laidLooks := .later }
def RecKeysCardSaid : Prop := Claim7.holds Tryz.pinned (.plain (OpenSpec.ofChange recKeysSpec)) recKeysCard

/-- THE TIED CARD OF 'landaulaw2.RecDeps'. -/
def recDepsCard : Claim7 := { stood := { row := recDepsRow, standIns := [], harness := (true, "927c3b41054b2cef1e1a4e56666995ddd32b8337abec526f954edb206a79427f"), looks := true }, kinds := [], alts := [], laidByText := true, laidKinds := [.data, .data, .data, .data, .sentinel, .sentinel, .pinned], laidTests := true, laidLooks := .later }
def RecDepsCardSaid : Prop := Claim7.holds Tryz.pinned (.plain (OpenSpec.ofChange recDepsSpec)) recDepsCard

/-- THE TIED CARD OF 'landaulaw2.RecSorted'. -/
def recSortedCard : Claim7 := { stood := { row := recSortedRow, standIns := [], harness := (true, "927c3b41054b2cef1e1a4e56666995ddd32b8337abec526f954edb206a79427f"), looks := true }, kinds := [], alts := [], laidByText := true, laidKinds := [.data, .data, .data, .data, .sentinel, .sentinel, .pinned], laidTests := true, laidLooks := .later }
def RecSortedCardSaid : Prop := Claim7.holds Tryz.pinned (.plain (OpenSpec.ofChange recSortedSpec)) recSortedCard

/-- THE TIED CARD OF 'landaulaw2.RecForms'. -/
def recFormsCard : Claim7 := { stood := { row := recFormsRow, standIns := [], harness := (true, "927c3b41054b2cef1e1a4e56666995ddd32b8337abec526f954edb206a79427f"), looks := true }, kinds := [], alts := [], laidByText := true, laidKinds := [.data, .data, .data, .data, .sentinel, .sentinel, .pinned], laidTests := true, laidLooks := .later }
def RecFormsCardSaid : Prop := Claim7.holds Tryz.pinned (.plain (OpenSpec.ofChange recFormsSpec)) recFormsCard

/-- THE SECOND FORM's CARD OF 'landaulaw2.RecAny'. -/
def recAnyUptoCard : Claim7 := { stood := { row := recAnyUptoRow, standIns := [], harness := (true, "927c3b41054b2cef1e1a4e56666995ddd32b8337abec526f954edb206a79427f"), looks := true }, kinds := [], alts := [], laidByText := true, laidKinds := [.data, .data, .data, .data, .sentinel, .sentinel, .pinned], laidTests := true, laidLooks := .later }
def RecAnyUptoCardSaid : Prop := Claim7.holds Tryz.pinned (.plain (OpenSpec.upto recAnySpec)) recAnyUptoCard

/-- THE SECOND FORM's CARD OF 'landaulaw2.RecTwo'. -/
def recTwoUptoCard : Claim7 := { stood := { row := recTwoUptoRow, standIns := [], harness := (true, "927c3b41054b2cef1e1a4e56666995ddd32b8337abec526f954edb206a79427f"), looks := true }, kinds := [], alts := [], laidByText := true, laidKinds := [.data, .data, .data, .data, .sentinel, .sentinel, .pinned], laidTests := true, laidLooks := .later }
def RecTwoUptoCardSaid : Prop := Claim7.holds Tryz.pinned (.plain (OpenSpec.upto recTwoSpec)) recTwoUptoCard

/-- THE SECOND FORM's CARD OF 'landaulaw2.RecOf'. -/
def recOfUptoCard : Claim7 := { stood := { row := recOfUptoRow, standIns := [], harness := (true, "927c3b41054b2cef1e1a4e56666995ddd32b8337abec526f954edb206a79427f"), looks := true }, kinds := [], alts := [], laidByText := true, laidKinds := [.data, .data, .data, .data, .sentinel, .sentinel, .pinned], laidTests := true, laidLooks := .later }
def RecOfUptoCardSaid : Prop := Claim7.holds Tryz.pinned (.plain (OpenSpec.upto recOfSpec)) recOfUptoCard

/-- THE SECOND FORM's CARD OF 'landaulaw2.RecKeys'. -/
def recKeysUptoCard : Claim7 := { stood := { row := recKeysUptoRow, standIns := [], harness := (true, "927c3b41054b2cef1e1a4e56666995ddd32b8337abec526f954edb206a79427f"), looks := true }, kinds := [], alts := [], laidByText := true, laidKinds := [.data, .data, .data, .data, .sentinel, .sentinel, .pinned], laidTests := true, laidLooks := .later }
def RecKeysUptoCardSaid : Prop := Claim7.holds Tryz.pinned (.plain (OpenSpec.upto recKeysSpec)) recKeysUptoCard

/-- THE SECOND FORM's CARD OF 'landaulaw2.RecDeps'. -/
def recDepsUptoCard : Claim7 := { stood := { row := recDepsUptoRow, standIns := [], harness := (true, "927c3b41054b2cef1e1a4e56666995ddd32b8337abec526f954edb206a79427f"), looks := true }, kinds := [], alts := [], laidByText := true, laidKinds := [.data, .data, .data, .data, .sentinel, .sentinel, .pinned], laidTests := true, laidLooks := .later }
def RecDepsUptoCardSaid : Prop := Claim7.holds Tryz.pinned (.plain (OpenSpec.upto recDepsSpec)) recDepsUptoCard

/-- THE SECOND FORM's CARD OF 'landaulaw2.RecSorted'. -/
def recSortedUptoCard : Claim7 := { stood := { row := recSortedUptoRow, standIns := [], harness := (true, "927c3b41054b2cef1e1a4e56666995ddd32b8337abec526f954edb206a79427f"), looks := true }, kinds := [], alts := [], laidByText := true, laidKinds := [.data, .data, .data, .data, .sentinel, .sentinel, .pinned], laidTests := true, laidLooks := .later }
def RecSortedUptoCardSaid : Prop := Claim7.holds Tryz.pinned (.plain (OpenSpec.upto recSortedSpec)) recSortedUptoCard

/-- THE SECOND FORM's CARD OF 'landaulaw2.RecForms'. -/
def recFormsUptoCard : Claim7 := { stood := { row := recFormsUptoRow, standIns := [], harness := (true, "927c3b41054b2cef1e1a4e56666995ddd32b8337abec526f954edb206a79427f"), looks := true }, kinds := [], alts := [], laidByText := true, laidKinds := [.data, .data, .data, .data, .sentinel, .sentinel, .pinned], laidTests := true, laidLooks := .later }
def RecFormsUptoCardSaid : Prop := Claim7.holds Tryz.pinned (.plain (OpenSpec.upto recFormsSpec)) recFormsUptoCard
end Rows
end Go.Proofs.YtgcjnhocoklfbaaGreatDoor
