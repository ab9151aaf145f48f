/-
  DERIVED. GIVEN WITH THE SEED: THE CARDS: each row of YtnhagbllecpkkaaGreatDoorRows.lean that lists a variable, with what it lists TIED to the program's text (the seventh form; the later family's looks); each row that meets fmt, with fmt's text TOLD by the authors' own Lean function (tested against real Go, not proved from fmt's source: count such statements apart). THE CARD IS WHAT COUNTS. Prove the row's statement (the work); the ties are given (YtnhagbllecpkkaaGreatDoorTie.lean); close each card by the builder's one call (the guide's Derived/Test/ToyasCard.lean, 'card_holds'). Laid BY PROGRAM, IN A SANDBOX (cutbox-door.mjs). By AI agents, Wed Nov 11 2026. No macro, syntax, notation, axiom, sorry.
-/
import Derived.Test.YtnhagbllecpkkaaGreatDoorRows
import GoSem.ClaimSeven
namespace Go.Proofs.YtnhagbllecpkkaaGreatDoor
namespace Rows

/-- THE TIED CARD OF 'shotlinelaw10.DeskFull'. -/
def deskFullCard : Claim7 := { stood := { row := deskFullRow, standIns := [], harness := (true, "69a7783838c3aa3ae57dc3b09513df65ff20e72c21de8302ac49da9e32506d1b"), looks := true }, kinds := [], alts := [], laidByText := true, laidKinds := [.data, .data, .data, .data, .sentinel, .sentinel, .mapped, .mappedDeep, .pinned], laidTests := true, laidLooks := .later }
def DeskFullCardSaid : Prop := Claim7.holds Tryz.pinned (.plain (OpenSpec.ofChange deskFullSpec)) deskFullCard

/-- THE TIED CARD OF 'shotlinelaw10.DeskRecovers'. -/
def deskRecoversCard : Claim7 := { stood := { row := deskRecoversRow, standIns := [], harness := (true, "69a7783838c3aa3ae57dc3b09513df65ff20e72c21de8302ac49da9e32506d1b"), looks := true }, kinds := [], alts := [], laidByText := true, laidKinds := [.data, .data, .data, .data, .sentinel, .sentinel, .mapped, .mappedDeep, .pinned], laidTests := true, laidLooks := .later }
def DeskRecoversCardSaid : Prop := Claim7.holds Tryz.pinned (.plain (OpenSpec.ofChange deskRecoversSpec)) deskRecoversCard

/-- THE TIED CARD OF 'shotlinelaw10.DeskJournals'. -/
def deskJournalsCard : Claim7 := { stood := { row := deskJournalsRow, standIns := [], harness := (true, "69a7783838c3aa3ae57dc3b09513df65ff20e72c21de8302ac49da9e32506d1b"), looks := true }, kinds := [], alts := [], laidByText := true, laidKinds := [.data, .data, .data, .data, .sentinel, .sentinel, .mapped, .mappedDeep, .pinned], laidTests := true, laidLooks := .later }
def DeskJournalsCardSaid : Prop := Claim7.holds Tryz.pinned (.plain (OpenSpec.ofChange deskJournalsSpec)) deskJournalsCard

/-- THE SECOND FORM's CARD OF 'shotlinelaw10.DeskFull'. -/
def deskFullUptoCard : Claim7 := { stood := { row := deskFullUptoRow, standIns := [], harness := (true, "69a7783838c3aa3ae57dc3b09513df65ff20e72c21de8302ac49da9e32506d1b"), looks := true }, kinds := [], alts := [], laidByText := true, laidKinds := [.data, .data, .data, .data, .sentinel, .sentinel, .mapped, .mappedDeep, .pinned], laidTests := true, laidLooks := .later }
def DeskFullUptoCardSaid : Prop := Claim7.holds Tryz.pinned (.plain (OpenSpec.upto deskFullSpec)) deskFullUptoCard

/-- THE SECOND FORM's CARD OF 'shotlinelaw10.DeskRecovers'. -/
def deskRecoversUptoCard : Claim7 := { stood := { row := deskRecoversUptoRow, standIns := [], harness := (true, "69a7783838c3aa3ae57dc3b09513df65ff20e72c21de8302ac49da9e32506d1b"), looks := true }, kinds := [], alts := [], laidByText := true, laidKinds := [.data, .data, .data, .data, .sentinel, .sentinel, .mapped, .mappedDeep, .pinned], laidTests := true, laidLooks := .later }
def DeskRecoversUptoCardSaid : Prop := Claim7.holds Tryz.pinned (.plain (OpenSpec.upto deskRecoversSpec)) deskRecoversUptoCard

/-- THE SECOND FORM's CARD OF 'shotlinelaw10.DeskJournals'. -/
def deskJournalsUptoCard : Claim7 := { stood := { row := deskJournalsUptoRow, standIns := [], harness := (true, "69a7783838c3aa3ae57dc3b09513df65ff20e72c21de8302ac49da9e32506d1b"), looks := true }, kinds := [], alts := [], laidByText := true, laidKinds := [.data, .data, .data, .data, .sentinel, .sentinel, .mapped, .mappedDeep, .pinned], laidTests := true, laidLooks := .later }
def DeskJournalsUptoCardSaid : Prop := Claim7.holds Tryz.pinned (.plain (OpenSpec.upto deskJournalsSpec)) deskJournalsUptoCard
end Rows
end Go.Proofs.YtnhagbllecpkkaaGreatDoor
