/-
  DERIVED. GIVEN WITH THE SEED: THE CARDS: each row of YtifieekfojbkhaaGreatDoorRows.lean that lists a variable, with what it lists TIED to the program's text (the seventh form; the later family's looks); each row that meets fmt, with fmt's text TOLD by the authors' own Lean function (tested against real Go, not proved from fmt's source: count such statements apart). THE CARD IS WHAT COUNTS. Prove the row's statement (the work); the ties are given (YtifieekfojbkhaaGreatDoorTie.lean); close each card by the builder's one call (the guide's Derived/Test/ToyasCard.lean, 'card_holds'). Laid BY PROGRAM, IN A SANDBOX (cutbox-door.mjs). By AI agents, Wed Nov 11 2026. No macro, syntax, notation, axiom, sorry.
-/
import Derived.Test.YtifieekfojbkhaaGreatDoorRows
import GoSem.ClaimSeven
namespace Go.Proofs.YtifieekfojbkhaaGreatDoor
namespace Rows

/-- THE TIED CARD OF 'shotlinelaw06.MixTexts'. -/
def mixTextsCard : Claim7 := { stood := { row := mixTextsRow, standIns := [], harness := (true, "c5a47729a7a57246b6f355538944b3cb2f0b8776a4410be75106aac0b5ed7257"), looks := true }, kinds := [], alts := [], laidByText := true, laidKinds := [.data, .data, .data, .data, .sentinel, .sentinel, .pinned], laidTests := true, laidLooks := .later }
def MixTextsCardSaid : Prop := Claim7.holds Tryz.pinned (.plain (OpenSpec.ofChange mixTextsSpec)) mixTextsCard

/-- THE SECOND FORM's CARD OF 'shotlinelaw06.MixTexts'. -/
def mixTextsUptoCard : Claim7 := { stood := { row := mixTextsUptoRow, standIns := [], harness := (true, "c5a47729a7a57246b6f355538944b3cb2f0b8776a4410be75106aac0b5ed7257"), looks := true }, kinds := [], alts := [], laidByText := true, laidKinds := [.data, .data, .data, .data, .sentinel, .sentinel, .pinned], laidTests := true, laidLooks := .later }
def MixTextsUptoCardSaid : Prop := Claim7.holds Tryz.pinned (.plain (OpenSpec.upto mixTextsSpec)) mixTextsUptoCard
end Rows
end Go.Proofs.YtifieekfojbkhaaGreatDoor
