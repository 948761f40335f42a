/-
  DERIVED. GIVEN WITH THE SEED: THE CARDS: each row of YtocffknoeknabaaGreatDoorRows.lean that lists a variable, with what it lists TIED to the program's text (the seventh form; the later family's looks); each row that meets fmt, with fmt's text TOLD by the authors' own Lean function (tested against real Go, not proved from fmt's source: count such statements apart). THE CARD IS WHAT COUNTS. Prove the row's statement (the work); the ties are given (YtocffknoeknabaaGreatDoorTie.lean); close each card by the builder's one call (the guide's Derived/Test/ToyasCard.lean, 'card_holds'). Laid BY PROGRAM, IN A SANDBOX (cutbox-door.mjs). By AI agents, Wed Nov 11 2026. No macro, syntax, notation, axiom, sorry.
-/
import Derived.Test.YtocffknoeknabaaGreatDoorRows
import GoSem.ClaimSeven
namespace Go.Proofs.YtocffknoeknabaaGreatDoor
namespace Rows

/-- THE TIED CARD OF 'stockyardlaw18.ChangelistBack'. -/
def changelistBackCard : Claim7 := { stood := { row := changelistBackRow, standIns := [], harness := (true, "6d614425b53780e895e33c352eb526dfb216b14186f145a099f4948bc594d182"), looks := false }, kinds := [], alts := [], laidByText := true, laidKinds := [.data, .pinned], laidTests := true, laidLooks := .later }
def ChangelistBackCardSaid : Prop := Claim7.holds Tryz.pinned (.plain (OpenSpec.ofChange changelistBackSpec)) changelistBackCard

/-- THE TIED CARD OF 'stockyardlaw18.ChangelistAttaches'. -/
def changelistAttachesCard : Claim7 := { stood := { row := changelistAttachesRow, standIns := [], harness := (true, "6d614425b53780e895e33c352eb526dfb216b14186f145a099f4948bc594d182"), looks := false }, kinds := [], alts := [], laidByText := true, laidKinds := [.data, .pinned], laidTests := true, laidLooks := .later }
def ChangelistAttachesCardSaid : Prop := Claim7.holds Tryz.pinned (.plain (OpenSpec.ofChange changelistAttachesSpec)) changelistAttachesCard

/-- THE TIED CARD OF 'stockyardlaw18.ChangelistAccepted'. -/
def changelistAcceptedCard : Claim7 := { stood := { row := changelistAcceptedRow, standIns := [], harness := (true, "6d614425b53780e895e33c352eb526dfb216b14186f145a099f4948bc594d182"), looks := false }, kinds := [], alts := [], laidByText := true, laidKinds := [.data, .pinned], laidTests := true, laidLooks := .later }
def ChangelistAcceptedCardSaid : Prop := Claim7.holds Tryz.pinned (.plain (OpenSpec.ofChange changelistAcceptedSpec)) changelistAcceptedCard

/-- THE SECOND FORM's CARD OF 'stockyardlaw18.ChangelistBack'. -/
def changelistBackUptoCard : Claim7 := { stood := { row := changelistBackUptoRow, standIns := [], harness := (true, "6d614425b53780e895e33c352eb526dfb216b14186f145a099f4948bc594d182"), looks := false }, kinds := [], alts := [], laidByText := true, laidKinds := [.data, .pinned], laidTests := true, laidLooks := .later }
def ChangelistBackUptoCardSaid : Prop := Claim7.holds Tryz.pinned (.plain (OpenSpec.upto changelistBackSpec)) changelistBackUptoCard

/-- THE SECOND FORM's CARD OF 'stockyardlaw18.ChangelistAttaches'. -/
def changelistAttachesUptoCard : Claim7 := { stood := { row := changelistAttachesUptoRow, standIns := [], harness := (true, "6d614425b53780e895e33c352eb526dfb216b14186f145a099f4948bc594d182"), looks := false }, kinds := [], alts := [], laidByText := true, laidKinds := [.data, .pinned], laidTests := true, laidLooks := .later }
def ChangelistAttachesUptoCardSaid : Prop := Claim7.holds Tryz.pinned (.plain (OpenSpec.upto changelistAttachesSpec)) changelistAttachesUptoCard

/-- THE SECOND FORM's CARD OF 'stockyardlaw18.ChangelistAccepted'. -/
def changelistAcceptedUptoCard : Claim7 := { stood := { row := changelistAcceptedUptoRow, standIns := [], harness := (true, "6d614425b53780e895e33c352eb526dfb216b14186f145a099f4948bc594d182"), looks := false }, kinds := [], alts := [], laidByText := true, laidKinds := [.data, .pinned], laidTests := true, laidLooks := .later }
def ChangelistAcceptedUptoCardSaid : Prop := Claim7.holds Tryz.pinned (.plain (OpenSpec.upto changelistAcceptedSpec)) changelistAcceptedUptoCard
end Rows
end Go.Proofs.YtocffknoeknabaaGreatDoor
