/-
  DERIVED. GIVEN WITH THE SEED: THE CARDS: each row of YtjjdffafibonhaaGreatDoorRows.lean that lists a variable, with what it lists TIED to the program's text (the seventh form; the later family's looks); each row that meets fmt, with fmt's text TOLD by the authors' own Lean function (tested against real Go, not proved from fmt's source: count such statements apart). THE CARD IS WHAT COUNTS. Prove the row's statement (the work); the ties are given (YtjjdffafibonhaaGreatDoorTie.lean); close each card by the builder's one call (the guide's Derived/Test/ToyasCard.lean, 'card_holds'). Laid BY PROGRAM, IN A SANDBOX (cutbox-door.mjs). By AI agents, Wed Nov 11 2026. No macro, syntax, notation, axiom, sorry.
-/
import Derived.Test.YtjjdffafibonhaaGreatDoorRows
import GoSem.ClaimSeven
namespace Go.Proofs.YtjjdffafibonhaaGreatDoor
namespace Rows

/-- THE TIED CARD OF 'stockyardlaw34.HaveFull'. -/
def haveFullCard : Claim7 := { stood := { row := haveFullRow, standIns := [], harness := (true, "c92e38d68433b4b46751cf8a49761e2def4c3dec1059e10d8d9ef9eeaaeb975e"), looks := true }, kinds := [], alts := [], laidByText := true, laidKinds := [.data, .data, .data], laidTests := true, laidLooks := .later }
def HaveFullCardSaid : Prop := Claim7.holds Tryz.pinned (.plain (OpenSpec.ofChange haveFullSpec)) haveFullCard

/-- THE TIED CARD OF 'stockyardlaw34.HaveEvery'. -/
def haveEveryCard : Claim7 := { stood := { row := haveEveryRow, standIns := [], harness := (true, "c92e38d68433b4b46751cf8a49761e2def4c3dec1059e10d8d9ef9eeaaeb975e"), looks := true }, kinds := [], alts := [], laidByText := true, laidKinds := [.data, .data, .data], laidTests := true, laidLooks := .later }
def HaveEveryCardSaid : Prop := Claim7.holds Tryz.pinned (.plain (OpenSpec.ofChange haveEverySpec)) haveEveryCard

/-- THE TIED CARD OF 'stockyardlaw34.HaveChecks'. -/
def haveChecksCard : Claim7 := { stood := { row := haveChecksRow, standIns := [], harness := (true, "c92e38d68433b4b46751cf8a49761e2def4c3dec1059e10d8d9ef9eeaaeb975e"), looks := true }, kinds := [], alts := [], laidByText := true, laidKinds := [.data, .data, .data, .data, .pinned], laidTests := true, laidLooks := .later }
def HaveChecksCardSaid : Prop := Claim7.holds Tryz.pinned (.plain (OpenSpec.ofChange haveChecksSpec)) haveChecksCard

/-- THE TIED CARD OF 'stockyardlaw34.HaveOne'. -/
def haveOneCard : Claim7 := { stood := { row := haveOneRow, standIns := [], harness := (true, "c92e38d68433b4b46751cf8a49761e2def4c3dec1059e10d8d9ef9eeaaeb975e"), looks := true }, kinds := [], alts := [], laidByText := true, laidKinds := [.data, .data, .data, .data, .pinned], laidTests := true, laidLooks := .later }
def HaveOneCardSaid : Prop := Claim7.holds Tryz.pinned (.plain (OpenSpec.ofChange haveOneSpec)) haveOneCard

/-- THE TIED CARD OF 'stockyardlaw34.HavePlays'. -/
def havePlaysCard : Claim7 := { stood := { row := havePlaysRow, standIns := [], harness := (true, "c92e38d68433b4b46751cf8a49761e2def4c3dec1059e10d8d9ef9eeaaeb975e"), looks := true }, kinds := [], alts := [], laidByText := true, laidKinds := [.data, .data, .data, .data, .pinned], laidTests := true, laidLooks := .later }
def HavePlaysCardSaid : Prop := Claim7.holds Tryz.pinned (.plain (OpenSpec.ofChange havePlaysSpec)) havePlaysCard

/-- THE TIED CARD OF 'stockyardlaw34.HaveKeeps'. -/
def haveKeepsCard : Claim7 := { stood := { row := haveKeepsRow, standIns := [], harness := (true, "c92e38d68433b4b46751cf8a49761e2def4c3dec1059e10d8d9ef9eeaaeb975e"), looks := true }, kinds := [], alts := [], laidByText := true, laidKinds := [.data, .data, .data, .data, .pinned], laidTests := true, laidLooks := .later }
def HaveKeepsCardSaid : Prop := Claim7.holds Tryz.pinned (.plain (OpenSpec.ofChange haveKeepsSpec)) haveKeepsCard

/-- THE TIED CARD OF 'stockyardlaw34.HaveSure'. -/
def haveSureCard : Claim7 := { stood := { row := haveSureRow, standIns := [], harness := (true, "c92e38d68433b4b46751cf8a49761e2def4c3dec1059e10d8d9ef9eeaaeb975e"), looks := true }, kinds := [], alts := [], laidByText := true, laidKinds := [.data, .data, .data, .data, .pinned], laidTests := true, laidLooks := .later }
def HaveSureCardSaid : Prop := Claim7.holds Tryz.pinned (.plain (OpenSpec.ofChange haveSureSpec)) haveSureCard

/-- THE SECOND FORM's CARD OF 'stockyardlaw34.HaveFull'. -/
def haveFullUptoCard : Claim7 := { stood := { row := haveFullUptoRow, standIns := [], harness := (true, "c92e38d68433b4b46751cf8a49761e2def4c3dec1059e10d8d9ef9eeaaeb975e"), looks := true }, kinds := [], alts := [], laidByText := true, laidKinds := [.data, .data, .data], laidTests := true, laidLooks := .later }
def HaveFullUptoCardSaid : Prop := Claim7.holds Tryz.pinned (.plain (OpenSpec.upto haveFullSpec)) haveFullUptoCard

/-- THE SECOND FORM's CARD OF 'stockyardlaw34.HaveEvery'. -/
def haveEveryUptoCard : Claim7 := { stood := { row := haveEveryUptoRow, standIns := [], harness := (true, "c92e38d68433b4b46751cf8a49761e2def4c3dec1059e10d8d9ef9eeaaeb975e"), looks := true }, kinds := [], alts := [], laidByText := true, laidKinds := [.data, .data, .data], laidTests := true, laidLooks := .later }
def HaveEveryUptoCardSaid : Prop := Claim7.holds Tryz.pinned (.plain (OpenSpec.upto haveEverySpec)) haveEveryUptoCard

/-- THE SECOND FORM's CARD OF 'stockyardlaw34.HaveChecks'. -/
def haveChecksUptoCard : Claim7 := { stood := { row := haveChecksUptoRow, standIns := [], harness := (true, "c92e38d68433b4b46751cf8a49761e2def4c3dec1059e10d8d9ef9eeaaeb975e"), looks := true }, kinds := [], alts := [], laidByText := true, laidKinds := [.data, .data, .data, .data, .pinned], laidTests := true, laidLooks := .later }
def HaveChecksUptoCardSaid : Prop := Claim7.holds Tryz.pinned (.plain (OpenSpec.upto haveChecksSpec)) haveChecksUptoCard

/-- THE SECOND FORM's CARD OF 'stockyardlaw34.HaveOne'. -/
def haveOneUptoCard : Claim7 := { stood := { row := haveOneUptoRow, standIns := [], harness := (true, "c92e38d68433b4b46751cf8a49761e2def4c3dec1059e10d8d9ef9eeaaeb975e"), looks := true }, kinds := [], alts := [], laidByText := true, laidKinds := [.data, .data, .data, .data, .pinned], laidTests := true, laidLooks := .later }
def HaveOneUptoCardSaid : Prop := Claim7.holds Tryz.pinned (.plain (OpenSpec.upto haveOneSpec)) haveOneUptoCard

/-- THE SECOND FORM's CARD OF 'stockyardlaw34.HavePlays'. -/
def havePlaysUptoCard : Claim7 := { stood := { row := havePlaysUptoRow, standIns := [], harness := (true, "c92e38d68433b4b46751cf8a49761e2def4c3dec1059e10d8d9ef9eeaaeb975e"), looks := true }, kinds := [], alts := [], laidByText := true, laidKinds := [.data, .data, .data, .data, .pinned], laidTests := true, laidLooks := .later }
def HavePlaysUptoCardSaid : Prop := Claim7.holds Tryz.pinned (.plain (OpenSpec.upto havePlaysSpec)) havePlaysUptoCard

/-- THE SECOND FORM's CARD OF 'stockyardlaw34.HaveKeeps'. -/
def haveKeepsUptoCard : Claim7 := { stood := { row := haveKeepsUptoRow, standIns := [], harness := (true, "c92e38d68433b4b46751cf8a49761e2def4c3dec1059e10d8d9ef9eeaaeb975e"), looks := true }, kinds := [], alts := [], laidByText := true, laidKinds := [.data, .data, .data, .data, .pinned], laidTests := true, laidLooks := .later }
def HaveKeepsUptoCardSaid : Prop := Claim7.holds Tryz.pinned (.plain (OpenSpec.upto haveKeepsSpec)) haveKeepsUptoCard

/-- THE SECOND FORM's CARD OF 'stockyardlaw34.HaveSure'. -/
def haveSureUptoCard : Claim7 := { stood := { row := haveSureUptoRow, standIns := [], harness := (true, "c92e38d68433b4b46751cf8a49761e2def4c3dec1059e10d8d9ef9eeaaeb975e"), looks := true }, kinds := [], alts := [], laidByText := true, laidKinds := [.data, .data, .data, .data, .pinned], laidTests := true, laidLooks := .later }
def HaveSureUptoCardSaid : Prop := Claim7.holds Tryz.pinned (.plain (OpenSpec.upto haveSureSpec)) haveSureUptoCard
end Rows
end Go.Proofs.YtjjdffafibonhaaGreatDoor
