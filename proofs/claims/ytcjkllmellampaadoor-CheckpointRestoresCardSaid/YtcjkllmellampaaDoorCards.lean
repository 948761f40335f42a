/-
  DERIVED. GIVEN WITH THE SEED: THE CARDS: each row of YtcjkllmellampaaDoorRows.lean that lists a variable, with what it lists TIED to the program's text (the seventh form; the later family's looks); each row that meets fmt, with fmt's text TOLD by the authors' own Lean function (tested against real Go, not proved from fmt's source: count such statements apart). THE CARD IS WHAT COUNTS. Prove the row's statement (the work); the ties are given (YtcjkllmellampaaDoorTie.lean); close each card by the builder's one call (the guide's Derived/Test/ToyasCard.lean, 'card_holds'). Laid BY PROGRAM, IN A SANDBOX (cutbox-door.mjs). By AI agents, Wed Nov 11 2026. No macro, syntax, notation, axiom, sorry.
-/
import Derived.Test.YtcjkllmellampaaDoorRows
import GoSem.ClaimSeven
namespace Go.Proofs.YtcjkllmellampaaDoor
namespace Rows

/-- THE TIED CARD OF 'stockyardlaw32.CheckpointPlays'. -/
def checkpointPlaysCard : Claim7 := { stood := { row := checkpointPlaysRow, standIns := [], harness := (true, "1e476183ecdb24a86f8c970b10112c22317fb9c5f6ea6efea4fb9a5adc807238"), looks := true }, kinds := [], alts := [], laidByText := true, laidKinds := [.data, .data, .data], laidTests := true, laidLooks := .later }
def CheckpointPlaysCardSaid : Prop := Claim7.holds Tryd.pinned (.plain (OpenSpec.ofChange checkpointPlaysSpec)) checkpointPlaysCard

/-- THE TIED CARD OF 'stockyardlaw32.CheckpointSizes'. -/
def checkpointSizesCard : Claim7 := { stood := { row := checkpointSizesRow, standIns := [], harness := (true, "1e476183ecdb24a86f8c970b10112c22317fb9c5f6ea6efea4fb9a5adc807238"), looks := true }, kinds := [], alts := [], laidByText := true, laidKinds := [.data, .data, .data], laidTests := true, laidLooks := .later }
def CheckpointSizesCardSaid : Prop := Claim7.holds Tryd.pinned (.plain (OpenSpec.ofChange checkpointSizesSpec)) checkpointSizesCard

/-- THE TIED CARD OF 'stockyardlaw32.CheckpointKeeps'. -/
def checkpointKeepsCard : Claim7 := { stood := { row := checkpointKeepsRow, standIns := [], harness := (true, "1e476183ecdb24a86f8c970b10112c22317fb9c5f6ea6efea4fb9a5adc807238"), looks := true }, kinds := [], alts := [], laidByText := true, laidKinds := [.data, .data, .data], laidTests := true, laidLooks := .later }
def CheckpointKeepsCardSaid : Prop := Claim7.holds Tryd.pinned (.plain (OpenSpec.ofChange checkpointKeepsSpec)) checkpointKeepsCard

/-- THE TIED CARD OF 'stockyardlaw32.CheckpointEvery'. -/
def checkpointEveryCard : Claim7 := { stood := { row := checkpointEveryRow, standIns := [], harness := (true, "1e476183ecdb24a86f8c970b10112c22317fb9c5f6ea6efea4fb9a5adc807238"), looks := true }, kinds := [], alts := [], laidByText := true, laidKinds := [.data, .data, .data], laidTests := true, laidLooks := .later }
def CheckpointEveryCardSaid : Prop := Claim7.holds Tryd.pinned (.plain (OpenSpec.ofChange checkpointEverySpec)) checkpointEveryCard

/-- THE TIED CARD OF 'stockyardlaw32.CheckpointNames'. -/
def checkpointNamesCard : Claim7 := { stood := { row := checkpointNamesRow, standIns := [], harness := (true, "1e476183ecdb24a86f8c970b10112c22317fb9c5f6ea6efea4fb9a5adc807238"), looks := true }, kinds := [], alts := [], laidByText := true, laidKinds := [.data, .data, .data], laidTests := true, laidLooks := .later }
def CheckpointNamesCardSaid : Prop := Claim7.holds Tryd.pinned (.plain (OpenSpec.ofChange checkpointNamesSpec)) checkpointNamesCard

/-- THE TIED CARD OF 'stockyardlaw32.CheckpointRecovers'. -/
def checkpointRecoversCard : Claim7 := { stood := { row := checkpointRecoversRow, standIns := [], harness := (true, "1e476183ecdb24a86f8c970b10112c22317fb9c5f6ea6efea4fb9a5adc807238"), looks := true }, kinds := [], alts := [], laidByText := true, laidKinds := [.data, .data, .data], laidTests := true, laidLooks := .later }
def CheckpointRecoversCardSaid : Prop := Claim7.holds Tryd.pinned (.plain (OpenSpec.ofChange checkpointRecoversSpec)) checkpointRecoversCard

/-- THE TIED CARD OF 'stockyardlaw32.CheckpointApart'. -/
def checkpointApartCard : Claim7 := { stood := { row := checkpointApartRow, standIns := [], harness := (true, "1e476183ecdb24a86f8c970b10112c22317fb9c5f6ea6efea4fb9a5adc807238"), looks := true }, kinds := [], alts := [], laidByText := true, laidKinds := [.data, .data, .data], laidTests := true, laidLooks := .later }
def CheckpointApartCardSaid : Prop := Claim7.holds Tryd.pinned (.plain (OpenSpec.ofChange checkpointApartSpec)) checkpointApartCard

/-- THE TIED CARD OF 'stockyardlaw32.CheckpointRestores'. -/
def checkpointRestoresCard : Claim7 := { stood := { row := checkpointRestoresRow, standIns := [], harness := (true, "1e476183ecdb24a86f8c970b10112c22317fb9c5f6ea6efea4fb9a5adc807238"), looks := true }, kinds := [], alts := [], laidByText := true, laidKinds := [.data, .data, .data], laidTests := true, laidLooks := .later }
def CheckpointRestoresCardSaid : Prop := Claim7.holds Tryd.pinned (.plain (OpenSpec.ofChange checkpointRestoresSpec)) checkpointRestoresCard

/-- THE SECOND FORM's CARD OF 'stockyardlaw32.CheckpointPlays'. -/
def checkpointPlaysUptoCard : Claim7 := { stood := { row := checkpointPlaysUptoRow, standIns := [], harness := (true, "1e476183ecdb24a86f8c970b10112c22317fb9c5f6ea6efea4fb9a5adc807238"), looks := true }, kinds := [], alts := [], laidByText := true, laidKinds := [.data, .data, .data], laidTests := true, laidLooks := .later }
def CheckpointPlaysUptoCardSaid : Prop := Claim7.holds Tryd.pinned (.plain (OpenSpec.upto checkpointPlaysSpec)) checkpointPlaysUptoCard

/-- THE SECOND FORM's CARD OF 'stockyardlaw32.CheckpointSizes'. -/
def checkpointSizesUptoCard : Claim7 := { stood := { row := checkpointSizesUptoRow, standIns := [], harness := (true, "1e476183ecdb24a86f8c970b10112c22317fb9c5f6ea6efea4fb9a5adc807238"), looks := true }, kinds := [], alts := [], laidByText := true, laidKinds := [.data, .data, .data], laidTests := true, laidLooks := .later }
def CheckpointSizesUptoCardSaid : Prop := Claim7.holds Tryd.pinned (.plain (OpenSpec.upto checkpointSizesSpec)) checkpointSizesUptoCard

/-- THE SECOND FORM's CARD OF 'stockyardlaw32.CheckpointKeeps'. -/
def checkpointKeepsUptoCard : Claim7 := { stood := { row := checkpointKeepsUptoRow, standIns := [], harness := (true, "1e476183ecdb24a86f8c970b10112c22317fb9c5f6ea6efea4fb9a5adc807238"), looks := true }, kinds := [], alts := [], laidByText := true, laidKinds := [.data, .data, .data], laidTests := true, laidLooks := .later }
def CheckpointKeepsUptoCardSaid : Prop := Claim7.holds Tryd.pinned (.plain (OpenSpec.upto checkpointKeepsSpec)) checkpointKeepsUptoCard

/-- THE SECOND FORM's CARD OF 'stockyardlaw32.CheckpointEvery'. -/
def checkpointEveryUptoCard : Claim7 := { stood := { row := checkpointEveryUptoRow, standIns := [], harness := (true, "1e476183ecdb24a86f8c970b10112c22317fb9c5f6ea6efea4fb9a5adc807238"), looks := true }, kinds := [], alts := [], laidByText := true, laidKinds := [.data, .data, .data], laidTests := true, laidLooks := .later }
def CheckpointEveryUptoCardSaid : Prop := Claim7.holds Tryd.pinned (.plain (OpenSpec.upto checkpointEverySpec)) checkpointEveryUptoCard

/-- THE SECOND FORM's CARD OF 'stockyardlaw32.CheckpointNames'. -/
def checkpointNamesUptoCard : Claim7 := { stood := { row := checkpointNamesUptoRow, standIns := [], harness := (true, "1e476183ecdb24a86f8c970b10112c22317fb9c5f6ea6efea4fb9a5adc807238"), looks := true }, kinds := [], alts := [], laidByText := true, laidKinds := [.data, .data, .data], laidTests := true, laidLooks := .later }
def CheckpointNamesUptoCardSaid : Prop := Claim7.holds Tryd.pinned (.plain (OpenSpec.upto checkpointNamesSpec)) checkpointNamesUptoCard

/-- THE SECOND FORM's CARD OF 'stockyardlaw32.CheckpointRecovers'. -/
def checkpointRecoversUptoCard : Claim7 := { stood := { row := checkpointRecoversUptoRow, standIns := [], harness := (true, "1e476183ecdb24a86f8c970b10112c22317fb9c5f6ea6efea4fb9a5adc807238"), looks := true }, kinds := [], alts := [], laidByText := true, laidKinds := [.data, .data, .data], laidTests := true, laidLooks := .later }
def CheckpointRecoversUptoCardSaid : Prop := Claim7.holds Tryd.pinned (.plain (OpenSpec.upto checkpointRecoversSpec)) checkpointRecoversUptoCard

/-- THE SECOND FORM's CARD OF 'stockyardlaw32.CheckpointApart'. -/
def checkpointApartUptoCard : Claim7 := { stood := { row := checkpointApartUptoRow, standIns := [], harness := (true, "1e476183ecdb24a86f8c970b10112c22317fb9c5f6ea6efea4fb9a5adc807238"), looks := true }, kinds := [], alts := [], laidByText := true, laidKinds := [.data, .data, .data], laidTests := true, laidLooks := .later }
def CheckpointApartUptoCardSaid : Prop := Claim7.holds Tryd.pinned (.plain (OpenSpec.upto checkpointApartSpec)) checkpointApartUptoCard

/-- THE SECOND FORM's CARD OF 'stockyardlaw32.CheckpointRestores'. -/
def checkpointRestoresUptoCard : Claim7 := { stood := { row := checkpointRestoresUptoRow, standIns := [], harness := (true, "1e476183ecdb24a86f8c970b10112c22317fb9c5f6ea6efea4fb9a5adc807238"), looks := true }, kinds := [], alts := [], laidByText := true, laidKinds := [.data, .data, .data], laidTests := true, laidLooks := .later }
def CheckpointRestoresUptoCardSaid : Prop := Claim7.holds Tryd.pinned (.plain (OpenSpec.upto checkpointRestoresSpec)) checkpointRestoresUptoCard
end Rows
end Go.Proofs.YtcjkllmellampaaDoor
