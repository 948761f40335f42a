/-
  DERIVED. GIVEN WITH THE SEED: THE CARDS: each row of YtocffknoeknabaaDoorRows.lean that lists a variable, with what it lists TIED to the program's text (the seventh form; the later family's looks); each row that meets fmt, with fmt's text TOLD by the authors' own Lean function (tested against real Go, not proved from fmt's source: count such statements apart). THE CARD IS WHAT COUNTS. Prove the row's statement (the work); the ties are given (YtocffknoeknabaaDoorTie.lean); close each card by the builder's one call (the guide's Derived/Test/ToyasCard.lean, 'card_holds'). Laid BY PROGRAM, IN A SANDBOX (cutbox-door.mjs). By AI agents, Wed Nov 11 2026. No macro, syntax, notation, axiom, sorry.
-/
import Derived.Test.YtocffknoeknabaaDoorRows
import GoSem.ClaimSeven
namespace Go.Proofs.YtocffknoeknabaaDoor
namespace Rows

/-- THE TIED CARD OF 'stockyardlaw18.ChangelistChain'. -/
def changelistChainCard : Claim7 := { stood := { row := changelistChainRow, standIns := [], harness := (true, "e2c0c3e8f2a37e6352127fff2921915cfd069c06390556427c934ef3619aed53"), looks := false }, kinds := [], alts := [], laidByText := true, laidKinds := [.data, .pinned], laidTests := true, laidLooks := .later }
def ChangelistChainCardSaid : Prop := Claim7.holds Tryd.pinned (.plain (OpenSpec.ofChange changelistChainSpec)) changelistChainCard

/-- THE TIED CARD OF 'stockyardlaw18.ChangelistStales'. -/
def changelistStalesCard : Claim7 := { stood := { row := changelistStalesRow, standIns := [], harness := (true, "e2c0c3e8f2a37e6352127fff2921915cfd069c06390556427c934ef3619aed53"), looks := false }, kinds := [], alts := [], laidByText := true, laidKinds := [.data, .pinned], laidTests := true, laidLooks := .later }
def ChangelistStalesCardSaid : Prop := Claim7.holds Tryd.pinned (.plain (OpenSpec.ofChange changelistStalesSpec)) changelistStalesCard

/-- THE TIED CARD OF 'stockyardlaw18.ChangelistEmpties'. -/
def changelistEmptiesCard : Claim7 := { stood := { row := changelistEmptiesRow, standIns := [], harness := (true, "e2c0c3e8f2a37e6352127fff2921915cfd069c06390556427c934ef3619aed53"), looks := false }, kinds := [], alts := [], laidByText := true, laidKinds := [.data, .pinned], laidTests := true, laidLooks := .later }
def ChangelistEmptiesCardSaid : Prop := Claim7.holds Tryd.pinned (.plain (OpenSpec.ofChange changelistEmptiesSpec)) changelistEmptiesCard

/-- THE TIED CARD OF 'stockyardlaw18.ChangelistPlays'. -/
def changelistPlaysCard : Claim7 := { stood := { row := changelistPlaysRow, standIns := [], harness := (true, "e2c0c3e8f2a37e6352127fff2921915cfd069c06390556427c934ef3619aed53"), looks := false }, kinds := [], alts := [], laidByText := true, laidKinds := [.data, .pinned], laidTests := true, laidLooks := .later }
def ChangelistPlaysCardSaid : Prop := Claim7.holds Tryd.pinned (.plain (OpenSpec.ofChange changelistPlaysSpec)) changelistPlaysCard

/-- THE TIED CARD OF 'stockyardlaw18.ChangelistOrder'. -/
def changelistOrderCard : Claim7 := { stood := { row := changelistOrderRow, standIns := [], harness := (true, "e2c0c3e8f2a37e6352127fff2921915cfd069c06390556427c934ef3619aed53"), looks := false }, kinds := [], alts := [], laidByText := true, laidKinds := [.data, .pinned], laidTests := true, laidLooks := .later }
def ChangelistOrderCardSaid : Prop := Claim7.holds Tryd.pinned (.plain (OpenSpec.ofChange changelistOrderSpec)) changelistOrderCard

/-- THE SECOND FORM's CARD OF 'stockyardlaw18.ChangelistChain'. -/
def changelistChainUptoCard : Claim7 := { stood := { row := changelistChainUptoRow, standIns := [], harness := (true, "e2c0c3e8f2a37e6352127fff2921915cfd069c06390556427c934ef3619aed53"), looks := false }, kinds := [], alts := [], laidByText := true, laidKinds := [.data, .pinned], laidTests := true, laidLooks := .later }
def ChangelistChainUptoCardSaid : Prop := Claim7.holds Tryd.pinned (.plain (OpenSpec.upto changelistChainSpec)) changelistChainUptoCard

/-- THE SECOND FORM's CARD OF 'stockyardlaw18.ChangelistStales'. -/
def changelistStalesUptoCard : Claim7 := { stood := { row := changelistStalesUptoRow, standIns := [], harness := (true, "e2c0c3e8f2a37e6352127fff2921915cfd069c06390556427c934ef3619aed53"), looks := false }, kinds := [], alts := [], laidByText := true, laidKinds := [.data, .pinned], laidTests := true, laidLooks := .later }
def ChangelistStalesUptoCardSaid : Prop := Claim7.holds Tryd.pinned (.plain (OpenSpec.upto changelistStalesSpec)) changelistStalesUptoCard

/-- THE SECOND FORM's CARD OF 'stockyardlaw18.ChangelistEmpties'. -/
def changelistEmptiesUptoCard : Claim7 := { stood := { row := changelistEmptiesUptoRow, standIns := [], harness := (true, "e2c0c3e8f2a37e6352127fff2921915cfd069c06390556427c934ef3619aed53"), looks := false }, kinds := [], alts := [], laidByText := true, laidKinds := [.data, .pinned], laidTests := true, laidLooks := .later }
def ChangelistEmptiesUptoCardSaid : Prop := Claim7.holds Tryd.pinned (.plain (OpenSpec.upto changelistEmptiesSpec)) changelistEmptiesUptoCard

/-- THE SECOND FORM's CARD OF 'stockyardlaw18.ChangelistPlays'. -/
def changelistPlaysUptoCard : Claim7 := { stood := { row := changelistPlaysUptoRow, standIns := [], harness := (true, "e2c0c3e8f2a37e6352127fff2921915cfd069c06390556427c934ef3619aed53"), looks := false }, kinds := [], alts := [], laidByText := true, laidKinds := [.data, .pinned], laidTests := true, laidLooks := .later }
def ChangelistPlaysUptoCardSaid : Prop := Claim7.holds Tryd.pinned (.plain (OpenSpec.upto changelistPlaysSpec)) changelistPlaysUptoCard

/-- THE SECOND FORM's CARD OF 'stockyardlaw18.ChangelistOrder'. -/
def changelistOrderUptoCard : Claim7 := { stood := { row := changelistOrderUptoRow, standIns := [], harness := (true, "e2c0c3e8f2a37e6352127fff2921915cfd069c06390556427c934ef3619aed53"), looks := false }, kinds := [], alts := [], laidByText := true, laidKinds := [.data, .pinned], laidTests := true, laidLooks := .later }
def ChangelistOrderUptoCardSaid : Prop := Claim7.holds Tryd.pinned (.plain (OpenSpec.upto changelistOrderSpec)) changelistOrderUptoCard
end Rows
end Go.Proofs.YtocffknoeknabaaDoor
