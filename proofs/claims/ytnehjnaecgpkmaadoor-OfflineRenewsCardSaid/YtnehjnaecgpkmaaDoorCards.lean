/-
  DERIVED. GIVEN WITH THE SEED: THE CARDS: each row of YtnehjnaecgpkmaaDoorRows.lean that lists a variable, with what it lists TIED to the program's text (the seventh form; the later family's looks); each row that meets fmt, with fmt's text TOLD by the authors' own Lean function (tested against real Go, not proved from fmt's source: count such statements apart). THE CARD IS WHAT COUNTS. Prove the row's statement (the work); the ties are given (YtnehjnaecgpkmaaDoorTie.lean); close each card by the builder's one call (the guide's Derived/Test/ToyasCard.lean, 'card_holds'). Laid BY PROGRAM, IN A SANDBOX (cutbox-door.mjs). By AI agents, Wed Nov 11 2026. No macro, syntax, notation, axiom, sorry.
-/
import Derived.Test.YtnehjnaecgpkmaaDoorRows
import GoSem.ClaimSeven
namespace Go.Proofs.YtnehjnaecgpkmaaDoor
namespace Rows

/-- THE TIED CARD OF 'stockyardlaw20.OfflineBegins'. -/
def offlineBeginsCard : Claim7 := { stood := { row := offlineBeginsRow, standIns := [], harness := (true, "fa75c64ebb0879dd07d5b7844e992677d95a107c9b584a4662f5cff3069795bf"), looks := false }, kinds := [], alts := [], laidByText := true, laidKinds := [.data, .pinned], laidTests := true, laidLooks := .later }
def OfflineBeginsCardSaid : Prop := Claim7.holds Tryd.pinned (.plain (OpenSpec.ofChange offlineBeginsSpec)) offlineBeginsCard

/-- THE TIED CARD OF 'stockyardlaw20.OfflineRenews'. -/
def offlineRenewsCard : Claim7 := { stood := { row := offlineRenewsRow, standIns := [], harness := (true, "fa75c64ebb0879dd07d5b7844e992677d95a107c9b584a4662f5cff3069795bf"), looks := false }, kinds := [], alts := [], laidByText := true, laidKinds := [.data, .pinned], laidTests := true, laidLooks := .later }
def OfflineRenewsCardSaid : Prop := Claim7.holds Tryd.pinned (.plain (OpenSpec.ofChange offlineRenewsSpec)) offlineRenewsCard

/-- THE TIED CARD OF 'stockyardlaw20.OfflineReturns'. -/
def offlineReturnsCard : Claim7 := { stood := { row := offlineReturnsRow, standIns := [], harness := (true, "fa75c64ebb0879dd07d5b7844e992677d95a107c9b584a4662f5cff3069795bf"), looks := false }, kinds := [], alts := [], laidByText := true, laidKinds := [.data, .pinned], laidTests := true, laidLooks := .later }
def OfflineReturnsCardSaid : Prop := Claim7.holds Tryd.pinned (.plain (OpenSpec.ofChange offlineReturnsSpec)) offlineReturnsCard

/-- THE TIED CARD OF 'stockyardlaw20.OfflineHeld'. -/
def offlineHeldCard : Claim7 := { stood := { row := offlineHeldRow, standIns := [], harness := (true, "fa75c64ebb0879dd07d5b7844e992677d95a107c9b584a4662f5cff3069795bf"), looks := false }, kinds := [], alts := [], laidByText := true, laidKinds := [.data, .pinned], laidTests := true, laidLooks := .later }
def OfflineHeldCardSaid : Prop := Claim7.holds Tryd.pinned (.plain (OpenSpec.ofChange offlineHeldSpec)) offlineHeldCard

/-- THE TIED CARD OF 'stockyardlaw19.LeaseAsks'. -/
def leaseAsksCard : Claim7 := { stood := { row := leaseAsksRow, standIns := [], harness := (true, "fa75c64ebb0879dd07d5b7844e992677d95a107c9b584a4662f5cff3069795bf"), looks := false }, kinds := [], alts := [], laidByText := true, laidKinds := [.data, .pinned], laidTests := true, laidLooks := .later }
def LeaseAsksCardSaid : Prop := Claim7.holds Tryd.pinned (.plain (OpenSpec.ofChange leaseAsksSpec)) leaseAsksCard

/-- THE SECOND FORM's CARD OF 'stockyardlaw20.OfflineBegins'. -/
def offlineBeginsUptoCard : Claim7 := { stood := { row := offlineBeginsUptoRow, standIns := [], harness := (true, "fa75c64ebb0879dd07d5b7844e992677d95a107c9b584a4662f5cff3069795bf"), looks := false }, kinds := [], alts := [], laidByText := true, laidKinds := [.data, .pinned], laidTests := true, laidLooks := .later }
def OfflineBeginsUptoCardSaid : Prop := Claim7.holds Tryd.pinned (.plain (OpenSpec.upto offlineBeginsSpec)) offlineBeginsUptoCard

/-- THE SECOND FORM's CARD OF 'stockyardlaw20.OfflineRenews'. -/
def offlineRenewsUptoCard : Claim7 := { stood := { row := offlineRenewsUptoRow, standIns := [], harness := (true, "fa75c64ebb0879dd07d5b7844e992677d95a107c9b584a4662f5cff3069795bf"), looks := false }, kinds := [], alts := [], laidByText := true, laidKinds := [.data, .pinned], laidTests := true, laidLooks := .later }
def OfflineRenewsUptoCardSaid : Prop := Claim7.holds Tryd.pinned (.plain (OpenSpec.upto offlineRenewsSpec)) offlineRenewsUptoCard

/-- THE SECOND FORM's CARD OF 'stockyardlaw20.OfflineReturns'. -/
def offlineReturnsUptoCard : Claim7 := { stood := { row := offlineReturnsUptoRow, standIns := [], harness := (true, "fa75c64ebb0879dd07d5b7844e992677d95a107c9b584a4662f5cff3069795bf"), looks := false }, kinds := [], alts := [], laidByText := true, laidKinds := [.data, .pinned], laidTests := true, laidLooks := .later }
def OfflineReturnsUptoCardSaid : Prop := Claim7.holds Tryd.pinned (.plain (OpenSpec.upto offlineReturnsSpec)) offlineReturnsUptoCard

/-- THE SECOND FORM's CARD OF 'stockyardlaw20.OfflineHeld'. -/
def offlineHeldUptoCard : Claim7 := { stood := { row := offlineHeldUptoRow, standIns := [], harness := (true, "fa75c64ebb0879dd07d5b7844e992677d95a107c9b584a4662f5cff3069795bf"), looks := false }, kinds := [], alts := [], laidByText := true, laidKinds := [.data, .pinned], laidTests := true, laidLooks := .later }
def OfflineHeldUptoCardSaid : Prop := Claim7.holds Tryd.pinned (.plain (OpenSpec.upto offlineHeldSpec)) offlineHeldUptoCard

/-- THE SECOND FORM's CARD OF 'stockyardlaw19.LeaseAsks'. -/
def leaseAsksUptoCard : Claim7 := { stood := { row := leaseAsksUptoRow, standIns := [], harness := (true, "fa75c64ebb0879dd07d5b7844e992677d95a107c9b584a4662f5cff3069795bf"), looks := false }, kinds := [], alts := [], laidByText := true, laidKinds := [.data, .pinned], laidTests := true, laidLooks := .later }
def LeaseAsksUptoCardSaid : Prop := Claim7.holds Tryd.pinned (.plain (OpenSpec.upto leaseAsksSpec)) leaseAsksUptoCard
end Rows
end Go.Proofs.YtnehjnaecgpkmaaDoor
