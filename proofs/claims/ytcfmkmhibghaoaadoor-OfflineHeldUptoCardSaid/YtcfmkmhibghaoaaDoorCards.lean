/-
  DERIVED. GIVEN WITH THE SEED: THE CARDS: each row of YtcfmkmhibghaoaaDoorRows.lean that lists a variable, with what it lists TIED to the program's text (the seventh form; the later family's looks); each row that meets fmt, with fmt's text TOLD by the authors' own Lean function (tested against real Go, not proved from fmt's source: count such statements apart). THE CARD IS WHAT COUNTS. Prove the row's statement (the work); the ties are given (YtcfmkmhibghaoaaDoorTie.lean); close each card by the builder's one call (the guide's Derived/Test/ToyasCard.lean, 'card_holds'). Laid BY PROGRAM, IN A SANDBOX (cutbox-door.mjs). By AI agents, Wed Nov 11 2026. No macro, syntax, notation, axiom, sorry.
-/
import Derived.Test.YtcfmkmhibghaoaaDoorRows
import GoSem.ClaimSeven
namespace Go.Proofs.YtcfmkmhibghaoaaDoor
namespace Rows

/-- THE TIED CARD OF 'stockyardlaw20.OfflineReturns'. -/
def offlineReturnsCard : Claim7 := { stood := { row := offlineReturnsRow, standIns := [], harness := (true, "64a4442c54a8e691804567b057834381dc51c5c6c45e6a7fca3359600435cd2f"), looks := false }, kinds := [], alts := [], laidByText := true, laidKinds := [.data, .pinned], laidTests := true, laidLooks := .later }
def OfflineReturnsCardSaid : Prop := Claim7.holds Tryd.pinned (.plain (OpenSpec.ofChange offlineReturnsSpec)) offlineReturnsCard

/-- THE TIED CARD OF 'stockyardlaw20.OfflineHeld'. -/
def offlineHeldCard : Claim7 := { stood := { row := offlineHeldRow, standIns := [], harness := (true, "64a4442c54a8e691804567b057834381dc51c5c6c45e6a7fca3359600435cd2f"), looks := false }, kinds := [], alts := [], laidByText := true, laidKinds := [.data, .pinned], laidTests := true, laidLooks := .later }
def OfflineHeldCardSaid : Prop := Claim7.holds Tryd.pinned (.plain (OpenSpec.ofChange offlineHeldSpec)) offlineHeldCard

/-- THE SECOND FORM's CARD OF 'stockyardlaw20.OfflineReturns'. -/
def offlineReturnsUptoCard : Claim7 := { stood := { row := offlineReturnsUptoRow, standIns := [], harness := (true, "64a4442c54a8e691804567b057834381dc51c5c6c45e6a7fca3359600435cd2f"), looks := false }, kinds := [], alts := [], laidByText := true, laidKinds := [.data, .pinned], laidTests := true, laidLooks := .later }
def OfflineReturnsUptoCardSaid : Prop := Claim7.holds Tryd.pinned (.plain (OpenSpec.upto offlineReturnsSpec)) offlineReturnsUptoCard

/-- THE SECOND FORM's CARD OF 'stockyardlaw20.OfflineHeld'. -/
def offlineHeldUptoCard : Claim7 := { stood := { row := offlineHeldUptoRow, standIns := [], harness := (true, "64a4442c54a8e691804567b057834381dc51c5c6c45e6a7fca3359600435cd2f"), looks := false }, kinds := [], alts := [], laidByText := true, laidKinds := [.data, .pinned], laidTests := true, laidLooks := .later }
def OfflineHeldUptoCardSaid : Prop := Claim7.holds Tryd.pinned (.plain (OpenSpec.upto offlineHeldSpec)) offlineHeldUptoCard
end Rows
end Go.Proofs.YtcfmkmhibghaoaaDoor
