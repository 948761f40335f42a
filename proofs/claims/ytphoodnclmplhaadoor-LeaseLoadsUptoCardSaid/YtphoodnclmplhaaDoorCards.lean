/-
  DERIVED. GIVEN WITH THE SEED: THE CARDS: each row of YtphoodnclmplhaaDoorRows.lean that lists a variable, with what it lists TIED to the program's text (the seventh form; the later family's looks); each row that meets fmt, with fmt's text TOLD by the authors' own Lean function (tested against real Go, not proved from fmt's source: count such statements apart). THE CARD IS WHAT COUNTS. Prove the row's statement (the work); the ties are given (YtphoodnclmplhaaDoorTie.lean); close each card by the builder's one call (the guide's Derived/Test/ToyasCard.lean, 'card_holds'). Laid BY PROGRAM, IN A SANDBOX (cutbox-door.mjs). By AI agents, Wed Nov 11 2026. No macro, syntax, notation, axiom, sorry.
-/
import Derived.Test.YtphoodnclmplhaaDoorRows
import GoSem.ClaimSeven
namespace Go.Proofs.YtphoodnclmplhaaDoor
namespace Rows

/-- THE TIED CARD OF 'stockyardlaw19.LeaseAsks'. -/
def leaseAsksCard : Claim7 := { stood := { row := leaseAsksRow, standIns := [], harness := (true, "c77705230ced3bc77fbcdc1d8b65cb031e09dc791f1748b7157ceca0a7eb1906"), looks := false }, kinds := [], alts := [], laidByText := true, laidKinds := [.data, .pinned], laidTests := true, laidLooks := .later }
def LeaseAsksCardSaid : Prop := Claim7.holds Tryd.pinned (.plain (OpenSpec.ofChange leaseAsksSpec)) leaseAsksCard

/-- THE TIED CARD OF 'stockyardlaw19.LeaseExclusive'. -/
def leaseExclusiveCard : Claim7 := { stood := { row := leaseExclusiveRow, standIns := [], harness := (true, "c77705230ced3bc77fbcdc1d8b65cb031e09dc791f1748b7157ceca0a7eb1906"), looks := false }, kinds := [], alts := [], laidByText := true, laidKinds := [.data, .pinned], laidTests := true, laidLooks := .later }
def LeaseExclusiveCardSaid : Prop := Claim7.holds Tryd.pinned (.plain (OpenSpec.ofChange leaseExclusiveSpec)) leaseExclusiveCard

/-- THE TIED CARD OF 'stockyardlaw19.LeasePlays'. -/
def leasePlaysCard : Claim7 := { stood := { row := leasePlaysRow, standIns := [], harness := (true, "c77705230ced3bc77fbcdc1d8b65cb031e09dc791f1748b7157ceca0a7eb1906"), looks := false }, kinds := [], alts := [], laidByText := true, laidKinds := [.data, .pinned], laidTests := true, laidLooks := .later }
def LeasePlaysCardSaid : Prop := Claim7.holds Tryd.pinned (.plain (OpenSpec.ofChange leasePlaysSpec)) leasePlaysCard

/-- THE TIED CARD OF 'stockyardlaw19.LeaseLoads'. -/
def leaseLoadsCard : Claim7 := { stood := { row := leaseLoadsRow, standIns := [], harness := (true, "c77705230ced3bc77fbcdc1d8b65cb031e09dc791f1748b7157ceca0a7eb1906"), looks := false }, kinds := [], alts := [], laidByText := true, laidKinds := [.data, .pinned], laidTests := true, laidLooks := .later }
def LeaseLoadsCardSaid : Prop := Claim7.holds Tryd.pinned (.plain (OpenSpec.ofChange leaseLoadsSpec)) leaseLoadsCard

/-- THE SECOND FORM's CARD OF 'stockyardlaw19.LeaseAsks'. -/
def leaseAsksUptoCard : Claim7 := { stood := { row := leaseAsksUptoRow, standIns := [], harness := (true, "c77705230ced3bc77fbcdc1d8b65cb031e09dc791f1748b7157ceca0a7eb1906"), looks := false }, kinds := [], alts := [], laidByText := true, laidKinds := [.data, .pinned], laidTests := true, laidLooks := .later }
def LeaseAsksUptoCardSaid : Prop := Claim7.holds Tryd.pinned (.plain (OpenSpec.upto leaseAsksSpec)) leaseAsksUptoCard

/-- THE SECOND FORM's CARD OF 'stockyardlaw19.LeaseExclusive'. -/
def leaseExclusiveUptoCard : Claim7 := { stood := { row := leaseExclusiveUptoRow, standIns := [], harness := (true, "c77705230ced3bc77fbcdc1d8b65cb031e09dc791f1748b7157ceca0a7eb1906"), looks := false }, kinds := [], alts := [], laidByText := true, laidKinds := [.data, .pinned], laidTests := true, laidLooks := .later }
def LeaseExclusiveUptoCardSaid : Prop := Claim7.holds Tryd.pinned (.plain (OpenSpec.upto leaseExclusiveSpec)) leaseExclusiveUptoCard

/-- THE SECOND FORM's CARD OF 'stockyardlaw19.LeasePlays'. -/
def leasePlaysUptoCard : Claim7 := { stood := { row := leasePlaysUptoRow, standIns := [], harness := (true, "c77705230ced3bc77fbcdc1d8b65cb031e09dc791f1748b7157ceca0a7eb1906"), looks := false }, kinds := [], alts := [], laidByText := true, laidKinds := [.data, .pinned], laidTests := true, laidLooks := .later }
def LeasePlaysUptoCardSaid : Prop := Claim7.holds Tryd.pinned (.plain (OpenSpec.upto leasePlaysSpec)) leasePlaysUptoCard

/-- THE SECOND FORM's CARD OF 'stockyardlaw19.LeaseLoads'. -/
def leaseLoadsUptoCard : Claim7 := { stood := { row := leaseLoadsUptoRow, standIns := [], harness := (true, "c77705230ced3bc77fbcdc1d8b65cb031e09dc791f1748b7157ceca0a7eb1906"), looks := false }, kinds := [], alts := [], laidByText := true, laidKinds := [.data, .pinned], laidTests := true, laidLooks := .later }
def LeaseLoadsUptoCardSaid : Prop := Claim7.holds Tryd.pinned (.plain (OpenSpec.upto leaseLoadsSpec)) leaseLoadsUptoCard
end Rows
end Go.Proofs.YtphoodnclmplhaaDoor
