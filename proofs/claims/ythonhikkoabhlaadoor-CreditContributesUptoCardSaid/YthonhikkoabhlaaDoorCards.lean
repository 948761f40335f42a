/-
  DERIVED. GIVEN WITH THE SEED: THE CARDS: each row of YthonhikkoabhlaaDoorRows.lean that lists a variable, with what it lists TIED to the program's text (the seventh form; the later family's looks); each row that meets fmt, with fmt's text TOLD by the authors' own Lean function (tested against real Go, not proved from fmt's source: count such statements apart). THE CARD IS WHAT COUNTS. Prove the row's statement (the work); the ties are given (YthonhikkoabhlaaDoorTie.lean); close each card by the builder's one call (the guide's Derived/Test/ToyasCard.lean, 'card_holds'). Laid BY PROGRAM, IN A SANDBOX (cutbox-door.mjs). By AI agents, Wed Nov 11 2026. No macro, syntax, notation, axiom, sorry.
-/
import Derived.Test.YthonhikkoabhlaaDoorRows
import GoSem.ClaimSeven
namespace Go.Proofs.YthonhikkoabhlaaDoor
namespace Rows

/-- THE TIED CARD OF 'stockyardlaw14.CreditOriginals'. -/
def creditOriginalsCard : Claim7 := { stood := { row := creditOriginalsRow, standIns := [], harness := (true, "5d7867419bd6aa44bc8278fca09dc5b285dd62e878ab8fe5d865b981e3128ca8"), looks := false }, kinds := [], alts := [], laidByText := true, laidKinds := [.data, .pinned], laidTests := true, laidLooks := .later }
def CreditOriginalsCardSaid : Prop := Claim7.holds Tryd.pinned (.plain (OpenSpec.ofChange creditOriginalsSpec)) creditOriginalsCard

/-- THE TIED CARD OF 'stockyardlaw14.CreditCarries'. -/
def creditCarriesCard : Claim7 := { stood := { row := creditCarriesRow, standIns := [], harness := (true, "5d7867419bd6aa44bc8278fca09dc5b285dd62e878ab8fe5d865b981e3128ca8"), looks := false }, kinds := [], alts := [], laidByText := true, laidKinds := [.data, .pinned], laidTests := true, laidLooks := .later }
def CreditCarriesCardSaid : Prop := Claim7.holds Tryd.pinned (.plain (OpenSpec.ofChange creditCarriesSpec)) creditCarriesCard

/-- THE TIED CARD OF 'stockyardlaw14.CreditContributes'. -/
def creditContributesCard : Claim7 := { stood := { row := creditContributesRow, standIns := [], harness := (true, "5d7867419bd6aa44bc8278fca09dc5b285dd62e878ab8fe5d865b981e3128ca8"), looks := false }, kinds := [], alts := [], laidByText := true, laidKinds := [.data, .pinned], laidTests := true, laidLooks := .later }
def CreditContributesCardSaid : Prop := Claim7.holds Tryd.pinned (.plain (OpenSpec.ofChange creditContributesSpec)) creditContributesCard

/-- THE TIED CARD OF 'stockyardlaw14.CreditCredits'. -/
def creditCreditsCard : Claim7 := { stood := { row := creditCreditsRow, standIns := [], harness := (true, "5d7867419bd6aa44bc8278fca09dc5b285dd62e878ab8fe5d865b981e3128ca8"), looks := false }, kinds := [], alts := [], laidByText := true, laidKinds := [.data, .pinned], laidTests := true, laidLooks := .later }
def CreditCreditsCardSaid : Prop := Claim7.holds Tryd.pinned (.plain (OpenSpec.ofChange creditCreditsSpec)) creditCreditsCard

/-- THE TIED CARD OF 'stockyardlaw14.CreditElements'. -/
def creditElementsCard : Claim7 := { stood := { row := creditElementsRow, standIns := [], harness := (true, "5d7867419bd6aa44bc8278fca09dc5b285dd62e878ab8fe5d865b981e3128ca8"), looks := false }, kinds := [], alts := [], laidByText := true, laidKinds := [.data, .pinned], laidTests := true, laidLooks := .later }
def CreditElementsCardSaid : Prop := Claim7.holds Tryd.pinned (.plain (OpenSpec.ofChange creditElementsSpec)) creditElementsCard

/-- THE TIED CARD OF 'stockyardlaw14.CreditStays'. -/
def creditStaysCard : Claim7 := { stood := { row := creditStaysRow, standIns := [], harness := (true, "5d7867419bd6aa44bc8278fca09dc5b285dd62e878ab8fe5d865b981e3128ca8"), looks := false }, kinds := [], alts := [], laidByText := true, laidKinds := [.data, .pinned], laidTests := true, laidLooks := .later }
def CreditStaysCardSaid : Prop := Claim7.holds Tryd.pinned (.plain (OpenSpec.ofChange creditStaysSpec)) creditStaysCard

/-- THE TIED CARD OF 'stockyardlaw14.CreditCopies'. -/
def creditCopiesCard : Claim7 := { stood := { row := creditCopiesRow, standIns := [], harness := (true, "5d7867419bd6aa44bc8278fca09dc5b285dd62e878ab8fe5d865b981e3128ca8"), looks := false }, kinds := [], alts := [], laidByText := true, laidKinds := [.data, .pinned], laidTests := true, laidLooks := .later }
def CreditCopiesCardSaid : Prop := Claim7.holds Tryd.pinned (.plain (OpenSpec.ofChange creditCopiesSpec)) creditCopiesCard

/-- THE SECOND FORM's CARD OF 'stockyardlaw14.CreditOriginals'. -/
def creditOriginalsUptoCard : Claim7 := { stood := { row := creditOriginalsUptoRow, standIns := [], harness := (true, "5d7867419bd6aa44bc8278fca09dc5b285dd62e878ab8fe5d865b981e3128ca8"), looks := false }, kinds := [], alts := [], laidByText := true, laidKinds := [.data, .pinned], laidTests := true, laidLooks := .later }
def CreditOriginalsUptoCardSaid : Prop := Claim7.holds Tryd.pinned (.plain (OpenSpec.upto creditOriginalsSpec)) creditOriginalsUptoCard

/-- THE SECOND FORM's CARD OF 'stockyardlaw14.CreditCarries'. -/
def creditCarriesUptoCard : Claim7 := { stood := { row := creditCarriesUptoRow, standIns := [], harness := (true, "5d7867419bd6aa44bc8278fca09dc5b285dd62e878ab8fe5d865b981e3128ca8"), looks := false }, kinds := [], alts := [], laidByText := true, laidKinds := [.data, .pinned], laidTests := true, laidLooks := .later }
def CreditCarriesUptoCardSaid : Prop := Claim7.holds Tryd.pinned (.plain (OpenSpec.upto creditCarriesSpec)) creditCarriesUptoCard

/-- THE SECOND FORM's CARD OF 'stockyardlaw14.CreditContributes'. -/
def creditContributesUptoCard : Claim7 := { stood := { row := creditContributesUptoRow, standIns := [], harness := (true, "5d7867419bd6aa44bc8278fca09dc5b285dd62e878ab8fe5d865b981e3128ca8"), looks := false }, kinds := [], alts := [], laidByText := true, laidKinds := [.data, .pinned], laidTests := true, laidLooks := .later }
def CreditContributesUptoCardSaid : Prop := Claim7.holds Tryd.pinned (.plain (OpenSpec.upto creditContributesSpec)) creditContributesUptoCard

/-- THE SECOND FORM's CARD OF 'stockyardlaw14.CreditCredits'. -/
def creditCreditsUptoCard : Claim7 := { stood := { row := creditCreditsUptoRow, standIns := [], harness := (true, "5d7867419bd6aa44bc8278fca09dc5b285dd62e878ab8fe5d865b981e3128ca8"), looks := false }, kinds := [], alts := [], laidByText := true, laidKinds := [.data, .pinned], laidTests := true, laidLooks := .later }
def CreditCreditsUptoCardSaid : Prop := Claim7.holds Tryd.pinned (.plain (OpenSpec.upto creditCreditsSpec)) creditCreditsUptoCard

/-- THE SECOND FORM's CARD OF 'stockyardlaw14.CreditElements'. -/
def creditElementsUptoCard : Claim7 := { stood := { row := creditElementsUptoRow, standIns := [], harness := (true, "5d7867419bd6aa44bc8278fca09dc5b285dd62e878ab8fe5d865b981e3128ca8"), looks := false }, kinds := [], alts := [], laidByText := true, laidKinds := [.data, .pinned], laidTests := true, laidLooks := .later }
def CreditElementsUptoCardSaid : Prop := Claim7.holds Tryd.pinned (.plain (OpenSpec.upto creditElementsSpec)) creditElementsUptoCard

/-- THE SECOND FORM's CARD OF 'stockyardlaw14.CreditStays'. -/
def creditStaysUptoCard : Claim7 := { stood := { row := creditStaysUptoRow, standIns := [], harness := (true, "5d7867419bd6aa44bc8278fca09dc5b285dd62e878ab8fe5d865b981e3128ca8"), looks := false }, kinds := [], alts := [], laidByText := true, laidKinds := [.data, .pinned], laidTests := true, laidLooks := .later }
def CreditStaysUptoCardSaid : Prop := Claim7.holds Tryd.pinned (.plain (OpenSpec.upto creditStaysSpec)) creditStaysUptoCard

/-- THE SECOND FORM's CARD OF 'stockyardlaw14.CreditCopies'. -/
def creditCopiesUptoCard : Claim7 := { stood := { row := creditCopiesUptoRow, standIns := [], harness := (true, "5d7867419bd6aa44bc8278fca09dc5b285dd62e878ab8fe5d865b981e3128ca8"), looks := false }, kinds := [], alts := [], laidByText := true, laidKinds := [.data, .pinned], laidTests := true, laidLooks := .later }
def CreditCopiesUptoCardSaid : Prop := Claim7.holds Tryd.pinned (.plain (OpenSpec.upto creditCopiesSpec)) creditCopiesUptoCard
end Rows
end Go.Proofs.YthonhikkoabhlaaDoor
