/-
  DERIVED. GIVEN WITH THE SEED: THE CARDS: each row of YthonhikkoabhlaaGreatDoorRows.lean that lists a variable, with what it lists TIED to the program's text (the seventh form; the later family's looks); each row that meets fmt, with fmt's text TOLD by the authors' own Lean function (tested against real Go, not proved from fmt's source: count such statements apart). THE CARD IS WHAT COUNTS. Prove the row's statement (the work); the ties are given (YthonhikkoabhlaaGreatDoorTie.lean); close each card by the builder's one call (the guide's Derived/Test/ToyasCard.lean, 'card_holds'). Laid BY PROGRAM, IN A SANDBOX (cutbox-door.mjs). By AI agents, Wed Nov 11 2026. No macro, syntax, notation, axiom, sorry.
-/
import Derived.Test.YthonhikkoabhlaaGreatDoorRows
import GoSem.ClaimSeven
namespace Go.Proofs.YthonhikkoabhlaaGreatDoor
namespace Rows

/-- THE TIED CARD OF 'stockyardlaw14.CreditNests'. -/
def creditNestsCard : Claim7 := { stood := { row := creditNestsRow, standIns := [], harness := (true, "2f83b0be5a8dd58e6339f2b6388a70c7ddd7d937fa01232d1d5b95e8b6d20bf3"), looks := false }, kinds := [], alts := [], laidByText := true, laidKinds := [.data, .pinned], laidTests := true, laidLooks := .later }
def CreditNestsCardSaid : Prop := Claim7.holds Tryz.pinned (.plain (OpenSpec.ofChange creditNestsSpec)) creditNestsCard

/-- THE TIED CARD OF 'stockyardlaw14.CreditAlone'. -/
def creditAloneCard : Claim7 := { stood := { row := creditAloneRow, standIns := [], harness := (true, "2f83b0be5a8dd58e6339f2b6388a70c7ddd7d937fa01232d1d5b95e8b6d20bf3"), looks := false }, kinds := [], alts := [], laidByText := true, laidKinds := [.data, .pinned], laidTests := true, laidLooks := .later }
def CreditAloneCardSaid : Prop := Claim7.holds Tryz.pinned (.plain (OpenSpec.ofChange creditAloneSpec)) creditAloneCard

/-- THE SECOND FORM's CARD OF 'stockyardlaw14.CreditNests'. -/
def creditNestsUptoCard : Claim7 := { stood := { row := creditNestsUptoRow, standIns := [], harness := (true, "2f83b0be5a8dd58e6339f2b6388a70c7ddd7d937fa01232d1d5b95e8b6d20bf3"), looks := false }, kinds := [], alts := [], laidByText := true, laidKinds := [.data, .pinned], laidTests := true, laidLooks := .later }
def CreditNestsUptoCardSaid : Prop := Claim7.holds Tryz.pinned (.plain (OpenSpec.upto creditNestsSpec)) creditNestsUptoCard

/-- THE SECOND FORM's CARD OF 'stockyardlaw14.CreditAlone'. -/
def creditAloneUptoCard : Claim7 := { stood := { row := creditAloneUptoRow, standIns := [], harness := (true, "2f83b0be5a8dd58e6339f2b6388a70c7ddd7d937fa01232d1d5b95e8b6d20bf3"), looks := false }, kinds := [], alts := [], laidByText := true, laidKinds := [.data, .pinned], laidTests := true, laidLooks := .later }
def CreditAloneUptoCardSaid : Prop := Claim7.holds Tryz.pinned (.plain (OpenSpec.upto creditAloneSpec)) creditAloneUptoCard
end Rows
end Go.Proofs.YthonhikkoabhlaaGreatDoor
