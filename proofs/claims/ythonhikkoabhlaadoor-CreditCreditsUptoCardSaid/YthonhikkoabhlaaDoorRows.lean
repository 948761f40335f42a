/-
  NARROWER THAN 'FOR EVERY INPUT', by the rows' own cells (each row's printed sentence says how): CreditOriginals: laid · CreditCarries: laid · CreditContributes: laid · CreditCredits: laid · CreditElements: laid · CreditStays: laid · CreditCopies: laid.
  DERIVED. THE GIVEN ROWS OF THIS SEAT. 7 by the template 'for every input the law returns true; each argument reads behind the call as it read before'; 0 by the template 'total and deterministic' (their statements: YthonhikkoabhlaaDoorTotals.lean).
  GIVEN WITH THE SEED: the statements are not yours to turn. If you find one false, say at which input.
  Laid BY PROGRAM, IN A SANDBOX (cutbox-rows.mjs): the forced cells as the released guide's own fill.sh prints them over the translation e9ce20e74519396c… (all of the seat's roots in one cut). By AI agents, Wed Nov 11 2026. No macro, syntax, notation, axiom, sorry.
-/
import Derived.Test.YthonhikkoabhlaaDoorChecked
import GoSem.PinnedTables
import GoSem.Claim
import GoSem.ClaimJoined
import GoSem.ClaimMapViews
import Derived.JoinedTies
import Derived.KernelRfl
namespace Go.Proofs.YthonhikkoabhlaaDoor
/- THE CELL 'sum', in the pinned program and in every row, IS THE sha256 OF THE DUMP (.gsa) THAT YthonhikkoabhlaaDoorProg.lean LOADS. Nothing in Lean hashes anything: it is a label: what it is worth is what the hold of that sum in a sandbox is worth. -/
noncomputable def Tryd.pinned : Pinned := { name := "ythonhikkoabhlaadoor", sum := "e9ce20e74519396cc641e4864a62ec7b48ad9b695c78ac4c5c4f7273e5c65c9f", checked := Tryd.checked }
namespace Rows
def none {H : Type} : Left H := { results := [], args := [] }

/- WHAT THE LISTED PACKAGE-LEVEL VARIABLES READ AS WHEN THE CALL BEGINS. Each datum BY PROGRAM (the guide's laid-datum.mjs) off the statement by which the dump's own 'gosem.cut.vars' lays the variable. In a bare row this is a premise. The card (YthonhikkoabhlaaDoorCards.lean) ties it to the program's text. -/
def laid_unicode_utf8_acceptRanges {H : Type} : DataW H := .agg [.agg [.lit (.int .u8 128), .lit (.int .u8 191)], .agg [.lit (.int .u8 160), .lit (.int .u8 191)], .agg [.lit (.int .u8 128), .lit (.int .u8 159)], .agg [.lit (.int .u8 144), .lit (.int .u8 191)], .agg [.lit (.int .u8 128), .lit (.int .u8 143)], .agg [.lit (.int .u8 0), .lit (.int .u8 0)], .agg [.lit (.int .u8 0), .lit (.int .u8 0)], .agg [.lit (.int .u8 0), .lit (.int .u8 0)], .agg [.lit (.int .u8 0), .lit (.int .u8 0)], .agg [.lit (.int .u8 0), .lit (.int .u8 0)], .agg [.lit (.int .u8 0), .lit (.int .u8 0)], .agg [.lit (.int .u8 0), .lit (.int .u8 0)], .agg [.lit (.int .u8 0), .lit (.int .u8 0)], .agg [.lit (.int .u8 0), .lit (.int .u8 0)], .agg [.lit (.int .u8 0), .lit (.int .u8 0)], .agg [.lit (.int .u8 0), .lit (.int .u8 0)]]
/-- One of Go's own tables, pinned by name: the form's constant. -/
def laid_unicode_utf8_first : DataW Unit := Go.Pinned.utf8First

/-- 'stockyardlaw14.CreditOriginals': WHATEVER THE INPUT: true; the input reads as it did. -/
def creditOriginalsSpec : ChangeSpec := { name := "creditOriginals", fn := fun _ => fun
  | [d1, d2, d3] => { results := [.lit (.bool true)], args := [d1, d2, d3] }
  | _ => none }
def creditOriginalsRow : OpenClaim := { program := "ythonhikkoabhlaadoor", sum := "e9ce20e74519396cc641e4864a62ec7b48ad9b695c78ac4c5c4f7273e5c65c9f", func := "stockyard/stockyardlaw14.CreditOriginals", spec := "creditOriginals", inPlace := ["internal/bytealg.CountString", "internal/bytealg.IndexByteString", "internal/bytealg.IndexString", "internal/bytealg.abigen_runtime_cmpstring"], unfollowed := true, recurses := true, named := ["unicode/utf8.first", "unicode/utf8.acceptRanges", "internal/bytealg.MaxLen"], plainKeys := false, apart := false, laid := [("unicode/utf8.acceptRanges", laid_unicode_utf8_acceptRanges), ("unicode/utf8.first", laid_unicode_utf8_first)] }
def CreditOriginalsSaid : Prop := creditOriginalsRow.holds Tryd.pinned (OpenSpec.ofChange creditOriginalsSpec)

/-- ITS FALSE NEIGHBOUR: 'it returns false'. Refute it at one input. -/
def creditOriginalsWrong : ChangeSpec := { name := "creditOriginals", fn := fun _ => fun
  | [d1, d2, d3] => { results := [.lit (.bool false)], args := [d1, d2, d3] }
  | _ => none }
def CreditOriginalsWrongFalsely : Prop := creditOriginalsRow.holds Tryd.pinned (OpenSpec.ofChange creditOriginalsWrong)

/-- 'stockyardlaw14.CreditCarries': WHATEVER THE INPUT: true; the input reads as it did. -/
def creditCarriesSpec : ChangeSpec := { name := "creditCarries", fn := fun _ => fun
  | [d1, d2, d3] => { results := [.lit (.bool true)], args := [d1, d2, d3] }
  | _ => none }
def creditCarriesRow : OpenClaim := { program := "ythonhikkoabhlaadoor", sum := "e9ce20e74519396cc641e4864a62ec7b48ad9b695c78ac4c5c4f7273e5c65c9f", func := "stockyard/stockyardlaw14.CreditCarries", spec := "creditCarries", inPlace := ["internal/bytealg.CountString", "internal/bytealg.IndexByteString", "internal/bytealg.IndexString", "internal/bytealg.abigen_runtime_cmpstring"], unfollowed := true, recurses := true, named := ["unicode/utf8.first", "unicode/utf8.acceptRanges", "internal/bytealg.MaxLen"], plainKeys := false, apart := false, laid := [("unicode/utf8.acceptRanges", laid_unicode_utf8_acceptRanges), ("unicode/utf8.first", laid_unicode_utf8_first)] }
def CreditCarriesSaid : Prop := creditCarriesRow.holds Tryd.pinned (OpenSpec.ofChange creditCarriesSpec)

/-- ITS FALSE NEIGHBOUR: 'it returns false'. Refute it at one input. -/
def creditCarriesWrong : ChangeSpec := { name := "creditCarries", fn := fun _ => fun
  | [d1, d2, d3] => { results := [.lit (.bool false)], args := [d1, d2, d3] }
  | _ => none }
def CreditCarriesWrongFalsely : Prop := creditCarriesRow.holds Tryd.pinned (OpenSpec.ofChange creditCarriesWrong)

/-- 'stockyardlaw14.CreditContributes': WHATEVER THE INPUT: true; the input reads as it did. -/
def creditContributesSpec : ChangeSpec := { name := "creditContributes", fn := fun _ => fun
  | [d1, d2, d3] => { results := [.lit (.bool true)], args := [d1, d2, d3] }
  | _ => none }
def creditContributesRow : OpenClaim := { program := "ythonhikkoabhlaadoor", sum := "e9ce20e74519396cc641e4864a62ec7b48ad9b695c78ac4c5c4f7273e5c65c9f", func := "stockyard/stockyardlaw14.CreditContributes", spec := "creditContributes", inPlace := ["internal/bytealg.CountString", "internal/bytealg.IndexByteString", "internal/bytealg.IndexString", "internal/bytealg.abigen_runtime_cmpstring"], unfollowed := true, recurses := true, named := ["unicode/utf8.first", "unicode/utf8.acceptRanges", "internal/bytealg.MaxLen"], plainKeys := false, apart := false, laid := [("unicode/utf8.acceptRanges", laid_unicode_utf8_acceptRanges), ("unicode/utf8.first", laid_unicode_utf8_first)] }
def CreditContributesSaid : Prop := creditContributesRow.holds Tryd.pinned (OpenSpec.ofChange creditContributesSpec)

/-- ITS FALSE NEIGHBOUR: 'it returns false'. Refute it at one input. -/
def creditContributesWrong : ChangeSpec := { name := "creditContributes", fn := fun _ => fun
  | [d1, d2, d3] => { results := [.lit (.bool false)], args := [d1, d2, d3] }
  | _ => none }
def CreditContributesWrongFalsely : Prop := creditContributesRow.holds Tryd.pinned (OpenSpec.ofChange creditContributesWrong)

/-- 'stockyardlaw14.CreditCredits': WHATEVER THE INPUT: true; the input reads as it did. -/
def creditCreditsSpec : ChangeSpec := { name := "creditCredits", fn := fun _ => fun
  | [d1, d2, d3] => { results := [.lit (.bool true)], args := [d1, d2, d3] }
  | _ => none }
def creditCreditsRow : OpenClaim := { program := "ythonhikkoabhlaadoor", sum := "e9ce20e74519396cc641e4864a62ec7b48ad9b695c78ac4c5c4f7273e5c65c9f", func := "stockyard/stockyardlaw14.CreditCredits", spec := "creditCredits", inPlace := ["internal/bytealg.CountString", "internal/bytealg.IndexByteString", "internal/bytealg.IndexString", "internal/bytealg.abigen_runtime_cmpstring"], unfollowed := true, recurses := true, named := ["unicode/utf8.first", "unicode/utf8.acceptRanges", "internal/bytealg.MaxLen"], plainKeys := false, apart := false, laid := [("unicode/utf8.acceptRanges", laid_unicode_utf8_acceptRanges), ("unicode/utf8.first", laid_unicode_utf8_first)] }
def CreditCreditsSaid : Prop := creditCreditsRow.holds Tryd.pinned (OpenSpec.ofChange creditCreditsSpec)

/-- ITS FALSE NEIGHBOUR: 'it returns false'. Refute it at one input. -/
def creditCreditsWrong : ChangeSpec := { name := "creditCredits", fn := fun _ => fun
  | [d1, d2, d3] => { results := [.lit (.bool false)], args := [d1, d2, d3] }
  | _ => none }
def CreditCreditsWrongFalsely : Prop := creditCreditsRow.holds Tryd.pinned (OpenSpec.ofChange creditCreditsWrong)

/-- 'stockyardlaw14.CreditElements': WHATEVER THE INPUT: true; the input reads as it did. -/
def creditElementsSpec : ChangeSpec := { name := "creditElements", fn := fun _ => fun
  | [d1, d2, d3] => { results := [.lit (.bool true)], args := [d1, d2, d3] }
  | _ => none }
def creditElementsRow : OpenClaim := { program := "ythonhikkoabhlaadoor", sum := "e9ce20e74519396cc641e4864a62ec7b48ad9b695c78ac4c5c4f7273e5c65c9f", func := "stockyard/stockyardlaw14.CreditElements", spec := "creditElements", inPlace := ["internal/bytealg.CountString", "internal/bytealg.IndexByteString", "internal/bytealg.IndexString", "internal/bytealg.abigen_runtime_cmpstring"], unfollowed := true, recurses := true, named := ["unicode/utf8.first", "unicode/utf8.acceptRanges", "internal/bytealg.MaxLen"], plainKeys := false, apart := false, laid := [("unicode/utf8.acceptRanges", laid_unicode_utf8_acceptRanges), ("unicode/utf8.first", laid_unicode_utf8_first)] }
def CreditElementsSaid : Prop := creditElementsRow.holds Tryd.pinned (OpenSpec.ofChange creditElementsSpec)

/-- ITS FALSE NEIGHBOUR: 'it returns false'. Refute it at one input. -/
def creditElementsWrong : ChangeSpec := { name := "creditElements", fn := fun _ => fun
  | [d1, d2, d3] => { results := [.lit (.bool false)], args := [d1, d2, d3] }
  | _ => none }
def CreditElementsWrongFalsely : Prop := creditElementsRow.holds Tryd.pinned (OpenSpec.ofChange creditElementsWrong)

/-- 'stockyardlaw14.CreditStays': WHATEVER THE INPUT: true; the input reads as it did. -/
def creditStaysSpec : ChangeSpec := { name := "creditStays", fn := fun _ => fun
  | [d1, d2, d3, d4] => { results := [.lit (.bool true)], args := [d1, d2, d3, d4] }
  | _ => none }
def creditStaysRow : OpenClaim := { program := "ythonhikkoabhlaadoor", sum := "e9ce20e74519396cc641e4864a62ec7b48ad9b695c78ac4c5c4f7273e5c65c9f", func := "stockyard/stockyardlaw14.CreditStays", spec := "creditStays", inPlace := ["internal/bytealg.CountString", "internal/bytealg.IndexByteString", "internal/bytealg.IndexString", "internal/bytealg.abigen_runtime_cmpstring"], unfollowed := true, recurses := true, named := ["unicode/utf8.first", "unicode/utf8.acceptRanges", "internal/bytealg.MaxLen"], plainKeys := false, apart := false, laid := [("unicode/utf8.acceptRanges", laid_unicode_utf8_acceptRanges), ("unicode/utf8.first", laid_unicode_utf8_first)] }
def CreditStaysSaid : Prop := creditStaysRow.holds Tryd.pinned (OpenSpec.ofChange creditStaysSpec)

/-- ITS FALSE NEIGHBOUR: 'it returns false'. Refute it at one input. -/
def creditStaysWrong : ChangeSpec := { name := "creditStays", fn := fun _ => fun
  | [d1, d2, d3, d4] => { results := [.lit (.bool false)], args := [d1, d2, d3, d4] }
  | _ => none }
def CreditStaysWrongFalsely : Prop := creditStaysRow.holds Tryd.pinned (OpenSpec.ofChange creditStaysWrong)

/-- 'stockyardlaw14.CreditCopies': WHATEVER THE INPUT: true; the input reads as it did. -/
def creditCopiesSpec : ChangeSpec := { name := "creditCopies", fn := fun _ => fun
  | [d] => { results := [.lit (.bool true)], args := [d] }
  | _ => none }
def creditCopiesRow : OpenClaim := { program := "ythonhikkoabhlaadoor", sum := "e9ce20e74519396cc641e4864a62ec7b48ad9b695c78ac4c5c4f7273e5c65c9f", func := "stockyard/stockyardlaw14.CreditCopies", spec := "creditCopies", inPlace := ["internal/bytealg.CountString", "internal/bytealg.IndexByteString", "internal/bytealg.IndexString", "internal/bytealg.abigen_runtime_cmpstring"], unfollowed := true, recurses := true, named := ["unicode/utf8.first", "unicode/utf8.acceptRanges", "internal/bytealg.MaxLen"], plainKeys := false, apart := false, laid := [("unicode/utf8.acceptRanges", laid_unicode_utf8_acceptRanges), ("unicode/utf8.first", laid_unicode_utf8_first)] }
def CreditCopiesSaid : Prop := creditCopiesRow.holds Tryd.pinned (OpenSpec.ofChange creditCopiesSpec)

/-- ITS FALSE NEIGHBOUR: 'it returns false'. Refute it at one input. -/
def creditCopiesWrong : ChangeSpec := { name := "creditCopies", fn := fun _ => fun
  | [d] => { results := [.lit (.bool false)], args := [d] }
  | _ => none }
def CreditCopiesWrongFalsely : Prop := creditCopiesRow.holds Tryd.pinned (OpenSpec.ofChange creditCopiesWrong)

/- THE SECOND FORM. 'bulk': how many values and letters a reading holds, each counted each time it is reached (what is shared counts as often as it is met; a slice's spare places count too). A statement '..UptoSaid' is the law's where the arguments, and the package variables that the reading takes, are together of bulk at most 1048576: NARROWER than '..Said'. Prove '..Said' where nothing that the law and all that it calls make is longer than what came in: it says more and counts as full. Else prove '..UptoSaid'. A law counts once. -/
mutual
def uptoBulk {H : Type} : DataW H → Nat
  | .lit (.string bytes) => bytes.length + 1
  | .lit _ => 1
  | .nil => 1
  | .ptr d => uptoBulk d + 1
  | .slice elems spare => uptoBulkAll elems + uptoBulkAll spare + 1
  | .agg parts => uptoBulkAll parts + 1
  | .iface _ d => uptoBulk d + 1
  | .map entries => uptoBulkEntries entries + 1
  | .held _ => 1
def uptoBulkAll {H : Type} : List (DataW H) → Nat
  | [] => 0
  | d :: r => uptoBulk d + uptoBulkAll r
def uptoBulkEntries {H : Type} : List (Lit × DataW H) → Nat
  | [] => 0
  | x :: r => uptoBulkEntry x + uptoBulkEntries r
def uptoBulkEntry {H : Type} : Lit × DataW H → Nat
  | (.string bytes, d) => bytes.length + uptoBulk d + 1
  | (_, d) => uptoBulk d + 1
 end
def uptoSmall : (H : Type) → List (DataW H) → Bool := fun _ ds => decide (uptoBulkAll ds ≤ 1048576)
def OpenSpec.upto (s : _root_.Go.ChangeSpec) : _root_.Go.OpenSpec := { _root_.Go.OpenSpec.ofChange s with cond := some uptoSmall }

/-- 'stockyardlaw14.CreditOriginals', WHERE WHAT IT READS IS OF BULK AT MOST 1048576: true; the input reads as it did. -/
def creditOriginalsUptoRow : OpenClaim := { program := "ythonhikkoabhlaadoor", sum := "e9ce20e74519396cc641e4864a62ec7b48ad9b695c78ac4c5c4f7273e5c65c9f", func := "stockyard/stockyardlaw14.CreditOriginals", spec := "creditOriginals", inPlace := ["internal/bytealg.CountString", "internal/bytealg.IndexByteString", "internal/bytealg.IndexString", "internal/bytealg.abigen_runtime_cmpstring"], unfollowed := true, recurses := true, named := ["unicode/utf8.first", "unicode/utf8.acceptRanges", "internal/bytealg.MaxLen"], plainKeys := false, apart := false, laid := [("unicode/utf8.acceptRanges", laid_unicode_utf8_acceptRanges), ("unicode/utf8.first", laid_unicode_utf8_first)], narrowed := true }
def CreditOriginalsUptoSaid : Prop := creditOriginalsUptoRow.holds Tryd.pinned (OpenSpec.upto creditOriginalsSpec)

/-- 'stockyardlaw14.CreditCarries', WHERE WHAT IT READS IS OF BULK AT MOST 1048576: true; the input reads as it did. -/
def creditCarriesUptoRow : OpenClaim := { program := "ythonhikkoabhlaadoor", sum := "e9ce20e74519396cc641e4864a62ec7b48ad9b695c78ac4c5c4f7273e5c65c9f", func := "stockyard/stockyardlaw14.CreditCarries", spec := "creditCarries", inPlace := ["internal/bytealg.CountString", "internal/bytealg.IndexByteString", "internal/bytealg.IndexString", "internal/bytealg.abigen_runtime_cmpstring"], unfollowed := true, recurses := true, named := ["unicode/utf8.first", "unicode/utf8.acceptRanges", "internal/bytealg.MaxLen"], plainKeys := false, apart := false, laid := [("unicode/utf8.acceptRanges", laid_unicode_utf8_acceptRanges), ("unicode/utf8.first", laid_unicode_utf8_first)], narrowed := true }
def CreditCarriesUptoSaid : Prop := creditCarriesUptoRow.holds Tryd.pinned (OpenSpec.upto creditCarriesSpec)

/-- 'stockyardlaw14.CreditContributes', WHERE WHAT IT READS IS OF BULK AT MOST 1048576: true; the input reads as it did. -/
def creditContributesUptoRow : OpenClaim := { program := "ythonhikkoabhlaadoor", sum := "e9ce20e74519396cc641e4864a62ec7b48ad9b695c78ac4c5c4f7273e5c65c9f", func := "stockyard/stockyardlaw14.CreditContributes", spec := "creditContributes", inPlace := ["internal/bytealg.CountString", "internal/bytealg.IndexByteString", "internal/bytealg.IndexString", "internal/bytealg.abigen_runtime_cmpstring"], unfollowed := true, recurses := true, named := ["unicode/utf8.first", "unicode/utf8.acceptRanges", "internal/bytealg.MaxLen"], plainKeys := false, apart := false, laid := [("unicode/utf8.acceptRanges", laid_unicode_utf8_acceptRanges), ("unicode/utf8.first", laid_unicode_utf8_first)], narrowed := true }
def CreditContributesUptoSaid : Prop := creditContributesUptoRow.holds Tryd.pinned (OpenSpec.upto creditContributesSpec)

/-- 'stockyardlaw14.CreditCredits', WHERE WHAT IT READS IS OF BULK AT MOST 1048576: true; the input reads as it did. -/
def creditCreditsUptoRow : OpenClaim := { program := "ythonhikkoabhlaadoor", sum := "e9ce20e74519396cc641e4864a62ec7b48ad9b695c78ac4c5c4f7273e5c65c9f", func := "stockyard/stockyardlaw14.CreditCredits", spec := "creditCredits", inPlace := ["internal/bytealg.CountString", "internal/bytealg.IndexByteString", "internal/bytealg.IndexString", "internal/bytealg.abigen_runtime_cmpstring"], unfollowed := true, recurses := true, named := ["unicode/utf8.first", "unicode/utf8.acceptRanges", "internal/bytealg.MaxLen"], plainKeys := false, apart := false, laid := [("unicode/utf8.acceptRanges", laid_unicode_utf8_acceptRanges), ("unicode/utf8.first", laid_unicode_utf8_first)], narrowed := true }
def CreditCreditsUptoSaid : Prop := creditCreditsUptoRow.holds Tryd.pinned (OpenSpec.upto creditCreditsSpec)

/-- 'stockyardlaw14.CreditElements', WHERE WHAT IT READS IS OF BULK AT MOST 1048576: true; the input reads as it did. -/
def creditElementsUptoRow : OpenClaim := { program := "ythonhikkoabhlaadoor", sum := "e9ce20e74519396cc641e4864a62ec7b48ad9b695c78ac4c5c4f7273e5c65c9f", func := "stockyard/stockyardlaw14.CreditElements", spec := "creditElements", inPlace := ["internal/bytealg.CountString", "internal/bytealg.IndexByteString", "internal/bytealg.IndexString", "internal/bytealg.abigen_runtime_cmpstring"], unfollowed := true, recurses := true, named := ["unicode/utf8.first", "unicode/utf8.acceptRanges", "internal/bytealg.MaxLen"], plainKeys := false, apart := false, laid := [("unicode/utf8.acceptRanges", laid_unicode_utf8_acceptRanges), ("unicode/utf8.first", laid_unicode_utf8_first)], narrowed := true }
def CreditElementsUptoSaid : Prop := creditElementsUptoRow.holds Tryd.pinned (OpenSpec.upto creditElementsSpec)

/-- 'stockyardlaw14.CreditStays', WHERE WHAT IT READS IS OF BULK AT MOST 1048576: true; the input reads as it did. -/
def creditStaysUptoRow : OpenClaim := { program := "ythonhikkoabhlaadoor", sum := "e9ce20e74519396cc641e4864a62ec7b48ad9b695c78ac4c5c4f7273e5c65c9f", func := "stockyard/stockyardlaw14.CreditStays", spec := "creditStays", inPlace := ["internal/bytealg.CountString", "internal/bytealg.IndexByteString", "internal/bytealg.IndexString", "internal/bytealg.abigen_runtime_cmpstring"], unfollowed := true, recurses := true, named := ["unicode/utf8.first", "unicode/utf8.acceptRanges", "internal/bytealg.MaxLen"], plainKeys := false, apart := false, laid := [("unicode/utf8.acceptRanges", laid_unicode_utf8_acceptRanges), ("unicode/utf8.first", laid_unicode_utf8_first)], narrowed := true }
def CreditStaysUptoSaid : Prop := creditStaysUptoRow.holds Tryd.pinned (OpenSpec.upto creditStaysSpec)

/-- 'stockyardlaw14.CreditCopies', WHERE WHAT IT READS IS OF BULK AT MOST 1048576: true; the input reads as it did. -/
def creditCopiesUptoRow : OpenClaim := { program := "ythonhikkoabhlaadoor", sum := "e9ce20e74519396cc641e4864a62ec7b48ad9b695c78ac4c5c4f7273e5c65c9f", func := "stockyard/stockyardlaw14.CreditCopies", spec := "creditCopies", inPlace := ["internal/bytealg.CountString", "internal/bytealg.IndexByteString", "internal/bytealg.IndexString", "internal/bytealg.abigen_runtime_cmpstring"], unfollowed := true, recurses := true, named := ["unicode/utf8.first", "unicode/utf8.acceptRanges", "internal/bytealg.MaxLen"], plainKeys := false, apart := false, laid := [("unicode/utf8.acceptRanges", laid_unicode_utf8_acceptRanges), ("unicode/utf8.first", laid_unicode_utf8_first)], narrowed := true }
def CreditCopiesUptoSaid : Prop := creditCopiesUptoRow.holds Tryd.pinned (OpenSpec.upto creditCopiesSpec)

end Rows
end Go.Proofs.YthonhikkoabhlaaDoor
