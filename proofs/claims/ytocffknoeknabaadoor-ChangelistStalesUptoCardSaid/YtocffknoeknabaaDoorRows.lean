/-
  NARROWER THAN 'FOR EVERY INPUT', by the rows' own cells (each row's printed sentence says how): ChangelistChain: laid · ChangelistStales: laid · ChangelistEmpties: laid · ChangelistPlays: laid · ChangelistOrder: laid.
  DERIVED. THE GIVEN ROWS OF THIS SEAT. 5 by the template 'for every input the law returns true; each argument reads behind the call as it read before'; 0 by the template 'total and deterministic' (their statements: YtocffknoeknabaaDoorTotals.lean).
  GIVEN WITH THE SEED: the statements are not yours to turn. If you find one false, say at which input.
  Laid BY PROGRAM, IN A SANDBOX (cutbox-rows.mjs): the forced cells as the released guide's own fill.sh prints them over the translation 945d9735fbda42e3… (all of the seat's roots in one cut). By AI agents, Wed Nov 11 2026. No macro, syntax, notation, axiom, sorry.
-/
import Derived.Test.YtocffknoeknabaaDoorChecked
import GoSem.PinnedTables
import GoSem.Claim
import GoSem.ClaimJoined
import GoSem.ClaimMapViews
import Derived.JoinedTies
import Derived.KernelRfl
namespace Go.Proofs.YtocffknoeknabaaDoor
/- THE CELL 'sum', in the pinned program and in every row, IS THE sha256 OF THE DUMP (.gsa) THAT YtocffknoeknabaaDoorProg.lean LOADS. Nothing in Lean hashes anything: it is a label: what it is worth is what the hold of that sum in a sandbox is worth. -/
noncomputable def Tryd.pinned : Pinned := { name := "ytocffknoeknabaadoor", sum := "945d9735fbda42e31f7a54fc4b1ad50aa1985634dbba4ddaff073be87e1de2d1", checked := Tryd.checked }
namespace Rows
def none {H : Type} : Left H := { results := [], args := [] }

/- WHAT THE LISTED PACKAGE-LEVEL VARIABLES READ AS WHEN THE CALL BEGINS. Each datum BY PROGRAM (the guide's laid-datum.mjs) off the statement by which the dump's own 'gosem.cut.vars' lays the variable. In a bare row this is a premise. The card (YtocffknoeknabaaDoorCards.lean) ties it to the program's text. -/
def laid_unicode_utf8_acceptRanges {H : Type} : DataW H := .agg [.agg [.lit (.int .u8 128), .lit (.int .u8 191)], .agg [.lit (.int .u8 160), .lit (.int .u8 191)], .agg [.lit (.int .u8 128), .lit (.int .u8 159)], .agg [.lit (.int .u8 144), .lit (.int .u8 191)], .agg [.lit (.int .u8 128), .lit (.int .u8 143)], .agg [.lit (.int .u8 0), .lit (.int .u8 0)], .agg [.lit (.int .u8 0), .lit (.int .u8 0)], .agg [.lit (.int .u8 0), .lit (.int .u8 0)], .agg [.lit (.int .u8 0), .lit (.int .u8 0)], .agg [.lit (.int .u8 0), .lit (.int .u8 0)], .agg [.lit (.int .u8 0), .lit (.int .u8 0)], .agg [.lit (.int .u8 0), .lit (.int .u8 0)], .agg [.lit (.int .u8 0), .lit (.int .u8 0)], .agg [.lit (.int .u8 0), .lit (.int .u8 0)], .agg [.lit (.int .u8 0), .lit (.int .u8 0)], .agg [.lit (.int .u8 0), .lit (.int .u8 0)]]
/-- One of Go's own tables, pinned by name: the form's constant. -/
def laid_unicode_utf8_first : DataW Unit := Go.Pinned.utf8First

/-- 'stockyardlaw18.ChangelistChain': WHATEVER THE INPUT: true; the input reads as it did. -/
def changelistChainSpec : ChangeSpec := { name := "changelistChain", fn := fun _ => fun
  | [d1, d2, d3, d4, d5] => { results := [.lit (.bool true)], args := [d1, d2, d3, d4, d5] }
  | _ => none }
def changelistChainRow : OpenClaim := { program := "ytocffknoeknabaadoor", sum := "945d9735fbda42e31f7a54fc4b1ad50aa1985634dbba4ddaff073be87e1de2d1", func := "stockyard/stockyardlaw18.ChangelistChain", spec := "changelistChain", inPlace := ["slices.overlaps[stockyard/api.Edit]", "internal/bytealg.CountString", "internal/bytealg.IndexByteString", "internal/bytealg.IndexString", "internal/bytealg.abigen_runtime_cmpstring"], unfollowed := true, recurses := true, named := ["unicode/utf8.first", "unicode/utf8.acceptRanges", "internal/bytealg.MaxLen"], plainKeys := false, apart := false, laid := [("unicode/utf8.acceptRanges", laid_unicode_utf8_acceptRanges), ("unicode/utf8.first", laid_unicode_utf8_first)] }
def ChangelistChainSaid : Prop := changelistChainRow.holds Tryd.pinned (OpenSpec.ofChange changelistChainSpec)

/-- ITS FALSE NEIGHBOUR: 'it returns false'. Refute it at one input. -/
def changelistChainWrong : ChangeSpec := { name := "changelistChain", fn := fun _ => fun
  | [d1, d2, d3, d4, d5] => { results := [.lit (.bool false)], args := [d1, d2, d3, d4, d5] }
  | _ => none }
def ChangelistChainWrongFalsely : Prop := changelistChainRow.holds Tryd.pinned (OpenSpec.ofChange changelistChainWrong)

/-- 'stockyardlaw18.ChangelistStales': WHATEVER THE INPUT: true; the input reads as it did. -/
def changelistStalesSpec : ChangeSpec := { name := "changelistStales", fn := fun _ => fun
  | [d1, d2, d3, d4] => { results := [.lit (.bool true)], args := [d1, d2, d3, d4] }
  | _ => none }
def changelistStalesRow : OpenClaim := { program := "ytocffknoeknabaadoor", sum := "945d9735fbda42e31f7a54fc4b1ad50aa1985634dbba4ddaff073be87e1de2d1", func := "stockyard/stockyardlaw18.ChangelistStales", spec := "changelistStales", inPlace := ["slices.overlaps[stockyard/api.Edit]", "internal/bytealg.CountString", "internal/bytealg.IndexByteString", "internal/bytealg.IndexString", "internal/bytealg.abigen_runtime_cmpstring"], unfollowed := true, recurses := true, named := ["unicode/utf8.first", "unicode/utf8.acceptRanges", "internal/bytealg.MaxLen"], plainKeys := false, apart := false, laid := [("unicode/utf8.acceptRanges", laid_unicode_utf8_acceptRanges), ("unicode/utf8.first", laid_unicode_utf8_first)] }
def ChangelistStalesSaid : Prop := changelistStalesRow.holds Tryd.pinned (OpenSpec.ofChange changelistStalesSpec)

/-- ITS FALSE NEIGHBOUR: 'it returns false'. Refute it at one input. -/
def changelistStalesWrong : ChangeSpec := { name := "changelistStales", fn := fun _ => fun
  | [d1, d2, d3, d4] => { results := [.lit (.bool false)], args := [d1, d2, d3, d4] }
  | _ => none }
def ChangelistStalesWrongFalsely : Prop := changelistStalesRow.holds Tryd.pinned (OpenSpec.ofChange changelistStalesWrong)

/-- 'stockyardlaw18.ChangelistEmpties': WHATEVER THE INPUT: true; the input reads as it did. -/
def changelistEmptiesSpec : ChangeSpec := { name := "changelistEmpties", fn := fun _ => fun
  | [d1, d2, d3] => { results := [.lit (.bool true)], args := [d1, d2, d3] }
  | _ => none }
def changelistEmptiesRow : OpenClaim := { program := "ytocffknoeknabaadoor", sum := "945d9735fbda42e31f7a54fc4b1ad50aa1985634dbba4ddaff073be87e1de2d1", func := "stockyard/stockyardlaw18.ChangelistEmpties", spec := "changelistEmpties", inPlace := ["slices.overlaps[stockyard/api.Edit]", "internal/bytealg.CountString", "internal/bytealg.IndexByteString", "internal/bytealg.IndexString", "internal/bytealg.abigen_runtime_cmpstring"], unfollowed := true, recurses := true, named := ["unicode/utf8.first", "unicode/utf8.acceptRanges", "internal/bytealg.MaxLen"], plainKeys := false, apart := false, laid := [("unicode/utf8.acceptRanges", laid_unicode_utf8_acceptRanges), ("unicode/utf8.first", laid_unicode_utf8_first)] }
def ChangelistEmptiesSaid : Prop := changelistEmptiesRow.holds Tryd.pinned (OpenSpec.ofChange changelistEmptiesSpec)

/-- ITS FALSE NEIGHBOUR: 'it returns false'. Refute it at one input. -/
def changelistEmptiesWrong : ChangeSpec := { name := "changelistEmpties", fn := fun _ => fun
  | [d1, d2, d3] => { results := [.lit (.bool false)], args := [d1, d2, d3] }
  | _ => none }
def ChangelistEmptiesWrongFalsely : Prop := changelistEmptiesRow.holds Tryd.pinned (OpenSpec.ofChange changelistEmptiesWrong)

/-- 'stockyardlaw18.ChangelistPlays': WHATEVER THE INPUT: true; the input reads as it did. -/
def changelistPlaysSpec : ChangeSpec := { name := "changelistPlays", fn := fun _ => fun
  | [d1, d2, d3] => { results := [.lit (.bool true)], args := [d1, d2, d3] }
  | _ => none }
def changelistPlaysRow : OpenClaim := { program := "ytocffknoeknabaadoor", sum := "945d9735fbda42e31f7a54fc4b1ad50aa1985634dbba4ddaff073be87e1de2d1", func := "stockyard/stockyardlaw18.ChangelistPlays", spec := "changelistPlays", inPlace := ["slices.overlaps[stockyard/api.Edit]", "internal/bytealg.CountString", "internal/bytealg.IndexByteString", "internal/bytealg.IndexString", "internal/bytealg.abigen_runtime_cmpstring"], unfollowed := true, recurses := true, named := ["unicode/utf8.first", "unicode/utf8.acceptRanges", "internal/bytealg.MaxLen"], plainKeys := false, apart := false, laid := [("unicode/utf8.acceptRanges", laid_unicode_utf8_acceptRanges), ("unicode/utf8.first", laid_unicode_utf8_first)] }
def ChangelistPlaysSaid : Prop := changelistPlaysRow.holds Tryd.pinned (OpenSpec.ofChange changelistPlaysSpec)

/-- ITS FALSE NEIGHBOUR: 'it returns false'. Refute it at one input. -/
def changelistPlaysWrong : ChangeSpec := { name := "changelistPlays", fn := fun _ => fun
  | [d1, d2, d3] => { results := [.lit (.bool false)], args := [d1, d2, d3] }
  | _ => none }
def ChangelistPlaysWrongFalsely : Prop := changelistPlaysRow.holds Tryd.pinned (OpenSpec.ofChange changelistPlaysWrong)

/-- 'stockyardlaw18.ChangelistOrder': WHATEVER THE INPUT: true; the input reads as it did. -/
def changelistOrderSpec : ChangeSpec := { name := "changelistOrder", fn := fun _ => fun
  | [d1, d2, d3] => { results := [.lit (.bool true)], args := [d1, d2, d3] }
  | _ => none }
def changelistOrderRow : OpenClaim := { program := "ytocffknoeknabaadoor", sum := "945d9735fbda42e31f7a54fc4b1ad50aa1985634dbba4ddaff073be87e1de2d1", func := "stockyard/stockyardlaw18.ChangelistOrder", spec := "changelistOrder", inPlace := ["slices.overlaps[stockyard/api.Edit]", "internal/bytealg.CountString", "internal/bytealg.IndexByteString", "internal/bytealg.IndexString", "internal/bytealg.abigen_runtime_cmpstring"], unfollowed := true, recurses := true, named := ["unicode/utf8.first", "unicode/utf8.acceptRanges", "internal/bytealg.MaxLen"], plainKeys := false, apart := false, laid := [("unicode/utf8.acceptRanges", laid_unicode_utf8_acceptRanges), ("unicode/utf8.first", laid_unicode_utf8_first)] }
def ChangelistOrderSaid : Prop := changelistOrderRow.holds Tryd.pinned (OpenSpec.ofChange changelistOrderSpec)

/-- ITS FALSE NEIGHBOUR: 'it returns false'. Refute it at one input. -/
def changelistOrderWrong : ChangeSpec := { name := "changelistOrder", fn := fun _ => fun
  | [d1, d2, d3] => { results := [.lit (.bool false)], args := [d1, d2, d3] }
  | _ => none }
def ChangelistOrderWrongFalsely : Prop := changelistOrderRow.holds Tryd.pinned (OpenSpec.ofChange changelistOrderWrong)

/- THE SECOND FORM. 'bulk': how many values and letters a reading holds, each counted each time it is reached (what is shared counts as often as it is met; a slice's spare places count too). A statement '..UptoSaid' is the law's where the arguments, and the package variables that the reading takes, are together of bulk at most 1048576: NARROWER than '..Said'. Prove '..Said' where nothing that the law and all that it calls make is longer than what came in: it says more and counts as full. Else prove '..UptoSaid'. A law counts once. -/
mutual
def uptoBulk {H : Type} : DataW H → Nat
  | .lit (.string bytes) => bytes.length + 1
  | .lit _ => 1
  | .nil => 1
  | .ptr d => uptoBulk d + 1
  | .slice elems spare => uptoBulkAll elems + uptoBulkAll spare + 1
  | .agg parts => uptoBulkAll parts + 1
  | .iface _ d => uptoBulk d + 1
  | .map entries => uptoBulkEntries entries + 1
  | .held _ => 1
def uptoBulkAll {H : Type} : List (DataW H) → Nat
  | [] => 0
  | d :: r => uptoBulk d + uptoBulkAll r
def uptoBulkEntries {H : Type} : List (Lit × DataW H) → Nat
  | [] => 0
  | x :: r => uptoBulkEntry x + uptoBulkEntries r
def uptoBulkEntry {H : Type} : Lit × DataW H → Nat
  | (.string bytes, d) => bytes.length + uptoBulk d + 1
  | (_, d) => uptoBulk d + 1
 end
def uptoSmall : (H : Type) → List (DataW H) → Bool := fun _ ds => decide (uptoBulkAll ds ≤ 1048576)
def OpenSpec.upto (s : _root_.Go.ChangeSpec) : _root_.Go.OpenSpec := { _root_.Go.OpenSpec.ofChange s with cond := some uptoSmall }

/-- 'stockyardlaw18.ChangelistChain', WHERE WHAT IT READS IS OF BULK AT MOST 1048576: true; the input reads as it did. -/
def changelistChainUptoRow : OpenClaim := { program := "ytocffknoeknabaadoor", sum := "945d9735fbda42e31f7a54fc4b1ad50aa1985634dbba4ddaff073be87e1de2d1", func := "stockyard/stockyardlaw18.ChangelistChain", spec := "changelistChain", inPlace := ["slices.overlaps[stockyard/api.Edit]", "internal/bytealg.CountString", "internal/bytealg.IndexByteString", "internal/bytealg.IndexString", "internal/bytealg.abigen_runtime_cmpstring"], unfollowed := true, recurses := true, named := ["unicode/utf8.first", "unicode/utf8.acceptRanges", "internal/bytealg.MaxLen"], plainKeys := false, apart := false, laid := [("unicode/utf8.acceptRanges", laid_unicode_utf8_acceptRanges), ("unicode/utf8.first", laid_unicode_utf8_first)], narrowed := true }
def ChangelistChainUptoSaid : Prop := changelistChainUptoRow.holds Tryd.pinned (OpenSpec.upto changelistChainSpec)

/-- 'stockyardlaw18.ChangelistStales', WHERE WHAT IT READS IS OF BULK AT MOST 1048576: true; the input reads as it did. -/
def changelistStalesUptoRow : OpenClaim := { program := "ytocffknoeknabaadoor", sum := "945d9735fbda42e31f7a54fc4b1ad50aa1985634dbba4ddaff073be87e1de2d1", func := "stockyard/stockyardlaw18.ChangelistStales", spec := "changelistStales", inPlace := ["slices.overlaps[stockyard/api.Edit]", "internal/bytealg.CountString", "internal/bytealg.IndexByteString", "internal/bytealg.IndexString", "internal/bytealg.abigen_runtime_cmpstring"], unfollowed := true, recurses := true, named := ["unicode/utf8.first", "unicode/utf8.acceptRanges", "internal/bytealg.MaxLen"], plainKeys := false, apart := false, laid := [("unicode/utf8.acceptRanges", laid_unicode_utf8_acceptRanges), ("unicode/utf8.first", laid_unicode_utf8_first)], narrowed := true }
def ChangelistStalesUptoSaid : Prop := changelistStalesUptoRow.holds Tryd.pinned (OpenSpec.upto changelistStalesSpec)

/-- 'stockyardlaw18.ChangelistEmpties', WHERE WHAT IT READS IS OF BULK AT MOST 1048576: true; the input reads as it did. -/
def changelistEmptiesUptoRow : OpenClaim := { program := "ytocffknoeknabaadoor", sum := "945d9735fbda42e31f7a54fc4b1ad50aa1985634dbba4ddaff073be87e1de2d1", func := "stockyard/stockyardlaw18.ChangelistEmpties", spec := "changelistEmpties", inPlace := ["slices.overlaps[stockyard/api.Edit]", "internal/bytealg.CountString", "internal/bytealg.IndexByteString", "internal/bytealg.IndexString", "internal/bytealg.abigen_runtime_cmpstring"], unfollowed := true, recurses := true, named := ["unicode/utf8.first", "unicode/utf8.acceptRanges", "internal/bytealg.MaxLen"], plainKeys := false, apart := false, laid := [("unicode/utf8.acceptRanges", laid_unicode_utf8_acceptRanges), ("unicode/utf8.first", laid_unicode_utf8_first)], narrowed := true }
def ChangelistEmptiesUptoSaid : Prop := changelistEmptiesUptoRow.holds Tryd.pinned (OpenSpec.upto changelistEmptiesSpec)

/-- 'stockyardlaw18.ChangelistPlays', WHERE WHAT IT READS IS OF BULK AT MOST 1048576: true; the input reads as it did. -/
def changelistPlaysUptoRow : OpenClaim := { program := "ytocffknoeknabaadoor", sum := "945d9735fbda42e31f7a54fc4b1ad50aa1985634dbba4ddaff073be87e1de2d1", func := "stockyard/stockyardlaw18.ChangelistPlays", spec := "changelistPlays", inPlace := ["slices.overlaps[stockyard/api.Edit]", "internal/bytealg.CountString", "internal/bytealg.IndexByteString", "internal/bytealg.IndexString", "internal/bytealg.abigen_runtime_cmpstring"], unfollowed := true, recurses := true, named := ["unicode/utf8.first", "unicode/utf8.acceptRanges", "internal/bytealg.MaxLen"], plainKeys := false, apart := false, laid := [("unicode/utf8.acceptRanges", laid_unicode_utf8_acceptRanges), ("unicode/utf8.first", laid_unicode_utf8_first)], narrowed := true }
def ChangelistPlaysUptoSaid : Prop := changelistPlaysUptoRow.holds Tryd.pinned (OpenSpec.upto changelistPlaysSpec)

/-- 'stockyardlaw18.ChangelistOrder', WHERE WHAT IT READS IS OF BULK AT MOST 1048576: true; the input reads as it did. -/
def changelistOrderUptoRow : OpenClaim := { program := "ytocffknoeknabaadoor", sum := "945d9735fbda42e31f7a54fc4b1ad50aa1985634dbba4ddaff073be87e1de2d1", func := "stockyard/stockyardlaw18.ChangelistOrder", spec := "changelistOrder", inPlace := ["slices.overlaps[stockyard/api.Edit]", "internal/bytealg.CountString", "internal/bytealg.IndexByteString", "internal/bytealg.IndexString", "internal/bytealg.abigen_runtime_cmpstring"], unfollowed := true, recurses := true, named := ["unicode/utf8.first", "unicode/utf8.acceptRanges", "internal/bytealg.MaxLen"], plainKeys := false, apart := false, laid := [("unicode/utf8.acceptRanges", laid_unicode_utf8_acceptRanges), ("unicode/utf8.first", laid_unicode_utf8_first)], narrowed := true }
def ChangelistOrderUptoSaid : Prop := changelistOrderUptoRow.holds Tryd.pinned (OpenSpec.upto changelistOrderSpec)

end Rows
end Go.Proofs.YtocffknoeknabaaDoor
