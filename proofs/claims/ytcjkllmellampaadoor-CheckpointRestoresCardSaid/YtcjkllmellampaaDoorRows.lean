/-
  NARROWER THAN 'FOR EVERY INPUT', by the rows' own cells (each row's printed sentence says how): CheckpointPlays: laid · CheckpointSizes: laid · CheckpointKeeps: laid · CheckpointEvery: laid · CheckpointNames: laid · CheckpointRecovers: laid · CheckpointApart: laid · CheckpointRestores: laid.
  DERIVED. THE GIVEN ROWS OF THIS SEAT. 8 by the template 'for every input the law returns true; each argument reads behind the call as it read before'; 0 by the template 'total and deterministic' (their statements: YtcjkllmellampaaDoorTotals.lean).
  GIVEN WITH THE SEED: the statements are not yours to turn. If you find one false, say at which input.
  Laid BY PROGRAM, IN A SANDBOX (cutbox-rows.mjs): the forced cells as the released guide's own fill.sh prints them over the translation dc196eb6f6dfb545… (all of the seat's roots in one cut). By AI agents, Wed Nov 11 2026. No macro, syntax, notation, axiom, sorry.
-/
import Derived.Test.YtcjkllmellampaaDoorChecked
import GoSem.Claim
import GoSem.ClaimJoined
import GoSem.ClaimMapViews
import Derived.JoinedTies
import Derived.KernelRfl
namespace Go.Proofs.YtcjkllmellampaaDoor
/- THE CELL 'sum', in the pinned program and in every row, IS THE sha256 OF THE DUMP (.gsa) THAT YtcjkllmellampaaDoorProg.lean LOADS. Nothing in Lean hashes anything: it is a label: what it is worth is what the hold of that sum in a sandbox is worth. -/
noncomputable def Tryd.pinned : Pinned := { name := "ytcjkllmellampaadoor", sum := "dc196eb6f6dfb545fdbe4b4f52a514f87652530e50d5ff3668cab8c677cf1e34", checked := Tryd.checked }
namespace Rows
def none {H : Type} : Left H := { results := [], args := [] }

/- WHAT THE LISTED PACKAGE-LEVEL VARIABLES READ AS WHEN THE CALL BEGINS. Each datum BY PROGRAM (the guide's laid-datum.mjs) off the statement by which the dump's own 'gosem.cut.vars' lays the variable. In a bare row this is a premise. The card (YtcjkllmellampaaDoorCards.lean) ties it to the program's text. -/
def laid_math_bits_deBruijn32tab {H : Type} : DataW H := .agg [.lit (.int .u8 0), .lit (.int .u8 1), .lit (.int .u8 28), .lit (.int .u8 2), .lit (.int .u8 29), .lit (.int .u8 14), .lit (.int .u8 24), .lit (.int .u8 3), .lit (.int .u8 30), .lit (.int .u8 22), .lit (.int .u8 20), .lit (.int .u8 15), .lit (.int .u8 25), .lit (.int .u8 17), .lit (.int .u8 4), .lit (.int .u8 8), .lit (.int .u8 31), .lit (.int .u8 27), .lit (.int .u8 13), .lit (.int .u8 23), .lit (.int .u8 21), .lit (.int .u8 19), .lit (.int .u8 16), .lit (.int .u8 7), .lit (.int .u8 26), .lit (.int .u8 12), .lit (.int .u8 18), .lit (.int .u8 6), .lit (.int .u8 11), .lit (.int .u8 5), .lit (.int .u8 10), .lit (.int .u8 9)]
def laid_math_bits_deBruijn64tab {H : Type} : DataW H := .agg [.lit (.int .u8 0), .lit (.int .u8 1), .lit (.int .u8 56), .lit (.int .u8 2), .lit (.int .u8 57), .lit (.int .u8 49), .lit (.int .u8 28), .lit (.int .u8 3), .lit (.int .u8 61), .lit (.int .u8 58), .lit (.int .u8 42), .lit (.int .u8 50), .lit (.int .u8 38), .lit (.int .u8 29), .lit (.int .u8 17), .lit (.int .u8 4), .lit (.int .u8 62), .lit (.int .u8 47), .lit (.int .u8 59), .lit (.int .u8 36), .lit (.int .u8 45), .lit (.int .u8 43), .lit (.int .u8 51), .lit (.int .u8 22), .lit (.int .u8 53), .lit (.int .u8 39), .lit (.int .u8 33), .lit (.int .u8 30), .lit (.int .u8 24), .lit (.int .u8 18), .lit (.int .u8 12), .lit (.int .u8 5), .lit (.int .u8 63), .lit (.int .u8 55), .lit (.int .u8 48), .lit (.int .u8 27), .lit (.int .u8 60), .lit (.int .u8 41), .lit (.int .u8 37), .lit (.int .u8 16), .lit (.int .u8 46), .lit (.int .u8 35), .lit (.int .u8 44), .lit (.int .u8 21), .lit (.int .u8 52), .lit (.int .u8 32), .lit (.int .u8 23), .lit (.int .u8 11), .lit (.int .u8 54), .lit (.int .u8 26), .lit (.int .u8 40), .lit (.int .u8 15), .lit (.int .u8 34), .lit (.int .u8 20), .lit (.int .u8 31), .lit (.int .u8 10), .lit (.int .u8 25), .lit (.int .u8 14), .lit (.int .u8 19), .lit (.int .u8 9), .lit (.int .u8 13), .lit (.int .u8 8), .lit (.int .u8 7), .lit (.int .u8 6)]
def laid_internal_strconv_uint64pow10 {H : Type} : DataW H := .agg [.lit (.int .u64 1), .lit (.int .u64 10), .lit (.int .u64 100), .lit (.int .u64 1000), .lit (.int .u64 10000), .lit (.int .u64 100000), .lit (.int .u64 1000000), .lit (.int .u64 10000000), .lit (.int .u64 100000000), .lit (.int .u64 1000000000), .lit (.int .u64 10000000000), .lit (.int .u64 100000000000), .lit (.int .u64 1000000000000), .lit (.int .u64 10000000000000), .lit (.int .u64 100000000000000), .lit (.int .u64 1000000000000000), .lit (.int .u64 10000000000000000), .lit (.int .u64 100000000000000000), .lit (.int .u64 1000000000000000000), .lit (.int .u64 10000000000000000000)]

/-- 'stockyardlaw32.CheckpointPlays': WHATEVER THE INPUT: true; the input reads as it did. -/
def checkpointPlaysSpec : ChangeSpec := { name := "checkpointPlays", fn := fun _ => fun
  | [d] => { results := [.lit (.bool true)], args := [d] }
  | _ => none }
def checkpointPlaysRow : OpenClaim := { program := "ytcjkllmellampaadoor", sum := "dc196eb6f6dfb545fdbe4b4f52a514f87652530e50d5ff3668cab8c677cf1e34", func := "stockyard/stockyardlaw32.CheckpointPlays", spec := "checkpointPlays", inPlace := ["maps.clone"], unfollowed := true, recurses := true, named := ["internal/strconv.uint64pow10", "math/bits.deBruijn32tab", "math/bits.deBruijn64tab"], apart := false, laid := [("math/bits.deBruijn32tab", laid_math_bits_deBruijn32tab), ("math/bits.deBruijn64tab", laid_math_bits_deBruijn64tab), ("internal/strconv.uint64pow10", laid_internal_strconv_uint64pow10)] }
def CheckpointPlaysSaid : Prop := checkpointPlaysRow.holds Tryd.pinned (OpenSpec.ofChange checkpointPlaysSpec)

/-- ITS FALSE NEIGHBOUR: 'it returns false'. Refute it at one input. -/
def checkpointPlaysWrong : ChangeSpec := { name := "checkpointPlays", fn := fun _ => fun
  | [d] => { results := [.lit (.bool false)], args := [d] }
  | _ => none }
def CheckpointPlaysWrongFalsely : Prop := checkpointPlaysRow.holds Tryd.pinned (OpenSpec.ofChange checkpointPlaysWrong)

/-- 'stockyardlaw32.CheckpointSizes': WHATEVER THE INPUT: true; the input reads as it did. -/
def checkpointSizesSpec : ChangeSpec := { name := "checkpointSizes", fn := fun _ => fun
  | [d1, d2] => { results := [.lit (.bool true)], args := [d1, d2] }
  | _ => none }
def checkpointSizesRow : OpenClaim := { program := "ytcjkllmellampaadoor", sum := "dc196eb6f6dfb545fdbe4b4f52a514f87652530e50d5ff3668cab8c677cf1e34", func := "stockyard/stockyardlaw32.CheckpointSizes", spec := "checkpointSizes", inPlace := ["maps.clone"], unfollowed := true, recurses := true, named := ["internal/strconv.uint64pow10", "math/bits.deBruijn32tab", "math/bits.deBruijn64tab"], apart := false, laid := [("math/bits.deBruijn32tab", laid_math_bits_deBruijn32tab), ("math/bits.deBruijn64tab", laid_math_bits_deBruijn64tab), ("internal/strconv.uint64pow10", laid_internal_strconv_uint64pow10)] }
def CheckpointSizesSaid : Prop := checkpointSizesRow.holds Tryd.pinned (OpenSpec.ofChange checkpointSizesSpec)

/-- ITS FALSE NEIGHBOUR: 'it returns false'. Refute it at one input. -/
def checkpointSizesWrong : ChangeSpec := { name := "checkpointSizes", fn := fun _ => fun
  | [d1, d2] => { results := [.lit (.bool false)], args := [d1, d2] }
  | _ => none }
def CheckpointSizesWrongFalsely : Prop := checkpointSizesRow.holds Tryd.pinned (OpenSpec.ofChange checkpointSizesWrong)

/-- 'stockyardlaw32.CheckpointKeeps': WHATEVER THE INPUT: true; the input reads as it did. -/
def checkpointKeepsSpec : ChangeSpec := { name := "checkpointKeeps", fn := fun _ => fun
  | [d] => { results := [.lit (.bool true)], args := [d] }
  | _ => none }
def checkpointKeepsRow : OpenClaim := { program := "ytcjkllmellampaadoor", sum := "dc196eb6f6dfb545fdbe4b4f52a514f87652530e50d5ff3668cab8c677cf1e34", func := "stockyard/stockyardlaw32.CheckpointKeeps", spec := "checkpointKeeps", inPlace := ["maps.clone"], unfollowed := true, recurses := true, named := ["internal/strconv.uint64pow10", "math/bits.deBruijn32tab", "math/bits.deBruijn64tab"], apart := false, laid := [("math/bits.deBruijn32tab", laid_math_bits_deBruijn32tab), ("math/bits.deBruijn64tab", laid_math_bits_deBruijn64tab), ("internal/strconv.uint64pow10", laid_internal_strconv_uint64pow10)] }
def CheckpointKeepsSaid : Prop := checkpointKeepsRow.holds Tryd.pinned (OpenSpec.ofChange checkpointKeepsSpec)

/-- ITS FALSE NEIGHBOUR: 'it returns false'. Refute it at one input. -/
def checkpointKeepsWrong : ChangeSpec := { name := "checkpointKeeps", fn := fun _ => fun
  | [d] => { results := [.lit (.bool false)], args := [d] }
  | _ => none }
def CheckpointKeepsWrongFalsely : Prop := checkpointKeepsRow.holds Tryd.pinned (OpenSpec.ofChange checkpointKeepsWrong)

/-- 'stockyardlaw32.CheckpointEvery': WHATEVER THE INPUT: true; the input reads as it did. -/
def checkpointEverySpec : ChangeSpec := { name := "checkpointEvery", fn := fun _ => fun
  | [d1, d2, d3, d4, d5] => { results := [.lit (.bool true)], args := [d1, d2, d3, d4, d5] }
  | _ => none }
def checkpointEveryRow : OpenClaim := { program := "ytcjkllmellampaadoor", sum := "dc196eb6f6dfb545fdbe4b4f52a514f87652530e50d5ff3668cab8c677cf1e34", func := "stockyard/stockyardlaw32.CheckpointEvery", spec := "checkpointEvery", inPlace := ["maps.clone"], unfollowed := true, recurses := true, named := ["internal/strconv.uint64pow10", "math/bits.deBruijn32tab", "math/bits.deBruijn64tab"], apart := false, laid := [("math/bits.deBruijn32tab", laid_math_bits_deBruijn32tab), ("math/bits.deBruijn64tab", laid_math_bits_deBruijn64tab), ("internal/strconv.uint64pow10", laid_internal_strconv_uint64pow10)] }
def CheckpointEverySaid : Prop := checkpointEveryRow.holds Tryd.pinned (OpenSpec.ofChange checkpointEverySpec)

/-- ITS FALSE NEIGHBOUR: 'it returns false'. Refute it at one input. -/
def checkpointEveryWrong : ChangeSpec := { name := "checkpointEvery", fn := fun _ => fun
  | [d1, d2, d3, d4, d5] => { results := [.lit (.bool false)], args := [d1, d2, d3, d4, d5] }
  | _ => none }
def CheckpointEveryWrongFalsely : Prop := checkpointEveryRow.holds Tryd.pinned (OpenSpec.ofChange checkpointEveryWrong)

/-- 'stockyardlaw32.CheckpointNames': WHATEVER THE INPUT: true; the input reads as it did. -/
def checkpointNamesSpec : ChangeSpec := { name := "checkpointNames", fn := fun _ => fun
  | [d1, d2] => { results := [.lit (.bool true)], args := [d1, d2] }
  | _ => none }
def checkpointNamesRow : OpenClaim := { program := "ytcjkllmellampaadoor", sum := "dc196eb6f6dfb545fdbe4b4f52a514f87652530e50d5ff3668cab8c677cf1e34", func := "stockyard/stockyardlaw32.CheckpointNames", spec := "checkpointNames", inPlace := ["maps.clone"], unfollowed := true, recurses := true, named := ["internal/strconv.uint64pow10", "math/bits.deBruijn32tab", "math/bits.deBruijn64tab"], apart := false, laid := [("math/bits.deBruijn32tab", laid_math_bits_deBruijn32tab), ("math/bits.deBruijn64tab", laid_math_bits_deBruijn64tab), ("internal/strconv.uint64pow10", laid_internal_strconv_uint64pow10)] }
def CheckpointNamesSaid : Prop := checkpointNamesRow.holds Tryd.pinned (OpenSpec.ofChange checkpointNamesSpec)

/-- ITS FALSE NEIGHBOUR: 'it returns false'. Refute it at one input. -/
def checkpointNamesWrong : ChangeSpec := { name := "checkpointNames", fn := fun _ => fun
  | [d1, d2] => { results := [.lit (.bool false)], args := [d1, d2] }
  | _ => none }
def CheckpointNamesWrongFalsely : Prop := checkpointNamesRow.holds Tryd.pinned (OpenSpec.ofChange checkpointNamesWrong)

/-- 'stockyardlaw32.CheckpointRecovers': WHATEVER THE INPUT: true; the input reads as it did. -/
def checkpointRecoversSpec : ChangeSpec := { name := "checkpointRecovers", fn := fun _ => fun
  | [d] => { results := [.lit (.bool true)], args := [d] }
  | _ => none }
def checkpointRecoversRow : OpenClaim := { program := "ytcjkllmellampaadoor", sum := "dc196eb6f6dfb545fdbe4b4f52a514f87652530e50d5ff3668cab8c677cf1e34", func := "stockyard/stockyardlaw32.CheckpointRecovers", spec := "checkpointRecovers", inPlace := ["maps.clone"], unfollowed := true, recurses := true, named := ["internal/strconv.uint64pow10", "math/bits.deBruijn32tab", "math/bits.deBruijn64tab"], apart := false, laid := [("math/bits.deBruijn32tab", laid_math_bits_deBruijn32tab), ("math/bits.deBruijn64tab", laid_math_bits_deBruijn64tab), ("internal/strconv.uint64pow10", laid_internal_strconv_uint64pow10)] }
def CheckpointRecoversSaid : Prop := checkpointRecoversRow.holds Tryd.pinned (OpenSpec.ofChange checkpointRecoversSpec)

/-- ITS FALSE NEIGHBOUR: 'it returns false'. Refute it at one input. -/
def checkpointRecoversWrong : ChangeSpec := { name := "checkpointRecovers", fn := fun _ => fun
  | [d] => { results := [.lit (.bool false)], args := [d] }
  | _ => none }
def CheckpointRecoversWrongFalsely : Prop := checkpointRecoversRow.holds Tryd.pinned (OpenSpec.ofChange checkpointRecoversWrong)

/-- 'stockyardlaw32.CheckpointApart': WHATEVER THE INPUT: true; the input reads as it did. -/
def checkpointApartSpec : ChangeSpec := { name := "checkpointApart", fn := fun _ => fun
  | [d] => { results := [.lit (.bool true)], args := [d] }
  | _ => none }
def checkpointApartRow : OpenClaim := { program := "ytcjkllmellampaadoor", sum := "dc196eb6f6dfb545fdbe4b4f52a514f87652530e50d5ff3668cab8c677cf1e34", func := "stockyard/stockyardlaw32.CheckpointApart", spec := "checkpointApart", inPlace := ["maps.clone"], unfollowed := true, recurses := true, named := ["internal/strconv.uint64pow10", "math/bits.deBruijn32tab", "math/bits.deBruijn64tab"], apart := false, laid := [("math/bits.deBruijn32tab", laid_math_bits_deBruijn32tab), ("math/bits.deBruijn64tab", laid_math_bits_deBruijn64tab), ("internal/strconv.uint64pow10", laid_internal_strconv_uint64pow10)] }
def CheckpointApartSaid : Prop := checkpointApartRow.holds Tryd.pinned (OpenSpec.ofChange checkpointApartSpec)

/-- ITS FALSE NEIGHBOUR: 'it returns false'. Refute it at one input. -/
def checkpointApartWrong : ChangeSpec := { name := "checkpointApart", fn := fun _ => fun
  | [d] => { results := [.lit (.bool false)], args := [d] }
  | _ => none }
def CheckpointApartWrongFalsely : Prop := checkpointApartRow.holds Tryd.pinned (OpenSpec.ofChange checkpointApartWrong)

/-- 'stockyardlaw32.CheckpointRestores': WHATEVER THE INPUT: true; the input reads as it did. -/
def checkpointRestoresSpec : ChangeSpec := { name := "checkpointRestores", fn := fun _ => fun
  | [d] => { results := [.lit (.bool true)], args := [d] }
  | _ => none }
def checkpointRestoresRow : OpenClaim := { program := "ytcjkllmellampaadoor", sum := "dc196eb6f6dfb545fdbe4b4f52a514f87652530e50d5ff3668cab8c677cf1e34", func := "stockyard/stockyardlaw32.CheckpointRestores", spec := "checkpointRestores", inPlace := ["maps.clone"], unfollowed := true, recurses := true, named := ["internal/strconv.uint64pow10", "math/bits.deBruijn32tab", "math/bits.deBruijn64tab"], apart := false, laid := [("math/bits.deBruijn32tab", laid_math_bits_deBruijn32tab), ("math/bits.deBruijn64tab", laid_math_bits_deBruijn64tab), ("internal/strconv.uint64pow10", laid_internal_strconv_uint64pow10)] }
def CheckpointRestoresSaid : Prop := checkpointRestoresRow.holds Tryd.pinned (OpenSpec.ofChange checkpointRestoresSpec)

/-- ITS FALSE NEIGHBOUR: 'it returns false'. Refute it at one input. -/
def checkpointRestoresWrong : ChangeSpec := { name := "checkpointRestores", fn := fun _ => fun
  | [d] => { results := [.lit (.bool false)], args := [d] }
  | _ => none }
def CheckpointRestoresWrongFalsely : Prop := checkpointRestoresRow.holds Tryd.pinned (OpenSpec.ofChange checkpointRestoresWrong)

/- THE SECOND FORM. 'bulk': how many values and letters a reading holds, each counted each time it is reached (what is shared counts as often as it is met; a slice's spare places count too). A statement '..UptoSaid' is the law's where the arguments, and the package variables that the reading takes, are together of bulk at most 1048576: NARROWER than '..Said'. Prove '..Said' where nothing that the law and all that it calls make is longer than what came in: it says more and counts as full. Else prove '..UptoSaid'. A law counts once. -/
mutual
def uptoBulk {H : Type} : DataW H → Nat
  | .lit (.string bytes) => bytes.length + 1
  | .lit _ => 1
  | .nil => 1
  | .ptr d => uptoBulk d + 1
  | .slice elems spare => uptoBulkAll elems + uptoBulkAll spare + 1
  | .agg parts => uptoBulkAll parts + 1
  | .iface _ d => uptoBulk d + 1
  | .map entries => uptoBulkEntries entries + 1
  | .held _ => 1
def uptoBulkAll {H : Type} : List (DataW H) → Nat
  | [] => 0
  | d :: r => uptoBulk d + uptoBulkAll r
def uptoBulkEntries {H : Type} : List (Lit × DataW H) → Nat
  | [] => 0
  | x :: r => uptoBulkEntry x + uptoBulkEntries r
def uptoBulkEntry {H : Type} : Lit × DataW H → Nat
  | (.string bytes, d) => bytes.length + uptoBulk d + 1
  | (_, d) => uptoBulk d + 1
 end
def uptoSmall : (H : Type) → List (DataW H) → Bool := fun _ ds => decide (uptoBulkAll ds ≤ 1048576)
def OpenSpec.upto (s : _root_.Go.ChangeSpec) : _root_.Go.OpenSpec := { _root_.Go.OpenSpec.ofChange s with cond := some uptoSmall }

/-- 'stockyardlaw32.CheckpointPlays', WHERE WHAT IT READS IS OF BULK AT MOST 1048576: true; the input reads as it did. -/
def checkpointPlaysUptoRow : OpenClaim := { program := "ytcjkllmellampaadoor", sum := "dc196eb6f6dfb545fdbe4b4f52a514f87652530e50d5ff3668cab8c677cf1e34", func := "stockyard/stockyardlaw32.CheckpointPlays", spec := "checkpointPlays", inPlace := ["maps.clone"], unfollowed := true, recurses := true, named := ["internal/strconv.uint64pow10", "math/bits.deBruijn32tab", "math/bits.deBruijn64tab"], apart := false, laid := [("math/bits.deBruijn32tab", laid_math_bits_deBruijn32tab), ("math/bits.deBruijn64tab", laid_math_bits_deBruijn64tab), ("internal/strconv.uint64pow10", laid_internal_strconv_uint64pow10)], narrowed := true }
def CheckpointPlaysUptoSaid : Prop := checkpointPlaysUptoRow.holds Tryd.pinned (OpenSpec.upto checkpointPlaysSpec)

/-- 'stockyardlaw32.CheckpointSizes', WHERE WHAT IT READS IS OF BULK AT MOST 1048576: true; the input reads as it did. -/
def checkpointSizesUptoRow : OpenClaim := { program := "ytcjkllmellampaadoor", sum := "dc196eb6f6dfb545fdbe4b4f52a514f87652530e50d5ff3668cab8c677cf1e34", func := "stockyard/stockyardlaw32.CheckpointSizes", spec := "checkpointSizes", inPlace := ["maps.clone"], unfollowed := true, recurses := true, named := ["internal/strconv.uint64pow10", "math/bits.deBruijn32tab", "math/bits.deBruijn64tab"], apart := false, laid := [("math/bits.deBruijn32tab", laid_math_bits_deBruijn32tab), ("math/bits.deBruijn64tab", laid_math_bits_deBruijn64tab), ("internal/strconv.uint64pow10", laid_internal_strconv_uint64pow10)], narrowed := true }
def CheckpointSizesUptoSaid : Prop := checkpointSizesUptoRow.holds Tryd.pinned (OpenSpec.upto checkpointSizesSpec)

/-- 'stockyardlaw32.CheckpointKeeps', WHERE WHAT IT READS IS OF BULK AT MOST 1048576: true; the input reads as it did. -/
def checkpointKeepsUptoRow : OpenClaim := { program := "ytcjkllmellampaadoor", sum := "dc196eb6f6dfb545fdbe4b4f52a514f87652530e50d5ff3668cab8c677cf1e34", func := "stockyard/stockyardlaw32.CheckpointKeeps", spec := "checkpointKeeps", inPlace := ["maps.clone"], unfollowed := true, recurses := true, named := ["internal/strconv.uint64pow10", "math/bits.deBruijn32tab", "math/bits.deBruijn64tab"], apart := false, laid := [("math/bits.deBruijn32tab", laid_math_bits_deBruijn32tab), ("math/bits.deBruijn64tab", laid_math_bits_deBruijn64tab), ("internal/strconv.uint64pow10", laid_internal_strconv_uint64pow10)], narrowed := true }
def CheckpointKeepsUptoSaid : Prop := checkpointKeepsUptoRow.holds Tryd.pinned (OpenSpec.upto checkpointKeepsSpec)

/-- 'stockyardlaw32.CheckpointEvery', WHERE WHAT IT READS IS OF BULK AT MOST 1048576: true; the input reads as it did. -/
def checkpointEveryUptoRow : OpenClaim := { program := "ytcjkllmellampaadoor", sum := "dc196eb6f6dfb545fdbe4b4f52a514f87652530e50d5ff3668cab8c677cf1e34", func := "stockyard/stockyardlaw32.CheckpointEvery", spec := "checkpointEvery", inPlace := ["maps.clone"], unfollowed := true, recurses := true, named := ["internal/strconv.uint64pow10", "math/bits.deBruijn32tab", "math/bits.deBruijn64tab"], apart := false, laid := [("math/bits.deBruijn32tab", laid_math_bits_deBruijn32tab), ("math/bits.deBruijn64tab", laid_math_bits_deBruijn64tab), ("internal/strconv.uint64pow10", laid_internal_strconv_uint64pow10)], narrowed := true }
def CheckpointEveryUptoSaid : Prop := checkpointEveryUptoRow.holds Tryd.pinned (OpenSpec.upto checkpointEverySpec)

/-- 'stockyardlaw32.CheckpointNames', WHERE WHAT IT READS IS OF BULK AT MOST 1048576: true; the input reads as it did. -/
def checkpointNamesUptoRow : OpenClaim := { program := "ytcjkllmellampaadoor", sum := "dc196eb6f6dfb545fdbe4b4f52a514f87652530e50d5ff3668cab8c677cf1e34", func := "stockyard/stockyardlaw32.CheckpointNames", spec := "checkpointNames", inPlace := ["maps.clone"], unfollowed := true, recurses := true, named := ["internal/strconv.uint64pow10", "math/bits.deBruijn32tab", "math/bits.deBruijn64tab"], apart := false, laid := [("math/bits.deBruijn32tab", laid_math_bits_deBruijn32tab), ("math/bits.deBruijn64tab", laid_math_bits_deBruijn64tab), ("internal/strconv.uint64pow10", laid_internal_strconv_uint64pow10)], narrowed := true }
def CheckpointNamesUptoSaid : Prop := checkpointNamesUptoRow.holds Tryd.pinned (OpenSpec.upto checkpointNamesSpec)

/-- 'stockyardlaw32.CheckpointRecovers', WHERE WHAT IT READS IS OF BULK AT MOST 1048576: true; the input reads as it did. -/
def checkpointRecoversUptoRow : OpenClaim := { program := "ytcjkllmellampaadoor", sum := "dc196eb6f6dfb545fdbe4b4f52a514f87652530e50d5ff3668cab8c677cf1e34", func := "stockyard/stockyardlaw32.CheckpointRecovers", spec := "checkpointRecovers", inPlace := ["maps.clone"], unfollowed := true, recurses := true, named := ["internal/strconv.uint64pow10", "math/bits.deBruijn32tab", "math/bits.deBruijn64tab"], apart := false, laid := [("math/bits.deBruijn32tab", laid_math_bits_deBruijn32tab), ("math/bits.deBruijn64tab", laid_math_bits_deBruijn64tab), ("internal/strconv.uint64pow10", laid_internal_strconv_uint64pow10)], narrowed := true }
def CheckpointRecoversUptoSaid : Prop := checkpointRecoversUptoRow.holds Tryd.pinned (OpenSpec.upto checkpointRecoversSpec)

/-- 'stockyardlaw32.CheckpointApart', WHERE WHAT IT READS IS OF BULK AT MOST 1048576: true; the input reads as it did. -/
def checkpointApartUptoRow : OpenClaim := { program := "ytcjkllmellampaadoor", sum := "dc196eb6f6dfb545fdbe4b4f52a514f87652530e50d5ff3668cab8c677cf1e34", func := "stockyard/stockyardlaw32.CheckpointApart", spec := "checkpointApart", inPlace := ["maps.clone"], unfollowed := true, recurses := true, named := ["internal/strconv.uint64pow10", "math/bits.deBruijn32tab", "math/bits.deBruijn64tab"], apart := false, laid := [("math/bits.deBruijn32tab", laid_math_bits_deBruijn32tab), ("math/bits.deBruijn64tab", laid_math_bits_deBruijn64tab), ("internal/strconv.uint64pow10", laid_internal_strconv_uint64pow10)], narrowed := true }
def CheckpointApartUptoSaid : Prop := checkpointApartUptoRow.holds Tryd.pinned (OpenSpec.upto checkpointApartSpec)

/-- 'stockyardlaw32.CheckpointRestores', WHERE WHAT IT READS IS OF BULK AT MOST 1048576: true; the input reads as it did. -/
def checkpointRestoresUptoRow : OpenClaim := { program := "ytcjkllmellampaadoor", sum := "dc196eb6f6dfb545fdbe4b4f52a514f87652530e50d5ff3668cab8c677cf1e34", func := "stockyard/stockyardlaw32.CheckpointRestores", spec := "checkpointRestores", inPlace := ["maps.clone"], unfollowed := true, recurses := true, named := ["internal/strconv.uint64pow10", "math/bits.deBruijn32tab", "math/bits.deBruijn64tab"], apart := false, laid := [("math/bits.deBruijn32tab", laid_math_bits_deBruijn32tab), ("math/bits.deBruijn64tab", laid_math_bits_deBruijn64tab), ("internal/strconv.uint64pow10", laid_internal_strconv_uint64pow10)], narrowed := true }
def CheckpointRestoresUptoSaid : Prop := checkpointRestoresUptoRow.holds Tryd.pinned (OpenSpec.upto checkpointRestoresSpec)

end Rows
end Go.Proofs.YtcjkllmellampaaDoor
