/-
  No cell of these rows narrows 'for every input' (looked for: loops, veiled, ifaces, maps, wideKeys, modest, calm, conditions, laid).
  DERIVED. THE GIVEN ROWS OF THIS SEAT. 9 by the template 'for every input the law returns true; each argument reads behind the call as it read before'; 0 by the template 'total and deterministic' (their statements: YtopggjpaplhboaaTotals.lean).
  GIVEN WITH THE SEED: the statements are not yours to turn. If you find one false, say at which input.
  Laid BY PROGRAM, IN A SANDBOX (cutbox-rows.mjs): the forced cells as the released guide's own fill.sh prints them over the translation 4d02d26fa7846b1d… (all of the seat's roots in one cut). By AI agents, Wed Nov 11 2026. No macro, syntax, notation, axiom, sorry.
-/
import Derived.Test.YtopggjpaplhboaaChecked
import GoSem.Claim
import GoSem.ClaimJoined
import GoSem.ClaimMapViews
import Derived.JoinedTies
import Derived.KernelRfl
namespace Go.Proofs.Ytopggjpaplhboaa
/- THE CELL 'sum', in the pinned program and in every row, IS THE sha256 OF THE DUMP (.gsa) THAT YtopggjpaplhboaaProg.lean LOADS. Nothing in Lean hashes anything: it is a label: what it is worth is what the hold of that sum in a sandbox is worth. -/
noncomputable def Try.pinned : Pinned := { name := "ytopggjpaplhboaa", sum := "4d02d26fa7846b1dd070af1bb49eebf8c123c7ceb4ede7ecf3ea2d0ea9e206ae", checked := Try.checked }
namespace Rows
def none {H : Type} : Left H := { results := [], args := [] }

/-- 'stockyardlaw31.JournalNames': WHATEVER THE INPUT: true; the input reads as it did. -/
def journalNamesSpec : ChangeSpec := { name := "journalNames", fn := fun _ => fun
  | [d] => { results := [.lit (.bool true)], args := [d] }
  | _ => none }
def journalNamesRow : OpenClaim := { program := "ytopggjpaplhboaa", sum := "4d02d26fa7846b1dd070af1bb49eebf8c123c7ceb4ede7ecf3ea2d0ea9e206ae", func := "stockyard/stockyardlaw31.JournalNames", spec := "journalNames", inPlace := ["maps.clone"], unfollowed := true, recurses := true, apart := false }
def JournalNamesSaid : Prop := journalNamesRow.holds Try.pinned (OpenSpec.ofChange journalNamesSpec)

/-- ITS FALSE NEIGHBOUR: 'it returns false'. Refute it at one input. -/
def journalNamesWrong : ChangeSpec := { name := "journalNames", fn := fun _ => fun
  | [d] => { results := [.lit (.bool false)], args := [d] }
  | _ => none }
def JournalNamesWrongFalsely : Prop := journalNamesRow.holds Try.pinned (OpenSpec.ofChange journalNamesWrong)

/-- 'stockyardlaw31.JournalSizes': WHATEVER THE INPUT: true; the input reads as it did. -/
def journalSizesSpec : ChangeSpec := { name := "journalSizes", fn := fun _ => fun
  | [d1, d2] => { results := [.lit (.bool true)], args := [d1, d2] }
  | _ => none }
def journalSizesRow : OpenClaim := { program := "ytopggjpaplhboaa", sum := "4d02d26fa7846b1dd070af1bb49eebf8c123c7ceb4ede7ecf3ea2d0ea9e206ae", func := "stockyard/stockyardlaw31.JournalSizes", spec := "journalSizes", inPlace := ["maps.clone"], unfollowed := true, recurses := true, apart := false }
def JournalSizesSaid : Prop := journalSizesRow.holds Try.pinned (OpenSpec.ofChange journalSizesSpec)

/-- ITS FALSE NEIGHBOUR: 'it returns false'. Refute it at one input. -/
def journalSizesWrong : ChangeSpec := { name := "journalSizes", fn := fun _ => fun
  | [d1, d2] => { results := [.lit (.bool false)], args := [d1, d2] }
  | _ => none }
def JournalSizesWrongFalsely : Prop := journalSizesRow.holds Try.pinned (OpenSpec.ofChange journalSizesWrong)

/-- 'stockyardlaw31.JournalCounts': WHATEVER THE INPUT: true; the input reads as it did. -/
def journalCountsSpec : ChangeSpec := { name := "journalCounts", fn := fun _ => fun
  | [d] => { results := [.lit (.bool true)], args := [d] }
  | _ => none }
def journalCountsRow : OpenClaim := { program := "ytopggjpaplhboaa", sum := "4d02d26fa7846b1dd070af1bb49eebf8c123c7ceb4ede7ecf3ea2d0ea9e206ae", func := "stockyard/stockyardlaw31.JournalCounts", spec := "journalCounts", inPlace := ["maps.clone"], unfollowed := true, recurses := true, apart := false }
def JournalCountsSaid : Prop := journalCountsRow.holds Try.pinned (OpenSpec.ofChange journalCountsSpec)

/-- ITS FALSE NEIGHBOUR: 'it returns false'. Refute it at one input. -/
def journalCountsWrong : ChangeSpec := { name := "journalCounts", fn := fun _ => fun
  | [d] => { results := [.lit (.bool false)], args := [d] }
  | _ => none }
def JournalCountsWrongFalsely : Prop := journalCountsRow.holds Try.pinned (OpenSpec.ofChange journalCountsWrong)

/-- 'stockyardlaw31.JournalBytes': WHATEVER THE INPUT: true; the input reads as it did. -/
def journalBytesSpec : ChangeSpec := { name := "journalBytes", fn := fun _ => fun
  | [d] => { results := [.lit (.bool true)], args := [d] }
  | _ => none }
def journalBytesRow : OpenClaim := { program := "ytopggjpaplhboaa", sum := "4d02d26fa7846b1dd070af1bb49eebf8c123c7ceb4ede7ecf3ea2d0ea9e206ae", func := "stockyard/stockyardlaw31.JournalBytes", spec := "journalBytes", inPlace := ["maps.clone"], unfollowed := true, recurses := true, apart := false }
def JournalBytesSaid : Prop := journalBytesRow.holds Try.pinned (OpenSpec.ofChange journalBytesSpec)

/-- ITS FALSE NEIGHBOUR: 'it returns false'. Refute it at one input. -/
def journalBytesWrong : ChangeSpec := { name := "journalBytes", fn := fun _ => fun
  | [d] => { results := [.lit (.bool false)], args := [d] }
  | _ => none }
def JournalBytesWrongFalsely : Prop := journalBytesRow.holds Try.pinned (OpenSpec.ofChange journalBytesWrong)

/-- 'stockyardlaw31.JournalGroups': WHATEVER THE INPUT: true; the input reads as it did. -/
def journalGroupsSpec : ChangeSpec := { name := "journalGroups", fn := fun _ => fun
  | [d] => { results := [.lit (.bool true)], args := [d] }
  | _ => none }
def journalGroupsRow : OpenClaim := { program := "ytopggjpaplhboaa", sum := "4d02d26fa7846b1dd070af1bb49eebf8c123c7ceb4ede7ecf3ea2d0ea9e206ae", func := "stockyard/stockyardlaw31.JournalGroups", spec := "journalGroups", inPlace := ["maps.clone"], unfollowed := true, recurses := true, apart := false }
def JournalGroupsSaid : Prop := journalGroupsRow.holds Try.pinned (OpenSpec.ofChange journalGroupsSpec)

/-- ITS FALSE NEIGHBOUR: 'it returns false'. Refute it at one input. -/
def journalGroupsWrong : ChangeSpec := { name := "journalGroups", fn := fun _ => fun
  | [d] => { results := [.lit (.bool false)], args := [d] }
  | _ => none }
def JournalGroupsWrongFalsely : Prop := journalGroupsRow.holds Try.pinned (OpenSpec.ofChange journalGroupsWrong)

/-- 'stockyardlaw31.JournalPlays': WHATEVER THE INPUT: true; the input reads as it did. -/
def journalPlaysSpec : ChangeSpec := { name := "journalPlays", fn := fun _ => fun
  | [d] => { results := [.lit (.bool true)], args := [d] }
  | _ => none }
def journalPlaysRow : OpenClaim := { program := "ytopggjpaplhboaa", sum := "4d02d26fa7846b1dd070af1bb49eebf8c123c7ceb4ede7ecf3ea2d0ea9e206ae", func := "stockyard/stockyardlaw31.JournalPlays", spec := "journalPlays", inPlace := ["maps.clone"], unfollowed := true, recurses := true, apart := false }
def JournalPlaysSaid : Prop := journalPlaysRow.holds Try.pinned (OpenSpec.ofChange journalPlaysSpec)

/-- ITS FALSE NEIGHBOUR: 'it returns false'. Refute it at one input. -/
def journalPlaysWrong : ChangeSpec := { name := "journalPlays", fn := fun _ => fun
  | [d] => { results := [.lit (.bool false)], args := [d] }
  | _ => none }
def JournalPlaysWrongFalsely : Prop := journalPlaysRow.holds Try.pinned (OpenSpec.ofChange journalPlaysWrong)

/-- 'stockyardlaw31.JournalApart': WHATEVER THE INPUT: true; the input reads as it did. -/
def journalApartSpec : ChangeSpec := { name := "journalApart", fn := fun _ => fun
  | [d] => { results := [.lit (.bool true)], args := [d] }
  | _ => none }
def journalApartRow : OpenClaim := { program := "ytopggjpaplhboaa", sum := "4d02d26fa7846b1dd070af1bb49eebf8c123c7ceb4ede7ecf3ea2d0ea9e206ae", func := "stockyard/stockyardlaw31.JournalApart", spec := "journalApart", inPlace := ["maps.clone"], unfollowed := true, recurses := true, apart := false }
def JournalApartSaid : Prop := journalApartRow.holds Try.pinned (OpenSpec.ofChange journalApartSpec)

/-- ITS FALSE NEIGHBOUR: 'it returns false'. Refute it at one input. -/
def journalApartWrong : ChangeSpec := { name := "journalApart", fn := fun _ => fun
  | [d] => { results := [.lit (.bool false)], args := [d] }
  | _ => none }
def JournalApartWrongFalsely : Prop := journalApartRow.holds Try.pinned (OpenSpec.ofChange journalApartWrong)

/-- 'stockyardlaw31.JournalEvery': WHATEVER THE INPUT: true; the input reads as it did. -/
def journalEverySpec : ChangeSpec := { name := "journalEvery", fn := fun _ => fun
  | [d1, d2, d3, d4, d5] => { results := [.lit (.bool true)], args := [d1, d2, d3, d4, d5] }
  | _ => none }
def journalEveryRow : OpenClaim := { program := "ytopggjpaplhboaa", sum := "4d02d26fa7846b1dd070af1bb49eebf8c123c7ceb4ede7ecf3ea2d0ea9e206ae", func := "stockyard/stockyardlaw31.JournalEvery", spec := "journalEvery", inPlace := ["maps.clone"], unfollowed := true, recurses := true, apart := false }
def JournalEverySaid : Prop := journalEveryRow.holds Try.pinned (OpenSpec.ofChange journalEverySpec)

/-- ITS FALSE NEIGHBOUR: 'it returns false'. Refute it at one input. -/
def journalEveryWrong : ChangeSpec := { name := "journalEvery", fn := fun _ => fun
  | [d1, d2, d3, d4, d5] => { results := [.lit (.bool false)], args := [d1, d2, d3, d4, d5] }
  | _ => none }
def JournalEveryWrongFalsely : Prop := journalEveryRow.holds Try.pinned (OpenSpec.ofChange journalEveryWrong)

/-- 'stockyardlaw31.JournalKeeps': WHATEVER THE INPUT: true; the input reads as it did. -/
def journalKeepsSpec : ChangeSpec := { name := "journalKeeps", fn := fun _ => fun
  | [d] => { results := [.lit (.bool true)], args := [d] }
  | _ => none }
def journalKeepsRow : OpenClaim := { program := "ytopggjpaplhboaa", sum := "4d02d26fa7846b1dd070af1bb49eebf8c123c7ceb4ede7ecf3ea2d0ea9e206ae", func := "stockyard/stockyardlaw31.JournalKeeps", spec := "journalKeeps", inPlace := ["maps.clone"], unfollowed := true, recurses := true, apart := false }
def JournalKeepsSaid : Prop := journalKeepsRow.holds Try.pinned (OpenSpec.ofChange journalKeepsSpec)

/-- ITS FALSE NEIGHBOUR: 'it returns false'. Refute it at one input. -/
def journalKeepsWrong : ChangeSpec := { name := "journalKeeps", fn := fun _ => fun
  | [d] => { results := [.lit (.bool false)], args := [d] }
  | _ => none }
def JournalKeepsWrongFalsely : Prop := journalKeepsRow.holds Try.pinned (OpenSpec.ofChange journalKeepsWrong)

/- THE SECOND FORM. 'bulk': how many values and letters a reading holds, each counted each time it is reached (what is shared counts as often as it is met; a slice's spare places count too). A statement '..UptoSaid' is the law's where the arguments, and the package variables that the reading takes, are together of bulk at most 1048576: NARROWER than '..Said'. Prove '..Said' where nothing that the law and all that it calls make is longer than what came in: it says more and counts as full. Else prove '..UptoSaid'. A law counts once. -/
mutual
def uptoBulk {H : Type} : DataW H → Nat
  | .lit (.string bytes) => bytes.length + 1
  | .lit _ => 1
  | .nil => 1
  | .ptr d => uptoBulk d + 1
  | .slice elems spare => uptoBulkAll elems + uptoBulkAll spare + 1
  | .agg parts => uptoBulkAll parts + 1
  | .iface _ d => uptoBulk d + 1
  | .map entries => uptoBulkEntries entries + 1
  | .held _ => 1
def uptoBulkAll {H : Type} : List (DataW H) → Nat
  | [] => 0
  | d :: r => uptoBulk d + uptoBulkAll r
def uptoBulkEntries {H : Type} : List (Lit × DataW H) → Nat
  | [] => 0
  | x :: r => uptoBulkEntry x + uptoBulkEntries r
def uptoBulkEntry {H : Type} : Lit × DataW H → Nat
  | (.string bytes, d) => bytes.length + uptoBulk d + 1
  | (_, d) => uptoBulk d + 1
 end
def uptoSmall : (H : Type) → List (DataW H) → Bool := fun _ ds => decide (uptoBulkAll ds ≤ 1048576)
def OpenSpec.upto (s : _root_.Go.ChangeSpec) : _root_.Go.OpenSpec := { _root_.Go.OpenSpec.ofChange s with cond := some uptoSmall }

/-- 'stockyardlaw31.JournalNames', WHERE WHAT IT READS IS OF BULK AT MOST 1048576: true; the input reads as it did. -/
def journalNamesUptoRow : OpenClaim := { program := "ytopggjpaplhboaa", sum := "4d02d26fa7846b1dd070af1bb49eebf8c123c7ceb4ede7ecf3ea2d0ea9e206ae", func := "stockyard/stockyardlaw31.JournalNames", spec := "journalNames", inPlace := ["maps.clone"], unfollowed := true, recurses := true, apart := false, narrowed := true }
def JournalNamesUptoSaid : Prop := journalNamesUptoRow.holds Try.pinned (OpenSpec.upto journalNamesSpec)

/-- 'stockyardlaw31.JournalSizes', WHERE WHAT IT READS IS OF BULK AT MOST 1048576: true; the input reads as it did. -/
def journalSizesUptoRow : OpenClaim := { program := "ytopggjpaplhboaa", sum := "4d02d26fa7846b1dd070af1bb49eebf8c123c7ceb4ede7ecf3ea2d0ea9e206ae", func := "stockyard/stockyardlaw31.JournalSizes", spec := "journalSizes", inPlace := ["maps.clone"], unfollowed := true, recurses := true, apart := false, narrowed := true }
def JournalSizesUptoSaid : Prop := journalSizesUptoRow.holds Try.pinned (OpenSpec.upto journalSizesSpec)

/-- 'stockyardlaw31.JournalCounts', WHERE WHAT IT READS IS OF BULK AT MOST 1048576: true; the input reads as it did. -/
def journalCountsUptoRow : OpenClaim := { program := "ytopggjpaplhboaa", sum := "4d02d26fa7846b1dd070af1bb49eebf8c123c7ceb4ede7ecf3ea2d0ea9e206ae", func := "stockyard/stockyardlaw31.JournalCounts", spec := "journalCounts", inPlace := ["maps.clone"], unfollowed := true, recurses := true, apart := false, narrowed := true }
def JournalCountsUptoSaid : Prop := journalCountsUptoRow.holds Try.pinned (OpenSpec.upto journalCountsSpec)

/-- 'stockyardlaw31.JournalBytes', WHERE WHAT IT READS IS OF BULK AT MOST 1048576: true; the input reads as it did. -/
def journalBytesUptoRow : OpenClaim := { program := "ytopggjpaplhboaa", sum := "4d02d26fa7846b1dd070af1bb49eebf8c123c7ceb4ede7ecf3ea2d0ea9e206ae", func := "stockyard/stockyardlaw31.JournalBytes", spec := "journalBytes", inPlace := ["maps.clone"], unfollowed := true, recurses := true, apart := false, narrowed := true }
def JournalBytesUptoSaid : Prop := journalBytesUptoRow.holds Try.pinned (OpenSpec.upto journalBytesSpec)

/-- 'stockyardlaw31.JournalGroups', WHERE WHAT IT READS IS OF BULK AT MOST 1048576: true; the input reads as it did. -/
def journalGroupsUptoRow : OpenClaim := { program := "ytopggjpaplhboaa", sum := "4d02d26fa7846b1dd070af1bb49eebf8c123c7ceb4ede7ecf3ea2d0ea9e206ae", func := "stockyard/stockyardlaw31.JournalGroups", spec := "journalGroups", inPlace := ["maps.clone"], unfollowed := true, recurses := true, apart := false, narrowed := true }
def JournalGroupsUptoSaid : Prop := journalGroupsUptoRow.holds Try.pinned (OpenSpec.upto journalGroupsSpec)

/-- 'stockyardlaw31.JournalPlays', WHERE WHAT IT READS IS OF BULK AT MOST 1048576: true; the input reads as it did. -/
def journalPlaysUptoRow : OpenClaim := { program := "ytopggjpaplhboaa", sum := "4d02d26fa7846b1dd070af1bb49eebf8c123c7ceb4ede7ecf3ea2d0ea9e206ae", func := "stockyard/stockyardlaw31.JournalPlays", spec := "journalPlays", inPlace := ["maps.clone"], unfollowed := true, recurses := true, apart := false, narrowed := true }
def JournalPlaysUptoSaid : Prop := journalPlaysUptoRow.holds Try.pinned (OpenSpec.upto journalPlaysSpec)

/-- 'stockyardlaw31.JournalApart', WHERE WHAT IT READS IS OF BULK AT MOST 1048576: true; the input reads as it did. -/
def journalApartUptoRow : OpenClaim := { program := "ytopggjpaplhboaa", sum := "4d02d26fa7846b1dd070af1bb49eebf8c123c7ceb4ede7ecf3ea2d0ea9e206ae", func := "stockyard/stockyardlaw31.JournalApart", spec := "journalApart", inPlace := ["maps.clone"], unfollowed := true, recurses := true, apart := false, narrowed := true }
def JournalApartUptoSaid : Prop := journalApartUptoRow.holds Try.pinned (OpenSpec.upto journalApartSpec)

/-- 'stockyardlaw31.JournalEvery', WHERE WHAT IT READS IS OF BULK AT MOST 1048576: true; the input reads as it did. -/
def journalEveryUptoRow : OpenClaim := { program := "ytopggjpaplhboaa", sum := "4d02d26fa7846b1dd070af1bb49eebf8c123c7ceb4ede7ecf3ea2d0ea9e206ae", func := "stockyard/stockyardlaw31.JournalEvery", spec := "journalEvery", inPlace := ["maps.clone"], unfollowed := true, recurses := true, apart := false, narrowed := true }
def JournalEveryUptoSaid : Prop := journalEveryUptoRow.holds Try.pinned (OpenSpec.upto journalEverySpec)

/-- 'stockyardlaw31.JournalKeeps', WHERE WHAT IT READS IS OF BULK AT MOST 1048576: true; the input reads as it did. -/
def journalKeepsUptoRow : OpenClaim := { program := "ytopggjpaplhboaa", sum := "4d02d26fa7846b1dd070af1bb49eebf8c123c7ceb4ede7ecf3ea2d0ea9e206ae", func := "stockyard/stockyardlaw31.JournalKeeps", spec := "journalKeeps", inPlace := ["maps.clone"], unfollowed := true, recurses := true, apart := false, narrowed := true }
def JournalKeepsUptoSaid : Prop := journalKeepsUptoRow.holds Try.pinned (OpenSpec.upto journalKeepsSpec)

end Rows
end Go.Proofs.Ytopggjpaplhboaa
