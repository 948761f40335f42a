/-
  No cell of these rows narrows 'for every input' (looked for: loops, veiled, ifaces, maps, wideKeys, modest, calm, conditions, laid).
  DERIVED. THE GIVEN ROWS OF THIS SEAT. 7 by the template 'for every input the law returns true; each argument reads behind the call as it read before'; 0 by the template 'total and deterministic' (their statements: YtnehjnaecgpkmaaTotals.lean).
  GIVEN WITH THE SEED: the statements are not yours to turn. If you find one false, say at which input.
  Laid BY PROGRAM, IN A SANDBOX (cutbox-rows.mjs): the forced cells as the released guide's own fill.sh prints them over the translation 24f2c0c08f602750… (all of the seat's roots in one cut). By AI agents, Wed Nov 11 2026. No macro, syntax, notation, axiom, sorry.
-/
import Derived.Test.YtnehjnaecgpkmaaChecked
import GoSem.Claim
import GoSem.ClaimJoined
import GoSem.ClaimMapViews
import Derived.JoinedTies
import Derived.KernelRfl
namespace Go.Proofs.Ytnehjnaecgpkmaa
/- THE CELL 'sum', in the pinned program and in every row, IS THE sha256 OF THE DUMP (.gsa) THAT YtnehjnaecgpkmaaProg.lean LOADS. Nothing in Lean hashes anything: it is a label: what it is worth is what the hold of that sum in a sandbox is worth. -/
noncomputable def Try.pinned : Pinned := { name := "ytnehjnaecgpkmaa", sum := "24f2c0c08f6027501e5d4700348dca3f977f9ee490f1239c40be3abfc962d985", checked := Try.checked }
namespace Rows
def none {H : Type} : Left H := { results := [], args := [] }

/-- 'stockyardlaw20.OfflineFalls': WHATEVER THE INPUT: true; the input reads as it did. -/
def offlineFallsSpec : ChangeSpec := { name := "offlineFalls", fn := fun _ => fun
  | [d1, d2, d3] => { results := [.lit (.bool true)], args := [d1, d2, d3] }
  | _ => none }
def offlineFallsRow : OpenClaim := { program := "ytnehjnaecgpkmaa", sum := "24f2c0c08f6027501e5d4700348dca3f977f9ee490f1239c40be3abfc962d985", func := "stockyard/stockyardlaw20.OfflineFalls", spec := "offlineFalls", unfollowed := true, recurses := true, apart := false }
def OfflineFallsSaid : Prop := offlineFallsRow.holds Try.pinned (OpenSpec.ofChange offlineFallsSpec)

/-- ITS FALSE NEIGHBOUR: 'it returns false'. Refute it at one input. -/
def offlineFallsWrong : ChangeSpec := { name := "offlineFalls", fn := fun _ => fun
  | [d1, d2, d3] => { results := [.lit (.bool false)], args := [d1, d2, d3] }
  | _ => none }
def OfflineFallsWrongFalsely : Prop := offlineFallsRow.holds Try.pinned (OpenSpec.ofChange offlineFallsWrong)

/-- 'stockyardlaw20.OfflineRenewed': WHATEVER THE INPUT: true; the input reads as it did. -/
def offlineRenewedSpec : ChangeSpec := { name := "offlineRenewed", fn := fun _ => fun
  | [d1, d2, d3, d4] => { results := [.lit (.bool true)], args := [d1, d2, d3, d4] }
  | _ => none }
def offlineRenewedRow : OpenClaim := { program := "ytnehjnaecgpkmaa", sum := "24f2c0c08f6027501e5d4700348dca3f977f9ee490f1239c40be3abfc962d985", func := "stockyard/stockyardlaw20.OfflineRenewed", spec := "offlineRenewed", unfollowed := true, recurses := true, apart := false }
def OfflineRenewedSaid : Prop := offlineRenewedRow.holds Try.pinned (OpenSpec.ofChange offlineRenewedSpec)

/-- ITS FALSE NEIGHBOUR: 'it returns false'. Refute it at one input. -/
def offlineRenewedWrong : ChangeSpec := { name := "offlineRenewed", fn := fun _ => fun
  | [d1, d2, d3, d4] => { results := [.lit (.bool false)], args := [d1, d2, d3, d4] }
  | _ => none }
def OfflineRenewedWrongFalsely : Prop := offlineRenewedRow.holds Try.pinned (OpenSpec.ofChange offlineRenewedWrong)

/-- 'stockyardlaw20.OfflineTrue': WHATEVER THE INPUT: true; the input reads as it did. -/
def offlineTrueSpec : ChangeSpec := { name := "offlineTrue", fn := fun _ => fun
  | [d1, d2, d3, d4, d5, d6, d7] => { results := [.lit (.bool true)], args := [d1, d2, d3, d4, d5, d6, d7] }
  | _ => none }
def offlineTrueRow : OpenClaim := { program := "ytnehjnaecgpkmaa", sum := "24f2c0c08f6027501e5d4700348dca3f977f9ee490f1239c40be3abfc962d985", func := "stockyard/stockyardlaw20.OfflineTrue", spec := "offlineTrue", unfollowed := true, recurses := true, apart := false }
def OfflineTrueSaid : Prop := offlineTrueRow.holds Try.pinned (OpenSpec.ofChange offlineTrueSpec)

/-- ITS FALSE NEIGHBOUR: 'it returns false'. Refute it at one input. -/
def offlineTrueWrong : ChangeSpec := { name := "offlineTrue", fn := fun _ => fun
  | [d1, d2, d3, d4, d5, d6, d7] => { results := [.lit (.bool false)], args := [d1, d2, d3, d4, d5, d6, d7] }
  | _ => none }
def OfflineTrueWrongFalsely : Prop := offlineTrueRow.holds Try.pinned (OpenSpec.ofChange offlineTrueWrong)

/-- 'stockyardlaw20.OfflineTight': WHATEVER THE INPUT: true; the input reads as it did. -/
def offlineTightSpec : ChangeSpec := { name := "offlineTight", fn := fun _ => fun
  | [d1, d2, d3, d4, d5] => { results := [.lit (.bool true)], args := [d1, d2, d3, d4, d5] }
  | _ => none }
def offlineTightRow : OpenClaim := { program := "ytnehjnaecgpkmaa", sum := "24f2c0c08f6027501e5d4700348dca3f977f9ee490f1239c40be3abfc962d985", func := "stockyard/stockyardlaw20.OfflineTight", spec := "offlineTight", unfollowed := true, recurses := true, apart := false }
def OfflineTightSaid : Prop := offlineTightRow.holds Try.pinned (OpenSpec.ofChange offlineTightSpec)

/-- ITS FALSE NEIGHBOUR: 'it returns false'. Refute it at one input. -/
def offlineTightWrong : ChangeSpec := { name := "offlineTight", fn := fun _ => fun
  | [d1, d2, d3, d4, d5] => { results := [.lit (.bool false)], args := [d1, d2, d3, d4, d5] }
  | _ => none }
def OfflineTightWrongFalsely : Prop := offlineTightRow.holds Try.pinned (OpenSpec.ofChange offlineTightWrong)

/-- 'stockyardlaw20.OfflineRenewedTrue': WHATEVER THE INPUT: true; the input reads as it did. -/
def offlineRenewedTrueSpec : ChangeSpec := { name := "offlineRenewedTrue", fn := fun _ => fun
  | [d1, d2, d3, d4, d5] => { results := [.lit (.bool true)], args := [d1, d2, d3, d4, d5] }
  | _ => none }
def offlineRenewedTrueRow : OpenClaim := { program := "ytnehjnaecgpkmaa", sum := "24f2c0c08f6027501e5d4700348dca3f977f9ee490f1239c40be3abfc962d985", func := "stockyard/stockyardlaw20.OfflineRenewedTrue", spec := "offlineRenewedTrue", unfollowed := true, recurses := true, apart := false }
def OfflineRenewedTrueSaid : Prop := offlineRenewedTrueRow.holds Try.pinned (OpenSpec.ofChange offlineRenewedTrueSpec)

/-- ITS FALSE NEIGHBOUR: 'it returns false'. Refute it at one input. -/
def offlineRenewedTrueWrong : ChangeSpec := { name := "offlineRenewedTrue", fn := fun _ => fun
  | [d1, d2, d3, d4, d5] => { results := [.lit (.bool false)], args := [d1, d2, d3, d4, d5] }
  | _ => none }
def OfflineRenewedTrueWrongFalsely : Prop := offlineRenewedTrueRow.holds Try.pinned (OpenSpec.ofChange offlineRenewedTrueWrong)

/-- 'stockyardlaw19.LeaseExpires': WHATEVER THE INPUT: true; the input reads as it did. -/
def leaseExpiresSpec : ChangeSpec := { name := "leaseExpires", fn := fun _ => fun
  | [d1, d2, d3, d4] => { results := [.lit (.bool true)], args := [d1, d2, d3, d4] }
  | _ => none }
def leaseExpiresRow : OpenClaim := { program := "ytnehjnaecgpkmaa", sum := "24f2c0c08f6027501e5d4700348dca3f977f9ee490f1239c40be3abfc962d985", func := "stockyard/stockyardlaw19.LeaseExpires", spec := "leaseExpires", apart := false }
def LeaseExpiresSaid : Prop := leaseExpiresRow.holds Try.pinned (OpenSpec.ofChange leaseExpiresSpec)

/-- ITS FALSE NEIGHBOUR: 'it returns false'. Refute it at one input. -/
def leaseExpiresWrong : ChangeSpec := { name := "leaseExpires", fn := fun _ => fun
  | [d1, d2, d3, d4] => { results := [.lit (.bool false)], args := [d1, d2, d3, d4] }
  | _ => none }
def LeaseExpiresWrongFalsely : Prop := leaseExpiresRow.holds Try.pinned (OpenSpec.ofChange leaseExpiresWrong)

/-- 'stockyardlaw19.LeaseEnds': WHATEVER THE INPUT: true; the input reads as it did. -/
def leaseEndsSpec : ChangeSpec := { name := "leaseEnds", fn := fun _ => fun
  | [d1, d2, d3, d4, d5] => { results := [.lit (.bool true)], args := [d1, d2, d3, d4, d5] }
  | _ => none }
def leaseEndsRow : OpenClaim := { program := "ytnehjnaecgpkmaa", sum := "24f2c0c08f6027501e5d4700348dca3f977f9ee490f1239c40be3abfc962d985", func := "stockyard/stockyardlaw19.LeaseEnds", spec := "leaseEnds", apart := false }
def LeaseEndsSaid : Prop := leaseEndsRow.holds Try.pinned (OpenSpec.ofChange leaseEndsSpec)

/-- ITS FALSE NEIGHBOUR: 'it returns false'. Refute it at one input. -/
def leaseEndsWrong : ChangeSpec := { name := "leaseEnds", fn := fun _ => fun
  | [d1, d2, d3, d4, d5] => { results := [.lit (.bool false)], args := [d1, d2, d3, d4, d5] }
  | _ => none }
def LeaseEndsWrongFalsely : Prop := leaseEndsRow.holds Try.pinned (OpenSpec.ofChange leaseEndsWrong)

/- THE SECOND FORM. 'bulk': how many values and letters a reading holds, each counted each time it is reached (what is shared counts as often as it is met; a slice's spare places count too). A statement '..UptoSaid' is the law's where the arguments, and the package variables that the reading takes, are together of bulk at most 1048576: NARROWER than '..Said'. Prove '..Said' where nothing that the law and all that it calls make is longer than what came in: it says more and counts as full. Else prove '..UptoSaid'. A law counts once. -/
mutual
def uptoBulk {H : Type} : DataW H → Nat
  | .lit (.string bytes) => bytes.length + 1
  | .lit _ => 1
  | .nil => 1
  | .ptr d => uptoBulk d + 1
  | .slice elems spare => uptoBulkAll elems + uptoBulkAll spare + 1
  | .agg parts => uptoBulkAll parts + 1
  | .iface _ d => uptoBulk d + 1
  | .map entries => uptoBulkEntries entries + 1
  | .held _ => 1
def uptoBulkAll {H : Type} : List (DataW H) → Nat
  | [] => 0
  | d :: r => uptoBulk d + uptoBulkAll r
def uptoBulkEntries {H : Type} : List (Lit × DataW H) → Nat
  | [] => 0
  | x :: r => uptoBulkEntry x + uptoBulkEntries r
def uptoBulkEntry {H : Type} : Lit × DataW H → Nat
  | (.string bytes, d) => bytes.length + uptoBulk d + 1
  | (_, d) => uptoBulk d + 1
 end
def uptoSmall : (H : Type) → List (DataW H) → Bool := fun _ ds => decide (uptoBulkAll ds ≤ 1048576)
def OpenSpec.upto (s : _root_.Go.ChangeSpec) : _root_.Go.OpenSpec := { _root_.Go.OpenSpec.ofChange s with cond := some uptoSmall }

/-- 'stockyardlaw20.OfflineFalls', WHERE WHAT IT READS IS OF BULK AT MOST 1048576: true; the input reads as it did. -/
def offlineFallsUptoRow : OpenClaim := { program := "ytnehjnaecgpkmaa", sum := "24f2c0c08f6027501e5d4700348dca3f977f9ee490f1239c40be3abfc962d985", func := "stockyard/stockyardlaw20.OfflineFalls", spec := "offlineFalls", unfollowed := true, recurses := true, apart := false, narrowed := true }
def OfflineFallsUptoSaid : Prop := offlineFallsUptoRow.holds Try.pinned (OpenSpec.upto offlineFallsSpec)

/-- 'stockyardlaw20.OfflineRenewed', WHERE WHAT IT READS IS OF BULK AT MOST 1048576: true; the input reads as it did. -/
def offlineRenewedUptoRow : OpenClaim := { program := "ytnehjnaecgpkmaa", sum := "24f2c0c08f6027501e5d4700348dca3f977f9ee490f1239c40be3abfc962d985", func := "stockyard/stockyardlaw20.OfflineRenewed", spec := "offlineRenewed", unfollowed := true, recurses := true, apart := false, narrowed := true }
def OfflineRenewedUptoSaid : Prop := offlineRenewedUptoRow.holds Try.pinned (OpenSpec.upto offlineRenewedSpec)

/-- 'stockyardlaw20.OfflineTrue', WHERE WHAT IT READS IS OF BULK AT MOST 1048576: true; the input reads as it did. -/
def offlineTrueUptoRow : OpenClaim := { program := "ytnehjnaecgpkmaa", sum := "24f2c0c08f6027501e5d4700348dca3f977f9ee490f1239c40be3abfc962d985", func := "stockyard/stockyardlaw20.OfflineTrue", spec := "offlineTrue", unfollowed := true, recurses := true, apart := false, narrowed := true }
def OfflineTrueUptoSaid : Prop := offlineTrueUptoRow.holds Try.pinned (OpenSpec.upto offlineTrueSpec)

/-- 'stockyardlaw20.OfflineTight', WHERE WHAT IT READS IS OF BULK AT MOST 1048576: true; the input reads as it did. -/
def offlineTightUptoRow : OpenClaim := { program := "ytnehjnaecgpkmaa", sum := "24f2c0c08f6027501e5d4700348dca3f977f9ee490f1239c40be3abfc962d985", func := "stockyard/stockyardlaw20.OfflineTight", spec := "offlineTight", unfollowed := true, recurses := true, apart := false, narrowed := true }
def OfflineTightUptoSaid : Prop := offlineTightUptoRow.holds Try.pinned (OpenSpec.upto offlineTightSpec)

/-- 'stockyardlaw20.OfflineRenewedTrue', WHERE WHAT IT READS IS OF BULK AT MOST 1048576: true; the input reads as it did. -/
def offlineRenewedTrueUptoRow : OpenClaim := { program := "ytnehjnaecgpkmaa", sum := "24f2c0c08f6027501e5d4700348dca3f977f9ee490f1239c40be3abfc962d985", func := "stockyard/stockyardlaw20.OfflineRenewedTrue", spec := "offlineRenewedTrue", unfollowed := true, recurses := true, apart := false, narrowed := true }
def OfflineRenewedTrueUptoSaid : Prop := offlineRenewedTrueUptoRow.holds Try.pinned (OpenSpec.upto offlineRenewedTrueSpec)

/-- 'stockyardlaw19.LeaseExpires', WHERE WHAT IT READS IS OF BULK AT MOST 1048576: true; the input reads as it did. -/
def leaseExpiresUptoRow : OpenClaim := { program := "ytnehjnaecgpkmaa", sum := "24f2c0c08f6027501e5d4700348dca3f977f9ee490f1239c40be3abfc962d985", func := "stockyard/stockyardlaw19.LeaseExpires", spec := "leaseExpires", apart := false, narrowed := true }
def LeaseExpiresUptoSaid : Prop := leaseExpiresUptoRow.holds Try.pinned (OpenSpec.upto leaseExpiresSpec)

/-- 'stockyardlaw19.LeaseEnds', WHERE WHAT IT READS IS OF BULK AT MOST 1048576: true; the input reads as it did. -/
def leaseEndsUptoRow : OpenClaim := { program := "ytnehjnaecgpkmaa", sum := "24f2c0c08f6027501e5d4700348dca3f977f9ee490f1239c40be3abfc962d985", func := "stockyard/stockyardlaw19.LeaseEnds", spec := "leaseEnds", apart := false, narrowed := true }
def LeaseEndsUptoSaid : Prop := leaseEndsUptoRow.holds Try.pinned (OpenSpec.upto leaseEndsSpec)

end Rows
end Go.Proofs.Ytnehjnaecgpkmaa
