/-
  The reference's table of leases in memory; the walks of current, Holds, Name, Has.
-/
import Derived.Test.YtcfmkmhibghaoaaDoorLs
import Derived.Test.YtcfmkmhibghaoaaDoorGenS
import Derived.Test.YtcfmkmhibghaoaaDoorUse
import Derived.OwnWalk
namespace Go.Proofs.YtcfmkmhibghaoaaDoor
open Go.RowKit

/-- The reference's log: nil, or a row of its own. -/
def LogIs (r lb : Nat) (L : List Lease) (A : Option Addr) (cap : Nat) (w : World) : Prop :=
  (L = [] ∧ A = none ∧ cap = 0) ∨ (lb ≠ r ∧ ∃ cs : Array Value, 0 < L.length ∧ A = some ⟨lb, 0, none⟩ ∧ L.length ≤ cap ∧ cap ≤ maxLen ∧ w.heap[lb]? = some (.cells cs 26 (0, 0)) ∧ cs.size = cap * 5 ∧ cs.toList.take (L.length * 5) = celL L)
theorem LogIs.cells {r lb : Nat} {L : List Lease} {A : Option Addr} {cap : Nat} {w : World} (h : LogIs r lb L A cap w) : LsIn A L w := fun hl => by
  rcases h with ⟨rfl, _, _⟩ | ⟨_, cs, _, rfl, _, _, hb, hs, ht⟩
  · simp at hl
  · refine ⟨lb, 0, rfl, block_lt hb, fun i x hx => ?_⟩
    have hi : i < L.length := (List.getElem?_eq_some_iff.1 hx).1
    have hc : ∀ j, j < 5 → w.cell? ⟨lb, i * 5 + j, none⟩ = x.cells[j]? := fun j hj => by
      rw [cell_at hb, ← celL_get L i j x hx hj, ← ht, List.getElem?_take_of_lt (by omega)]
      simp
    simp only [Nat.zero_add]
    exact ⟨hc 0 (by omega), hc 1 (by omega), hc 2 (by omega), hc 3 (by omega), hc 4 (by omega)⟩
theorem LogIs.of {r lb : Nat} {L : List Lease} {A : Option Addr} {cap : Nat} {w w' : World} (h : LogIs r lb L A cap w) (hb : w'.heap[lb]? = w.heap[lb]?) : LogIs r lb L A cap w' := by
  rcases h with h | ⟨hne, cs, h0, h1, h2, h3, h4, h5⟩
  · exact .inl h
  · exact .inr ⟨hne, cs, h0, h1, h2, h3, hb.trans h4, h5⟩
theorem LogIs.le {r lb : Nat} {L : List Lease} {A : Option Addr} {cap : Nat} {w : World} (h : LogIs r lb L A cap w) : L.length ≤ cap ∧ cap ≤ maxLen := by
  rcases h with ⟨rfl, _, rfl⟩ | ⟨_, cs, h0, h1, h2, h3, h4, h5⟩
  · exact ⟨Nat.le_refl _, Nat.zero_le _⟩
  · exact ⟨h2, h3⟩

/-- The reference's table R lies at block r, its log at block lb. -/
structure RAt (r lb : Nat) (R : RTab) (w : World) : Prop where
  lt : lb < w.heap.size
  ex : ∃ A cap, Blk r 48 [.int .i64 R.clk, .slice A R.log.length cap] w ∧ LogIs r lb R.log A cap w
theorem RAt.rlt {r lb : Nat} {R : RTab} {w : World} (h : RAt r lb R w) : r < w.heap.size := by obtain ⟨A, cap, hb, _⟩ := h.ex; exact hb.lt
theorem RAt.of {r lb : Nat} {R : RTab} {w w' : World} (h : RAt r lb R w) (h1 : w'.heap[r]? = w.heap[r]?) (h2 : w'.heap[lb]? = w.heap[lb]?) (hs : w.heap.size ≤ w'.heap.size) : RAt r lb R w' := by
  obtain ⟨A, cap, hb, hl⟩ := h.ex
  exact ⟨Nat.lt_of_lt_of_le h.lt hs, A, cap, hb.of h1, hl.of h2⟩
theorem RAt.below {r lb : Nat} {R : RTab} {w w' : World} (h : RAt r lb R w) (hb : Below w.heap.size w w') : RAt r lb R w' := h.of (hb.block r h.rlt) (hb.block lb h.lt) hb.size
theorem RAt.only {r lb b m : Nat} {R : RTab} {w w' : World} (h : RAt r lb R w) (ho : Only b m w w') (h1 : r ≠ b) (h2 : r ≠ m) (h3 : lb ≠ b) (h4 : lb ≠ m) : RAt r lb R w' := h.of (ho.block r h.rlt h1 h2) (ho.block lb h.lt h3 h4) ho.size
theorem RAt.drew {r lb : Nat} {R : RTab} {w : World} (h : RAt r lb R w) : RAt r lb R w.drew := h.of rfl rfl (Nat.le_refl _)
theorem RAt.alloc {r lb : Nat} {R : RTab} {w : World} (h : RAt r lb R w) (o : Obj) : RAt r lb R (w.alloc o) := h.below ((Below.refl _ _).alloc (Nat.le_refl _) o)

def curI (p : ByteArray) (l : List Lease) : Int := match rcur p l with
  | none => -1
  | some i => i
theorem curI_snoc (p : ByteArray) (l : List Lease) (x : Lease) : curI p (l ++ [x]) = if (x.path == p) = true then (l.length : Int) else curI p l := by
  unfold curI
  rw [rcur_snoc]
  cases (x.path == p) <;> simp
theorem curI_some {p : ByteArray} {l : List Lease} {i : Nat} (h : rcur p l = some i) : curI p l = i := by unfold curI; rw [h]
theorem curI_none {p : ByteArray} {l : List Lease} (h : rcur p l = none) : curI p l = -1 := by unfold curI; rw [h]
theorem path_tlR (a b : ByteArray) : (a.toList == b.toList) = (a == b) := by
  rw [toList_eq, toList_eq, Bool.eq_iff_iff, beq_iff_eq, ba_beq]
  constructor
  · exact ba_data
  · rintro rfl; rfl

set_option maxRecDepth 100000 in
set_option maxHeartbeats 1600000 in
theorem rcur_any (r lb : Nat) (R : RTab) (p : ByteArray) (w : World) (h : RAt r lb R w) :
    Calls Tryd.prog 30 #[.pointer (some ⟨r, 0, none⟩), .string p] w fun e w' => e = .returned (.int .i64 (curI p R.log)) ∧ Below w.heap.size w w' := by
  obtain ⟨A, cap, hb, hl⟩ := h.ex
  have c1 := hb.cell 1
  simp only [List.getElem?_cons_succ, List.getElem?_cons_zero] at c1
  have HI := Lib.hid hl.cells
  have hle := hl.le
  unfold maxLen at hle
  clear hb hl h
  obtain ⟨clk, l⟩ := R
  dsimp only at c1 HI hle ⊢
  obtain ⟨hle1, hle2⟩ := hle
  have hn : l.length ≤ 9223372036854775807 := by omega
  clear hle1 hle2
  go_enter Tryd.func30, Tryd.ntmps30
  go_wp2_with fail
  go_loopw [5, 13] (fun s i wr => ∃ k : Nat, k ≤ l.length ∧ i = .int .i64 k ∧ s = .int .i64 (curI p (l.take k)) ∧ Below w.heap.size w wr) (fun _ i _ => l.length - (intOf i).toNat)
  case atStart => exact ⟨0, Nat.zero_le _, rfl, rfl, Below.refl _ _⟩
  case round =>
    obtain ⟨k, hk, rfl, rfl, hB⟩ := hrel
    by_cases hlt : k < l.length
    · obtain ⟨b, off, rfl, hbl, hat⟩ := HI.out (by omega)
      obtain ⟨h0, h1, h2, h3, h4⟩ := (hat.below hB hbl) k l[k] (List.getElem?_eq_getElem hlt)
      have HS : Hid (curI p (l.take (k + 1)) = if (l[k].path == p) = true then (k : Int) else curI p (l.take k)) := by
        show _ = _
        rw [List.take_succ_eq_append_getElem hlt, curI_snoc, List.length_take_of_le (by omega)]
      clear hat c1
      cases hc : (l[k].path.toList == p.toList)
      · rw [path_tlR] at hc
        have HC := Lib.hid hc
        rw [← path_tlR] at hc
        go_wp2_with fail
        go_roundw
        case rel => exact ⟨k + 1, by omega, by go_num, by rw [HS.out, HC.out]; rfl, hB.alloc hB.size _⟩
        case measure => simp [intOf]; omega
      · rw [path_tlR] at hc
        have HC := Lib.hid hc
        rw [← path_tlR] at hc
        go_wp2_with fail
        go_roundw
        case rel => exact ⟨k + 1, by omega, by go_num, by rw [HS.out, HC.out]; rfl, hB.alloc hB.size _⟩
        case measure => simp [intOf]; omega
    · have hge : l.length ≤ k := by omega
      obtain rfl : k = l.length := by omega
      clear hlt
      go_wp2_with fail
      go_ret
      exact ⟨ret_int (by rw [List.take_length]), hB⟩

set_option maxHeartbeats 400000 in
theorem rholds_any (l : Lease) (now : Int) (w : World) : Calls Tryd.prog 13 #[l.val, .int .i64 now] w fun e w' => e = .returned (.bool (hNow now l.since l.til)) ∧ Below w.heap.size w w' := by
  obtain ⟨lp, lh, lf, ls, lu⟩ := l
  unfold Lease.val
  dsimp only
  go_enter Tryd.func13, Tryd.ntmps13
  go_wp2_with fail
  all_goals
    go_ret
    exact ⟨ret_bool (by unfold hNow; rw [Bool.eq_iff_iff]; simp; first | omega | (intros; omega) | skip), (Below.refl _ _).alloc (Nat.le_refl _) _⟩

set_option maxHeartbeats 400000 in
theorem rname_any (s : ByteArray) (w : World) (hs : s.size ≤ maxLen) : Calls Tryd.prog 43 #[.string s] w fun e w' => e = .returned (.bool (isNameB s)) ∧ Below w.heap.size w w' := by
  unfold maxLen at hs
  cases hc : compB s.data.toList
  · go_enter Tryd.func43, Tryd.ntmps43
    go_wp2_with (go_at_call 56; refine (rcomp_any s _ hs).mono ?_; rw [hc]; rintro e w' ⟨rfl, rfl⟩)
    go_ret
    exact ⟨ret_bool (by simp [isNameB, hc]), Below.refl _ _⟩
  · go_enter Tryd.func43, Tryd.ntmps43
    go_wp2_with (go_at_call 56; refine (rcomp_any s _ hs).mono ?_; rw [hc]; rintro e w' ⟨rfl, rfl⟩)
    go_ret
    exact ⟨ret_bool (by rw [Bool.eq_iff_iff]; simp [isNameB, hc]; omega), Below.refl _ _⟩

end Go.Proofs.YtcfmkmhibghaoaaDoor
