/-
  The walks of package lease, first part: New, Advance, isPath, isName, isTerm, holding, held.
-/
import Derived.Test.YtphoodnclmplhaaDoorPath
import Derived.Test.YtphoodnclmplhaaDoorMapG
import Derived.BigRegion
namespace Go.Proofs.YtphoodnclmplhaaDoor
open Go.RowKit

structure Lease where
  path : ByteArray
  holder : ByteArray
  fence : Int
  since : Int
  til : Int
def Lease.val (l : Lease) : Value := .agg #[.string l.path, .string l.holder, .int .i64 l.fence, .int .i64 l.since, .int .i64 l.til]

/-- A table of leases lies at block b, its map at block m. -/
structure TabAt (b m : Nat) (clk : Int) (L : List (ByteArray × Value)) (w : World) : Prop where
  c0 : w.cell? ⟨b, 0, none⟩ = some (.int .i64 clk)
  c1 : w.cell? ⟨b, 1, none⟩ = some (.map (some m))
  f0 : w.frozen? ⟨b, 0, none⟩ = false
  f1 : w.frozen? ⟨b, 1, none⟩ = false
  mp : MapIs m L w
  lt : b < w.heap.size
  ne : b ≠ m

theorem TabAt.below {b m B : Nat} {clk : Int} {L : List (ByteArray × Value)} {w w' : World} (h : TabAt b m clk L w) (hb : Below B w w') (h1 : b < B) (h2 : m < B) : TabAt b m clk L w' :=
  ⟨(hb.cell (p := ⟨b, 0, none⟩) h1).trans h.c0, (hb.cell (p := ⟨b, 1, none⟩) h1).trans h.c1, (hb.frozen (p := ⟨b, 0, none⟩) h1).trans h.f0, (hb.frozen (p := ⟨b, 1, none⟩) h1).trans h.f1, h.mp.below hb h2, Nat.lt_of_lt_of_le h.lt hb.size, h.ne⟩
theorem TabAt.after {b m : Nat} {clk : Int} {L : List (ByteArray × Value)} {w w' : World} (h : TabAt b m clk L w) (hb : Below w.heap.size w w') : TabAt b m clk L w' := h.below hb h.lt h.mp.lt

set_option maxHeartbeats 400000 in
theorem new_any (w : World) : Calls Tryd.prog 7 #[] w fun e w' => e = .returned (.pointer (some ⟨w.heap.size + 1, 0, none⟩)) ∧ TabAt (w.heap.size + 1) w.heap.size 0 [] w' ∧ Below w.heap.size w w' := by
  have hmm := @run_makeMap Tryd.prog
  go_enter Tryd.func7, Tryd.ntmps7
  go_wp2
  go_ret
  refine ⟨rfl, ⟨by simp [go_sem], by simp [go_sem], by simp [go_sem], by simp [go_sem], (MapIs.new w).alloc _, by simp, by omega⟩, ((Below.refl _ _).alloc (Nat.le_refl _) _).alloc (by simp) _⟩

def isPathB (p : ByteArray) : Bool := decide (p.size ≤ 200) && validB p.data.toList
def isNameB (p : ByteArray) : Bool := decide (p.size ≤ 24) && compB p.data.toList
set_option maxHeartbeats 400000 in
theorem isPath_any (p : ByteArray) (w : World) : Calls Tryd.prog 39 #[.string p] w fun e w' => e = .returned (.bool (isPathB p)) ∧ w = w' := by
  by_cases hp : p.size ≤ 200
  · go_enter Tryd.func39, Tryd.ntmps39
    go_wp2_with (go_at_call 51; refine (valid_any _ _ (by omega)).mono ?_; rintro e w' ⟨rfl, rfl⟩)
    go_ret
    exact ⟨ret_bool (by simp [isPathB, hp]), rfl⟩
  · go_enter Tryd.func39, Tryd.ntmps39
    go_wp2_with fail
    go_ret
    exact ⟨ret_bool (by simp [isPathB, hp]), rfl⟩
set_option maxHeartbeats 400000 in
theorem isName_any (p : ByteArray) (w : World) : Calls Tryd.prog 40 #[.string p] w fun e w' => e = .returned (.bool (isNameB p)) ∧ w = w' := by
  by_cases hp : p.size ≤ 24
  · go_enter Tryd.func40, Tryd.ntmps40
    go_wp2_with (go_at_call 52; refine (comp_any _ _ (by unfold maxLen; omega)).mono ?_; rintro e w' ⟨rfl, rfl⟩)
    go_ret
    exact ⟨ret_bool (by simp [isNameB, hp]), rfl⟩
  · go_enter Tryd.func40, Tryd.ntmps40
    go_wp2_with fail
    go_ret
    exact ⟨ret_bool (by simp [isNameB, hp]), rfl⟩
def isTermB (t : Int) : Bool := decide (1 ≤ t) && decide (t ≤ 1048576)
set_option maxHeartbeats 400000 in
theorem isTerm_any (t : Int) (w : World) : Calls Tryd.prog 41 #[.int .i64 t] w fun e w' => e = .returned (.bool (isTermB t)) ∧ w = w' := by
  go_enter Tryd.func41, Tryd.ntmps41
  go_wp2
  all_goals (go_ret; exact ⟨ret_bool (by simp [isTermB]; try omega), rfl⟩)

def hNow (clk ls lu : Int) : Bool := decide (ls ≤ clk) && decide (clk < lu)

set_option maxHeartbeats 400000 in
theorem holding_none (b m : Nat) (clk : Int) (L : List (ByteArray × Value)) (p : ByteArray) (w : World) (hT : TabAt b m clk L w) (hl : look L p = none) :
    Calls Tryd.prog 42 #[.pointer (some ⟨b, 0, none⟩), .string p] w fun e w' => e = .returned (.tuple #[.agg #[.string ⟨#[]⟩, .string ⟨#[]⟩, .int .i64 0, .int .i64 0, .int .i64 0], .bool false]) ∧ Below w.heap.size w w' := by
  obtain ⟨c0, c1, f0, f1, mp, lt, ne⟩ := hT
  go_enter Tryd.func42, Tryd.ntmps42
  go_wp2_with (at_lookup; refine wpList_look_none rfl _ _ 53 true rfl 9 34 Tryd.underlying53 Tryd.underlying9 m L rfl (mp.alloc _) (.agg #[.string ⟨#[]⟩, .string ⟨#[]⟩, .int .i64 0, .int .i64 0, .int .i64 0]) (by kernel_rfl) p rfl hl ?_)
  go_region
  go_wp2_with fail
  refine bodyPost_ret (v := .tuple #[.agg #[.string ⟨#[]⟩, .string ⟨#[]⟩, .int .i64 0, .int .i64 0, .int .i64 0], .bool false]) (by simp [results, Tryd.results42, go_sem]) rfl ⟨rfl, ?_⟩
  (repeat (first | (with_reducible exact Below.refl _ _) | (with_reducible assumption) | (with_reducible refine Below.setCell ?_ ?_ _; rotate_left; focus (first | exact Nat.le_refl _ | (dsimp only; omega))) | (with_reducible refine Below.drew ?_) | (with_reducible refine below_drewN ?_ _) | (with_reducible refine Below.alloc ?_ ?_ _; rotate_left; focus (first | exact Nat.le_refl _ | (simp; done) | (simp; omega)))))

set_option maxHeartbeats 800000 in
theorem holding_some (b m : Nat) (clk : Int) (L : List (ByteArray × Value)) (p : ByteArray) (lp lh : ByteArray) (lf ls lu : Int) (w : World) (hT : TabAt b m clk L w) (hl : look L p = some (.agg #[.string lp, .string lh, .int .i64 lf, .int .i64 ls, .int .i64 lu])) :
    Calls Tryd.prog 42 #[.pointer (some ⟨b, 0, none⟩), .string p] w fun e w' => e = .returned (.tuple #[.agg #[.string lp, .string lh, .int .i64 lf, .int .i64 ls, .int .i64 lu], .bool (hNow clk ls lu)]) ∧ Below w.heap.size w w' := by
  obtain ⟨c0, c1, f0, f1, mp, lt, ne⟩ := hT
  by_cases h1 : ls ≤ clk
  · by_cases h2 : clk < lu
    · have HH := Lib.hid (show hNow clk ls lu = true by simp [hNow, h1, h2])
      rw [HH.out]
      go_enter Tryd.func42, Tryd.ntmps42
      go_wp2_with (at_lookup; refine wpList_look_some rfl _ _ 53 true rfl 9 34 Tryd.underlying53 Tryd.underlying9 m L rfl (mp.alloc _) p rfl (.agg #[.string lp, .string lh, .int .i64 lf, .int .i64 ls, .int .i64 lu]) hl ?_)
      go_region
      go_wp2_with fail
      refine bodyPost_ret (v := .tuple #[.agg #[.string lp, .string lh, .int .i64 lf, .int .i64 ls, .int .i64 lu], .bool true]) (by simp [results, Tryd.results42, go_sem]) rfl ⟨rfl, ?_⟩
      (repeat (first | (with_reducible exact Below.refl _ _) | (with_reducible assumption) | (with_reducible refine Below.setCell ?_ ?_ _; rotate_left; focus (first | exact Nat.le_refl _ | (dsimp only; omega))) | (with_reducible refine Below.drew ?_) | (with_reducible refine below_drewN ?_ _) | (with_reducible refine Below.alloc ?_ ?_ _; rotate_left; focus (first | exact Nat.le_refl _ | (simp; done) | (simp; omega)))))
    · have HH := Lib.hid (show hNow clk ls lu = false by simp [hNow]; omega)
      rw [HH.out]
      have g2 : decide (clk < lu) = false := by simpa using h2
      go_enter Tryd.func42, Tryd.ntmps42
      go_wp2_with (at_lookup; refine wpList_look_some rfl _ _ 53 true rfl 9 34 Tryd.underlying53 Tryd.underlying9 m L rfl (mp.alloc _) p rfl (.agg #[.string lp, .string lh, .int .i64 lf, .int .i64 ls, .int .i64 lu]) hl ?_)
      go_region
      go_wp2_with fail
      refine bodyPost_ret (v := .tuple #[.agg #[.string lp, .string lh, .int .i64 lf, .int .i64 ls, .int .i64 lu], .bool false]) (by simp [results, Tryd.results42, go_sem]) rfl ⟨rfl, ?_⟩
      (repeat (first | (with_reducible exact Below.refl _ _) | (with_reducible assumption) | (with_reducible refine Below.setCell ?_ ?_ _; rotate_left; focus (first | exact Nat.le_refl _ | (dsimp only; omega))) | (with_reducible refine Below.drew ?_) | (with_reducible refine below_drewN ?_ _) | (with_reducible refine Below.alloc ?_ ?_ _; rotate_left; focus (first | exact Nat.le_refl _ | (simp; done) | (simp; omega)))))
  · have HH := Lib.hid (show hNow clk ls lu = false by simp [hNow, h1])
    rw [HH.out]
    have g2 : decide (ls ≤ clk) = false := by simpa using h1
    go_enter Tryd.func42, Tryd.ntmps42
    go_wp2_with (at_lookup; refine wpList_look_some rfl _ _ 53 true rfl 9 34 Tryd.underlying53 Tryd.underlying9 m L rfl (mp.alloc _) p rfl (.agg #[.string lp, .string lh, .int .i64 lf, .int .i64 ls, .int .i64 lu]) hl ?_)
    go_region
    go_wp2_with fail
    refine bodyPost_ret (v := .tuple #[.agg #[.string lp, .string lh, .int .i64 lf, .int .i64 ls, .int .i64 lu], .bool false]) (by simp [results, Tryd.results42, go_sem]) rfl ⟨rfl, ?_⟩
    (repeat (first | (with_reducible exact Below.refl _ _) | (with_reducible assumption) | (with_reducible refine Below.setCell ?_ ?_ _; rotate_left; focus (first | exact Nat.le_refl _ | (dsimp only; omega))) | (with_reducible refine Below.drew ?_) | (with_reducible refine below_drewN ?_ _) | (with_reducible refine Below.alloc ?_ ?_ _; rotate_left; focus (first | exact Nat.le_refl _ | (simp; done) | (simp; omega)))))

end Go.Proofs.YtphoodnclmplhaaDoor
