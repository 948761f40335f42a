/-
  The walk of 'granted': a table in which ann holds the path, and her claim.
-/
import Derived.Test.YtnehjnaecgpkmaaOff3
import Derived.Test.YtnehjnaecgpkmaaLease4
namespace Go.Proofs.Ytnehjnaecgpkmaa
open Go.RowKit

def annB : ByteArray := ⟨#[97, 110, 110]⟩
theorem ax_path : isPathB axB = true := by decide
theorem ann_name : isNameB annB = true := by decide

/-- Not granted: false, whatever the table. -/
def GrNo (w : World) (e : Ending) (w' : World) : Prop := ∃ pt : Option Addr, e = .returned (.tuple #[.pointer pt, .agg #[.string ⟨#[]⟩, .int .i64 0, .int .i64 0, .int .i64 0, .int .i64 0], .bool false]) ∧ Below w.heap.size w w'

set_option maxHeartbeats 400000 in
theorem granted_out (start delay sent term drift : Int) (w : World) (h : start < 0 ∨ 1000 < start ∨ delay < 0 ∨ 1000 < delay) :
    Calls Try.prog 16 #[.int .i64 start, .int .i64 delay, .int .i64 sent, .int .i64 term, .int .i64 drift] w (GrNo w) := by
  go_enter Try.func16, Try.ntmps16
  go_wp2_with fail
  refine (new_any _).mono ?_
  rintro e w1 ⟨rfl, hT, HB⟩
  have k := (Box5.new w (.string ⟨#[]⟩) (.int .i64 0) (.int .i64 0) (.int .i64 0) (.int .i64 0) 23).below HB
  (have k' := k; obtain ⟨d0, d1, d2, d3, d4, lt_k, _, fz_k⟩ := k')
  go_wp2_with fail
  have ho := k.old
  all_goals (refine bodyPost_ret (v := .tuple #[.pointer none, .agg #[.string ⟨#[]⟩, .int .i64 0, .int .i64 0, .int .i64 0, .int .i64 0], .bool false]) (by simp [results, Try.results16, go_sem, d0, d1, d2, d3, d4]) rfl ⟨none, rfl, ?_⟩; (repeat (first | (with_reducible exact Below.refl _ _) | (with_reducible assumption) | (with_reducible refine Below.setCell ?_ ?_ _; rotate_left; focus (first | exact Nat.le_refl _ | (dsimp only; omega))) | (with_reducible refine Below.drew ?_) | (with_reducible refine below_drewN ?_ _) | (with_reducible refine Below.alloc ?_ ?_ _; rotate_left; focus (first | exact Nat.le_refl _ | (simp; done) | (simp; omega))) | (with_reducible refine Below.trans ?_ (HB.mono ?_); rotate_left; focus (first | exact Nat.le_refl _ | (simp; done) | (simp; omega))))))

set_option maxHeartbeats 800000 in
theorem granted_term (start delay sent term drift : Int) (w : World) (g0 : 0 ≤ start) (g1 : start ≤ 1000) (g2 : 0 ≤ delay) (g3 : delay ≤ 1000) (h3 : isTermB term = false) :
    Calls Try.prog 16 #[.int .i64 start, .int .i64 delay, .int .i64 sent, .int .i64 term, .int .i64 drift] w (GrNo w) := by
  go_enter Try.func16, Try.ntmps16
  go_wp2_with fail
  refine (new_any _).mono ?_
  rintro e w1 ⟨rfl, hT0, HB⟩
  have hT : TabAt (w.heap.size + 1 + 1) (w.heap.size + 1) 0 [] w1 := by simpa using hT0
  clear hT0
  have k := ((Box5.new w (.string ⟨#[]⟩) (.int .i64 0) (.int .i64 0) (.int .i64 0) (.int .i64 0) 23).below HB)
  go_wp2_with fail
  refine (advance_yes _ _ _ _ _ _ hT (by omega) (by omega) (by omega) (by omega)).mono ?_
  rintro e w2 ⟨rfl, hT2, hO⟩
  have k2 := k.cell5.only hO (by omega) (by omega)
  have o2 : Below w.heap.size w w2 := k.old.trans (hO.below k.old.size (by omega) (by omega))
  rw [Int.zero_add] at hT2
  go_wp2_with fail
  refine (acq_term _ _ _ _ _ ax_path ann_name h3).mono ?_
  rintro e w3 ⟨rfl, HB3⟩
  have k3 := k2.below HB3
  have o3 := o2.trans (HB3.mono o2.size)
  go_wp2_with fail
  refine (begin_no _ _ _ _ _ _ (by simp [soundB])).mono ?_
  rintro e w4 ⟨rfl, HB4⟩
  have k4 := (k3.alloc _).below HB4
  have o4 := (o3.alloc o3.size _).trans (HB4.mono (by simp; have := o3.size; omega))
  (have k4' := k4; obtain ⟨d0, d1, d2, d3, d4, lt_k4, fz_k4⟩ := k4')
  go_wp2_with fail
  go_region
  go_wp2_with fail
  refine bodyPost_ret (v := .tuple #[.pointer (some ⟨w.heap.size + 1 + 1, 0, none⟩), .agg #[.string ⟨#[]⟩, .int .i64 0, .int .i64 0, .int .i64 0, .int .i64 0], .bool false]) (by simp [results, Try.results16, go_sem, d0, d1, d2, d3, d4, lt_k4]) rfl ⟨_, rfl, ?_⟩
  (repeat (first | (with_reducible exact Below.refl _ _) | (with_reducible assumption) | (with_reducible refine Below.setCell ?_ ?_ _; rotate_left; focus (first | exact Nat.le_refl _ | (dsimp only; omega))) | (with_reducible refine Below.drew ?_) | (with_reducible refine below_drewN ?_ _) | (with_reducible refine Below.alloc ?_ ?_ _; rotate_left; focus (first | exact Nat.le_refl _ | (simp; done) | (simp; omega))) | (with_reducible refine Below.trans ?_ (HB.mono ?_); rotate_left; focus (first | exact Nat.le_refl _ | (simp; done) | (simp; omega)))))

set_option maxHeartbeats 800000 in
theorem granted_unsound (start delay sent term drift : Int) (w : World) (g0 : 0 ≤ start) (g1 : start ≤ 1000) (g2 : 0 ≤ delay) (g3 : delay ≤ 1000) (h3 : isTermB term = true) (hs : soundB ⟨axB, 1, sent, term, drift⟩ = false) :
    Calls Try.prog 16 #[.int .i64 start, .int .i64 delay, .int .i64 sent, .int .i64 term, .int .i64 drift] w (GrNo w) := by
  go_enter Try.func16, Try.ntmps16
  go_wp2_with fail
  refine (new_any _).mono ?_
  rintro e w1 ⟨rfl, hT0, HB⟩
  have hT : TabAt (w.heap.size + 1 + 1) (w.heap.size + 1) 0 [] w1 := by simpa using hT0
  clear hT0
  have k := ((Box5.new w (.string ⟨#[]⟩) (.int .i64 0) (.int .i64 0) (.int .i64 0) (.int .i64 0) 23).below HB)
  go_wp2_with fail
  refine (advance_yes _ _ _ _ _ _ hT (by omega) (by omega) (by omega) (by omega)).mono ?_
  rintro e w2 ⟨rfl, hT2, hO⟩
  have k2 := k.cell5.only hO (by omega) (by omega)
  have o2 : Below w.heap.size w w2 := k.old.trans (hO.below k.old.size (by omega) (by omega))
  rw [Int.zero_add] at hT2
  go_wp2_with fail
  have hax : look [] axB = none := rfl
  refine (acq_new _ _ _ _ _ _ _ _ hT2 (by omega) (by omega) ax_path ann_name h3 hax (by decide)).mono ?_
  rintro e w3 ⟨rfl, hT3, hO3⟩
  have k3 := k2.only hO3 (by omega) (by omega)
  have o3 : Below w.heap.size w w3 := o2.trans (hO3.below o2.size (by omega) (by omega))
  go_wp2_with fail
  refine (begin_no _ _ _ _ _ _ hs).mono ?_
  rintro e w4 ⟨rfl, HB4⟩
  have k4 := (k3.alloc _).below HB4
  have o4 := (o3.alloc o3.size _).trans (HB4.mono (by simp; have := o3.size; omega))
  (have k4' := k4; obtain ⟨d0, d1, d2, d3, d4, lt_k4, fz_k4⟩ := k4')
  go_wp2_with fail
  go_region
  go_wp2_with fail
  refine bodyPost_ret (v := .tuple #[.pointer (some ⟨w.heap.size + 1 + 1, 0, none⟩), .agg #[.string ⟨#[]⟩, .int .i64 0, .int .i64 0, .int .i64 0, .int .i64 0], .bool false]) (by simp [results, Try.results16, go_sem, d0, d1, d2, d3, d4, lt_k4]) rfl ⟨_, rfl, ?_⟩
  (repeat (first | (with_reducible exact Below.refl _ _) | (with_reducible assumption) | (with_reducible refine Below.setCell ?_ ?_ _; rotate_left; focus (first | exact Nat.le_refl _ | (dsimp only; omega))) | (with_reducible refine Below.drew ?_) | (with_reducible refine below_drewN ?_ _) | (with_reducible refine Below.alloc ?_ ?_ _; rotate_left; focus (first | exact Nat.le_refl _ | (simp; done) | (simp; omega))) | (with_reducible refine Below.trans ?_ (HB.mono ?_); rotate_left; focus (first | exact Nat.le_refl _ | (simp; done) | (simp; omega)))))

/-- Granted: ann has the path from start + delay on. -/
structure GrYes (start delay sent term drift : Int) (w : World) (e : Ending) (w' : World) : Prop where
  ret : e = .returned (.tuple #[.pointer (some ⟨w.heap.size + 1 + 1, 0, none⟩), .agg #[.string axB, .int .i64 1, .int .i64 sent, .int .i64 term, .int .i64 drift], .bool true])
  tab : TabAt (w.heap.size + 1 + 1) (w.heap.size + 1) (start + delay) [(axB, .agg #[.string axB, .string annB, .int .i64 1, .int .i64 (start + delay), .int .i64 (start + delay + term)])] w'
  old : Below w.heap.size w w'
set_option maxHeartbeats 800000 in
theorem granted_yes (start delay sent term drift : Int) (w : World) (g0 : 0 ≤ start) (g1 : start ≤ 1000) (g2 : 0 ≤ delay) (g3 : delay ≤ 1000) (h3 : isTermB term = true) (hs : soundB ⟨axB, 1, sent, term, drift⟩ = true) :
    Calls Try.prog 16 #[.int .i64 start, .int .i64 delay, .int .i64 sent, .int .i64 term, .int .i64 drift] w (GrYes start delay sent term drift w) := by
  go_enter Try.func16, Try.ntmps16
  go_wp2_with fail
  refine (new_any _).mono ?_
  rintro e w1 ⟨rfl, hT0, HB⟩
  have hT : TabAt (w.heap.size + 1 + 1) (w.heap.size + 1) 0 [] w1 := by simpa using hT0
  clear hT0
  have k := ((Box5.new w (.string ⟨#[]⟩) (.int .i64 0) (.int .i64 0) (.int .i64 0) (.int .i64 0) 23).below HB)
  go_wp2_with fail
  refine (advance_yes _ _ _ _ _ _ hT (by omega) (by omega) (by omega) (by omega)).mono ?_
  rintro e w2 ⟨rfl, hT2, hO⟩
  have k2 := k.cell5.only hO (by omega) (by omega)
  have o2 : Below w.heap.size w w2 := k.old.trans (hO.below k.old.size (by omega) (by omega))
  rw [Int.zero_add] at hT2
  go_wp2_with fail
  have hax : look [] axB = none := rfl
  refine (acq_new _ _ _ _ _ _ _ _ hT2 (by omega) (by omega) ax_path ann_name h3 hax (by decide)).mono ?_
  rintro e w3 ⟨rfl, hT3, hO3⟩
  have k3 := k2.only hO3 (by omega) (by omega)
  have o3 : Below w.heap.size w w3 := o2.trans (hO3.below o2.size (by omega) (by omega))
  go_wp2_with fail
  refine (begin_yes _ _ _ _ _ _ hs).mono ?_
  rintro e w4 ⟨rfl, HB4⟩
  have k4 := (k3.alloc _).below HB4
  have o4 := (o3.alloc o3.size _).trans (HB4.mono (by simp; have := o3.size; omega))
  have t4 := (hT3.alloc _).after HB4
  (have k4' := k4; obtain ⟨d0, d1, d2, d3, d4, lt_k4, fz_k4⟩ := k4')
  go_wp2_with fail
  go_region
  go_wp2_with fail
  refine bodyPost_ret (v := .tuple #[.pointer (some ⟨w.heap.size + 1 + 1, 0, none⟩), .agg #[.string axB, .int .i64 1, .int .i64 sent, .int .i64 term, .int .i64 drift], .bool true]) (by simp [results, Try.results16, go_sem, d0, d1, d2, d3, d4, lt_k4]) rfl ⟨rfl, ?_, ?_⟩
  · have e1 : w.heap.size + 1 + 1 ≠ w.heap.size := by omega
    have e2 : w.heap.size + 1 ≠ w.heap.size := by omega
    exact ((((((t4.far (p := ⟨w.heap.size, 0, none⟩) e1 e2 _).far (p := ⟨w.heap.size, 1, none⟩) e1 e2 _).far (p := ⟨w.heap.size, 2, none⟩) e1 e2 _).far (p := ⟨w.heap.size, 3, none⟩) e1 e2 _).far (p := ⟨w.heap.size, 4, none⟩) e1 e2 _).alloc _).drew
  · (repeat (first | (with_reducible exact Below.refl _ _) | (with_reducible assumption) | (with_reducible refine Below.setCell ?_ ?_ _; rotate_left; focus (first | exact Nat.le_refl _ | (dsimp only; omega))) | (with_reducible refine Below.drew ?_) | (with_reducible refine below_drewN ?_ _) | (with_reducible refine Below.alloc ?_ ?_ _; rotate_left; focus (first | exact Nat.le_refl _ | (simp; done) | (simp; omega))) | (with_reducible refine Below.trans ?_ (HB.mono ?_); rotate_left; focus (first | exact Nat.le_refl _ | (simp; done) | (simp; omega)))))

end Go.Proofs.Ytnehjnaecgpkmaa
