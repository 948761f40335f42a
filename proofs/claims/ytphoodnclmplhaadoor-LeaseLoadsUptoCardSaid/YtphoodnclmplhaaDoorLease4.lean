/-
  The walks of package lease, fourth part: Acquire.
-/
import Derived.Test.YtphoodnclmplhaaDoorLease3
namespace Go.Proofs.YtphoodnclmplhaaDoor
open Go.RowKit

set_option maxRecDepth 100000 in
set_option maxHeartbeats 400000 in
theorem acq_path (b : Nat) (p holder : ByteArray) (term : Int) (w : World) (h1 : isPathB p = false) :
    Calls Tryd.prog 18 #[.pointer (some ⟨b, 0, none⟩), .string p, .string holder, .int .i64 term] w fun e w' => e = .returned (.tuple #[.agg #[.string ⟨#[]⟩, .string ⟨#[]⟩, .int .i64 0, .int .i64 0, .int .i64 0], .int .i64 190]) ∧ Below w.heap.size w w' := by
  go_enter Tryd.func18, Tryd.ntmps18
  go_wp2_with fail
  refine (isPath_any _ _).mono ?_
  rintro e w1 ⟨rfl, rfl⟩
  rw [h1]
  go_wp2_with fail
  refine bodyPost_ret (v := .tuple #[.agg #[.string ⟨#[]⟩, .string ⟨#[]⟩, .int .i64 0, .int .i64 0, .int .i64 0], .int .i64 190]) (by simp [results, Tryd.results18, go_sem]) rfl ⟨rfl, ?_⟩
  (repeat (first | (with_reducible exact Below.refl _ _) | (with_reducible assumption) | (with_reducible refine Below.setCell ?_ ?_ _; rotate_left; focus (first | exact Nat.le_refl _ | (dsimp only; omega))) | (with_reducible refine Below.drew ?_) | (with_reducible refine below_drewN ?_ _) | (with_reducible refine Below.alloc ?_ ?_ _; rotate_left; focus (first | exact Nat.le_refl _ | (simp; done) | (simp; omega)))))
set_option maxRecDepth 100000 in
set_option maxHeartbeats 400000 in
theorem acq_name (b : Nat) (p holder : ByteArray) (term : Int) (w : World) (h1 : isPathB p = true) (h2 : isNameB holder = false) :
    Calls Tryd.prog 18 #[.pointer (some ⟨b, 0, none⟩), .string p, .string holder, .int .i64 term] w fun e w' => e = .returned (.tuple #[.agg #[.string ⟨#[]⟩, .string ⟨#[]⟩, .int .i64 0, .int .i64 0, .int .i64 0], .int .i64 191]) ∧ Below w.heap.size w w' := by
  go_enter Tryd.func18, Tryd.ntmps18
  go_wp2_with fail
  refine (isPath_any _ _).mono ?_
  rintro e w1 ⟨rfl, rfl⟩
  rw [h1]
  go_wp2_with fail
  refine (isName_any _ _).mono ?_
  rintro e w1 ⟨rfl, rfl⟩
  rw [h2]
  go_wp2_with fail
  refine bodyPost_ret (v := .tuple #[.agg #[.string ⟨#[]⟩, .string ⟨#[]⟩, .int .i64 0, .int .i64 0, .int .i64 0], .int .i64 191]) (by simp [results, Tryd.results18, go_sem]) rfl ⟨rfl, ?_⟩
  (repeat (first | (with_reducible exact Below.refl _ _) | (with_reducible assumption) | (with_reducible refine Below.setCell ?_ ?_ _; rotate_left; focus (first | exact Nat.le_refl _ | (dsimp only; omega))) | (with_reducible refine Below.drew ?_) | (with_reducible refine below_drewN ?_ _) | (with_reducible refine Below.alloc ?_ ?_ _; rotate_left; focus (first | exact Nat.le_refl _ | (simp; done) | (simp; omega)))))
set_option maxRecDepth 100000 in
set_option maxHeartbeats 400000 in
theorem acq_term (b : Nat) (p holder : ByteArray) (term : Int) (w : World) (h1 : isPathB p = true) (h2 : isNameB holder = true) (h3 : isTermB term = false) :
    Calls Tryd.prog 18 #[.pointer (some ⟨b, 0, none⟩), .string p, .string holder, .int .i64 term] w fun e w' => e = .returned (.tuple #[.agg #[.string ⟨#[]⟩, .string ⟨#[]⟩, .int .i64 0, .int .i64 0, .int .i64 0], .int .i64 192]) ∧ Below w.heap.size w w' := by
  go_enter Tryd.func18, Tryd.ntmps18
  go_wp2_with fail
  refine (isPath_any _ _).mono ?_
  rintro e w1 ⟨rfl, rfl⟩
  rw [h1]
  go_wp2_with fail
  refine (isName_any _ _).mono ?_
  rintro e w1 ⟨rfl, rfl⟩
  rw [h2]
  go_wp2_with fail
  refine (isTerm_any _ _).mono ?_
  rintro e w1 ⟨rfl, rfl⟩
  rw [h3]
  go_wp2_with fail
  refine bodyPost_ret (v := .tuple #[.agg #[.string ⟨#[]⟩, .string ⟨#[]⟩, .int .i64 0, .int .i64 0, .int .i64 0], .int .i64 192]) (by simp [results, Tryd.results18, go_sem]) rfl ⟨rfl, ?_⟩
  (repeat (first | (with_reducible exact Below.refl _ _) | (with_reducible assumption) | (with_reducible refine Below.setCell ?_ ?_ _; rotate_left; focus (first | exact Nat.le_refl _ | (dsimp only; omega))) | (with_reducible refine Below.drew ?_) | (with_reducible refine below_drewN ?_ _) | (with_reducible refine Below.alloc ?_ ?_ _; rotate_left; focus (first | exact Nat.le_refl _ | (simp; done) | (simp; omega)))))
set_option maxRecDepth 100000 in
set_option maxHeartbeats 400000 in
theorem acq_held (b m : Nat) (clk : Int) (L : List (ByteArray × Value)) (p holder : ByteArray) (term : Int) (w : World) (hT : TabAt b m clk L w) (h1 : isPathB p = true) (h2 : isNameB holder = true) (h3 : isTermB term = true) (lp lh : ByteArray) (lf ls lu : Int) (hl : look L p = some (.agg #[.string lp, .string lh, .int .i64 lf, .int .i64 ls, .int .i64 lu])) (hv : hNow clk ls lu = true) :
    Calls Tryd.prog 18 #[.pointer (some ⟨b, 0, none⟩), .string p, .string holder, .int .i64 term] w fun e w' => e = .returned (.tuple #[.agg #[.string ⟨#[]⟩, .string ⟨#[]⟩, .int .i64 0, .int .i64 0, .int .i64 0], .int .i64 193]) ∧ Below w.heap.size w w' := by
  have HT := hT.alloc (.cells #[.string ⟨#[]⟩, .string ⟨#[]⟩, .int .i64 0, .int .i64 0, .int .i64 0] 34)
  go_enter Tryd.func18, Tryd.ntmps18
  go_wp2_with fail
  refine (isPath_any _ _).mono ?_
  rintro e w1 ⟨rfl, rfl⟩
  rw [h1]
  go_wp2_with fail
  refine (isName_any _ _).mono ?_
  rintro e w1 ⟨rfl, rfl⟩
  rw [h2]
  go_wp2_with fail
  refine (isTerm_any _ _).mono ?_
  rintro e w1 ⟨rfl, rfl⟩
  rw [h3]
  go_wp2_with fail
  refine (holding_val _ HT hl hv).mono ?_
  rintro e w1 ⟨rfl, HB⟩
  have k := (Box5.new w (.string ⟨#[]⟩) (.string ⟨#[]⟩) (.int .i64 0) (.int .i64 0) (.int .i64 0) 34).below HB
  (have k' := k; obtain ⟨d0, d1, d2, d3, d4, lt_k, _, fz_k⟩ := k')
  go_wp2_with fail
  have ho := k.old
  refine bodyPost_ret (v := .tuple #[.agg #[.string ⟨#[]⟩, .string ⟨#[]⟩, .int .i64 0, .int .i64 0, .int .i64 0], .int .i64 193]) (by simp [results, Tryd.results18, go_sem, d0, d1, d2, d3, d4, lt_k]) rfl ⟨rfl, ?_⟩
  (repeat (first | (with_reducible exact Below.refl _ _) | (with_reducible assumption) | (with_reducible refine Below.setCell ?_ ?_ _; rotate_left; focus (first | exact Nat.le_refl _ | (dsimp only; omega))) | (with_reducible refine Below.drew ?_) | (with_reducible refine below_drewN ?_ _) | (with_reducible refine Below.alloc ?_ ?_ _; rotate_left; focus (first | exact Nat.le_refl _ | (simp; done) | (simp; omega))) | (with_reducible refine Below.trans ?_ (HB.mono ?_); rotate_left; focus (first | exact Nat.le_refl _ | (simp; done) | (simp; omega)))))
set_option maxRecDepth 100000 in
set_option maxHeartbeats 400000 in
theorem acq_full (b m : Nat) (clk : Int) (L : List (ByteArray × Value)) (p holder : ByteArray) (term : Int) (w : World) (hT : TabAt b m clk L w) (h1 : isPathB p = true) (h2 : isNameB holder = true) (h3 : isTermB term = true) (hl : look L p = none) (hn : 64 ≤ L.length) :
    Calls Tryd.prog 18 #[.pointer (some ⟨b, 0, none⟩), .string p, .string holder, .int .i64 term] w fun e w' => e = .returned (.tuple #[.agg #[.string ⟨#[]⟩, .string ⟨#[]⟩, .int .i64 0, .int .i64 0, .int .i64 0], .int .i64 195]) ∧ Below w.heap.size w w' := by
  have HT := hT.alloc (.cells #[.string ⟨#[]⟩, .string ⟨#[]⟩, .int .i64 0, .int .i64 0, .int .i64 0] 34)
  go_enter Tryd.func18, Tryd.ntmps18
  go_wp2_with fail
  refine (isPath_any _ _).mono ?_
  rintro e w1 ⟨rfl, rfl⟩
  rw [h1]
  go_wp2_with fail
  refine (isName_any _ _).mono ?_
  rintro e w1 ⟨rfl, rfl⟩
  rw [h2]
  go_wp2_with fail
  refine (isTerm_any _ _).mono ?_
  rintro e w1 ⟨rfl, rfl⟩
  rw [h3]
  go_wp2_with fail
  refine (holding_none b m clk L p _ HT hl).mono ?_
  rintro e w1 ⟨rfl, HB⟩
  have k := (Box5.new w (.string ⟨#[]⟩) (.string ⟨#[]⟩) (.int .i64 0) (.int .i64 0) (.int .i64 0) 34).below HB
  (have k' := k; obtain ⟨d0, d1, d2, d3, d4, lt_k, _, fz_k⟩ := k')
  have hT1 := HT.after HB
  have hT1' := hT1
  obtain ⟨c0, c1, f0, f1, mp, lt, ne⟩ := hT1'
  have hlen := ((mp.alloc (.cells #[.string ⟨#[]⟩, .string ⟨#[]⟩, .int .i64 0, .int .i64 0, .int .i64 0] 34)).alloc (.cells #[.string ⟨#[]⟩, .string ⟨#[]⟩, .int .i64 0, .int .i64 0, .int .i64 0] 34)).run_len Tryd.underlying53 3
  go_wp2_with (at_lookup; refine wpList_look_none rfl _ _ 53 true rfl 9 34 Tryd.underlying53 Tryd.underlying9 m L rfl (mp.alloc _) (.agg #[.string ⟨#[]⟩, .string ⟨#[]⟩, .int .i64 0, .int .i64 0, .int .i64 0]) (by kernel_rfl) p rfl hl ?_)
  have ho := k.old
  refine bodyPost_ret (v := .tuple #[.agg #[.string ⟨#[]⟩, .string ⟨#[]⟩, .int .i64 0, .int .i64 0, .int .i64 0], .int .i64 195]) (by simp [results, Tryd.results18, go_sem, d0, d1, d2, d3, d4, lt_k]) rfl ⟨rfl, ?_⟩
  (repeat (first | (with_reducible exact Below.refl _ _) | (with_reducible assumption) | (with_reducible refine Below.setCell ?_ ?_ _; rotate_left; focus (first | exact Nat.le_refl _ | (dsimp only; omega))) | (with_reducible refine Below.drew ?_) | (with_reducible refine below_drewN ?_ _) | (with_reducible refine Below.alloc ?_ ?_ _; rotate_left; focus (first | exact Nat.le_refl _ | (simp; done) | (simp; omega))) | (with_reducible refine Below.trans ?_ (HB.mono ?_); rotate_left; focus (first | exact Nat.le_refl _ | (simp; done) | (simp; omega)))))
set_option maxRecDepth 100000 in
set_option maxHeartbeats 400000 in
theorem acq_limit (b m : Nat) (clk : Int) (L : List (ByteArray × Value)) (p holder : ByteArray) (term : Int) (w : World) (hT : TabAt b m clk L w) (h1 : isPathB p = true) (h2 : isNameB holder = true) (h3 : isTermB term = true) (lp lh : ByteArray) (lf ls lu : Int) (hl : look L p = some (.agg #[.string lp, .string lh, .int .i64 lf, .int .i64 ls, .int .i64 lu])) (hv : hNow clk ls lu = false) (hn : 1073741824 ≤ lf) :
    Calls Tryd.prog 18 #[.pointer (some ⟨b, 0, none⟩), .string p, .string holder, .int .i64 term] w fun e w' => e = .returned (.tuple #[.agg #[.string ⟨#[]⟩, .string ⟨#[]⟩, .int .i64 0, .int .i64 0, .int .i64 0], .int .i64 195]) ∧ Below w.heap.size w w' := by
  have HT := hT.alloc (.cells #[.string ⟨#[]⟩, .string ⟨#[]⟩, .int .i64 0, .int .i64 0, .int .i64 0] 34)
  go_enter Tryd.func18, Tryd.ntmps18
  go_wp2_with fail
  refine (isPath_any _ _).mono ?_
  rintro e w1 ⟨rfl, rfl⟩
  rw [h1]
  go_wp2_with fail
  refine (isName_any _ _).mono ?_
  rintro e w1 ⟨rfl, rfl⟩
  rw [h2]
  go_wp2_with fail
  refine (isTerm_any _ _).mono ?_
  rintro e w1 ⟨rfl, rfl⟩
  rw [h3]
  go_wp2_with fail
  refine (holding_val _ HT hl hv).mono ?_
  rintro e w1 ⟨rfl, HB⟩
  have k := (Box5.new w (.string ⟨#[]⟩) (.string ⟨#[]⟩) (.int .i64 0) (.int .i64 0) (.int .i64 0) 34).below HB
  (have k' := k; obtain ⟨d0, d1, d2, d3, d4, lt_k, _, fz_k⟩ := k')
  have hT1 := HT.after HB
  have hT1' := hT1
  obtain ⟨c0, c1, f0, f1, mp, lt, ne⟩ := hT1'
  go_wp2_with (at_lookup; refine wpList_look_some rfl _ _ 53 true rfl 9 34 Tryd.underlying53 Tryd.underlying9 m L rfl (mp.alloc _) p rfl (.agg #[.string lp, .string lh, .int .i64 lf, .int .i64 ls, .int .i64 lu]) hl ?_)
  have ho := k.old
  refine bodyPost_ret (v := .tuple #[.agg #[.string ⟨#[]⟩, .string ⟨#[]⟩, .int .i64 0, .int .i64 0, .int .i64 0], .int .i64 195]) (by simp [results, Tryd.results18, go_sem, d0, d1, d2, d3, d4, lt_k]) rfl ⟨rfl, ?_⟩
  (repeat (first | (with_reducible exact Below.refl _ _) | (with_reducible assumption) | (with_reducible refine Below.setCell ?_ ?_ _; rotate_left; focus (first | exact Nat.le_refl _ | (dsimp only; omega))) | (with_reducible refine Below.drew ?_) | (with_reducible refine below_drewN ?_ _) | (with_reducible refine Below.alloc ?_ ?_ _; rotate_left; focus (first | exact Nat.le_refl _ | (simp; done) | (simp; omega))) | (with_reducible refine Below.trans ?_ (HB.mono ?_); rotate_left; focus (first | exact Nat.le_refl _ | (simp; done) | (simp; omega)))))
set_option maxRecDepth 100000 in
set_option maxHeartbeats 800000 in
theorem acq_new (b m : Nat) (clk : Int) (L : List (ByteArray × Value)) (p holder : ByteArray) (term : Int) (w : World) (hT : TabAt b m clk L w) (hc0 : 0 ≤ clk) (hc1 : clk ≤ 1099511627776) (h1 : isPathB p = true) (h2 : isNameB holder = true) (h3 : isTermB term = true) (hl : look L p = none) (hn : L.length < 64) :
    Calls Tryd.prog 18 #[.pointer (some ⟨b, 0, none⟩), .string p, .string holder, .int .i64 term] w fun e w' => e = .returned (.tuple #[.agg #[.string p, .string holder, .int .i64 1, .int .i64 clk, .int .i64 (clk + term)], .int .i64 0]) ∧ TabAt b m clk (put L p (.agg #[.string p, .string holder, .int .i64 1, .int .i64 clk, .int .i64 (clk + term)])) w' ∧ Only b m w w' := by
  have ht2 : 1 ≤ term ∧ term ≤ 1048576 := by simpa [isTermB] using h3
  obtain ⟨ht3, ht4⟩ := ht2
  have HT := hT.alloc (.cells #[.string ⟨#[]⟩, .string ⟨#[]⟩, .int .i64 0, .int .i64 0, .int .i64 0] 34)
  go_enter Tryd.func18, Tryd.ntmps18
  go_wp2_with fail
  refine (isPath_any _ _).mono ?_
  rintro e w1 ⟨rfl, rfl⟩
  rw [h1]
  go_wp2_with fail
  refine (isName_any _ _).mono ?_
  rintro e w1 ⟨rfl, rfl⟩
  rw [h2]
  go_wp2_with fail
  refine (isTerm_any _ _).mono ?_
  rintro e w1 ⟨rfl, rfl⟩
  rw [h3]
  go_wp2_with fail
  refine (holding_none b m clk L p _ HT hl).mono ?_
  rintro e w1 ⟨rfl, HB⟩
  have k := (Box5.new w (.string ⟨#[]⟩) (.string ⟨#[]⟩) (.int .i64 0) (.int .i64 0) (.int .i64 0) 34).below HB
  (have k' := k; obtain ⟨d0, d1, d2, d3, d4, lt_k, _, fz_k⟩ := k')
  have hT1 := HT.after HB
  have hT1' := hT1
  obtain ⟨c0, c1, f0, f1, mp, lt, ne⟩ := hT1'
  have hlen := ((mp.alloc (.cells #[.string ⟨#[]⟩, .string ⟨#[]⟩, .int .i64 0, .int .i64 0, .int .i64 0] 34)).alloc (.cells #[.string ⟨#[]⟩, .string ⟨#[]⟩, .int .i64 0, .int .i64 0, .int .i64 0] 34)).run_len Tryd.underlying53 3
  go_wp2_with (at_lookup; refine wpList_look_none rfl _ _ 53 true rfl 9 34 Tryd.underlying53 Tryd.underlying9 m L rfl (mp.alloc _) (.agg #[.string ⟨#[]⟩, .string ⟨#[]⟩, .int .i64 0, .int .i64 0, .int .i64 0]) (by kernel_rfl) p rfl hl ?_)
  have q0 : ∀ A B C : Obj, (((w1.alloc A).alloc B).alloc C).cell? ⟨b, 0, none⟩ = some (.int .i64 clk) := fun A B C => (((hT1.alloc A).alloc B).alloc C).c0
  have q1 : ∀ A B C : Obj, (((w1.alloc A).alloc B).alloc C).cell? ⟨b, 1, none⟩ = some (.map (some m)) := fun A B C => (((hT1.alloc A).alloc B).alloc C).c1
  go_region
  go_wp2_with fail
  (refine wp_region_tail 6 (by kernel_rfl) (by kernel_rfl) ?_; simp only [List.take_succ_cons, List.take_zero, List.drop_succ_cons, List.drop_zero]; (repeat still_step); refine wpStill_nil ?_)
  (refine wpList_put rfl _ _ _ 53 rfl 9 34 Tryd.underlying53 Tryd.underlying9 m L rfl ((((mp.alloc (.cells #[.string ⟨#[]⟩, .string ⟨#[]⟩, .int .i64 0, .int .i64 0, .int .i64 0] 34)).alloc (.cells #[.string ⟨#[]⟩, .string ⟨#[]⟩, .int .i64 0, .int .i64 0, .int .i64 0] 34)).alloc (.cells #[.string p, .string holder, .int .i64 1, .int .i64 clk, .int .i64 (clk + term)] 34)).drew.drew) (p) rfl (.agg #[.string p, .string holder, .int .i64 1, .int .i64 clk, .int .i64 (clk + term)]) rfl ?_)
  intro w2 h1 h2
  have kk := (((k.alloc (.cells #[.string ⟨#[]⟩, .string ⟨#[]⟩, .int .i64 0, .int .i64 0, .int .i64 0] 34)).alloc (.cells #[.string ⟨#[]⟩, .string ⟨#[]⟩, .int .i64 0, .int .i64 0, .int .i64 0] 34)).alloc (.cells #[.string p, .string holder, .int .i64 1, .int .i64 clk, .int .i64 (clk + term)] 34)).drew.drew
  have jj := (Box5.new2 w1 (.cells #[.string ⟨#[]⟩, .string ⟨#[]⟩, .int .i64 0, .int .i64 0, .int .i64 0] 34) (.cells #[.string ⟨#[]⟩, .string ⟨#[]⟩, .int .i64 0, .int .i64 0, .int .i64 0] 34) (.string p) (.string holder) (.int .i64 1) (.int .i64 clk) (.int .i64 (clk + term)) 34).drew.drew
  have k2 := kk.cell5.grown h2 (Nat.ne_of_gt hT.mp.lt)
  have hml := mp.lt
  have j2 := jj.cell5.grown h2 (by omega)
  clear d0 d1 d2 d3 d4 lt_k fz_k hlen
  (have k2' := k2; obtain ⟨d0, d1, d2, d3, d4, lt_k2, fz_k2⟩ := k2')
  (have j2' := j2; obtain ⟨e0, e1, e2, e3, e4, lt_j2, fz_j2⟩ := j2')
  go_wp2_with fail
  have hT2 := (((hT1.alloc (.cells #[.string ⟨#[]⟩, .string ⟨#[]⟩, .int .i64 0, .int .i64 0, .int .i64 0] 34)).alloc (.cells #[.string ⟨#[]⟩, .string ⟨#[]⟩, .int .i64 0, .int .i64 0, .int .i64 0] 34)).alloc (.cells #[.string p, .string holder, .int .i64 1, .int .i64 clk, .int .i64 (clk + term)] 34)).drew.drew.grown h2 h1
  have hO : Only b m w w2 := (((((Only.of_below k.old).alloc (.cells #[.string ⟨#[]⟩, .string ⟨#[]⟩, .int .i64 0, .int .i64 0, .int .i64 0] 34)).alloc (.cells #[.string ⟨#[]⟩, .string ⟨#[]⟩, .int .i64 0, .int .i64 0, .int .i64 0] 34)).alloc _).drew.drew).grown h2
  refine bodyPost_ret (v := .tuple #[.agg #[.string p, .string holder, .int .i64 1, .int .i64 clk, .int .i64 (clk + term)], .int .i64 0]) (by simp [results, Tryd.results18, go_sem, d0, d1, d2, d3, d4]) rfl ⟨rfl, ?_, ?_⟩
  · exact ((((hT2.far (Nat.ne_of_lt hT.lt) (Nat.ne_of_lt hT.mp.lt) _).far (Nat.ne_of_lt hT.lt) (Nat.ne_of_lt hT.mp.lt) _).far (Nat.ne_of_lt hT.lt) (Nat.ne_of_lt hT.mp.lt) _).far (Nat.ne_of_lt hT.lt) (Nat.ne_of_lt hT.mp.lt) _).far (Nat.ne_of_lt hT.lt) (Nat.ne_of_lt hT.mp.lt) _
  · exact ((((hO.far (Nat.le_refl _) _).far (Nat.le_refl _) _).far (Nat.le_refl _) _).far (Nat.le_refl _) _).far (Nat.le_refl _) _

set_option maxRecDepth 100000 in
set_option maxHeartbeats 800000 in
theorem acq_next (b m : Nat) (clk : Int) (L : List (ByteArray × Value)) (p holder : ByteArray) (term : Int) (w : World) (hT : TabAt b m clk L w) (hc0 : 0 ≤ clk) (hc1 : clk ≤ 1099511627776) (h1 : isPathB p = true) (h2 : isNameB holder = true) (h3 : isTermB term = true) (lp lh : ByteArray) (lf ls lu : Int) (hl : look L p = some (.agg #[.string lp, .string lh, .int .i64 lf, .int .i64 ls, .int .i64 lu])) (hv : hNow clk ls lu = false) (hn : lf < 1073741824) (hf0 : 0 ≤ lf) :
    Calls Tryd.prog 18 #[.pointer (some ⟨b, 0, none⟩), .string p, .string holder, .int .i64 term] w fun e w' => e = .returned (.tuple #[.agg #[.string p, .string holder, .int .i64 (lf + 1), .int .i64 clk, .int .i64 (clk + term)], .int .i64 0]) ∧ TabAt b m clk (put L p (.agg #[.string p, .string holder, .int .i64 (lf + 1), .int .i64 clk, .int .i64 (clk + term)])) w' ∧ Only b m w w' := by
  have ht2 : 1 ≤ term ∧ term ≤ 1048576 := by simpa [isTermB] using h3
  obtain ⟨ht3, ht4⟩ := ht2
  have HT := hT.alloc (.cells #[.string ⟨#[]⟩, .string ⟨#[]⟩, .int .i64 0, .int .i64 0, .int .i64 0] 34)
  go_enter Tryd.func18, Tryd.ntmps18
  go_wp2_with fail
  refine (isPath_any _ _).mono ?_
  rintro e w1 ⟨rfl, rfl⟩
  rw [h1]
  go_wp2_with fail
  refine (isName_any _ _).mono ?_
  rintro e w1 ⟨rfl, rfl⟩
  rw [h2]
  go_wp2_with fail
  refine (isTerm_any _ _).mono ?_
  rintro e w1 ⟨rfl, rfl⟩
  rw [h3]
  go_wp2_with fail
  refine (holding_val _ HT hl hv).mono ?_
  rintro e w1 ⟨rfl, HB⟩
  have k := (Box5.new w (.string ⟨#[]⟩) (.string ⟨#[]⟩) (.int .i64 0) (.int .i64 0) (.int .i64 0) 34).below HB
  (have k' := k; obtain ⟨d0, d1, d2, d3, d4, lt_k, _, fz_k⟩ := k')
  have hT1 := HT.after HB
  have hT1' := hT1
  obtain ⟨c0, c1, f0, f1, mp, lt, ne⟩ := hT1'
  have hlen := ((mp.alloc (.cells #[.string lp, .string lh, .int .i64 lf, .int .i64 ls, .int .i64 lu] 34)).alloc (.cells #[.string lp, .string lh, .int .i64 lf, .int .i64 ls, .int .i64 lu] 34)).run_len Tryd.underlying53 3
  go_wp2_with (at_lookup; refine wpList_look_some rfl _ _ 53 true rfl 9 34 Tryd.underlying53 Tryd.underlying9 m L rfl (mp.alloc _) p rfl (.agg #[.string lp, .string lh, .int .i64 lf, .int .i64 ls, .int .i64 lu]) hl ?_)
  have q0 : ∀ A B C : Obj, (((w1.alloc A).alloc B).alloc C).cell? ⟨b, 0, none⟩ = some (.int .i64 clk) := fun A B C => (((hT1.alloc A).alloc B).alloc C).c0
  have q1 : ∀ A B C : Obj, (((w1.alloc A).alloc B).alloc C).cell? ⟨b, 1, none⟩ = some (.map (some m)) := fun A B C => (((hT1.alloc A).alloc B).alloc C).c1
  go_region
  go_wp2_with fail
  (refine wp_region_tail 6 (by kernel_rfl) (by kernel_rfl) ?_; simp only [List.take_succ_cons, List.take_zero, List.drop_succ_cons, List.drop_zero]; (repeat still_step); refine wpStill_nil ?_)
  (refine wpList_put rfl _ _ _ 53 rfl 9 34 Tryd.underlying53 Tryd.underlying9 m L rfl ((((mp.alloc (.cells #[.string lp, .string lh, .int .i64 lf, .int .i64 ls, .int .i64 lu] 34)).alloc (.cells #[.string lp, .string lh, .int .i64 lf, .int .i64 ls, .int .i64 lu] 34)).alloc (.cells #[.string p, .string holder, .int .i64 (lf + 1), .int .i64 clk, .int .i64 (clk + term)] 34)).drew.drew) (p) rfl (.agg #[.string p, .string holder, .int .i64 (lf + 1), .int .i64 clk, .int .i64 (clk + term)]) rfl ?_)
  intro w2 h1 h2
  have kk := (((k.alloc (.cells #[.string lp, .string lh, .int .i64 lf, .int .i64 ls, .int .i64 lu] 34)).alloc (.cells #[.string lp, .string lh, .int .i64 lf, .int .i64 ls, .int .i64 lu] 34)).alloc (.cells #[.string p, .string holder, .int .i64 (lf + 1), .int .i64 clk, .int .i64 (clk + term)] 34)).drew.drew
  have jj := (Box5.new2 w1 (.cells #[.string lp, .string lh, .int .i64 lf, .int .i64 ls, .int .i64 lu] 34) (.cells #[.string lp, .string lh, .int .i64 lf, .int .i64 ls, .int .i64 lu] 34) (.string p) (.string holder) (.int .i64 (lf + 1)) (.int .i64 clk) (.int .i64 (clk + term)) 34).drew.drew
  have k2 := kk.cell5.grown h2 (Nat.ne_of_gt hT.mp.lt)
  have hml := mp.lt
  have j2 := jj.cell5.grown h2 (by omega)
  clear d0 d1 d2 d3 d4 lt_k fz_k hlen
  (have k2' := k2; obtain ⟨d0, d1, d2, d3, d4, lt_k2, fz_k2⟩ := k2')
  (have j2' := j2; obtain ⟨e0, e1, e2, e3, e4, lt_j2, fz_j2⟩ := j2')
  go_wp2_with fail
  have hT2 := (((hT1.alloc (.cells #[.string lp, .string lh, .int .i64 lf, .int .i64 ls, .int .i64 lu] 34)).alloc (.cells #[.string lp, .string lh, .int .i64 lf, .int .i64 ls, .int .i64 lu] 34)).alloc (.cells #[.string p, .string holder, .int .i64 (lf + 1), .int .i64 clk, .int .i64 (clk + term)] 34)).drew.drew.grown h2 h1
  have hO : Only b m w w2 := (((((Only.of_below k.old).alloc (.cells #[.string lp, .string lh, .int .i64 lf, .int .i64 ls, .int .i64 lu] 34)).alloc (.cells #[.string lp, .string lh, .int .i64 lf, .int .i64 ls, .int .i64 lu] 34)).alloc _).drew.drew).grown h2
  refine bodyPost_ret (v := .tuple #[.agg #[.string p, .string holder, .int .i64 (lf + 1), .int .i64 clk, .int .i64 (clk + term)], .int .i64 0]) (by simp [results, Tryd.results18, go_sem, d0, d1, d2, d3, d4]) rfl ⟨rfl, ?_, ?_⟩
  · exact ((((hT2.far (Nat.ne_of_lt hT.lt) (Nat.ne_of_lt hT.mp.lt) _).far (Nat.ne_of_lt hT.lt) (Nat.ne_of_lt hT.mp.lt) _).far (Nat.ne_of_lt hT.lt) (Nat.ne_of_lt hT.mp.lt) _).far (Nat.ne_of_lt hT.lt) (Nat.ne_of_lt hT.mp.lt) _).far (Nat.ne_of_lt hT.lt) (Nat.ne_of_lt hT.mp.lt) _
  · exact ((((hO.far (Nat.le_refl _) _).far (Nat.le_refl _) _).far (Nat.le_refl _) _).far (Nat.le_refl _) _).far (Nat.le_refl _) _

end Go.Proofs.YtphoodnclmplhaaDoor
