/-
  The walks of package lease, second part: held, Holds, Current, Now, Advance.
-/
import Derived.Test.YtphoodnclmplhaaDoorLease
namespace Go.Proofs.YtphoodnclmplhaaDoor
open Go.RowKit

theorem holding_val {b m : Nat} {clk : Int} {L : List (ByteArray × Value)} {p lp lh : ByteArray} {lf ls lu : Int} {v : Bool} (w : World) (hT : TabAt b m clk L w) (hl : look L p = some (.agg #[.string lp, .string lh, .int .i64 lf, .int .i64 ls, .int .i64 lu])) (hv : hNow clk ls lu = v) :
    Calls Tryd.prog 42 #[.pointer (some ⟨b, 0, none⟩), .string p] w fun e w' => e = .returned (.tuple #[.agg #[.string lp, .string lh, .int .i64 lf, .int .i64 ls, .int .i64 lu], .bool v]) ∧ Below w.heap.size w w' := by
  have := holding_some b m clk L p lp lh lf ls lu w hT hl
  rw [hv] at this
  exact this

def hldB (clk : Int) (lh : ByteArray) (lf ls lu : Int) (holder : ByteArray) (fence : Int) : Bool := hNow clk ls lu && (lh.toList == holder.toList) && (lf == fence)

set_option maxHeartbeats 400000 in
theorem held_none (b m : Nat) (clk : Int) (L : List (ByteArray × Value)) (p holder : ByteArray) (fence : Int) (w : World) (hT : TabAt b m clk L w) (hl : look L p = none) :
    Calls Tryd.prog 35 #[.pointer (some ⟨b, 0, none⟩), .string p, .string holder, .int .i64 fence] w fun e w' => e = .returned (.tuple #[.agg #[.string ⟨#[]⟩, .string ⟨#[]⟩, .int .i64 0, .int .i64 0, .int .i64 0], .bool false]) ∧ Below w.heap.size w w' := by
  have HT := hT.after ((Below.refl w.heap.size w).alloc (Nat.le_refl _) (.cells #[.string ⟨#[]⟩, .string ⟨#[]⟩, .int .i64 0, .int .i64 0, .int .i64 0] 34))
  go_enter Tryd.func35, Tryd.ntmps35
  go_wp2_with fail
  refine (holding_none b m clk L p _ HT hl).mono ?_
  rintro e w1 ⟨rfl, HB⟩
  have k := (Box5.new w (.string ⟨#[]⟩) (.string ⟨#[]⟩) (.int .i64 0) (.int .i64 0) (.int .i64 0) 34).below HB
  (have k' := k; obtain ⟨d0, d1, d2, d3, d4, lt_k, _, fz_k⟩ := k')
  go_wp2_with fail
  go_region
  go_wp2_with fail
  have ho := k.old
  refine bodyPost_ret (v := .tuple #[.agg #[.string ⟨#[]⟩, .string ⟨#[]⟩, .int .i64 0, .int .i64 0, .int .i64 0], .bool false]) (by simp [results, Tryd.results35, go_sem, d0, d1, d2, d3, d4, lt_k]) rfl ⟨rfl, ?_⟩
  (repeat (first | (with_reducible exact Below.refl _ _) | (with_reducible assumption) | (with_reducible refine Below.setCell ?_ ?_ _; rotate_left; focus (first | exact Nat.le_refl _ | (dsimp only; omega))) | (with_reducible refine Below.drew ?_) | (with_reducible refine below_drewN ?_ _) | (with_reducible refine Below.alloc ?_ ?_ _; rotate_left; focus (first | exact Nat.le_refl _ | (simp; done) | (simp; omega))) | (with_reducible refine Below.trans ?_ (HB.mono ?_); rotate_left; focus (first | exact Nat.le_refl _ | (simp; done) | (simp; omega)))))

set_option maxHeartbeats 400000 in
theorem held_n (b m : Nat) (clk : Int) (L : List (ByteArray × Value)) (p holder : ByteArray) (fence : Int) (lp lh : ByteArray) (lf ls lu : Int) (w : World) (hT : TabAt b m clk L w) (hl : look L p = some (.agg #[.string lp, .string lh, .int .i64 lf, .int .i64 ls, .int .i64 lu])) (h1 : hNow clk ls lu = false) :
    Calls Tryd.prog 35 #[.pointer (some ⟨b, 0, none⟩), .string p, .string holder, .int .i64 fence] w fun e w' => e = .returned (.tuple #[.agg #[.string lp, .string lh, .int .i64 lf, .int .i64 ls, .int .i64 lu], .bool false]) ∧ Below w.heap.size w w' := by
  have HT := hT.after ((Below.refl w.heap.size w).alloc (Nat.le_refl _) (.cells #[.string ⟨#[]⟩, .string ⟨#[]⟩, .int .i64 0, .int .i64 0, .int .i64 0] 34))
  go_enter Tryd.func35, Tryd.ntmps35
  go_wp2_with fail
  refine (holding_val _ HT hl h1).mono ?_
  rintro e w1 ⟨rfl, HB⟩
  have k := (Box5.new w (.string ⟨#[]⟩) (.string ⟨#[]⟩) (.int .i64 0) (.int .i64 0) (.int .i64 0) 34).below HB
  (have k' := k; obtain ⟨d0, d1, d2, d3, d4, lt_k, _, fz_k⟩ := k')
  go_wp2_with fail
  go_region
  go_wp2_with fail
  have ho := k.old
  refine bodyPost_ret (v := .tuple #[.agg #[.string lp, .string lh, .int .i64 lf, .int .i64 ls, .int .i64 lu], .bool false]) (by simp [results, Tryd.results35, go_sem, d0, d1, d2, d3, d4, lt_k]) rfl ⟨rfl, ?_⟩
  (repeat (first | (with_reducible exact Below.refl _ _) | (with_reducible assumption) | (with_reducible refine Below.setCell ?_ ?_ _; rotate_left; focus (first | exact Nat.le_refl _ | (dsimp only; omega))) | (with_reducible refine Below.drew ?_) | (with_reducible refine below_drewN ?_ _) | (with_reducible refine Below.alloc ?_ ?_ _; rotate_left; focus (first | exact Nat.le_refl _ | (simp; done) | (simp; omega))) | (with_reducible refine Below.trans ?_ (HB.mono ?_); rotate_left; focus (first | exact Nat.le_refl _ | (simp; done) | (simp; omega)))))

set_option maxHeartbeats 400000 in
theorem held_h (b m : Nat) (clk : Int) (L : List (ByteArray × Value)) (p holder : ByteArray) (fence : Int) (lp lh : ByteArray) (lf ls lu : Int) (w : World) (hT : TabAt b m clk L w) (hl : look L p = some (.agg #[.string lp, .string lh, .int .i64 lf, .int .i64 ls, .int .i64 lu])) (h1 : hNow clk ls lu = true) (h2 : (lh.toList == holder.toList) = false) :
    Calls Tryd.prog 35 #[.pointer (some ⟨b, 0, none⟩), .string p, .string holder, .int .i64 fence] w fun e w' => e = .returned (.tuple #[.agg #[.string lp, .string lh, .int .i64 lf, .int .i64 ls, .int .i64 lu], .bool false]) ∧ Below w.heap.size w w' := by
  have HT := hT.after ((Below.refl w.heap.size w).alloc (Nat.le_refl _) (.cells #[.string ⟨#[]⟩, .string ⟨#[]⟩, .int .i64 0, .int .i64 0, .int .i64 0] 34))
  go_enter Tryd.func35, Tryd.ntmps35
  go_wp2_with fail
  refine (holding_val _ HT hl h1).mono ?_
  rintro e w1 ⟨rfl, HB⟩
  have k := (Box5.new w (.string ⟨#[]⟩) (.string ⟨#[]⟩) (.int .i64 0) (.int .i64 0) (.int .i64 0) 34).below HB
  (have k' := k; obtain ⟨d0, d1, d2, d3, d4, lt_k, _, fz_k⟩ := k')
  go_wp2_with fail
  go_region
  go_wp2_with fail
  have ho := k.old
  refine bodyPost_ret (v := .tuple #[.agg #[.string lp, .string lh, .int .i64 lf, .int .i64 ls, .int .i64 lu], .bool false]) (by simp [results, Tryd.results35, go_sem, d0, d1, d2, d3, d4, lt_k]) rfl ⟨rfl, ?_⟩
  (repeat (first | (with_reducible exact Below.refl _ _) | (with_reducible assumption) | (with_reducible refine Below.setCell ?_ ?_ _; rotate_left; focus (first | exact Nat.le_refl _ | (dsimp only; omega))) | (with_reducible refine Below.drew ?_) | (with_reducible refine below_drewN ?_ _) | (with_reducible refine Below.alloc ?_ ?_ _; rotate_left; focus (first | exact Nat.le_refl _ | (simp; done) | (simp; omega))) | (with_reducible refine Below.trans ?_ (HB.mono ?_); rotate_left; focus (first | exact Nat.le_refl _ | (simp; done) | (simp; omega)))))

set_option maxHeartbeats 400000 in
theorem held_f (b m : Nat) (clk : Int) (L : List (ByteArray × Value)) (p holder : ByteArray) (fence : Int) (lp lh : ByteArray) (lf ls lu : Int) (w : World) (hT : TabAt b m clk L w) (hl : look L p = some (.agg #[.string lp, .string lh, .int .i64 lf, .int .i64 ls, .int .i64 lu])) (h1 : hNow clk ls lu = true) (h2 : (lh.toList == holder.toList) = true) (h3 : (lf == fence) = false) :
    Calls Tryd.prog 35 #[.pointer (some ⟨b, 0, none⟩), .string p, .string holder, .int .i64 fence] w fun e w' => e = .returned (.tuple #[.agg #[.string lp, .string lh, .int .i64 lf, .int .i64 ls, .int .i64 lu], .bool false]) ∧ Below w.heap.size w w' := by
  have HT := hT.after ((Below.refl w.heap.size w).alloc (Nat.le_refl _) (.cells #[.string ⟨#[]⟩, .string ⟨#[]⟩, .int .i64 0, .int .i64 0, .int .i64 0] 34))
  go_enter Tryd.func35, Tryd.ntmps35
  go_wp2_with fail
  refine (holding_val _ HT hl h1).mono ?_
  rintro e w1 ⟨rfl, HB⟩
  have k := (Box5.new w (.string ⟨#[]⟩) (.string ⟨#[]⟩) (.int .i64 0) (.int .i64 0) (.int .i64 0) 34).below HB
  (have k' := k; obtain ⟨d0, d1, d2, d3, d4, lt_k, _, fz_k⟩ := k')
  go_wp2_with fail
  go_region
  go_wp2_with fail
  have ho := k.old
  refine bodyPost_ret (v := .tuple #[.agg #[.string lp, .string lh, .int .i64 lf, .int .i64 ls, .int .i64 lu], .bool false]) (by simp [results, Tryd.results35, go_sem, d0, d1, d2, d3, d4, lt_k]) rfl ⟨rfl, ?_⟩
  (repeat (first | (with_reducible exact Below.refl _ _) | (with_reducible assumption) | (with_reducible refine Below.setCell ?_ ?_ _; rotate_left; focus (first | exact Nat.le_refl _ | (dsimp only; omega))) | (with_reducible refine Below.drew ?_) | (with_reducible refine below_drewN ?_ _) | (with_reducible refine Below.alloc ?_ ?_ _; rotate_left; focus (first | exact Nat.le_refl _ | (simp; done) | (simp; omega))) | (with_reducible refine Below.trans ?_ (HB.mono ?_); rotate_left; focus (first | exact Nat.le_refl _ | (simp; done) | (simp; omega)))))

set_option maxHeartbeats 400000 in
theorem held_y (b m : Nat) (clk : Int) (L : List (ByteArray × Value)) (p holder : ByteArray) (fence : Int) (lp lh : ByteArray) (lf ls lu : Int) (w : World) (hT : TabAt b m clk L w) (hl : look L p = some (.agg #[.string lp, .string lh, .int .i64 lf, .int .i64 ls, .int .i64 lu])) (h1 : hNow clk ls lu = true) (h2 : (lh.toList == holder.toList) = true) (h3 : (lf == fence) = true) :
    Calls Tryd.prog 35 #[.pointer (some ⟨b, 0, none⟩), .string p, .string holder, .int .i64 fence] w fun e w' => e = .returned (.tuple #[.agg #[.string lp, .string lh, .int .i64 lf, .int .i64 ls, .int .i64 lu], .bool true]) ∧ Below w.heap.size w w' := by
  have HT := hT.after ((Below.refl w.heap.size w).alloc (Nat.le_refl _) (.cells #[.string ⟨#[]⟩, .string ⟨#[]⟩, .int .i64 0, .int .i64 0, .int .i64 0] 34))
  go_enter Tryd.func35, Tryd.ntmps35
  go_wp2_with fail
  refine (holding_val _ HT hl h1).mono ?_
  rintro e w1 ⟨rfl, HB⟩
  have k := (Box5.new w (.string ⟨#[]⟩) (.string ⟨#[]⟩) (.int .i64 0) (.int .i64 0) (.int .i64 0) 34).below HB
  (have k' := k; obtain ⟨d0, d1, d2, d3, d4, lt_k, _, fz_k⟩ := k')
  go_wp2_with fail
  go_region
  go_wp2_with fail
  have ho := k.old
  refine bodyPost_ret (v := .tuple #[.agg #[.string lp, .string lh, .int .i64 lf, .int .i64 ls, .int .i64 lu], .bool true]) (by simp [results, Tryd.results35, go_sem, d0, d1, d2, d3, d4, lt_k]) rfl ⟨rfl, ?_⟩
  (repeat (first | (with_reducible exact Below.refl _ _) | (with_reducible assumption) | (with_reducible refine Below.setCell ?_ ?_ _; rotate_left; focus (first | exact Nat.le_refl _ | (dsimp only; omega))) | (with_reducible refine Below.drew ?_) | (with_reducible refine below_drewN ?_ _) | (with_reducible refine Below.alloc ?_ ?_ _; rotate_left; focus (first | exact Nat.le_refl _ | (simp; done) | (simp; omega))) | (with_reducible refine Below.trans ?_ (HB.mono ?_); rotate_left; focus (first | exact Nat.le_refl _ | (simp; done) | (simp; omega)))))

theorem held_some {b m : Nat} {clk : Int} {L : List (ByteArray × Value)} {p holder : ByteArray} {fence : Int} {lp lh : ByteArray} {lf ls lu : Int} {v : Bool} (w : World) (hT : TabAt b m clk L w) (hl : look L p = some (.agg #[.string lp, .string lh, .int .i64 lf, .int .i64 ls, .int .i64 lu])) (hv : hldB clk lh lf ls lu holder fence = v) :
    Calls Tryd.prog 35 #[.pointer (some ⟨b, 0, none⟩), .string p, .string holder, .int .i64 fence] w fun e w' => e = .returned (.tuple #[.agg #[.string lp, .string lh, .int .i64 lf, .int .i64 ls, .int .i64 lu], .bool v]) ∧ Below w.heap.size w w' := by
  subst hv
  cases h1 : hNow clk ls lu
  · rw [show hldB clk lh lf ls lu holder fence = false by simp [hldB, h1]]
    exact held_n b m clk L p holder fence lp lh lf ls lu w hT hl h1
  · cases h2 : (lh.toList == holder.toList)
    · rw [show hldB clk lh lf ls lu holder fence = false by simp only [hldB, h1, h2]; rfl]
      exact held_h b m clk L p holder fence lp lh lf ls lu w hT hl h1 h2
    · cases h3 : (lf == fence)
      · rw [show hldB clk lh lf ls lu holder fence = false by simp only [hldB, h1, h2, h3]; rfl]
        exact held_f b m clk L p holder fence lp lh lf ls lu w hT hl h1 h2 h3
      · rw [show hldB clk lh lf ls lu holder fence = true by simp only [hldB, h1, h2, h3]; rfl]
        exact held_y b m clk L p holder fence lp lh lf ls lu w hT hl h1 h2 h3


set_option maxHeartbeats 400000 in
theorem now_any (b m : Nat) (clk : Int) (L : List (ByteArray × Value)) (w : World) (hT : TabAt b m clk L w) :
    Calls Tryd.prog 20 #[.pointer (some ⟨b, 0, none⟩)] w fun e w' => e = .returned (.int .i64 clk) ∧ w = w' := by
  obtain ⟨c0, c1, f0, f1, mp, lt, ne⟩ := hT
  go_enter Tryd.func20, Tryd.ntmps20
  go_wp2
  go_ret
  exact ⟨rfl, rfl⟩

set_option maxHeartbeats 400000 in
theorem holds_none (b m : Nat) (clk : Int) (L : List (ByteArray × Value)) (p holder : ByteArray) (fence : Int) (w : World) (hT : TabAt b m clk L w) (hl : look L p = none) :
    Calls Tryd.prog 14 #[.pointer (some ⟨b, 0, none⟩), .string p, .string holder, .int .i64 fence] w fun e w' => e = .returned (.bool false) ∧ Below w.heap.size w w' := by
  go_enter Tryd.func14, Tryd.ntmps14
  go_wp2_with (go_at_call 35; refine (held_none b m clk L p holder fence _ hT hl).mono ?_; rintro e w' ⟨rfl, HB⟩)
  go_ret
  exact ⟨rfl, HB.alloc HB.size _⟩
set_option maxHeartbeats 400000 in
theorem holds_some {b m : Nat} {clk : Int} {L : List (ByteArray × Value)} {p holder : ByteArray} {fence : Int} {lp lh : ByteArray} {lf ls lu : Int} {v : Bool} (w : World) (hT : TabAt b m clk L w) (hl : look L p = some (.agg #[.string lp, .string lh, .int .i64 lf, .int .i64 ls, .int .i64 lu])) (hv : hldB clk lh lf ls lu holder fence = v) :
    Calls Tryd.prog 14 #[.pointer (some ⟨b, 0, none⟩), .string p, .string holder, .int .i64 fence] w fun e w' => e = .returned (.bool v) ∧ Below w.heap.size w w' := by
  go_enter Tryd.func14, Tryd.ntmps14
  go_wp2_with (go_at_call 35; refine (held_some _ hT hl hv).mono ?_; rintro e w' ⟨rfl, HB⟩)
  go_ret
  exact ⟨rfl, HB.alloc HB.size _⟩

set_option maxHeartbeats 400000 in
theorem current_none (b m : Nat) (clk : Int) (L : List (ByteArray × Value)) (p : ByteArray) (w : World) (hT : TabAt b m clk L w) (hl : look L p = none) :
    Calls Tryd.prog 12 #[.pointer (some ⟨b, 0, none⟩), .string p] w fun e w' => e = .returned (.tuple #[.agg #[.string ⟨#[]⟩, .string ⟨#[]⟩, .int .i64 0, .int .i64 0, .int .i64 0], .bool false]) ∧ Below w.heap.size w w' := by
  obtain ⟨c0, c1, f0, f1, mp, lt, ne⟩ := hT
  go_enter Tryd.func12, Tryd.ntmps12
  go_wp2_with (at_lookup; refine wpList_look_none rfl _ _ 53 true rfl 9 34 Tryd.underlying53 Tryd.underlying9 m L rfl (mp.alloc _) (.agg #[.string ⟨#[]⟩, .string ⟨#[]⟩, .int .i64 0, .int .i64 0, .int .i64 0]) (by kernel_rfl) p rfl hl ?_)
  refine bodyPost_ret (v := .tuple #[.agg #[.string ⟨#[]⟩, .string ⟨#[]⟩, .int .i64 0, .int .i64 0, .int .i64 0], .bool false]) (by simp [results, Tryd.results12, go_sem]) rfl ⟨rfl, ?_⟩
  (repeat (first | (with_reducible exact Below.refl _ _) | (with_reducible assumption) | (with_reducible refine Below.setCell ?_ ?_ _; rotate_left; focus (first | exact Nat.le_refl _ | (dsimp only; omega))) | (with_reducible refine Below.drew ?_) | (with_reducible refine below_drewN ?_ _) | (with_reducible refine Below.alloc ?_ ?_ _; rotate_left; focus (first | exact Nat.le_refl _ | (simp; done) | (simp; omega)))))
set_option maxHeartbeats 400000 in
theorem current_some (b m : Nat) (clk : Int) (L : List (ByteArray × Value)) (p lp lh : ByteArray) (lf ls lu : Int) (w : World) (hT : TabAt b m clk L w) (hl : look L p = some (.agg #[.string lp, .string lh, .int .i64 lf, .int .i64 ls, .int .i64 lu])) :
    Calls Tryd.prog 12 #[.pointer (some ⟨b, 0, none⟩), .string p] w fun e w' => e = .returned (.tuple #[.agg #[.string lp, .string lh, .int .i64 lf, .int .i64 ls, .int .i64 lu], .bool true]) ∧ Below w.heap.size w w' := by
  obtain ⟨c0, c1, f0, f1, mp, lt, ne⟩ := hT
  go_enter Tryd.func12, Tryd.ntmps12
  go_wp2_with (at_lookup; refine wpList_look_some rfl _ _ 53 true rfl 9 34 Tryd.underlying53 Tryd.underlying9 m L rfl (mp.alloc _) p rfl (.agg #[.string lp, .string lh, .int .i64 lf, .int .i64 ls, .int .i64 lu]) hl ?_)
  refine bodyPost_ret (v := .tuple #[.agg #[.string lp, .string lh, .int .i64 lf, .int .i64 ls, .int .i64 lu], .bool true]) (by simp [results, Tryd.results12, go_sem]) rfl ⟨rfl, ?_⟩
  (repeat (first | (with_reducible exact Below.refl _ _) | (with_reducible assumption) | (with_reducible refine Below.setCell ?_ ?_ _; rotate_left; focus (first | exact Nat.le_refl _ | (dsimp only; omega))) | (with_reducible refine Below.drew ?_) | (with_reducible refine below_drewN ?_ _) | (with_reducible refine Below.alloc ?_ ?_ _; rotate_left; focus (first | exact Nat.le_refl _ | (simp; done) | (simp; omega)))))

/-- Nothing that was there has turned but blocks b and m. -/
structure Only (b m : Nat) (w w' : World) : Prop where
  os : w'.os = w.os
  tape : w'.tape = w.tape
  output : w'.output = w.output
  size : w.heap.size ≤ w'.heap.size
  block : ∀ k, k < w.heap.size → k ≠ b → k ≠ m → w'.heap[k]? = w.heap[k]?
theorem Only.of_below {b m : Nat} {w w' : World} (h : Below w.heap.size w w') : Only b m w w' := ⟨h.os, h.tape, h.output, h.size, fun k hk _ _ => h.block k hk⟩
theorem Only.refl (b m : Nat) (w : World) : Only b m w w := Only.of_below (Below.refl _ _)
theorem Only.trans {b m : Nat} {w x y : World} (h : Only b m w x) (k : Only b m x y) : Only b m w y :=
  ⟨k.os.trans h.os, k.tape.trans h.tape, k.output.trans h.output, Nat.le_trans h.size k.size, fun i hi h1 h2 => (k.block i (Nat.lt_of_lt_of_le hi h.size) h1 h2).trans (h.block i hi h1 h2)⟩
theorem Only.setCell {b m : Nat} {w x : World} (h : Only b m w x) (o : Nat) (u : Value) : Only b m w (x.setCell ⟨b, o, none⟩ u) :=
  ⟨h.os, h.tape, h.output, by simpa [World.setCell] using h.size, fun i hi h1 h2 => (Below.heap_setCell x _ u i h1).trans (h.block i hi h1 h2)⟩
theorem Only.far {b m : Nat} {w x : World} (h : Only b m w x) {p : Addr} (hp : w.heap.size ≤ p.block) (u : Value) : Only b m w (x.setCell p u) :=
  ⟨h.os, h.tape, h.output, by simpa [World.setCell] using h.size, fun i hi h1 h2 => (Below.heap_setCell x _ u i (by omega)).trans (h.block i hi h1 h2)⟩
theorem Only.alloc {b m : Nat} {w x : World} (h : Only b m w x) (o : Obj) : Only b m w (x.alloc o) :=
  h.trans (Only.of_below ((Below.refl _ _).alloc (Nat.le_refl _) o))
theorem Only.drew {b m : Nat} {w x : World} (h : Only b m w x) : Only b m w x.drew := ⟨h.os, h.tape, h.output, h.size, h.block⟩
theorem Only.grown {b m : Nat} {w x y : World} (h : Only b m w x) (hg : x.grownBy y (some m)) : Only b m w y :=
  h.trans ⟨hg.os, hg.tape, hg.output, hg.size, fun i hi _ h2 => hg.block i hi (fun e => h2 (by injection e))⟩
/-- All below a bound that both blocks are not below. -/
theorem Only.below {b m B : Nat} {w x : World} (h : Only b m w x) (hB : B ≤ w.heap.size) (hb : B ≤ b) (hm : B ≤ m) : Below B w x :=
  ⟨h.os, h.tape, h.output, h.size, fun k hk => h.block k (by omega) (by omega) (by omega)⟩

set_option maxHeartbeats 400000 in
theorem advance_no (b m : Nat) (clk : Int) (L : List (ByteArray × Value)) (ticks : Int) (w : World) (hT : TabAt b m clk L w) (hc0 : 0 ≤ clk) (hc1 : clk ≤ 1099511627776) (h : ticks < 0 ∨ 1099511627776 - clk < ticks) :
    Calls Tryd.prog 28 #[.pointer (some ⟨b, 0, none⟩), .int .i64 ticks] w fun e w' => e = .returned (.int .i64 196) ∧ w = w' := by
  obtain ⟨c0, c1, f0, f1, mp, lt, ne⟩ := hT
  go_enter Tryd.func28, Tryd.ntmps28
  go_wp2
  all_goals (go_ret; exact ⟨rfl, rfl⟩)

theorem TabAt.clock {b m : Nat} {clk : Int} {L : List (ByteArray × Value)} {w : World} (h : TabAt b m clk L w) (c : Int) : TabAt b m c L (w.setCell ⟨b, 0, none⟩ (.int .i64 c)) :=
  ⟨World.cell?_setCell_same _ _ _ h.c0, (World.cell?_setCell_other _ _ _ _ (by simp)).trans h.c1, by simp [go_sem, h.f0], by simp [go_sem, h.f1], h.mp.setCell (fun e => h.ne e.symm) _, by simpa [World.setCell] using h.lt, h.ne⟩

set_option maxHeartbeats 400000 in
theorem advance_yes (b m : Nat) (clk : Int) (L : List (ByteArray × Value)) (ticks : Int) (w : World) (hT : TabAt b m clk L w) (hc0 : 0 ≤ clk) (hc1 : clk ≤ 1099511627776) (h0 : 0 ≤ ticks) (h1 : ticks ≤ 1099511627776 - clk) :
    Calls Tryd.prog 28 #[.pointer (some ⟨b, 0, none⟩), .int .i64 ticks] w fun e w' => e = .returned (.int .i64 0) ∧ TabAt b m (clk + ticks) L w' ∧ Only b m w w' := by
  have hT' := hT
  obtain ⟨c0, c1, f0, f1, mp, lt, ne⟩ := hT'
  go_enter Tryd.func28, Tryd.ntmps28
  go_wp2
  go_ret
  exact ⟨rfl, hT.clock _, (Only.refl _ _ _).setCell _ _⟩

end Go.Proofs.YtphoodnclmplhaaDoor
