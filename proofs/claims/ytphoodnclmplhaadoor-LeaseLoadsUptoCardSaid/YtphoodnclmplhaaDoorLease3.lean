/-
  The walks of package lease, third part: end, Release, Break, Renew.
-/
import Derived.Test.YtphoodnclmplhaaDoorLease2
import Derived.StillTailTactics
namespace Go.Proofs.YtphoodnclmplhaaDoor
open Go.RowKit

/-- A region that draws its order: reads first, then a tail whose order is forced. -/
theorem wp_region_tail {P : Program} {id : Nat} {Q : Exit → Act → World → Prop} {a : Act} {w : World} {l : List Oper} (n : Nat) (hm : P.follows .mixedOrders = true) (hB : Region.lexTailB .any l.toArray n = true)
    (h : wpStill P l.toArray w.drew (fun a' => wpList P l.toArray Q (l.drop n) a' w.drew) (l.take n) a) : (Code.region id l.toArray true).wp P Q a w :=
  wp_region_still_tail n hm hB h

/-- Five cells of block b. -/
structure Cell5 (b : Nat) (v0 v1 v2 v3 v4 : Value) (x : World) : Prop where
  c0 : x.cell? ⟨b, 0, none⟩ = some v0
  c1 : x.cell? ⟨b, 1, none⟩ = some v1
  c2 : x.cell? ⟨b, 2, none⟩ = some v2
  c3 : x.cell? ⟨b, 3, none⟩ = some v3
  c4 : x.cell? ⟨b, 4, none⟩ = some v4
  lt : b < x.heap.size
  fz : ∀ o, x.frozen? ⟨b, o, none⟩ = false
theorem Cell5.of_block {b : Nat} {v0 v1 v2 v3 v4 : Value} {x y : World} (h : Cell5 b v0 v1 v2 v3 v4 x) (hb : y.heap[b]? = x.heap[b]?) (hs : x.heap.size ≤ y.heap.size) : Cell5 b v0 v1 v2 v3 v4 y := by
  have hc : ∀ o, y.cell? ⟨b, o, none⟩ = x.cell? ⟨b, o, none⟩ := fun o => by simp [World.cell?, hb]
  have hf : ∀ o, y.frozen? ⟨b, o, none⟩ = x.frozen? ⟨b, o, none⟩ := fun o => by simp [World.frozen?, hb]
  exact ⟨(hc 0).trans h.c0, (hc 1).trans h.c1, (hc 2).trans h.c2, (hc 3).trans h.c3, (hc 4).trans h.c4, Nat.lt_of_lt_of_le h.lt hs, fun o => (hf o).trans (h.fz o)⟩
theorem Box5.cell5 {w : World} {b : Nat} {v0 v1 v2 v3 v4 : Value} {x : World} (h : Box5 w b v0 v1 v2 v3 v4 x) : Cell5 b v0 v1 v2 v3 v4 x := ⟨h.c0, h.c1, h.c2, h.c3, h.c4, h.lt, h.fz⟩
theorem Cell5.grown {b m : Nat} {v0 v1 v2 v3 v4 : Value} {x y : World} (h : Cell5 b v0 v1 v2 v3 v4 x) (hg : x.grownBy y (some m)) (hne : b ≠ m) : Cell5 b v0 v1 v2 v3 v4 y :=
  h.of_block (hg.block b h.lt (fun e => hne (by injection e))) hg.size
theorem Cell5.below {b : Nat} {v0 v1 v2 v3 v4 : Value} {x y : World} (h : Cell5 b v0 v1 v2 v3 v4 x) (hb : Below x.heap.size x y) : Cell5 b v0 v1 v2 v3 v4 y := h.of_block (hb.block b h.lt) hb.size
theorem Cell5.alloc {b : Nat} {v0 v1 v2 v3 v4 : Value} {x : World} (h : Cell5 b v0 v1 v2 v3 v4 x) (o : Obj) : Cell5 b v0 v1 v2 v3 v4 (x.alloc o) := h.below ((Below.refl _ _).alloc (Nat.le_refl _) o)
theorem Cell5.drew {b : Nat} {v0 v1 v2 v3 v4 : Value} {x : World} (h : Cell5 b v0 v1 v2 v3 v4 x) : Cell5 b v0 v1 v2 v3 v4 x.drew := ⟨h.c0, h.c1, h.c2, h.c3, h.c4, h.lt, h.fz⟩
theorem Cell5.only {b m c : Nat} {v0 v1 v2 v3 v4 : Value} {x y : World} (h : Cell5 c v0 v1 v2 v3 v4 x) (ho : Only b m x y) (h1 : c ≠ b) (h2 : c ≠ m) : Cell5 c v0 v1 v2 v3 v4 y := h.of_block (ho.block c h.lt h1 h2) ho.size

/-- The table when its map has been written. -/
theorem TabAt.grown {b m : Nat} {clk : Int} {L L' : List (ByteArray × Value)} {w w' : World} (h : TabAt b m clk L w) (hg : w.grownBy w' (some m)) (hm : MapIs m L' w') : TabAt b m clk L' w' := by
  have hb : w'.heap[b]? = w.heap[b]? := hg.block b h.lt (fun e => h.ne (by injection e))
  have hc : ∀ o, w'.cell? ⟨b, o, none⟩ = w.cell? ⟨b, o, none⟩ := fun o => by simp [World.cell?, hb]
  have hf : ∀ o, w'.frozen? ⟨b, o, none⟩ = w.frozen? ⟨b, o, none⟩ := fun o => by simp [World.frozen?, hb]
  exact ⟨(hc 0).trans h.c0, (hc 1).trans h.c1, (hf 0).trans h.f0, (hf 1).trans h.f1, hm, Nat.lt_of_lt_of_le h.lt hg.size, h.ne⟩
theorem TabAt.far {b m : Nat} {clk : Int} {L : List (ByteArray × Value)} {w : World} (h : TabAt b m clk L w) {p : Addr} (h1 : b ≠ p.block) (h2 : m ≠ p.block) (u : Value) : TabAt b m clk L (w.setCell p u) := by
  have hb := Below.heap_setCell w p u b h1
  have hc : ∀ o, (w.setCell p u).cell? ⟨b, o, none⟩ = w.cell? ⟨b, o, none⟩ := fun o => by simp [World.cell?, hb]
  have hf : ∀ o, (w.setCell p u).frozen? ⟨b, o, none⟩ = w.frozen? ⟨b, o, none⟩ := fun o => by simp [World.frozen?, hb]
  exact ⟨(hc 0).trans h.c0, (hc 1).trans h.c1, (hf 0).trans h.f0, (hf 1).trans h.f1, h.mp.setCell h2 u, by simpa [World.setCell] using h.lt, h.ne⟩
theorem TabAt.alloc {b m : Nat} {clk : Int} {L : List (ByteArray × Value)} {w : World} (h : TabAt b m clk L w) (o : Obj) : TabAt b m clk L (w.alloc o) := h.after ((Below.refl _ _).alloc (Nat.le_refl _) o)
theorem TabAt.drew {b m : Nat} {clk : Int} {L : List (ByteArray × Value)} {w : World} (h : TabAt b m clk L w) : TabAt b m clk L w.drew := ⟨h.c0, h.c1, h.f0, h.f1, h.mp, h.lt, h.ne⟩

set_option maxRecDepth 100000 in
set_option maxHeartbeats 400000 in
theorem end_lease (b m : Nat) (clk : Int) (L : List (ByteArray × Value)) (lp lh : ByteArray) (lf ls lu : Int) (w : World) (hT : TabAt b m clk L w) :
    Calls Tryd.prog 48 #[.pointer (some ⟨b, 0, none⟩), .agg #[.string lp, .string lh, .int .i64 lf, .int .i64 ls, .int .i64 lu]] w fun e w' => e = .returned (.tuple #[]) ∧ TabAt b m clk (put L lp (.agg #[.string lp, .string lh, .int .i64 lf, .int .i64 ls, .int .i64 clk])) w' ∧ Only b m w w' := by
  have hT' := hT
  obtain ⟨c0, c1, f0, f1, mp, lt, ne⟩ := hT'
  go_enter Tryd.func48, Tryd.ntmps48
  go_wp2
  (refine wp_region_tail 7 (by kernel_rfl) (by kernel_rfl) ?_; simp only [List.take_succ_cons, List.take_zero, List.drop_succ_cons, List.drop_zero]; (repeat still_step); refine wpStill_nil ?_)
  (refine wpList_put rfl _ _ _ 53 rfl 9 34 Tryd.underlying53 Tryd.underlying9 m L rfl ((mp.alloc _).drew) (lp) rfl (.agg #[.string lp, .string lh, .int .i64 lf, .int .i64 ls, .int .i64 clk]) rfl ?_)
  intro w' h1 h2
  go_wp2
  go_end0
  exact ⟨rfl, (hT.alloc _).drew.grown h2 h1, ((Only.refl b m w).alloc _).drew.grown h2⟩

set_option maxRecDepth 100000 in
set_option maxHeartbeats 400000 in
theorem release_none (b m : Nat) (clk : Int) (L : List (ByteArray × Value)) (p holder : ByteArray) (fence : Int) (w : World) (hT : TabAt b m clk L w) (hl : look L p = none) :
    Calls Tryd.prog 26 #[.pointer (some ⟨b, 0, none⟩), .string p, .string holder, .int .i64 fence] w fun e w' => e = .returned (.int .i64 194) ∧ Below w.heap.size w w' := by
  go_enter Tryd.func26, Tryd.ntmps26
  go_wp2_with fail
  refine (held_none b m clk L p holder fence _ hT hl).mono ?_
  rintro e w1 ⟨rfl, HB⟩
  go_wp2_with fail
  go_ret
  exact ⟨rfl, HB.alloc HB.size _⟩
set_option maxRecDepth 100000 in
set_option maxHeartbeats 400000 in
theorem release_no {b m : Nat} {clk : Int} {L : List (ByteArray × Value)} {p holder : ByteArray} {fence : Int} {lp lh : ByteArray} {lf ls lu : Int} (w : World) (hT : TabAt b m clk L w) (hl : look L p = some (.agg #[.string lp, .string lh, .int .i64 lf, .int .i64 ls, .int .i64 lu])) (hv : hldB clk lh lf ls lu holder fence = false) :
    Calls Tryd.prog 26 #[.pointer (some ⟨b, 0, none⟩), .string p, .string holder, .int .i64 fence] w fun e w' => e = .returned (.int .i64 194) ∧ Below w.heap.size w w' := by
  go_enter Tryd.func26, Tryd.ntmps26
  go_wp2_with fail
  refine (held_some _ hT hl hv).mono ?_
  rintro e w1 ⟨rfl, HB⟩
  go_wp2_with fail
  go_ret
  exact ⟨rfl, HB.alloc HB.size _⟩
set_option maxRecDepth 100000 in
set_option maxHeartbeats 400000 in
theorem release_yes {b m : Nat} {clk : Int} {L : List (ByteArray × Value)} {p holder : ByteArray} {fence : Int} {lp lh : ByteArray} {lf ls lu : Int} (w : World) (hT : TabAt b m clk L w) (hl : look L p = some (.agg #[.string lp, .string lh, .int .i64 lf, .int .i64 ls, .int .i64 lu])) (hv : hldB clk lh lf ls lu holder fence = true) :
    Calls Tryd.prog 26 #[.pointer (some ⟨b, 0, none⟩), .string p, .string holder, .int .i64 fence] w fun e w' => e = .returned (.int .i64 0) ∧ TabAt b m clk (put L lp (.agg #[.string lp, .string lh, .int .i64 lf, .int .i64 ls, .int .i64 clk])) w' ∧ Only b m w w' := by
  go_enter Tryd.func26, Tryd.ntmps26
  go_wp2_with fail
  refine (held_some _ hT hl hv).mono ?_
  rintro e w1 ⟨rfl, HB⟩
  have hT1 := (hT.after HB).alloc (.cells #[.string lp, .string lh, .int .i64 lf, .int .i64 ls, .int .i64 lu] 34)
  go_wp2_with fail
  refine (end_lease b m clk L lp lh lf ls lu _ hT1).mono ?_
  rintro e w2 ⟨rfl, hT2, hO⟩
  go_wp2_with fail
  go_ret
  exact ⟨rfl, hT2, ((Only.of_below HB).alloc _).trans hO⟩

set_option maxRecDepth 100000 in
set_option maxHeartbeats 400000 in
theorem break_none (b m : Nat) (clk : Int) (L : List (ByteArray × Value)) (p : ByteArray) (w : World) (hT : TabAt b m clk L w) (hl : look L p = none) :
    Calls Tryd.prog 27 #[.pointer (some ⟨b, 0, none⟩), .string p] w fun e w' => e = .returned (.int .i64 194) ∧ Below w.heap.size w w' := by
  go_enter Tryd.func27, Tryd.ntmps27
  go_wp2_with fail
  refine (holding_none b m clk L p _ hT hl).mono ?_
  rintro e w1 ⟨rfl, HB⟩
  go_wp2_with fail
  go_ret
  exact ⟨rfl, HB.alloc HB.size _⟩
set_option maxRecDepth 100000 in
set_option maxHeartbeats 400000 in
theorem break_no {b m : Nat} {clk : Int} {L : List (ByteArray × Value)} {p : ByteArray} {lp lh : ByteArray} {lf ls lu : Int} (w : World) (hT : TabAt b m clk L w) (hl : look L p = some (.agg #[.string lp, .string lh, .int .i64 lf, .int .i64 ls, .int .i64 lu])) (hv : hNow clk ls lu = false) :
    Calls Tryd.prog 27 #[.pointer (some ⟨b, 0, none⟩), .string p] w fun e w' => e = .returned (.int .i64 194) ∧ Below w.heap.size w w' := by
  go_enter Tryd.func27, Tryd.ntmps27
  go_wp2_with fail
  refine (holding_val _ hT hl hv).mono ?_
  rintro e w1 ⟨rfl, HB⟩
  go_wp2_with fail
  go_ret
  exact ⟨rfl, HB.alloc HB.size _⟩
set_option maxRecDepth 100000 in
set_option maxHeartbeats 400000 in
theorem break_yes {b m : Nat} {clk : Int} {L : List (ByteArray × Value)} {p : ByteArray} {lp lh : ByteArray} {lf ls lu : Int} (w : World) (hT : TabAt b m clk L w) (hl : look L p = some (.agg #[.string lp, .string lh, .int .i64 lf, .int .i64 ls, .int .i64 lu])) (hv : hNow clk ls lu = true) :
    Calls Tryd.prog 27 #[.pointer (some ⟨b, 0, none⟩), .string p] w fun e w' => e = .returned (.int .i64 0) ∧ TabAt b m clk (put L lp (.agg #[.string lp, .string lh, .int .i64 lf, .int .i64 ls, .int .i64 clk])) w' ∧ Only b m w w' := by
  go_enter Tryd.func27, Tryd.ntmps27
  go_wp2_with fail
  refine (holding_val _ hT hl hv).mono ?_
  rintro e w1 ⟨rfl, HB⟩
  have hT1 := (hT.after HB).alloc (.cells #[.string lp, .string lh, .int .i64 lf, .int .i64 ls, .int .i64 lu] 34)
  go_wp2_with fail
  refine (end_lease b m clk L lp lh lf ls lu _ hT1).mono ?_
  rintro e w2 ⟨rfl, hT2, hO⟩
  go_wp2_with fail
  go_ret
  exact ⟨rfl, hT2, ((Only.of_below HB).alloc _).trans hO⟩

set_option maxRecDepth 100000 in
set_option maxHeartbeats 400000 in
theorem renew_term (b : Nat) (p holder : ByteArray) (fence term : Int) (w : World) (ht : isTermB term = false) :
    Calls Tryd.prog 25 #[.pointer (some ⟨b, 0, none⟩), .string p, .string holder, .int .i64 fence, .int .i64 term] w fun e w' => e = .returned (.tuple #[.agg #[.string ⟨#[]⟩, .string ⟨#[]⟩, .int .i64 0, .int .i64 0, .int .i64 0], .int .i64 192]) ∧ Below w.heap.size w w' := by
  go_enter Tryd.func25, Tryd.ntmps25
  go_wp2_with fail
  refine (isTerm_any _ _).mono ?_
  rintro e w1 ⟨rfl, rfl⟩
  rw [ht]
  go_wp2_with fail
  refine bodyPost_ret (v := .tuple #[.agg #[.string ⟨#[]⟩, .string ⟨#[]⟩, .int .i64 0, .int .i64 0, .int .i64 0], .int .i64 192]) (by simp [results, Tryd.results25, go_sem]) rfl ⟨rfl, ?_⟩
  (repeat (first | (with_reducible exact Below.refl _ _) | (with_reducible assumption) | (with_reducible refine Below.setCell ?_ ?_ _; rotate_left; focus (first | exact Nat.le_refl _ | (dsimp only; omega))) | (with_reducible refine Below.drew ?_) | (with_reducible refine below_drewN ?_ _) | (with_reducible refine Below.alloc ?_ ?_ _; rotate_left; focus (first | exact Nat.le_refl _ | (simp; done) | (simp; omega)))))
set_option maxRecDepth 100000 in
set_option maxHeartbeats 400000 in
theorem renew_none (b m : Nat) (clk : Int) (L : List (ByteArray × Value)) (p holder : ByteArray) (fence term : Int) (w : World) (hT : TabAt b m clk L w) (ht : isTermB term = true) (hl : look L p = none) :
    Calls Tryd.prog 25 #[.pointer (some ⟨b, 0, none⟩), .string p, .string holder, .int .i64 fence, .int .i64 term] w fun e w' => e = .returned (.tuple #[.agg #[.string ⟨#[]⟩, .string ⟨#[]⟩, .int .i64 0, .int .i64 0, .int .i64 0], .int .i64 194]) ∧ Below w.heap.size w w' := by
  have HT := hT.alloc (.cells #[.string ⟨#[]⟩, .string ⟨#[]⟩, .int .i64 0, .int .i64 0, .int .i64 0] 34)
  go_enter Tryd.func25, Tryd.ntmps25
  go_wp2_with fail
  refine (isTerm_any _ _).mono ?_
  rintro e w1 ⟨rfl, rfl⟩
  rw [ht]
  go_wp2_with fail
  refine (held_none b m clk L p holder fence _ HT hl).mono ?_
  rintro e w1 ⟨rfl, HB⟩
  have k := (Box5.new w (.string ⟨#[]⟩) (.string ⟨#[]⟩) (.int .i64 0) (.int .i64 0) (.int .i64 0) 34).below HB
  (have k' := k; obtain ⟨d0, d1, d2, d3, d4, lt_k, _, fz_k⟩ := k')
  go_wp2_with fail
  have ho := k.old
  refine bodyPost_ret (v := .tuple #[.agg #[.string ⟨#[]⟩, .string ⟨#[]⟩, .int .i64 0, .int .i64 0, .int .i64 0], .int .i64 194]) (by simp [results, Tryd.results25, go_sem, d0, d1, d2, d3, d4, lt_k]) rfl ⟨rfl, ?_⟩
  (repeat (first | (with_reducible exact Below.refl _ _) | (with_reducible assumption) | (with_reducible refine Below.setCell ?_ ?_ _; rotate_left; focus (first | exact Nat.le_refl _ | (dsimp only; omega))) | (with_reducible refine Below.drew ?_) | (with_reducible refine below_drewN ?_ _) | (with_reducible refine Below.alloc ?_ ?_ _; rotate_left; focus (first | exact Nat.le_refl _ | (simp; done) | (simp; omega))) | (with_reducible refine Below.trans ?_ (HB.mono ?_); rotate_left; focus (first | exact Nat.le_refl _ | (simp; done) | (simp; omega)))))
set_option maxRecDepth 100000 in
set_option maxHeartbeats 400000 in
theorem renew_no (b m : Nat) (clk : Int) (L : List (ByteArray × Value)) (p holder : ByteArray) (fence term : Int) (w : World) (hT : TabAt b m clk L w) (ht : isTermB term = true) (lp lh : ByteArray) (lf ls lu : Int) (hl : look L p = some (.agg #[.string lp, .string lh, .int .i64 lf, .int .i64 ls, .int .i64 lu])) (hv : hldB clk lh lf ls lu holder fence = false) :
    Calls Tryd.prog 25 #[.pointer (some ⟨b, 0, none⟩), .string p, .string holder, .int .i64 fence, .int .i64 term] w fun e w' => e = .returned (.tuple #[.agg #[.string ⟨#[]⟩, .string ⟨#[]⟩, .int .i64 0, .int .i64 0, .int .i64 0], .int .i64 194]) ∧ Below w.heap.size w w' := by
  have HT := hT.alloc (.cells #[.string ⟨#[]⟩, .string ⟨#[]⟩, .int .i64 0, .int .i64 0, .int .i64 0] 34)
  go_enter Tryd.func25, Tryd.ntmps25
  go_wp2_with fail
  refine (isTerm_any _ _).mono ?_
  rintro e w1 ⟨rfl, rfl⟩
  rw [ht]
  go_wp2_with fail
  refine (held_some _ HT hl hv).mono ?_
  rintro e w1 ⟨rfl, HB⟩
  have k := (Box5.new w (.string ⟨#[]⟩) (.string ⟨#[]⟩) (.int .i64 0) (.int .i64 0) (.int .i64 0) 34).below HB
  (have k' := k; obtain ⟨d0, d1, d2, d3, d4, lt_k, _, fz_k⟩ := k')
  go_wp2_with fail
  have ho := k.old
  refine bodyPost_ret (v := .tuple #[.agg #[.string ⟨#[]⟩, .string ⟨#[]⟩, .int .i64 0, .int .i64 0, .int .i64 0], .int .i64 194]) (by simp [results, Tryd.results25, go_sem, d0, d1, d2, d3, d4, lt_k]) rfl ⟨rfl, ?_⟩
  (repeat (first | (with_reducible exact Below.refl _ _) | (with_reducible assumption) | (with_reducible refine Below.setCell ?_ ?_ _; rotate_left; focus (first | exact Nat.le_refl _ | (dsimp only; omega))) | (with_reducible refine Below.drew ?_) | (with_reducible refine below_drewN ?_ _) | (with_reducible refine Below.alloc ?_ ?_ _; rotate_left; focus (first | exact Nat.le_refl _ | (simp; done) | (simp; omega))) | (with_reducible refine Below.trans ?_ (HB.mono ?_); rotate_left; focus (first | exact Nat.le_refl _ | (simp; done) | (simp; omega)))))
set_option maxRecDepth 100000 in
set_option maxHeartbeats 800000 in
theorem renew_a (b m : Nat) (clk : Int) (L : List (ByteArray × Value)) (p holder : ByteArray) (fence term : Int) (w : World) (hT : TabAt b m clk L w) (ht : isTermB term = true) (hc0 : 0 ≤ clk) (hc1 : clk ≤ 1099511627776)
    (lp lh : ByteArray) (lf ls lu : Int) (hl : look L p = some (.agg #[.string lp, .string lh, .int .i64 lf, .int .i64 ls, .int .i64 lu])) (hv : hldB clk lh lf ls lu holder fence = true) (hm : lu < clk + term) :
    Calls Tryd.prog 25 #[.pointer (some ⟨b, 0, none⟩), .string p, .string holder, .int .i64 fence, .int .i64 term] w fun e w' => e = .returned (.tuple #[.agg #[.string lp, .string lh, .int .i64 lf, .int .i64 ls, .int .i64 (clk + term)], .int .i64 0]) ∧ TabAt b m clk (put L p (.agg #[.string lp, .string lh, .int .i64 lf, .int .i64 ls, .int .i64 (clk + term)])) w' ∧ Only b m w w' := by
  have ht2 : 1 ≤ term ∧ term ≤ 1048576 := by simpa [isTermB] using ht
  obtain ⟨ht3, ht4⟩ := ht2
  have HT := hT.alloc (.cells #[.string ⟨#[]⟩, .string ⟨#[]⟩, .int .i64 0, .int .i64 0, .int .i64 0] 34)
  go_enter Tryd.func25, Tryd.ntmps25
  go_wp2_with fail
  refine (isTerm_any _ _).mono ?_
  rintro e w1 ⟨rfl, rfl⟩
  rw [ht]
  go_wp2_with fail
  refine (held_some _ HT hl hv).mono ?_
  rintro e w1 ⟨rfl, HB⟩
  have k := (Box5.new w (.string ⟨#[]⟩) (.string ⟨#[]⟩) (.int .i64 0) (.int .i64 0) (.int .i64 0) 34).below HB
  (have k' := k; obtain ⟨d0, d1, d2, d3, d4, lt_k, _, fz_k⟩ := k')
  have hT1 := HT.after HB
  have hT1' := hT1
  obtain ⟨c0, c1, f0, f1, mp, lt, ne⟩ := hT1'
  go_wp2_with fail
  go_region
  go_wp2_with fail
  (refine wp_region_tail 6 (by kernel_rfl) (by kernel_rfl) ?_; simp only [List.take_succ_cons, List.take_zero, List.drop_succ_cons, List.drop_zero]; (repeat still_step); refine wpStill_nil ?_)
  (refine wpList_put rfl _ _ _ 53 rfl 9 34 Tryd.underlying53 Tryd.underlying9 m L rfl ((mp.alloc (.cells #[.string lp, .string lh, .int .i64 lf, .int .i64 ls, .int .i64 (clk + term)] 34)).drew.drew) (p) rfl (.agg #[.string lp, .string lh, .int .i64 lf, .int .i64 ls, .int .i64 (clk + term)]) rfl ?_)
  intro w2 h1 h2
  have kk := (k.alloc (.cells #[.string lp, .string lh, .int .i64 lf, .int .i64 ls, .int .i64 (clk + term)] 34)).drew.drew
  have jj := (Box5.new w1 (.string lp) (.string lh) (.int .i64 lf) (.int .i64 ls) (.int .i64 (clk + term)) 34).drew.drew
  have k2 := kk.cell5.grown h2 (Nat.ne_of_gt hT.mp.lt)
  have j2 := jj.cell5.grown h2 (Nat.ne_of_gt mp.lt)
  clear d0 d1 d2 d3 d4 lt_k fz_k
  (have k2' := k2; obtain ⟨d0, d1, d2, d3, d4, lt_k2, fz_k2⟩ := k2')
  (have j2' := j2; obtain ⟨e0, e1, e2, e3, e4, lt_j2, fz_j2⟩ := j2')
  go_wp2_with fail
  have hT2 := (hT1.alloc (.cells #[.string lp, .string lh, .int .i64 lf, .int .i64 ls, .int .i64 (clk + term)] 34)).drew.drew.grown h2 h1
  have hO : Only b m w w2 := (((Only.of_below k.old).alloc _).drew.drew).grown h2
  refine bodyPost_ret (v := .tuple #[.agg #[.string lp, .string lh, .int .i64 lf, .int .i64 ls, .int .i64 (clk + term)], .int .i64 0]) (by simp [results, Tryd.results25, go_sem, d0, d1, d2, d3, d4]) rfl ⟨rfl, ?_, ?_⟩
  · exact ((((hT2.far (Nat.ne_of_lt hT.lt) (Nat.ne_of_lt hT.mp.lt) _).far (Nat.ne_of_lt hT.lt) (Nat.ne_of_lt hT.mp.lt) _).far (Nat.ne_of_lt hT.lt) (Nat.ne_of_lt hT.mp.lt) _).far (Nat.ne_of_lt hT.lt) (Nat.ne_of_lt hT.mp.lt) _).far (Nat.ne_of_lt hT.lt) (Nat.ne_of_lt hT.mp.lt) _
  · exact ((((hO.far (Nat.le_refl _) _).far (Nat.le_refl _) _).far (Nat.le_refl _) _).far (Nat.le_refl _) _).far (Nat.le_refl _) _

set_option maxRecDepth 100000 in
set_option maxHeartbeats 800000 in
theorem renew_b (b m : Nat) (clk : Int) (L : List (ByteArray × Value)) (p holder : ByteArray) (fence term : Int) (w : World) (hT : TabAt b m clk L w) (ht : isTermB term = true) (hc0 : 0 ≤ clk) (hc1 : clk ≤ 1099511627776)
    (lp lh : ByteArray) (lf ls lu : Int) (hl : look L p = some (.agg #[.string lp, .string lh, .int .i64 lf, .int .i64 ls, .int .i64 lu])) (hv : hldB clk lh lf ls lu holder fence = true) (hm : clk + term ≤ lu) :
    Calls Tryd.prog 25 #[.pointer (some ⟨b, 0, none⟩), .string p, .string holder, .int .i64 fence, .int .i64 term] w fun e w' => e = .returned (.tuple #[.agg #[.string lp, .string lh, .int .i64 lf, .int .i64 ls, .int .i64 lu], .int .i64 0]) ∧ TabAt b m clk (put L p (.agg #[.string lp, .string lh, .int .i64 lf, .int .i64 ls, .int .i64 lu])) w' ∧ Only b m w w' := by
  have ht2 : 1 ≤ term ∧ term ≤ 1048576 := by simpa [isTermB] using ht
  obtain ⟨ht3, ht4⟩ := ht2
  have HT := hT.alloc (.cells #[.string ⟨#[]⟩, .string ⟨#[]⟩, .int .i64 0, .int .i64 0, .int .i64 0] 34)
  go_enter Tryd.func25, Tryd.ntmps25
  go_wp2_with fail
  refine (isTerm_any _ _).mono ?_
  rintro e w1 ⟨rfl, rfl⟩
  rw [ht]
  go_wp2_with fail
  refine (held_some _ HT hl hv).mono ?_
  rintro e w1 ⟨rfl, HB⟩
  have k := (Box5.new w (.string ⟨#[]⟩) (.string ⟨#[]⟩) (.int .i64 0) (.int .i64 0) (.int .i64 0) 34).below HB
  (have k' := k; obtain ⟨d0, d1, d2, d3, d4, lt_k, _, fz_k⟩ := k')
  have hT1 := HT.after HB
  have hT1' := hT1
  obtain ⟨c0, c1, f0, f1, mp, lt, ne⟩ := hT1'
  go_wp2_with fail
  go_region
  go_wp2_with fail
  (refine wp_region_tail 6 (by kernel_rfl) (by kernel_rfl) ?_; simp only [List.take_succ_cons, List.take_zero, List.drop_succ_cons, List.drop_zero]; (repeat still_step); refine wpStill_nil ?_)
  (refine wpList_put rfl _ _ _ 53 rfl 9 34 Tryd.underlying53 Tryd.underlying9 m L rfl ((mp.alloc (.cells #[.string lp, .string lh, .int .i64 lf, .int .i64 ls, .int .i64 lu] 34)).drew.drew) (p) rfl (.agg #[.string lp, .string lh, .int .i64 lf, .int .i64 ls, .int .i64 lu]) rfl ?_)
  intro w2 h1 h2
  have kk := (k.alloc (.cells #[.string lp, .string lh, .int .i64 lf, .int .i64 ls, .int .i64 lu] 34)).drew.drew
  have jj := (Box5.new w1 (.string lp) (.string lh) (.int .i64 lf) (.int .i64 ls) (.int .i64 lu) 34).drew.drew
  have k2 := kk.cell5.grown h2 (Nat.ne_of_gt hT.mp.lt)
  have j2 := jj.cell5.grown h2 (Nat.ne_of_gt mp.lt)
  clear d0 d1 d2 d3 d4 lt_k fz_k
  (have k2' := k2; obtain ⟨d0, d1, d2, d3, d4, lt_k2, fz_k2⟩ := k2')
  (have j2' := j2; obtain ⟨e0, e1, e2, e3, e4, lt_j2, fz_j2⟩ := j2')
  go_wp2_with fail
  have hT2 := (hT1.alloc (.cells #[.string lp, .string lh, .int .i64 lf, .int .i64 ls, .int .i64 lu] 34)).drew.drew.grown h2 h1
  have hO : Only b m w w2 := (((Only.of_below k.old).alloc _).drew.drew).grown h2
  refine bodyPost_ret (v := .tuple #[.agg #[.string lp, .string lh, .int .i64 lf, .int .i64 ls, .int .i64 lu], .int .i64 0]) (by simp [results, Tryd.results25, go_sem, d0, d1, d2, d3, d4]) rfl ⟨rfl, ?_, ?_⟩
  · exact ((((hT2.far (Nat.ne_of_lt hT.lt) (Nat.ne_of_lt hT.mp.lt) _).far (Nat.ne_of_lt hT.lt) (Nat.ne_of_lt hT.mp.lt) _).far (Nat.ne_of_lt hT.lt) (Nat.ne_of_lt hT.mp.lt) _).far (Nat.ne_of_lt hT.lt) (Nat.ne_of_lt hT.mp.lt) _).far (Nat.ne_of_lt hT.lt) (Nat.ne_of_lt hT.mp.lt) _
  · exact ((((hO.far (Nat.le_refl _) _).far (Nat.le_refl _) _).far (Nat.le_refl _) _).far (Nat.le_refl _) _).far (Nat.le_refl _) _

theorem renew_yes (b m : Nat) (clk : Int) (L : List (ByteArray × Value)) (p holder : ByteArray) (fence term : Int) (w : World) (hT : TabAt b m clk L w) (ht : isTermB term = true) (hc0 : 0 ≤ clk) (hc1 : clk ≤ 1099511627776)
    (lp lh : ByteArray) (lf ls lu : Int) (hl : look L p = some (.agg #[.string lp, .string lh, .int .i64 lf, .int .i64 ls, .int .i64 lu])) (hv : hldB clk lh lf ls lu holder fence = true) :
    Calls Tryd.prog 25 #[.pointer (some ⟨b, 0, none⟩), .string p, .string holder, .int .i64 fence, .int .i64 term] w fun e w' => e = .returned (.tuple #[.agg #[.string lp, .string lh, .int .i64 lf, .int .i64 ls, .int .i64 (max lu (clk + term))], .int .i64 0]) ∧ TabAt b m clk (put L p (.agg #[.string lp, .string lh, .int .i64 lf, .int .i64 ls, .int .i64 (max lu (clk + term))])) w' ∧ Only b m w w' := by
  by_cases h : lu < clk + term
  · rw [show max lu (clk + term) = clk + term by omega]
    exact renew_a b m clk L p holder fence term w hT ht hc0 hc1 lp lh lf ls lu hl hv h
  · rw [show max lu (clk + term) = lu by omega]
    exact renew_b b m clk L p holder fence term w hT ht hc0 hc1 lp lh lf ls lu hl hv (by omega)

end Go.Proofs.YtphoodnclmplhaaDoor
