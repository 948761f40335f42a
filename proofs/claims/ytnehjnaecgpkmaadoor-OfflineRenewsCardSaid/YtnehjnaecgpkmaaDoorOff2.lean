/-
  The walks of package offline, second part: end, Renewed; and the sanity check of the laws.
-/
import Derived.Test.YtnehjnaecgpkmaaDoorOff
namespace Go.Proofs.YtnehjnaecgpkmaaDoor
open Go.RowKit

def endI (c : Claim) : Int := c.sent + spanI c
theorem span_bd {c : Claim} (hs : soundB c = true) : 0 ≤ spanI c ∧ spanI c ≤ 1048576 ∧ 0 ≤ c.sent ∧ c.sent ≤ 1099511627776 := by
  obtain ⟨p, f, s, t, d⟩ := c
  obtain ⟨_, _, hs0, hs1, ht0, ht1, hd0, hd1⟩ := sound_parts hs
  have hk := (ticks_spec t d hd0).1
  simp only [spanI]
  omega

set_option maxHeartbeats 400000 in
theorem end_any (p : ByteArray) (f s t d : Int) (w : World) (hs : soundB ⟨p, f, s, t, d⟩ = true) :
    Calls Tryd.prog 39 #[.agg #[.string p, .int .i64 f, .int .i64 s, .int .i64 t, .int .i64 d]] w fun e w' => e = .returned (.int .i64 (endI ⟨p, f, s, t, d⟩)) ∧ Below w.heap.size w w' := by
  have hS := (Box5.new w (.string p) (.int .i64 f) (.int .i64 s) (.int .i64 t) (.int .i64 d) 23).drew
  obtain ⟨h0, h1, h2, h3⟩ := span_bd hs
  dsimp only at h2 h3
  go_enter Tryd.func39, Tryd.ntmps39
  go_wp2_with fail
  (refine wp_region_s (S := Box5 w w.heap.size (.string p) (.int .i64 f) (.int .i64 s) (.int .i64 t) (.int .i64 d)) (by kernel_rfl) (by kernel_rfl) hS ?_; have hN : Nonempty (Held (Box5 w w.heap.size (.string p) (.int .i64 f) (.int .i64 s) (.int .i64 t) (.int .i64 d))) := ⟨⟨_, hS⟩⟩; have r0 := fun y : Held (Box5 w w.heap.size (.string p) (.int .i64 f) (.int .i64 s) (.int .i64 t) (.int .i64 d)) => y.ok.c0; have r1 := fun y : Held (Box5 w w.heap.size (.string p) (.int .i64 f) (.int .i64 s) (.int .i64 t) (.int .i64 d)) => y.ok.c1; have r2 := fun y : Held (Box5 w w.heap.size (.string p) (.int .i64 f) (.int .i64 s) (.int .i64 t) (.int .i64 d)) => y.ok.c2; have r3 := fun y : Held (Box5 w w.heap.size (.string p) (.int .i64 f) (.int .i64 s) (.int .i64 t) (.int .i64 d)) => y.ok.c3; have r4 := fun y : Held (Box5 w w.heap.size (.string p) (.int .i64 f) (.int .i64 s) (.int .i64 t) (.int .i64 d)) => y.ok.c4; (repeat (go_big_quiet_step ((go_at_call 37; exact held_below (fun _ _ h h' => h.below h') (span_any p f s t d _ hs))))); refine wpQuiet_nil ?_; rintro _ ⟨⟨x, hx⟩, rfl⟩; clear hN r0 r1 r2 r3 r4)
  go_wp2_with fail
  go_ret
  exact ⟨rfl, hx.old⟩

/-- The three boxes of 'Renewed'. -/
structure Ren (w : World) (p : ByteArray) (f s t d sent term : Int) (x : World) : Prop where
  c : Box5 w w.heap.size (.string p) (.int .i64 f) (.int .i64 s) (.int .i64 t) (.int .i64 d) x
  r : Box5 w (w.heap.size + 1) (.string ⟨#[]⟩) (.int .i64 0) (.int .i64 0) (.int .i64 0) (.int .i64 0) x
  l : Box5 w (w.heap.size + 1 + 1) (.string p) (.int .i64 f) (.int .i64 sent) (.int .i64 term) (.int .i64 d) x
theorem Ren.below {w : World} {p : ByteArray} {f s t d sent term : Int} {x y : World} (h : Ren w p f s t d sent term x) (hb : Below x.heap.size x y) : Ren w p f s t d sent term y := ⟨h.c.below hb, h.r.below hb, h.l.below hb⟩
theorem Ren.new (w : World) (p : ByteArray) (f s t d sent term : Int) : Ren w p f s t d sent term (((w.alloc (.cells #[.string p, .int .i64 f, .int .i64 s, .int .i64 t, .int .i64 d] 23)).alloc (.cells #[.string ⟨#[]⟩, .int .i64 0, .int .i64 0, .int .i64 0, .int .i64 0] 23)).alloc (.cells #[.string p, .int .i64 f, .int .i64 sent, .int .i64 term, .int .i64 d] 23)) :=
  ⟨((Box5.new _ _ _ _ _ _ _).alloc _).alloc _, (Box5.new1 _ _ _ _ _ _ _ _).alloc _, Box5.new2 _ _ _ _ _ _ _ _ _⟩

set_option maxHeartbeats 400000 in
theorem renewed_no1 (p : ByteArray) (f s t d sent term : Int) (w : World) (hb : soundB ⟨p, f, s, t, d⟩ = false) :
    Calls Tryd.prog 15 #[.agg #[.string p, .int .i64 f, .int .i64 s, .int .i64 t, .int .i64 d], .int .i64 sent, .int .i64 term] w fun e w' => e = .returned (.tuple #[.agg #[.string ⟨#[]⟩, .int .i64 0, .int .i64 0, .int .i64 0, .int .i64 0], .int .i64 200]) ∧ Below w.heap.size w w' := by
  go_enter Tryd.func15, Tryd.ntmps15
  go_wp2_with fail
  (refine (sound_is _ hb).mono ?_; rintro e w1 ⟨rfl, HB⟩; obtain ⟨hc, hf⟩ := bcell HB)
  go_wp2_with fail
  have k := ((Box5.new1 w (.cells #[.string p, .int .i64 f, .int .i64 s, .int .i64 t, .int .i64 d] 23) (.string ⟨#[]⟩) (.int .i64 0) (.int .i64 0) (.int .i64 0) (.int .i64 0) 23).alloc _).below HB
  have ho := k.old
  refine bodyPost_ret (v := .tuple #[.agg #[.string ⟨#[]⟩, .int .i64 0, .int .i64 0, .int .i64 0, .int .i64 0], .int .i64 200]) (by simp [results, Tryd.results15, go_sem, k.c0, k.c1, k.c2, k.c3, k.c4]) rfl ⟨rfl, ?_⟩
  (repeat (first | (with_reducible exact Below.refl _ _) | (with_reducible assumption) | (with_reducible refine Below.setCell ?_ ?_ _; rotate_left; focus (first | exact Nat.le_refl _ | (dsimp only; omega))) | (with_reducible refine Below.drew ?_) | (with_reducible refine below_drewN ?_ _) | (with_reducible refine Below.alloc ?_ ?_ _; rotate_left; focus (first | exact Nat.le_refl _ | (simp; done) | (simp; omega))) | (with_reducible refine Below.trans ?_ (HB.mono ?_); rotate_left; focus (first | exact Nat.le_refl _ | (simp; done) | (simp; omega)))))

set_option maxHeartbeats 400000 in
theorem renewed_no2 (p : ByteArray) (f s t d sent term : Int) (w : World) (hb : soundB ⟨p, f, s, t, d⟩ = true) (hlt : sent < s) :
    Calls Tryd.prog 15 #[.agg #[.string p, .int .i64 f, .int .i64 s, .int .i64 t, .int .i64 d], .int .i64 sent, .int .i64 term] w fun e w' => e = .returned (.tuple #[.agg #[.string ⟨#[]⟩, .int .i64 0, .int .i64 0, .int .i64 0, .int .i64 0], .int .i64 200]) ∧ Below w.heap.size w w' := by
  go_enter Tryd.func15, Tryd.ntmps15
  go_wp2_with fail
  (refine (sound_is _ hb).mono ?_; rintro e w1 ⟨rfl, HB⟩; obtain ⟨hc, hf⟩ := bcell HB)
  go_wp2_with fail
  have k := ((Box5.new1 w (.cells #[.string p, .int .i64 f, .int .i64 s, .int .i64 t, .int .i64 d] 23) (.string ⟨#[]⟩) (.int .i64 0) (.int .i64 0) (.int .i64 0) (.int .i64 0) 23).alloc _).below HB
  have ho := k.old
  refine bodyPost_ret (v := .tuple #[.agg #[.string ⟨#[]⟩, .int .i64 0, .int .i64 0, .int .i64 0, .int .i64 0], .int .i64 200]) (by simp [results, Tryd.results15, go_sem, k.c0, k.c1, k.c2, k.c3, k.c4]) rfl ⟨rfl, ?_⟩
  (repeat (first | (with_reducible exact Below.refl _ _) | (with_reducible assumption) | (with_reducible refine Below.setCell ?_ ?_ _; rotate_left; focus (first | exact Nat.le_refl _ | (dsimp only; omega))) | (with_reducible refine Below.drew ?_) | (with_reducible refine below_drewN ?_ _) | (with_reducible refine Below.alloc ?_ ?_ _; rotate_left; focus (first | exact Nat.le_refl _ | (simp; done) | (simp; omega))) | (with_reducible refine Below.trans ?_ (HB.mono ?_); rotate_left; focus (first | exact Nat.le_refl _ | (simp; done) | (simp; omega)))))

set_option maxHeartbeats 400000 in
theorem renewed_no3 (p : ByteArray) (f s t d sent term : Int) (w : World) (hb : soundB ⟨p, f, s, t, d⟩ = true) (hlt : s ≤ sent) (hb2 : soundB ⟨p, f, sent, term, d⟩ = false) :
    Calls Tryd.prog 15 #[.agg #[.string p, .int .i64 f, .int .i64 s, .int .i64 t, .int .i64 d], .int .i64 sent, .int .i64 term] w fun e w' => e = .returned (.tuple #[.agg #[.string ⟨#[]⟩, .int .i64 0, .int .i64 0, .int .i64 0, .int .i64 0], .int .i64 200]) ∧ Below w.heap.size w w' := by
  go_enter Tryd.func15, Tryd.ntmps15
  go_wp2_with fail
  (refine (sound_is _ hb).mono ?_; rintro e w1 ⟨rfl, HB⟩; obtain ⟨hc, hf⟩ := bcell HB)
  go_wp2_with fail
  (refine (sound_is _ hb2).mono ?_; rintro e w2 ⟨rfl, HB2⟩; have HC := HB.trans (HB2.mono HB.size); clear hc hf; obtain ⟨hc, hf⟩ := bcell HC)
  go_wp2_with fail
  have k := ((Box5.new1 w (.cells #[.string p, .int .i64 f, .int .i64 s, .int .i64 t, .int .i64 d] 23) (.string ⟨#[]⟩) (.int .i64 0) (.int .i64 0) (.int .i64 0) (.int .i64 0) 23).alloc _).below HC
  have ho := k.old
  refine bodyPost_ret (v := .tuple #[.agg #[.string ⟨#[]⟩, .int .i64 0, .int .i64 0, .int .i64 0, .int .i64 0], .int .i64 200]) (by simp [results, Tryd.results15, go_sem, k.c0, k.c1, k.c2, k.c3, k.c4]) rfl ⟨rfl, ?_⟩
  (repeat (first | (with_reducible exact Below.refl _ _) | (with_reducible assumption) | (with_reducible refine Below.setCell ?_ ?_ _; rotate_left; focus (first | exact Nat.le_refl _ | (dsimp only; omega))) | (with_reducible refine Below.drew ?_) | (with_reducible refine below_drewN ?_ _) | (with_reducible refine Below.alloc ?_ ?_ _; rotate_left; focus (first | exact Nat.le_refl _ | (simp; done) | (simp; omega))) | (with_reducible refine Below.trans ?_ (HB.mono ?_); rotate_left; focus (first | exact Nat.le_refl _ | (simp; done) | (simp; omega)))))

set_option maxHeartbeats 400000 in
theorem renewed_new (p : ByteArray) (f s t d sent term : Int) (w : World) (hb : soundB ⟨p, f, s, t, d⟩ = true) (hlt : s ≤ sent) (hb2 : soundB ⟨p, f, sent, term, d⟩ = true) (hge : endI ⟨p, f, s, t, d⟩ ≤ endI ⟨p, f, sent, term, d⟩) :
    Calls Tryd.prog 15 #[.agg #[.string p, .int .i64 f, .int .i64 s, .int .i64 t, .int .i64 d], .int .i64 sent, .int .i64 term] w fun e w' => e = .returned (.tuple #[.agg #[.string p, .int .i64 f, .int .i64 sent, .int .i64 term, .int .i64 d], .int .i64 0]) ∧ Below w.heap.size w w' := by
  go_enter Tryd.func15, Tryd.ntmps15
  go_wp2_with fail
  (refine (sound_is _ hb).mono ?_; rintro e w1 ⟨rfl, HB⟩; obtain ⟨hc, hf⟩ := bcell HB)
  go_wp2_with fail
  (refine (sound_is _ hb2).mono ?_; rintro e w2 ⟨rfl, HB2⟩; have HC := HB.trans (HB2.mono HB.size); clear hc hf; obtain ⟨hc, hf⟩ := bcell HC)
  go_wp2_with fail
  have hS : Ren w p f s t d sent term w2.drew := ⟨((Ren.new w p f s t d sent term).below HC).c.drew, ((Ren.new w p f s t d sent term).below HC).r.drew, ((Ren.new w p f s t d sent term).below HC).l.drew⟩
  (refine wp_region_s (S := Ren w p f s t d sent term) (by kernel_rfl) (by kernel_rfl) hS ?_; have hN : Nonempty (Held (Ren w p f s t d sent term)) := ⟨⟨_, hS⟩⟩; (have r0 := fun y : Held (Ren w p f s t d sent term) => y.ok.c.c0; have r1 := fun y : Held (Ren w p f s t d sent term) => y.ok.c.c1; have r2 := fun y : Held (Ren w p f s t d sent term) => y.ok.c.c2; have r3 := fun y : Held (Ren w p f s t d sent term) => y.ok.c.c3; have r4 := fun y : Held (Ren w p f s t d sent term) => y.ok.c.c4; have q0 := fun y : Held (Ren w p f s t d sent term) => y.ok.l.c0; have q1 := fun y : Held (Ren w p f s t d sent term) => y.ok.l.c1; have q2 := fun y : Held (Ren w p f s t d sent term) => y.ok.l.c2; have q3 := fun y : Held (Ren w p f s t d sent term) => y.ok.l.c3; have q4 := fun y : Held (Ren w p f s t d sent term) => y.ok.l.c4); (repeat (go_big_quiet_step ((go_at_call 39; refine held_below (fun _ _ h h' => h.below h') (end_any _ _ _ _ _ _ ?_); first | exact hb | exact hb2)))); refine wpQuiet_nil ?_; rintro _ ⟨⟨x, hx⟩, rfl⟩; clear hN)
  clear r0 q0 r1 q1 r2 q2 r3 q3 r4 q4
  have k := hx.r
  have ho := k.old
  have hrc0 := hx.c.c0
  have hrc1 := hx.c.c1
  have hrc2 := hx.c.c2
  have hrc3 := hx.c.c3
  have hrc4 := hx.c.c4
  have hrl0 := hx.l.c0
  have hrl1 := hx.l.c1
  have hrl2 := hx.l.c2
  have hrl3 := hx.l.c3
  have hrl4 := hx.l.c4
  have hfz := k.fz
  have hrr0 := k.c0
  have hrr1 := k.c1
  have hrr2 := k.c2
  have hrr3 := k.c3
  have hrr4 := k.c4
  go_wp2_with fail
  refine bodyPost_ret (v := .tuple #[.agg #[.string p, .int .i64 f, .int .i64 sent, .int .i64 term, .int .i64 d], .int .i64 0]) (by simp [results, Tryd.results15, go_sem, k.c0, k.c1, k.c2, k.c3, k.c4]) rfl ⟨rfl, ?_⟩
  (repeat (first | (with_reducible exact Below.refl _ _) | (with_reducible assumption) | (with_reducible refine Below.setCell ?_ ?_ _; rotate_left; focus (first | exact Nat.le_refl _ | (dsimp only; omega))) | (with_reducible refine Below.drew ?_) | (with_reducible refine below_drewN ?_ _) | (with_reducible refine Below.alloc ?_ ?_ _; rotate_left; focus (first | exact Nat.le_refl _ | (simp; done) | (simp; omega))) | (with_reducible refine Below.trans ?_ (HB.mono ?_); rotate_left; focus (first | exact Nat.le_refl _ | (simp; done) | (simp; omega)))))

set_option maxHeartbeats 400000 in
theorem renewed_old (p : ByteArray) (f s t d sent term : Int) (w : World) (hb : soundB ⟨p, f, s, t, d⟩ = true) (hlt : s ≤ sent) (hb2 : soundB ⟨p, f, sent, term, d⟩ = true) (hge : endI ⟨p, f, sent, term, d⟩ < endI ⟨p, f, s, t, d⟩) :
    Calls Tryd.prog 15 #[.agg #[.string p, .int .i64 f, .int .i64 s, .int .i64 t, .int .i64 d], .int .i64 sent, .int .i64 term] w fun e w' => e = .returned (.tuple #[.agg #[.string p, .int .i64 f, .int .i64 s, .int .i64 t, .int .i64 d], .int .i64 0]) ∧ Below w.heap.size w w' := by
  go_enter Tryd.func15, Tryd.ntmps15
  go_wp2_with fail
  (refine (sound_is _ hb).mono ?_; rintro e w1 ⟨rfl, HB⟩; obtain ⟨hc, hf⟩ := bcell HB)
  go_wp2_with fail
  (refine (sound_is _ hb2).mono ?_; rintro e w2 ⟨rfl, HB2⟩; have HC := HB.trans (HB2.mono HB.size); clear hc hf; obtain ⟨hc, hf⟩ := bcell HC)
  go_wp2_with fail
  have hS : Ren w p f s t d sent term w2.drew := ⟨((Ren.new w p f s t d sent term).below HC).c.drew, ((Ren.new w p f s t d sent term).below HC).r.drew, ((Ren.new w p f s t d sent term).below HC).l.drew⟩
  (refine wp_region_s (S := Ren w p f s t d sent term) (by kernel_rfl) (by kernel_rfl) hS ?_; have hN : Nonempty (Held (Ren w p f s t d sent term)) := ⟨⟨_, hS⟩⟩; (have r0 := fun y : Held (Ren w p f s t d sent term) => y.ok.c.c0; have r1 := fun y : Held (Ren w p f s t d sent term) => y.ok.c.c1; have r2 := fun y : Held (Ren w p f s t d sent term) => y.ok.c.c2; have r3 := fun y : Held (Ren w p f s t d sent term) => y.ok.c.c3; have r4 := fun y : Held (Ren w p f s t d sent term) => y.ok.c.c4; have q0 := fun y : Held (Ren w p f s t d sent term) => y.ok.l.c0; have q1 := fun y : Held (Ren w p f s t d sent term) => y.ok.l.c1; have q2 := fun y : Held (Ren w p f s t d sent term) => y.ok.l.c2; have q3 := fun y : Held (Ren w p f s t d sent term) => y.ok.l.c3; have q4 := fun y : Held (Ren w p f s t d sent term) => y.ok.l.c4); (repeat (go_big_quiet_step ((go_at_call 39; refine held_below (fun _ _ h h' => h.below h') (end_any _ _ _ _ _ _ ?_); first | exact hb | exact hb2)))); refine wpQuiet_nil ?_; rintro _ ⟨⟨x, hx⟩, rfl⟩; clear hN)
  clear r0 q0 r1 q1 r2 q2 r3 q3 r4 q4
  have k := hx.r
  have ho := k.old
  have hrc0 := hx.c.c0
  have hrc1 := hx.c.c1
  have hrc2 := hx.c.c2
  have hrc3 := hx.c.c3
  have hrc4 := hx.c.c4
  have hrl0 := hx.l.c0
  have hrl1 := hx.l.c1
  have hrl2 := hx.l.c2
  have hrl3 := hx.l.c3
  have hrl4 := hx.l.c4
  have hfz := k.fz
  have hrr0 := k.c0
  have hrr1 := k.c1
  have hrr2 := k.c2
  have hrr3 := k.c3
  have hrr4 := k.c4
  go_wp2_with fail
  refine bodyPost_ret (v := .tuple #[.agg #[.string p, .int .i64 f, .int .i64 s, .int .i64 t, .int .i64 d], .int .i64 0]) (by simp [results, Tryd.results15, go_sem, k.c0, k.c1, k.c2, k.c3, k.c4]) rfl ⟨rfl, ?_⟩
  (repeat (first | (with_reducible exact Below.refl _ _) | (with_reducible assumption) | (with_reducible refine Below.setCell ?_ ?_ _; rotate_left; focus (first | exact Nat.le_refl _ | (dsimp only; omega))) | (with_reducible refine Below.drew ?_) | (with_reducible refine below_drewN ?_ _) | (with_reducible refine Below.alloc ?_ ?_ _; rotate_left; focus (first | exact Nat.le_refl _ | (simp; done) | (simp; omega))) | (with_reducible refine Below.trans ?_ (HB.mono ?_); rotate_left; focus (first | exact Nat.le_refl _ | (simp; done) | (simp; omega)))))

theorem left_is {p : ByteArray} {f s t d now n : Int} (w : World) (h : leftI ⟨p, f, s, t, d⟩ now = n) :
    Calls Tryd.prog 13 #[.agg #[.string p, .int .i64 f, .int .i64 s, .int .i64 t, .int .i64 d], .int .i64 now] w fun e w' => e = .returned (.int .i64 n) ∧ Below w.heap.size w w' := by
  have := left_any p f s t d now w
  rw [h] at this
  exact this

def axB : ByteArray := ⟨#[47, 47, 97, 47, 120]⟩
theorem ax_sound : soundB ⟨axB, 1, 100, 10, 500⟩ = true := by decide
theorem ax_h1 : holdB ⟨axB, 1, 100, 10, 500⟩ 105 = true := by decide
theorem ax_h2 : holdB ⟨axB, 1, 100, 10, 500⟩ 106 = false := by decide
theorem ax_l : leftI ⟨axB, 1, 100, 10, 500⟩ 100 = 6 := by decide

end Go.Proofs.YtnehjnaecgpkmaaDoor
