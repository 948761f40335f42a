/-
  OfflineRenewed returns true for every claim and every three numbers; what was in memory before the call stays as it was.
-/
import Derived.Test.YtnehjnaecgpkmaaOff3
namespace Go.Proofs.Ytnehjnaecgpkmaa
open Go.RowKit

def renB (c : Claim) (sent term : Int) : Bool := soundB c && decide (c.sent ≤ sent) && soundB ⟨c.path, c.fence, sent, term, c.drift⟩

theorem renewed_no (p : ByteArray) (f s t d sent term : Int) (w : World) (h : renB ⟨p, f, s, t, d⟩ sent term = false) :
    Calls Try.prog 13 #[.agg #[.string p, .int .i64 f, .int .i64 s, .int .i64 t, .int .i64 d], .int .i64 sent, .int .i64 term] w fun e w' => e = .returned (.tuple #[.agg #[.string ⟨#[]⟩, .int .i64 0, .int .i64 0, .int .i64 0, .int .i64 0], .int .i64 200]) ∧ Below w.heap.size w w' := by
  cases hb : soundB ⟨p, f, s, t, d⟩
  · exact renewed_no1 p f s t d sent term w hb
  · by_cases hlt : s ≤ sent
    · refine renewed_no3 p f s t d sent term w hb hlt ?_
      simpa [renB, hb, hlt] using h
    · exact renewed_no2 p f s t d sent term w hb (by omega)

set_option maxHeartbeats 400000 in
theorem rend_out (p : ByteArray) (f s t d sent term now : Int) (w : World) (h : 400 < p.size) :
    Calls Try.prog 4 #[.agg #[.string p, .int .i64 f, .int .i64 s, .int .i64 t, .int .i64 d], .int .i64 sent, .int .i64 term, .int .i64 now] w fun e w' => e = .returned (.bool true) ∧ Below w.heap.size w w' := by
  go_enter Try.func4, Try.ntmps4
  go_wp2_with (go_at_call 10; refine (awake20_any _).mono ?_; rintro e w' ⟨rfl, HB⟩)
  all_goals (go_ret; exact ⟨rfl, (Box5.new w (.string p) (.int .i64 f) (.int .i64 s) (.int .i64 t) (.int .i64 d) 23 |>.below HB).old⟩)

set_option maxHeartbeats 400000 in
theorem rend_err (p : ByteArray) (f s t d sent term now : Int) (w : World) (h : p.size ≤ 400) (hr : renB ⟨p, f, s, t, d⟩ sent term = false) :
    Calls Try.prog 4 #[.agg #[.string p, .int .i64 f, .int .i64 s, .int .i64 t, .int .i64 d], .int .i64 sent, .int .i64 term, .int .i64 now] w fun e w' => e = .returned (.bool true) ∧ Below w.heap.size w w' := by
  go_enter Try.func4, Try.ntmps4
  go_wp2_with fail
  refine (renewed_no p f s t d sent term _ hr).mono ?_
  rintro e w1 ⟨rfl, HB⟩
  have k := (Box5.new w (.string p) (.int .i64 f) (.int .i64 s) (.int .i64 t) (.int .i64 d) 23).below HB
  go_wp2_with (go_at_call 10; refine (awake20_any _).mono ?_; rintro e w2 ⟨rfl, HB2⟩)
  go_ret
  exact ⟨rfl, ((k.alloc _).below HB2).old⟩

set_option maxHeartbeats 800000 in
theorem rend_old_early (p : ByteArray) (f s t d sent term now : Int) (w : World) (h : p.size ≤ 400) (hb : soundB ⟨p, f, s, t, d⟩ = true) (hlt : s ≤ sent) (hb2 : soundB ⟨p, f, sent, term, d⟩ = true) (hge : endI ⟨p, f, sent, term, d⟩ < endI ⟨p, f, s, t, d⟩) (hn : now < sent) :
    Calls Try.prog 4 #[.agg #[.string p, .int .i64 f, .int .i64 s, .int .i64 t, .int .i64 d], .int .i64 sent, .int .i64 term, .int .i64 now] w fun e w' => e = .returned (.bool true) ∧ Below w.heap.size w w' := by
  have HG := Lib.hid hge
  clear hge
  go_enter Try.func4, Try.ntmps4
  go_wp2_with fail
  refine (renewed_old p f s t d sent term _ hb hlt hb2 HG.out).mono ?_
  rintro e w1 ⟨rfl, HB⟩
  have k := (Box5.new w (.string p) (.int .i64 f) (.int .i64 s) (.int .i64 t) (.int .i64 d) 23).below HB
  (have k' := k; obtain ⟨c0, c1, c2, c3, c4, lt_k, _, fz_k⟩ := k')
  go_wp2_with fail
  refine (begin_yes _ _ _ _ _ _ hb2).mono ?_
  rintro e w2 ⟨rfl, HB2⟩
  have k2 := (k.alloc _).below HB2
  have j2 := (Box5.new w1 (.string p) (.int .i64 f) (.int .i64 s) (.int .i64 t) (.int .i64 d) 23).below HB2
  clear c0 c1 c2 c3 c4
  (have k2' := k2; obtain ⟨c0, c1, c2, c3, c4, lt_k2, _, fz_k2⟩ := k2')
  (have j2' := j2; obtain ⟨e0, e1, e2, e3, e4, lt_j2, _, fz_j2⟩ := j2')
  go_wp2_with (go_at_call 10; refine (awake20_any _).mono ?_; rintro e w3 ⟨rfl, HB3⟩)
  all_goals (go_ret; exact ⟨rfl, ((k2.alloc _).below HB3).old⟩)

set_option maxHeartbeats 800000 in
theorem rend_old_a (p : ByteArray) (f s t d sent term now : Int) (w : World) (h : p.size ≤ 400) (hb : soundB ⟨p, f, s, t, d⟩ = true) (hlt : s ≤ sent) (hb2 : soundB ⟨p, f, sent, term, d⟩ = true) (hge : endI ⟨p, f, sent, term, d⟩ < endI ⟨p, f, s, t, d⟩) (hn : sent ≤ now) (n1 : holdB ⟨p, f, s, t, d⟩ now = true) (n2 : holdB ⟨p, f, sent, term, d⟩ now = true) :
    Calls Try.prog 4 #[.agg #[.string p, .int .i64 f, .int .i64 s, .int .i64 t, .int .i64 d], .int .i64 sent, .int .i64 term, .int .i64 now] w fun e w' => e = .returned (.bool true) ∧ Below w.heap.size w w' := by
  have HG := Lib.hid hge
  clear hge
  have N1 := Lib.hid n1
  have N2 := Lib.hid n2
  clear n1 n2
  go_enter Try.func4, Try.ntmps4
  go_wp2_with fail
  refine (renewed_old p f s t d sent term _ hb hlt hb2 HG.out).mono ?_
  rintro e w1 ⟨rfl, HB⟩
  have k := (Box5.new w (.string p) (.int .i64 f) (.int .i64 s) (.int .i64 t) (.int .i64 d) 23).below HB
  (have k' := k; obtain ⟨c0, c1, c2, c3, c4, lt_k, _, fz_k⟩ := k')
  go_wp2_with fail
  refine (begin_yes _ _ _ _ _ _ hb2).mono ?_
  rintro e w2 ⟨rfl, HB2⟩
  have k2 := (k.alloc _).below HB2
  have j2 := (Box5.new w1 (.string p) (.int .i64 f) (.int .i64 s) (.int .i64 t) (.int .i64 d) 23).below HB2
  clear c0 c1 c2 c3 c4
  (have k2' := k2; obtain ⟨c0, c1, c2, c3, c4, lt_k2, _, fz_k2⟩ := k2')
  (have j2' := j2; obtain ⟨e0, e1, e2, e3, e4, lt_j2, _, fz_j2⟩ := j2')
  go_wp2_with fail
  have hS : B3 (Box5 w w.heap.size (.string p) (.int .i64 f) (.int .i64 s) (.int .i64 t) (.int .i64 d)) (Box5 w1 w1.heap.size (.string p) (.int .i64 f) (.int .i64 s) (.int .i64 t) (.int .i64 d)) (Box5 w2 w2.heap.size (.string p) (.int .i64 f) (.int .i64 sent) (.int .i64 term) (.int .i64 d)) (w2.alloc (.cells #[.string p, .int .i64 f, .int .i64 sent, .int .i64 term, .int .i64 d] 23)).drew := ⟨(k2.alloc _).drew, (j2.alloc _).drew, (Box5.new w2 _ _ _ _ _ _).drew⟩
  (refine wp_region_s (S := B3 (Box5 w w.heap.size (.string p) (.int .i64 f) (.int .i64 s) (.int .i64 t) (.int .i64 d)) (Box5 w1 w1.heap.size (.string p) (.int .i64 f) (.int .i64 s) (.int .i64 t) (.int .i64 d)) (Box5 w2 w2.heap.size (.string p) (.int .i64 f) (.int .i64 sent) (.int .i64 term) (.int .i64 d))) (by kernel_rfl) (by kernel_rfl) hS ?_; have hN : Nonempty (Held (B3 (Box5 w w.heap.size (.string p) (.int .i64 f) (.int .i64 s) (.int .i64 t) (.int .i64 d)) (Box5 w1 w1.heap.size (.string p) (.int .i64 f) (.int .i64 s) (.int .i64 t) (.int .i64 d)) (Box5 w2 w2.heap.size (.string p) (.int .i64 f) (.int .i64 sent) (.int .i64 term) (.int .i64 d)))) := ⟨⟨_, hS⟩⟩; (have r0 := fun y : Held (B3 (Box5 w w.heap.size (.string p) (.int .i64 f) (.int .i64 s) (.int .i64 t) (.int .i64 d)) (Box5 w1 w1.heap.size (.string p) (.int .i64 f) (.int .i64 s) (.int .i64 t) (.int .i64 d)) (Box5 w2 w2.heap.size (.string p) (.int .i64 f) (.int .i64 sent) (.int .i64 term) (.int .i64 d))) => y.ok.a.c0; have q0 := fun y : Held (B3 (Box5 w w.heap.size (.string p) (.int .i64 f) (.int .i64 s) (.int .i64 t) (.int .i64 d)) (Box5 w1 w1.heap.size (.string p) (.int .i64 f) (.int .i64 s) (.int .i64 t) (.int .i64 d)) (Box5 w2 w2.heap.size (.string p) (.int .i64 f) (.int .i64 sent) (.int .i64 term) (.int .i64 d))) => y.ok.b.c0; have z0 := fun y : Held (B3 (Box5 w w.heap.size (.string p) (.int .i64 f) (.int .i64 s) (.int .i64 t) (.int .i64 d)) (Box5 w1 w1.heap.size (.string p) (.int .i64 f) (.int .i64 s) (.int .i64 t) (.int .i64 d)) (Box5 w2 w2.heap.size (.string p) (.int .i64 f) (.int .i64 sent) (.int .i64 term) (.int .i64 d))) => y.ok.c.c0; have r1 := fun y : Held (B3 (Box5 w w.heap.size (.string p) (.int .i64 f) (.int .i64 s) (.int .i64 t) (.int .i64 d)) (Box5 w1 w1.heap.size (.string p) (.int .i64 f) (.int .i64 s) (.int .i64 t) (.int .i64 d)) (Box5 w2 w2.heap.size (.string p) (.int .i64 f) (.int .i64 sent) (.int .i64 term) (.int .i64 d))) => y.ok.a.c1; have q1 := fun y : Held (B3 (Box5 w w.heap.size (.string p) (.int .i64 f) (.int .i64 s) (.int .i64 t) (.int .i64 d)) (Box5 w1 w1.heap.size (.string p) (.int .i64 f) (.int .i64 s) (.int .i64 t) (.int .i64 d)) (Box5 w2 w2.heap.size (.string p) (.int .i64 f) (.int .i64 sent) (.int .i64 term) (.int .i64 d))) => y.ok.b.c1; have z1 := fun y : Held (B3 (Box5 w w.heap.size (.string p) (.int .i64 f) (.int .i64 s) (.int .i64 t) (.int .i64 d)) (Box5 w1 w1.heap.size (.string p) (.int .i64 f) (.int .i64 s) (.int .i64 t) (.int .i64 d)) (Box5 w2 w2.heap.size (.string p) (.int .i64 f) (.int .i64 sent) (.int .i64 term) (.int .i64 d))) => y.ok.c.c1; have r2 := fun y : Held (B3 (Box5 w w.heap.size (.string p) (.int .i64 f) (.int .i64 s) (.int .i64 t) (.int .i64 d)) (Box5 w1 w1.heap.size (.string p) (.int .i64 f) (.int .i64 s) (.int .i64 t) (.int .i64 d)) (Box5 w2 w2.heap.size (.string p) (.int .i64 f) (.int .i64 sent) (.int .i64 term) (.int .i64 d))) => y.ok.a.c2; have q2 := fun y : Held (B3 (Box5 w w.heap.size (.string p) (.int .i64 f) (.int .i64 s) (.int .i64 t) (.int .i64 d)) (Box5 w1 w1.heap.size (.string p) (.int .i64 f) (.int .i64 s) (.int .i64 t) (.int .i64 d)) (Box5 w2 w2.heap.size (.string p) (.int .i64 f) (.int .i64 sent) (.int .i64 term) (.int .i64 d))) => y.ok.b.c2; have z2 := fun y : Held (B3 (Box5 w w.heap.size (.string p) (.int .i64 f) (.int .i64 s) (.int .i64 t) (.int .i64 d)) (Box5 w1 w1.heap.size (.string p) (.int .i64 f) (.int .i64 s) (.int .i64 t) (.int .i64 d)) (Box5 w2 w2.heap.size (.string p) (.int .i64 f) (.int .i64 sent) (.int .i64 term) (.int .i64 d))) => y.ok.c.c2; have r3 := fun y : Held (B3 (Box5 w w.heap.size (.string p) (.int .i64 f) (.int .i64 s) (.int .i64 t) (.int .i64 d)) (Box5 w1 w1.heap.size (.string p) (.int .i64 f) (.int .i64 s) (.int .i64 t) (.int .i64 d)) (Box5 w2 w2.heap.size (.string p) (.int .i64 f) (.int .i64 sent) (.int .i64 term) (.int .i64 d))) => y.ok.a.c3; have q3 := fun y : Held (B3 (Box5 w w.heap.size (.string p) (.int .i64 f) (.int .i64 s) (.int .i64 t) (.int .i64 d)) (Box5 w1 w1.heap.size (.string p) (.int .i64 f) (.int .i64 s) (.int .i64 t) (.int .i64 d)) (Box5 w2 w2.heap.size (.string p) (.int .i64 f) (.int .i64 sent) (.int .i64 term) (.int .i64 d))) => y.ok.b.c3; have z3 := fun y : Held (B3 (Box5 w w.heap.size (.string p) (.int .i64 f) (.int .i64 s) (.int .i64 t) (.int .i64 d)) (Box5 w1 w1.heap.size (.string p) (.int .i64 f) (.int .i64 s) (.int .i64 t) (.int .i64 d)) (Box5 w2 w2.heap.size (.string p) (.int .i64 f) (.int .i64 sent) (.int .i64 term) (.int .i64 d))) => y.ok.c.c3; have r4 := fun y : Held (B3 (Box5 w w.heap.size (.string p) (.int .i64 f) (.int .i64 s) (.int .i64 t) (.int .i64 d)) (Box5 w1 w1.heap.size (.string p) (.int .i64 f) (.int .i64 s) (.int .i64 t) (.int .i64 d)) (Box5 w2 w2.heap.size (.string p) (.int .i64 f) (.int .i64 sent) (.int .i64 term) (.int .i64 d))) => y.ok.a.c4; have q4 := fun y : Held (B3 (Box5 w w.heap.size (.string p) (.int .i64 f) (.int .i64 s) (.int .i64 t) (.int .i64 d)) (Box5 w1 w1.heap.size (.string p) (.int .i64 f) (.int .i64 s) (.int .i64 t) (.int .i64 d)) (Box5 w2 w2.heap.size (.string p) (.int .i64 f) (.int .i64 sent) (.int .i64 term) (.int .i64 d))) => y.ok.b.c4; have z4 := fun y : Held (B3 (Box5 w w.heap.size (.string p) (.int .i64 f) (.int .i64 s) (.int .i64 t) (.int .i64 d)) (Box5 w1 w1.heap.size (.string p) (.int .i64 f) (.int .i64 s) (.int .i64 t) (.int .i64 d)) (Box5 w2 w2.heap.size (.string p) (.int .i64 f) (.int .i64 sent) (.int .i64 term) (.int .i64 d))) => y.ok.c.c4); (repeat (go_big_quiet_step (first | (go_at_call 10; exact held_below (fun _ _ h h' => h.below h' (·.below ·) (·.below ·) (·.below ·)) (awake20_any _)) | (go_at_call 12; first | (with_reducible exact held_below (fun _ _ h h' => h.below h' (·.below ·) (·.below ·) (·.below ·)) (holding_is _ N1.out)) | (with_reducible exact held_below (fun _ _ h h' => h.below h' (·.below ·) (·.below ·) (·.below ·)) (holding_is _ N2.out)))))); refine wpQuiet_nil ?_; rintro _ ⟨⟨x, hx⟩, rfl⟩; clear hN)
  clear r0 r1 r2 r3 r4 q0 q1 q2 q3 q4 z0 z1 z2 z3 z4
  go_wp2_with fail
  go_ret
  exact ⟨rfl, hx.a.old⟩

set_option maxHeartbeats 800000 in
theorem rend_old_b (p : ByteArray) (f s t d sent term now : Int) (w : World) (h : p.size ≤ 400) (hb : soundB ⟨p, f, s, t, d⟩ = true) (hlt : s ≤ sent) (hb2 : soundB ⟨p, f, sent, term, d⟩ = true) (hge : endI ⟨p, f, sent, term, d⟩ < endI ⟨p, f, s, t, d⟩) (hn : sent ≤ now) (n1 : holdB ⟨p, f, s, t, d⟩ now = true) (n2 : holdB ⟨p, f, sent, term, d⟩ now = false) :
    Calls Try.prog 4 #[.agg #[.string p, .int .i64 f, .int .i64 s, .int .i64 t, .int .i64 d], .int .i64 sent, .int .i64 term, .int .i64 now] w fun e w' => e = .returned (.bool true) ∧ Below w.heap.size w w' := by
  have HG := Lib.hid hge
  clear hge
  have N1 := Lib.hid n1
  have N2 := Lib.hid n2
  clear n1 n2
  go_enter Try.func4, Try.ntmps4
  go_wp2_with fail
  refine (renewed_old p f s t d sent term _ hb hlt hb2 HG.out).mono ?_
  rintro e w1 ⟨rfl, HB⟩
  have k := (Box5.new w (.string p) (.int .i64 f) (.int .i64 s) (.int .i64 t) (.int .i64 d) 23).below HB
  (have k' := k; obtain ⟨c0, c1, c2, c3, c4, lt_k, _, fz_k⟩ := k')
  go_wp2_with fail
  refine (begin_yes _ _ _ _ _ _ hb2).mono ?_
  rintro e w2 ⟨rfl, HB2⟩
  have k2 := (k.alloc _).below HB2
  have j2 := (Box5.new w1 (.string p) (.int .i64 f) (.int .i64 s) (.int .i64 t) (.int .i64 d) 23).below HB2
  clear c0 c1 c2 c3 c4
  (have k2' := k2; obtain ⟨c0, c1, c2, c3, c4, lt_k2, _, fz_k2⟩ := k2')
  (have j2' := j2; obtain ⟨e0, e1, e2, e3, e4, lt_j2, _, fz_j2⟩ := j2')
  go_wp2_with fail
  have hS : B3 (Box5 w w.heap.size (.string p) (.int .i64 f) (.int .i64 s) (.int .i64 t) (.int .i64 d)) (Box5 w1 w1.heap.size (.string p) (.int .i64 f) (.int .i64 s) (.int .i64 t) (.int .i64 d)) (Box5 w2 w2.heap.size (.string p) (.int .i64 f) (.int .i64 sent) (.int .i64 term) (.int .i64 d)) (w2.alloc (.cells #[.string p, .int .i64 f, .int .i64 sent, .int .i64 term, .int .i64 d] 23)).drew := ⟨(k2.alloc _).drew, (j2.alloc _).drew, (Box5.new w2 _ _ _ _ _ _).drew⟩
  (refine wp_region_s (S := B3 (Box5 w w.heap.size (.string p) (.int .i64 f) (.int .i64 s) (.int .i64 t) (.int .i64 d)) (Box5 w1 w1.heap.size (.string p) (.int .i64 f) (.int .i64 s) (.int .i64 t) (.int .i64 d)) (Box5 w2 w2.heap.size (.string p) (.int .i64 f) (.int .i64 sent) (.int .i64 term) (.int .i64 d))) (by kernel_rfl) (by kernel_rfl) hS ?_; have hN : Nonempty (Held (B3 (Box5 w w.heap.size (.string p) (.int .i64 f) (.int .i64 s) (.int .i64 t) (.int .i64 d)) (Box5 w1 w1.heap.size (.string p) (.int .i64 f) (.int .i64 s) (.int .i64 t) (.int .i64 d)) (Box5 w2 w2.heap.size (.string p) (.int .i64 f) (.int .i64 sent) (.int .i64 term) (.int .i64 d)))) := ⟨⟨_, hS⟩⟩; (have r0 := fun y : Held (B3 (Box5 w w.heap.size (.string p) (.int .i64 f) (.int .i64 s) (.int .i64 t) (.int .i64 d)) (Box5 w1 w1.heap.size (.string p) (.int .i64 f) (.int .i64 s) (.int .i64 t) (.int .i64 d)) (Box5 w2 w2.heap.size (.string p) (.int .i64 f) (.int .i64 sent) (.int .i64 term) (.int .i64 d))) => y.ok.a.c0; have q0 := fun y : Held (B3 (Box5 w w.heap.size (.string p) (.int .i64 f) (.int .i64 s) (.int .i64 t) (.int .i64 d)) (Box5 w1 w1.heap.size (.string p) (.int .i64 f) (.int .i64 s) (.int .i64 t) (.int .i64 d)) (Box5 w2 w2.heap.size (.string p) (.int .i64 f) (.int .i64 sent) (.int .i64 term) (.int .i64 d))) => y.ok.b.c0; have z0 := fun y : Held (B3 (Box5 w w.heap.size (.string p) (.int .i64 f) (.int .i64 s) (.int .i64 t) (.int .i64 d)) (Box5 w1 w1.heap.size (.string p) (.int .i64 f) (.int .i64 s) (.int .i64 t) (.int .i64 d)) (Box5 w2 w2.heap.size (.string p) (.int .i64 f) (.int .i64 sent) (.int .i64 term) (.int .i64 d))) => y.ok.c.c0; have r1 := fun y : Held (B3 (Box5 w w.heap.size (.string p) (.int .i64 f) (.int .i64 s) (.int .i64 t) (.int .i64 d)) (Box5 w1 w1.heap.size (.string p) (.int .i64 f) (.int .i64 s) (.int .i64 t) (.int .i64 d)) (Box5 w2 w2.heap.size (.string p) (.int .i64 f) (.int .i64 sent) (.int .i64 term) (.int .i64 d))) => y.ok.a.c1; have q1 := fun y : Held (B3 (Box5 w w.heap.size (.string p) (.int .i64 f) (.int .i64 s) (.int .i64 t) (.int .i64 d)) (Box5 w1 w1.heap.size (.string p) (.int .i64 f) (.int .i64 s) (.int .i64 t) (.int .i64 d)) (Box5 w2 w2.heap.size (.string p) (.int .i64 f) (.int .i64 sent) (.int .i64 term) (.int .i64 d))) => y.ok.b.c1; have z1 := fun y : Held (B3 (Box5 w w.heap.size (.string p) (.int .i64 f) (.int .i64 s) (.int .i64 t) (.int .i64 d)) (Box5 w1 w1.heap.size (.string p) (.int .i64 f) (.int .i64 s) (.int .i64 t) (.int .i64 d)) (Box5 w2 w2.heap.size (.string p) (.int .i64 f) (.int .i64 sent) (.int .i64 term) (.int .i64 d))) => y.ok.c.c1; have r2 := fun y : Held (B3 (Box5 w w.heap.size (.string p) (.int .i64 f) (.int .i64 s) (.int .i64 t) (.int .i64 d)) (Box5 w1 w1.heap.size (.string p) (.int .i64 f) (.int .i64 s) (.int .i64 t) (.int .i64 d)) (Box5 w2 w2.heap.size (.string p) (.int .i64 f) (.int .i64 sent) (.int .i64 term) (.int .i64 d))) => y.ok.a.c2; have q2 := fun y : Held (B3 (Box5 w w.heap.size (.string p) (.int .i64 f) (.int .i64 s) (.int .i64 t) (.int .i64 d)) (Box5 w1 w1.heap.size (.string p) (.int .i64 f) (.int .i64 s) (.int .i64 t) (.int .i64 d)) (Box5 w2 w2.heap.size (.string p) (.int .i64 f) (.int .i64 sent) (.int .i64 term) (.int .i64 d))) => y.ok.b.c2; have z2 := fun y : Held (B3 (Box5 w w.heap.size (.string p) (.int .i64 f) (.int .i64 s) (.int .i64 t) (.int .i64 d)) (Box5 w1 w1.heap.size (.string p) (.int .i64 f) (.int .i64 s) (.int .i64 t) (.int .i64 d)) (Box5 w2 w2.heap.size (.string p) (.int .i64 f) (.int .i64 sent) (.int .i64 term) (.int .i64 d))) => y.ok.c.c2; have r3 := fun y : Held (B3 (Box5 w w.heap.size (.string p) (.int .i64 f) (.int .i64 s) (.int .i64 t) (.int .i64 d)) (Box5 w1 w1.heap.size (.string p) (.int .i64 f) (.int .i64 s) (.int .i64 t) (.int .i64 d)) (Box5 w2 w2.heap.size (.string p) (.int .i64 f) (.int .i64 sent) (.int .i64 term) (.int .i64 d))) => y.ok.a.c3; have q3 := fun y : Held (B3 (Box5 w w.heap.size (.string p) (.int .i64 f) (.int .i64 s) (.int .i64 t) (.int .i64 d)) (Box5 w1 w1.heap.size (.string p) (.int .i64 f) (.int .i64 s) (.int .i64 t) (.int .i64 d)) (Box5 w2 w2.heap.size (.string p) (.int .i64 f) (.int .i64 sent) (.int .i64 term) (.int .i64 d))) => y.ok.b.c3; have z3 := fun y : Held (B3 (Box5 w w.heap.size (.string p) (.int .i64 f) (.int .i64 s) (.int .i64 t) (.int .i64 d)) (Box5 w1 w1.heap.size (.string p) (.int .i64 f) (.int .i64 s) (.int .i64 t) (.int .i64 d)) (Box5 w2 w2.heap.size (.string p) (.int .i64 f) (.int .i64 sent) (.int .i64 term) (.int .i64 d))) => y.ok.c.c3; have r4 := fun y : Held (B3 (Box5 w w.heap.size (.string p) (.int .i64 f) (.int .i64 s) (.int .i64 t) (.int .i64 d)) (Box5 w1 w1.heap.size (.string p) (.int .i64 f) (.int .i64 s) (.int .i64 t) (.int .i64 d)) (Box5 w2 w2.heap.size (.string p) (.int .i64 f) (.int .i64 sent) (.int .i64 term) (.int .i64 d))) => y.ok.a.c4; have q4 := fun y : Held (B3 (Box5 w w.heap.size (.string p) (.int .i64 f) (.int .i64 s) (.int .i64 t) (.int .i64 d)) (Box5 w1 w1.heap.size (.string p) (.int .i64 f) (.int .i64 s) (.int .i64 t) (.int .i64 d)) (Box5 w2 w2.heap.size (.string p) (.int .i64 f) (.int .i64 sent) (.int .i64 term) (.int .i64 d))) => y.ok.b.c4; have z4 := fun y : Held (B3 (Box5 w w.heap.size (.string p) (.int .i64 f) (.int .i64 s) (.int .i64 t) (.int .i64 d)) (Box5 w1 w1.heap.size (.string p) (.int .i64 f) (.int .i64 s) (.int .i64 t) (.int .i64 d)) (Box5 w2 w2.heap.size (.string p) (.int .i64 f) (.int .i64 sent) (.int .i64 term) (.int .i64 d))) => y.ok.c.c4); (repeat (go_big_quiet_step (first | (go_at_call 10; exact held_below (fun _ _ h h' => h.below h' (·.below ·) (·.below ·) (·.below ·)) (awake20_any _)) | (go_at_call 12; first | (with_reducible exact held_below (fun _ _ h h' => h.below h' (·.below ·) (·.below ·) (·.below ·)) (holding_is _ N1.out)) | (with_reducible exact held_below (fun _ _ h h' => h.below h' (·.below ·) (·.below ·) (·.below ·)) (holding_is _ N2.out)))))); refine wpQuiet_nil ?_; rintro _ ⟨⟨x, hx⟩, rfl⟩; clear hN)
  clear r0 r1 r2 r3 r4 q0 q1 q2 q3 q4 z0 z1 z2 z3 z4
  go_wp2_with fail
  go_ret
  exact ⟨rfl, hx.a.old⟩

set_option maxHeartbeats 800000 in
theorem rend_old_d (p : ByteArray) (f s t d sent term now : Int) (w : World) (h : p.size ≤ 400) (hb : soundB ⟨p, f, s, t, d⟩ = true) (hlt : s ≤ sent) (hb2 : soundB ⟨p, f, sent, term, d⟩ = true) (hge : endI ⟨p, f, sent, term, d⟩ < endI ⟨p, f, s, t, d⟩) (hn : sent ≤ now) (n1 : holdB ⟨p, f, s, t, d⟩ now = false) (n2 : holdB ⟨p, f, sent, term, d⟩ now = false) :
    Calls Try.prog 4 #[.agg #[.string p, .int .i64 f, .int .i64 s, .int .i64 t, .int .i64 d], .int .i64 sent, .int .i64 term, .int .i64 now] w fun e w' => e = .returned (.bool true) ∧ Below w.heap.size w w' := by
  have HG := Lib.hid hge
  clear hge
  have N1 := Lib.hid n1
  have N2 := Lib.hid n2
  clear n1 n2
  go_enter Try.func4, Try.ntmps4
  go_wp2_with fail
  refine (renewed_old p f s t d sent term _ hb hlt hb2 HG.out).mono ?_
  rintro e w1 ⟨rfl, HB⟩
  have k := (Box5.new w (.string p) (.int .i64 f) (.int .i64 s) (.int .i64 t) (.int .i64 d) 23).below HB
  (have k' := k; obtain ⟨c0, c1, c2, c3, c4, lt_k, _, fz_k⟩ := k')
  go_wp2_with fail
  refine (begin_yes _ _ _ _ _ _ hb2).mono ?_
  rintro e w2 ⟨rfl, HB2⟩
  have k2 := (k.alloc _).below HB2
  have j2 := (Box5.new w1 (.string p) (.int .i64 f) (.int .i64 s) (.int .i64 t) (.int .i64 d) 23).below HB2
  clear c0 c1 c2 c3 c4
  (have k2' := k2; obtain ⟨c0, c1, c2, c3, c4, lt_k2, _, fz_k2⟩ := k2')
  (have j2' := j2; obtain ⟨e0, e1, e2, e3, e4, lt_j2, _, fz_j2⟩ := j2')
  go_wp2_with fail
  have hS : B3 (Box5 w w.heap.size (.string p) (.int .i64 f) (.int .i64 s) (.int .i64 t) (.int .i64 d)) (Box5 w1 w1.heap.size (.string p) (.int .i64 f) (.int .i64 s) (.int .i64 t) (.int .i64 d)) (Box5 w2 w2.heap.size (.string p) (.int .i64 f) (.int .i64 sent) (.int .i64 term) (.int .i64 d)) (w2.alloc (.cells #[.string p, .int .i64 f, .int .i64 sent, .int .i64 term, .int .i64 d] 23)).drew := ⟨(k2.alloc _).drew, (j2.alloc _).drew, (Box5.new w2 _ _ _ _ _ _).drew⟩
  (refine wp_region_s (S := B3 (Box5 w w.heap.size (.string p) (.int .i64 f) (.int .i64 s) (.int .i64 t) (.int .i64 d)) (Box5 w1 w1.heap.size (.string p) (.int .i64 f) (.int .i64 s) (.int .i64 t) (.int .i64 d)) (Box5 w2 w2.heap.size (.string p) (.int .i64 f) (.int .i64 sent) (.int .i64 term) (.int .i64 d))) (by kernel_rfl) (by kernel_rfl) hS ?_; have hN : Nonempty (Held (B3 (Box5 w w.heap.size (.string p) (.int .i64 f) (.int .i64 s) (.int .i64 t) (.int .i64 d)) (Box5 w1 w1.heap.size (.string p) (.int .i64 f) (.int .i64 s) (.int .i64 t) (.int .i64 d)) (Box5 w2 w2.heap.size (.string p) (.int .i64 f) (.int .i64 sent) (.int .i64 term) (.int .i64 d)))) := ⟨⟨_, hS⟩⟩; (have r0 := fun y : Held (B3 (Box5 w w.heap.size (.string p) (.int .i64 f) (.int .i64 s) (.int .i64 t) (.int .i64 d)) (Box5 w1 w1.heap.size (.string p) (.int .i64 f) (.int .i64 s) (.int .i64 t) (.int .i64 d)) (Box5 w2 w2.heap.size (.string p) (.int .i64 f) (.int .i64 sent) (.int .i64 term) (.int .i64 d))) => y.ok.a.c0; have q0 := fun y : Held (B3 (Box5 w w.heap.size (.string p) (.int .i64 f) (.int .i64 s) (.int .i64 t) (.int .i64 d)) (Box5 w1 w1.heap.size (.string p) (.int .i64 f) (.int .i64 s) (.int .i64 t) (.int .i64 d)) (Box5 w2 w2.heap.size (.string p) (.int .i64 f) (.int .i64 sent) (.int .i64 term) (.int .i64 d))) => y.ok.b.c0; have z0 := fun y : Held (B3 (Box5 w w.heap.size (.string p) (.int .i64 f) (.int .i64 s) (.int .i64 t) (.int .i64 d)) (Box5 w1 w1.heap.size (.string p) (.int .i64 f) (.int .i64 s) (.int .i64 t) (.int .i64 d)) (Box5 w2 w2.heap.size (.string p) (.int .i64 f) (.int .i64 sent) (.int .i64 term) (.int .i64 d))) => y.ok.c.c0; have r1 := fun y : Held (B3 (Box5 w w.heap.size (.string p) (.int .i64 f) (.int .i64 s) (.int .i64 t) (.int .i64 d)) (Box5 w1 w1.heap.size (.string p) (.int .i64 f) (.int .i64 s) (.int .i64 t) (.int .i64 d)) (Box5 w2 w2.heap.size (.string p) (.int .i64 f) (.int .i64 sent) (.int .i64 term) (.int .i64 d))) => y.ok.a.c1; have q1 := fun y : Held (B3 (Box5 w w.heap.size (.string p) (.int .i64 f) (.int .i64 s) (.int .i64 t) (.int .i64 d)) (Box5 w1 w1.heap.size (.string p) (.int .i64 f) (.int .i64 s) (.int .i64 t) (.int .i64 d)) (Box5 w2 w2.heap.size (.string p) (.int .i64 f) (.int .i64 sent) (.int .i64 term) (.int .i64 d))) => y.ok.b.c1; have z1 := fun y : Held (B3 (Box5 w w.heap.size (.string p) (.int .i64 f) (.int .i64 s) (.int .i64 t) (.int .i64 d)) (Box5 w1 w1.heap.size (.string p) (.int .i64 f) (.int .i64 s) (.int .i64 t) (.int .i64 d)) (Box5 w2 w2.heap.size (.string p) (.int .i64 f) (.int .i64 sent) (.int .i64 term) (.int .i64 d))) => y.ok.c.c1; have r2 := fun y : Held (B3 (Box5 w w.heap.size (.string p) (.int .i64 f) (.int .i64 s) (.int .i64 t) (.int .i64 d)) (Box5 w1 w1.heap.size (.string p) (.int .i64 f) (.int .i64 s) (.int .i64 t) (.int .i64 d)) (Box5 w2 w2.heap.size (.string p) (.int .i64 f) (.int .i64 sent) (.int .i64 term) (.int .i64 d))) => y.ok.a.c2; have q2 := fun y : Held (B3 (Box5 w w.heap.size (.string p) (.int .i64 f) (.int .i64 s) (.int .i64 t) (.int .i64 d)) (Box5 w1 w1.heap.size (.string p) (.int .i64 f) (.int .i64 s) (.int .i64 t) (.int .i64 d)) (Box5 w2 w2.heap.size (.string p) (.int .i64 f) (.int .i64 sent) (.int .i64 term) (.int .i64 d))) => y.ok.b.c2; have z2 := fun y : Held (B3 (Box5 w w.heap.size (.string p) (.int .i64 f) (.int .i64 s) (.int .i64 t) (.int .i64 d)) (Box5 w1 w1.heap.size (.string p) (.int .i64 f) (.int .i64 s) (.int .i64 t) (.int .i64 d)) (Box5 w2 w2.heap.size (.string p) (.int .i64 f) (.int .i64 sent) (.int .i64 term) (.int .i64 d))) => y.ok.c.c2; have r3 := fun y : Held (B3 (Box5 w w.heap.size (.string p) (.int .i64 f) (.int .i64 s) (.int .i64 t) (.int .i64 d)) (Box5 w1 w1.heap.size (.string p) (.int .i64 f) (.int .i64 s) (.int .i64 t) (.int .i64 d)) (Box5 w2 w2.heap.size (.string p) (.int .i64 f) (.int .i64 sent) (.int .i64 term) (.int .i64 d))) => y.ok.a.c3; have q3 := fun y : Held (B3 (Box5 w w.heap.size (.string p) (.int .i64 f) (.int .i64 s) (.int .i64 t) (.int .i64 d)) (Box5 w1 w1.heap.size (.string p) (.int .i64 f) (.int .i64 s) (.int .i64 t) (.int .i64 d)) (Box5 w2 w2.heap.size (.string p) (.int .i64 f) (.int .i64 sent) (.int .i64 term) (.int .i64 d))) => y.ok.b.c3; have z3 := fun y : Held (B3 (Box5 w w.heap.size (.string p) (.int .i64 f) (.int .i64 s) (.int .i64 t) (.int .i64 d)) (Box5 w1 w1.heap.size (.string p) (.int .i64 f) (.int .i64 s) (.int .i64 t) (.int .i64 d)) (Box5 w2 w2.heap.size (.string p) (.int .i64 f) (.int .i64 sent) (.int .i64 term) (.int .i64 d))) => y.ok.c.c3; have r4 := fun y : Held (B3 (Box5 w w.heap.size (.string p) (.int .i64 f) (.int .i64 s) (.int .i64 t) (.int .i64 d)) (Box5 w1 w1.heap.size (.string p) (.int .i64 f) (.int .i64 s) (.int .i64 t) (.int .i64 d)) (Box5 w2 w2.heap.size (.string p) (.int .i64 f) (.int .i64 sent) (.int .i64 term) (.int .i64 d))) => y.ok.a.c4; have q4 := fun y : Held (B3 (Box5 w w.heap.size (.string p) (.int .i64 f) (.int .i64 s) (.int .i64 t) (.int .i64 d)) (Box5 w1 w1.heap.size (.string p) (.int .i64 f) (.int .i64 s) (.int .i64 t) (.int .i64 d)) (Box5 w2 w2.heap.size (.string p) (.int .i64 f) (.int .i64 sent) (.int .i64 term) (.int .i64 d))) => y.ok.b.c4; have z4 := fun y : Held (B3 (Box5 w w.heap.size (.string p) (.int .i64 f) (.int .i64 s) (.int .i64 t) (.int .i64 d)) (Box5 w1 w1.heap.size (.string p) (.int .i64 f) (.int .i64 s) (.int .i64 t) (.int .i64 d)) (Box5 w2 w2.heap.size (.string p) (.int .i64 f) (.int .i64 sent) (.int .i64 term) (.int .i64 d))) => y.ok.c.c4); (repeat (go_big_quiet_step (first | (go_at_call 10; exact held_below (fun _ _ h h' => h.below h' (·.below ·) (·.below ·) (·.below ·)) (awake20_any _)) | (go_at_call 12; first | (with_reducible exact held_below (fun _ _ h h' => h.below h' (·.below ·) (·.below ·) (·.below ·)) (holding_is _ N1.out)) | (with_reducible exact held_below (fun _ _ h h' => h.below h' (·.below ·) (·.below ·) (·.below ·)) (holding_is _ N2.out)))))); refine wpQuiet_nil ?_; rintro _ ⟨⟨x, hx⟩, rfl⟩; clear hN)
  clear r0 r1 r2 r3 r4 q0 q1 q2 q3 q4 z0 z1 z2 z3 z4
  go_wp2_with fail
  go_ret
  exact ⟨rfl, hx.a.old⟩

set_option maxHeartbeats 800000 in
theorem rend_new1_early (p : ByteArray) (f s t d sent term now : Int) (w : World) (h : p.size ≤ 400) (hb : soundB ⟨p, f, s, t, d⟩ = true) (hlt : s ≤ sent) (hb2 : soundB ⟨p, f, sent, term, d⟩ = true) (hge : endI ⟨p, f, s, t, d⟩ ≤ endI ⟨p, f, sent, term, d⟩) (hne : (sent == s) = false) (hn : now < sent) :
    Calls Try.prog 4 #[.agg #[.string p, .int .i64 f, .int .i64 s, .int .i64 t, .int .i64 d], .int .i64 sent, .int .i64 term, .int .i64 now] w fun e w' => e = .returned (.bool true) ∧ Below w.heap.size w w' := by
  have HG := Lib.hid hge
  clear hge
  go_enter Try.func4, Try.ntmps4
  go_wp2_with fail
  refine (renewed_new p f s t d sent term _ hb hlt hb2 HG.out).mono ?_
  rintro e w1 ⟨rfl, HB⟩
  have k := (Box5.new w (.string p) (.int .i64 f) (.int .i64 s) (.int .i64 t) (.int .i64 d) 23).below HB
  (have k' := k; obtain ⟨c0, c1, c2, c3, c4, lt_k, _, fz_k⟩ := k')
  go_wp2_with fail
  refine (begin_yes _ _ _ _ _ _ hb2).mono ?_
  rintro e w2 ⟨rfl, HB2⟩
  have k2 := (k.alloc _).below HB2
  have j2 := (Box5.new w1 (.string p) (.int .i64 f) (.int .i64 sent) (.int .i64 term) (.int .i64 d) 23).below HB2
  clear c0 c1 c2 c3 c4
  (have k2' := k2; obtain ⟨c0, c1, c2, c3, c4, lt_k2, _, fz_k2⟩ := k2')
  (have j2' := j2; obtain ⟨e0, e1, e2, e3, e4, lt_j2, _, fz_j2⟩ := j2')
  go_wp2_with (go_at_call 10; refine (awake20_any _).mono ?_; rintro e w3 ⟨rfl, HB3⟩)
  all_goals (go_ret; exact ⟨rfl, ((k2.alloc _).below HB3).old⟩)

set_option maxHeartbeats 800000 in
theorem rend_new1_a (p : ByteArray) (f s t d sent term now : Int) (w : World) (h : p.size ≤ 400) (hb : soundB ⟨p, f, s, t, d⟩ = true) (hlt : s ≤ sent) (hb2 : soundB ⟨p, f, sent, term, d⟩ = true) (hge : endI ⟨p, f, s, t, d⟩ ≤ endI ⟨p, f, sent, term, d⟩) (hne : (sent == s) = false) (hn : sent ≤ now) (n1 : holdB ⟨p, f, s, t, d⟩ now = true) (n2 : holdB ⟨p, f, sent, term, d⟩ now = true) :
    Calls Try.prog 4 #[.agg #[.string p, .int .i64 f, .int .i64 s, .int .i64 t, .int .i64 d], .int .i64 sent, .int .i64 term, .int .i64 now] w fun e w' => e = .returned (.bool true) ∧ Below w.heap.size w w' := by
  have HG := Lib.hid hge
  clear hge
  have N1 := Lib.hid n1
  have N2 := Lib.hid n2
  clear n1 n2
  go_enter Try.func4, Try.ntmps4
  go_wp2_with fail
  refine (renewed_new p f s t d sent term _ hb hlt hb2 HG.out).mono ?_
  rintro e w1 ⟨rfl, HB⟩
  have k := (Box5.new w (.string p) (.int .i64 f) (.int .i64 s) (.int .i64 t) (.int .i64 d) 23).below HB
  (have k' := k; obtain ⟨c0, c1, c2, c3, c4, lt_k, _, fz_k⟩ := k')
  go_wp2_with fail
  refine (begin_yes _ _ _ _ _ _ hb2).mono ?_
  rintro e w2 ⟨rfl, HB2⟩
  have k2 := (k.alloc _).below HB2
  have j2 := (Box5.new w1 (.string p) (.int .i64 f) (.int .i64 sent) (.int .i64 term) (.int .i64 d) 23).below HB2
  clear c0 c1 c2 c3 c4
  (have k2' := k2; obtain ⟨c0, c1, c2, c3, c4, lt_k2, _, fz_k2⟩ := k2')
  (have j2' := j2; obtain ⟨e0, e1, e2, e3, e4, lt_j2, _, fz_j2⟩ := j2')
  go_wp2_with fail
  have hS : B3 (Box5 w w.heap.size (.string p) (.int .i64 f) (.int .i64 s) (.int .i64 t) (.int .i64 d)) (Box5 w1 w1.heap.size (.string p) (.int .i64 f) (.int .i64 sent) (.int .i64 term) (.int .i64 d)) (Box5 w2 w2.heap.size (.string p) (.int .i64 f) (.int .i64 sent) (.int .i64 term) (.int .i64 d)) (w2.alloc (.cells #[.string p, .int .i64 f, .int .i64 sent, .int .i64 term, .int .i64 d] 23)).drew := ⟨(k2.alloc _).drew, (j2.alloc _).drew, (Box5.new w2 _ _ _ _ _ _).drew⟩
  (refine wp_region_s (S := B3 (Box5 w w.heap.size (.string p) (.int .i64 f) (.int .i64 s) (.int .i64 t) (.int .i64 d)) (Box5 w1 w1.heap.size (.string p) (.int .i64 f) (.int .i64 sent) (.int .i64 term) (.int .i64 d)) (Box5 w2 w2.heap.size (.string p) (.int .i64 f) (.int .i64 sent) (.int .i64 term) (.int .i64 d))) (by kernel_rfl) (by kernel_rfl) hS ?_; have hN : Nonempty (Held (B3 (Box5 w w.heap.size (.string p) (.int .i64 f) (.int .i64 s) (.int .i64 t) (.int .i64 d)) (Box5 w1 w1.heap.size (.string p) (.int .i64 f) (.int .i64 sent) (.int .i64 term) (.int .i64 d)) (Box5 w2 w2.heap.size (.string p) (.int .i64 f) (.int .i64 sent) (.int .i64 term) (.int .i64 d)))) := ⟨⟨_, hS⟩⟩; (have r0 := fun y : Held (B3 (Box5 w w.heap.size (.string p) (.int .i64 f) (.int .i64 s) (.int .i64 t) (.int .i64 d)) (Box5 w1 w1.heap.size (.string p) (.int .i64 f) (.int .i64 sent) (.int .i64 term) (.int .i64 d)) (Box5 w2 w2.heap.size (.string p) (.int .i64 f) (.int .i64 sent) (.int .i64 term) (.int .i64 d))) => y.ok.a.c0; have q0 := fun y : Held (B3 (Box5 w w.heap.size (.string p) (.int .i64 f) (.int .i64 s) (.int .i64 t) (.int .i64 d)) (Box5 w1 w1.heap.size (.string p) (.int .i64 f) (.int .i64 sent) (.int .i64 term) (.int .i64 d)) (Box5 w2 w2.heap.size (.string p) (.int .i64 f) (.int .i64 sent) (.int .i64 term) (.int .i64 d))) => y.ok.b.c0; have z0 := fun y : Held (B3 (Box5 w w.heap.size (.string p) (.int .i64 f) (.int .i64 s) (.int .i64 t) (.int .i64 d)) (Box5 w1 w1.heap.size (.string p) (.int .i64 f) (.int .i64 sent) (.int .i64 term) (.int .i64 d)) (Box5 w2 w2.heap.size (.string p) (.int .i64 f) (.int .i64 sent) (.int .i64 term) (.int .i64 d))) => y.ok.c.c0; have r1 := fun y : Held (B3 (Box5 w w.heap.size (.string p) (.int .i64 f) (.int .i64 s) (.int .i64 t) (.int .i64 d)) (Box5 w1 w1.heap.size (.string p) (.int .i64 f) (.int .i64 sent) (.int .i64 term) (.int .i64 d)) (Box5 w2 w2.heap.size (.string p) (.int .i64 f) (.int .i64 sent) (.int .i64 term) (.int .i64 d))) => y.ok.a.c1; have q1 := fun y : Held (B3 (Box5 w w.heap.size (.string p) (.int .i64 f) (.int .i64 s) (.int .i64 t) (.int .i64 d)) (Box5 w1 w1.heap.size (.string p) (.int .i64 f) (.int .i64 sent) (.int .i64 term) (.int .i64 d)) (Box5 w2 w2.heap.size (.string p) (.int .i64 f) (.int .i64 sent) (.int .i64 term) (.int .i64 d))) => y.ok.b.c1; have z1 := fun y : Held (B3 (Box5 w w.heap.size (.string p) (.int .i64 f) (.int .i64 s) (.int .i64 t) (.int .i64 d)) (Box5 w1 w1.heap.size (.string p) (.int .i64 f) (.int .i64 sent) (.int .i64 term) (.int .i64 d)) (Box5 w2 w2.heap.size (.string p) (.int .i64 f) (.int .i64 sent) (.int .i64 term) (.int .i64 d))) => y.ok.c.c1; have r2 := fun y : Held (B3 (Box5 w w.heap.size (.string p) (.int .i64 f) (.int .i64 s) (.int .i64 t) (.int .i64 d)) (Box5 w1 w1.heap.size (.string p) (.int .i64 f) (.int .i64 sent) (.int .i64 term) (.int .i64 d)) (Box5 w2 w2.heap.size (.string p) (.int .i64 f) (.int .i64 sent) (.int .i64 term) (.int .i64 d))) => y.ok.a.c2; have q2 := fun y : Held (B3 (Box5 w w.heap.size (.string p) (.int .i64 f) (.int .i64 s) (.int .i64 t) (.int .i64 d)) (Box5 w1 w1.heap.size (.string p) (.int .i64 f) (.int .i64 sent) (.int .i64 term) (.int .i64 d)) (Box5 w2 w2.heap.size (.string p) (.int .i64 f) (.int .i64 sent) (.int .i64 term) (.int .i64 d))) => y.ok.b.c2; have z2 := fun y : Held (B3 (Box5 w w.heap.size (.string p) (.int .i64 f) (.int .i64 s) (.int .i64 t) (.int .i64 d)) (Box5 w1 w1.heap.size (.string p) (.int .i64 f) (.int .i64 sent) (.int .i64 term) (.int .i64 d)) (Box5 w2 w2.heap.size (.string p) (.int .i64 f) (.int .i64 sent) (.int .i64 term) (.int .i64 d))) => y.ok.c.c2; have r3 := fun y : Held (B3 (Box5 w w.heap.size (.string p) (.int .i64 f) (.int .i64 s) (.int .i64 t) (.int .i64 d)) (Box5 w1 w1.heap.size (.string p) (.int .i64 f) (.int .i64 sent) (.int .i64 term) (.int .i64 d)) (Box5 w2 w2.heap.size (.string p) (.int .i64 f) (.int .i64 sent) (.int .i64 term) (.int .i64 d))) => y.ok.a.c3; have q3 := fun y : Held (B3 (Box5 w w.heap.size (.string p) (.int .i64 f) (.int .i64 s) (.int .i64 t) (.int .i64 d)) (Box5 w1 w1.heap.size (.string p) (.int .i64 f) (.int .i64 sent) (.int .i64 term) (.int .i64 d)) (Box5 w2 w2.heap.size (.string p) (.int .i64 f) (.int .i64 sent) (.int .i64 term) (.int .i64 d))) => y.ok.b.c3; have z3 := fun y : Held (B3 (Box5 w w.heap.size (.string p) (.int .i64 f) (.int .i64 s) (.int .i64 t) (.int .i64 d)) (Box5 w1 w1.heap.size (.string p) (.int .i64 f) (.int .i64 sent) (.int .i64 term) (.int .i64 d)) (Box5 w2 w2.heap.size (.string p) (.int .i64 f) (.int .i64 sent) (.int .i64 term) (.int .i64 d))) => y.ok.c.c3; have r4 := fun y : Held (B3 (Box5 w w.heap.size (.string p) (.int .i64 f) (.int .i64 s) (.int .i64 t) (.int .i64 d)) (Box5 w1 w1.heap.size (.string p) (.int .i64 f) (.int .i64 sent) (.int .i64 term) (.int .i64 d)) (Box5 w2 w2.heap.size (.string p) (.int .i64 f) (.int .i64 sent) (.int .i64 term) (.int .i64 d))) => y.ok.a.c4; have q4 := fun y : Held (B3 (Box5 w w.heap.size (.string p) (.int .i64 f) (.int .i64 s) (.int .i64 t) (.int .i64 d)) (Box5 w1 w1.heap.size (.string p) (.int .i64 f) (.int .i64 sent) (.int .i64 term) (.int .i64 d)) (Box5 w2 w2.heap.size (.string p) (.int .i64 f) (.int .i64 sent) (.int .i64 term) (.int .i64 d))) => y.ok.b.c4; have z4 := fun y : Held (B3 (Box5 w w.heap.size (.string p) (.int .i64 f) (.int .i64 s) (.int .i64 t) (.int .i64 d)) (Box5 w1 w1.heap.size (.string p) (.int .i64 f) (.int .i64 sent) (.int .i64 term) (.int .i64 d)) (Box5 w2 w2.heap.size (.string p) (.int .i64 f) (.int .i64 sent) (.int .i64 term) (.int .i64 d))) => y.ok.c.c4); (repeat (go_big_quiet_step (first | (go_at_call 10; exact held_below (fun _ _ h h' => h.below h' (·.below ·) (·.below ·) (·.below ·)) (awake20_any _)) | (go_at_call 12; first | (with_reducible exact held_below (fun _ _ h h' => h.below h' (·.below ·) (·.below ·) (·.below ·)) (holding_is _ N1.out)) | (with_reducible exact held_below (fun _ _ h h' => h.below h' (·.below ·) (·.below ·) (·.below ·)) (holding_is _ N2.out)))))); refine wpQuiet_nil ?_; rintro _ ⟨⟨x, hx⟩, rfl⟩; clear hN)
  clear r0 r1 r2 r3 r4 q0 q1 q2 q3 q4 z0 z1 z2 z3 z4
  go_wp2_with fail
  go_ret
  exact ⟨rfl, hx.a.old⟩

set_option maxHeartbeats 800000 in
theorem rend_new1_c (p : ByteArray) (f s t d sent term now : Int) (w : World) (h : p.size ≤ 400) (hb : soundB ⟨p, f, s, t, d⟩ = true) (hlt : s ≤ sent) (hb2 : soundB ⟨p, f, sent, term, d⟩ = true) (hge : endI ⟨p, f, s, t, d⟩ ≤ endI ⟨p, f, sent, term, d⟩) (hne : (sent == s) = false) (hn : sent ≤ now) (n1 : holdB ⟨p, f, s, t, d⟩ now = false) (n2 : holdB ⟨p, f, sent, term, d⟩ now = true) :
    Calls Try.prog 4 #[.agg #[.string p, .int .i64 f, .int .i64 s, .int .i64 t, .int .i64 d], .int .i64 sent, .int .i64 term, .int .i64 now] w fun e w' => e = .returned (.bool true) ∧ Below w.heap.size w w' := by
  have HG := Lib.hid hge
  clear hge
  have N1 := Lib.hid n1
  have N2 := Lib.hid n2
  clear n1 n2
  go_enter Try.func4, Try.ntmps4
  go_wp2_with fail
  refine (renewed_new p f s t d sent term _ hb hlt hb2 HG.out).mono ?_
  rintro e w1 ⟨rfl, HB⟩
  have k := (Box5.new w (.string p) (.int .i64 f) (.int .i64 s) (.int .i64 t) (.int .i64 d) 23).below HB
  (have k' := k; obtain ⟨c0, c1, c2, c3, c4, lt_k, _, fz_k⟩ := k')
  go_wp2_with fail
  refine (begin_yes _ _ _ _ _ _ hb2).mono ?_
  rintro e w2 ⟨rfl, HB2⟩
  have k2 := (k.alloc _).below HB2
  have j2 := (Box5.new w1 (.string p) (.int .i64 f) (.int .i64 sent) (.int .i64 term) (.int .i64 d) 23).below HB2
  clear c0 c1 c2 c3 c4
  (have k2' := k2; obtain ⟨c0, c1, c2, c3, c4, lt_k2, _, fz_k2⟩ := k2')
  (have j2' := j2; obtain ⟨e0, e1, e2, e3, e4, lt_j2, _, fz_j2⟩ := j2')
  go_wp2_with fail
  have hS : B3 (Box5 w w.heap.size (.string p) (.int .i64 f) (.int .i64 s) (.int .i64 t) (.int .i64 d)) (Box5 w1 w1.heap.size (.string p) (.int .i64 f) (.int .i64 sent) (.int .i64 term) (.int .i64 d)) (Box5 w2 w2.heap.size (.string p) (.int .i64 f) (.int .i64 sent) (.int .i64 term) (.int .i64 d)) (w2.alloc (.cells #[.string p, .int .i64 f, .int .i64 sent, .int .i64 term, .int .i64 d] 23)).drew := ⟨(k2.alloc _).drew, (j2.alloc _).drew, (Box5.new w2 _ _ _ _ _ _).drew⟩
  (refine wp_region_s (S := B3 (Box5 w w.heap.size (.string p) (.int .i64 f) (.int .i64 s) (.int .i64 t) (.int .i64 d)) (Box5 w1 w1.heap.size (.string p) (.int .i64 f) (.int .i64 sent) (.int .i64 term) (.int .i64 d)) (Box5 w2 w2.heap.size (.string p) (.int .i64 f) (.int .i64 sent) (.int .i64 term) (.int .i64 d))) (by kernel_rfl) (by kernel_rfl) hS ?_; have hN : Nonempty (Held (B3 (Box5 w w.heap.size (.string p) (.int .i64 f) (.int .i64 s) (.int .i64 t) (.int .i64 d)) (Box5 w1 w1.heap.size (.string p) (.int .i64 f) (.int .i64 sent) (.int .i64 term) (.int .i64 d)) (Box5 w2 w2.heap.size (.string p) (.int .i64 f) (.int .i64 sent) (.int .i64 term) (.int .i64 d)))) := ⟨⟨_, hS⟩⟩; (have r0 := fun y : Held (B3 (Box5 w w.heap.size (.string p) (.int .i64 f) (.int .i64 s) (.int .i64 t) (.int .i64 d)) (Box5 w1 w1.heap.size (.string p) (.int .i64 f) (.int .i64 sent) (.int .i64 term) (.int .i64 d)) (Box5 w2 w2.heap.size (.string p) (.int .i64 f) (.int .i64 sent) (.int .i64 term) (.int .i64 d))) => y.ok.a.c0; have q0 := fun y : Held (B3 (Box5 w w.heap.size (.string p) (.int .i64 f) (.int .i64 s) (.int .i64 t) (.int .i64 d)) (Box5 w1 w1.heap.size (.string p) (.int .i64 f) (.int .i64 sent) (.int .i64 term) (.int .i64 d)) (Box5 w2 w2.heap.size (.string p) (.int .i64 f) (.int .i64 sent) (.int .i64 term) (.int .i64 d))) => y.ok.b.c0; have z0 := fun y : Held (B3 (Box5 w w.heap.size (.string p) (.int .i64 f) (.int .i64 s) (.int .i64 t) (.int .i64 d)) (Box5 w1 w1.heap.size (.string p) (.int .i64 f) (.int .i64 sent) (.int .i64 term) (.int .i64 d)) (Box5 w2 w2.heap.size (.string p) (.int .i64 f) (.int .i64 sent) (.int .i64 term) (.int .i64 d))) => y.ok.c.c0; have r1 := fun y : Held (B3 (Box5 w w.heap.size (.string p) (.int .i64 f) (.int .i64 s) (.int .i64 t) (.int .i64 d)) (Box5 w1 w1.heap.size (.string p) (.int .i64 f) (.int .i64 sent) (.int .i64 term) (.int .i64 d)) (Box5 w2 w2.heap.size (.string p) (.int .i64 f) (.int .i64 sent) (.int .i64 term) (.int .i64 d))) => y.ok.a.c1; have q1 := fun y : Held (B3 (Box5 w w.heap.size (.string p) (.int .i64 f) (.int .i64 s) (.int .i64 t) (.int .i64 d)) (Box5 w1 w1.heap.size (.string p) (.int .i64 f) (.int .i64 sent) (.int .i64 term) (.int .i64 d)) (Box5 w2 w2.heap.size (.string p) (.int .i64 f) (.int .i64 sent) (.int .i64 term) (.int .i64 d))) => y.ok.b.c1; have z1 := fun y : Held (B3 (Box5 w w.heap.size (.string p) (.int .i64 f) (.int .i64 s) (.int .i64 t) (.int .i64 d)) (Box5 w1 w1.heap.size (.string p) (.int .i64 f) (.int .i64 sent) (.int .i64 term) (.int .i64 d)) (Box5 w2 w2.heap.size (.string p) (.int .i64 f) (.int .i64 sent) (.int .i64 term) (.int .i64 d))) => y.ok.c.c1; have r2 := fun y : Held (B3 (Box5 w w.heap.size (.string p) (.int .i64 f) (.int .i64 s) (.int .i64 t) (.int .i64 d)) (Box5 w1 w1.heap.size (.string p) (.int .i64 f) (.int .i64 sent) (.int .i64 term) (.int .i64 d)) (Box5 w2 w2.heap.size (.string p) (.int .i64 f) (.int .i64 sent) (.int .i64 term) (.int .i64 d))) => y.ok.a.c2; have q2 := fun y : Held (B3 (Box5 w w.heap.size (.string p) (.int .i64 f) (.int .i64 s) (.int .i64 t) (.int .i64 d)) (Box5 w1 w1.heap.size (.string p) (.int .i64 f) (.int .i64 sent) (.int .i64 term) (.int .i64 d)) (Box5 w2 w2.heap.size (.string p) (.int .i64 f) (.int .i64 sent) (.int .i64 term) (.int .i64 d))) => y.ok.b.c2; have z2 := fun y : Held (B3 (Box5 w w.heap.size (.string p) (.int .i64 f) (.int .i64 s) (.int .i64 t) (.int .i64 d)) (Box5 w1 w1.heap.size (.string p) (.int .i64 f) (.int .i64 sent) (.int .i64 term) (.int .i64 d)) (Box5 w2 w2.heap.size (.string p) (.int .i64 f) (.int .i64 sent) (.int .i64 term) (.int .i64 d))) => y.ok.c.c2; have r3 := fun y : Held (B3 (Box5 w w.heap.size (.string p) (.int .i64 f) (.int .i64 s) (.int .i64 t) (.int .i64 d)) (Box5 w1 w1.heap.size (.string p) (.int .i64 f) (.int .i64 sent) (.int .i64 term) (.int .i64 d)) (Box5 w2 w2.heap.size (.string p) (.int .i64 f) (.int .i64 sent) (.int .i64 term) (.int .i64 d))) => y.ok.a.c3; have q3 := fun y : Held (B3 (Box5 w w.heap.size (.string p) (.int .i64 f) (.int .i64 s) (.int .i64 t) (.int .i64 d)) (Box5 w1 w1.heap.size (.string p) (.int .i64 f) (.int .i64 sent) (.int .i64 term) (.int .i64 d)) (Box5 w2 w2.heap.size (.string p) (.int .i64 f) (.int .i64 sent) (.int .i64 term) (.int .i64 d))) => y.ok.b.c3; have z3 := fun y : Held (B3 (Box5 w w.heap.size (.string p) (.int .i64 f) (.int .i64 s) (.int .i64 t) (.int .i64 d)) (Box5 w1 w1.heap.size (.string p) (.int .i64 f) (.int .i64 sent) (.int .i64 term) (.int .i64 d)) (Box5 w2 w2.heap.size (.string p) (.int .i64 f) (.int .i64 sent) (.int .i64 term) (.int .i64 d))) => y.ok.c.c3; have r4 := fun y : Held (B3 (Box5 w w.heap.size (.string p) (.int .i64 f) (.int .i64 s) (.int .i64 t) (.int .i64 d)) (Box5 w1 w1.heap.size (.string p) (.int .i64 f) (.int .i64 sent) (.int .i64 term) (.int .i64 d)) (Box5 w2 w2.heap.size (.string p) (.int .i64 f) (.int .i64 sent) (.int .i64 term) (.int .i64 d))) => y.ok.a.c4; have q4 := fun y : Held (B3 (Box5 w w.heap.size (.string p) (.int .i64 f) (.int .i64 s) (.int .i64 t) (.int .i64 d)) (Box5 w1 w1.heap.size (.string p) (.int .i64 f) (.int .i64 sent) (.int .i64 term) (.int .i64 d)) (Box5 w2 w2.heap.size (.string p) (.int .i64 f) (.int .i64 sent) (.int .i64 term) (.int .i64 d))) => y.ok.b.c4; have z4 := fun y : Held (B3 (Box5 w w.heap.size (.string p) (.int .i64 f) (.int .i64 s) (.int .i64 t) (.int .i64 d)) (Box5 w1 w1.heap.size (.string p) (.int .i64 f) (.int .i64 sent) (.int .i64 term) (.int .i64 d)) (Box5 w2 w2.heap.size (.string p) (.int .i64 f) (.int .i64 sent) (.int .i64 term) (.int .i64 d))) => y.ok.c.c4); (repeat (go_big_quiet_step (first | (go_at_call 10; exact held_below (fun _ _ h h' => h.below h' (·.below ·) (·.below ·) (·.below ·)) (awake20_any _)) | (go_at_call 12; first | (with_reducible exact held_below (fun _ _ h h' => h.below h' (·.below ·) (·.below ·) (·.below ·)) (holding_is _ N1.out)) | (with_reducible exact held_below (fun _ _ h h' => h.below h' (·.below ·) (·.below ·) (·.below ·)) (holding_is _ N2.out)))))); refine wpQuiet_nil ?_; rintro _ ⟨⟨x, hx⟩, rfl⟩; clear hN)
  clear r0 r1 r2 r3 r4 q0 q1 q2 q3 q4 z0 z1 z2 z3 z4
  go_wp2_with fail
  go_ret
  exact ⟨rfl, hx.a.old⟩

set_option maxHeartbeats 800000 in
theorem rend_new1_d (p : ByteArray) (f s t d sent term now : Int) (w : World) (h : p.size ≤ 400) (hb : soundB ⟨p, f, s, t, d⟩ = true) (hlt : s ≤ sent) (hb2 : soundB ⟨p, f, sent, term, d⟩ = true) (hge : endI ⟨p, f, s, t, d⟩ ≤ endI ⟨p, f, sent, term, d⟩) (hne : (sent == s) = false) (hn : sent ≤ now) (n1 : holdB ⟨p, f, s, t, d⟩ now = false) (n2 : holdB ⟨p, f, sent, term, d⟩ now = false) :
    Calls Try.prog 4 #[.agg #[.string p, .int .i64 f, .int .i64 s, .int .i64 t, .int .i64 d], .int .i64 sent, .int .i64 term, .int .i64 now] w fun e w' => e = .returned (.bool true) ∧ Below w.heap.size w w' := by
  have HG := Lib.hid hge
  clear hge
  have N1 := Lib.hid n1
  have N2 := Lib.hid n2
  clear n1 n2
  go_enter Try.func4, Try.ntmps4
  go_wp2_with fail
  refine (renewed_new p f s t d sent term _ hb hlt hb2 HG.out).mono ?_
  rintro e w1 ⟨rfl, HB⟩
  have k := (Box5.new w (.string p) (.int .i64 f) (.int .i64 s) (.int .i64 t) (.int .i64 d) 23).below HB
  (have k' := k; obtain ⟨c0, c1, c2, c3, c4, lt_k, _, fz_k⟩ := k')
  go_wp2_with fail
  refine (begin_yes _ _ _ _ _ _ hb2).mono ?_
  rintro e w2 ⟨rfl, HB2⟩
  have k2 := (k.alloc _).below HB2
  have j2 := (Box5.new w1 (.string p) (.int .i64 f) (.int .i64 sent) (.int .i64 term) (.int .i64 d) 23).below HB2
  clear c0 c1 c2 c3 c4
  (have k2' := k2; obtain ⟨c0, c1, c2, c3, c4, lt_k2, _, fz_k2⟩ := k2')
  (have j2' := j2; obtain ⟨e0, e1, e2, e3, e4, lt_j2, _, fz_j2⟩ := j2')
  go_wp2_with fail
  have hS : B3 (Box5 w w.heap.size (.string p) (.int .i64 f) (.int .i64 s) (.int .i64 t) (.int .i64 d)) (Box5 w1 w1.heap.size (.string p) (.int .i64 f) (.int .i64 sent) (.int .i64 term) (.int .i64 d)) (Box5 w2 w2.heap.size (.string p) (.int .i64 f) (.int .i64 sent) (.int .i64 term) (.int .i64 d)) (w2.alloc (.cells #[.string p, .int .i64 f, .int .i64 sent, .int .i64 term, .int .i64 d] 23)).drew := ⟨(k2.alloc _).drew, (j2.alloc _).drew, (Box5.new w2 _ _ _ _ _ _).drew⟩
  (refine wp_region_s (S := B3 (Box5 w w.heap.size (.string p) (.int .i64 f) (.int .i64 s) (.int .i64 t) (.int .i64 d)) (Box5 w1 w1.heap.size (.string p) (.int .i64 f) (.int .i64 sent) (.int .i64 term) (.int .i64 d)) (Box5 w2 w2.heap.size (.string p) (.int .i64 f) (.int .i64 sent) (.int .i64 term) (.int .i64 d))) (by kernel_rfl) (by kernel_rfl) hS ?_; have hN : Nonempty (Held (B3 (Box5 w w.heap.size (.string p) (.int .i64 f) (.int .i64 s) (.int .i64 t) (.int .i64 d)) (Box5 w1 w1.heap.size (.string p) (.int .i64 f) (.int .i64 sent) (.int .i64 term) (.int .i64 d)) (Box5 w2 w2.heap.size (.string p) (.int .i64 f) (.int .i64 sent) (.int .i64 term) (.int .i64 d)))) := ⟨⟨_, hS⟩⟩; (have r0 := fun y : Held (B3 (Box5 w w.heap.size (.string p) (.int .i64 f) (.int .i64 s) (.int .i64 t) (.int .i64 d)) (Box5 w1 w1.heap.size (.string p) (.int .i64 f) (.int .i64 sent) (.int .i64 term) (.int .i64 d)) (Box5 w2 w2.heap.size (.string p) (.int .i64 f) (.int .i64 sent) (.int .i64 term) (.int .i64 d))) => y.ok.a.c0; have q0 := fun y : Held (B3 (Box5 w w.heap.size (.string p) (.int .i64 f) (.int .i64 s) (.int .i64 t) (.int .i64 d)) (Box5 w1 w1.heap.size (.string p) (.int .i64 f) (.int .i64 sent) (.int .i64 term) (.int .i64 d)) (Box5 w2 w2.heap.size (.string p) (.int .i64 f) (.int .i64 sent) (.int .i64 term) (.int .i64 d))) => y.ok.b.c0; have z0 := fun y : Held (B3 (Box5 w w.heap.size (.string p) (.int .i64 f) (.int .i64 s) (.int .i64 t) (.int .i64 d)) (Box5 w1 w1.heap.size (.string p) (.int .i64 f) (.int .i64 sent) (.int .i64 term) (.int .i64 d)) (Box5 w2 w2.heap.size (.string p) (.int .i64 f) (.int .i64 sent) (.int .i64 term) (.int .i64 d))) => y.ok.c.c0; have r1 := fun y : Held (B3 (Box5 w w.heap.size (.string p) (.int .i64 f) (.int .i64 s) (.int .i64 t) (.int .i64 d)) (Box5 w1 w1.heap.size (.string p) (.int .i64 f) (.int .i64 sent) (.int .i64 term) (.int .i64 d)) (Box5 w2 w2.heap.size (.string p) (.int .i64 f) (.int .i64 sent) (.int .i64 term) (.int .i64 d))) => y.ok.a.c1; have q1 := fun y : Held (B3 (Box5 w w.heap.size (.string p) (.int .i64 f) (.int .i64 s) (.int .i64 t) (.int .i64 d)) (Box5 w1 w1.heap.size (.string p) (.int .i64 f) (.int .i64 sent) (.int .i64 term) (.int .i64 d)) (Box5 w2 w2.heap.size (.string p) (.int .i64 f) (.int .i64 sent) (.int .i64 term) (.int .i64 d))) => y.ok.b.c1; have z1 := fun y : Held (B3 (Box5 w w.heap.size (.string p) (.int .i64 f) (.int .i64 s) (.int .i64 t) (.int .i64 d)) (Box5 w1 w1.heap.size (.string p) (.int .i64 f) (.int .i64 sent) (.int .i64 term) (.int .i64 d)) (Box5 w2 w2.heap.size (.string p) (.int .i64 f) (.int .i64 sent) (.int .i64 term) (.int .i64 d))) => y.ok.c.c1; have r2 := fun y : Held (B3 (Box5 w w.heap.size (.string p) (.int .i64 f) (.int .i64 s) (.int .i64 t) (.int .i64 d)) (Box5 w1 w1.heap.size (.string p) (.int .i64 f) (.int .i64 sent) (.int .i64 term) (.int .i64 d)) (Box5 w2 w2.heap.size (.string p) (.int .i64 f) (.int .i64 sent) (.int .i64 term) (.int .i64 d))) => y.ok.a.c2; have q2 := fun y : Held (B3 (Box5 w w.heap.size (.string p) (.int .i64 f) (.int .i64 s) (.int .i64 t) (.int .i64 d)) (Box5 w1 w1.heap.size (.string p) (.int .i64 f) (.int .i64 sent) (.int .i64 term) (.int .i64 d)) (Box5 w2 w2.heap.size (.string p) (.int .i64 f) (.int .i64 sent) (.int .i64 term) (.int .i64 d))) => y.ok.b.c2; have z2 := fun y : Held (B3 (Box5 w w.heap.size (.string p) (.int .i64 f) (.int .i64 s) (.int .i64 t) (.int .i64 d)) (Box5 w1 w1.heap.size (.string p) (.int .i64 f) (.int .i64 sent) (.int .i64 term) (.int .i64 d)) (Box5 w2 w2.heap.size (.string p) (.int .i64 f) (.int .i64 sent) (.int .i64 term) (.int .i64 d))) => y.ok.c.c2; have r3 := fun y : Held (B3 (Box5 w w.heap.size (.string p) (.int .i64 f) (.int .i64 s) (.int .i64 t) (.int .i64 d)) (Box5 w1 w1.heap.size (.string p) (.int .i64 f) (.int .i64 sent) (.int .i64 term) (.int .i64 d)) (Box5 w2 w2.heap.size (.string p) (.int .i64 f) (.int .i64 sent) (.int .i64 term) (.int .i64 d))) => y.ok.a.c3; have q3 := fun y : Held (B3 (Box5 w w.heap.size (.string p) (.int .i64 f) (.int .i64 s) (.int .i64 t) (.int .i64 d)) (Box5 w1 w1.heap.size (.string p) (.int .i64 f) (.int .i64 sent) (.int .i64 term) (.int .i64 d)) (Box5 w2 w2.heap.size (.string p) (.int .i64 f) (.int .i64 sent) (.int .i64 term) (.int .i64 d))) => y.ok.b.c3; have z3 := fun y : Held (B3 (Box5 w w.heap.size (.string p) (.int .i64 f) (.int .i64 s) (.int .i64 t) (.int .i64 d)) (Box5 w1 w1.heap.size (.string p) (.int .i64 f) (.int .i64 sent) (.int .i64 term) (.int .i64 d)) (Box5 w2 w2.heap.size (.string p) (.int .i64 f) (.int .i64 sent) (.int .i64 term) (.int .i64 d))) => y.ok.c.c3; have r4 := fun y : Held (B3 (Box5 w w.heap.size (.string p) (.int .i64 f) (.int .i64 s) (.int .i64 t) (.int .i64 d)) (Box5 w1 w1.heap.size (.string p) (.int .i64 f) (.int .i64 sent) (.int .i64 term) (.int .i64 d)) (Box5 w2 w2.heap.size (.string p) (.int .i64 f) (.int .i64 sent) (.int .i64 term) (.int .i64 d))) => y.ok.a.c4; have q4 := fun y : Held (B3 (Box5 w w.heap.size (.string p) (.int .i64 f) (.int .i64 s) (.int .i64 t) (.int .i64 d)) (Box5 w1 w1.heap.size (.string p) (.int .i64 f) (.int .i64 sent) (.int .i64 term) (.int .i64 d)) (Box5 w2 w2.heap.size (.string p) (.int .i64 f) (.int .i64 sent) (.int .i64 term) (.int .i64 d))) => y.ok.b.c4; have z4 := fun y : Held (B3 (Box5 w w.heap.size (.string p) (.int .i64 f) (.int .i64 s) (.int .i64 t) (.int .i64 d)) (Box5 w1 w1.heap.size (.string p) (.int .i64 f) (.int .i64 sent) (.int .i64 term) (.int .i64 d)) (Box5 w2 w2.heap.size (.string p) (.int .i64 f) (.int .i64 sent) (.int .i64 term) (.int .i64 d))) => y.ok.c.c4); (repeat (go_big_quiet_step (first | (go_at_call 10; exact held_below (fun _ _ h h' => h.below h' (·.below ·) (·.below ·) (·.below ·)) (awake20_any _)) | (go_at_call 12; first | (with_reducible exact held_below (fun _ _ h h' => h.below h' (·.below ·) (·.below ·) (·.below ·)) (holding_is _ N1.out)) | (with_reducible exact held_below (fun _ _ h h' => h.below h' (·.below ·) (·.below ·) (·.below ·)) (holding_is _ N2.out)))))); refine wpQuiet_nil ?_; rintro _ ⟨⟨x, hx⟩, rfl⟩; clear hN)
  clear r0 r1 r2 r3 r4 q0 q1 q2 q3 q4 z0 z1 z2 z3 z4
  go_wp2_with fail
  go_ret
  exact ⟨rfl, hx.a.old⟩

set_option maxHeartbeats 800000 in
theorem rend_new2_early (p : ByteArray) (f s t d term now : Int) (w : World) (h : p.size ≤ 400) (hb : soundB ⟨p, f, s, t, d⟩ = true) (hlt : s ≤ s) (hb2 : soundB ⟨p, f, s, term, d⟩ = true) (hge : endI ⟨p, f, s, t, d⟩ ≤ endI ⟨p, f, s, term, d⟩) (hne : (term == t) = false) (hn : now < s) :
    Calls Try.prog 4 #[.agg #[.string p, .int .i64 f, .int .i64 s, .int .i64 t, .int .i64 d], .int .i64 s, .int .i64 term, .int .i64 now] w fun e w' => e = .returned (.bool true) ∧ Below w.heap.size w w' := by
  have HG := Lib.hid hge
  clear hge
  go_enter Try.func4, Try.ntmps4
  go_wp2_with fail
  refine (renewed_new p f s t d s term _ hb hlt hb2 HG.out).mono ?_
  rintro e w1 ⟨rfl, HB⟩
  have k := (Box5.new w (.string p) (.int .i64 f) (.int .i64 s) (.int .i64 t) (.int .i64 d) 23).below HB
  (have k' := k; obtain ⟨c0, c1, c2, c3, c4, lt_k, _, fz_k⟩ := k')
  go_wp2_with fail
  refine (begin_yes _ _ _ _ _ _ hb2).mono ?_
  rintro e w2 ⟨rfl, HB2⟩
  have k2 := (k.alloc _).below HB2
  have j2 := (Box5.new w1 (.string p) (.int .i64 f) (.int .i64 s) (.int .i64 term) (.int .i64 d) 23).below HB2
  clear c0 c1 c2 c3 c4
  (have k2' := k2; obtain ⟨c0, c1, c2, c3, c4, lt_k2, _, fz_k2⟩ := k2')
  (have j2' := j2; obtain ⟨e0, e1, e2, e3, e4, lt_j2, _, fz_j2⟩ := j2')
  go_wp2_with (go_at_call 10; refine (awake20_any _).mono ?_; rintro e w3 ⟨rfl, HB3⟩)
  all_goals (go_ret; exact ⟨rfl, ((k2.alloc _).below HB3).old⟩)

set_option maxHeartbeats 800000 in
theorem rend_new2_a (p : ByteArray) (f s t d term now : Int) (w : World) (h : p.size ≤ 400) (hb : soundB ⟨p, f, s, t, d⟩ = true) (hlt : s ≤ s) (hb2 : soundB ⟨p, f, s, term, d⟩ = true) (hge : endI ⟨p, f, s, t, d⟩ ≤ endI ⟨p, f, s, term, d⟩) (hne : (term == t) = false) (hn : s ≤ now) (n1 : holdB ⟨p, f, s, t, d⟩ now = true) (n2 : holdB ⟨p, f, s, term, d⟩ now = true) :
    Calls Try.prog 4 #[.agg #[.string p, .int .i64 f, .int .i64 s, .int .i64 t, .int .i64 d], .int .i64 s, .int .i64 term, .int .i64 now] w fun e w' => e = .returned (.bool true) ∧ Below w.heap.size w w' := by
  have HG := Lib.hid hge
  clear hge
  have N1 := Lib.hid n1
  have N2 := Lib.hid n2
  clear n1 n2
  go_enter Try.func4, Try.ntmps4
  go_wp2_with fail
  refine (renewed_new p f s t d s term _ hb hlt hb2 HG.out).mono ?_
  rintro e w1 ⟨rfl, HB⟩
  have k := (Box5.new w (.string p) (.int .i64 f) (.int .i64 s) (.int .i64 t) (.int .i64 d) 23).below HB
  (have k' := k; obtain ⟨c0, c1, c2, c3, c4, lt_k, _, fz_k⟩ := k')
  go_wp2_with fail
  refine (begin_yes _ _ _ _ _ _ hb2).mono ?_
  rintro e w2 ⟨rfl, HB2⟩
  have k2 := (k.alloc _).below HB2
  have j2 := (Box5.new w1 (.string p) (.int .i64 f) (.int .i64 s) (.int .i64 term) (.int .i64 d) 23).below HB2
  clear c0 c1 c2 c3 c4
  (have k2' := k2; obtain ⟨c0, c1, c2, c3, c4, lt_k2, _, fz_k2⟩ := k2')
  (have j2' := j2; obtain ⟨e0, e1, e2, e3, e4, lt_j2, _, fz_j2⟩ := j2')
  go_wp2_with fail
  have hS : B3 (Box5 w w.heap.size (.string p) (.int .i64 f) (.int .i64 s) (.int .i64 t) (.int .i64 d)) (Box5 w1 w1.heap.size (.string p) (.int .i64 f) (.int .i64 s) (.int .i64 term) (.int .i64 d)) (Box5 w2 w2.heap.size (.string p) (.int .i64 f) (.int .i64 s) (.int .i64 term) (.int .i64 d)) (w2.alloc (.cells #[.string p, .int .i64 f, .int .i64 s, .int .i64 term, .int .i64 d] 23)).drew := ⟨(k2.alloc _).drew, (j2.alloc _).drew, (Box5.new w2 _ _ _ _ _ _).drew⟩
  (refine wp_region_s (S := B3 (Box5 w w.heap.size (.string p) (.int .i64 f) (.int .i64 s) (.int .i64 t) (.int .i64 d)) (Box5 w1 w1.heap.size (.string p) (.int .i64 f) (.int .i64 s) (.int .i64 term) (.int .i64 d)) (Box5 w2 w2.heap.size (.string p) (.int .i64 f) (.int .i64 s) (.int .i64 term) (.int .i64 d))) (by kernel_rfl) (by kernel_rfl) hS ?_; have hN : Nonempty (Held (B3 (Box5 w w.heap.size (.string p) (.int .i64 f) (.int .i64 s) (.int .i64 t) (.int .i64 d)) (Box5 w1 w1.heap.size (.string p) (.int .i64 f) (.int .i64 s) (.int .i64 term) (.int .i64 d)) (Box5 w2 w2.heap.size (.string p) (.int .i64 f) (.int .i64 s) (.int .i64 term) (.int .i64 d)))) := ⟨⟨_, hS⟩⟩; (have r0 := fun y : Held (B3 (Box5 w w.heap.size (.string p) (.int .i64 f) (.int .i64 s) (.int .i64 t) (.int .i64 d)) (Box5 w1 w1.heap.size (.string p) (.int .i64 f) (.int .i64 s) (.int .i64 term) (.int .i64 d)) (Box5 w2 w2.heap.size (.string p) (.int .i64 f) (.int .i64 s) (.int .i64 term) (.int .i64 d))) => y.ok.a.c0; have q0 := fun y : Held (B3 (Box5 w w.heap.size (.string p) (.int .i64 f) (.int .i64 s) (.int .i64 t) (.int .i64 d)) (Box5 w1 w1.heap.size (.string p) (.int .i64 f) (.int .i64 s) (.int .i64 term) (.int .i64 d)) (Box5 w2 w2.heap.size (.string p) (.int .i64 f) (.int .i64 s) (.int .i64 term) (.int .i64 d))) => y.ok.b.c0; have z0 := fun y : Held (B3 (Box5 w w.heap.size (.string p) (.int .i64 f) (.int .i64 s) (.int .i64 t) (.int .i64 d)) (Box5 w1 w1.heap.size (.string p) (.int .i64 f) (.int .i64 s) (.int .i64 term) (.int .i64 d)) (Box5 w2 w2.heap.size (.string p) (.int .i64 f) (.int .i64 s) (.int .i64 term) (.int .i64 d))) => y.ok.c.c0; have r1 := fun y : Held (B3 (Box5 w w.heap.size (.string p) (.int .i64 f) (.int .i64 s) (.int .i64 t) (.int .i64 d)) (Box5 w1 w1.heap.size (.string p) (.int .i64 f) (.int .i64 s) (.int .i64 term) (.int .i64 d)) (Box5 w2 w2.heap.size (.string p) (.int .i64 f) (.int .i64 s) (.int .i64 term) (.int .i64 d))) => y.ok.a.c1; have q1 := fun y : Held (B3 (Box5 w w.heap.size (.string p) (.int .i64 f) (.int .i64 s) (.int .i64 t) (.int .i64 d)) (Box5 w1 w1.heap.size (.string p) (.int .i64 f) (.int .i64 s) (.int .i64 term) (.int .i64 d)) (Box5 w2 w2.heap.size (.string p) (.int .i64 f) (.int .i64 s) (.int .i64 term) (.int .i64 d))) => y.ok.b.c1; have z1 := fun y : Held (B3 (Box5 w w.heap.size (.string p) (.int .i64 f) (.int .i64 s) (.int .i64 t) (.int .i64 d)) (Box5 w1 w1.heap.size (.string p) (.int .i64 f) (.int .i64 s) (.int .i64 term) (.int .i64 d)) (Box5 w2 w2.heap.size (.string p) (.int .i64 f) (.int .i64 s) (.int .i64 term) (.int .i64 d))) => y.ok.c.c1; have r2 := fun y : Held (B3 (Box5 w w.heap.size (.string p) (.int .i64 f) (.int .i64 s) (.int .i64 t) (.int .i64 d)) (Box5 w1 w1.heap.size (.string p) (.int .i64 f) (.int .i64 s) (.int .i64 term) (.int .i64 d)) (Box5 w2 w2.heap.size (.string p) (.int .i64 f) (.int .i64 s) (.int .i64 term) (.int .i64 d))) => y.ok.a.c2; have q2 := fun y : Held (B3 (Box5 w w.heap.size (.string p) (.int .i64 f) (.int .i64 s) (.int .i64 t) (.int .i64 d)) (Box5 w1 w1.heap.size (.string p) (.int .i64 f) (.int .i64 s) (.int .i64 term) (.int .i64 d)) (Box5 w2 w2.heap.size (.string p) (.int .i64 f) (.int .i64 s) (.int .i64 term) (.int .i64 d))) => y.ok.b.c2; have z2 := fun y : Held (B3 (Box5 w w.heap.size (.string p) (.int .i64 f) (.int .i64 s) (.int .i64 t) (.int .i64 d)) (Box5 w1 w1.heap.size (.string p) (.int .i64 f) (.int .i64 s) (.int .i64 term) (.int .i64 d)) (Box5 w2 w2.heap.size (.string p) (.int .i64 f) (.int .i64 s) (.int .i64 term) (.int .i64 d))) => y.ok.c.c2; have r3 := fun y : Held (B3 (Box5 w w.heap.size (.string p) (.int .i64 f) (.int .i64 s) (.int .i64 t) (.int .i64 d)) (Box5 w1 w1.heap.size (.string p) (.int .i64 f) (.int .i64 s) (.int .i64 term) (.int .i64 d)) (Box5 w2 w2.heap.size (.string p) (.int .i64 f) (.int .i64 s) (.int .i64 term) (.int .i64 d))) => y.ok.a.c3; have q3 := fun y : Held (B3 (Box5 w w.heap.size (.string p) (.int .i64 f) (.int .i64 s) (.int .i64 t) (.int .i64 d)) (Box5 w1 w1.heap.size (.string p) (.int .i64 f) (.int .i64 s) (.int .i64 term) (.int .i64 d)) (Box5 w2 w2.heap.size (.string p) (.int .i64 f) (.int .i64 s) (.int .i64 term) (.int .i64 d))) => y.ok.b.c3; have z3 := fun y : Held (B3 (Box5 w w.heap.size (.string p) (.int .i64 f) (.int .i64 s) (.int .i64 t) (.int .i64 d)) (Box5 w1 w1.heap.size (.string p) (.int .i64 f) (.int .i64 s) (.int .i64 term) (.int .i64 d)) (Box5 w2 w2.heap.size (.string p) (.int .i64 f) (.int .i64 s) (.int .i64 term) (.int .i64 d))) => y.ok.c.c3; have r4 := fun y : Held (B3 (Box5 w w.heap.size (.string p) (.int .i64 f) (.int .i64 s) (.int .i64 t) (.int .i64 d)) (Box5 w1 w1.heap.size (.string p) (.int .i64 f) (.int .i64 s) (.int .i64 term) (.int .i64 d)) (Box5 w2 w2.heap.size (.string p) (.int .i64 f) (.int .i64 s) (.int .i64 term) (.int .i64 d))) => y.ok.a.c4; have q4 := fun y : Held (B3 (Box5 w w.heap.size (.string p) (.int .i64 f) (.int .i64 s) (.int .i64 t) (.int .i64 d)) (Box5 w1 w1.heap.size (.string p) (.int .i64 f) (.int .i64 s) (.int .i64 term) (.int .i64 d)) (Box5 w2 w2.heap.size (.string p) (.int .i64 f) (.int .i64 s) (.int .i64 term) (.int .i64 d))) => y.ok.b.c4; have z4 := fun y : Held (B3 (Box5 w w.heap.size (.string p) (.int .i64 f) (.int .i64 s) (.int .i64 t) (.int .i64 d)) (Box5 w1 w1.heap.size (.string p) (.int .i64 f) (.int .i64 s) (.int .i64 term) (.int .i64 d)) (Box5 w2 w2.heap.size (.string p) (.int .i64 f) (.int .i64 s) (.int .i64 term) (.int .i64 d))) => y.ok.c.c4); (repeat (go_big_quiet_step (first | (go_at_call 10; exact held_below (fun _ _ h h' => h.below h' (·.below ·) (·.below ·) (·.below ·)) (awake20_any _)) | (go_at_call 12; first | (with_reducible exact held_below (fun _ _ h h' => h.below h' (·.below ·) (·.below ·) (·.below ·)) (holding_is _ N1.out)) | (with_reducible exact held_below (fun _ _ h h' => h.below h' (·.below ·) (·.below ·) (·.below ·)) (holding_is _ N2.out)))))); refine wpQuiet_nil ?_; rintro _ ⟨⟨x, hx⟩, rfl⟩; clear hN)
  clear r0 r1 r2 r3 r4 q0 q1 q2 q3 q4 z0 z1 z2 z3 z4
  go_wp2_with fail
  go_ret
  exact ⟨rfl, hx.a.old⟩

set_option maxHeartbeats 800000 in
theorem rend_new2_c (p : ByteArray) (f s t d term now : Int) (w : World) (h : p.size ≤ 400) (hb : soundB ⟨p, f, s, t, d⟩ = true) (hlt : s ≤ s) (hb2 : soundB ⟨p, f, s, term, d⟩ = true) (hge : endI ⟨p, f, s, t, d⟩ ≤ endI ⟨p, f, s, term, d⟩) (hne : (term == t) = false) (hn : s ≤ now) (n1 : holdB ⟨p, f, s, t, d⟩ now = false) (n2 : holdB ⟨p, f, s, term, d⟩ now = true) :
    Calls Try.prog 4 #[.agg #[.string p, .int .i64 f, .int .i64 s, .int .i64 t, .int .i64 d], .int .i64 s, .int .i64 term, .int .i64 now] w fun e w' => e = .returned (.bool true) ∧ Below w.heap.size w w' := by
  have HG := Lib.hid hge
  clear hge
  have N1 := Lib.hid n1
  have N2 := Lib.hid n2
  clear n1 n2
  go_enter Try.func4, Try.ntmps4
  go_wp2_with fail
  refine (renewed_new p f s t d s term _ hb hlt hb2 HG.out).mono ?_
  rintro e w1 ⟨rfl, HB⟩
  have k := (Box5.new w (.string p) (.int .i64 f) (.int .i64 s) (.int .i64 t) (.int .i64 d) 23).below HB
  (have k' := k; obtain ⟨c0, c1, c2, c3, c4, lt_k, _, fz_k⟩ := k')
  go_wp2_with fail
  refine (begin_yes _ _ _ _ _ _ hb2).mono ?_
  rintro e w2 ⟨rfl, HB2⟩
  have k2 := (k.alloc _).below HB2
  have j2 := (Box5.new w1 (.string p) (.int .i64 f) (.int .i64 s) (.int .i64 term) (.int .i64 d) 23).below HB2
  clear c0 c1 c2 c3 c4
  (have k2' := k2; obtain ⟨c0, c1, c2, c3, c4, lt_k2, _, fz_k2⟩ := k2')
  (have j2' := j2; obtain ⟨e0, e1, e2, e3, e4, lt_j2, _, fz_j2⟩ := j2')
  go_wp2_with fail
  have hS : B3 (Box5 w w.heap.size (.string p) (.int .i64 f) (.int .i64 s) (.int .i64 t) (.int .i64 d)) (Box5 w1 w1.heap.size (.string p) (.int .i64 f) (.int .i64 s) (.int .i64 term) (.int .i64 d)) (Box5 w2 w2.heap.size (.string p) (.int .i64 f) (.int .i64 s) (.int .i64 term) (.int .i64 d)) (w2.alloc (.cells #[.string p, .int .i64 f, .int .i64 s, .int .i64 term, .int .i64 d] 23)).drew := ⟨(k2.alloc _).drew, (j2.alloc _).drew, (Box5.new w2 _ _ _ _ _ _).drew⟩
  (refine wp_region_s (S := B3 (Box5 w w.heap.size (.string p) (.int .i64 f) (.int .i64 s) (.int .i64 t) (.int .i64 d)) (Box5 w1 w1.heap.size (.string p) (.int .i64 f) (.int .i64 s) (.int .i64 term) (.int .i64 d)) (Box5 w2 w2.heap.size (.string p) (.int .i64 f) (.int .i64 s) (.int .i64 term) (.int .i64 d))) (by kernel_rfl) (by kernel_rfl) hS ?_; have hN : Nonempty (Held (B3 (Box5 w w.heap.size (.string p) (.int .i64 f) (.int .i64 s) (.int .i64 t) (.int .i64 d)) (Box5 w1 w1.heap.size (.string p) (.int .i64 f) (.int .i64 s) (.int .i64 term) (.int .i64 d)) (Box5 w2 w2.heap.size (.string p) (.int .i64 f) (.int .i64 s) (.int .i64 term) (.int .i64 d)))) := ⟨⟨_, hS⟩⟩; (have r0 := fun y : Held (B3 (Box5 w w.heap.size (.string p) (.int .i64 f) (.int .i64 s) (.int .i64 t) (.int .i64 d)) (Box5 w1 w1.heap.size (.string p) (.int .i64 f) (.int .i64 s) (.int .i64 term) (.int .i64 d)) (Box5 w2 w2.heap.size (.string p) (.int .i64 f) (.int .i64 s) (.int .i64 term) (.int .i64 d))) => y.ok.a.c0; have q0 := fun y : Held (B3 (Box5 w w.heap.size (.string p) (.int .i64 f) (.int .i64 s) (.int .i64 t) (.int .i64 d)) (Box5 w1 w1.heap.size (.string p) (.int .i64 f) (.int .i64 s) (.int .i64 term) (.int .i64 d)) (Box5 w2 w2.heap.size (.string p) (.int .i64 f) (.int .i64 s) (.int .i64 term) (.int .i64 d))) => y.ok.b.c0; have z0 := fun y : Held (B3 (Box5 w w.heap.size (.string p) (.int .i64 f) (.int .i64 s) (.int .i64 t) (.int .i64 d)) (Box5 w1 w1.heap.size (.string p) (.int .i64 f) (.int .i64 s) (.int .i64 term) (.int .i64 d)) (Box5 w2 w2.heap.size (.string p) (.int .i64 f) (.int .i64 s) (.int .i64 term) (.int .i64 d))) => y.ok.c.c0; have r1 := fun y : Held (B3 (Box5 w w.heap.size (.string p) (.int .i64 f) (.int .i64 s) (.int .i64 t) (.int .i64 d)) (Box5 w1 w1.heap.size (.string p) (.int .i64 f) (.int .i64 s) (.int .i64 term) (.int .i64 d)) (Box5 w2 w2.heap.size (.string p) (.int .i64 f) (.int .i64 s) (.int .i64 term) (.int .i64 d))) => y.ok.a.c1; have q1 := fun y : Held (B3 (Box5 w w.heap.size (.string p) (.int .i64 f) (.int .i64 s) (.int .i64 t) (.int .i64 d)) (Box5 w1 w1.heap.size (.string p) (.int .i64 f) (.int .i64 s) (.int .i64 term) (.int .i64 d)) (Box5 w2 w2.heap.size (.string p) (.int .i64 f) (.int .i64 s) (.int .i64 term) (.int .i64 d))) => y.ok.b.c1; have z1 := fun y : Held (B3 (Box5 w w.heap.size (.string p) (.int .i64 f) (.int .i64 s) (.int .i64 t) (.int .i64 d)) (Box5 w1 w1.heap.size (.string p) (.int .i64 f) (.int .i64 s) (.int .i64 term) (.int .i64 d)) (Box5 w2 w2.heap.size (.string p) (.int .i64 f) (.int .i64 s) (.int .i64 term) (.int .i64 d))) => y.ok.c.c1; have r2 := fun y : Held (B3 (Box5 w w.heap.size (.string p) (.int .i64 f) (.int .i64 s) (.int .i64 t) (.int .i64 d)) (Box5 w1 w1.heap.size (.string p) (.int .i64 f) (.int .i64 s) (.int .i64 term) (.int .i64 d)) (Box5 w2 w2.heap.size (.string p) (.int .i64 f) (.int .i64 s) (.int .i64 term) (.int .i64 d))) => y.ok.a.c2; have q2 := fun y : Held (B3 (Box5 w w.heap.size (.string p) (.int .i64 f) (.int .i64 s) (.int .i64 t) (.int .i64 d)) (Box5 w1 w1.heap.size (.string p) (.int .i64 f) (.int .i64 s) (.int .i64 term) (.int .i64 d)) (Box5 w2 w2.heap.size (.string p) (.int .i64 f) (.int .i64 s) (.int .i64 term) (.int .i64 d))) => y.ok.b.c2; have z2 := fun y : Held (B3 (Box5 w w.heap.size (.string p) (.int .i64 f) (.int .i64 s) (.int .i64 t) (.int .i64 d)) (Box5 w1 w1.heap.size (.string p) (.int .i64 f) (.int .i64 s) (.int .i64 term) (.int .i64 d)) (Box5 w2 w2.heap.size (.string p) (.int .i64 f) (.int .i64 s) (.int .i64 term) (.int .i64 d))) => y.ok.c.c2; have r3 := fun y : Held (B3 (Box5 w w.heap.size (.string p) (.int .i64 f) (.int .i64 s) (.int .i64 t) (.int .i64 d)) (Box5 w1 w1.heap.size (.string p) (.int .i64 f) (.int .i64 s) (.int .i64 term) (.int .i64 d)) (Box5 w2 w2.heap.size (.string p) (.int .i64 f) (.int .i64 s) (.int .i64 term) (.int .i64 d))) => y.ok.a.c3; have q3 := fun y : Held (B3 (Box5 w w.heap.size (.string p) (.int .i64 f) (.int .i64 s) (.int .i64 t) (.int .i64 d)) (Box5 w1 w1.heap.size (.string p) (.int .i64 f) (.int .i64 s) (.int .i64 term) (.int .i64 d)) (Box5 w2 w2.heap.size (.string p) (.int .i64 f) (.int .i64 s) (.int .i64 term) (.int .i64 d))) => y.ok.b.c3; have z3 := fun y : Held (B3 (Box5 w w.heap.size (.string p) (.int .i64 f) (.int .i64 s) (.int .i64 t) (.int .i64 d)) (Box5 w1 w1.heap.size (.string p) (.int .i64 f) (.int .i64 s) (.int .i64 term) (.int .i64 d)) (Box5 w2 w2.heap.size (.string p) (.int .i64 f) (.int .i64 s) (.int .i64 term) (.int .i64 d))) => y.ok.c.c3; have r4 := fun y : Held (B3 (Box5 w w.heap.size (.string p) (.int .i64 f) (.int .i64 s) (.int .i64 t) (.int .i64 d)) (Box5 w1 w1.heap.size (.string p) (.int .i64 f) (.int .i64 s) (.int .i64 term) (.int .i64 d)) (Box5 w2 w2.heap.size (.string p) (.int .i64 f) (.int .i64 s) (.int .i64 term) (.int .i64 d))) => y.ok.a.c4; have q4 := fun y : Held (B3 (Box5 w w.heap.size (.string p) (.int .i64 f) (.int .i64 s) (.int .i64 t) (.int .i64 d)) (Box5 w1 w1.heap.size (.string p) (.int .i64 f) (.int .i64 s) (.int .i64 term) (.int .i64 d)) (Box5 w2 w2.heap.size (.string p) (.int .i64 f) (.int .i64 s) (.int .i64 term) (.int .i64 d))) => y.ok.b.c4; have z4 := fun y : Held (B3 (Box5 w w.heap.size (.string p) (.int .i64 f) (.int .i64 s) (.int .i64 t) (.int .i64 d)) (Box5 w1 w1.heap.size (.string p) (.int .i64 f) (.int .i64 s) (.int .i64 term) (.int .i64 d)) (Box5 w2 w2.heap.size (.string p) (.int .i64 f) (.int .i64 s) (.int .i64 term) (.int .i64 d))) => y.ok.c.c4); (repeat (go_big_quiet_step (first | (go_at_call 10; exact held_below (fun _ _ h h' => h.below h' (·.below ·) (·.below ·) (·.below ·)) (awake20_any _)) | (go_at_call 12; first | (with_reducible exact held_below (fun _ _ h h' => h.below h' (·.below ·) (·.below ·) (·.below ·)) (holding_is _ N1.out)) | (with_reducible exact held_below (fun _ _ h h' => h.below h' (·.below ·) (·.below ·) (·.below ·)) (holding_is _ N2.out)))))); refine wpQuiet_nil ?_; rintro _ ⟨⟨x, hx⟩, rfl⟩; clear hN)
  clear r0 r1 r2 r3 r4 q0 q1 q2 q3 q4 z0 z1 z2 z3 z4
  go_wp2_with fail
  go_ret
  exact ⟨rfl, hx.a.old⟩

set_option maxHeartbeats 800000 in
theorem rend_new2_d (p : ByteArray) (f s t d term now : Int) (w : World) (h : p.size ≤ 400) (hb : soundB ⟨p, f, s, t, d⟩ = true) (hlt : s ≤ s) (hb2 : soundB ⟨p, f, s, term, d⟩ = true) (hge : endI ⟨p, f, s, t, d⟩ ≤ endI ⟨p, f, s, term, d⟩) (hne : (term == t) = false) (hn : s ≤ now) (n1 : holdB ⟨p, f, s, t, d⟩ now = false) (n2 : holdB ⟨p, f, s, term, d⟩ now = false) :
    Calls Try.prog 4 #[.agg #[.string p, .int .i64 f, .int .i64 s, .int .i64 t, .int .i64 d], .int .i64 s, .int .i64 term, .int .i64 now] w fun e w' => e = .returned (.bool true) ∧ Below w.heap.size w w' := by
  have HG := Lib.hid hge
  clear hge
  have N1 := Lib.hid n1
  have N2 := Lib.hid n2
  clear n1 n2
  go_enter Try.func4, Try.ntmps4
  go_wp2_with fail
  refine (renewed_new p f s t d s term _ hb hlt hb2 HG.out).mono ?_
  rintro e w1 ⟨rfl, HB⟩
  have k := (Box5.new w (.string p) (.int .i64 f) (.int .i64 s) (.int .i64 t) (.int .i64 d) 23).below HB
  (have k' := k; obtain ⟨c0, c1, c2, c3, c4, lt_k, _, fz_k⟩ := k')
  go_wp2_with fail
  refine (begin_yes _ _ _ _ _ _ hb2).mono ?_
  rintro e w2 ⟨rfl, HB2⟩
  have k2 := (k.alloc _).below HB2
  have j2 := (Box5.new w1 (.string p) (.int .i64 f) (.int .i64 s) (.int .i64 term) (.int .i64 d) 23).below HB2
  clear c0 c1 c2 c3 c4
  (have k2' := k2; obtain ⟨c0, c1, c2, c3, c4, lt_k2, _, fz_k2⟩ := k2')
  (have j2' := j2; obtain ⟨e0, e1, e2, e3, e4, lt_j2, _, fz_j2⟩ := j2')
  go_wp2_with fail
  have hS : B3 (Box5 w w.heap.size (.string p) (.int .i64 f) (.int .i64 s) (.int .i64 t) (.int .i64 d)) (Box5 w1 w1.heap.size (.string p) (.int .i64 f) (.int .i64 s) (.int .i64 term) (.int .i64 d)) (Box5 w2 w2.heap.size (.string p) (.int .i64 f) (.int .i64 s) (.int .i64 term) (.int .i64 d)) (w2.alloc (.cells #[.string p, .int .i64 f, .int .i64 s, .int .i64 term, .int .i64 d] 23)).drew := ⟨(k2.alloc _).drew, (j2.alloc _).drew, (Box5.new w2 _ _ _ _ _ _).drew⟩
  (refine wp_region_s (S := B3 (Box5 w w.heap.size (.string p) (.int .i64 f) (.int .i64 s) (.int .i64 t) (.int .i64 d)) (Box5 w1 w1.heap.size (.string p) (.int .i64 f) (.int .i64 s) (.int .i64 term) (.int .i64 d)) (Box5 w2 w2.heap.size (.string p) (.int .i64 f) (.int .i64 s) (.int .i64 term) (.int .i64 d))) (by kernel_rfl) (by kernel_rfl) hS ?_; have hN : Nonempty (Held (B3 (Box5 w w.heap.size (.string p) (.int .i64 f) (.int .i64 s) (.int .i64 t) (.int .i64 d)) (Box5 w1 w1.heap.size (.string p) (.int .i64 f) (.int .i64 s) (.int .i64 term) (.int .i64 d)) (Box5 w2 w2.heap.size (.string p) (.int .i64 f) (.int .i64 s) (.int .i64 term) (.int .i64 d)))) := ⟨⟨_, hS⟩⟩; (have r0 := fun y : Held (B3 (Box5 w w.heap.size (.string p) (.int .i64 f) (.int .i64 s) (.int .i64 t) (.int .i64 d)) (Box5 w1 w1.heap.size (.string p) (.int .i64 f) (.int .i64 s) (.int .i64 term) (.int .i64 d)) (Box5 w2 w2.heap.size (.string p) (.int .i64 f) (.int .i64 s) (.int .i64 term) (.int .i64 d))) => y.ok.a.c0; have q0 := fun y : Held (B3 (Box5 w w.heap.size (.string p) (.int .i64 f) (.int .i64 s) (.int .i64 t) (.int .i64 d)) (Box5 w1 w1.heap.size (.string p) (.int .i64 f) (.int .i64 s) (.int .i64 term) (.int .i64 d)) (Box5 w2 w2.heap.size (.string p) (.int .i64 f) (.int .i64 s) (.int .i64 term) (.int .i64 d))) => y.ok.b.c0; have z0 := fun y : Held (B3 (Box5 w w.heap.size (.string p) (.int .i64 f) (.int .i64 s) (.int .i64 t) (.int .i64 d)) (Box5 w1 w1.heap.size (.string p) (.int .i64 f) (.int .i64 s) (.int .i64 term) (.int .i64 d)) (Box5 w2 w2.heap.size (.string p) (.int .i64 f) (.int .i64 s) (.int .i64 term) (.int .i64 d))) => y.ok.c.c0; have r1 := fun y : Held (B3 (Box5 w w.heap.size (.string p) (.int .i64 f) (.int .i64 s) (.int .i64 t) (.int .i64 d)) (Box5 w1 w1.heap.size (.string p) (.int .i64 f) (.int .i64 s) (.int .i64 term) (.int .i64 d)) (Box5 w2 w2.heap.size (.string p) (.int .i64 f) (.int .i64 s) (.int .i64 term) (.int .i64 d))) => y.ok.a.c1; have q1 := fun y : Held (B3 (Box5 w w.heap.size (.string p) (.int .i64 f) (.int .i64 s) (.int .i64 t) (.int .i64 d)) (Box5 w1 w1.heap.size (.string p) (.int .i64 f) (.int .i64 s) (.int .i64 term) (.int .i64 d)) (Box5 w2 w2.heap.size (.string p) (.int .i64 f) (.int .i64 s) (.int .i64 term) (.int .i64 d))) => y.ok.b.c1; have z1 := fun y : Held (B3 (Box5 w w.heap.size (.string p) (.int .i64 f) (.int .i64 s) (.int .i64 t) (.int .i64 d)) (Box5 w1 w1.heap.size (.string p) (.int .i64 f) (.int .i64 s) (.int .i64 term) (.int .i64 d)) (Box5 w2 w2.heap.size (.string p) (.int .i64 f) (.int .i64 s) (.int .i64 term) (.int .i64 d))) => y.ok.c.c1; have r2 := fun y : Held (B3 (Box5 w w.heap.size (.string p) (.int .i64 f) (.int .i64 s) (.int .i64 t) (.int .i64 d)) (Box5 w1 w1.heap.size (.string p) (.int .i64 f) (.int .i64 s) (.int .i64 term) (.int .i64 d)) (Box5 w2 w2.heap.size (.string p) (.int .i64 f) (.int .i64 s) (.int .i64 term) (.int .i64 d))) => y.ok.a.c2; have q2 := fun y : Held (B3 (Box5 w w.heap.size (.string p) (.int .i64 f) (.int .i64 s) (.int .i64 t) (.int .i64 d)) (Box5 w1 w1.heap.size (.string p) (.int .i64 f) (.int .i64 s) (.int .i64 term) (.int .i64 d)) (Box5 w2 w2.heap.size (.string p) (.int .i64 f) (.int .i64 s) (.int .i64 term) (.int .i64 d))) => y.ok.b.c2; have z2 := fun y : Held (B3 (Box5 w w.heap.size (.string p) (.int .i64 f) (.int .i64 s) (.int .i64 t) (.int .i64 d)) (Box5 w1 w1.heap.size (.string p) (.int .i64 f) (.int .i64 s) (.int .i64 term) (.int .i64 d)) (Box5 w2 w2.heap.size (.string p) (.int .i64 f) (.int .i64 s) (.int .i64 term) (.int .i64 d))) => y.ok.c.c2; have r3 := fun y : Held (B3 (Box5 w w.heap.size (.string p) (.int .i64 f) (.int .i64 s) (.int .i64 t) (.int .i64 d)) (Box5 w1 w1.heap.size (.string p) (.int .i64 f) (.int .i64 s) (.int .i64 term) (.int .i64 d)) (Box5 w2 w2.heap.size (.string p) (.int .i64 f) (.int .i64 s) (.int .i64 term) (.int .i64 d))) => y.ok.a.c3; have q3 := fun y : Held (B3 (Box5 w w.heap.size (.string p) (.int .i64 f) (.int .i64 s) (.int .i64 t) (.int .i64 d)) (Box5 w1 w1.heap.size (.string p) (.int .i64 f) (.int .i64 s) (.int .i64 term) (.int .i64 d)) (Box5 w2 w2.heap.size (.string p) (.int .i64 f) (.int .i64 s) (.int .i64 term) (.int .i64 d))) => y.ok.b.c3; have z3 := fun y : Held (B3 (Box5 w w.heap.size (.string p) (.int .i64 f) (.int .i64 s) (.int .i64 t) (.int .i64 d)) (Box5 w1 w1.heap.size (.string p) (.int .i64 f) (.int .i64 s) (.int .i64 term) (.int .i64 d)) (Box5 w2 w2.heap.size (.string p) (.int .i64 f) (.int .i64 s) (.int .i64 term) (.int .i64 d))) => y.ok.c.c3; have r4 := fun y : Held (B3 (Box5 w w.heap.size (.string p) (.int .i64 f) (.int .i64 s) (.int .i64 t) (.int .i64 d)) (Box5 w1 w1.heap.size (.string p) (.int .i64 f) (.int .i64 s) (.int .i64 term) (.int .i64 d)) (Box5 w2 w2.heap.size (.string p) (.int .i64 f) (.int .i64 s) (.int .i64 term) (.int .i64 d))) => y.ok.a.c4; have q4 := fun y : Held (B3 (Box5 w w.heap.size (.string p) (.int .i64 f) (.int .i64 s) (.int .i64 t) (.int .i64 d)) (Box5 w1 w1.heap.size (.string p) (.int .i64 f) (.int .i64 s) (.int .i64 term) (.int .i64 d)) (Box5 w2 w2.heap.size (.string p) (.int .i64 f) (.int .i64 s) (.int .i64 term) (.int .i64 d))) => y.ok.b.c4; have z4 := fun y : Held (B3 (Box5 w w.heap.size (.string p) (.int .i64 f) (.int .i64 s) (.int .i64 t) (.int .i64 d)) (Box5 w1 w1.heap.size (.string p) (.int .i64 f) (.int .i64 s) (.int .i64 term) (.int .i64 d)) (Box5 w2 w2.heap.size (.string p) (.int .i64 f) (.int .i64 s) (.int .i64 term) (.int .i64 d))) => y.ok.c.c4); (repeat (go_big_quiet_step (first | (go_at_call 10; exact held_below (fun _ _ h h' => h.below h' (·.below ·) (·.below ·) (·.below ·)) (awake20_any _)) | (go_at_call 12; first | (with_reducible exact held_below (fun _ _ h h' => h.below h' (·.below ·) (·.below ·) (·.below ·)) (holding_is _ N1.out)) | (with_reducible exact held_below (fun _ _ h h' => h.below h' (·.below ·) (·.below ·) (·.below ·)) (holding_is _ N2.out)))))); refine wpQuiet_nil ?_; rintro _ ⟨⟨x, hx⟩, rfl⟩; clear hN)
  clear r0 r1 r2 r3 r4 q0 q1 q2 q3 q4 z0 z1 z2 z3 z4
  go_wp2_with fail
  go_ret
  exact ⟨rfl, hx.a.old⟩

set_option maxHeartbeats 800000 in
theorem rend_new3_early (p : ByteArray) (f s t d now : Int) (w : World) (h : p.size ≤ 400) (hb : soundB ⟨p, f, s, t, d⟩ = true) (hlt : s ≤ s) (hb2 : soundB ⟨p, f, s, t, d⟩ = true) (hge : endI ⟨p, f, s, t, d⟩ ≤ endI ⟨p, f, s, t, d⟩)  (hn : now < s) :
    Calls Try.prog 4 #[.agg #[.string p, .int .i64 f, .int .i64 s, .int .i64 t, .int .i64 d], .int .i64 s, .int .i64 t, .int .i64 now] w fun e w' => e = .returned (.bool true) ∧ Below w.heap.size w w' := by
  have HG := Lib.hid hge
  clear hge
  go_enter Try.func4, Try.ntmps4
  go_wp2_with fail
  refine (renewed_new p f s t d s t _ hb hlt hb2 HG.out).mono ?_
  rintro e w1 ⟨rfl, HB⟩
  have k := (Box5.new w (.string p) (.int .i64 f) (.int .i64 s) (.int .i64 t) (.int .i64 d) 23).below HB
  (have k' := k; obtain ⟨c0, c1, c2, c3, c4, lt_k, _, fz_k⟩ := k')
  go_wp2_with fail
  refine (begin_yes _ _ _ _ _ _ hb2).mono ?_
  rintro e w2 ⟨rfl, HB2⟩
  have k2 := (k.alloc _).below HB2
  have j2 := (Box5.new w1 (.string p) (.int .i64 f) (.int .i64 s) (.int .i64 t) (.int .i64 d) 23).below HB2
  clear c0 c1 c2 c3 c4
  (have k2' := k2; obtain ⟨c0, c1, c2, c3, c4, lt_k2, _, fz_k2⟩ := k2')
  (have j2' := j2; obtain ⟨e0, e1, e2, e3, e4, lt_j2, _, fz_j2⟩ := j2')
  go_wp2_with (go_at_call 10; refine (awake20_any _).mono ?_; rintro e w3 ⟨rfl, HB3⟩)
  all_goals (go_ret; exact ⟨rfl, ((k2.alloc _).below HB3).old⟩)

set_option maxHeartbeats 800000 in
theorem rend_new3_a (p : ByteArray) (f s t d now : Int) (w : World) (h : p.size ≤ 400) (hb : soundB ⟨p, f, s, t, d⟩ = true) (hlt : s ≤ s) (hb2 : soundB ⟨p, f, s, t, d⟩ = true) (hge : endI ⟨p, f, s, t, d⟩ ≤ endI ⟨p, f, s, t, d⟩)  (hn : s ≤ now) (n1 : holdB ⟨p, f, s, t, d⟩ now = true) (n2 : holdB ⟨p, f, s, t, d⟩ now = true) :
    Calls Try.prog 4 #[.agg #[.string p, .int .i64 f, .int .i64 s, .int .i64 t, .int .i64 d], .int .i64 s, .int .i64 t, .int .i64 now] w fun e w' => e = .returned (.bool true) ∧ Below w.heap.size w w' := by
  have HG := Lib.hid hge
  clear hge
  have N1 := Lib.hid n1
  have N2 := Lib.hid n2
  clear n1 n2
  go_enter Try.func4, Try.ntmps4
  go_wp2_with fail
  refine (renewed_new p f s t d s t _ hb hlt hb2 HG.out).mono ?_
  rintro e w1 ⟨rfl, HB⟩
  have k := (Box5.new w (.string p) (.int .i64 f) (.int .i64 s) (.int .i64 t) (.int .i64 d) 23).below HB
  (have k' := k; obtain ⟨c0, c1, c2, c3, c4, lt_k, _, fz_k⟩ := k')
  go_wp2_with fail
  refine (begin_yes _ _ _ _ _ _ hb2).mono ?_
  rintro e w2 ⟨rfl, HB2⟩
  have k2 := (k.alloc _).below HB2
  have j2 := (Box5.new w1 (.string p) (.int .i64 f) (.int .i64 s) (.int .i64 t) (.int .i64 d) 23).below HB2
  clear c0 c1 c2 c3 c4
  (have k2' := k2; obtain ⟨c0, c1, c2, c3, c4, lt_k2, _, fz_k2⟩ := k2')
  (have j2' := j2; obtain ⟨e0, e1, e2, e3, e4, lt_j2, _, fz_j2⟩ := j2')
  go_wp2_with fail
  have hS : B3 (Box5 w w.heap.size (.string p) (.int .i64 f) (.int .i64 s) (.int .i64 t) (.int .i64 d)) (Box5 w1 w1.heap.size (.string p) (.int .i64 f) (.int .i64 s) (.int .i64 t) (.int .i64 d)) (Box5 w2 w2.heap.size (.string p) (.int .i64 f) (.int .i64 s) (.int .i64 t) (.int .i64 d)) (w2.alloc (.cells #[.string p, .int .i64 f, .int .i64 s, .int .i64 t, .int .i64 d] 23)).drew := ⟨(k2.alloc _).drew, (j2.alloc _).drew, (Box5.new w2 _ _ _ _ _ _).drew⟩
  (refine wp_region_s (S := B3 (Box5 w w.heap.size (.string p) (.int .i64 f) (.int .i64 s) (.int .i64 t) (.int .i64 d)) (Box5 w1 w1.heap.size (.string p) (.int .i64 f) (.int .i64 s) (.int .i64 t) (.int .i64 d)) (Box5 w2 w2.heap.size (.string p) (.int .i64 f) (.int .i64 s) (.int .i64 t) (.int .i64 d))) (by kernel_rfl) (by kernel_rfl) hS ?_; have hN : Nonempty (Held (B3 (Box5 w w.heap.size (.string p) (.int .i64 f) (.int .i64 s) (.int .i64 t) (.int .i64 d)) (Box5 w1 w1.heap.size (.string p) (.int .i64 f) (.int .i64 s) (.int .i64 t) (.int .i64 d)) (Box5 w2 w2.heap.size (.string p) (.int .i64 f) (.int .i64 s) (.int .i64 t) (.int .i64 d)))) := ⟨⟨_, hS⟩⟩; (have r0 := fun y : Held (B3 (Box5 w w.heap.size (.string p) (.int .i64 f) (.int .i64 s) (.int .i64 t) (.int .i64 d)) (Box5 w1 w1.heap.size (.string p) (.int .i64 f) (.int .i64 s) (.int .i64 t) (.int .i64 d)) (Box5 w2 w2.heap.size (.string p) (.int .i64 f) (.int .i64 s) (.int .i64 t) (.int .i64 d))) => y.ok.a.c0; have q0 := fun y : Held (B3 (Box5 w w.heap.size (.string p) (.int .i64 f) (.int .i64 s) (.int .i64 t) (.int .i64 d)) (Box5 w1 w1.heap.size (.string p) (.int .i64 f) (.int .i64 s) (.int .i64 t) (.int .i64 d)) (Box5 w2 w2.heap.size (.string p) (.int .i64 f) (.int .i64 s) (.int .i64 t) (.int .i64 d))) => y.ok.b.c0; have z0 := fun y : Held (B3 (Box5 w w.heap.size (.string p) (.int .i64 f) (.int .i64 s) (.int .i64 t) (.int .i64 d)) (Box5 w1 w1.heap.size (.string p) (.int .i64 f) (.int .i64 s) (.int .i64 t) (.int .i64 d)) (Box5 w2 w2.heap.size (.string p) (.int .i64 f) (.int .i64 s) (.int .i64 t) (.int .i64 d))) => y.ok.c.c0; have r1 := fun y : Held (B3 (Box5 w w.heap.size (.string p) (.int .i64 f) (.int .i64 s) (.int .i64 t) (.int .i64 d)) (Box5 w1 w1.heap.size (.string p) (.int .i64 f) (.int .i64 s) (.int .i64 t) (.int .i64 d)) (Box5 w2 w2.heap.size (.string p) (.int .i64 f) (.int .i64 s) (.int .i64 t) (.int .i64 d))) => y.ok.a.c1; have q1 := fun y : Held (B3 (Box5 w w.heap.size (.string p) (.int .i64 f) (.int .i64 s) (.int .i64 t) (.int .i64 d)) (Box5 w1 w1.heap.size (.string p) (.int .i64 f) (.int .i64 s) (.int .i64 t) (.int .i64 d)) (Box5 w2 w2.heap.size (.string p) (.int .i64 f) (.int .i64 s) (.int .i64 t) (.int .i64 d))) => y.ok.b.c1; have z1 := fun y : Held (B3 (Box5 w w.heap.size (.string p) (.int .i64 f) (.int .i64 s) (.int .i64 t) (.int .i64 d)) (Box5 w1 w1.heap.size (.string p) (.int .i64 f) (.int .i64 s) (.int .i64 t) (.int .i64 d)) (Box5 w2 w2.heap.size (.string p) (.int .i64 f) (.int .i64 s) (.int .i64 t) (.int .i64 d))) => y.ok.c.c1; have r2 := fun y : Held (B3 (Box5 w w.heap.size (.string p) (.int .i64 f) (.int .i64 s) (.int .i64 t) (.int .i64 d)) (Box5 w1 w1.heap.size (.string p) (.int .i64 f) (.int .i64 s) (.int .i64 t) (.int .i64 d)) (Box5 w2 w2.heap.size (.string p) (.int .i64 f) (.int .i64 s) (.int .i64 t) (.int .i64 d))) => y.ok.a.c2; have q2 := fun y : Held (B3 (Box5 w w.heap.size (.string p) (.int .i64 f) (.int .i64 s) (.int .i64 t) (.int .i64 d)) (Box5 w1 w1.heap.size (.string p) (.int .i64 f) (.int .i64 s) (.int .i64 t) (.int .i64 d)) (Box5 w2 w2.heap.size (.string p) (.int .i64 f) (.int .i64 s) (.int .i64 t) (.int .i64 d))) => y.ok.b.c2; have z2 := fun y : Held (B3 (Box5 w w.heap.size (.string p) (.int .i64 f) (.int .i64 s) (.int .i64 t) (.int .i64 d)) (Box5 w1 w1.heap.size (.string p) (.int .i64 f) (.int .i64 s) (.int .i64 t) (.int .i64 d)) (Box5 w2 w2.heap.size (.string p) (.int .i64 f) (.int .i64 s) (.int .i64 t) (.int .i64 d))) => y.ok.c.c2; have r3 := fun y : Held (B3 (Box5 w w.heap.size (.string p) (.int .i64 f) (.int .i64 s) (.int .i64 t) (.int .i64 d)) (Box5 w1 w1.heap.size (.string p) (.int .i64 f) (.int .i64 s) (.int .i64 t) (.int .i64 d)) (Box5 w2 w2.heap.size (.string p) (.int .i64 f) (.int .i64 s) (.int .i64 t) (.int .i64 d))) => y.ok.a.c3; have q3 := fun y : Held (B3 (Box5 w w.heap.size (.string p) (.int .i64 f) (.int .i64 s) (.int .i64 t) (.int .i64 d)) (Box5 w1 w1.heap.size (.string p) (.int .i64 f) (.int .i64 s) (.int .i64 t) (.int .i64 d)) (Box5 w2 w2.heap.size (.string p) (.int .i64 f) (.int .i64 s) (.int .i64 t) (.int .i64 d))) => y.ok.b.c3; have z3 := fun y : Held (B3 (Box5 w w.heap.size (.string p) (.int .i64 f) (.int .i64 s) (.int .i64 t) (.int .i64 d)) (Box5 w1 w1.heap.size (.string p) (.int .i64 f) (.int .i64 s) (.int .i64 t) (.int .i64 d)) (Box5 w2 w2.heap.size (.string p) (.int .i64 f) (.int .i64 s) (.int .i64 t) (.int .i64 d))) => y.ok.c.c3; have r4 := fun y : Held (B3 (Box5 w w.heap.size (.string p) (.int .i64 f) (.int .i64 s) (.int .i64 t) (.int .i64 d)) (Box5 w1 w1.heap.size (.string p) (.int .i64 f) (.int .i64 s) (.int .i64 t) (.int .i64 d)) (Box5 w2 w2.heap.size (.string p) (.int .i64 f) (.int .i64 s) (.int .i64 t) (.int .i64 d))) => y.ok.a.c4; have q4 := fun y : Held (B3 (Box5 w w.heap.size (.string p) (.int .i64 f) (.int .i64 s) (.int .i64 t) (.int .i64 d)) (Box5 w1 w1.heap.size (.string p) (.int .i64 f) (.int .i64 s) (.int .i64 t) (.int .i64 d)) (Box5 w2 w2.heap.size (.string p) (.int .i64 f) (.int .i64 s) (.int .i64 t) (.int .i64 d))) => y.ok.b.c4; have z4 := fun y : Held (B3 (Box5 w w.heap.size (.string p) (.int .i64 f) (.int .i64 s) (.int .i64 t) (.int .i64 d)) (Box5 w1 w1.heap.size (.string p) (.int .i64 f) (.int .i64 s) (.int .i64 t) (.int .i64 d)) (Box5 w2 w2.heap.size (.string p) (.int .i64 f) (.int .i64 s) (.int .i64 t) (.int .i64 d))) => y.ok.c.c4); (repeat (go_big_quiet_step (first | (go_at_call 10; exact held_below (fun _ _ h h' => h.below h' (·.below ·) (·.below ·) (·.below ·)) (awake20_any _)) | (go_at_call 12; first | (with_reducible exact held_below (fun _ _ h h' => h.below h' (·.below ·) (·.below ·) (·.below ·)) (holding_is _ N1.out)) | (with_reducible exact held_below (fun _ _ h h' => h.below h' (·.below ·) (·.below ·) (·.below ·)) (holding_is _ N2.out)))))); refine wpQuiet_nil ?_; rintro _ ⟨⟨x, hx⟩, rfl⟩; clear hN)
  clear r0 r1 r2 r3 r4 q0 q1 q2 q3 q4 z0 z1 z2 z3 z4
  go_wp2_with fail
  go_ret
  exact ⟨rfl, hx.a.old⟩

set_option maxHeartbeats 800000 in
theorem rend_new3_d (p : ByteArray) (f s t d now : Int) (w : World) (h : p.size ≤ 400) (hb : soundB ⟨p, f, s, t, d⟩ = true) (hlt : s ≤ s) (hb2 : soundB ⟨p, f, s, t, d⟩ = true) (hge : endI ⟨p, f, s, t, d⟩ ≤ endI ⟨p, f, s, t, d⟩)  (hn : s ≤ now) (n1 : holdB ⟨p, f, s, t, d⟩ now = false) (n2 : holdB ⟨p, f, s, t, d⟩ now = false) :
    Calls Try.prog 4 #[.agg #[.string p, .int .i64 f, .int .i64 s, .int .i64 t, .int .i64 d], .int .i64 s, .int .i64 t, .int .i64 now] w fun e w' => e = .returned (.bool true) ∧ Below w.heap.size w w' := by
  have HG := Lib.hid hge
  clear hge
  have N1 := Lib.hid n1
  have N2 := Lib.hid n2
  clear n1 n2
  go_enter Try.func4, Try.ntmps4
  go_wp2_with fail
  refine (renewed_new p f s t d s t _ hb hlt hb2 HG.out).mono ?_
  rintro e w1 ⟨rfl, HB⟩
  have k := (Box5.new w (.string p) (.int .i64 f) (.int .i64 s) (.int .i64 t) (.int .i64 d) 23).below HB
  (have k' := k; obtain ⟨c0, c1, c2, c3, c4, lt_k, _, fz_k⟩ := k')
  go_wp2_with fail
  refine (begin_yes _ _ _ _ _ _ hb2).mono ?_
  rintro e w2 ⟨rfl, HB2⟩
  have k2 := (k.alloc _).below HB2
  have j2 := (Box5.new w1 (.string p) (.int .i64 f) (.int .i64 s) (.int .i64 t) (.int .i64 d) 23).below HB2
  clear c0 c1 c2 c3 c4
  (have k2' := k2; obtain ⟨c0, c1, c2, c3, c4, lt_k2, _, fz_k2⟩ := k2')
  (have j2' := j2; obtain ⟨e0, e1, e2, e3, e4, lt_j2, _, fz_j2⟩ := j2')
  go_wp2_with fail
  have hS : B3 (Box5 w w.heap.size (.string p) (.int .i64 f) (.int .i64 s) (.int .i64 t) (.int .i64 d)) (Box5 w1 w1.heap.size (.string p) (.int .i64 f) (.int .i64 s) (.int .i64 t) (.int .i64 d)) (Box5 w2 w2.heap.size (.string p) (.int .i64 f) (.int .i64 s) (.int .i64 t) (.int .i64 d)) (w2.alloc (.cells #[.string p, .int .i64 f, .int .i64 s, .int .i64 t, .int .i64 d] 23)).drew := ⟨(k2.alloc _).drew, (j2.alloc _).drew, (Box5.new w2 _ _ _ _ _ _).drew⟩
  (refine wp_region_s (S := B3 (Box5 w w.heap.size (.string p) (.int .i64 f) (.int .i64 s) (.int .i64 t) (.int .i64 d)) (Box5 w1 w1.heap.size (.string p) (.int .i64 f) (.int .i64 s) (.int .i64 t) (.int .i64 d)) (Box5 w2 w2.heap.size (.string p) (.int .i64 f) (.int .i64 s) (.int .i64 t) (.int .i64 d))) (by kernel_rfl) (by kernel_rfl) hS ?_; have hN : Nonempty (Held (B3 (Box5 w w.heap.size (.string p) (.int .i64 f) (.int .i64 s) (.int .i64 t) (.int .i64 d)) (Box5 w1 w1.heap.size (.string p) (.int .i64 f) (.int .i64 s) (.int .i64 t) (.int .i64 d)) (Box5 w2 w2.heap.size (.string p) (.int .i64 f) (.int .i64 s) (.int .i64 t) (.int .i64 d)))) := ⟨⟨_, hS⟩⟩; (have r0 := fun y : Held (B3 (Box5 w w.heap.size (.string p) (.int .i64 f) (.int .i64 s) (.int .i64 t) (.int .i64 d)) (Box5 w1 w1.heap.size (.string p) (.int .i64 f) (.int .i64 s) (.int .i64 t) (.int .i64 d)) (Box5 w2 w2.heap.size (.string p) (.int .i64 f) (.int .i64 s) (.int .i64 t) (.int .i64 d))) => y.ok.a.c0; have q0 := fun y : Held (B3 (Box5 w w.heap.size (.string p) (.int .i64 f) (.int .i64 s) (.int .i64 t) (.int .i64 d)) (Box5 w1 w1.heap.size (.string p) (.int .i64 f) (.int .i64 s) (.int .i64 t) (.int .i64 d)) (Box5 w2 w2.heap.size (.string p) (.int .i64 f) (.int .i64 s) (.int .i64 t) (.int .i64 d))) => y.ok.b.c0; have z0 := fun y : Held (B3 (Box5 w w.heap.size (.string p) (.int .i64 f) (.int .i64 s) (.int .i64 t) (.int .i64 d)) (Box5 w1 w1.heap.size (.string p) (.int .i64 f) (.int .i64 s) (.int .i64 t) (.int .i64 d)) (Box5 w2 w2.heap.size (.string p) (.int .i64 f) (.int .i64 s) (.int .i64 t) (.int .i64 d))) => y.ok.c.c0; have r1 := fun y : Held (B3 (Box5 w w.heap.size (.string p) (.int .i64 f) (.int .i64 s) (.int .i64 t) (.int .i64 d)) (Box5 w1 w1.heap.size (.string p) (.int .i64 f) (.int .i64 s) (.int .i64 t) (.int .i64 d)) (Box5 w2 w2.heap.size (.string p) (.int .i64 f) (.int .i64 s) (.int .i64 t) (.int .i64 d))) => y.ok.a.c1; have q1 := fun y : Held (B3 (Box5 w w.heap.size (.string p) (.int .i64 f) (.int .i64 s) (.int .i64 t) (.int .i64 d)) (Box5 w1 w1.heap.size (.string p) (.int .i64 f) (.int .i64 s) (.int .i64 t) (.int .i64 d)) (Box5 w2 w2.heap.size (.string p) (.int .i64 f) (.int .i64 s) (.int .i64 t) (.int .i64 d))) => y.ok.b.c1; have z1 := fun y : Held (B3 (Box5 w w.heap.size (.string p) (.int .i64 f) (.int .i64 s) (.int .i64 t) (.int .i64 d)) (Box5 w1 w1.heap.size (.string p) (.int .i64 f) (.int .i64 s) (.int .i64 t) (.int .i64 d)) (Box5 w2 w2.heap.size (.string p) (.int .i64 f) (.int .i64 s) (.int .i64 t) (.int .i64 d))) => y.ok.c.c1; have r2 := fun y : Held (B3 (Box5 w w.heap.size (.string p) (.int .i64 f) (.int .i64 s) (.int .i64 t) (.int .i64 d)) (Box5 w1 w1.heap.size (.string p) (.int .i64 f) (.int .i64 s) (.int .i64 t) (.int .i64 d)) (Box5 w2 w2.heap.size (.string p) (.int .i64 f) (.int .i64 s) (.int .i64 t) (.int .i64 d))) => y.ok.a.c2; have q2 := fun y : Held (B3 (Box5 w w.heap.size (.string p) (.int .i64 f) (.int .i64 s) (.int .i64 t) (.int .i64 d)) (Box5 w1 w1.heap.size (.string p) (.int .i64 f) (.int .i64 s) (.int .i64 t) (.int .i64 d)) (Box5 w2 w2.heap.size (.string p) (.int .i64 f) (.int .i64 s) (.int .i64 t) (.int .i64 d))) => y.ok.b.c2; have z2 := fun y : Held (B3 (Box5 w w.heap.size (.string p) (.int .i64 f) (.int .i64 s) (.int .i64 t) (.int .i64 d)) (Box5 w1 w1.heap.size (.string p) (.int .i64 f) (.int .i64 s) (.int .i64 t) (.int .i64 d)) (Box5 w2 w2.heap.size (.string p) (.int .i64 f) (.int .i64 s) (.int .i64 t) (.int .i64 d))) => y.ok.c.c2; have r3 := fun y : Held (B3 (Box5 w w.heap.size (.string p) (.int .i64 f) (.int .i64 s) (.int .i64 t) (.int .i64 d)) (Box5 w1 w1.heap.size (.string p) (.int .i64 f) (.int .i64 s) (.int .i64 t) (.int .i64 d)) (Box5 w2 w2.heap.size (.string p) (.int .i64 f) (.int .i64 s) (.int .i64 t) (.int .i64 d))) => y.ok.a.c3; have q3 := fun y : Held (B3 (Box5 w w.heap.size (.string p) (.int .i64 f) (.int .i64 s) (.int .i64 t) (.int .i64 d)) (Box5 w1 w1.heap.size (.string p) (.int .i64 f) (.int .i64 s) (.int .i64 t) (.int .i64 d)) (Box5 w2 w2.heap.size (.string p) (.int .i64 f) (.int .i64 s) (.int .i64 t) (.int .i64 d))) => y.ok.b.c3; have z3 := fun y : Held (B3 (Box5 w w.heap.size (.string p) (.int .i64 f) (.int .i64 s) (.int .i64 t) (.int .i64 d)) (Box5 w1 w1.heap.size (.string p) (.int .i64 f) (.int .i64 s) (.int .i64 t) (.int .i64 d)) (Box5 w2 w2.heap.size (.string p) (.int .i64 f) (.int .i64 s) (.int .i64 t) (.int .i64 d))) => y.ok.c.c3; have r4 := fun y : Held (B3 (Box5 w w.heap.size (.string p) (.int .i64 f) (.int .i64 s) (.int .i64 t) (.int .i64 d)) (Box5 w1 w1.heap.size (.string p) (.int .i64 f) (.int .i64 s) (.int .i64 t) (.int .i64 d)) (Box5 w2 w2.heap.size (.string p) (.int .i64 f) (.int .i64 s) (.int .i64 t) (.int .i64 d))) => y.ok.a.c4; have q4 := fun y : Held (B3 (Box5 w w.heap.size (.string p) (.int .i64 f) (.int .i64 s) (.int .i64 t) (.int .i64 d)) (Box5 w1 w1.heap.size (.string p) (.int .i64 f) (.int .i64 s) (.int .i64 t) (.int .i64 d)) (Box5 w2 w2.heap.size (.string p) (.int .i64 f) (.int .i64 s) (.int .i64 t) (.int .i64 d))) => y.ok.b.c4; have z4 := fun y : Held (B3 (Box5 w w.heap.size (.string p) (.int .i64 f) (.int .i64 s) (.int .i64 t) (.int .i64 d)) (Box5 w1 w1.heap.size (.string p) (.int .i64 f) (.int .i64 s) (.int .i64 t) (.int .i64 d)) (Box5 w2 w2.heap.size (.string p) (.int .i64 f) (.int .i64 s) (.int .i64 t) (.int .i64 d))) => y.ok.c.c4); (repeat (go_big_quiet_step (first | (go_at_call 10; exact held_below (fun _ _ h h' => h.below h' (·.below ·) (·.below ·) (·.below ·)) (awake20_any _)) | (go_at_call 12; first | (with_reducible exact held_below (fun _ _ h h' => h.below h' (·.below ·) (·.below ·) (·.below ·)) (holding_is _ N1.out)) | (with_reducible exact held_below (fun _ _ h h' => h.below h' (·.below ·) (·.below ·) (·.below ·)) (holding_is _ N2.out)))))); refine wpQuiet_nil ?_; rintro _ ⟨⟨x, hx⟩, rfl⟩; clear hN)
  clear r0 r1 r2 r3 r4 q0 q1 q2 q3 q4 z0 z1 z2 z3 z4
  go_wp2_with fail
  go_ret
  exact ⟨rfl, hx.a.old⟩

theorem hold_end (c : Claim) (now : Int) : holdB c now = true ↔ soundB c = true ∧ c.sent ≤ now ∧ now < endI c := by
  rw [hold_iff]
  unfold endI
  constructor
  · rintro ⟨h1, h2, h3⟩
    exact ⟨h1, h2, by omega⟩
  · rintro ⟨h1, h2, h3⟩
    exact ⟨h1, h2, by omega⟩

theorem rend_any (p : ByteArray) (f s t d sent term now : Int) (w : World) :
    Calls Try.prog 4 #[.agg #[.string p, .int .i64 f, .int .i64 s, .int .i64 t, .int .i64 d], .int .i64 sent, .int .i64 term, .int .i64 now] w fun e w' => e = .returned (.bool true) ∧ Below w.heap.size w w' := by
  by_cases h : p.size ≤ 400
  · cases hr : renB ⟨p, f, s, t, d⟩ sent term
    · exact rend_err p f s t d sent term now w h hr
    · simp only [renB, Bool.and_eq_true, decide_eq_true_eq] at hr
      obtain ⟨⟨hb, hlt⟩, hb2⟩ := hr
      have i1 := hold_end ⟨p, f, s, t, d⟩ now
      have i2 := hold_end ⟨p, f, sent, term, d⟩ now
      dsimp only at i1 i2
      by_cases hge : endI ⟨p, f, s, t, d⟩ ≤ endI ⟨p, f, sent, term, d⟩
      · by_cases e1 : sent = s
        · subst e1
          by_cases e2 : term = t
          · subst e2
            by_cases hn : now < sent
            · exact rend_new3_early p f sent term d now w h hb hlt hb2 hge hn
            · cases n1 : holdB ⟨p, f, sent, term, d⟩ now
              · exact rend_new3_d p f sent term d now w h hb hlt hb2 hge (by omega) n1 n1
              · exact rend_new3_a p f sent term d now w h hb hlt hb2 hge (by omega) n1 n1
          · have hne : (term == t) = false := by simpa using e2
            by_cases hn : now < sent
            · exact rend_new2_early p f sent t d term now w h hb hlt hb2 hge hne hn
            · cases n1 : holdB ⟨p, f, sent, t, d⟩ now <;> cases n2 : holdB ⟨p, f, sent, term, d⟩ now
              · exact rend_new2_d p f sent t d term now w h hb hlt hb2 hge hne (by omega) n1 n2
              · exact rend_new2_c p f sent t d term now w h hb hlt hb2 hge hne (by omega) n1 n2
              · have := i1.1 n1
                rw [i2.2 ⟨hb2, by omega, by omega⟩] at n2; cases n2
              · exact rend_new2_a p f sent t d term now w h hb hlt hb2 hge hne (by omega) n1 n2
        · have hne : (sent == s) = false := by simpa using e1
          by_cases hn : now < sent
          · exact rend_new1_early p f s t d sent term now w h hb hlt hb2 hge hne hn
          · cases n1 : holdB ⟨p, f, s, t, d⟩ now <;> cases n2 : holdB ⟨p, f, sent, term, d⟩ now
            · exact rend_new1_d p f s t d sent term now w h hb hlt hb2 hge hne (by omega) n1 n2
            · exact rend_new1_c p f s t d sent term now w h hb hlt hb2 hge hne (by omega) n1 n2
            · have := i1.1 n1
              rw [i2.2 ⟨hb2, by omega, by omega⟩] at n2; cases n2
            · exact rend_new1_a p f s t d sent term now w h hb hlt hb2 hge hne (by omega) n1 n2
      · by_cases hn : now < sent
        · exact rend_old_early p f s t d sent term now w h hb hlt hb2 (by omega) hn
        · cases n1 : holdB ⟨p, f, s, t, d⟩ now <;> cases n2 : holdB ⟨p, f, sent, term, d⟩ now
          · exact rend_old_d p f s t d sent term now w h hb hlt hb2 (by omega) (by omega) n1 n2
          · have := i2.1 n2
            rw [i1.2 ⟨hb, by omega, by omega⟩] at n1; cases n1
          · exact rend_old_b p f s t d sent term now w h hb hlt hb2 (by omega) (by omega) n1 n2
          · exact rend_old_a p f s t d sent term now w h hb hlt hb2 (by omega) (by omega) n1 n2
  · exact rend_out p f s t d sent term now w (by omega)

end Go.Proofs.Ytnehjnaecgpkmaa
