/-
  OfflineFalls returns true for every claim and every two numbers; what was in memory before the call stays as it was.
-/
import Derived.Test.YtnehjnaecgpkmaaOff3
namespace Go.Proofs.Ytnehjnaecgpkmaa
open Go.RowKit

set_option maxHeartbeats 400000 in
theorem falls_out (p : ByteArray) (f s t d now more : Int) (w : World) (h : 400 < p.size ∨ more < 0 ∨ 1099511627776 < now ∨ 1099511627776 < more ∨ now < s) :
    Calls Try.prog 3 #[.agg #[.string p, .int .i64 f, .int .i64 s, .int .i64 t, .int .i64 d], .int .i64 now, .int .i64 more] w fun e w' => e = .returned (.bool true) ∧ Below w.heap.size w w' := by
  go_enter Try.func3, Try.ntmps3
  go_wp2_with (go_at_call 10; refine (awake20_any _).mono ?_; rintro e w' ⟨rfl, HB⟩)
  all_goals (go_ret; exact ⟨rfl, (Box5.new w (.string p) (.int .i64 f) (.int .i64 s) (.int .i64 t) (.int .i64 d) 23 |>.below HB).old⟩)

set_option maxHeartbeats 800000 in
theorem falls_in (p : ByteArray) (f s t d now more : Int) (w : World) (g1 : p.size ≤ 400) (g2 : 0 ≤ more) (g3 : now ≤ 1099511627776) (g4 : more ≤ 1099511627776) (g5 : s ≤ now) (g6 : -9223372036854775808 ≤ now) :
    Calls Try.prog 3 #[.agg #[.string p, .int .i64 f, .int .i64 s, .int .i64 t, .int .i64 d], .int .i64 now, .int .i64 more] w fun e w' => e = .returned (.bool true) ∧ Below w.heap.size w w' := by
  obtain ⟨a, ha⟩ : ∃ a, leftI ⟨p, f, s, t, d⟩ now = a := ⟨_, rfl⟩
  obtain ⟨b, hb⟩ : ∃ b, leftI ⟨p, f, s, t, d⟩ (now + more) = b := ⟨_, rfl⟩
  have hd := left_down ⟨p, f, s, t, d⟩ now more g5 g2
  have hbd := left_bd ⟨p, f, s, t, d⟩ now
  have hbe := left_bd ⟨p, f, s, t, d⟩ (now + more)
  rw [ha] at hbd hd
  rw [hb] at hbe hd
  obtain ⟨a0, a1⟩ := hbd
  obtain ⟨b0, b1⟩ := hbe
  have HA := Lib.hid ha
  have HBB := Lib.hid hb
  have HD := Lib.hid hd
  clear hd
  have hS := (Box5.new w (.string p) (.int .i64 f) (.int .i64 s) (.int .i64 t) (.int .i64 d) 23).drew
  by_cases hz : a = 0
  · subst hz
    have hb' : b = 0 := by rw [HD.out]; omega
    subst hb'
    have n1 := Lib.hid (left_zero _ _ ha)
    have n2 := Lib.hid (left_zero _ _ hb)
    clear ha hb
    go_enter Try.func3, Try.ntmps3
    go_wp2_with fail
    (refine wp_region_s (S := Box5 w w.heap.size (.string p) (.int .i64 f) (.int .i64 s) (.int .i64 t) (.int .i64 d)) (by kernel_rfl) (by kernel_rfl) hS ?_; have hN : Nonempty (Held (Box5 w w.heap.size (.string p) (.int .i64 f) (.int .i64 s) (.int .i64 t) (.int .i64 d))) := ⟨⟨_, hS⟩⟩; have r0 := fun y : Held (Box5 w w.heap.size (.string p) (.int .i64 f) (.int .i64 s) (.int .i64 t) (.int .i64 d)) => y.ok.c0; have r1 := fun y : Held (Box5 w w.heap.size (.string p) (.int .i64 f) (.int .i64 s) (.int .i64 t) (.int .i64 d)) => y.ok.c1; have r2 := fun y : Held (Box5 w w.heap.size (.string p) (.int .i64 f) (.int .i64 s) (.int .i64 t) (.int .i64 d)) => y.ok.c2; have r3 := fun y : Held (Box5 w w.heap.size (.string p) (.int .i64 f) (.int .i64 s) (.int .i64 t) (.int .i64 d)) => y.ok.c3; have r4 := fun y : Held (Box5 w w.heap.size (.string p) (.int .i64 f) (.int .i64 s) (.int .i64 t) (.int .i64 d)) => y.ok.c4; (repeat (go_big_quiet_step ((go_at_call 11; first | (with_reducible exact held_below (fun _ _ h h' => h.below h') (left_is _ HA.out)) | (with_reducible exact held_below (fun _ _ h h' => h.below h') (left_is _ HBB.out)))))); refine wpQuiet_nil ?_; rintro _ ⟨⟨x, hx⟩, rfl⟩; clear hN r0 r1 r2 r3 r4)
    have hx' := hx
    obtain ⟨c0, c1, c2, c3, c4, _, _, _⟩ := hx'
    go_wp2_with fail
    refine (holding_is _ n1.out).mono ?_
    rintro e w2 ⟨rfl, HB2⟩
    have k2 := hx.below HB2
    clear c0 c1 c2 c3 c4
    have k2' := k2
    obtain ⟨c0, c1, c2, c3, c4, _, _, _⟩ := k2'
    go_wp2_with fail
    refine (holding_is _ n2.out).mono ?_
    rintro e w3 ⟨rfl, HB3⟩
    have k3 := k2.below HB3
    clear c0 c1 c2 c3 c4
    go_wp2_with (go_at_call 10; refine (awake20_any _).mono ?_; rintro e w4 ⟨rfl, HB4⟩)
    go_ret
    exact ⟨rfl, (k3.below HB4).old⟩
  · have n1 := Lib.hid (left_pos _ _ (by rw [ha]; exact hz)).1
    have he := left_end ⟨p, f, s, t, d⟩ now (by rw [ha]; exact hz)
    rw [ha] at he
    have n3 := Lib.hid he.1
    have n4 := Lib.hid he.2
    have a2 : 0 < a := by omega
    have n2 : Hid (holdB ⟨p, f, s, t, d⟩ (now + more) = decide (0 < b)) := by
      by_cases e : b = 0
      · subst e; exact left_zero _ _ hb
      · show _ = _
        rw [(left_pos _ _ (by rw [hb]; exact e)).1]
        have : 0 < b := by omega
        simp [this]
    have hm : b = a - more ∨ b = 0 := by rw [HD.out]; omega
    have hm2 : a - more ≤ b := by rw [HD.out]; omega
    have hz' : (a == 0) = false := by simpa using hz
    clear ha hb he hz
    go_enter Try.func3, Try.ntmps3
    go_wp2_with fail
    (refine wp_region_s (S := Box5 w w.heap.size (.string p) (.int .i64 f) (.int .i64 s) (.int .i64 t) (.int .i64 d)) (by kernel_rfl) (by kernel_rfl) hS ?_; have hN : Nonempty (Held (Box5 w w.heap.size (.string p) (.int .i64 f) (.int .i64 s) (.int .i64 t) (.int .i64 d))) := ⟨⟨_, hS⟩⟩; have r0 := fun y : Held (Box5 w w.heap.size (.string p) (.int .i64 f) (.int .i64 s) (.int .i64 t) (.int .i64 d)) => y.ok.c0; have r1 := fun y : Held (Box5 w w.heap.size (.string p) (.int .i64 f) (.int .i64 s) (.int .i64 t) (.int .i64 d)) => y.ok.c1; have r2 := fun y : Held (Box5 w w.heap.size (.string p) (.int .i64 f) (.int .i64 s) (.int .i64 t) (.int .i64 d)) => y.ok.c2; have r3 := fun y : Held (Box5 w w.heap.size (.string p) (.int .i64 f) (.int .i64 s) (.int .i64 t) (.int .i64 d)) => y.ok.c3; have r4 := fun y : Held (Box5 w w.heap.size (.string p) (.int .i64 f) (.int .i64 s) (.int .i64 t) (.int .i64 d)) => y.ok.c4; (repeat (go_big_quiet_step ((go_at_call 11; first | (with_reducible exact held_below (fun _ _ h h' => h.below h') (left_is _ HA.out)) | (with_reducible exact held_below (fun _ _ h h' => h.below h') (left_is _ HBB.out)))))); refine wpQuiet_nil ?_; rintro _ ⟨⟨x, hx⟩, rfl⟩; clear hN r0 r1 r2 r3 r4)
    have hx' := hx
    obtain ⟨c0, c1, c2, c3, c4, _, _, _⟩ := hx'
    go_wp2_with fail
    refine (holding_is _ n1.out).mono ?_
    rintro e w2 ⟨rfl, HB2⟩
    have k2 := hx.below HB2
    clear c0 c1 c2 c3 c4
    have k2' := k2
    obtain ⟨c0, c1, c2, c3, c4, _, _, _⟩ := k2'
    go_wp2_with fail
    refine (holding_is _ n2.out).mono ?_
    rintro e w3 ⟨rfl, HB3⟩
    have k3 := k2.below HB3
    clear c0 c1 c2 c3 c4
    have k3' := k3
    obtain ⟨c0, c1, c2, c3, c4, _, _, _⟩ := k3'
    go_wp2_with fail
    refine (holding_is _ n3.out).mono ?_
    rintro e w4 ⟨rfl, HB4⟩
    have k4 := k3.below HB4
    clear c0 c1 c2 c3 c4
    have k4' := k4
    obtain ⟨c0, c1, c2, c3, c4, _, _, _⟩ := k4'
    go_wp2_with fail
    refine (holding_is _ n4.out).mono ?_
    rintro e w5 ⟨rfl, HB5⟩
    have k5 := k4.below HB5
    clear c0 c1 c2 c3 c4
    go_wp2_with (go_at_call 10; refine (awake20_any _).mono ?_; rintro e w6 ⟨rfl, HB6⟩)
    all_goals (go_ret; exact ⟨rfl, (k5.below HB6).old⟩)

theorem falls_any (p : ByteArray) (f s t d now more : Int) (w : World) (g6 : -9223372036854775808 ≤ now) :
    Calls Try.prog 3 #[.agg #[.string p, .int .i64 f, .int .i64 s, .int .i64 t, .int .i64 d], .int .i64 now, .int .i64 more] w fun e w' => e = .returned (.bool true) ∧ Below w.heap.size w w' := by
  by_cases h : 400 < p.size ∨ more < 0 ∨ 1099511627776 < now ∨ 1099511627776 < more ∨ now < s
  · exact falls_out p f s t d now more w h
  · exact falls_in p f s t d now more w (by omega) (by omega) (by omega) (by omega) (by omega) g6

end Go.Proofs.Ytnehjnaecgpkmaa
