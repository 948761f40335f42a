/-
  The walks of package offline: sound, most, span, end, Begin, Holding, Left, Renewed.
-/
import Derived.Test.YtcfmkmhibghaoaaDoorPath
namespace Go.Proofs.YtcfmkmhibghaoaaDoor
open Go.RowKit

structure Claim where
  path : ByteArray
  fence : Int
  sent : Int
  term : Int
  drift : Int
def Claim.val (c : Claim) : Value := .agg #[.string c.path, .int .i64 c.fence, .int .i64 c.sent, .int .i64 c.term, .int .i64 c.drift]

def soundB (c : Claim) : Bool := decide (c.path.size ≤ 200) && validB c.path.data.toList && decide (1 ≤ c.fence) && decide (0 ≤ c.sent) && decide (c.sent ≤ 1099511627776) && decide (1 ≤ c.term) && decide (c.term ≤ 1048576) && decide (0 ≤ c.drift) && decide (c.drift ≤ 500)

set_option maxHeartbeats 800000 in
theorem sound_any (p : ByteArray) (f s t d : Int) (w : World) :
    Calls Tryd.prog 20 #[.agg #[.string p, .int .i64 f, .int .i64 s, .int .i64 t, .int .i64 d]] w fun e w' => e = .returned (.bool (soundB ⟨p, f, s, t, d⟩)) ∧ Below w.heap.size w w' := by
  have HB := (Below.refl w.heap.size w).alloc (Nat.le_refl _) (.cells #[.string p, .int .i64 f, .int .i64 s, .int .i64 t, .int .i64 d] 24)
  by_cases hp : p.size ≤ 200
  · cases hv : validB p.data.toList
    · go_enter Tryd.func20, Tryd.ntmps20
      go_wp2_with (go_at_call 38; refine (valid_any _ _ (by omega)).mono ?_; rintro e w' ⟨rfl, rfl⟩)
      go_ret
      exact ⟨ret_bool (by simp [soundB, hv]), HB⟩
    · go_enter Tryd.func20, Tryd.ntmps20
      go_wp2_with (go_at_call 38; refine (valid_any _ _ (by omega)).mono ?_; rintro e w' ⟨rfl, rfl⟩)
      all_goals (go_ret; refine ⟨ret_bool ?_, HB⟩; simp [soundB, hv, hp] <;> omega)
  · go_enter Tryd.func20, Tryd.ntmps20
    go_wp2_with fail
    go_ret
    exact ⟨ret_bool (by simp [soundB, hp]), HB⟩

def mostI (t d : Int) : Int := t + (t * d + 999) / 1000 + 1
theorem mul_bd (t d : Int) (h0 : 0 ≤ t) (h1 : t ≤ 1099511627776) (h2 : 0 ≤ d) (h3 : d ≤ 500) : 0 ≤ t * d ∧ t * d ≤ 549755813888000 := by
  constructor
  · exact Int.mul_nonneg h0 h2
  · calc t * d ≤ 1099511627776 * d := Int.mul_le_mul_of_nonneg_right h1 h2
      _ ≤ 1099511627776 * 500 := Int.mul_le_mul_of_nonneg_left h3 (by omega)
      _ = 549755813888000 := by omega

set_option maxHeartbeats 400000 in
theorem most_any (t d : Int) (w : World) (h0 : 0 ≤ t) (h1 : t ≤ 1099511627776) (h2 : 0 ≤ d) (h3 : d ≤ 500) :
    Calls Tryd.prog 33 #[.int .i64 t, .int .i64 d] w fun e w' => e = .returned (.int .i64 (mostI t d)) ∧ w = w' := by
  obtain ⟨m0, m1⟩ := mul_bd t d h0 h1 h2 h3
  go_enter Tryd.func33, Tryd.ntmps33
  go_wp2_with fail
  go_ret
  exact ⟨rfl, rfl⟩

set_option maxHeartbeats 400000 in
theorem span1_any (k t d : Int) (b : Nat) (w : World) (h0 : 0 ≤ k) (h1 : k ≤ 1099511627776) (h2 : 0 ≤ d) (h3 : d ≤ 500)
    (c3 : w.cell? ⟨b, 3, none⟩ = some (.int .i64 t)) (c4 : w.cell? ⟨b, 4, none⟩ = some (.int .i64 d)) :
    Calls Tryd.prog 46 #[.int .i64 k, .pointer (some ⟨b, 0, none⟩)] w fun e w' => e = .returned (.bool (decide (t ≤ mostI k d))) ∧ ∃ n, w' = w.drewN n := by
  go_enter Tryd.func46, Tryd.ntmps46
  go_wp2_with fail
  go_quiet ((go_at_call 33; exact quiet_left (most_any _ _ _ h0 h1 h2 h3)))
  go_wp2_with fail
  go_ret
  exact ⟨rfl, _, rfl⟩

theorem most_mono (j k d : Int) (h : j ≤ k) (_h0 : 0 ≤ j) (hd : 0 ≤ d) : mostI j d ≤ mostI k d := by
  unfold mostI
  have := Int.mul_le_mul_of_nonneg_right h hd
  omega
theorem most_gt (k d : Int) (h0 : 0 ≤ k) (hd : 0 ≤ d) : k < mostI k d := by
  unfold mostI
  have := Int.mul_nonneg h0 hd
  omega

def ticksFrom (t d : Int) : Nat → Nat → Nat
  | 0, k => k
  | n + 1, k => if t ≤ mostI k d then k else ticksFrom t d n (k + 1)
def ticks (t d : Int) : Nat := ticksFrom t d t.toNat 0
theorem ticksFrom_spec (t d : Int) (hd : 0 ≤ d) : ∀ n k : Nat, t ≤ (k + n : Nat) → (∀ j : Nat, j < k → mostI j d < t) →
    ticksFrom t d n k ≤ k + n ∧ (∀ j : Nat, j < ticksFrom t d n k → mostI j d < t) ∧ t ≤ mostI (ticksFrom t d n k) d
  | 0, k, h, hj => by
    refine ⟨Nat.le_refl _, hj, ?_⟩
    have := most_gt k d (by omega) hd
    unfold ticksFrom
    omega
  | n + 1, k, h, hj => by
    unfold ticksFrom
    split
    · rename_i hc
      exact ⟨by omega, hj, hc⟩
    · rename_i hc
      have := ticksFrom_spec t d hd n (k + 1) (by omega) (fun j hlt => by
        by_cases e : j = k
        · subst e; omega
        · exact hj j (by omega))
      exact ⟨by omega, this.2⟩
theorem ticks_spec (t d : Int) (hd : 0 ≤ d) : ticks t d ≤ t.toNat ∧ (∀ j : Nat, j < ticks t d → mostI j d < t) ∧ t ≤ mostI (ticks t d) d := by
  have := ticksFrom_spec t d hd t.toNat 0 (by omega) (fun j h => by omega)
  simpa [ticks] using this
theorem ticks_lt (t d : Int) (hd : 0 ≤ d) (k : Nat) : k < ticks t d ↔ mostI k d < t := by
  obtain ⟨_, h1, h2⟩ := ticks_spec t d hd
  constructor
  · exact h1 k
  · intro h
    by_cases hk : k < ticks t d
    · exact hk
    · have := most_mono (ticks t d) k d (by omega) (by omega) hd
      omega

theorem drewN_cell (w : World) (n : Nat) (a : Addr) : (w.drewN n).cell? a = w.cell? a := rfl

set_option maxHeartbeats 400000 in
theorem search_any (t d : Int) (b : Nat) (w : World) (h0 : 1 ≤ t) (h1 : t ≤ 1048576) (h2 : 0 ≤ d) (h3 : d ≤ 500)
    (c3 : w.cell? ⟨b, 3, none⟩ = some (.int .i64 t)) (c4 : w.cell? ⟨b, 4, none⟩ = some (.int .i64 d)) :
    Calls Tryd.prog 45 #[.int .i64 t, .func (.func 46) #[] #[.pointer (some ⟨b, 0, none⟩)]] w fun e w' => e = .returned (.int .i64 (ticks t d)) ∧ ∃ n, w' = w.drewN n := by
  go_enter Tryd.func45, Tryd.ntmps45
  go_wp2_with fail
  obtain ⟨k1, k2, k3⟩ := ticks_spec t d h2
  have HT := Lib.hid (ticks_lt t d h2)
  clear k2 k3
  go_loopw [5, 6] (fun i j wr => ∃ a c n : Nat, a ≤ ticks t d ∧ ticks t d ≤ c ∧ c ≤ 1048576 ∧ i = .int .i64 a ∧ j = .int .i64 c ∧ wr = w.drewN n) (fun i j _ => (intOf j - intOf i).toNat)
  case atStart =>
    exact ⟨0, t.toNat, 0, by omega, k1, by omega, rfl, by congr 1; omega, rfl⟩
  case round =>
    obtain ⟨a, c, n, ha, hc, hc2, rfl, rfl, rfl⟩ := hrel
    by_cases hlt : a < c
    · have e2 : (((a + c) / 2 : Nat) : Int) = ((a : Int) + c) / 2 := by omega
      have hn := HT.out ((a + c) / 2)
      rw [e2] at hn
      have HE := Lib.hid e2
      clear e2
      cases hb : decide (t ≤ mostI (((a : Int) + c) / 2) d)
      · have hn' : (a + c) / 2 < ticks t d := hn.2 (by simpa using hb)
        clear hn
        go_wp2_with (go_at_call 46; refine (span1_any _ t d b _ (by omega) (by omega) h2 h3 (by exact c3) (by exact c4)).mono ?_; rintro e w' ⟨rfl, m, rfl⟩)
        go_roundw
        case rel => exact ⟨(a + c) / 2 + 1, c, n + m, by omega, hc, hc2, by go_num, rfl, rfl⟩
        case measure => simp [intOf]; omega
      · have hn' : ticks t d ≤ (a + c) / 2 := by
          have h5 : ¬ mostI (((a : Int) + c) / 2) d < t := by have := of_decide_eq_true hb; omega
          have := mt hn.1 h5
          omega
        clear hn
        go_wp2_with (go_at_call 46; refine (span1_any _ t d b _ (by omega) (by omega) h2 h3 (by exact c3) (by exact c4)).mono ?_; rintro e w' ⟨rfl, m, rfl⟩)
        go_roundw
        case rel => exact ⟨a, (a + c) / 2, n + m, ha, by omega, by omega, rfl, by go_num, rfl⟩
        case measure => simp [intOf]; omega
    · have : a = ticks t d := by omega
      have HE := Lib.hid this
      clear this
      go_wp2_with fail
      go_ret
      exact ⟨ret_int (by rw [← HE.out]), n, rfl⟩

def spanI (c : Claim) : Int := min (ticks c.term c.drift) (1099511627777 - c.sent)

set_option maxHeartbeats 400000 in
theorem span_any (p : ByteArray) (f s t d : Int) (w : World) (hs : soundB ⟨p, f, s, t, d⟩ = true) :
    Calls Tryd.prog 34 #[.agg #[.string p, .int .i64 f, .int .i64 s, .int .i64 t, .int .i64 d]] w fun e w' => e = .returned (.int .i64 (spanI ⟨p, f, s, t, d⟩)) ∧ Below w.heap.size w w' := by
  simp [soundB] at hs
  obtain ⟨⟨⟨⟨⟨⟨⟨⟨_, _⟩, _⟩, hs0⟩, hs1⟩, ht0⟩, ht1⟩, hd0⟩, hd1⟩ := hs
  have hk := (ticks_spec t d hd0).1
  go_enter Tryd.func34, Tryd.ntmps34
  go_wp2_with (go_at_call 45; refine (search_any t d w.heap.size _ ht0 ht1 hd0 hd1 (by simp [go_sem]) (by simp [go_sem])).mono ?_; rintro e w' ⟨rfl, n, rfl⟩)
  all_goals (go_ret; refine ⟨ret_int ?_, below_drewN ((Below.refl _ _).alloc (Nat.le_refl _) _) n⟩; simp only [spanI]; omega)

theorem sound_is {p : ByteArray} {f s t d : Int} {b : Bool} (w : World) (hb : soundB ⟨p, f, s, t, d⟩ = b) :
    Calls Tryd.prog 20 #[.agg #[.string p, .int .i64 f, .int .i64 s, .int .i64 t, .int .i64 d]] w fun e w' => e = .returned (.bool b) ∧ Below w.heap.size w w' := by
  have := sound_any p f s t d w
  rw [hb] at this
  exact this
set_option maxHeartbeats 400000 in
theorem begin_no (p : ByteArray) (f s t d : Int) (w : World) (hb : soundB ⟨p, f, s, t, d⟩ = false) :
    Calls Tryd.prog 16 #[.string p, .int .i64 f, .int .i64 s, .int .i64 t, .int .i64 d] w fun e w' => e = .returned (.tuple #[.agg #[.string ⟨#[]⟩, .int .i64 0, .int .i64 0, .int .i64 0, .int .i64 0], .int .i64 200]) ∧ Below w.heap.size w w' := by
  go_enter Tryd.func16, Tryd.ntmps16
  go_wp2_with (go_at_call 20; refine (sound_is _ hb).mono ?_; rintro e w' ⟨rfl, HB⟩; obtain ⟨hc, hf⟩ := bcell HB; have k := ((Box5.new w (.string ⟨#[]⟩) (.int .i64 0) (.int .i64 0) (.int .i64 0) (.int .i64 0) 24).alloc _).below HB)
  refine bodyPost_ret (v := .tuple #[.agg #[.string ⟨#[]⟩, .int .i64 0, .int .i64 0, .int .i64 0, .int .i64 0], .int .i64 200]) (by simp [results, Tryd.results16, go_sem, k.c0, k.c1, k.c2, k.c3, k.c4]) rfl ⟨rfl, ?_⟩
  have ho := k.old
  (repeat (first | (with_reducible exact Below.refl _ _) | (with_reducible assumption) | (with_reducible refine Below.setCell ?_ ?_ _; rotate_left; focus (first | exact Nat.le_refl _ | (dsimp only; omega))) | (with_reducible refine Below.drew ?_) | (with_reducible refine below_drewN ?_ _) | (with_reducible refine Below.alloc ?_ ?_ _; rotate_left; focus (first | exact Nat.le_refl _ | (simp; done) | (simp; omega))) | (with_reducible refine Below.trans ?_ (HB.mono ?_); rotate_left; focus (first | exact Nat.le_refl _ | (simp; done) | (simp; omega)))))

set_option maxHeartbeats 400000 in
theorem begin_yes (p : ByteArray) (f s t d : Int) (w : World) (hb : soundB ⟨p, f, s, t, d⟩ = true) :
    Calls Tryd.prog 16 #[.string p, .int .i64 f, .int .i64 s, .int .i64 t, .int .i64 d] w fun e w' => e = .returned (.tuple #[.agg #[.string p, .int .i64 f, .int .i64 s, .int .i64 t, .int .i64 d], .int .i64 0]) ∧ Below w.heap.size w w' := by
  go_enter Tryd.func16, Tryd.ntmps16
  go_wp2_with (go_at_call 20; refine (sound_is _ hb).mono ?_; rintro e w' ⟨rfl, HB⟩; obtain ⟨hc, hf⟩ := bcell HB; have k := ((Box5.new w (.string ⟨#[]⟩) (.int .i64 0) (.int .i64 0) (.int .i64 0) (.int .i64 0) 24).alloc _).below HB)
  refine bodyPost_ret (v := .tuple #[.agg #[.string p, .int .i64 f, .int .i64 s, .int .i64 t, .int .i64 d], .int .i64 0]) (by simp [results, Tryd.results16, go_sem, k.c0, k.c1, k.c2, k.c3, k.c4]) rfl ⟨rfl, ?_⟩
  have ho := k.old
  (repeat (first | (with_reducible exact Below.refl _ _) | (with_reducible assumption) | (with_reducible refine Below.setCell ?_ ?_ _; rotate_left; focus (first | exact Nat.le_refl _ | (dsimp only; omega))) | (with_reducible refine Below.drew ?_) | (with_reducible refine below_drewN ?_ _) | (with_reducible refine Below.alloc ?_ ?_ _; rotate_left; focus (first | exact Nat.le_refl _ | (simp; done) | (simp; omega))) | (with_reducible refine Below.trans ?_ (HB.mono ?_); rotate_left; focus (first | exact Nat.le_refl _ | (simp; done) | (simp; omega)))))

def holdB (c : Claim) (now : Int) : Bool := soundB c && decide (c.sent ≤ now) && decide (now ≤ 1099511627776) && decide (mostI (now - c.sent) c.drift < c.term)

theorem sound_parts {p : ByteArray} {f s t d : Int} (hb : soundB ⟨p, f, s, t, d⟩ = true) : p.size ≤ 200 ∧ 1 ≤ f ∧ 0 ≤ s ∧ s ≤ 1099511627776 ∧ 1 ≤ t ∧ t ≤ 1048576 ∧ 0 ≤ d ∧ d ≤ 500 := by
  simp [soundB] at hb
  omega

set_option maxHeartbeats 800000 in
theorem holding_any (p : ByteArray) (f s t d now : Int) (w : World) :
    Calls Tryd.prog 17 #[.agg #[.string p, .int .i64 f, .int .i64 s, .int .i64 t, .int .i64 d], .int .i64 now] w fun e w' => e = .returned (.bool (holdB ⟨p, f, s, t, d⟩ now)) ∧ Below w.heap.size w w' := by
  have hS := (Box5.new w (.string p) (.int .i64 f) (.int .i64 s) (.int .i64 t) (.int .i64 d) 24).drew
  cases hb : soundB ⟨p, f, s, t, d⟩
  · go_enter Tryd.func17, Tryd.ntmps17
    go_wp2_with fail
    (refine wp_region_s (S := Box5 w w.heap.size (.string p) (.int .i64 f) (.int .i64 s) (.int .i64 t) (.int .i64 d)) (by kernel_rfl) (by kernel_rfl) hS ?_; have hN : Nonempty (Held (Box5 w w.heap.size (.string p) (.int .i64 f) (.int .i64 s) (.int .i64 t) (.int .i64 d))) := ⟨⟨_, hS⟩⟩; have r0 := fun y : Held (Box5 w w.heap.size (.string p) (.int .i64 f) (.int .i64 s) (.int .i64 t) (.int .i64 d)) => y.ok.c0; have r1 := fun y : Held (Box5 w w.heap.size (.string p) (.int .i64 f) (.int .i64 s) (.int .i64 t) (.int .i64 d)) => y.ok.c1; have r2 := fun y : Held (Box5 w w.heap.size (.string p) (.int .i64 f) (.int .i64 s) (.int .i64 t) (.int .i64 d)) => y.ok.c2; have r3 := fun y : Held (Box5 w w.heap.size (.string p) (.int .i64 f) (.int .i64 s) (.int .i64 t) (.int .i64 d)) => y.ok.c3; have r4 := fun y : Held (Box5 w w.heap.size (.string p) (.int .i64 f) (.int .i64 s) (.int .i64 t) (.int .i64 d)) => y.ok.c4; (repeat (go_big_quiet_step ((go_at_call 20; exact held_below (fun _ _ h h' => h.below h') (sound_is _ hb))))); refine wpQuiet_nil ?_; rintro _ ⟨⟨x, hx⟩, rfl⟩; clear hN r0 r1 r2 r3 r4)
    go_wp2_with fail
    go_ret
    exact ⟨ret_bool (by simp [holdB, hb]), hx.old⟩
  · obtain ⟨_, _, hs0, hs1, ht0, ht1, hd0, hd1⟩ := sound_parts hb
    by_cases h1 : s ≤ now
    · by_cases h2 : now ≤ 1099511627776
      · have hn0 : 0 ≤ now - s := by omega
        have hn1 : now - s ≤ 1099511627776 := by omega
        have HM := Lib.hid (fun W => most_any (now - s) d W hn0 hn1 hd0 hd1)
        go_enter Tryd.func17, Tryd.ntmps17
        go_wp2_with fail
        (refine wp_region_s (S := Box5 w w.heap.size (.string p) (.int .i64 f) (.int .i64 s) (.int .i64 t) (.int .i64 d)) (by kernel_rfl) (by kernel_rfl) hS ?_; have hN : Nonempty (Held (Box5 w w.heap.size (.string p) (.int .i64 f) (.int .i64 s) (.int .i64 t) (.int .i64 d))) := ⟨⟨_, hS⟩⟩; have r0 := fun y : Held (Box5 w w.heap.size (.string p) (.int .i64 f) (.int .i64 s) (.int .i64 t) (.int .i64 d)) => y.ok.c0; have r1 := fun y : Held (Box5 w w.heap.size (.string p) (.int .i64 f) (.int .i64 s) (.int .i64 t) (.int .i64 d)) => y.ok.c1; have r2 := fun y : Held (Box5 w w.heap.size (.string p) (.int .i64 f) (.int .i64 s) (.int .i64 t) (.int .i64 d)) => y.ok.c2; have r3 := fun y : Held (Box5 w w.heap.size (.string p) (.int .i64 f) (.int .i64 s) (.int .i64 t) (.int .i64 d)) => y.ok.c3; have r4 := fun y : Held (Box5 w w.heap.size (.string p) (.int .i64 f) (.int .i64 s) (.int .i64 t) (.int .i64 d)) => y.ok.c4; (repeat (go_big_quiet_step (first | (go_at_call 20; exact held_below (fun _ _ h h' => h.below h') (sound_is _ hb)) | (go_at_call 33; exact held_same (HM.out _))))); refine wpQuiet_nil ?_; rintro _ ⟨⟨x, hx⟩, rfl⟩; clear hN r0 r1 r2 r3 r4)
        go_wp2_with fail
        go_ret
        exact ⟨ret_bool (by simp [holdB, hb, h1, h2]), hx.old⟩
      · have g2 : decide (now ≤ 1099511627776) = false := by simpa using h2
        go_enter Tryd.func17, Tryd.ntmps17
        go_wp2_with fail
        (refine wp_region_s (S := Box5 w w.heap.size (.string p) (.int .i64 f) (.int .i64 s) (.int .i64 t) (.int .i64 d)) (by kernel_rfl) (by kernel_rfl) hS ?_; have hN : Nonempty (Held (Box5 w w.heap.size (.string p) (.int .i64 f) (.int .i64 s) (.int .i64 t) (.int .i64 d))) := ⟨⟨_, hS⟩⟩; have r0 := fun y : Held (Box5 w w.heap.size (.string p) (.int .i64 f) (.int .i64 s) (.int .i64 t) (.int .i64 d)) => y.ok.c0; have r1 := fun y : Held (Box5 w w.heap.size (.string p) (.int .i64 f) (.int .i64 s) (.int .i64 t) (.int .i64 d)) => y.ok.c1; have r2 := fun y : Held (Box5 w w.heap.size (.string p) (.int .i64 f) (.int .i64 s) (.int .i64 t) (.int .i64 d)) => y.ok.c2; have r3 := fun y : Held (Box5 w w.heap.size (.string p) (.int .i64 f) (.int .i64 s) (.int .i64 t) (.int .i64 d)) => y.ok.c3; have r4 := fun y : Held (Box5 w w.heap.size (.string p) (.int .i64 f) (.int .i64 s) (.int .i64 t) (.int .i64 d)) => y.ok.c4; (repeat (go_big_quiet_step ((go_at_call 20; exact held_below (fun _ _ h h' => h.below h') (sound_is _ hb))))); refine wpQuiet_nil ?_; rintro _ ⟨⟨x, hx⟩, rfl⟩; clear hN r0 r1 r2 r3 r4)
        go_wp2_with fail
        go_ret
        exact ⟨ret_bool (by simp [holdB, hb]; omega), hx.old⟩
    · have g1 : decide (s ≤ now) = false := by simpa using h1
      go_enter Tryd.func17, Tryd.ntmps17
      go_wp2_with fail
      (refine wp_region_s (S := Box5 w w.heap.size (.string p) (.int .i64 f) (.int .i64 s) (.int .i64 t) (.int .i64 d)) (by kernel_rfl) (by kernel_rfl) hS ?_; have hN : Nonempty (Held (Box5 w w.heap.size (.string p) (.int .i64 f) (.int .i64 s) (.int .i64 t) (.int .i64 d))) := ⟨⟨_, hS⟩⟩; have r0 := fun y : Held (Box5 w w.heap.size (.string p) (.int .i64 f) (.int .i64 s) (.int .i64 t) (.int .i64 d)) => y.ok.c0; have r1 := fun y : Held (Box5 w w.heap.size (.string p) (.int .i64 f) (.int .i64 s) (.int .i64 t) (.int .i64 d)) => y.ok.c1; have r2 := fun y : Held (Box5 w w.heap.size (.string p) (.int .i64 f) (.int .i64 s) (.int .i64 t) (.int .i64 d)) => y.ok.c2; have r3 := fun y : Held (Box5 w w.heap.size (.string p) (.int .i64 f) (.int .i64 s) (.int .i64 t) (.int .i64 d)) => y.ok.c3; have r4 := fun y : Held (Box5 w w.heap.size (.string p) (.int .i64 f) (.int .i64 s) (.int .i64 t) (.int .i64 d)) => y.ok.c4; (repeat (go_big_quiet_step ((go_at_call 20; exact held_below (fun _ _ h h' => h.below h') (sound_is _ hb))))); refine wpQuiet_nil ?_; rintro _ ⟨⟨x, hx⟩, rfl⟩; clear hN r0 r1 r2 r3 r4)
      go_wp2_with fail
      go_ret
      exact ⟨ret_bool (by simp [holdB, hb]; omega), hx.old⟩

def leftI (c : Claim) (now : Int) : Int := if holdB c now then spanI c - (now - c.sent) else 0

theorem holding_is {p : ByteArray} {f s t d now : Int} {b : Bool} (w : World) (hb : holdB ⟨p, f, s, t, d⟩ now = b) :
    Calls Tryd.prog 17 #[.agg #[.string p, .int .i64 f, .int .i64 s, .int .i64 t, .int .i64 d], .int .i64 now] w fun e w' => e = .returned (.bool b) ∧ Below w.heap.size w w' := by
  have := holding_any p f s t d now w
  rw [hb] at this
  exact this

theorem hold_parts {p : ByteArray} {f s t d now : Int} (hb : holdB ⟨p, f, s, t, d⟩ now = true) : soundB ⟨p, f, s, t, d⟩ = true ∧ s ≤ now ∧ now ≤ 1099511627776 ∧ mostI (now - s) d < t := by
  simp [holdB] at hb
  exact ⟨hb.1.1.1, hb.1.1.2, hb.1.2, hb.2⟩

set_option maxHeartbeats 800000 in
theorem left_any (p : ByteArray) (f s t d now : Int) (w : World) :
    Calls Tryd.prog 18 #[.agg #[.string p, .int .i64 f, .int .i64 s, .int .i64 t, .int .i64 d], .int .i64 now] w fun e w' => e = .returned (.int .i64 (leftI ⟨p, f, s, t, d⟩ now)) ∧ Below w.heap.size w w' := by
  cases hb : holdB ⟨p, f, s, t, d⟩ now
  · have H0 := Lib.hid (show leftI ⟨p, f, s, t, d⟩ now = 0 by simp [leftI, hb])
    go_enter Tryd.func18, Tryd.ntmps18
    go_wp2_with (go_at_call 17; refine (holding_is _ hb).mono ?_; rintro e w' ⟨rfl, HB⟩; obtain ⟨hc, hf⟩ := bcell HB; have hz := HB.size; (try simp at hz))
    go_ret
    refine ⟨ret_int H0.out.symm, ?_⟩
    (repeat (first | (with_reducible exact Below.refl _ _) | (with_reducible assumption) | (with_reducible refine Below.setCell ?_ ?_ _; rotate_left; focus (first | exact Nat.le_refl _ | (dsimp only; omega))) | (with_reducible refine Below.drew ?_) | (with_reducible refine below_drewN ?_ _) | (with_reducible refine Below.alloc ?_ ?_ _; rotate_left; focus (first | exact Nat.le_refl _ | (simp; done) | (simp; omega))) | (with_reducible refine Below.trans ?_ (HB.mono ?_); rotate_left; focus (first | exact Nat.le_refl _ | (simp; done) | (simp; omega)))))
  · obtain ⟨hs, h1, h2, h3⟩ := hold_parts hb
    obtain ⟨_, _, hs0, hs1, ht0, ht1, hd0, hd1⟩ := sound_parts hs
    have H0 := Lib.hid (show leftI ⟨p, f, s, t, d⟩ now = spanI ⟨p, f, s, t, d⟩ - (now - s) by simp [leftI, hb])
    have hk := (ticks_spec t d hd0).1
    have hsp : 0 ≤ spanI ⟨p, f, s, t, d⟩ ∧ spanI ⟨p, f, s, t, d⟩ ≤ 1048576 := by simp only [spanI]; omega
    obtain ⟨hsp0, hsp1⟩ := hsp
    clear h3 hk
    go_enter Tryd.func18, Tryd.ntmps18
    go_wp2_with (go_at_call 17; refine (holding_is _ hb).mono ?_; rintro e w' ⟨rfl, HB⟩; have hS := ((Box5.new w (.string p) (.int .i64 f) (.int .i64 s) (.int .i64 t) (.int .i64 d) 24).below HB).drew)
    (refine wp_region_s (S := Box5 w w.heap.size (.string p) (.int .i64 f) (.int .i64 s) (.int .i64 t) (.int .i64 d)) (by kernel_rfl) (by kernel_rfl) hS ?_; have hN : Nonempty (Held (Box5 w w.heap.size (.string p) (.int .i64 f) (.int .i64 s) (.int .i64 t) (.int .i64 d))) := ⟨⟨_, hS⟩⟩; have r0 := fun y : Held (Box5 w w.heap.size (.string p) (.int .i64 f) (.int .i64 s) (.int .i64 t) (.int .i64 d)) => y.ok.c0; have r1 := fun y : Held (Box5 w w.heap.size (.string p) (.int .i64 f) (.int .i64 s) (.int .i64 t) (.int .i64 d)) => y.ok.c1; have r2 := fun y : Held (Box5 w w.heap.size (.string p) (.int .i64 f) (.int .i64 s) (.int .i64 t) (.int .i64 d)) => y.ok.c2; have r3 := fun y : Held (Box5 w w.heap.size (.string p) (.int .i64 f) (.int .i64 s) (.int .i64 t) (.int .i64 d)) => y.ok.c3; have r4 := fun y : Held (Box5 w w.heap.size (.string p) (.int .i64 f) (.int .i64 s) (.int .i64 t) (.int .i64 d)) => y.ok.c4; (repeat (go_big_quiet_step ((go_at_call 34; exact held_below (fun _ _ h h' => h.below h') (span_any p f s t d _ hs))))); refine wpQuiet_nil ?_; rintro _ ⟨⟨x, hx⟩, rfl⟩; clear hN r0 r1 r2 r3 r4)
    go_wp2_with fail
    go_ret
    exact ⟨ret_int H0.out.symm, hx.old⟩

end Go.Proofs.YtcfmkmhibghaoaaDoor
