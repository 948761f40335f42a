/-
  The sanity check of the laws of layer 20.
-/
import Derived.Test.YtnehjnaecgpkmaaDoorOff2
namespace Go.Proofs.YtnehjnaecgpkmaaDoor
open Go.RowKit

set_option maxHeartbeats 400000 in
theorem awake20_any (w : World) : Calls Tryd.prog 8 #[] w fun e w' => e = .returned (.bool true) ∧ Below w.heap.size w w' := by
  go_enter Tryd.func8, Tryd.ntmps8
  go_wp2_with fail
  refine (begin_yes _ _ _ _ _ _ ax_sound).mono ?_
  rintro e w1 ⟨rfl, HB⟩
  go_wp2_with fail
  refine (holding_is _ ax_h1).mono ?_
  rintro e w2 ⟨rfl, HB2⟩
  have k := (Box5.new w1 (.string axB) (.int .i64 1) (.int .i64 100) (.int .i64 10) (.int .i64 500) 23).below HB2
  have k' := k
  obtain ⟨c0, c1, c2, c3, c4, _, _, _⟩ := k'
  go_wp2_with fail
  refine (holding_is _ ax_h2).mono ?_
  rintro e w3 ⟨rfl, HB3⟩
  clear c0 c1 c2 c3 c4
  have k3 := k.below HB3
  have k3' := k3
  obtain ⟨c0, c1, c2, c3, c4, _, _, _⟩ := k3'
  go_wp2_with fail
  refine (left_is _ ax_l).mono ?_
  rintro e w4 ⟨rfl, HB4⟩
  go_wp2_with fail
  go_ret
  exact ⟨rfl, HB.trans (((k3.below HB4).old).mono HB.size)⟩

/-! The plain law: when a claim is holding, and for how long. -/
theorem hold_iff (c : Claim) (now : Int) : holdB c now = true ↔ soundB c = true ∧ c.sent ≤ now ∧ now - c.sent < spanI c := by
  obtain ⟨p, f, s, t, d⟩ := c
  constructor
  · intro h
    obtain ⟨h0, h1, h2, h3⟩ := hold_parts h
    obtain ⟨_, _, hs0, hs1, ht0, ht1, hd0, hd1⟩ := sound_parts h0
    have hk := (ticks_lt t d hd0 (now - s).toNat).2 (by rw [show (((now - s).toNat : Nat) : Int) = now - s from by omega]; exact h3)
    refine ⟨h0, h1, ?_⟩
    simp only [spanI]
    omega
  · rintro ⟨h0, h1, h2⟩
    obtain ⟨_, _, hs0, hs1, ht0, ht1, hd0, hd1⟩ := sound_parts h0
    simp only [spanI] at h1 h2
    have hk := (ticks_lt t d hd0 (now - s).toNat).1 (by omega)
    rw [show (((now - s).toNat : Nat) : Int) = now - s from by omega] at hk
    simp [holdB, h0, hk]
    omega
theorem hold_false (c : Claim) (now : Int) (h : ¬ (soundB c = true ∧ c.sent ≤ now ∧ now - c.sent < spanI c)) : holdB c now = false := by
  cases e : holdB c now
  · rfl
  · exact absurd ((hold_iff c now).1 e) h
theorem left_zero (c : Claim) (now : Int) (h : leftI c now = 0) : holdB c now = false := by
  cases e : holdB c now
  · rfl
  · have := (hold_iff c now).1 e
    simp [leftI, e] at h
    omega
theorem left_pos (c : Claim) (now : Int) (h : leftI c now ≠ 0) : holdB c now = true ∧ leftI c now = spanI c - (now - c.sent) ∧ 0 < leftI c now := by
  cases e : holdB c now
  · simp [leftI, e] at h
  · have := (hold_iff c now).1 e
    simp [leftI, e]
    omega
theorem left_bd (c : Claim) (now : Int) : 0 ≤ leftI c now ∧ leftI c now ≤ 1048576 := by
  by_cases h : leftI c now = 0
  · omega
  · obtain ⟨h1, h2, h3⟩ := left_pos c now h
    have := (hold_iff c now).1 h1
    have := span_bd this.1
    omega
/-- Left counts down. -/
theorem left_down (c : Claim) (now more : Int) (hs : c.sent ≤ now) (hm : 0 ≤ more) : leftI c (now + more) = max 0 (leftI c now - more) := by
  by_cases hc : soundB c = true
  · have hb := span_bd hc
    by_cases h : leftI c now = 0
    · have h0 := left_zero c now h
      have : holdB c (now + more) = false := hold_false c _ (fun ⟨_, _, h3⟩ => by
        have := (hold_iff c now).2 ⟨hc, hs, by omega⟩
        rw [h0] at this; cases this)
      rw [h]
      simp [leftI, this]
      omega
    · obtain ⟨h1, h2, h3⟩ := left_pos c now h
      cases e : holdB c (now + more)
      · have : ¬ (now + more - c.sent < spanI c) := fun h4 => by
          have := (hold_iff c (now + more)).2 ⟨hc, by omega, h4⟩
          rw [e] at this; cases this
        have e2 : leftI c (now + more) = 0 := by simp [leftI, e]
        rw [e2]; omega
      · have := (hold_iff c _).1 e
        have e2 : leftI c (now + more) = spanI c - (now + more - c.sent) := by simp [leftI, e]
        rw [e2]; omega
  · have z : ∀ x, leftI c x = 0 := fun x => by
      have : holdB c x = false := hold_false c x (fun h => hc h.1)
      simp [leftI, this]
    rw [z, z]; omega
theorem left_end (c : Claim) (now : Int) (h : leftI c now ≠ 0) : holdB c (now + leftI c now) = false ∧ holdB c (now + leftI c now - 1) = true := by
  obtain ⟨h1, h2, h3⟩ := left_pos c now h
  have h4 := (hold_iff c now).1 h1
  constructor
  · exact hold_false c _ (fun ⟨_, _, h5⟩ => by omega)
  · exact (hold_iff c _).2 ⟨h4.1, by omega, by omega⟩

end Go.Proofs.YtnehjnaecgpkmaaDoor
