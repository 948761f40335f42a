/-
  LeasePlays returns true for every operations whose texts are not longer than memory; what was in memory before the call stays as it was.
-/
import Derived.Test.YtphoodnclmplhaaDoorSame
namespace Go.Proofs.YtphoodnclmplhaaDoor
open Go.RowKit

set_option maxRecDepth 100000 in
set_option maxHeartbeats 1600000 in
theorem plays_out (A : Option Addr) (c : Nat) (l : List LOp) (w : World) (hA : OpsIn A l w) (hn : l.length ≤ 9223372036854775807) (hs : smallB l = false) :
    Calls Tryd.prog 5 #[.slice A l.length c] w fun e w' => e = .returned (.bool true) ∧ Below w.heap.size w w' := by
  go_enter Tryd.func5, Tryd.ntmps5
  go_wp2_with fail
  refine (new_any _).mono ?_
  rintro e w1 ⟨rfl, hT1, HB⟩
  go_wp2_with fail
  have HB1 : Below w.heap.size w (w1.alloc (.cells #[.int .i64 0, .slice none 0 0] 28)) := HB.alloc HB.size _
  refine (small_any A c l _ (hA.below HB1) (by omega)).mono ?_
  rw [hs]
  rintro e w2 ⟨rfl, HB2⟩
  have o2 := HB1.trans (HB2.mono HB1.size)
  go_wp2_with (go_at_call 9; refine (awake19_any _).mono ?_; rintro e w9 ⟨rfl, HB9⟩)
  go_ret
  exact ⟨rfl, o2.trans (HB9.mono o2.size)⟩

set_option maxRecDepth 100000 in
set_option maxHeartbeats 6400000 in
theorem plays_in (A : Option Addr) (c : Nat) (l : List LOp) (w : World) (hA : OpsIn A l w) (hn : l.length ≤ 90) (hs : smallB l = true) (hg : G0 w)
    (hz : ∀ o ∈ l, o.p.size ≤ 1048576 ∧ o.h.size ≤ 1048576) :
    Calls Tryd.prog 5 #[.slice A l.length c] w fun e w' => e = .returned (.bool true) ∧ Below w.heap.size w w' := by
  have HZ := Lib.hid hz
  have HG := Lib.hid hg
  clear hz hg
  go_enter Tryd.func5, Tryd.ntmps5
  go_wp2_with fail
  refine (new_any _).mono ?_
  rintro e w1 ⟨rfl, hT1, HB⟩
  have HJ := Lib.hid (JS.new hT1 HB)
  clear hT1 HB
  go_wp2_with fail
  generalize w1.heap.size = r at *
  generalize w1.alloc (.cells #[.int .i64 0, .slice none 0 0] 28) = w2 at *
  refine (small_any A c l _ (hA.below HJ.out.old) (by omega)).mono ?_
  rw [hs]
  rintro e w3 ⟨rfl, HB2⟩
  have HJ3 := Lib.hid (HJ.out.below HB2)
  clear hs HB2 HJ
  go_wp2_with fail
  go_loopw [22] (fun i wr => ∃ (k lb : Nat) (T : Tab) (R : RTab), k ≤ l.length ∧ i = .int .i64 k ∧ JS k (w.heap.size + 1) w.heap.size r lb T R w wr) (fun i _ => l.length - (intOf i).toNat)
  case atStart => exact ⟨0, _, _, _, Nat.zero_le _, rfl, HJ3.out⟩
  case round =>
    clear HJ3
    obtain ⟨k, lb, T, R, hk, rfl, hJ⟩ := hrel
    have HJ := Lib.hid hJ
    by_cases hlt : k < l.length
    · obtain ⟨bo, off, rfl, hbo, hops⟩ := hA (by omega)
      obtain ⟨h0, h1, h2, h3, h4⟩ := (hops.below hJ.old hbo) k l[k] (List.getElem?_eq_getElem hlt)
      have hzk := HZ.out l[k] (List.getElem_mem hlt)
      generalize l[k] = o at *
      obtain ⟨kd, op, oh, ofe, on⟩ := o
      dsimp only at h0 h1 h2 h3 h4 hzk
      have hb4 : Below wr.heap.size wr (wr.alloc (.cells #[.int .i64 kd, .string op, .string oh, .int .i64 ofe, .int .i64 on] 32)) := below_box _ _
      have HJ4 := Lib.hid (hJ.below hb4)
      have k4 := (Box5.new wr (.int .i64 kd) (.string op) (.string oh) (.int .i64 ofe) (.int .i64 on) 32).cell5
      have hwl := hJ.old.size
      have hw4s : wr.heap.size < (wr.alloc (.cells #[.int .i64 kd, .string op, .string oh, .int .i64 ofe, .int .i64 on] 32)).heap.size := by simp
      have hJ' : TabAt _ _ _ _ wr := hJ.t
      have hl1 := hJ'.lt
      have hl2 := hJ'.mp.lt
      have hl3 := hJ.rr.rlt
      have hl4 := hJ.rr.lt
      clear hb4 hJ hJ' HJ
      go_wp2_with fail
      generalize wr.alloc (.cells #[.int .i64 kd, .string op, .string oh, .int .i64 ofe, .int .i64 on] 32) = w4 at *
      refine (do_post _ _ T kd ofe on op oh w4 HJ4.out.t HJ4.out.inv.ok).mono ?_
      rintro e w5 ⟨rfl, hT5, hO5⟩
      have k5 := (k4.only hO5 (by omega) (by omega))
      obtain ⟨hR5, hB5⟩ := HJ4.out.mid hO5
      have hA5 : AcqH R op oh w5 := (HJ4.out.acqH HG.out (by omega) hzk.1 hzk.2).of_g0 (HG.out.below hB5)
      obtain ⟨X, hX⟩ : ∃ X, (doT T ⟨kd, op, oh, ofe, on⟩).2.1 = X := ⟨_, rfl⟩
      obtain ⟨E1, hE1⟩ : ∃ E, (doT T ⟨kd, op, oh, ofe, on⟩).2.2 = E := ⟨_, rfl⟩
      have HX := Lib.hid hX
      have HE1 := Lib.hid hE1
      rw [hX, hE1]
      clear hX hE1
      obtain ⟨lp, lh, lf, ls, lu⟩ := X
      dsimp only [Lease.val]
      have hob := below_box w5 (.cells #[.string lp, .string lh, .int .i64 lf, .int .i64 ls, .int .i64 lu] 34)
      have HO5 := Lib.hid (hO5.alloc (.cells #[.string lp, .string lh, .int .i64 lf, .int .i64 ls, .int .i64 lu] 34))
      have HT5 := Lib.hid (TabAt.alloc hT5 (.cells #[.string lp, .string lh, .int .i64 lf, .int .i64 ls, .int .i64 lu] 34))
      have HR5 := Lib.hid (hR5.alloc (.cells #[.string lp, .string lh, .int .i64 lf, .int .i64 ls, .int .i64 lu] 34))
      have HA5 := Lib.hid (hA5.below hob)
      have k6 := k5.alloc (.cells #[.string lp, .string lh, .int .i64 lf, .int .i64 ls, .int .i64 lu] 34)
      have j6 := (Box5.new w5 (.string lp) (.string lh) (.int .i64 lf) (.int .i64 ls) (.int .i64 lu) 34).cell5
      have hw5s := hO5.size
      (have k5' := k5; obtain ⟨d0, d1, d2, d3, d4, lt_k5, fz_k5⟩ := k5')
      clear h0 h1 h2 h3 h4 k4 hR5 hB5 hO5 hT5 hA5 hob
      go_wp2_with fail
      clear d0 d1 d2 d3 d4 lt_k5 fz_k5 k5
      generalize w5.alloc (.cells #[.string lp, .string lh, .int .i64 lf, .int .i64 ls, .int .i64 lu] 34) = w6 at *
      have HN : Hid (∀ (lb' : Nat) (z : World), RAt r lb' (rdo R ⟨kd, op, oh, ofe, on⟩).1 z → Only r lb w6 z → (lb' = lb ∨ w6.heap.size ≤ lb') → (rdo R ⟨kd, op, oh, ofe, on⟩).2 = (⟨lp, lh, lf, ls, lu⟩, E1) ∧ JS (k + 1) (w.heap.size + 1) w.heap.size r lb' (doT T ⟨kd, op, oh, ofe, on⟩).1 (rdo R ⟨kd, op, oh, ofe, on⟩).1 w z) := fun lb' z h1 h2 h3 => by
        have := HJ4.out.next ⟨kd, op, oh, ofe, on⟩ hzk.1 HO5.out HT5.out h1 h2 h3
        refine ⟨?_, this.2⟩
        rw [← this.1]
        exact Prod.ext HX.out HE1.out
      have hj6l : w5.heap.size ≠ r ∧ w5.heap.size ≠ lb := ⟨by omega, by omega⟩
      (have k6' := k6; obtain ⟨d0, d1, d2, d3, d4, lt_k6, fz_k6⟩ := k6')
      go_wp2_with fail
      refine (rdo_any r lb R kd ofe on op oh w6 HR5.out HA5.out).mono ?_
      generalize hQ : rdo R ⟨kd, op, oh, ofe, on⟩ = Q at HN
      obtain ⟨R', Q2⟩ := Q
      rintro e w7 ⟨lb', rfl, hR7, hO7, hor⟩
      obtain ⟨hq2, hJ7⟩ := HN.out lb' w7 hR7 hO7 hor
      dsimp only at hq2 hJ7
      subst hq2
      dsimp only [Lease.val]
      have j7 := (j6.only hO7 hj6l.1 hj6l.2).alloc (.cells #[.string lp, .string lh, .int .i64 lf, .int .i64 ls, .int .i64 lu] 34)
      have m7 := (Box5.new w7 (.string lp) (.string lh) (.int .i64 lf) (.int .i64 ls) (.int .i64 lu) 34).cell5
      have HJ8 := Lib.hid (hJ7.below (below_box w7 (.cells #[.string lp, .string lh, .int .i64 lf, .int .i64 ls, .int .i64 lu] 34)))
      clear hR7 hO7 hor hJ7 HJ4 HO5 HT5 HR5 HA5 HX HE1 HN hQ j6 k6 d0 d1 d2 d3 d4 lt_k6 fz_k6
      go_wp2_with fail
      generalize w7.alloc (.cells #[.string lp, .string lh, .int .i64 lf, .int .i64 ls, .int .i64 lu] 34) = w8 at *
      generalize (doT T ⟨kd, op, oh, ofe, on⟩).1 = T' at *
      obtain ⟨E, hEl, hA1, hA2⟩ := HJ8.out.all HG.out (by omega)
      have HA1 := Lib.hid hA1
      have HA2 := Lib.hid hA2
      have hck := HJ8.out.sim.clk
      have hNow := fun (y : World) (hy : Below w8.heap.size w8 y) => now_any _ _ T'.clk _ y (HJ8.out.below hy).t
      rw [hck] at hNow
      have HNOW := Lib.hid hNow
      obtain ⟨Ar, capr, hrc, _⟩ := HJ8.out.rr.tab
      have hrl8 := HJ8.out.rr.rlt
      have hS : Below w8.heap.size w8 w8.drew := (Below.refl _ _).drew
      (have j7' := j7; obtain ⟨p0, p1, p2, p3, p4, lt_j7, fz_j7⟩ := j7')
      (have m7' := m7; obtain ⟨q0, q1, q2, q3, q4, lt_m7, fz_m7⟩ := m7')
      have HF : Hid (∀ y : Held (Below w8.heap.size w8), (y.w.cell? ⟨w5.heap.size, 0, none⟩ = some (.string lp) ∧ y.w.cell? ⟨w5.heap.size, 1, none⟩ = some (.string lh) ∧ y.w.cell? ⟨w5.heap.size, 2, none⟩ = some (.int .i64 lf) ∧ y.w.cell? ⟨w5.heap.size, 3, none⟩ = some (.int .i64 ls) ∧ y.w.cell? ⟨w5.heap.size, 4, none⟩ = some (.int .i64 lu)) ∧
          (y.w.cell? ⟨w7.heap.size, 0, none⟩ = some (.string lp) ∧ y.w.cell? ⟨w7.heap.size, 1, none⟩ = some (.string lh) ∧ y.w.cell? ⟨w7.heap.size, 2, none⟩ = some (.int .i64 lf) ∧ y.w.cell? ⟨w7.heap.size, 3, none⟩ = some (.int .i64 ls) ∧ y.w.cell? ⟨w7.heap.size, 4, none⟩ = some (.int .i64 lu)) ∧ y.w.cell? ⟨r, 0, none⟩ = some (.int .i64 R'.clk)) := fun y =>
        ⟨⟨(y.ok.cell (p := ⟨_, _, none⟩) lt_j7).trans p0, (y.ok.cell (p := ⟨_, _, none⟩) lt_j7).trans p1, (y.ok.cell (p := ⟨_, _, none⟩) lt_j7).trans p2, (y.ok.cell (p := ⟨_, _, none⟩) lt_j7).trans p3, (y.ok.cell (p := ⟨_, _, none⟩) lt_j7).trans p4⟩,
         ⟨(y.ok.cell (p := ⟨_, _, none⟩) lt_m7).trans q0, (y.ok.cell (p := ⟨_, _, none⟩) lt_m7).trans q1, (y.ok.cell (p := ⟨_, _, none⟩) lt_m7).trans q2, (y.ok.cell (p := ⟨_, _, none⟩) lt_m7).trans q3, (y.ok.cell (p := ⟨_, _, none⟩) lt_m7).trans q4⟩, (y.ok.cell (p := ⟨r, _, none⟩) hrl8).trans hrc⟩
      clear p0 p1 p2 p3 p4 q0 q1 q2 q3 q4 lt_j7 lt_m7 fz_j7 fz_m7 j7 m7 hA1 hA2 hNow hck hrc
      (refine wp_region_mix (S := Below w8.heap.size w8) [23, 24] [([0, 1, 2, 3, 4, 5, 6, 7, 8, 9, 11, 12, 13, 14], 10), ([15, 16, 17, 18, 20], 19), ([], 21), ([], 22)] (by kernel_rfl) (by kernel_rfl) (by intro c a d v w h; cases d <;> exact h) hS ?_; have hN : Nonempty (Held (Below w8.heap.size w8)) := ⟨⟨_, hS⟩⟩)
      have p0 := fun y => (HF.out y).1.1
      have p1 := fun y => (HF.out y).1.2.1
      have p2 := fun y => (HF.out y).1.2.2.1
      have p3 := fun y => (HF.out y).1.2.2.2.1
      have p4 := fun y => (HF.out y).1.2.2.2.2
      have q0 := fun y => (HF.out y).2.1.1
      have q1 := fun y => (HF.out y).2.1.2.1
      have q2 := fun y => (HF.out y).2.1.2.2.1
      have q3 := fun y => (HF.out y).2.1.2.2.2.1
      have q4 := fun y => (HF.out y).2.1.2.2.2.2
      have rc := fun y => (HF.out y).2.2
      (unfold wpMix wpRd; (repeat (first | simp only [List.filterMap_cons] | simp only [List.filterMap_nil] | simp only [List.getElem?_toArray] | simp only [List.getElem?_cons_zero] | simp only [List.getElem?_cons_succ])); (try dsimp only); change wpQuiet _ _ _ _ (_ :: _ :: _ :: _ :: _ :: _ :: _ :: _ :: _ :: _ :: _ :: _ :: _ :: _ :: []) _; (repeat (go_big_quiet_step (fail))); refine wpQuiet_nil ?_; (try dsimp only))
      clear p0 p1 p2 p3 p4 q0 q1 q2 q3 q4 rc
      go_wp2_with fail
      refine (HNOW.out _ hS).mono ?_
      rintro e w9 ⟨rfl, rfl⟩
      go_wp2_with fail
      refine ⟨hS, ?_⟩
      (unfold wpMix wpRd; (repeat (first | simp only [List.filterMap_cons] | simp only [List.filterMap_nil] | simp only [List.getElem?_toArray] | simp only [List.getElem?_cons_zero] | simp only [List.getElem?_cons_succ])); (try dsimp only); change wpQuiet _ _ _ _ (_ :: _ :: _ :: _ :: _ :: []) _; (repeat (go_big_quiet_step (fail))); refine wpQuiet_nil ?_; (try dsimp only))
      go_wp2_with fail
      refine (HA1.out _ hS).mono ?_
      rintro e w10 ⟨A1, cp1, rfl, hl1, hb10⟩
      have hS10 : Below w8.heap.size w8 w10 := hS.trans (hb10.mono hS.size)
      have HL1 := Lib.hid hl1
      clear hl1 hb10
      go_wp2_with fail
      refine ⟨hS10, ?_⟩
      (unfold wpMix wpRd; (repeat (first | simp only [List.filterMap_cons] | simp only [List.filterMap_nil] | simp only [List.getElem?_toArray] | simp only [List.getElem?_cons_zero] | simp only [List.getElem?_cons_succ])); (try dsimp only); change wpQuiet _ _ _ _ ([]) _; (repeat (go_big_quiet_step (fail))); refine wpQuiet_nil ?_; (try dsimp only))
      go_wp2_with fail
      refine (HA2.out _ hS10).mono ?_
      rintro e w11 ⟨A2, cp2, rfl, hl2, hb11⟩
      have hS11 : Below w8.heap.size w8 w11 := hS10.trans (hb11.mono hS10.size)
      have HL2 := Lib.hid hl2
      have HL3 := Lib.hid (HL1.out.below hb11)
      clear hl2 hb11 hS10
      go_wp2_with fail
      refine ⟨hS11, ?_⟩
      (unfold wpMix wpRd; (repeat (first | simp only [List.filterMap_cons] | simp only [List.filterMap_nil] | simp only [List.getElem?_toArray] | simp only [List.getElem?_cons_zero] | simp only [List.getElem?_cons_succ])); (try dsimp only); change wpQuiet _ _ _ _ ([]) _; (repeat (go_big_quiet_step (fail))); refine wpQuiet_nil ?_; (try dsimp only))
      go_wp2_with fail
      refine (same_any A1 A2 cp1 cp2 E w11 HL3.out HL2.out (by omega)).mono ?_
      rintro e w12 ⟨rfl, hb12⟩
      have hS12 : Below w8.heap.size w8 w12 := hS11.trans (hb12.mono hS11.size)
      have HJ12 := Lib.hid (HJ8.out.below hS12)
      clear hb12 hS11
      go_wp2_with fail
      refine ⟨hS12, ?_⟩
      (unfold wpMix wpRd; (repeat (first | simp only [List.filterMap_cons] | simp only [List.filterMap_nil] | simp only [List.getElem?_toArray] | simp only [List.getElem?_cons_zero] | simp only [List.getElem?_cons_succ])); (try dsimp only); change wpQuiet _ _ _ _ (_ :: _ :: []) _; (repeat (go_big_quiet_step (fail))); refine wpQuiet_nil ?_; (try dsimp only))
      clear hN hS hS12
      go_wp2_with fail
      go_roundw
      case rel => exact ⟨k + 1, lb', _, _, by omega, by go_num, HJ12.out⟩
      case measure => simp [intOf]; omega
    · have hge : l.length ≤ k := by omega
      clear hlt hJ
      go_wp2_with (go_at_call 9; refine (awake19_any _).mono ?_; rintro e w9 ⟨rfl, HB9⟩)
      go_ret
      exact ⟨rfl, HJ.out.old.trans (HB9.mono HJ.out.old.size)⟩

theorem plays_any (A : Option Addr) (c : Nat) (l : List LOp) (w : World) (hA : OpsIn A l w) (hn : l.length ≤ 9223372036854775807) (hg : G0 w)
    (hz : ∀ o ∈ l, o.p.size ≤ 1048576 ∧ o.h.size ≤ 1048576) :
    Calls Tryd.prog 5 #[.slice A l.length c] w fun e w' => e = .returned (.bool true) ∧ Below w.heap.size w w' := by
  cases hs : smallB l
  · exact plays_out A c l w hA hn hs
  · have hs2 := hs
    unfold smallB at hs2
    rw [Bool.and_eq_true, decide_eq_true_eq] at hs2
    exact plays_in A c l w hA hs2.2 hs hg hz

end Go.Proofs.YtphoodnclmplhaaDoor
