/-
  OfflineReturns returns true for all changes, claims and leases whose texts are not longer than 1048576 bytes; what was in memory before the call stays as it was.
-/
import Derived.Test.YtcfmkmhibghaoaaDoorOr2
import Derived.Test.YtcfmkmhibghaoaaDoorOr3
namespace Go.Proofs.YtcfmkmhibghaoaaDoor
open Go.RowKit

set_option maxRecDepth 100000 in
set_option maxHeartbeats 6400000 in
theorem returns_any (l : List Chg) (A : Option Addr) (ca : Nat) (p : ByteArray) (f s t dr : Int) (client lp lh : ByteArray) (lf ls lu : Int) (holds : Bool) (base : Int) (w : World) (hA : ChsIn A l w) (hb : ChBnd l) (hp : p.size ≤ 1048576) (hlp : lp.size ≤ 1048576) (hg : G0 w) :
    Calls Tryd.prog 3 #[.slice A l.length ca, .agg #[.string p, .int .i64 f, .int .i64 s, .int .i64 t, .int .i64 dr], .string client, .agg #[.string lp, .string lh, .int .i64 lf, .int .i64 ls, .int .i64 lu], .bool holds, .int .i64 base] w fun e w' => e = .returned (.bool true) ∧ Below w.heap.size w w' := by
  have HSM := Lib.hid (fun x hx => rsmall_any l A ca x (hA.below hx) hb)
  have HBU := Lib.hid (fun x (hx : Below w.heap.size w x) => rbuild_any l A ca x (hA.below hx) (by have := hb.len; omega) (fun c hc => hb.sz hc) (hg.below hx))
  have HG := Lib.hid hg
  clear hA hb hg
  go_enter Tryd.func3, Tryd.ntmps3
  go_upto_region 1 with fail
  generalize hw1 : World.alloc _ (.cells #[.string lp, .string lh, .int .i64 lf, .int .i64 ls, .int .i64 lu] 26) = w1
  have HM1 : Hid (Bs [(w.heap.size + 1, 26, [.string lp, .string lh, .int .i64 lf, .int .i64 ls, .int .i64 lu]), (w.heap.size, 24, [.string p, .int .i64 f, .int .i64 s, .int .i64 t, .int .i64 dr])] w1) := by
    show Bs _ _
    rw [← hw1]
    refine ⟨Blk.new1 _ _ _ _, ?_, trivial⟩
    (repeat (first | (with_reducible exact Blk.new _ _ _) | (with_reducible refine Blk.alloc ?_ _) | (with_reducible refine Blk.drew ?_) | (with_reducible refine Blk.far ?_ ?_ _; rotate_left; focus (dsimp only; omega))))
  have HB1 : Hid (Below w.heap.size w w1) := by
    show Below _ _ _
    rw [← hw1]
    (repeat (first | (with_reducible exact Below.refl _ _) | (with_reducible assumption) | (with_reducible refine Below.setCell ?_ ?_ _; rotate_left; focus (first | exact Nat.le_refl _ | (dsimp only; omega))) | (with_reducible refine Below.drew ?_) | (with_reducible refine below_drewN ?_ _) | (with_reducible refine Below.alloc ?_ ?_ _; rotate_left; focus (first | exact Nat.le_refl _ | (simp; done) | (simp; omega)))))
  clear hw1
  go_wp2_with fail
  refine (HSM.out _ HB1.out).mono ?_
  rintro e w2 ⟨sm, rfl, -, hb2⟩
  have HM2 := Lib.hid (HM1.out.below hb2)
  have HB2 := Lib.hid (HB1.out.trans (hb2.mono HB1.out.size))
  clear hb2 HM1 HB1
  obtain ⟨g0, g1, g2, g3, g4⟩ := HM2.out.1.c5
  obtain ⟨q0, q1, q2, q3, q4⟩ := HM2.out.2.1.c5
  have lg := HM2.out.1.lt
  have lq := HM2.out.2.1.lt
  cases sm
  · go_wp2_with (go_at_call 6; refine (awake20_any _).mono ?_; rintro e w9 ⟨rfl, HB9⟩)
    go_ret
    exact ⟨rfl, HB2.out.trans (HB9.mono HB2.out.size)⟩
  have hsum : p.size + lp.size ≤ 2097152 := by omega
  by_cases h6 : 600 < p.size + lp.size
  · go_wp2_with (go_at_call 6; refine (awake20_any _).mono ?_; rintro e w9 ⟨rfl, HB9⟩)
    go_ret
    exact ⟨rfl, HB2.out.trans (HB9.mono HB2.out.size)⟩
  have hp6 : p.size ≤ 600 := by omega
  go_wp2_with fail
  refine (HBU.out _ HB2.out).mono ?_
  rintro e w3 ⟨d, DA, DB, da, db, rfl, hblt, hIA, hIB, hb3⟩
  have hok := hblt.ok
  have HRT := Lib.hid (fun x hx => ret_any p f s t dr client lp lh lf ls lu holds d.revs DA DB da d.recs.length db base x hx (by have := hok.few; omega) hok.asc)
  have HRR := Lib.hid (fun x hx hg => rret_any p f s t dr client lp lh lf ls lu holds d.revs DA DB da d.recs.length db base x hx (by have := hok.few; omega) (by omega) hg)
  have HM3 := Lib.hid (HM2.out.below hb3)
  have HB3 := Lib.hid (HB2.out.trans (hb3.mono HB2.out.size))
  have HIA := Lib.hid hIA
  clear hb3 HM2 HB2 hIA hIB hblt g0 g1 g2 g3 g4 q0 q1 q2 q3 q4 lg lq HSM HBU
  have hRl : d.revs.length ≤ 512 := hok.few
  clear hok
  generalize d.revs = R at *
  generalize d.recs.length = rl at *
  have HM4 := Lib.hid (Bs.cons (Blk.new w3 32 [.slice DA R.length da, .slice DB rl db]) (HM3.out.alloc _))
  have HB4 := Lib.hid (HB3.out.alloc HB3.out.size (.cells (#[.slice DA R.length da, .slice DB rl db] : Array Value) 32))
  have HIA4 := Lib.hid (HIA.out.below ((Below.refl _ _).alloc (Nat.le_refl _) (.cells (#[.slice DA R.length da, .slice DB rl db] : Array Value) 32)))
  go_upto_region 4 with fail
  generalize hw4 : World.alloc w3 (.cells #[.slice DA R.length da, .slice DB rl db] 32) = w4 at *
  clear hw4 HM3 HB3 HIA
  generalize w3.heap.size = tb at *
  obtain ⟨d0, d1⟩ := HM4.out.1.c2
  obtain ⟨g0, g1, g2, g3, g4⟩ := HM4.out.2.1.c5
  obtain ⟨q0, q1, q2, q3, q4⟩ := HM4.out.2.2.1.c5
  have ld := HM4.out.1.lt
  have lg := HM4.out.2.1.lt
  have lq := HM4.out.2.2.1.lt
  go_wp2_with fail
  refine (HRT.out _ HIA4.out).mono ?_
  rintro e w5 hpost
  rcases hpost with ⟨hbad, rfl, hb5⟩ | ⟨hgood, A5, c5, rfl, hI5, hb5⟩
  · have HBAD := Lib.hid hbad
    have HM5 := Lib.hid (Bs.cons (Blk.new w5 36 [.int .i64 0, .string ⟨#[]⟩, .slice none 0 0]) (Bs.alloc (HM4.out.below hb5) _))
    have HB5 := Lib.hid ((HB4.out.trans (hb5.mono HB4.out.size)).alloc (HB4.out.trans (hb5.mono HB4.out.size)).size (.cells (#[.int .i64 0, .string ⟨#[]⟩, .slice none 0 0] : Array Value) 36))
    have HIA5 := Lib.hid ((HIA4.out.below hb5).below ((Below.refl _ _).alloc (Nat.le_refl _) (.cells (#[.int .i64 0, .string ⟨#[]⟩, .slice none 0 0] : Array Value) 36)))
    clear hbad hb5 d0 d1 g0 g1 g2 g3 g4 q0 q1 q2 q3 q4 ld lg lq
    go_upto_region 5 with fail
    generalize hw6 : World.alloc w5 (.cells #[.int .i64 0, .string ⟨#[]⟩, .slice none 0 0] 36) = w6 at *
    clear hw6 HM4 HB4 HIA4
    generalize w5.heap.size = vb at *
    obtain ⟨d0, d1⟩ := HM5.out.2.1.c2
    obtain ⟨g0, g1, g2, g3, g4⟩ := HM5.out.2.2.1.c5
    obtain ⟨q0, q1, q2, q3, q4⟩ := HM5.out.2.2.2.1.c5
    have ld := HM5.out.2.1.lt
    have lg := HM5.out.2.2.1.lt
    have lq := HM5.out.2.2.2.1.lt
    go_wp2_with fail
    refine (HRR.out _ HIA5.out (HG.out.below HB5.out)).mono ?_
    rintro e w7 hpost
    rcases hpost with ⟨_, rfl, hb7⟩ | ⟨hgood, _⟩
    · have HM7 := Lib.hid (Bs.cons (Blk.new w7 36 [.int .i64 0, .string ⟨#[]⟩, .slice none 0 0]) (Bs.alloc (HM5.out.below hb7) _))
      have HB7 := Lib.hid ((HB5.out.trans (hb7.mono HB5.out.size)).alloc (HB5.out.trans (hb7.mono HB5.out.size)).size (.cells (#[.int .i64 0, .string ⟨#[]⟩, .slice none 0 0] : Array Value) 36))
      clear hb7 d0 d1 g0 g1 g2 g3 g4 q0 q1 q2 q3 q4 ld lg lq
      go_upto_region 6 with fail
      generalize hw8 : World.alloc w7 (.cells #[.int .i64 0, .string ⟨#[]⟩, .slice none 0 0] 36) = w8 at *
      clear hw8 HM5 HB5 HIA5
      generalize w7.heap.size = ub at *
      obtain ⟨u0, u1, u2⟩ := HM7.out.1.c3
      obtain ⟨v0, v1, v2⟩ := HM7.out.2.1.c3
      have lu := HM7.out.1.lt
      have lv := HM7.out.2.1.lt
      go_wp2_with fail
      go_loopw [84] (fun i wr => i = .int .i64 0 ∧ w8 = wr) (fun _ _ => 0)
      case atStart => exact ⟨rfl, rfl⟩
      case round =>
        obtain ⟨rfl, rfl⟩ := hrel
        go_wp2_with (go_at_call 6; refine (awake20_any _).mono ?_; rintro e w9 ⟨rfl, HB9⟩)
        go_ret
        exact ⟨rfl, HB7.out.trans (HB9.mono HB7.out.size)⟩
    · exact absurd HBAD.out hgood
  · have HGOOD := Lib.hid hgood
    generalize hK : retKH (Claim.fence ⟨p, f, s, t, dr⟩) client lf lh holds (missL (logD R (Claim.path ⟨p, f, s, t, dr⟩)) base).length = KH at *
    obtain ⟨K, H⟩ := KH
    have HK := Lib.hid hK
    generalize hM : missL (logD R (Claim.path ⟨p, f, s, t, dr⟩)) base = M at *
    have HMM := Lib.hid hM
    clear hK hM
    have hML : M.length ≤ 512 := by
      rw [← HMM.out]
      exact Nat.le_trans (miss_len _ _) (Nat.le_trans (log_len _ _) hRl)
    try dsimp only at hI5
    have HM5 := Lib.hid (Bs.cons (Blk.new w5 36 [.int .i64 K, .string H, .slice A5 M.length c5]) (Bs.alloc (HM4.out.below hb5) _))
    have HB5 := Lib.hid ((HB4.out.trans (hb5.mono HB4.out.size)).alloc (HB4.out.trans (hb5.mono HB4.out.size)).size (.cells (#[.int .i64 K, .string H, .slice A5 M.length c5] : Array Value) 36))
    have HIA5 := Lib.hid ((HIA4.out.below hb5).below ((Below.refl _ _).alloc (Nat.le_refl _) (.cells (#[.int .i64 K, .string H, .slice A5 M.length c5] : Array Value) 36)))
    have HI5 := Lib.hid (hI5.below ((Below.refl _ _).alloc (Nat.le_refl _) (.cells (#[.int .i64 K, .string H, .slice A5 M.length c5] : Array Value) 36)))
    clear hgood hb5 hI5 d0 d1 g0 g1 g2 g3 g4 q0 q1 q2 q3 q4 ld lg lq
    go_upto_region 5 with fail
    generalize hw6 : World.alloc w5 (.cells #[.int .i64 K, .string H, .slice A5 M.length c5] 36) = w6 at *
    clear hw6 HM4 HB4 HIA4
    generalize w5.heap.size = vb at *
    obtain ⟨d0, d1⟩ := HM5.out.2.1.c2
    obtain ⟨g0, g1, g2, g3, g4⟩ := HM5.out.2.2.1.c5
    obtain ⟨q0, q1, q2, q3, q4⟩ := HM5.out.2.2.2.1.c5
    have ld := HM5.out.2.1.lt
    have lg := HM5.out.2.2.1.lt
    have lq := HM5.out.2.2.2.1.lt
    go_wp2_with fail
    refine (HRR.out _ HIA5.out (HG.out.below HB5.out)).mono ?_
    rintro e w7 hpost
    rcases hpost with ⟨hbad, _⟩ | ⟨_, A7, c7, rfl, hI7, hb7⟩
    · exact absurd hbad HGOOD.out
    · rw [HMM.out, HK.out]
      rw [HMM.out] at hI7
      try dsimp only at hI7
      have HM7 := Lib.hid (Bs.cons (Blk.new w7 36 [.int .i64 K, .string H, .slice A7 M.length c7]) (Bs.alloc (HM5.out.below hb7) _))
      have HB7 := Lib.hid ((HB5.out.trans (hb7.mono HB5.out.size)).alloc (HB5.out.trans (hb7.mono HB5.out.size)).size (.cells (#[.int .i64 K, .string H, .slice A7 M.length c7] : Array Value) 36))
      have HI7 := Lib.hid (hI7.below ((Below.refl _ _).alloc (Nat.le_refl _) (.cells (#[.int .i64 K, .string H, .slice A7 M.length c7] : Array Value) 36)))
      have HI5' := Lib.hid ((HI5.out.below hb7).below ((Below.refl _ _).alloc (Nat.le_refl _) (.cells (#[.int .i64 K, .string H, .slice A7 M.length c7] : Array Value) 36)))
      clear hb7 hI7 HI5 d0 d1 g0 g1 g2 g3 g4 q0 q1 q2 q3 q4 ld lg lq
      go_upto_region 6 with fail
      generalize hw8 : World.alloc w7 (.cells #[.int .i64 K, .string H, .slice A7 M.length c7] 36) = w8 at *
      clear hw8 HM5 HB5 HIA5
      generalize w7.heap.size = ub at *
      obtain ⟨u0, u1, u2⟩ := HM7.out.1.c3
      obtain ⟨v0, v1, v2⟩ := HM7.out.2.1.c3
      have lu := HM7.out.1.lt
      have lv := HM7.out.2.1.lt
      go_wp2_with fail
      clear u0 u1 u2 v0 v1 v2 lu lv
      go_loopw [84] (fun i wr => ∃ k : Nat, i = .int .i64 k ∧ k ≤ M.length ∧ Below w8.heap.size w8 wr) (fun i _ => M.length - (intOf i).toNat)
      case atStart => exact ⟨0, rfl, Nat.zero_le _, Below.refl _ _⟩
      case round =>
        obtain ⟨k, rfl, hk, hB⟩ := hrel
        have HBs := Lib.hid hB
        clear hB
        by_cases hlt : k < M.length
        · obtain ⟨b1, o1, rfl, hl1, ha1⟩ := HI5'.out (by omega)
          obtain ⟨b2, o2, rfl, hl2, ha2⟩ := HI7.out (by omega)
          have hg := List.getElem?_eq_getElem hlt
          generalize hq : M[k] = x at *
          have hS : Below wr.heap.size wr wr.drew := (Below.refl _ _).drew
          have x0 := fun y : Held (Below wr.heap.size wr) => (ha1.below (HBs.out.trans (y.ok.mono HBs.out.size)) hl1).get (j := 0) (u := .string x.1) hg rfl
          have x1 := fun y : Held (Below wr.heap.size wr) => (ha1.below (HBs.out.trans (y.ok.mono HBs.out.size)) hl1).get (j := 1) (u := .int .i64 x.2) hg rfl
          have y0 := fun y : Held (Below wr.heap.size wr) => (ha2.below (HBs.out.trans (y.ok.mono HBs.out.size)) hl2).get (j := 0) (u := .string x.1) hg rfl
          have y1 := fun y : Held (Below wr.heap.size wr) => (ha2.below (HBs.out.trans (y.ok.mono HBs.out.size)) hl2).get (j := 1) (u := .int .i64 x.2) hg rfl
          have e2 : fileK.n = 2 := rfl
          simp only [e2, Nat.add_zero] at x0 x1 y0 y1
          have l1 := fun y : Held (Below wr.heap.size wr) => Nat.lt_of_lt_of_le (Nat.lt_of_lt_of_le hl1 HBs.out.size) y.ok.size
          have l2 := fun y : Held (Below wr.heap.size wr) => Nat.lt_of_lt_of_le (Nat.lt_of_lt_of_le hl2 HBs.out.size) y.ok.size
          obtain ⟨u0, u1, u2⟩ := fun_and3 (fun y : Held (Below wr.heap.size wr) => (HM7.out.below (HBs.out.trans (y.ok.mono HBs.out.size))).1.c3)
          obtain ⟨v0, v1, v2⟩ := fun_and3 (fun y : Held (Below wr.heap.size wr) => (HM7.out.below (HBs.out.trans (y.ok.mono HBs.out.size))).2.1.c3)
          have lu := fun y : Held (Below wr.heap.size wr) => (HM7.out.below (HBs.out.trans (y.ok.mono HBs.out.size))).1.lt
          have lv := fun y : Held (Below wr.heap.size wr) => (HM7.out.below (HBs.out.trans (y.ok.mono HBs.out.size))).2.1.lt
          clear e2 ha1 ha2 hg hq
          go_wp2_with fail
          (refine wp_region_s (S := Below wr.heap.size wr) (by kernel_rfl) (by kernel_rfl) hS ?_; have hN : Nonempty (Held (Below wr.heap.size wr)) := ⟨⟨_, hS⟩⟩; skip; (repeat (go_big_quiet_step (skip))); refine wpQuiet_nil ?_; rintro x ⟨⟨_, hx⟩, rfl⟩; clear hN)
          clear x0 x1 y0 y1 l1 l2 u0 u1 u2 v0 v1 v2 lu lv
          go_wp2_with fail
          go_roundw
          case rel => exact ⟨k + 1, by go_num, by omega, HBs.out.trans (hx.mono HBs.out.size)⟩
          case measure => simp [intOf]; omega
        · obtain rfl : k = M.length := by omega
          go_wp2_with (go_at_call 6; refine (awake20_any _).mono ?_; rintro e w9 ⟨rfl, HB9⟩)
          go_ret
          exact ⟨rfl, (HB7.out.trans (HBs.out.mono HB7.out.size)).trans (HB9.mono (HB7.out.trans (HBs.out.mono HB7.out.size)).size)⟩
end Go.Proofs.YtcfmkmhibghaoaaDoor
