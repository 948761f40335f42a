/-
  OfflineHeld returns true for all operations, changes, paths and clients whose texts are not longer than 1048576 bytes; what was in memory before the call stays as it was.
-/
import Derived.Test.YtcfmkmhibghaoaaDoorHdP
import Derived.Test.YtcfmkmhibghaoaaDoorOr2
namespace Go.Proofs.YtcfmkmhibghaoaaDoor
open Go.RowKit

theorem RAt.clkc {r lb : Nat} {R : RTab} {w : World} (h : RAt r lb R w) : w.cell? ⟨r, 0, none⟩ = some (.int .i64 R.clk) := by
  obtain ⟨_, _, h0, _⟩ := h.tab
  exact h0
set_option maxRecDepth 100000 in
set_option maxHeartbeats 6400000 in
theorem held_any (ops : List LOp) (OA : Option Addr) (oc : Nat) (l : List Chg) (A : Option Addr) (ca : Nat) (p client : ByteArray) (fence base : Int) (w : World) (hO : OpsIn OA ops w) (hos : ∀ o ∈ ops, o.p.size ≤ 1048576 ∧ o.h.size ≤ 1048576)
    (hA : ChsIn A l w) (hb : ChBnd l) (hp : p.size ≤ 1048576) (hc : client.size ≤ 1048576) (hbs : -9223372036854775808 ≤ base ∧ base ≤ 9223372036854775807) (hg : G0 w) :
    Calls Tryd.prog 4 #[.slice OA ops.length oc, .slice A l.length ca, .string p, .string client, .int .i64 fence, .int .i64 base] w fun e w' => e = .returned (.bool true) ∧ Below w.heap.size w w' := by
  have HSM := Lib.hid (fun x hx => rsmall_any l A ca x (hA.below hx) hb)
  have HBU := Lib.hid (fun x (hx : Below w.heap.size w x) => rbuild_any l A ca x (hA.below hx) (by have := hb.len; omega) (fun c hc => hb.sz hc) (hg.below hx))
  have HUS := Lib.hid (fun x hx => usable_any p x (by omega) (hg.below hx))
  have HG := Lib.hid hg
  have HBS := Lib.hid hbs
  clear hbs
  have HO := Lib.hid hO
  have HZ := Lib.hid hos
  generalize hub : useB p = ub at HUS
  have HUB := Lib.hid hub
  clear hA hb hg hO hos hub
  go_enter Tryd.func4, Tryd.ntmps4
  go_wp2_with fail
  refine (HSM.out _ (Below.refl _ _)).mono ?_
  rintro e w1 ⟨sm, rfl, -, hb1⟩
  have HB1 := Lib.hid hb1
  clear hb1
  cases sm
  · go_wp2_with (go_at_call 6; refine (awake20_any _).mono ?_; rintro e w9 ⟨rfl, HB9⟩)
    go_ret
    exact ⟨rfl, HB1.out.trans (HB9.mono HB1.out.size)⟩
  by_cases h60 : 60 < ops.length
  · have e60 : decide (60 < (ops.length : Int)) = true := by rw [decide_eq_true_eq]; omega
    go_wp2_with (go_at_call 6; refine (awake20_any _).mono ?_; rintro e w9 ⟨rfl, HB9⟩)
    go_ret
    exact ⟨rfl, HB1.out.trans (HB9.mono HB1.out.size)⟩
  have e60 : decide (60 < (ops.length : Int)) = false := by rw [decide_eq_false_iff_not]; omega
  have hol : ops.length ≤ 60 := by omega
  have hsum : p.size + client.size ≤ 2097152 := by omega
  by_cases h3 : 300 < p.size + client.size
  · go_wp2_with (go_at_call 6; refine (awake20_any _).mono ?_; rintro e w9 ⟨rfl, HB9⟩)
    go_ret
    exact ⟨rfl, HB1.out.trans (HB9.mono HB1.out.size)⟩
  go_wp2_with fail
  refine (HUS.out _ HB1.out).mono ?_
  rintro e w2 ⟨rfl, hb2⟩
  have HB2 := Lib.hid (HB1.out.trans (hb2.mono HB1.out.size))
  clear hb2 HB1
  cases ub
  · go_wp2_with (go_at_call 6; refine (awake20_any _).mono ?_; rintro e w9 ⟨rfl, HB9⟩)
    go_ret
    exact ⟨rfl, HB2.out.trans (HB9.mono HB2.out.size)⟩
  by_cases hf1 : fence < 1
  · go_wp2_with (go_at_call 6; refine (awake20_any _).mono ?_; rintro e w9 ⟨rfl, HB9⟩)
    go_ret
    exact ⟨rfl, HB2.out.trans (HB9.mono HB2.out.size)⟩
  have hf : 1 ≤ fence := by omega
  clear hf1 h60
  have HR2 := Lib.hid (RS.new HB2.out)
  go_wp2_with fail
  clear e60
  generalize w2.alloc (.cells #[.int .i64 0, .slice none 0 0] 48) = w3 at *
  generalize w2.heap.size = r at *
  go_loopw [54] (fun i wr => ∃ (k lb : Nat) (R : RTab), k ≤ ops.length ∧ i = .int .i64 k ∧ RS k r lb R w wr) (fun i _ => ops.length - (intOf i).toNat)
  case atStart => exact ⟨0, r, _, Nat.zero_le _, rfl, HR2.out⟩
  case round =>
    obtain ⟨k, lb, R, hk, rfl, hR⟩ := hrel
    have HR := Lib.hid hR
    clear hR HR2
    by_cases hlt : k < ops.length
    · obtain ⟨bo, off, rfl, hbo, hops⟩ := HO.out (by omega)
      obtain ⟨h0, h1, h2, h3, h4⟩ := (hops.below HR.out.old hbo) k ops[k] (List.getElem?_eq_getElem hlt)
      have hzk := HZ.out ops[k] (List.getElem_mem hlt)
      generalize ops[k] = o at *
      obtain ⟨kd, op, oh, ofe, on⟩ := o
      dsimp only at h0 h1 h2 h3 h4 hzk
      have hb4 : Below wr.heap.size wr (wr.alloc (.cells #[.int .i64 kd, .string op, .string oh, .int .i64 ofe, .int .i64 on] 50)) := below_box _ _
      have HR4 := Lib.hid (HR.out.below hb4)
      have HK4 := Lib.hid (Blk.new wr 50 [.int .i64 kd, .string op, .string oh, .int .i64 ofe, .int .i64 on])
      have hwl := HR.out.old.size
      have hl3 := HR.out.rr.rlt
      have hl4 := HR.out.rr.lt
      have hos : op.size + oh.size ≤ 2097152 := by omega
      go_upto_region 7 with fail
      generalize wr.alloc (.cells #[.int .i64 kd, .string op, .string oh, .int .i64 ofe, .int .i64 on] 50) = w4 at *
      obtain ⟨d0, d1, d2, d3, d4⟩ := HK4.out.c5
      have ld := HK4.out.lt
      clear hb4 h0 h1 h2 h3 h4 hops
      by_cases h400 : 400 < op.size + oh.size
      · go_wp2_with (go_at_call 6; refine (awake20_any _).mono ?_; rintro e w9 ⟨rfl, HB9⟩)
        go_ret
        exact ⟨rfl, HR4.out.old.trans (HB9.mono HR4.out.old.size)⟩
      have HA4 := Lib.hid (HR4.out.acqH HG.out (by omega) hzk.1 hzk.2)
      go_wp2_with fail
      refine (rdo_any r lb R kd ofe on op oh w4 HR4.out.rr HA4.out).mono ?_
      rintro e w6 ⟨lb', rfl, hR6, hO6, hor⟩
      have HR6 := Lib.hid (HR4.out.next ⟨kd, op, oh, ofe, on⟩ hzk.1 hR6 hO6 hor)
      clear hR6 hO6 hor d0 d1 d2 d3 d4 ld HR4 HA4
      go_wp2_with fail
      go_roundw
      case rel => exact ⟨k + 1, lb', _, by omega, by go_num, HR6.out⟩
      case measure => simp [intOf]; omega
    · have hge : ops.length ≤ k := by omega
      clear hlt
      go_wp2_with fail
      refine (HBU.out _ HR.out.old).mono ?_
      rintro e w3 ⟨d, DA, DB, da, db, rfl, hblt, hIA, hIB, hb3⟩
      have hok := hblt.ok
      have HRT := Lib.hid (fun lp lh lf ls lu holds x hx => ret_any p fence 0 1 0 client lp lh lf ls lu holds d.revs DA DB da d.recs.length db base x hx (by have := hok.few; omega) hok.asc)
      have HLV := Lib.hid (fun x hx => rlive_any d.revs p DA DB da d.recs.length db x hx (by have := hok.few; omega))
      have HMC := Lib.hid (miss_cnt hok.asc p base)
      have hRl : d.revs.length ≤ 512 := hok.few
      have hLN := lastN_bound hok.okR p
      have HR3 := Lib.hid (HR.out.below hb3)
      have HIA := Lib.hid hIA
      clear hb3 hIA hIB hblt hok HSM HBU HR
      generalize d.revs = V at *
      generalize d.recs.length = rl at *
      have HK4 := Lib.hid (Blk.new w3 32 [.slice DA V.length da, .slice DB rl db])
      have hb4 : Below w3.heap.size w3 (w3.alloc (.cells #[.slice DA V.length da, .slice DB rl db] 32)) := below_box _ _
      have HR4 := Lib.hid (HR3.out.below hb4)
      have HIA4 := Lib.hid (HIA.out.below hb4)
      clear hb4
      go_upto_region 12 with fail
      generalize w3.alloc (.cells #[.slice DA V.length da, .slice DB rl db] 32) = w4 at *
      generalize w3.heap.size = tb at *
      clear HR3 HIA
      go_wp2_with fail
      refine (rcurrent_any r lb R p _ HR4.out.rr).mono ?_
      rintro e w5 ⟨rfl, hb5⟩
      have HKH := Lib.hid (fun n => held_kh (R := R) (p := p) (client := client) hf n)
      have hxp : (rlk R.log p).getD zeroL = zeroL ∨ ((rlk R.log p).getD zeroL).path = p := by
        cases hl : rlk R.log p with
        | none => exact .inl rfl
        | some x => exact .inr (rlk_path hl).1
      have HXP := Lib.hid hxp
      have HHO := Lib.hid (fun y => rholds_any ((rlk R.log p).getD zeroL) R.clk y)
      have HHA := Lib.hid (fun y (h : RAt r lb R y) => rhas_any r lb R p client fence y h)
      generalize (rlk R.log p).getD zeroL = x at *
      generalize (rlk R.log p).isSome = xi at *
      generalize hrh : rhas R p client fence = rh at *
      clear hxp
      have HBAD : Hid (¬ RetBad ⟨p, fence, 0, 1, 0⟩ x.path x.holder x.fence x.since x.til) := by
        rintro (h | ⟨h1, h2⟩)
        · have : soundB ⟨p, fence, 0, 1, 0⟩ = true := by
            rw [soundB_use, HUB.out]
            simp
            omega
          rw [this] at h
          cases h
        · rcases HXP.out with rfl | h3
          · exact h1 ⟨rfl, rfl, rfl, rfl, rfl⟩
          · exact h2 h3
      have HKT : Hid (rh = true → ∀ n, retKH fence client x.fence x.holder (hNow R.clk x.since x.til && decide (0 < x.fence)) n = (1, client)) := fun h n => (HKH.out n).1 h
      have HKF : Hid (rh = false → ∀ n, retKH fence client x.fence x.holder (hNow R.clk x.since x.til && decide (0 < x.fence)) n = if (hNow R.clk x.since x.til && decide (0 < x.fence)) = true then (3, x.holder) else if (n == 0) = true then (2, ⟨#[]⟩) else (3, ⟨#[]⟩)) := fun h n => (HKH.out n).2 h
      clear HKH HXP hrh
      obtain ⟨xp, xh, xf, xs, xu⟩ := x
      unfold Lease.val at HHO ⊢
      dsimp only at HHO HBAD HKT HKF ⊢
      have HK6 := Lib.hid (Blk.new w5 26 [.string xp, .string xh, .int .i64 xf, .int .i64 xs, .int .i64 xu])
      have hb6 : Below w4.heap.size w4 (w5.alloc (.cells #[.string xp, .string xh, .int .i64 xf, .int .i64 xs, .int .i64 xu] 26)) := hb5.alloc hb5.size _
      have HR6 := Lib.hid (HR4.out.below hb6)
      have HIA6 := Lib.hid (HIA4.out.below hb6)
      have HD6 := Lib.hid (HK4.out.below hb6)
      clear hb6 hb5
      go_upto_region 13 with fail
      generalize w5.alloc (.cells #[.string xp, .string xh, .int .i64 xf, .int .i64 xs, .int .i64 xu] 26) = w6 at *
      generalize w5.heap.size = xb at *
      clear HR4 HIA4 HK4
      generalize hhv : (hNow R.clk xs xu && decide (0 < xf)) = hv at *
      have HHV := Lib.hid hhv
      clear hhv
      have hS : Below w6.heap.size w6 w6.drew := (Below.refl _ _).drew
      go_cut [19] from 79 to 168 (fun v wx => v = .bool hv ∧ Below w6.heap.size w6 wx)
      case first =>
        have HRC := Lib.hid (fun (y : Held (Below w6.heap.size w6)) => (HR6.out.below y.ok).rr.clkc)
        have t0 := fun (y : Held (Below w6.heap.size w6)) => HRC.out y
        have lr := fun (y : Held (Below w6.heap.size w6)) => (HR6.out.below y.ok).rr.rlt
        obtain ⟨e0, e1, e2, e3, e4⟩ := fun_and5 (fun (y : Held (Below w6.heap.size w6)) => (HK6.out.below y.ok).c5)
        have lx := fun (y : Held (Below w6.heap.size w6)) => (HK6.out.below y.ok).lt
        generalize hNow R.clk xs xu = hn at *
        cases hn
        · (refine wp_region_s (S := Below w6.heap.size w6) (by kernel_rfl) (by kernel_rfl) hS ?_; have hN : Nonempty (Held (Below w6.heap.size w6)) := ⟨⟨_, hS⟩⟩; skip; (repeat (go_big_quiet_step ((go_at_call 13; exact held_keep (HHO.out _))))); refine wpQuiet_nil ?_; rintro x ⟨⟨_, hx⟩, rfl⟩; clear hN)
          go_wp2_with fail
          go_meet
          case rel => exact ⟨by rw [← HHV.out]; rfl, hx⟩
        · cases hd : decide (0 < xf)
          · rw [hd] at HHV
            (refine wp_region_s (S := Below w6.heap.size w6) (by kernel_rfl) (by kernel_rfl) hS ?_; have hN : Nonempty (Held (Below w6.heap.size w6)) := ⟨⟨_, hS⟩⟩; skip; (repeat (go_big_quiet_step ((go_at_call 13; exact held_keep (HHO.out _))))); refine wpQuiet_nil ?_; rintro x ⟨⟨_, hx⟩, rfl⟩; clear hN)
            go_wp2_with fail
            go_meet
            case rel => exact ⟨by rw [← HHV.out]; rfl, hx⟩
          · rw [hd] at HHV
            (refine wp_region_s (S := Below w6.heap.size w6) (by kernel_rfl) (by kernel_rfl) hS ?_; have hN : Nonempty (Held (Below w6.heap.size w6)) := ⟨⟨_, hS⟩⟩; skip; (repeat (go_big_quiet_step ((go_at_call 13; exact held_keep (HHO.out _))))); refine wpQuiet_nil ?_; rintro x ⟨⟨_, hx⟩, rfl⟩; clear hN)
            go_wp2_with fail
            go_meet
            case rel => exact ⟨by rw [← HHV.out]; rfl, hx⟩
      case rest =>
        obtain ⟨rfl, hx⟩ := hcut
        have HR7 := Lib.hid (HR6.out.below hx)
        have HK7 := Lib.hid (HK6.out.below hx)
        have HD7 := Lib.hid (HD6.out.below hx)
        have HIA7 := Lib.hid (HIA6.out.below hx)
        clear hx hS HR6 HK6 HD6 HIA6 HHO
        obtain ⟨e0, e1, e2, e3, e4⟩ := HK7.out.c5
        obtain ⟨d0, d1⟩ := HD7.out.c2
        have lx := HK7.out.lt
        have ld := HD7.out.lt
        go_wp2_with fail
        refine (HRT.out xp xh xf xs xu hv _ HIA7.out).mono ?_
        rintro e w8 hpost
        rcases hpost with ⟨hbad, _⟩ | ⟨_, A8, c8, rfl, hI8, hb8⟩
        · exact absurd hbad HBAD.out
        dsimp only at hI8 ⊢
        have hML : (missL (logD V p) base).length ≤ 512 := Nat.le_trans (miss_len _ _) (Nat.le_trans (log_len _ _) hRl)
        generalize (missL (logD V p) base).length = n at *
        have HR8 := Lib.hid (HR7.out.below hb8)
        have HK8 := Lib.hid (HK7.out.below hb8)
        have HD8 := Lib.hid (HD7.out.below hb8)
        have HIA8 := Lib.hid (HIA7.out.below hb8)
        clear hb8 hI8 HR7 HK7 HD7 HIA7 e0 e1 e2 e3 e4 d0 d1 lx ld
        generalize lastN V p = ln at *
        have hmx : ((n : Int) = max 0 (ln - max base 0)) := HMC.out
        have HMX := Lib.hid hmx
        clear hmx HMC
        have HW : Hid (wrap64 (ln - max base 0) = ln - max base 0) := by
          have h1 := HBS.out
          show _ = _
          exact IntWalk.wrap64_in _ (by omega)
        have HLE : Hid (n = 0 ↔ ln ≤ max base 0) := by
          have h1 := HMX.out
          constructor
          · intro h
            omega
          · intro h
            omega
        have HKT2 : Hid (rh = true → retKH fence client xf xh hv n = (1, client)) := fun h => HKT.out h n
        have HKF2 : Hid (rh = false → retKH fence client xf xh hv n = if hv = true then (3, xh) else if (n == 0) = true then (2, ⟨#[]⟩) else (3, ⟨#[]⟩)) := fun h => HKF.out h n
        clear HKT HKF
        generalize hkh : retKH fence client xf xh hv n = KH at *
        clear hkh
        obtain ⟨K, H⟩ := KH
        dsimp only
        have HV9 := Lib.hid (Blk.new w8 36 [.int .i64 K, .string H, .slice A8 n c8])
        have hb9 : Below w8.heap.size w8 (w8.alloc (.cells #[.int .i64 K, .string H, .slice A8 n c8] 36)) := below_box _ _
        have HR9 := Lib.hid (HR8.out.below hb9)
        have HK9 := Lib.hid (HK8.out.below hb9)
        have HD9 := Lib.hid (HD8.out.below hb9)
        have HIA9 := Lib.hid (HIA8.out.below hb9)
        clear hb9
        go_upto_region 15 with fail
        generalize w8.alloc (.cells #[.int .i64 K, .string H, .slice A8 n c8] 36) = w9 at *
        generalize w8.heap.size = vb at *
        clear HR8 HK8 HD8 HIA8
        go_wp2_with fail
        refine (HHA.out _ HR9.out.rr).mono ?_
        rintro e w10 ⟨rfl, hb10⟩
        have HV10 := Lib.hid (HV9.out.below hb10)
        have HR10 := Lib.hid (HR9.out.below hb10)
        have HK10 := Lib.hid (HK9.out.below hb10)
        have HD10 := Lib.hid (HD9.out.below hb10)
        have HIA10 := Lib.hid (HIA9.out.below hb10)
        clear hb10 HV9 HR9 HK9 HD9 HIA9
        obtain ⟨v0, v1, v2⟩ := HV10.out.c3
        obtain ⟨e0, e1, e2, e3, e4⟩ := HK10.out.c5
        obtain ⟨d0, d1⟩ := HD10.out.c2
        have lv := HV10.out.lt
        have lx := HK10.out.lt
        have ld := HD10.out.lt
        cases rh
        case true =>
          have hk := HKT2.out (by first | rfl | trivial)
          injection hk with hk1 hk2
          subst hk1 hk2
          go_wp2_with (go_at_call 6; refine (awake20_any _).mono ?_; rintro e w11 ⟨rfl, HB11⟩)
          go_ret
          exact ⟨rfl, HR10.out.old.trans (HB11.mono HR10.out.old.size)⟩
        case false =>
          have hk := HKF2.out (by first | rfl | trivial)
          clear HKT2 HKF2
          have HLV2 := Lib.hid (HLV.out _ HIA10.out)
          cases hv
          · by_cases hn0 : n = 0
            · have HDtrue : Hid (decide (ln ≤ max base 0) = true) := decide_eq_true (HLE.out.1 hn0)
              have hk' : (K, H) = ((2 : Int), (⟨#[]⟩ : ByteArray)) := by rw [hk, hn0]; rfl
              injection hk' with hk1 hk2
              subst hk1 hk2
              clear hk hn0
              go_wp2_with fail
              refine HLV2.out.mono ?_
              rintro e w11 ⟨rfl, hb11⟩
              (have HV11 := Lib.hid (HV10.out.below hb11); have HB11 := Lib.hid (HR10.out.old.trans (hb11.mono HR10.out.old.size)); clear hb11 v0 v1 v2 lv; obtain ⟨v0, v1, v2⟩ := HV11.out.c3; have lv := HV11.out.lt; have hw := HW.out; have hd : decide (ln ≤ max base 0) = true := HDtrue.out; go_wp2_with (go_at_call 6; refine (awake20_any _).mono ?_; rintro e w12 ⟨rfl, HB12⟩); all_goals first | (exfalso; rename_i hne; exact hne HMX.out) | (go_ret; exact ⟨rfl, HB11.out.trans (HB12.mono HB11.out.size)⟩))
            · have HDfalse : Hid (decide (ln ≤ max base 0) = false) := decide_eq_false (fun h => hn0 (HLE.out.2 h))
              have hk' : (K, H) = ((3 : Int), (⟨#[]⟩ : ByteArray)) := by
                rw [hk]
                simp [hn0]
              injection hk' with hk1 hk2
              subst hk1 hk2
              clear hk hn0
              go_wp2_with fail
              refine HLV2.out.mono ?_
              rintro e w11 ⟨rfl, hb11⟩
              (have HV11 := Lib.hid (HV10.out.below hb11); have HB11 := Lib.hid (HR10.out.old.trans (hb11.mono HR10.out.old.size)); clear hb11 v0 v1 v2 lv; obtain ⟨v0, v1, v2⟩ := HV11.out.c3; have lv := HV11.out.lt; have hw := HW.out; have hd : decide (ln ≤ max base 0) = false := HDfalse.out; go_wp2_with (go_at_call 6; refine (awake20_any _).mono ?_; rintro e w12 ⟨rfl, HB12⟩); all_goals first | (exfalso; rename_i hne; exact hne HMX.out) | (go_ret; exact ⟨rfl, HB11.out.trans (HB12.mono HB11.out.size)⟩))
          · have hk' : (K, H) = ((3 : Int), xh) := by rw [hk]; rfl
            injection hk' with hk1 hk2
            subst hk1 hk2
            clear hk
            go_wp2_with fail
            refine HLV2.out.mono ?_
            rintro e w11 ⟨rfl, hb11⟩
            rcases hdc : decide (ln ≤ max base 0) with _ | _
            · have HDfalse := Lib.hid hdc
              clear hdc
              (have HV11 := Lib.hid (HV10.out.below hb11); have HB11 := Lib.hid (HR10.out.old.trans (hb11.mono HR10.out.old.size)); clear hb11 v0 v1 v2 lv; obtain ⟨v0, v1, v2⟩ := HV11.out.c3; have lv := HV11.out.lt; have hw := HW.out; have hd : decide (ln ≤ max base 0) = false := HDfalse.out; go_wp2_with (go_at_call 6; refine (awake20_any _).mono ?_; rintro e w12 ⟨rfl, HB12⟩); all_goals first | (exfalso; rename_i hne; exact hne HMX.out) | (go_ret; exact ⟨rfl, HB11.out.trans (HB12.mono HB11.out.size)⟩))
            · have HDtrue := Lib.hid hdc
              clear hdc
              (have HV11 := Lib.hid (HV10.out.below hb11); have HB11 := Lib.hid (HR10.out.old.trans (hb11.mono HR10.out.old.size)); clear hb11 v0 v1 v2 lv; obtain ⟨v0, v1, v2⟩ := HV11.out.c3; have lv := HV11.out.lt; have hw := HW.out; have hd : decide (ln ≤ max base 0) = true := HDtrue.out; go_wp2_with (go_at_call 6; refine (awake20_any _).mono ?_; rintro e w12 ⟨rfl, HB12⟩); all_goals first | (exfalso; rename_i hne; exact hne HMX.out) | (go_ret; exact ⟨rfl, HB11.out.trans (HB12.mono HB11.out.size)⟩))
end Go.Proofs.YtcfmkmhibghaoaaDoor
