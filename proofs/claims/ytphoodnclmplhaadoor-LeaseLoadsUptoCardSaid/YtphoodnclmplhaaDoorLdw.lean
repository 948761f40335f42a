/-
  LeaseLoads returns true for every time, leases and operations whose texts are not longer than memory; what was in memory before the call stays as it was.
-/
import Derived.Test.YtphoodnclmplhaaDoorLds
namespace Go.Proofs.YtphoodnclmplhaaDoor
open Go.RowKit

set_option maxRecDepth 100000 in
set_option maxHeartbeats 6400000 in
theorem loads_in (clk : Int) (A2 : Option Addr) (c2 : Nat) (ll : List Lease) (A : Option Addr) (c : Nat) (l : List LOp) (w : World) (hA2 : LsIn A2 ll w) (hA : OpsIn A l w) (hn : l.length ≤ 90) (hs : smallB l = true) (h70 : ll.length ≤ 70) (hg : G0 w)
    (hz : ∀ o ∈ l, o.p.size ≤ 1048576 ∧ o.h.size ≤ 1048576) (hzl : ∀ x ∈ ll, x.path.size ≤ 1048576 ∧ x.holder.size ≤ 1048576) :
    Calls Tryd.prog 6 #[.int .i64 clk, .slice A2 ll.length c2, .slice A l.length c] w fun e w' => e = .returned (.bool true) ∧ Below w.heap.size w w' := by
  have HZ := Lib.hid hz
  have HZL := Lib.hid hzl
  have HG := Lib.hid hg
  have HA2 := Lib.hid hA2
  clear hz hg hzl hA2
  go_enter Tryd.func6, Tryd.ntmps6
  go_wp2_with fail
  refine (small_any A c l _ hA (by omega)).mono ?_
  rw [hs]
  rintro e w1 ⟨rfl, hB1⟩
  have HB1 := Lib.hid hB1
  have hw1s := hB1.size
  clear hs hB1
  go_wp2_with fail
  go_loopw [30] (fun i wr => ∃ k : Nat, k ≤ ll.length ∧ i = .int .i64 k ∧ Below w.heap.size w wr) (fun i _ => ll.length - (intOf i).toNat)
  case atStart => exact ⟨0, Nat.zero_le _, rfl, HB1.out⟩
  case round =>
    clear HB1
    obtain ⟨k, hk, rfl, hB⟩ := hrel
    have HB := Lib.hid hB
    have hwr := hB.size
    by_cases hlt : k < ll.length
    · obtain ⟨b, off, rfl, hbl, hat⟩ := HA2.out (by omega)
      obtain ⟨g0, g1, g2, g3, g4⟩ := (hat.below hB hbl) k ll[k] (List.getElem?_eq_getElem hlt)
      have hzx := HZL.out ll[k] (List.getElem_mem hlt)
      generalize ll[k] = x at *
      obtain ⟨lp, lh, lf, ls, lu⟩ := x
      dsimp only at g0 g1 g2 g3 g4 hzx
      have k3 := (Box5.new wr (.string lp) (.string lh) (.int .i64 lf) (.int .i64 ls) (.int .i64 lu) 34).cell5
      have HB3 := Lib.hid (HB.out.trans ((below_alloc1 wr (.cells #[.string lp, .string lh, .int .i64 lf, .int .i64 ls, .int .i64 lu] 34)).mono HB.out.size))
      have hsum : lp.size + lh.size ≤ 2097152 := by omega
      (have k3' := k3; obtain ⟨d0, d1, d2, d3, d4, lt_k3, fz_k3⟩ := k3')
      clear hB hat k3
      by_cases hv : 400 < lp.size + lh.size
      · go_wp2_with (go_at_call 9; refine (awake19_any _).mono ?_; rintro e w9 ⟨rfl, HB9⟩)
        go_ret
        exact ⟨rfl, HB3.out.trans (HB9.mono HB3.out.size)⟩
      · have hv2 : lp.size + lh.size ≤ 400 := by omega
        go_wp2_with fail
        go_roundw
        case rel => exact ⟨k + 1, by omega, by go_num, HB3.out⟩
        case measure => (simp [intOf]; omega)
    · have hge : ll.length ≤ k := by omega
      clear hlt hB
      go_wp2_with fail
      refine (load_any clk A2 c2 ll wr (HA2.out.below (HB.out.mono (Nat.le_refl _)))).mono ?_
      rintro e w2 ⟨hb2, hp2⟩
      have HB2 := Lib.hid (HB.out.trans (hb2.mono HB.out.size))
      rcases hp2 with ⟨hld, rfl⟩ | ⟨hld, bt, mt, hbt, hmt, rfl, hT2⟩
      · go_wp2_with fail
        refine (rload_any clk A2 c2 ll w2 (HA2.out.below HB2.out) (HG.out.below HB2.out) HZL.out).mono ?_
        rintro e w3 ⟨hb3, hp3⟩
        have HB3 := Lib.hid (HB2.out.trans (hb3.mono HB2.out.size))
        rcases hp3 with ⟨_, rfl⟩ | ⟨h, _⟩
        · clear hb2 hb3 hld
          go_wp2_with (go_at_call 9; refine (awake19_any _).mono ?_; rintro e w9 ⟨rfl, HB9⟩)
          go_ret
          exact ⟨rfl, HB3.out.trans (HB9.mono HB3.out.size)⟩
        · rw [hld] at h; cases h
      · have HT2 := Lib.hid hT2
        clear hT2
        go_wp2_with fail
        refine (rload_any clk A2 c2 ll w2 (HA2.out.below HB2.out) (HG.out.below HB2.out) HZL.out).mono ?_
        rintro e w3 ⟨hb3, hp3⟩
        have HB3 := Lib.hid (HB2.out.trans (hb3.mono HB2.out.size))
        obtain ⟨r, lb, hr, hlb, rfl, hR3⟩ : ∃ r lb, w2.heap.size ≤ r ∧ w2.heap.size ≤ lb ∧ e = .returned (.tuple #[.pointer (some ⟨r, 0, none⟩), .int .i64 0]) ∧ RAt r lb ⟨clk, ll⟩ w3 := by
          rcases hp3 with ⟨h, _⟩ | ⟨_, h⟩
          · rw [hld] at h; cases h
          · exact h
        obtain ⟨l0, l1, l2, l3⟩ := load_parts hld
        have q1 : bt < w2.heap.size := TabAt.lt HT2.out
        have q2 : mt < w2.heap.size := (TabAt.mp HT2.out).lt
        have hws := HB2.out.size
        have hws1 := HB.out.size
        have HJ : Hid (JL 1073741824 64 bt mt r lb (tabOf clk ll) ⟨clk, ll⟩ w w3) :=
          ⟨TabAt.after HT2.out hb3, hR3, ld_sim l3, ld_inv hld, ⟨fun x hx => ⟨by
              have h1 := (ldOk_all l3).1 x hx
              unfold possB at h1
              simp only [Bool.and_eq_true, decide_eq_true_eq] at h1
              have h2 := h1.1.1.1.1.1.2
              omega, (HZL.out x hx).1⟩, l2⟩, HB3.out, ⟨by omega, by omega, by omega, by omega⟩, ⟨by omega, by omega, by omega, by omega⟩⟩
        have HAL : Hid (∀ y, TabT bt mt (tabOf clk ll) y → Calls Tryd.prog 19 #[.pointer (some ⟨bt, 0, none⟩)] y (AllE ll y)) := fun y hy =>
          all_E (by simp [tabOf]; omega) hy HJ.out.tok (ld_srt l3) (by simp [tabOf, List.map_map, Function.comp_def])
        clear hb2 hb3 hp3 hR3 l0 l1 l3 hld HT2 q1 q2 hr hlb hbt hmt HB2
        go_wp2_with fail
        refine (now_any bt mt (tabOf clk ll).clk _ _ HJ.out.t).mono ?_
        rintro e w3' ⟨rfl, rfl⟩
        go_wp2_with fail
        refine (HAL.out _ HJ.out.t).mono ?_
        rintro e w4 ⟨S1, cp1, rfl, hl1, hb4⟩
        have HJ4 := Lib.hid (HJ.out.below hb4)
        have HL4 := Lib.hid hl1
        clear hb4 hl1 HJ
        go_wp2_with fail
        refine (same_any S1 A2 cp1 c2 ll w4 HL4.out (HA2.out.below HJ4.out.old) (by omega)).mono ?_
        rintro e w5 ⟨rfl, hb5⟩
        have HJ5 := Lib.hid (HJ4.out.below hb5)
        clear hb5 HJ4 HL4 HAL
        generalize tabOf clk ll = T0 at *
        go_wp2_with fail
        go_loopw [82] (fun i wr => ∃ (k lb K L : Nat) (T : Tab) (R : RTab), k ≤ l.length ∧ L ≤ 64 + k ∧ i = .int .i64 k ∧ JL K L bt mt r lb T R w wr) (fun i _ => l.length - (intOf i).toNat)
        case atStart => exact ⟨0, _, _, _, _, _, Nat.zero_le _, Nat.le_refl _, rfl, HJ5.out⟩
        case round =>
          clear HJ5
          obtain ⟨k, lb, K, L, T, R, hk, hLk, rfl, hJ⟩ := hrel
          have HJ := Lib.hid hJ
          by_cases hlt : k < l.length
          · obtain ⟨bo, off, rfl, hbo, hops⟩ := hA (by omega)
            obtain ⟨h0, h1, h2, h3, h4⟩ := (hops.below hJ.old hbo) k l[k] (List.getElem?_eq_getElem hlt)
            have hzk := HZ.out l[k] (List.getElem_mem hlt)
            generalize l[k] = o at *
            obtain ⟨kd, op, oh, ofe, on⟩ := o
            dsimp only at h0 h1 h2 h3 h4 hzk
            have hb4 : Below wr.heap.size wr (wr.alloc (.cells #[.int .i64 kd, .string op, .string oh, .int .i64 ofe, .int .i64 on] 32)) := below_box _ _
            have HJ4 := Lib.hid (hJ.below hb4)
            have k4 := (Box5.new wr (.int .i64 kd) (.string op) (.string oh) (.int .i64 ofe) (.int .i64 on) 32).cell5
            have hwl := hJ.old.size
            have hw4s : wr.heap.size < (wr.alloc (.cells #[.int .i64 kd, .string op, .string oh, .int .i64 ofe, .int .i64 on] 32)).heap.size := by simp
            have hJ' : TabAt _ _ _ _ wr := hJ.t
            have hl1 := hJ'.lt
            have hl2 := hJ'.mp.lt
            have hl3 := hJ.rr.rlt
            have hl4 := hJ.rr.lt
            clear hb4 hJ hJ' HJ
            go_wp2_with fail
            generalize wr.alloc (.cells #[.int .i64 kd, .string op, .string oh, .int .i64 ofe, .int .i64 on] 32) = w4 at *
            refine (do_post _ _ T kd ofe on op oh w4 HJ4.out.t HJ4.out.inv.ok).mono ?_
            rintro e w5 ⟨rfl, hT5, hO5⟩
            have k5 := (k4.only hO5 (by omega) (by omega))
            obtain ⟨hR5, hB5⟩ := HJ4.out.mid hO5
            have hA5 : AcqH R op oh w5 := (HJ4.out.acqH HG.out (by omega) hzk.1 hzk.2).of_g0 (HG.out.below hB5)
            obtain ⟨X, hX⟩ : ∃ X, (doT T ⟨kd, op, oh, ofe, on⟩).2.1 = X := ⟨_, rfl⟩
            obtain ⟨E1, hE1⟩ : ∃ E, (doT T ⟨kd, op, oh, ofe, on⟩).2.2 = E := ⟨_, rfl⟩
            have HX := Lib.hid hX
            have HE1 := Lib.hid hE1
            rw [hX, hE1]
            clear hX hE1
            obtain ⟨lp, lh, lf, ls, lu⟩ := X
            dsimp only [Lease.val]
            have hob := below_box w5 (.cells #[.string lp, .string lh, .int .i64 lf, .int .i64 ls, .int .i64 lu] 34)
            have HO5 := Lib.hid (hO5.alloc (.cells #[.string lp, .string lh, .int .i64 lf, .int .i64 ls, .int .i64 lu] 34))
            have HT5 := Lib.hid (TabAt.alloc hT5 (.cells #[.string lp, .string lh, .int .i64 lf, .int .i64 ls, .int .i64 lu] 34))
            have HR5 := Lib.hid (hR5.alloc (.cells #[.string lp, .string lh, .int .i64 lf, .int .i64 ls, .int .i64 lu] 34))
            have HA5 := Lib.hid (hA5.below hob)
            have k6 := k5.alloc (.cells #[.string lp, .string lh, .int .i64 lf, .int .i64 ls, .int .i64 lu] 34)
            have j6 := (Box5.new w5 (.string lp) (.string lh) (.int .i64 lf) (.int .i64 ls) (.int .i64 lu) 34).cell5
            have hw5s := hO5.size
            (have k5' := k5; obtain ⟨d0, d1, d2, d3, d4, lt_k5, fz_k5⟩ := k5')
            clear h0 h1 h2 h3 h4 k4 hR5 hB5 hO5 hT5 hA5 hob
            go_wp2_with fail
            clear d0 d1 d2 d3 d4 lt_k5 fz_k5 k5
            generalize w5.alloc (.cells #[.string lp, .string lh, .int .i64 lf, .int .i64 ls, .int .i64 lu] 34) = w6 at *
            have HN : Hid (∀ (lb' : Nat) (z : World), RAt r lb' (rdo R ⟨kd, op, oh, ofe, on⟩).1 z → Only r lb w6 z → (lb' = lb ∨ w6.heap.size ≤ lb') → (rdo R ⟨kd, op, oh, ofe, on⟩).2 = (⟨lp, lh, lf, ls, lu⟩, E1) ∧ JL (K + 1) (L + 1) bt mt r lb' (doT T ⟨kd, op, oh, ofe, on⟩).1 (rdo R ⟨kd, op, oh, ofe, on⟩).1 w z) := fun lb' z h1 h2 h3 => by
              have := HJ4.out.next ⟨kd, op, oh, ofe, on⟩ hzk.1 HO5.out HT5.out h1 h2 h3
              refine ⟨?_, this.2⟩
              rw [← this.1]
              exact Prod.ext HX.out HE1.out
            have hj6l : w5.heap.size ≠ r ∧ w5.heap.size ≠ lb := ⟨by omega, by omega⟩
            (have k6' := k6; obtain ⟨d0, d1, d2, d3, d4, lt_k6, fz_k6⟩ := k6')
            go_wp2_with fail
            refine (rdo_any r lb R kd ofe on op oh w6 HR5.out HA5.out).mono ?_
            generalize hQ : rdo R ⟨kd, op, oh, ofe, on⟩ = Q at HN
            obtain ⟨R', Q2⟩ := Q
            rintro e w7 ⟨lb', rfl, hR7, hO7, hor⟩
            obtain ⟨hq2, hJ7⟩ := HN.out lb' w7 hR7 hO7 hor
            dsimp only at hq2 hJ7
            subst hq2
            dsimp only [Lease.val]
            have j7 := (j6.only hO7 hj6l.1 hj6l.2).alloc (.cells #[.string lp, .string lh, .int .i64 lf, .int .i64 ls, .int .i64 lu] 34)
            have m7 := (Box5.new w7 (.string lp) (.string lh) (.int .i64 lf) (.int .i64 ls) (.int .i64 lu) 34).cell5
            have HJ8 := Lib.hid (hJ7.below (below_box w7 (.cells #[.string lp, .string lh, .int .i64 lf, .int .i64 ls, .int .i64 lu] 34)))
            clear hR7 hO7 hor hJ7 HJ4 HO5 HT5 HR5 HA5 HX HE1 HN hQ j6 k6 d0 d1 d2 d3 d4 lt_k6 fz_k6
            go_wp2_with fail
            generalize w7.alloc (.cells #[.string lp, .string lh, .int .i64 lf, .int .i64 ls, .int .i64 lu] 34) = w8 at *
            generalize (doT T ⟨kd, op, oh, ofe, on⟩).1 = T' at *
            have hck := HJ8.out.sim.clk
            have hNow := fun (y : World) (hy : Below w8.heap.size w8 y) => now_any bt mt T'.clk _ y (HJ8.out.below hy).t
            rw [hck] at hNow
            have HNW : Hid (∀ y : Held (Below w8.heap.size w8), Calls Tryd.prog 20 #[.pointer (some ⟨bt, 0, none⟩)] y.w fun e w' => e = .returned (.int .i64 R'.clk) ∧ Below y.w.heap.size y.w w') := fun y => (hNow y.w y.ok).mono fun e w' ⟨h1, h2⟩ => ⟨h1, h2 ▸ Below.refl _ _⟩
            obtain ⟨Ar, capr, hrc, _⟩ := HJ8.out.rr.tab
            have hrl8 := HJ8.out.rr.rlt
            have hS : Below w8.heap.size w8 w8.drew := (Below.refl _ _).drew
            (have j7' := j7; obtain ⟨p0, p1, p2, p3, p4, lt_j7, fz_j7⟩ := j7')
            (have m7' := m7; obtain ⟨q0, q1, q2, q3, q4, lt_m7, fz_m7⟩ := m7')
            have HF : Hid (∀ y : Held (Below w8.heap.size w8), (y.w.cell? ⟨w5.heap.size, 0, none⟩ = some (.string lp) ∧ y.w.cell? ⟨w5.heap.size, 1, none⟩ = some (.string lh) ∧ y.w.cell? ⟨w5.heap.size, 2, none⟩ = some (.int .i64 lf) ∧ y.w.cell? ⟨w5.heap.size, 3, none⟩ = some (.int .i64 ls) ∧ y.w.cell? ⟨w5.heap.size, 4, none⟩ = some (.int .i64 lu)) ∧
                (y.w.cell? ⟨w7.heap.size, 0, none⟩ = some (.string lp) ∧ y.w.cell? ⟨w7.heap.size, 1, none⟩ = some (.string lh) ∧ y.w.cell? ⟨w7.heap.size, 2, none⟩ = some (.int .i64 lf) ∧ y.w.cell? ⟨w7.heap.size, 3, none⟩ = some (.int .i64 ls) ∧ y.w.cell? ⟨w7.heap.size, 4, none⟩ = some (.int .i64 lu)) ∧ y.w.cell? ⟨r, 0, none⟩ = some (.int .i64 R'.clk)) := fun y =>
              ⟨⟨(y.ok.cell (p := ⟨_, _, none⟩) lt_j7).trans p0, (y.ok.cell (p := ⟨_, _, none⟩) lt_j7).trans p1, (y.ok.cell (p := ⟨_, _, none⟩) lt_j7).trans p2, (y.ok.cell (p := ⟨_, _, none⟩) lt_j7).trans p3, (y.ok.cell (p := ⟨_, _, none⟩) lt_j7).trans p4⟩,
               ⟨(y.ok.cell (p := ⟨_, _, none⟩) lt_m7).trans q0, (y.ok.cell (p := ⟨_, _, none⟩) lt_m7).trans q1, (y.ok.cell (p := ⟨_, _, none⟩) lt_m7).trans q2, (y.ok.cell (p := ⟨_, _, none⟩) lt_m7).trans q3, (y.ok.cell (p := ⟨_, _, none⟩) lt_m7).trans q4⟩, (y.ok.cell (p := ⟨r, _, none⟩) hrl8).trans hrc⟩
            clear p0 p1 p2 p3 p4 q0 q1 q2 q3 q4 lt_j7 lt_m7 fz_j7 fz_m7 j7 m7 hNow hck hrc
            have hS0 := hS
            (refine wp_region_s (S := Below w8.heap.size w8) (by kernel_rfl) (by kernel_rfl) hS ?_; have hN : Nonempty (Held (Below w8.heap.size w8)) := ⟨⟨_, hS⟩⟩; (have p0 := fun y => (HF.out y).1.1; have p1 := fun y => (HF.out y).1.2.1; have p2 := fun y => (HF.out y).1.2.2.1; have p3 := fun y => (HF.out y).1.2.2.2.1; have p4 := fun y => (HF.out y).1.2.2.2.2; have q0 := fun y => (HF.out y).2.1.1; have q1 := fun y => (HF.out y).2.1.2.1; have q2 := fun y => (HF.out y).2.1.2.2.1; have q3 := fun y => (HF.out y).2.1.2.2.2.1; have q4 := fun y => (HF.out y).2.1.2.2.2.2; have rc := fun y => (HF.out y).2.2); (repeat (go_big_quiet_step ((go_at_call 20; exact held_keep (HNW.out _))))); refine wpQuiet_nil ?_; rintro x ⟨⟨_, hx⟩, rfl⟩; clear hN)
            clear p0 p1 p2 p3 p4 q0 q1 q2 q3 q4 rc
            have HJx := Lib.hid (HJ8.out.below hx)
            clear hx hS hS0
            go_wp2_with fail
            go_roundw
            case rel => exact ⟨k + 1, lb', K + 1, L + 1, _, _, by omega, by omega, by go_num, HJx.out⟩
            case measure => (simp [intOf]; omega)
          · have hge : l.length ≤ k := by omega
            obtain ⟨E, hEl, hE1, hE2⟩ := hJ.all HG.out (by omega)
            have HE1 := Lib.hid hE1
            have HE2 := Lib.hid hE2
            clear hlt hJ hE1 hE2
            go_wp2_with fail
            refine (HE1.out _ (Below.refl _ _)).mono ?_
            rintro e w6 ⟨A1, cp3, rfl, hl1, hb6⟩
            have HL6 := Lib.hid hl1
            have HB6 := Lib.hid hb6
            clear hl1 hb6
            go_wp2_with fail
            refine (HE2.out _ HB6.out).mono ?_
            rintro e w7 ⟨A3, cp4, rfl, hl3, hb7⟩
            have HL7 := Lib.hid hl3
            have HL8 := Lib.hid (HL6.out.below hb7)
            have HB7 := Lib.hid (HB6.out.trans (hb7.mono HB6.out.size))
            clear hl3 hb7
            go_wp2_with fail
            refine (same_any A1 A3 cp3 cp4 E w7 HL8.out HL7.out (by omega)).mono ?_
            rintro e w8 ⟨rfl, hb8⟩
            have HB8 := Lib.hid (HB7.out.trans (hb8.mono HB7.out.size))
            have HO8 := Lib.hid (HJ.out.old.trans (HB8.out.mono HJ.out.old.size))
            clear hb8
            go_wp2_with (go_at_call 9; refine (awake19_any _).mono ?_; rintro e w9 ⟨rfl, HB9⟩)
            go_ret
            exact ⟨rfl, HO8.out.trans (HB9.mono HO8.out.size)⟩

set_option maxRecDepth 100000 in
set_option maxHeartbeats 1600000 in
theorem loads_out (clk : Int) (A2 : Option Addr) (c2 : Nat) (ll : List Lease) (A : Option Addr) (c : Nat) (l : List LOp) (w : World) (hA : OpsIn A l w) (hn : l.length ≤ 9223372036854775807) (h : smallB l = false ∨ 70 < ll.length) :
    Calls Tryd.prog 6 #[.int .i64 clk, .slice A2 ll.length c2, .slice A l.length c] w fun e w' => e = .returned (.bool true) ∧ Below w.heap.size w w' := by
  cases hs : smallB l
  · clear h
    go_enter Tryd.func6, Tryd.ntmps6
    go_wp2_with fail
    refine (small_any A c l _ hA (by omega)).mono ?_
    rw [hs]
    rintro e w2 ⟨rfl, o2⟩
    go_wp2_with (go_at_call 9; refine (awake19_any _).mono ?_; rintro e w9 ⟨rfl, HB9⟩)
    go_ret
    exact ⟨rfl, o2.trans (HB9.mono o2.size)⟩
  · have h' : (70 : Int) < (ll.length : Int) := by
      rcases h with h | h
      · rw [hs] at h; cases h
      · omega
    clear h
    go_enter Tryd.func6, Tryd.ntmps6
    go_wp2_with fail
    refine (small_any A c l _ hA (by omega)).mono ?_
    rw [hs]
    rintro e w2 ⟨rfl, o2⟩
    go_wp2_with (go_at_call 9; refine (awake19_any _).mono ?_; rintro e w9 ⟨rfl, HB9⟩)
    go_ret
    exact ⟨rfl, o2.trans (HB9.mono o2.size)⟩

theorem loads_any (clk : Int) (A2 : Option Addr) (c2 : Nat) (ll : List Lease) (A : Option Addr) (c : Nat) (l : List LOp) (w : World) (hA2 : LsIn A2 ll w) (hA : OpsIn A l w) (hn : l.length ≤ 9223372036854775807) (hg : G0 w)
    (hz : ∀ o ∈ l, o.p.size ≤ 1048576 ∧ o.h.size ≤ 1048576) (hzl : ∀ x ∈ ll, x.path.size ≤ 1048576 ∧ x.holder.size ≤ 1048576) :
    Calls Tryd.prog 6 #[.int .i64 clk, .slice A2 ll.length c2, .slice A l.length c] w fun e w' => e = .returned (.bool true) ∧ Below w.heap.size w w' := by
  by_cases h : smallB l = false ∨ 70 < ll.length
  · exact loads_out clk A2 c2 ll A c l w hA hn h
  · have hs : smallB l = true := by
      cases hv : smallB l
      · exact absurd (.inl hv) h
      · rfl
    have hs2 := hs
    unfold smallB at hs2
    rw [Bool.and_eq_true, decide_eq_true_eq] at hs2
    exact loads_in clk A2 c2 ll A c l w hA2 hA hs2.2 hs (by omega) hg hz hzl

end Go.Proofs.YtphoodnclmplhaaDoor
