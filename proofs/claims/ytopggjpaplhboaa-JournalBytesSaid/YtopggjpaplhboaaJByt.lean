/-
  The walk of JournalBytes.
-/
import Derived.Test.YtopggjpaplhboaaApp
namespace Go.Proofs.Ytopggjpaplhboaa
open Go.RowKit

set_option maxRecDepth 100000 in
set_option maxHeartbeats 1600000 in
theorem lawBytes_any (n : Int) (w : World) (hn0 : -9223372036854775808 ≤ n) (hn1 : n ≤ 9223372036854775807) : Calls Try.prog 6 #[.int .i64 n] w fun e w' => e = .returned (.bool true) ∧ Below w.heap.size w w' := by
  obtain ⟨N, hN⟩ : ∃ N : Nat, N = 65536 := ⟨_, rfl⟩
  obtain ⟨zs, hzs, hmk'⟩ := make_zeros N (by omega)
  have hmk : ∀ w, (Instr.makeSlice 32 (.int .i64 65536) (.int .i64 65536)).run Try.prog w = .ok (.slice (some ⟨w.heap.size, 0, none⟩) N N) (w.alloc (.cells (bv zs).toArray 5)) := by
    have e : ((N : Nat) : Int) = 65536 := by omega
    rw [e] at hmk'
    exact hmk'
  have HZN := Lib.hid hzs
  have HZ : Hid (zs.length = 65536) := hzs.trans hN
  have hN' : N ≤ 100000 := by omega
  have HNN := Lib.hid hN
  clear hmk' hzs hN
  have hfb := foldI_lt (v := n) (n := 65536) (by omega)
  obtain ⟨k0, hk0⟩ : ∃ k0 : Nat, foldI n 65536 = k0 := ⟨(foldI n 65536).toNat, by omega⟩
  have HK := Lib.hid hk0
  rw [hk0] at hfb
  clear hk0
  obtain ⟨hf0, hf1⟩ := hfb
  obtain ⟨zk, hzk, hmk2⟩ := make_zeros k0 (by omega)
  obtain ⟨m0, hm0⟩ : ∃ m0 : Nat, (65536 : Int) - k0 = m0 := ⟨65536 - k0, by omega⟩
  obtain ⟨zm, hzm, hmk3⟩ := make_zeros m0 (by omega)
  have HF1 : Hid (k0 < 65536) := by show k0 < 65536; omega
  clear hf0 hf1
  have HMK := Lib.hid hmk
  have HMK2 := Lib.hid hmk2
  have HMK3 := Lib.hid hmk3
  have HZK := Lib.hid hzk
  have HZM := Lib.hid hzm
  have HM0 := Lib.hid hm0
  clear hmk hmk2 hmk3 hm0 hzk hzm
  go_enter Try.func6, Try.ntmps6
  go_wp2_with fail
  refine (gnew gh0 w).mono ?_
  rintro e w1 ⟨d, g1, rfl, hd, hx1, hD1⟩
  have HX1 := Lib.hid hx1
  have HD1 := Lib.hid hD1
  clear hx1 hD1
  go_wp2_with fail
  refine (open_none d g1 w1 dev0 HD1.out ⟨#[106]⟩ (by decide) rfl rfl).mono ?_
  rintro e w2 ⟨j, g2, rfl, hj, hx2, hJ2⟩
  have hjw : w.heap.size ≤ j := Nat.le_trans HX1.out.size hj
  have HX2 : Hid (Ext (fun o => w.heap.size ≤ o) gh0 w g2 w2) := (HX1.out.trans hx2).imp (fun _ h => h.elim)
  have HJ2 := Lib.hid hJ2
  have HD2 := Lib.hid (HD1.out.ext hx2 (fun h => h))
  clear hx2 hJ2 HX1 HD1 hj
  go_wp2_with fail
  refine (known_any g2 w2).mono ?_
  rintro e w3 ⟨rfl, g3, hx3⟩
  have hjl := HJ2.out.lt
  have hdl := HD2.out.lt
  have HX3 := Lib.hid (HX2.out.trans (hx3.imp (fun o h => Nat.le_trans HX2.out.size h)))
  have HJ3 := Lib.hid (HJ2.out.ext hx3 (by omega))
  have HD3 := Lib.hid (HD2.out.ext hx3 (by omega))
  clear hx3 HX2 HJ2 HD2 hjl hdl
  go_wp2_with fail
  go_loopw [5] (fun i wr => ∃ (k : Nat) (J' : Jrn) (gr : Gh), k ≤ 15 ∧ i = .int .i64 k ∧ Ext (fun o => w.heap.size ≤ o) gh0 w gr wr ∧ JAt gr wr j d J' ∧ DevAt gr wr d dev0 ∧ Good J' dev0 0 k ∧ J'.recs = [] ∧ J'.pend.length = k ∧ lens J'.pend = N * k) (fun i _ => 15 - (intOf i).toNat)
  case atStart => exact ⟨0, jrn0 ⟨#[106]⟩, g3, by omega, rfl, HX3.out, HJ3.out, HD3.out, Good.dev0 (by decide) 0, rfl, rfl, rfl⟩
  case round =>
    obtain ⟨k, J', gr, hk, rfl, hx, hJ, hD, hG, q1, q2, q3⟩ := hrel
    have HX4 := Lib.hid hx
    have HJ4 := Lib.hid hJ
    have HD4 := Lib.hid hD
    have HG4 := Lib.hid hG
    have HQ1 := Lib.hid q1
    have HQ2 := Lib.hid q2
    have HQ3 : Hid (lens J'.pend = 65536 * k) := by show _ = _; rw [q3, HNN.out]
    have hq1 : lens J'.recs = 0 := by rw [q1]; rfl
    have hq2 : J'.recs.length = 0 := by rw [q1]; rfl
    have HQ4 := Lib.hid hq1
    have HQ5 := Lib.hid hq2
    clear hx hJ hD hG q1 q2 q3 hq1 hq2 HX3 HJ3 HD3
    by_cases hlt : k < 15
    · have ha := HG4.out.app0 zs (by rw [HZ.out]; omega) (by rw [HQ5.out, HQ2.out]; omega) (by rw [HQ4.out, HQ3.out, HZ.out]; omega)
      have HA2 := Lib.hid ha.2
      have HA1 := Lib.hid ha.1
      have HG5 := Lib.hid (HG4.out.appJ zs)
      clear ha
      go_wp2_with (at_make; refine wpList_makeB _ rfl _ _ _ rfl rfl rfl (HMK.out _) ?_)
      refine (gappendN j d gr wr J' dev0 0 k HJ4.out HD4.out HG4.out (by omega) (by omega) zs N HZN.out (0, 0) hN').mono ?_
      rw [HA1.out]
      rintro e w4 ⟨rfl, hP⟩
      obtain ⟨g5, hx5, hJ5, hD5⟩ := hP
      have HX5 := Lib.hid (HX4.out.trans (hx5.imp (fun o h => show w.heap.size ≤ o from by rcases h with rfl | rfl <;> omega)))
      have HJ5 := Lib.hid hJ5
      have HD5 := Lib.hid hD5
      clear hx5 hJ5 hD5
      go_wp2_with fail
      go_round
      case rel =>
        refine ⟨k + 1, jappJ J' zs, g5, by omega, by go_num, HX5.out, HJ5.out, HD5.out, HG5.out, ?_, ?_, ?_⟩
        · rw [HA2.out]; exact HQ1.out
        · rw [HA2.out]; simp [HQ2.out]
        · rw [HA2.out, HNN.out]; simp only [lens_append, lens, HQ3.out, HZ.out]; omega
      case measure => simp [intOf]; omega
    · obtain rfl : k = 15 := by omega
      go_wp2_with fail
      refine (fold_any n 65536 wr hn0 hn1 (by omega)).mono ?_
      rw [HK.out]
      rintro e w' ⟨rfl, rfl⟩
      have hmk2 := HMK2.out
      have hmk3 := HMK3.out
      have hm0 := HM0.out
      go_wp2_with fail
      have hf1 := HF1.out
      have ha := HG4.out.app0 zk (by rw [HZK.out]; omega) (by rw [HQ5.out, HQ2.out]; omega) (by rw [HQ4.out, HQ3.out, HZK.out]; omega)
      refine (gappendN j d gr wr J' dev0 0 15 HJ4.out HD4.out HG4.out (by omega) (by omega) zk k0 HZK.out (0, 0) (by omega)).mono ?_
      clear hf1
      have HG5 := Lib.hid (HG4.out.appJ zk)
      rw [ha.2] at HG5
      rw [ha.1, ha.2]
      rintro e w5 ⟨rfl, hP⟩
      clear ha
      (obtain ⟨g5, hx5, hJ5, hD5⟩ := hP; have HX5 := Lib.hid (HX4.out.trans (hx5.imp (fun o h => show w.heap.size ≤ o from by rcases h with rfl | rfl <;> omega))); have HJ5 := Lib.hid hJ5; have HD5 := Lib.hid hD5; clear hx5 hJ5 hD5 HX4 HJ4 HD4)
      go_wp2_with fail
      have ha := HG5.out.app0 zm (by have := HM0.out; have := HF1.out; rw [HZM.out]; omega) (by simp only [HQ5.out, List.length_append, HQ2.out, List.length_cons, List.length_nil]; omega) (by have := HM0.out; have := HF1.out; simp only [HQ4.out, lens_append, lens, HQ3.out, HZK.out, HZM.out]; omega)
      refine (gappendN j d g5 w5 _ dev0 0 _ HJ5.out HD5.out HG5.out (by omega) (by omega) zm m0 HZM.out (0, 0) (by have := HM0.out; have := HF1.out; omega)).mono ?_
      have HG6 := Lib.hid (HG5.out.appJ zm)
      rw [ha.2] at HG6
      rw [ha.1, ha.2]
      rintro e w6 ⟨rfl, hP⟩
      clear ha
      (obtain ⟨g6, hx6, hJ6, hD6⟩ := hP; have HX6 := Lib.hid (HX5.out.trans (hx6.imp (fun o h => show w.heap.size ≤ o from by rcases h with rfl | rfl <;> omega))); have HJ6 := Lib.hid hJ6; have HD6 := Lib.hid hD6; clear hx6 hJ6 hD6 HX5 HJ5 HD5)
      go_wp2_with fail
      have ha := HG6.out.app1 [0] (by simp) (.inr (by have := HM0.out; have := HF1.out; simp only [HQ4.out, lens_append, lens, HQ3.out, HZK.out, HZM.out, List.length_cons, List.length_nil]; omega))
      refine (gappendN j d g6 w6 _ dev0 0 _ HJ6.out HD6.out HG6.out (by omega) (by omega) [0] 1 rfl (0, 0) (by omega)).mono ?_
      rw [ha.1, ha.2]
      rintro e w7 ⟨rfl, hP⟩
      clear ha
      (obtain ⟨g7, hx7, hJ7, hD7⟩ := hP; have HX7 := Lib.hid (HX6.out.trans (hx7.imp (fun o h => show w.heap.size ≤ o from by rcases h with rfl | rfl <;> omega))); have HJ7 := Lib.hid hJ7; have HD7 := Lib.hid hD7; clear hx7 hJ7 hD7 HX6 HJ6 HD6)
      go_wp2_with fail
      have ha := HG6.out.app0 [] (by simp) (by simp only [HQ5.out, List.length_append, HQ2.out, List.length_cons, List.length_nil]; omega) (by have := HM0.out; have := HF1.out; simp only [HQ4.out, lens_append, lens, HQ3.out, HZK.out, HZM.out, List.length_nil]; omega)
      refine (gappend_nil j d g7 w7 _ dev0 0 _ HJ7.out HD7.out HG6.out (by omega) (by omega)).mono ?_
      rw [ha.1, ha.2]
      rintro e w8 ⟨rfl, hP⟩
      clear ha hm0
      (obtain ⟨g8, hx8, hJ8, hD8⟩ := hP; have HX8 := Lib.hid (HX7.out.trans (hx8.imp (fun o h => show w.heap.size ≤ o from by rcases h with rfl | rfl <;> omega))); have HJ8 := Lib.hid hJ8; have HD8 := Lib.hid hD8; clear hx8 hJ8 hD8 HX7 HJ7 HD7)
      go_wp2_with fail
      go_ret
      exact ⟨rfl, HX8.out.fin⟩

end Go.Proofs.Ytopggjpaplhboaa
