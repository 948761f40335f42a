/-
  The walk of JournalCounts.
-/
import Derived.Test.YtopggjpaplhboaaApp
namespace Go.Proofs.Ytopggjpaplhboaa
open Go.RowKit

set_option maxRecDepth 100000 in
set_option maxHeartbeats 3200000 in
theorem lawCounts_any (n : Int) (w : World) (hn0 : -9223372036854775808 ≤ n) (hn1 : n ≤ 9223372036854775807) : Calls Try.prog 5 #[.int .i64 n] w fun e w' => e = .returned (.bool true) ∧ Below w.heap.size w w' := by
  have hfb := foldI_lt (v := n) (n := 4097) (by omega)
  obtain ⟨k0, hk0⟩ : ∃ k0 : Nat, foldI n 4097 = k0 := ⟨(foldI n 4097).toNat, by omega⟩
  have HK := Lib.hid hk0
  rw [hk0] at hfb
  clear hk0
  obtain ⟨hf0, hf1⟩ := hfb
  go_enter Try.func5, Try.ntmps5
  go_wp2_with fail
  refine (gnew gh0 w).mono ?_
  rintro e w1 ⟨d, g1, rfl, hd, hx1, hD1⟩
  have HX1 := Lib.hid hx1
  have HD1 := Lib.hid hD1
  clear hx1 hD1
  go_wp2_with fail
  refine (open_none d g1 w1 dev0 HD1.out ⟨#[106]⟩ (by decide) rfl rfl).mono ?_
  rintro e w2 ⟨j, g2, rfl, hj, hx2, hJ2⟩
  have hjw : w.heap.size ≤ j := Nat.le_trans HX1.out.size hj
  have HX2 : Hid (Ext (fun o => w.heap.size ≤ o) gh0 w g2 w2) := (HX1.out.trans hx2).imp (fun _ h => h.elim)
  have HJ2 := Lib.hid hJ2
  have HD2 := Lib.hid (HD1.out.ext hx2 (fun h => h))
  clear hx2 hJ2 HX1 HD1 hj
  go_wp2_with fail
  refine (known_any g2 w2).mono ?_
  rintro e w3 ⟨rfl, g3, hx3⟩
  have hjl := HJ2.out.lt
  have hdl := HD2.out.lt
  have HX3 := Lib.hid (HX2.out.trans (hx3.imp (fun o h => Nat.le_trans HX2.out.size h)))
  have HJ3 := Lib.hid (HJ2.out.ext hx3 (by omega))
  have HD3 := Lib.hid (HD2.out.ext hx3 (by omega))
  clear hx3 HX2 HJ2 HD2 hjl hdl
  go_wp2_with fail
  refine (fold_any n 4097 w3 hn0 hn1 (by omega)).mono ?_
  rw [HK.out]
  rintro e w' ⟨rfl, rfl⟩
  go_wp2_with fail
  go_loopw [6] (fun i wr => ∃ (k : Nat) (J' : Jrn) (D' : Dev) (gr : Gh), k ≤ 4096 ∧ i = .int .i64 k ∧ Ext (fun o => w.heap.size ≤ o) gh0 w gr wr ∧ JAt gr wr j d J' ∧ DevAt gr wr d D' ∧ Good J' D' 0 k ∧ J'.start = 0 ∧ J'.recs.length + J'.pend.length = k ∧ lens J'.recs + lens J'.pend = 0) (fun i _ => 4096 - (intOf i).toNat)
  case atStart => exact ⟨0, jrn0 ⟨#[106]⟩, dev0, g3, by omega, rfl, HX3.out, HJ3.out, HD3.out, Good.dev0 (by decide) 0, rfl, rfl, rfl⟩
  case round =>
    obtain ⟨k, J', D', gr, hk, rfl, hx, hJ, hD, hG, q1, q2, q3⟩ := hrel
    have HX4 := Lib.hid hx
    have HJ4 := Lib.hid hJ
    have HD4 := Lib.hid hD
    have HG4 := Lib.hid hG
    have HQ1 := Lib.hid q1
    have HQ2 := Lib.hid q2
    have HQ3 := Lib.hid q3
    clear hx hJ hD hG q1 q2 q3 HX3 HJ3 HD3
    by_cases hlt : k < 4096
    · by_cases hkk : k = k0
      · have hke : ((k : Int) == (k0 : Int)) = true := by rw [hkk]; simp
        clear hkk
        go_wp2_with fail
        refine (gcommit j d gr wr J' D' 0 k HJ4.out HD4.out HG4.out (by omega) (by omega)).mono ?_
        rintro e w5 ⟨rfl, D5, hP, hG5, _⟩
        have HG5 := Lib.hid hG5
        clear hG5
        (obtain ⟨g5, hx5, hJ5, hD5⟩ := hP; have HX5 := Lib.hid (HX4.out.trans (hx5.imp (fun o h => show w.heap.size ≤ o from by rcases h with rfl | rfl <;> omega))); have HJ5 := Lib.hid hJ5; have HD5 := Lib.hid hD5; clear hx5 hJ5 hD5 HX4 HJ4 HD4)
        have ha := HG5.out.app0 [] (by simp) (by have := HQ2.out; simp only [comR, List.length_append, List.length_nil]; omega) (by have := HQ3.out; simp only [comR, lens_append, lens, List.length_nil]; omega)
        have HA1 := Lib.hid ha.1
        have HA2 := Lib.hid ha.2
        have HG6 := Lib.hid (HG5.out.appJ [])
        clear ha
        go_wp2_with fail
        refine (gappend_nil j d g5 w5 _ D5 0 k HJ5.out HD5.out HG5.out (by omega) (by omega)).mono ?_
        rw [HA1.out]
        rintro e w6 ⟨rfl, hP⟩
        (obtain ⟨g6, hx6, hJ6, hD6⟩ := hP; have HX6 := Lib.hid (HX5.out.trans (hx6.imp (fun o h => show w.heap.size ≤ o from by rcases h with rfl | rfl <;> omega))); have HJ6 := Lib.hid hJ6; have HD6 := Lib.hid hD6; clear hx6 hJ6 hD6 HX5 HJ5 HD5)
        go_wp2_with fail
        go_round
        case rel =>
          have := HQ2.out
          have := HQ3.out
          refine ⟨k + 1, jappJ (comR J') [], D5, g6, by omega, by go_num, HX6.out, HJ6.out, HD6.out, HG6.out, ?_, ?_, ?_⟩
          · rw [HA2.out]; exact HQ1.out
          · rw [HA2.out]; simp only [comR, List.length_append, List.length_cons, List.length_nil]; omega
          · rw [HA2.out]; simp only [comR, lens_append, lens, List.length_nil]; omega
        case measure => simp [intOf]; omega
      · have hke : ((k : Int) == (k0 : Int)) = false := beq_eq_false_iff_ne.2 (by omega)
        have ha := HG4.out.app0 [] (by simp) (by have := HQ2.out; omega) (by have := HQ3.out; simp only [List.length_nil]; omega)
        have HA1 := Lib.hid ha.1
        have HA2 := Lib.hid ha.2
        have HG6 := Lib.hid (HG4.out.appJ [])
        clear ha hkk
        go_wp2_with fail
        refine (gappend_nil j d gr wr _ D' 0 k HJ4.out HD4.out HG4.out (by omega) (by omega)).mono ?_
        rw [HA1.out]
        rintro e w6 ⟨rfl, hP⟩
        (obtain ⟨g6, hx6, hJ6, hD6⟩ := hP; have HX6 := Lib.hid (HX4.out.trans (hx6.imp (fun o h => show w.heap.size ≤ o from by rcases h with rfl | rfl <;> omega))); have HJ6 := Lib.hid hJ6; have HD6 := Lib.hid hD6; clear hx6 hJ6 hD6 HX4 HJ4 HD4)
        go_wp2_with fail
        go_round
        case rel =>
          have := HQ2.out
          have := HQ3.out
          refine ⟨k + 1, jappJ J' [], D', g6, by omega, by go_num, HX6.out, HJ6.out, HD6.out, HG6.out, ?_, ?_, ?_⟩
          · rw [HA2.out]; exact HQ1.out
          · rw [HA2.out]; simp only [List.length_append, List.length_cons, List.length_nil]; omega
          · rw [HA2.out]; simp only [lens_append, lens, List.length_nil]; omega
        case measure => simp [intOf]; omega
    · obtain rfl : k = 4096 := by omega
      have ha := HG4.out.app1 [] (by simp) (.inl (by have := HQ2.out; omega))
      have HA1 := Lib.hid ha.1
      have HA2 := Lib.hid ha.2
      clear ha
      go_wp2_with fail
      refine (gappend_nil j d gr wr _ D' 0 _ HJ4.out HD4.out HG4.out (by omega) (by omega)).mono ?_
      rw [HA1.out, HA2.out]
      rintro e w5 ⟨rfl, hP⟩
      (obtain ⟨g5, hx5, hJ5, hD5⟩ := hP; have HX5 := Lib.hid (HX4.out.trans (hx5.imp (fun o h => show w.heap.size ≤ o from by rcases h with rfl | rfl <;> omega))); have HJ5 := Lib.hid hJ5; have HD5 := Lib.hid hD5; clear hx5 hJ5 hD5 HX4 HJ4 HD4)
      go_wp2_with fail
      refine (gcommit j d g5 w5 J' D' 0 _ HJ5.out HD5.out HG4.out (by omega) (by omega)).mono ?_
      rintro e w6 ⟨rfl, D6, hP, hG6, _⟩
      have HG6 := Lib.hid hG6
      clear hG6
      (obtain ⟨g6, hx6, hJ6, hD6⟩ := hP; have HX6 := Lib.hid (HX5.out.trans (hx6.imp (fun o h => show w.heap.size ≤ o from by rcases h with rfl | rfl <;> omega))); have HJ6 := Lib.hid hJ6; have HD6 := Lib.hid hD6; clear hx6 hJ6 hD6 HX5 HJ5 HD5)
      have HR1 : Hid ((comR J').start = 0) := HQ1.out
      have HR2 : Hid ((comR J').recs.length = 4096) := by show _ = _; simp only [comR, List.length_append]; exact HQ2.out
      have HR3 : Hid (lens (comR J').recs = 0) := by show _ = _; simp only [comR, lens_append]; exact HQ3.out
      have HR4 : Hid ((comR J').pend = []) := rfl
      generalize comR J' = K at *
      have ha := HG6.out.app1 [] (by simp) (.inl (by have := HR2.out; omega))
      have HB1 := Lib.hid ha.1
      have HB2 := Lib.hid ha.2
      clear ha
      go_wp2_with fail
      refine (gappend_nil j d g6 w6 _ D6 0 _ HJ6.out HD6.out HG6.out (by omega) (by omega)).mono ?_
      rw [HB1.out, HB2.out]
      rintro e w7 ⟨rfl, hP⟩
      (obtain ⟨g7, hx7, hJ7, hD7⟩ := hP; have HX7 := Lib.hid (HX6.out.trans (hx7.imp (fun o h => show w.heap.size ≤ o from by rcases h with rfl | rfl <;> omega))); have HJ7 := Lib.hid hJ7; have HD7 := Lib.hid hD7; clear hx7 hJ7 hD7 HX6 HJ6 HD6)
      go_wp2_with fail
      refine (gcut j d g7 w7 K D6 0 _ HJ7.out HD7.out HG6.out (by omega) (by omega) k0).mono ?_
      have hci : cutI K k0 = 0 := by
        have := HR1.out
        have := HR2.out
        unfold cutI
        rw [if_neg (by omega)]
      rw [hci]
      rintro e w8 ⟨rfl, D8, hP, hG8, _⟩
      have HG8 := Lib.hid hG8
      clear hG8 hci
      (obtain ⟨g8, hx8, hJ8, hD8⟩ := hP; have HX8 := Lib.hid (HX7.out.trans (hx8.imp (fun o h => show w.heap.size ≤ o from by rcases h with rfl | rfl <;> omega))); have HJ8 := Lib.hid hJ8; have HD8 := Lib.hid hD8; clear hx8 hJ8 hD8 HX7 HJ7 HD7)
      have HS1 : Hid ((cutR K k0).start = k0) := by
        have := HR1.out
        show _ = _
        unfold cutR
        split
        · rename_i h
          have := HR2.out
          omega
        · rfl
      have HS2 : Hid ((cutR K k0).recs.length = 4096 - k0) := by
        have h1 := HR1.out
        have h2 := HR2.out
        show _ = _
        unfold cutR
        split
        · rename_i h
          omega
        · simp only [List.length_drop, h2, h1]; omega
      have HS3 : Hid (lens (cutR K k0).recs = 0) := by
        have h3 := HR3.out
        show _ = _
        unfold cutR
        split
        · exact h3
        · simp only
          have := lens_append (K.recs.take ((k0 : Int) - K.start).toNat) (K.recs.drop ((k0 : Int) - K.start).toNat)
          rw [List.take_append_drop] at this
          omega
      have HS4 : Hid ((cutR K k0).pend = []) := by
        show _ = _
        unfold cutR
        split
        · exact HR4.out
        · exact HR4.out
      generalize cutR K k0 = M at *
      by_cases hz : k0 = 0
      · subst hz
        have ha := HG8.out.app1 [] (by simp) (.inl (by have := HS2.out; omega))
        have HC1 := Lib.hid ha.1
        have HC2 := Lib.hid ha.2
        clear ha
        go_wp2_with fail
        refine (gappend_nil j d g8 w8 M D8 0 _ HJ8.out HD8.out HG8.out (by omega) (by omega)).mono ?_
        rw [HC1.out, HC2.out]
        rintro e w9 ⟨rfl, hP⟩
        (obtain ⟨g9, hx9, hJ9, hD9⟩ := hP; have HX9 := Lib.hid (HX8.out.trans (hx9.imp (fun o h => show w.heap.size ≤ o from by rcases h with rfl | rfl <;> omega))); have HJ9 := Lib.hid hJ9; have HD9 := Lib.hid hD9; clear hx9 hJ9 hD9 HX8 HJ8 HD8)
        go_wp2_with fail
        refine (jstart_any j d g9 w9 _ HJ9.out).mono ?_
        rw [HS1.out]
        rintro e w' ⟨rfl, rfl⟩
        go_wp2_with fail
        refine (jend_any j d g9 w9 _ HJ9.out (by rw [HS1.out]; omega) (by rw [HS1.out]; omega) (by rw [HS2.out]; omega)).mono ?_
        rw [HS1.out, HS2.out]
        rintro e w' ⟨rfl, nn, rfl⟩
        go_wp2_with fail
        go_ret
        exact ⟨rfl, (HX9.out.drewN nn).fin⟩
      · have ha := HG8.out.app0 [] (by simp) (by rw [HS2.out, HS4.out]; simp only [List.length_nil]; omega) (by rw [HS3.out, HS4.out]; simp [lens])
        have HC1 := Lib.hid ha.1
        have HC2 := Lib.hid ha.2
        have hz' : ((k0 : Int) == 0) = false := beq_eq_false_iff_ne.2 (by omega)
        clear ha
        go_wp2_with fail
        refine (gappend_nil j d g8 w8 M D8 0 _ HJ8.out HD8.out HG8.out (by omega) (by omega)).mono ?_
        rw [HC1.out, HC2.out]
        rintro e w9 ⟨rfl, hP⟩
        (obtain ⟨g9, hx9, hJ9, hD9⟩ := hP; have HX9 := Lib.hid (HX8.out.trans (hx9.imp (fun o h => show w.heap.size ≤ o from by rcases h with rfl | rfl <;> omega))); have HJ9 := Lib.hid hJ9; have HD9 := Lib.hid hD9; clear hx9 hJ9 hD9 HX8 HJ8 HD8)
        go_wp2_with fail
        refine (jstart_any j d g9 w9 _ HJ9.out).mono ?_
        rintro e w' ⟨rfl, rfl⟩
        rw [show ({ M with pend := M.pend ++ [[]], bytes := M.bytes + ([] : List UInt8).length } : Jrn).start = (k0 : Int) from HS1.out]
        go_wp2_with fail
        refine (jend_any j d g9 w9 _ HJ9.out (by show 0 ≤ M.start; rw [HS1.out]; omega) (by show M.start ≤ _; rw [HS1.out]; omega) (by show M.recs.length ≤ _; rw [HS2.out]; omega)).mono ?_
        rw [show ({ M with pend := M.pend ++ [[]], bytes := M.bytes + ([] : List UInt8).length } : Jrn).start + ({ M with pend := M.pend ++ [[]], bytes := M.bytes + ([] : List UInt8).length } : Jrn).recs.length = 4096 from by
          show M.start + (M.recs.length : Int) = 4096
          rw [HS1.out, HS2.out]; omega]
        rintro e w' ⟨rfl, nn, rfl⟩
        go_wp2_with fail
        go_ret
        exact ⟨rfl, (HX9.out.drewN nn).fin⟩

end Go.Proofs.Ytopggjpaplhboaa
