/-
  The walk of HaveKeeps.
-/
import Derived.Test.YtjjdffafibonhaaGreatDoorHvB
import Derived.Test.YtjjdffafibonhaaGreatDoorHvB2
import Derived.Deep.CutRange
import Derived.Deep.CutBlock
namespace Go.Proofs.YtjjdffafibonhaaGreatDoor
open Go.RowKit

set_option maxRecDepth 100000 in
set_option maxHeartbeats 6400000 in
theorem lawKeeps_any (w : World) (hg0 : G0 w) (A : Option Addr) (c : Nat) (L : List Int) (hr : Rd 1 (ghW w) w A L.length (L.map (Value.int .i64))) (hL : ∀ x ∈ L, (Lit.int .i64 x).wf = true) :
    Calls Tryz.prog 8 #[.slice A L.length c] w fun e w' => e = .returned (.bool true) ∧ Below w.heap.size w w' := by
  have HG0 := Lib.hid (gk_start hg0)
  obtain ⟨hx0, ht0⟩ := TapeAt.new (c := c) hr hL
  have HX0 := Lib.hid hx0
  have HT0 := Lib.hid ht0
  have hs0 : (w.alloc (.cells #[.slice A L.length c, .int .i64 0] 48)).heap.size = w.heap.size + 1 := by simp
  clear hx0 ht0 hr hL hg0
  go_enter Tryz.func8, Tryz.ntmps8
  go_wp2_with fail
  generalize w.alloc (.cells #[.slice A L.length c, .int .i64 0] 48) = w0 at *
  refine (gnewD ((ghW w).box w.heap.size) w0).mono ?_
  rintro e w1 ⟨d, g1, rfl, hd, hx1, hD1⟩
  have hdd : d = w.heap.size + 3 := by omega
  subst hdd
  have HX1 := Lib.hid (HX0.out.trans hx1)
  have HT1 := Lib.hid (HT0.out.ext hx1 (fun h => h))
  have HD1 := Lib.hid hD1
  have hdl := hD1.lt
  clear hx1 hD1 HX0 HT0 hd hs0
  go_wp2_with fail
  refine (qopen_new (w.heap.size + 3) g1 w1 HD1.out ⟨#[104]⟩ hN_ok).mono ?_
  rintro e w2 ⟨b, hb, rfl, g2, hx2, hS2⟩
  have HL2 := Lib.hid (Lp.start HG0.out HX1.out HT1.out hdl hb hx2 hS2)
  clear hx2 hS2 HX1 HT1 HD1 hdl
  go_wp2_with fail
  refine (known_any g2 w2).mono ?_
  rintro e w3 ⟨rfl, g3, hx3⟩
  have HL3 := Lib.hid (HL2.out.step hx3 (fun _ h => h))
  clear hx3 HL2 HG0 hb
  go_wp2_with fail
  refine (HL3.out.next (by omega) 14 (by omega)).mono ?_
  rintro e w4 ⟨v, rfl, hv0, hv1, g4, hL4⟩
  obtain ⟨k0, rfl⟩ : ∃ k : Nat, v = (k : Int) := ⟨v.toNat, by omega⟩
  have hk8 : k0 ≤ 13 := by omega
  have HL4 := Lib.hid hL4
  clear hL4 HL3 hv0 hv1
  go_wp2_with fail
  go_loopw [5, 7, 8] (fun s5 s7 s8 wr => ∃ (b k m n : Nat) (E : List Hv) (A : Option Addr) (c : Nat) (g : Gh), s5 = .pointer (some ⟨b, 0, none⟩) ∧ s7 = .slice A E.length c ∧ s8 = .int .i64 k ∧ k + n ≤ 13 ∧ m + 200 * k ≤ 3000 ∧ Lp 0 w b m n g wr E A c) (fun _ _ i _ => (intOf i).toNat)
  case atStart => exact ⟨b, k0, 0 + 1, 0, [], none, 0, g4, rfl, rfl, rfl, by omega, by omega, HL4.out⟩
  case round =>
    obtain ⟨b, k, m, n, E, A, c, g, rfl, rfl, rfl, hkn, hm, hl⟩ := hrel
    have HL := Lib.hid hl
    clear hl HL4
    by_cases hk : k = 0
    · subst hk
      go_wp2_with fail
      go_ret
      exact ⟨rfl, HL.out.hx.finW⟩
    · have hkp : (0 : Int) < (k : Int) := by omega
      go_wp2_with fail
      refine (HL.out.next (by omega) 2 (by omega)).mono ?_
      rintro e w5 ⟨v, rfl, hv0, hv1, g5, hl5⟩
      have HL5 := Lib.hid hl5
      clear hl5 HL
      go_upto_if 44 with fail
      go_cut [8] from 38 to 151 (fun kk wx => kk = .int .i64 k ∧ ∃ (F : Int) (mx : Nat) (gx : Gh), 0 ≤ F ∧ mx ≤ m + 2 ∧ Lp F w b mx n gx wx E A c)
      case first =>
        by_cases hv : v = 0
        · subst hv
          go_wp2_with fail
          refine (HL5.out.next (by omega) 6 (by omega)).mono ?_
          rintro e w6 ⟨v6, rfl, hv60, hv61, g6, hl6⟩
          have HL6 := Lib.hid hl6
          clear hl6 HL5
          go_wp2_with fail
          refine (HL6.out.fuse (1 + v6) (by omega) (by omega)).mono ?_
          rintro e w7 ⟨rfl, g7, hl7⟩
          have HL7 := Lib.hid hl7
          clear hl7 HL6
          go_wp2_with fail
          go_meet
          case rel => exact ⟨rfl, 1 + v6, _, g7, by omega, by omega, HL7.out⟩
        · have hv' : (v == 0) = false := by simpa using hv
          go_wp2_with fail
          go_meet
          case rel => exact ⟨rfl, 0, _, g5, by omega, by omega, HL5.out⟩
      case rest =>
        obtain ⟨rfl, F, m6, g6, hF0, hm6, hl6⟩ := hcut
        have HL6 := Lib.hid hl6
        clear hl6 HL5 hv0 hv1
        go_wp2_with fail
        refine (HL6.out.chg false entry_false (by omega) (by omega)).mono ?_
        rintro e w7 ⟨j, i, E', A', c', g7, rfl, hi, hor⟩
        have HE0 : Hid (E.length ≤ 1000000) := by have := HL6.out.hv.ok.1.len; show _ ≤ _; omega
        rcases hor with ⟨rfl, F', hF', _, hl7⟩ | ⟨rfl, _, hd7⟩
        · as_aux_lemma =>
            have HL7 := Lib.hid hl7
            have hj3 : (j == 303) = false := by simpa using hi
            clear hl7 HL6
            go_wp2_with fail
            refine (HL7.out.fuse 0 (by omega) (by omega)).mono ?_
            rintro e w8 ⟨rfl, g8, hl8⟩
            have HL8 := Lib.hid hl8
            clear hl8 HL7
            go_wp2_with fail
            refine (HL8.out.next (by omega) 2 (by omega)).mono ?_
            rintro e w9 ⟨v9, rfl, hv90, hv91, g9, hl9⟩
            have HL9 := Lib.hid hl9
            clear hl9 HL8
            by_cases hv9 : v9 = 0
            · subst hv9
              go_wp2_with fail
              go_round
              case rel => exact ⟨b, k - 1, _, n + 1, E', A', c', g9, rfl, rfl, by go_num, by omega, by omega, HL9.out⟩
              case measure => simp [intOf]; omega
            · have hv9' : (v9 == 0) = false := by simpa using hv9
              obtain ⟨kq, D, o0, o1, _, hQ9⟩ := HL9.out.hv
              have HDE := Lib.hid (hdead_any hQ9.hv)
              have hel0 := hQ9.hv.ok.len
              clear hQ9
              go_wp2_with fail
              refine HDE.out.mono ?_
              rintro e w' ⟨rfl, rfl⟩
              have HK := Lib.hid (HL9.out.toK (by omega))
              clear HDE HL9
              go_wp2_with fail
              refine (HK.out.next (by omega) 6 (by omega)).mono ?_
              rintro e w10 ⟨q1, rfl, hq10, hq11, g10, hk10⟩
              have HK10 := Lib.hid hk10
              clear hk10 HK
              go_wp2_with fail
              refine (HK10.out.next (by omega) 60 (by omega)).mono ?_
              rintro e w11 ⟨q2, rfl, hq20, hq21, g11, hk11⟩
              have HK11 := Lib.hid hk11
              clear hk11 HK10
              go_wp2_with fail
              refine (HK11.out.lose (q1 - 1) (q2 - 1) (by omega) (by omega)).mono ?_
              rintro e w12 ⟨rfl, g12, L0, hP, hk12⟩
              have HK12 := Lib.hid hk12
              have HP := Lib.hid hP
              clear hk12 hP HK11 hq10 hq11 hq20 hq21
              go_wp2_with fail
              refine HK12.out.restart.mono ?_
              rintro e w13 ⟨rfl, g13, hk13⟩
              have HK13 := Lib.hid hk13
              clear hk13 HK12
              go_wp2_with fail
              refine (HK13.out.next (by omega) 2 (by omega)).mono ?_
              rintro e w14 ⟨q3, rfl, hq30, hq31, g14, hk14⟩
              obtain ⟨i0, rfl⟩ : ∃ i : Nat, q3 = (i : Int) := ⟨q3.toNat, by omega⟩
              have hi1 : i0 ≤ 1 := by omega
              have HK14 := Lib.hid hk14
              clear hk14 HK13 hq30 hq31
              go_wp2_with fail
              go_loopw [13] (fun s13 wx => ∃ (i mx : Nat) (gx : Gh), s13 = .int .i64 i ∧ i ≤ 1 ∧ mx + 5 * i ≤ m + 120 ∧ Ks w mx (fun g x => Sl g x A' c' E') (UZ 0 (w.heap.size + 3) (n + 1) L0) gx wx) (fun i _ => (intOf i).toNat)
              case atStart => exact ⟨i0, _, g14, rfl, hi1, by omega, HK14.out⟩
              case round =>
                obtain ⟨i, mx, gx, rfl, hi1, hmx, hkx⟩ := hrel
                have HKX := Lib.hid hkx
                clear hkx HK14
                by_cases hi0 : i = 0
                · subst hi0
                  go_wp2_with fail
                  refine HKX.out.openF.mono ?_
                  rintro e w15 ⟨b2, hb2, rfl, g15, hk15, hS15⟩
                  have hs15 := hS15 rfl
                  have HK15 := Lib.hid hk15
                  have HS15 := Lib.hid hs15
                  have hdl := HKX.out.dl
                  obtain ⟨k15, D, o0, o1, _, hQ15⟩ := hs15
                  have HALL := Lib.hid (hall_any hQ15.hv)
                  have hll := hQ15.hv.ok.len
                  clear hk15 hS15 hQ15 HKX
                  go_wp2_with fail
                  refine HALL.out.mono ?_
                  rintro e w16 ⟨rfl, hb16, hrow⟩
                  obtain ⟨g16, hx16, hrd⟩ := row_rd g15 hb16 hrow
                  have HK16 := Lib.hid (HK15.out.step (M := fun _ => False) hx16 (fun _ h => h.elim))
                  have HS16 := Lib.hid (HS15.out.ext hx16 (fun h => h) (fun h => h))
                  have HSL : Hid (Sl g16 w16 (some ⟨w15.heap.size, 0, none⟩) L0.length L0) := ⟨hrd, Nat.le_refl _, by unfold maxLen; omega⟩
                  have HL16 := Lib.hid (HK16.out.toLp HS16.out (by omega) HSL.out)
                  have hel : E'.length ≤ 2000 := (by omega)
                  have HSM := Lib.hid (rsame_any g16 w16 _ A' L0.length c' L0 E' HSL.out.rd (HK16.out.r).rd (by omega) (by omega))
                  clear hb16 hrow hx16 hrd HK15 HS15 HS16 HALL
                  go_wp2_with fail
                  refine HSM.out.mono ?_
                  rintro e w17 ⟨v, rfl, hv, hb17⟩
                  have HL17 := Lib.hid (HL16.out.below hb17)
                  have hve : v = true := hv.2 HP.out
                  subst hve
                  clear hb17 hv HSM HL16
                  go_wp2_with fail
                  go_round
                  case rel => exact ⟨b2, k - 1, mx, n + 1, L0, _, _, g16, rfl, rfl, by go_num, by omega, by omega, HL17.out⟩
                  case measure => simp [intOf]; omega
                · have hip : (0 : Int) < (i : Int) := by omega
                  go_wp2_with fail
                  refine (HKX.out.next (by omega) 5 (by omega)).mono ?_
                  rintro e w15 ⟨q4, rfl, hq40, hq41, g15, hk15⟩
                  have HK15 := Lib.hid hk15
                  clear hk15 HKX
                  go_wp2_with fail
                  refine (HK15.out.fuse (1 + q4) (by omega) (by omega)).mono ?_
                  rintro e w16 ⟨rfl, g16, hk16⟩
                  have HK16 := Lib.hid hk16
                  clear hk16 HK15 hq40 hq41
                  go_wp2_with fail
                  refine HK16.out.openF.mono ?_
                  rintro e w17 ⟨b3, hb3, rfl, g17, hk17, _⟩
                  have HK17 := Lib.hid (hk17.lost (by omega))
                  clear hk17 HK16
                  go_wp2_with fail
                  refine (HK17.out.next (by omega) 5 (by omega)).mono ?_
                  rintro e w18 ⟨q5, rfl, hq50, hq51, g18, hk18⟩
                  have HK18 := Lib.hid hk18
                  clear hk18 HK17
                  go_wp2_with fail
                  refine (HK18.out.next (by omega) 60 (by omega)).mono ?_
                  rintro e w19 ⟨q6, rfl, hq60, hq61, g19, hk19⟩
                  have HK19 := Lib.hid hk19
                  clear hk19 HK18
                  go_wp2_with fail
                  refine (HK19.out.lose q5 (q6 - 1) (by omega) (by omega)).mono ?_
                  rintro e w20 ⟨rfl, g20, L9, hL9, hk20⟩
                  subst hL9
                  have HK20 := Lib.hid hk20
                  clear hk20 HK19
                  go_wp2_with fail
                  refine HK20.out.restart.mono ?_
                  rintro e w21 ⟨rfl, g21, hk21⟩
                  have HK21 := Lib.hid hk21
                  clear hk21 HK20
                  go_wp2_with fail
                  go_round
                  case rel => exact ⟨i - 1, _, g21, by go_num, by omega, by omega, HK21.out⟩
                  case measure => simp [intOf]; omega
        · as_aux_lemma =>
            have HD7 := Lib.hid hd7
            have hi3 : (303 == i) = false := by simpa using fun e : (303 : Int) = i => hi e.symm
            clear hd7 HL6
            go_wp2_with fail
            refine (HD7.out.fuse 0 (by omega) (by omega)).mono ?_
            rintro e w8 ⟨rfl, g8, hd8⟩
            have HD8 := Lib.hid hd8
            clear hd8 HD7
            obtain ⟨chd, hva⟩ := HD8.out.hv.1
            have HDE := Lib.hid (hdead_any hva)
            have HEL := Lib.hid HD8.out.l1
            clear hva
            go_wp2_with fail
            refine HDE.out.mono ?_
            rintro e w' ⟨rfl, rfl⟩
            have HK := Lib.hid HD8.out.toK
            clear HDE HD8
            go_wp2_with fail
            refine (HK.out.next (by omega) 6 (by omega)).mono ?_
            rintro e w10 ⟨q1, rfl, hq10, hq11, g10, hk10⟩
            have HK10 := Lib.hid hk10
            clear hk10 HK
            go_wp2_with fail
            refine (HK10.out.next (by omega) 60 (by omega)).mono ?_
            rintro e w11 ⟨q2, rfl, hq20, hq21, g11, hk11⟩
            have HK11 := Lib.hid hk11
            clear hk11 HK10
            go_wp2_with fail
            refine (HK11.out.lose (q1 - 1) (q2 - 1) (by omega) (by omega)).mono ?_
            rintro e w12 ⟨rfl, g12, L0, hP, hk12⟩
            have HK12 := Lib.hid hk12
            have HP := Lib.hid hP
            clear hk12 hP HK11 hq10 hq11 hq20 hq21
            go_wp2_with fail
            refine HK12.out.restart.mono ?_
            rintro e w13 ⟨rfl, g13, hk13⟩
            have HK13 := Lib.hid hk13
            clear hk13 HK12
            go_wp2_with fail
            refine (HK13.out.next (by omega) 2 (by omega)).mono ?_
            rintro e w14 ⟨q3, rfl, hq30, hq31, g14, hk14⟩
            obtain ⟨i0, rfl⟩ : ∃ i : Nat, q3 = (i : Int) := ⟨q3.toNat, by omega⟩
            have hi1 : i0 ≤ 1 := by omega
            have HK14 := Lib.hid hk14
            clear hk14 HK13 hq30 hq31
            go_wp2_with fail
            go_loopw [13] (fun s13 wx => ∃ (i mx : Nat) (gx : Gh), s13 = .int .i64 i ∧ i ≤ 1 ∧ mx + 5 * i ≤ m + 120 ∧ Ks w mx (fun g x => Sl g x A c E ∧ Sl g x A' c' E') (UZ 0 (w.heap.size + 3) (n + 1) L0) gx wx) (fun i _ => (intOf i).toNat)
            case atStart => exact ⟨i0, _, g14, rfl, hi1, by omega, HK14.out⟩
            case round =>
              obtain ⟨i, mx, gx, rfl, hi1, hmx, hkx⟩ := hrel
              have HKX := Lib.hid hkx
              clear hkx HK14
              by_cases hi0 : i = 0
              · subst hi0
                go_wp2_with fail
                refine HKX.out.openF.mono ?_
                rintro e w15 ⟨b2, hb2, rfl, g15, hk15, hS15⟩
                have hs15 := hS15 rfl
                have HK15 := Lib.hid hk15
                have HS15 := Lib.hid hs15
                have hdl := HKX.out.dl
                obtain ⟨k15, D, o0, o1, _, hQ15⟩ := hs15
                have HALL := Lib.hid (hall_any hQ15.hv)
                have hll := hQ15.hv.ok.len
                clear hk15 hS15 hQ15 HKX
                go_wp2_with fail
                refine HALL.out.mono ?_
                rintro e w16 ⟨rfl, hb16, hrow⟩
                obtain ⟨g16, hx16, hrd⟩ := row_rd g15 hb16 hrow
                have HK16 := Lib.hid (HK15.out.step (M := fun _ => False) hx16 (fun _ h => h.elim))
                have HS16 := Lib.hid (HS15.out.ext hx16 (fun h => h) (fun h => h))
                have HSL : Hid (Sl g16 w16 (some ⟨w15.heap.size, 0, none⟩) L0.length L0) := ⟨hrd, Nat.le_refl _, by unfold maxLen; omega⟩
                have HL16 := Lib.hid (HK16.out.toLp HS16.out (by omega) HSL.out)
                have hel : E'.length ≤ 2000 := HEL.out
                have HSM := Lib.hid (rsame_any g16 w16 _ A' L0.length c' L0 E' HSL.out.rd (HK16.out.r.2).rd (by omega) (by omega))
                clear hb16 hrow hx16 hrd HK15 HS15 HS16 HALL
                go_wp2_with fail
                refine HSM.out.mono ?_
                rintro e w17 ⟨v, rfl, hv, hb17⟩
                have HL17 := Lib.hid (HL16.out.below hb17)
                have HSM2 := Lib.hid (fun (y : World) (hy : Below w16.heap.size w16 y) => rsame_any g16 y _ A L0.length c L0 E (HSL.out.rd.ext (Ext.of_below (fun _ => False) g16 hy)) ((HK16.out.r.1).rd.ext (Ext.of_below (fun _ => False) g16 hy)) (by omega) HE0.out)
                cases v
                · have hLE : L0 = E := by
                    rcases HP.out with h | h
                    · exact h
                    · exact absurd (hv.2 h) (by decide)
                  have HLE := Lib.hid hLE
                  have HS2 := Lib.hid (HSM2.out w17 hb17)
                  clear hb17 hv HSM HL16 HSM2 hLE
                  go_wp2_with fail
                  refine HS2.out.mono ?_
                  rintro e w18 ⟨v, rfl, hv, hb18⟩
                  have hve : v = true := hv.2 HLE.out
                  subst hve
                  have HL18 := Lib.hid (HL17.out.below hb18)
                  clear hb18 hv HS2
                  go_wp2_with fail
                  go_round
                  case rel => exact ⟨b2, k - 1, mx, n + 1, L0, _, _, g16, rfl, rfl, by go_num, by omega, by omega, HL18.out⟩
                  case measure => simp [intOf]; omega
                · clear hb17 hv HSM HL16 HSM2
                  go_wp2_with fail
                  go_round
                  case rel => exact ⟨b2, k - 1, mx, n + 1, L0, _, _, g16, rfl, rfl, by go_num, by omega, by omega, HL17.out⟩
                  case measure => simp [intOf]; omega
              · have hip : (0 : Int) < (i : Int) := by omega
                go_wp2_with fail
                refine (HKX.out.next (by omega) 5 (by omega)).mono ?_
                rintro e w15 ⟨q4, rfl, hq40, hq41, g15, hk15⟩
                have HK15 := Lib.hid hk15
                clear hk15 HKX
                go_wp2_with fail
                refine (HK15.out.fuse (1 + q4) (by omega) (by omega)).mono ?_
                rintro e w16 ⟨rfl, g16, hk16⟩
                have HK16 := Lib.hid hk16
                clear hk16 HK15 hq40 hq41
                go_wp2_with fail
                refine HK16.out.openF.mono ?_
                rintro e w17 ⟨b3, hb3, rfl, g17, hk17, _⟩
                have HK17 := Lib.hid (hk17.lost (by omega))
                clear hk17 HK16
                go_wp2_with fail
                refine (HK17.out.next (by omega) 5 (by omega)).mono ?_
                rintro e w18 ⟨q5, rfl, hq50, hq51, g18, hk18⟩
                have HK18 := Lib.hid hk18
                clear hk18 HK17
                go_wp2_with fail
                refine (HK18.out.next (by omega) 60 (by omega)).mono ?_
                rintro e w19 ⟨q6, rfl, hq60, hq61, g19, hk19⟩
                have HK19 := Lib.hid hk19
                clear hk19 HK18
                go_wp2_with fail
                refine (HK19.out.lose q5 (q6 - 1) (by omega) (by omega)).mono ?_
                rintro e w20 ⟨rfl, g20, L9, hL9, hk20⟩
                subst hL9
                have HK20 := Lib.hid hk20
                clear hk20 HK19
                go_wp2_with fail
                refine HK20.out.restart.mono ?_
                rintro e w21 ⟨rfl, g21, hk21⟩
                have HK21 := Lib.hid hk21
                clear hk21 HK20
                go_wp2_with fail
                go_round
                case rel => exact ⟨i - 1, _, g21, by go_num, by omega, by omega, HK21.out⟩
                case measure => simp [intOf]; omega

end Go.Proofs.YtjjdffafibonhaaGreatDoor
