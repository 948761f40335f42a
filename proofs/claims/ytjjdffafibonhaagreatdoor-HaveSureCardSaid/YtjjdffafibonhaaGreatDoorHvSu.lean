/-
  The walk of HaveSure.
-/
import Derived.Test.YtjjdffafibonhaaGreatDoorHvB
namespace Go.Proofs.YtjjdffafibonhaaGreatDoor
open Go.RowKit

set_option maxRecDepth 100000 in
set_option maxHeartbeats 6400000 in
theorem lawSure_any (w : World) (hg0 : G0 w) (A : Option Addr) (c : Nat) (L : List Int) (hr : Rd 1 (ghW w) w A L.length (L.map (Value.int .i64))) (hL : ∀ x ∈ L, (Lit.int .i64 x).wf = true) (kp tn : Int) (hk0 : -9223372036854775808 ≤ kp) (hk1 : kp ≤ 9223372036854775807) (_ht0 : -9223372036854775808 ≤ tn) (_ht1 : tn ≤ 9223372036854775807) :
    Calls Tryz.prog 9 #[.slice A L.length c, .int .i64 kp, .int .i64 tn] w fun e w' => e = .returned (.bool true) ∧ Below w.heap.size w w' := by
  have HG0 := Lib.hid (gk_start hg0)
  obtain ⟨hx0, ht0⟩ := TapeAt.new (c := c) hr hL
  have HX0 := Lib.hid hx0
  have HT0 := Lib.hid ht0
  have hs0 : (w.alloc (.cells #[.slice A L.length c, .int .i64 0] 48)).heap.size = w.heap.size + 1 := by simp
  clear hx0 ht0 hr hL hg0
  go_enter Tryz.func9, Tryz.ntmps9
  go_wp2_with fail
  generalize w.alloc (.cells #[.slice A L.length c, .int .i64 0] 48) = w0 at *
  refine (gnewD ((ghW w).box w.heap.size) w0).mono ?_
  rintro e w1 ⟨d, g1, rfl, hd, hx1, hD1⟩
  have hdd : d = w.heap.size + 3 := by omega
  subst hdd
  have HX1 := Lib.hid (HX0.out.trans hx1)
  have HT1 := Lib.hid (HT0.out.ext hx1 (fun h => h))
  have HD1 := Lib.hid hD1
  have hdl := hD1.lt
  clear hx1 hD1 HX0 HT0 hd hs0
  go_wp2_with fail
  refine (qopen_new (w.heap.size + 3) g1 w1 HD1.out ⟨#[104]⟩ hN_ok).mono ?_
  rintro e w2 ⟨b, hb, rfl, g2, hx2, hS2⟩
  have HL2 := Lib.hid (Lp.start HG0.out HX1.out HT1.out hdl hb hx2 hS2)
  clear hx2 hS2 HX1 HT1 HD1 hdl
  go_wp2_with fail
  refine (known_any g2 w2).mono ?_
  rintro e w3 ⟨rfl, g3, hx3⟩
  have HL3 := Lib.hid (HL2.out.step hx3 (fun _ h => h))
  clear hx3 HL2 HG0 hb
  go_wp2_with fail
  refine (HL3.out.next (by omega) 9 (by omega)).mono ?_
  rintro e w4 ⟨v, rfl, hv0, hv1, g4, hL4⟩
  obtain ⟨k0, rfl⟩ : ∃ k : Nat, v = (k : Int) := ⟨v.toNat, by omega⟩
  have hk8 : k0 ≤ 8 := by omega
  have HL4 := Lib.hid hL4
  clear hL4 HL3 hv0 hv1
  go_wp2_with fail
  go_loopw [11, 12] (fun s11 s12 wr => ∃ (k m n : Nat) (E : List Hv) (A : Option Addr) (c : Nat) (g : Gh), s12 = .int .i64 k ∧ k + n ≤ 8 ∧ m ≤ 1 + 100 * n ∧ s11 = .slice A E.length c ∧ Lp 0 w b m n g wr E A c) (fun _ i _ => (intOf i).toNat)
  case atStart => exact ⟨k0, 0 + 1, 0, [], none, 0, g4, rfl, by omega, by omega, rfl, HL4.out⟩
  case round =>
    obtain ⟨k, m, n, E, A, c, g, rfl, hkn, hm, rfl, hl⟩ := hrel
    have HL := Lib.hid hl
    clear hl HL4
    by_cases hk : k = 0
    · subst hk
      obtain ⟨hvb, hvd, _⟩ := HL.out.hv.lt
      have hxs := HL.out.hx.size
      have hbd := HL.out.bd
      go_wp2_with fail
      refine ((HL.out.hv.u.lost (by omega)).lose kp tn hk0 hk1).mono ?_
      rintro e w5 ⟨rfl, g5, hx5, L5, rfl, hW5⟩
      have HX5 := Lib.hid (HL.out.hx.trans (hx5.imp (fun q hq => show w.heap.size ≤ q by omega)))
      have HS5 := Lib.hid (HL.out.sl.ext hx5)
      have HW5 := Lib.hid hW5
      have hel := HL.out.hv.ok.1.len
      clear hx5 hW5 HL
      go_wp2_with fail
      refine HW5.out.restart.mono ?_
      rintro e w6 ⟨rfl, g6, hx6, hU6⟩
      have HX6 := Lib.hid (HX5.out.trans (hx6.imp (fun q hq => show w.heap.size ≤ q by omega)))
      have HS6 := Lib.hid (HS5.out.ext hx6)
      have HU6 := Lib.hid hU6
      have hx6s := HX6.out.size
      clear hx6 hU6 HX5 HS5 HW5
      go_wp2_with fail
      refine HU6.out.openF.mono ?_
      rintro e w7 ⟨b2, hb2, rfl, g7, hx7, _, hS7⟩
      have HX7 := Lib.hid (HX6.out.trans (hx7.imp (fun q hq => show w.heap.size ≤ q by omega)))
      have HS7 := Lib.hid (HS6.out.ext hx7)
      obtain ⟨k, D, o0, o1, _, hQ7⟩ := hS7 rfl
      have HI := Lib.hid (his_any g7 w7 b2 _ _ _ L5 false hQ7.hv A c L5 HS7.out.rd (by omega))
      clear hx7 hS7 hQ7 HX6 HS6 HU6
      go_wp2_with fail
      refine HI.out.mono ?_
      rintro e w8 ⟨v, rfl, hv, hb8⟩
      obtain rfl : v = true := by simpa using hv
      have HX8 := Lib.hid (HX7.out.below hb8)
      clear hb8 hv
      go_wp2_with fail
      go_ret
      exact ⟨rfl, HX8.out.finW⟩
    · have hkp : (0 : Int) < (k : Int) := by omega
      go_wp2_with fail
      refine (HL.out.chg false entry_false (by omega) (by omega)).mono ?_
      rintro e w5 ⟨j, i, E', A', c', g5, rfl, hi, hor⟩
      have hl5 : j = i ∧ Lp 0 w b (m + 100) (n + 1) g5 w5 E' A' c' := by
        rcases hor with ⟨h1, F', _, h3, h4⟩ | ⟨_, h2, _⟩
        · rw [h3 rfl] at h4
          exact ⟨h1, h4⟩
        · exact absurd rfl h2
      obtain ⟨rfl, hl5⟩ := hl5
      have HL5 := Lib.hid hl5
      clear hor hi hl5 HL
      go_wp2_with fail
      go_round
      case rel => exact ⟨k - 1, m + 100, n + 1, E', A', c', g5, by go_num, by omega, by omega, rfl, HL5.out⟩
      case measure => simp [intOf]; omega

end Go.Proofs.YtjjdffafibonhaaGreatDoor
