/-
  The walk of HavePlays.
-/
import Derived.Test.YtjjdffafibonhaaGreatDoorHvB
import Derived.Test.YtjjdffafibonhaaGreatDoorHvL4
import Derived.Deep.CutRange
import Derived.Deep.CutBlock
namespace Go.Proofs.YtjjdffafibonhaaGreatDoor
open Go.RowKit

theorem Lp.reopen {w : World} {b m n : Nat} {g : Gh} {x : World} {E : List Hv} {A : Option Addr} {c : Nat} (h : Lp 0 w b m n g x E A c) :
    Calls Tryz.prog 10 #[.pointer (some ⟨w.heap.size + 3, 0, none⟩), .string ⟨#[104]⟩] x fun e x' => ∃ b2, e = .returned (.tuple #[.pointer (some ⟨b2, 0, none⟩), .int .i64 0]) ∧ ∃ g', Lp 0 w b2 m n g' x' E A c := by
  have hdl := h.hv.lt.2.1
  refine (h.hv.u.openF).mono ?_
  rintro e x' ⟨b2, hb2, rfl, g', hx, _, hs⟩
  have h2 := h.step hx (fun _ h => h)
  exact ⟨b2, rfl, g', h2.hx, (hs rfl).toG, h2.ht, h2.sl, h2.gk, by omega, h2.ml⟩

set_option maxRecDepth 100000 in
set_option maxHeartbeats 6400000 in
theorem lawPlays_any (w : World) (hg0 : G0 w) (A : Option Addr) (c : Nat) (L : List Int) (hr : Rd 1 (ghW w) w A L.length (L.map (Value.int .i64))) (hL : ∀ x ∈ L, (Lit.int .i64 x).wf = true) :
    Calls Tryz.prog 7 #[.slice A L.length c] w fun e w' => e = .returned (.bool true) ∧ Below w.heap.size w w' := by
  have HG0 := Lib.hid (gk_start hg0)
  obtain ⟨hx0, ht0⟩ := TapeAt.new (c := c) hr hL
  have HX0 := Lib.hid hx0
  have HT0 := Lib.hid ht0
  have hs0 : (w.alloc (.cells #[.slice A L.length c, .int .i64 0] 48)).heap.size = w.heap.size + 1 := by simp
  clear hx0 ht0 hr hL hg0
  go_enter Tryz.func7, Tryz.ntmps7
  go_wp2_with fail
  generalize w.alloc (.cells #[.slice A L.length c, .int .i64 0] 48) = w0 at *
  refine (gnewD ((ghW w).box w.heap.size) w0).mono ?_
  rintro e w1 ⟨d, g1, rfl, hd, hx1, hD1⟩
  have hdd : d = w.heap.size + 3 := by omega
  subst hdd
  have HX1 := Lib.hid (HX0.out.trans hx1)
  have HT1 := Lib.hid (HT0.out.ext hx1 (fun h => h))
  have HD1 := Lib.hid hD1
  have hdl := hD1.lt
  clear hx1 hD1 HX0 HT0 hd hs0
  go_wp2_with fail
  refine (qopen_new (w.heap.size + 3) g1 w1 HD1.out ⟨#[104]⟩ hN_ok).mono ?_
  rintro e w2 ⟨b, hb, rfl, g2, hx2, hS2⟩
  have HL2 := Lib.hid (Lp.start HG0.out HX1.out HT1.out hdl hb hx2 hS2)
  clear hx2 hS2 HX1 HT1 HD1 hdl
  go_wp2_with fail
  refine (known_any g2 w2).mono ?_
  rintro e w3 ⟨rfl, g3, hx3⟩
  have HL3 := Lib.hid (HL2.out.step hx3 (fun _ h => h))
  clear hx3 HL2 HG0 hb
  go_wp2_with fail
  refine (HL3.out.next (by omega) 20 (by omega)).mono ?_
  rintro e w4 ⟨v, rfl, hv0, hv1, g4, hL4⟩
  obtain ⟨k0, rfl⟩ : ∃ k : Nat, v = (k : Int) := ⟨v.toNat, by omega⟩
  have hk8 : k0 ≤ 19 := by omega
  have HL4 := Lib.hid hL4
  clear hL4 HL3 hv0 hv1
  go_wp2_with fail
  go_loopw [5, 7, 8] (fun s5 s7 s8 wr => ∃ (b k m n : Nat) (E : List Hv) (A : Option Addr) (c : Nat) (g : Gh), s5 = .pointer (some ⟨b, 0, none⟩) ∧ s7 = .slice A E.length c ∧ s8 = .int .i64 k ∧ k + n ≤ 19 ∧ m + 200 * k ≤ 5000 ∧ Lp 0 w b m n g wr E A c) (fun _ _ i _ => (intOf i).toNat)
  case atStart => exact ⟨b, k0, 0 + 1, 0, [], none, 0, g4, rfl, rfl, rfl, by omega, by omega, HL4.out⟩
  case round =>
    obtain ⟨b, k, m, n, E, A, c, g, rfl, rfl, rfl, hkn, hm, hl⟩ := hrel
    have HL := Lib.hid hl
    clear hl HL4
    by_cases hk : k = 0
    · subst hk
      go_wp2_with fail
      go_ret
      exact ⟨rfl, HL.out.hx.finW⟩
    · have hkp : (0 : Int) < (k : Int) := by omega
      go_wp2_with fail
      refine (HL.out.next (by omega) 6 (by omega)).mono ?_
      rintro e w5 ⟨v, rfl, hv0, hv1, g5, hl5⟩
      have HL5 := Lib.hid hl5
      clear hl5 HL
      go_upto_if 39 with fail
      go_cut [5, 8] from 33 to 72 (fun xx kk wx => kk = .int .i64 k ∧ ∃ (b2 : Nat) (gx : Gh), xx = .pointer (some ⟨b2, 0, none⟩) ∧ Lp 0 w b2 (m + 1) n gx wx E A c)
      case first =>
        by_cases hv : v = 0
        · subst hv
          go_wp2_with fail
          refine HL5.out.reopen.mono ?_
          rintro e w6 ⟨b6, rfl, g6, hl6⟩
          have HL6 := Lib.hid hl6
          clear hl6 HL5
          go_wp2_with fail
          go_meet
          case rel => exact ⟨rfl, b6, g6, rfl, HL6.out⟩
        · have hv' : (v == 0) = false := by simpa using hv
          go_wp2_with fail
          go_meet
          case rel => exact ⟨rfl, b, g5, rfl, HL5.out⟩
      case rest =>
        obtain ⟨rfl, b2, g6, rfl, hl6⟩ := hcut
        have HL6 := Lib.hid hl6
        clear hl6 HL5 hv0 hv1
        go_wp2_with fail
        refine (HL6.out.chg true entry_true (by omega) (by omega)).mono ?_
        rintro e w7 ⟨j, i, E', A', c', g7, rfl, hi, hor⟩
        have hl5 : j = i ∧ Lp 0 w b2 (m + 1 + 100) (n + 1) g7 w7 E' A' c' := by
          rcases hor with ⟨h1, F', _, h3, h4⟩ | ⟨_, h2, _⟩
          · rw [h3 rfl] at h4
            exact ⟨h1, h4⟩
          · exact absurd rfl h2
        obtain ⟨rfl, hl5⟩ := hl5
        have HL7 := Lib.hid hl5
        obtain ⟨kq, D, o0, o1, _, hQ⟩ := hl5.hv
        have HIS := Lib.hid (his_any g7 w7 b2 _ _ _ E' false hQ.hv A' c' E' hl5.sl.rd (by have := hQ.hv.ok.len; omega))
        have HVA := Lib.hid hQ.hv
        clear hor hi hl5 hQ HL6
        go_wp2_with fail
        refine HIS.out.mono ?_
        rintro e w8 ⟨v, rfl, hv, hb8⟩
        obtain rfl : v = true := by simpa using hv
        have HDE := Lib.hid (hdead_any (HVA.out.ext (Ext.of_below (fun _ => False) g7 hb8) (fun h => h)))
        have HL8 := Lib.hid (HL7.out.below hb8)
        clear hb8 hv HIS HVA HL7
        go_wp2_with fail
        refine HDE.out.mono ?_
        rintro e w' ⟨rfl, rfl⟩
        go_wp2_with fail
        go_round
        case rel => exact ⟨b2, k - 1, _, n + 1, E', A', c', g7, rfl, rfl, by go_num, by omega, by omega, HL8.out⟩
        case measure => simp [intOf]; omega

end Go.Proofs.YtjjdffafibonhaaGreatDoor
