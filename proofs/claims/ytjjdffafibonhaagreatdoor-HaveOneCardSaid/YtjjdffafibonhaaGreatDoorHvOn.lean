/-
  The walk of HaveOne.
-/
import Derived.Test.YtjjdffafibonhaaGreatDoorHvB
import Derived.Test.YtjjdffafibonhaaGreatDoorHvL4
namespace Go.Proofs.YtjjdffafibonhaaGreatDoor
open Go.RowKit

set_option maxRecDepth 100000 in
set_option maxHeartbeats 6400000 in
theorem lawOne_any (w : World) (hg0 : G0 w) (A : Option Addr) (c : Nat) (L : List Int) (hr : Rd 1 (ghW w) w A L.length (L.map (Value.int .i64))) (hL : ∀ x ∈ L, (Lit.int .i64 x).wf = true) (p0 q0 : ByteArray) :
    Calls Tryz.prog 6 #[.slice A L.length c, .string p0, .string q0] w fun e w' => e = .returned (.bool true) ∧ Below w.heap.size w w' := by
  have HG0 := Lib.hid (gk_start hg0)
  obtain ⟨hx0, ht0⟩ := TapeAt.new (c := c) hr hL
  have HX0 := Lib.hid hx0
  have HT0 := Lib.hid ht0
  have hs0 : (w.alloc (.cells #[.slice A L.length c, .int .i64 0] 48)).heap.size = w.heap.size + 1 := by simp
  clear hx0 ht0 hr hL hg0
  go_enter Tryz.func6, Tryz.ntmps6
  go_wp2_with fail
  generalize w.alloc (.cells #[.slice A L.length c, .int .i64 0] 48) = w0 at *
  refine (gnewD ((ghW w).box w.heap.size) w0).mono ?_
  rintro e w1 ⟨d, g1, rfl, hd, hx1, hD1⟩
  have hdd : d = w.heap.size + 3 := by omega
  subst hdd
  have HX1 := Lib.hid (HX0.out.trans hx1)
  have HT1 := Lib.hid (HT0.out.ext hx1 (fun h => h))
  have HD1 := Lib.hid hD1
  have hdl := hD1.lt
  clear hx1 hD1 HX0 HT0 hd hs0
  go_wp2_with fail
  refine (qopen_new (w.heap.size + 3) g1 w1 HD1.out ⟨#[104]⟩ hN_ok).mono ?_
  rintro e w2 ⟨b, hb, rfl, g2, hx2, hS2⟩
  have HL2 := Lib.hid (Lp.start HG0.out HX1.out HT1.out hdl hb hx2 hS2)
  clear hx2 hS2 HX1 HT1 HD1 hdl
  go_wp2_with fail
  refine (known_any g2 w2).mono ?_
  rintro e w3 ⟨rfl, g3, hx3⟩
  have HL3 := Lib.hid (HL2.out.step hx3 (fun _ h => h))
  clear hx3 HL2 HG0 hb
  go_wp2_with fail
  refine (HL3.out.next (by omega) 9 (by omega)).mono ?_
  rintro e w4 ⟨v, rfl, hv0, hv1, g4, hL4⟩
  obtain ⟨k0, rfl⟩ : ∃ k : Nat, v = (k : Int) := ⟨v.toNat, by omega⟩
  have hk8 : k0 ≤ 8 := by omega
  have HL4 := Lib.hid hL4
  clear hL4 HL3 hv0 hv1
  go_wp2_with fail
  go_loopw [10, 11] (fun s11 s12 wr => ∃ (k m n : Nat) (E : List Hv) (A : Option Addr) (c : Nat) (g : Gh), s12 = .int .i64 k ∧ k + n ≤ 8 ∧ m ≤ 1 + 100 * n ∧ s11 = .slice A E.length c ∧ Lp 0 w b m n g wr E A c) (fun _ i _ => (intOf i).toNat)
  case atStart => exact ⟨k0, 0 + 1, 0, [], none, 0, g4, rfl, by omega, by omega, rfl, HL4.out⟩
  case round =>
    obtain ⟨k, m, n, E, A, c, g, rfl, hkn, hm, rfl, hl⟩ := hrel
    have HL := Lib.hid hl
    clear hl HL4
    by_cases hk : k = 0
    · subst hk
      obtain ⟨kq, D, o0, o1, _, hQ⟩ := HL.out.hv
      have HALL := Lib.hid (hall_any hQ.hv)
      have HEK := Lib.hid hQ.hv.ok
      have hel := hQ.hv.ok.len
      clear hQ
      go_wp2_with fail
      refine HALL.out.mono ?_
      rintro e w5 ⟨rfl, hb5, hrow⟩
      obtain ⟨g5, hx5, hrd⟩ := row_rd g hb5 hrow
      have HL5 := Lib.hid (HL.out.step (M := fun _ => False) hx5 (fun _ h => h.elim))
      have HR5 := Lib.hid hrd
      have hck := hcheck_any g5 w5 _ E.length E hrd (by omega)
      rw [HEK.out.check] at hck
      have HCK := Lib.hid hck
      obtain ⟨wb, hwb⟩ : ∃ wb, wr.heap.size = wb := ⟨_, rfl⟩
      rw [hwb] at HR5 HCK ⊢
      clear hb5 hrow hx5 hrd hck HL HALL hwb
      go_wp2_with fail
      refine HCK.out.mono ?_
      rintro e w6 ⟨rfl, hb6⟩
      have HL6 := Lib.hid (HL5.out.below hb6)
      have HR6 := Lib.hid (HR5.out.ext (Ext.of_below (fun _ => False) g5 hb6))
      clear hb6 HL5 HR5 HCK
      go_wp2_with fail
      go_loopw [1, 2, 13] (fun s1 s2 s13 wx => ∃ (p q : ByteArray) (i mx : Nat) (gx : Gh), s1 = .string p ∧ s2 = .string q ∧ s13 = .int .i64 i ∧ i ≤ 6 ∧ mx ≤ 1000 + 2 * i ∧ Lp 0 w b mx n gx wx E A c ∧ Rd 3 gx wx (some ⟨wb, 0, none⟩) E.length (celH E)) (fun _ _ i _ => 6 - (intOf i).toNat)
      case atStart => exact ⟨p0, q0, 0, m, g5, rfl, rfl, rfl, by omega, by omega, HL6.out, HR6.out⟩
      case round =>
        obtain ⟨p, q, i, mx, gx, rfl, rfl, rfl, hi6, hmx, hlx, hrx⟩ := hrel
        have HLX := Lib.hid hlx
        have HRX := Lib.hid hrx
        clear hlx hrx HL6 HR6
        by_cases hi : i < 6
        · have hi' : (i : Int) < 6 := by omega
          obtain ⟨kq, D, o0, o1, _, hQ⟩ := HLX.out.hv
          have HVA := Lib.hid hQ.hv
          obtain ⟨a1, a2, a3, ha⟩ := valO_agg (getH E p)
          obtain ⟨c1, c2, c3, hc⟩ := valO_agg (atH E q)
          have h1 := hget_any hQ.hv p
          rw [ha] at h1
          have H1 := Lib.hid h1
          have H2 : Hid (∀ y, Below wr.heap.size wr y → Calls Tryz.prog 29 #[.slice (some ⟨wb, 0, none⟩) E.length E.length, .string p] y fun e x' => e = .returned (.tuple #[.agg #[.string a1, .int .i64 a2, .string a3], .bool (getH E p).isSome]) ∧ Below y.heap.size y x') := by
            intro y hy
            have := rget_any gx y _ E.length E (HRX.out.ext (Ext.of_below (fun _ => False) gx hy)) p (by omega)
            rw [ha] at this
            exact this
          have H3 : Hid (∀ y, Below wr.heap.size wr y → Calls Tryz.prog 30 #[.pointer (some ⟨b, 0, none⟩), .string q] y fun e x' => e = .returned (.tuple #[.agg #[.string c1, .int .i64 c2, .string c3], .bool (atH E q).isSome]) ∧ Below y.heap.size y x') := by
            intro y hy
            have := hat_any (HVA.out.ext (Ext.of_below (fun _ => False) gx hy) (fun h => h)) q
            rw [hc] at this
            exact this
          have H4 : Hid (∀ y, Below wr.heap.size wr y → Calls Tryz.prog 31 #[.slice (some ⟨wb, 0, none⟩) E.length E.length, .string q] y fun e x' => e = .returned (.tuple #[.agg #[.string c1, .int .i64 c2, .string c3], .bool (atH E q).isSome]) ∧ Below y.heap.size y x') := by
            intro y hy
            have := rat_any gx y _ E.length E (HRX.out.ext (Ext.of_below (fun _ => False) gx hy)) q (by omega)
            rw [hc] at this
            exact this
          generalize (getH E p).isSome = s1 at *
          generalize (atH E q).isSome = s2 at *
          clear hQ ha hc h1
          go_wp2_with fail
          refine H1.out.mono ?_
          rintro e x1 ⟨rfl, hb1⟩
          have HB1 : Hid (Below wr.heap.size wr (x1.alloc (.cells #[.string a1, .int .i64 a2, .string a3] 32))) := hb1.alloc hb1.size _
          have HK1 : Hid (Blk x1.heap.size 32 [.string a1, .int .i64 a2, .string a3] (x1.alloc (.cells #[.string a1, .int .i64 a2, .string a3] 32))) := Blk.new x1 32 [.string a1, .int .i64 a2, .string a3]
          have H2' := Lib.hid (H2.out _ HB1.out)
          clear hb1 H1 H2
          go_wp2_with fail
          refine H2'.out.mono ?_
          rintro e x2 ⟨rfl, hb2⟩
          have hbb2 := HB1.out.trans (hb2.mono HB1.out.size)
          have HB2 : Hid (Below wr.heap.size wr (x2.alloc (.cells #[.string a1, .int .i64 a2, .string a3] 32))) := hbb2.alloc hbb2.size _
          have HK12 := Lib.hid ((HK1.out.below hb2).alloc (.cells #[.string a1, .int .i64 a2, .string a3] 32))
          have HK22 : Hid (Blk x2.heap.size 32 [.string a1, .int .i64 a2, .string a3] (x2.alloc (.cells #[.string a1, .int .i64 a2, .string a3] 32))) := Blk.new x2 32 [.string a1, .int .i64 a2, .string a3]
          have H3' := Lib.hid (H3.out _ HB2.out)
          clear hb2 hbb2 HK1 HB1 H2' H3
          go_wp2_with fail
          refine H3'.out.mono ?_
          rintro e x3 ⟨rfl, hb3⟩
          have hbb3 := HB2.out.trans (hb3.mono HB2.out.size)
          have HB3 : Hid (Below wr.heap.size wr (x3.alloc (.cells #[.string c1, .int .i64 c2, .string c3] 32))) := hbb3.alloc hbb3.size _
          have HK13 := Lib.hid ((HK12.out.below hb3).alloc (.cells #[.string c1, .int .i64 c2, .string c3] 32))
          have HK23 := Lib.hid ((HK22.out.below hb3).alloc (.cells #[.string c1, .int .i64 c2, .string c3] 32))
          have HK33 : Hid (Blk x3.heap.size 32 [.string c1, .int .i64 c2, .string c3] (x3.alloc (.cells #[.string c1, .int .i64 c2, .string c3] 32))) := Blk.new x3 32 [.string c1, .int .i64 c2, .string c3]
          have H4' := Lib.hid (H4.out _ HB3.out)
          clear hb3 hbb3 HK12 HK22 HB2 H3' H4
          go_wp2_with fail
          refine H4'.out.mono ?_
          rintro e x4 ⟨rfl, hb4⟩
          have hbb4 := HB3.out.trans (hb4.mono HB3.out.size)
          have HB4 : Hid (Below wr.heap.size wr (x4.alloc (.cells #[.string c1, .int .i64 c2, .string c3] 32))) := hbb4.alloc hbb4.size _
          have hk14 := (HK13.out.below hb4).alloc (.cells #[.string c1, .int .i64 c2, .string c3] 32)
          have hk24 := (HK23.out.below hb4).alloc (.cells #[.string c1, .int .i64 c2, .string c3] 32)
          have hk34 := (HK33.out.below hb4).alloc (.cells #[.string c1, .int .i64 c2, .string c3] 32)
          have hk44 : Blk x4.heap.size 32 [.string c1, .int .i64 c2, .string c3] (x4.alloc (.cells #[.string c1, .int .i64 c2, .string c3] 32)) := Blk.new x4 32 [.string c1, .int .i64 c2, .string c3]
          have t0 := hk14.cell 0
          have t1 := hk14.cell 1
          have t2 := hk14.cell 2
          have u0 := hk24.cell 0
          have u1 := hk24.cell 1
          have u2 := hk24.cell 2
          have v0 := hk34.cell 0
          have v1 := hk34.cell 1
          have v2 := hk34.cell 2
          have y0 := hk44.cell 0
          have y1 := hk44.cell 1
          have y2 := hk44.cell 2
          dsimp only [List.getElem?_cons_zero, List.getElem?_cons_succ] at t0 t1 t2 u0 u1 u2 v0 v1 v2 y0 y1 y2
          have HL7 := Lib.hid (HLX.out.below HB4.out)
          have HR7 := Lib.hid (HRX.out.ext (Ext.of_below (fun _ => False) gx HB4.out))
          clear hb4 hbb4 hk14 hk24 hk34 hk44 HK13 HK23 HK33 HB3 HB4 H4' HVA
          go_wp2_with fail
          refine (depot_any w.heap.size _ gx _ HL7.out.ht (by omega)).mono ?_
          rintro e x5 ⟨p', g8, rfl, _, hx8, ht8⟩
          have hws := HL7.out.hx.size
          have htl := HL7.out.hv.lt
          have hml := HL7.out.ml
          have hbd := HL7.out.bd
          have HL8 : Hid (Lp 0 w b (mx + 1) n g8 x5 E A c) := ⟨HL7.out.hx.trans (hx8.imp (fun q (hq : q = w.heap.size) => by omega)), HL7.out.hv.ext hx8 (by omega) (by omega), ht8, HL7.out.sl.ext hx8, HL7.out.gk.ext hx8 (by omega), HL7.out.bd, HL7.out.ml⟩
          have HR8 := Lib.hid (HR7.out.ext hx8)
          clear hx8 ht8 HL7 HR7 t0 t1 t2 u0 u1 u2 v0 v1 v2 y0 y1 y2
          go_wp2_with fail
          refine (local_any w.heap.size _ g8 _ HL8.out.ht (by omega)).mono ?_
          rintro e x6 ⟨q', g9, rfl, _, hx9, ht9⟩
          have HL9 : Hid (Lp 0 w b (mx + 1 + 1) n g9 x6 E A c) := ⟨HL8.out.hx.trans (hx9.imp (fun q (hq : q = w.heap.size) => by omega)), HL8.out.hv.ext hx9 (by omega) (by omega), ht9, HL8.out.sl.ext hx9, HL8.out.gk.ext hx9 (by omega), HL8.out.bd, HL8.out.ml⟩
          have HR9 := Lib.hid (HR8.out.ext hx9)
          clear hx9 ht9 HL8 HR8
          go_wp2_with fail
          go_round
          case rel => exact ⟨p', q', i + 1, mx + 1 + 1, g9, rfl, rfl, by go_num, by omega, by omega, HL9.out, HR9.out⟩
          case measure => simp [intOf]; omega
        · have hi' : ¬ (i : Int) < 6 := by omega
          go_wp2_with fail
          go_ret
          exact ⟨rfl, HLX.out.hx.finW⟩
    · have hkp : (0 : Int) < (k : Int) := by omega
      go_wp2_with fail
      refine (HL.out.chg true entry_true (by omega) (by omega)).mono ?_
      rintro e w5 ⟨j, i, E', A', c', g5, rfl, hi, hor⟩
      have hl5 : Lp 0 w b (m + 100) (n + 1) g5 w5 E' A' c' := by
        rcases hor with ⟨h1, F', _, h3, h4⟩ | ⟨_, h2, _⟩
        · rw [h3 rfl] at h4
          exact h4
        · exact absurd rfl h2
      have HL5 := Lib.hid hl5
      clear hor hi hl5 HL
      go_wp2_with fail
      go_round
      case rel => exact ⟨k - 1, m + 100, n + 1, E', A', c', g5, by go_num, by omega, by omega, rfl, HL5.out⟩
      case measure => simp [intOf]; omega

end Go.Proofs.YtjjdffafibonhaaGreatDoor
