/-
  The walk of CheckpointRestores.
-/
import Derived.Test.YtcjkllmellampaaDoorCkKn
import Derived.Test.YtcjkllmellampaaDoorRst
import Derived.Deep.CutRange
import Derived.Deep.CutBlock
namespace Go.Proofs.YtcjkllmellampaaDoor
open Go.RowKit

set_option maxRecDepth 100000 in
set_option maxHeartbeats 800000 in
/-- A new device; its number is told. -/
theorem gnewN (g : Gh) (w : World) : Calls Tryd.prog 11 #[] w fun e w' => ∃ d g', e = .returned (.pointer (some ⟨d, 0, none⟩)) ∧ d = w.heap.size + 2 ∧ Ext (fun _ => False) g w g' w' ∧ DevAt g' w' d dev0 := by
  have hmm := @run_makeMap Tryd.prog
  have h := (new_any g w)
  go_enter Tryd.func11, Tryd.ntmps11
  go_wp2_with fail
  go_ret
  have hb2 : Blk (w.heap.size + 1 + 1) 77 (devCs w.heap.size (w.heap.size + 1) none 0 dev0) (((w.alloc (.map #[] 0)).alloc (.map #[] 0)).alloc (.cells #[.map (some w.heap.size), .map (some (w.heap.size + 1)), .slice none 0 0, .bool false, .int .i64 0] 77)) := by
    have := Blk.new ((w.alloc (.map #[] 0)).alloc (.map #[] 0)) 77 (devCs w.heap.size (w.heap.size + 1) none 0 dev0)
    simpa [devCs, dev0] using this
  have hm1 : MapIs w.heap.size [] (((w.alloc (.map #[] 0)).alloc (.map #[] 0)).alloc (.cells #[.map (some w.heap.size), .map (some (w.heap.size + 1)), .slice none 0 0, .bool false, .int .i64 0] 77)) := ((MapIs.new w).alloc _).alloc _
  have hm2 : MapIs (w.heap.size + 1) [] (((w.alloc (.map #[] 0)).alloc (.map #[] 0)).alloc (.cells #[.map (some w.heap.size), .map (some (w.heap.size + 1)), .slice none 0 0, .bool false, .int .i64 0] 77)) := by
    have := (MapIs.new (w.alloc (.map #[] 0))).alloc (.cells #[.map (some w.heap.size), .map (some (w.heap.size + 1)), .slice none 0 0, .bool false, .int .i64 0] 77)
    simpa using this
  have hbl : Below w.heap.size w (((w.alloc (.map #[] 0)).alloc (.map #[] 0)).alloc (.cells #[.map (some w.heap.size), .map (some (w.heap.size + 1)), .slice none 0 0, .bool false, .int .i64 0] 77)) := (((Below.refl _ _).alloc (Nat.le_refl _) _).alloc (by simp) _).alloc (by simp; omega) _
  refine ⟨w.heap.size + 1 + 1, ⟨fun b => if b < w.heap.size then g.F b else 0, fun b => if b < w.heap.size then g.O b else w.heap.size + 1 + 1⟩, rfl, rfl, (Ext.of_below (fun _ => False) g hbl).up (fun b hb => by simp [hb]) (fun b hb => by simp [hb]), w.heap.size, w.heap.size + 1, none, 0, [], hb2, ?_⟩
  refine ⟨by omega, by simp, by simp, ⟨[], hm1, rfl, fun _ _ => rfl, fun k v h => by simp [look] at h⟩, ⟨⟨[], hm2, rfl, fun _ _ => rfl, fun k v h => by simp [look] at h, fun k k' A n c A' n' c' h => by simp [look] at h⟩, (by dsimp only; rw [if_neg (by omega)]), (by dsimp only; rw [if_neg (by omega)])⟩, App.nil _ _ _ _ _, trivial, ?_, ?_, by simp [dev0], by simp [dev0]⟩
  · dsimp only; rw [if_neg (by omega)]
  · dsimp only; rw [if_neg (by omega)]

/-- Tape, device and the bytes of all records. -/
structure RsK (w : World) (d : Nat) (g : Gh) (x : World) (D : Dev) (m : Nat) (A : Option Addr) (cap : Nat) (al : List UInt8) : Prop where
  kp : Kp w w.heap.size d g x D m [] (fun _ _ => True)
  app : App 5 1 (w.heap.size + 1) g x A al.length cap (bv al)
  dn : d = w.heap.size + 3
section
variable {w : World} {d : Nat} {g : Gh} {x : World} {D : Dev} {m : Nat} {A : Option Addr} {cap : Nat} {al : List UInt8}
theorem RsK.size (h : RsK w d g x D m A cap al) : w.heap.size + 3 < x.heap.size := by have := h.kp.hD.lt; have := h.dn; omega
theorem RsK.step (h : RsK w d g x D m A cap al) {g' : Gh} {x' : World} {M : Nat → Prop} (hx : Ext M g x g' x') (hM : ∀ o, M o → x.heap.size ≤ o) : RsK w d g' x' D m A cap al :=
  ⟨h.kp.step hx hM, h.app.ext hx (fun e => by have := hM _ e; have := h.size; omega), h.dn⟩
theorem RsK.tape (h : RsK w d g x D m A cap al) {g' : Gh} {x' : World} {m' : Nat} (hx : Ext (· = w.heap.size) g x g' x') (ht : TapeAt g' x' w.heap.size m') : RsK w d g' x' D m' A cap al :=
  ⟨h.kp.tape hx ht, h.app.ext hx (by omega), h.dn⟩
theorem RsK.dev (h : RsK w d g x D m A cap al) {g' : Gh} {x' : World} {D' : Dev} (hx : Ext (fun o => o = d ∨ x.heap.size ≤ o) g x g' x') (hD : DevAt g' x' d D') : RsK w d g' x' D' m A cap al :=
  ⟨h.kp.dev hx hD, h.app.ext hx (fun e => by have := h.size; have := h.dn; omega), h.dn⟩
theorem RsK.both (h : RsK w d g x D m A cap al) {g' : Gh} {x' : World} {D' : Dev} {j : Nat} (hx : Ext (fun o => o = d ∨ o = j) g x g' x') (hD : DevAt g' x' d D') (hj : w.heap.size + 3 < j) : RsK w d g' x' D' m A cap al := by
  have := h.dn
  exact ⟨⟨h.kp.hx.trans (hx.imp (fun a e => by omega)), hD, h.kp.ht.ext hx (fun e => by omega), h.kp.dw, h.kp.tw, h.kp.dt, (fun _ h => by cases h), trivial, Stab.true⟩, h.app.ext hx (fun e => by omega), h.dn⟩
theorem rnext (h : RsK w d g x D m A cap al) (hm : m ≤ 100000) (n : Nat) (hn : n ≤ 1000000) (h0 : 0 < n) :
    Calls Tryd.prog 13 #[.pointer (some ⟨w.heap.size, 0, none⟩), .int .i64 (n : Int)] x fun e x' => ∃ v : Nat, e = .returned (.int .i64 v) ∧ v < n ∧ Ext (· = w.heap.size) g x g x' ∧ RsK w d g x' D (m + 1) A cap al :=
  (next_any w.heap.size m g x h.kp.ht (by omega) n (by omega)).mono fun _ _ ⟨v, h1, h2, h3, h4, h5⟩ => ⟨v.toNat, by rw [h1, show ((v.toNat : Nat) : Int) = v by omega], by omega, h4, h.tape h4 h5⟩
end

/-- The loop's head: k rounds are left of K. -/
def RsHead (w : World) (d j K k : Nat) (va vs vv : Value) (x : World) : Prop :=
  ∃ (g : Gh) (D : Dev) (m : Nat) (J : Jrn) (A : Option Addr) (cap : Nat) (al : List UInt8) (su sv : Nat), va = .slice A al.length cap ∧ vs = .int .i64 su ∧ vv = .int .i64 sv ∧ k ≤ K ∧ m ≤ 1 + 40 * (K - k) ∧
    RsK w d g x D m A cap al ∧ JAt g x j d J ∧ w.heap.size + 3 < j ∧ Rst J D (K - k) al su sv
/-- Behind the switch. -/
def RsMid (w : World) (d j K k : Nat) (ve va vs vv : Value) (x : World) : Prop :=
  ∃ (g : Gh) (D : Dev) (m : Nat) (A : Option Addr) (cap : Nat) (al : List UInt8) (su sv : Nat) (ei : Int), ve = .int .i64 ei ∧ va = .slice A al.length cap ∧ vs = .int .i64 su ∧ vv = .int .i64 sv ∧ m ≤ 6 + 40 * (K - k) ∧
    RsK w d g x D m A cap al ∧ (ei = 303 ∨ (ei = 0 ∧ ∃ J, JAt g x j d J ∧ Rst J D (K - k + 1) al su sv)) ∧ AftP D (K - k + 1) al su ∧ al.length ≤ K - k + 1

set_option maxRecDepth 100000 in
set_option maxHeartbeats 6400000 in
theorem lawRestores_any (w : World) (A : Option Addr) (c : Nat) (L : List Int) (hr : Rd 1 (ghW w) w A L.length (L.map (Value.int .i64))) (hL : ∀ x ∈ L, (Lit.int .i64 x).wf = true) :
    Calls Tryd.prog 10 #[.slice A L.length c] w fun e w' => e = .returned (.bool true) ∧ Below w.heap.size w w' := by
  obtain ⟨hx0, ht0⟩ := TapeAt.new (c := c) hr hL
  have HX0 := Lib.hid hx0
  have HT0 := Lib.hid ht0
  clear hx0 ht0 hr hL
  go_enter Tryd.func10, Tryd.ntmps10
  go_wp2_with fail
  refine (gnewN ((ghW w).box w.heap.size) _).mono ?_
  rintro e w1 ⟨d, g1, rfl, hd, hx1, hD1⟩
  have hs : (w.alloc (.cells #[.slice A L.length c, .int .i64 0] 25)).heap.size = w.heap.size + 1 := by simp
  rw [hs] at hd
  have hd3 : d = w.heap.size + 3 := by omega
  have HK1 : Hid (RsK w d g1 w1 dev0 0 none 0 []) :=
    ⟨⟨(HX0.out.trans hx1).imp (fun _ h => h.elim), hD1, HT0.out.ext hx1 (fun h => h), by omega, Nat.le_refl _, by omega, (fun _ h => by cases h), trivial, Stab.true⟩, App.nil _ _ _ _ _, hd3⟩
  clear hx1 hD1 HX0 HT0 hd hs hd3
  go_wp2_with fail
  refine (open_none d g1 w1 dev0 HK1.out.kp.hD ⟨#[106]⟩ (by decide) rfl rfl).mono ?_
  rintro e w2 ⟨j, g2, rfl, hj, hx2, hJ2⟩
  have hjw : w.heap.size + 3 < j := by have := HK1.out.size; omega
  have HK2 := Lib.hid (HK1.out.step hx2 (fun _ h => h.elim))
  have HJ2 := Lib.hid hJ2
  clear hx2 hJ2 HK1 hj
  go_wp2_with fail
  refine (known_any g2 w2).mono ?_
  rintro e w3 ⟨rfl, g3, hx3⟩
  have hjl := HJ2.out.lt
  have HK3 := Lib.hid (HK2.out.step hx3 (fun _ h => h))
  have HJ3 := Lib.hid (HJ2.out.ext hx3 (by omega))
  clear hx3 HK2 HJ2 hjl
  go_wp2_with fail
  refine (rnext HK3.out (by omega) 24 (by omega) (by omega)).mono ?_
  rintro e w4 ⟨K, rfl, hK, hx4, hk4⟩
  have HH : Hid (RsHead w d j K K (.slice none 0 0) (.int .i64 0) (.int .i64 0) w4) :=
    ⟨g3, dev0, 1, _, none, 0, [], 0, 0, rfl, rfl, rfl, Nat.le_refl _, by omega, hk4, HJ3.out.ext hx4 (by omega), hjw, by rw [Nat.sub_self]; exact Rst.zero⟩
  clear hx4 hk4 HK3 HJ3
  go_wp2_with fail
  go_loopg [5, 7, 8, 9, 10] K (fun k vj va vs vv kk wr => ∃ j, vj = .pointer (some ⟨j, 0, none⟩) ∧ kk = .int .i64 k ∧ RsHead w d j K k va vs vv wr)
  case atStart => exact ⟨j, rfl, rfl, HH.out⟩
  case round =>
    obtain ⟨j, rfl, rfl, g, D, m, J, A, cap, al, su, sv, rfl, rfl, rfl, hk, hm, hK8, hJ8, hjw, hR8⟩ := hrel
    have HK8 := Lib.hid hK8
    have HJ8 := Lib.hid hJ8
    have HR8 := Lib.hid hR8
    clear hK8 hJ8 hR8 HH
    obtain ⟨k, rfl⟩ : ∃ k : Nat, k = gk := ⟨_, rfl⟩
    obtain ⟨w8, rfl⟩ : ∃ wo : World, wo = wr := ⟨_, rfl⟩
    by_cases hlt : 0 < k
    · have hlt' : (0 : Int) < k := by omega
      go_wp2_with fail
      refine (rnext HK8.out (by omega) 6 (by omega) (by omega)).mono ?_
      rintro e w9 ⟨v9, rfl, hv9, hx9, hk9⟩
      have HK9 := Lib.hid hk9
      have HJ9 := Lib.hid (HJ8.out.ext hx9 (by omega))
      clear hx9 hk9 HK8 HJ8
      go_upto_if 45 with fail
      go_cut [10] from 39 to 192 (fun kk wx => kk = .int .i64 k ∧ ∃ (g : Gh) (D : Dev) (m : Nat), m ≤ 4 + 40 * (K - k) ∧ RsK w d g wx D m A cap al ∧ JAt g wx j d J ∧ Rst J D (K - k) al su sv)
      case first =>
        by_cases h9 : v9 = 0
        · subst h9
          go_wp2_with fail
          refine (rnext HK9.out (by omega) 9 (by omega) (by omega)).mono ?_
          rintro e w10 ⟨v10, rfl, hv10, hx10, hk10⟩
          have HK10 := Lib.hid hk10
          have HJ10 := Lib.hid (HJ9.out.ext hx10 (by omega))
          clear hx10 hk10 HK9 HJ9
          have hF := fuse_any d g w10 D HK10.out.kp.hD (1 + v10) (by omega) (by omega)
          go_wp2_with fail
          refine hF.mono ?_
          rintro e w11 ⟨rfl, g11, hx11, hD11⟩
          have HK11 := Lib.hid (HK10.out.dev (hx11.imp (fun _ h => .inl h)) hD11)
          have HJ11 := Lib.hid (HJ10.out.ext hx11 (by have := HK10.out.dn; omega))
          clear hx11 hD11 hF HK10 HJ10
          go_wp2_with fail
          go_meet
          case rel => exact ⟨rfl, g11, _, _, by omega, HK11.out, HJ11.out, HR8.out.fuse _⟩
        · have h9' : ((v9 : Int) == 0) = false := by simp; omega
          go_wp2_with fail
          go_meet
          case rel => exact ⟨rfl, g, D, _, by omega, HK9.out, HJ9.out, HR8.out⟩
      case rest =>
        obtain ⟨rfl, g', D', m', hm', hk10, hj10, hr10⟩ := hcut
        clear HK9 HJ9 HR8 hm
        have HK10 := Lib.hid hk10
        have HJ10 := Lib.hid hj10
        have HR10 := Lib.hid hr10
        clear hk10 hj10 hr10
        go_wp2_with fail
        refine (rnext HK10.out (by omega) 6 (by omega) (by omega)).mono ?_
        rintro e w12 ⟨v12, rfl, hv12, hx12, hk12⟩
        have HK12 := Lib.hid hk12
        have HJ12 := Lib.hid (HJ10.out.ext hx12 (by omega))
        clear hx12 hk12 HK10 HJ10
        go_upto_block 2 with fail
        go_cut [6, 7, 8, 9, 10] from 39 to 192 (fun ve va vs vv kk wx => kk = .int .i64 k ∧ RsMid w d j K k ve va vs vv wx)
        case first =>
          have hb := HR10.out.bnd (by omega)
          have b0 := hb.s0
          have b1 := hb.s1
          have b2 := hb.rl
          have b3 := hb.al
          have b4 := hb.lo
          have b5 := hb.hi
          have HBN := Lib.hid hb
          have hf0 : 0 ≤ D'.fuse := by
            obtain ⟨km, nm, A1, c1, xs, _, hi⟩ := HK12.out.kp.hD
            exact hi.f0
          have HF0 := Lib.hid hf0
          have HLEN := Lib.hid HK12.out.kp.hD.len
          clear hb hf0
          by_cases c0 : v12 = 0
          · as_aux_lemma =>
              subst c0
              obtain ⟨p, hp⟩ : ∃ p : Nat, p = J.start.toNat + J.recs.length := ⟨_, rfl⟩
              have hpi : J.start + (J.recs.length : Int) = p := by omega
              have HP := Lib.hid hp
              have hcl := HK12.out.app.le
              have hpc : p ≤ cap := by omega
              have hp100 : p ≤ 100 := by omega
              obtain ⟨i1, hi1, hz0, hz1, hz2⟩ := info_parts Tryd.infoU8
              have hch := run_cut_h (P := Tryd.prog) Tryd.underlying32 hi1 A al.length cap p hpc
              have HBY : Hid (BytesAt g' w12 (.slice A (al.take p).length cap) (al.take p)) := by
                have h1 : BytesAt g' w12 (.slice A al.length cap) al := BytesAt.of_new HK12.out.app
                have h2 := h1.take (k := p) (by omega)
                rw [List.length_take, Nat.min_eq_left (by omega)]
                exact h2
              have HTL : Hid ((al.take p).length = p) := by show _ = _; rw [List.length_take]; omega
              obtain ⟨o0, o1, s0, s1, e1, e2, hsv⟩ := HR10.out.sav (by omega) HF0.out HLEN.out
              have HSV := Lib.hid (hsv p _ HP.out rfl)
              have HSA := Lib.hid (And.intro s0 (And.intro s1 (And.intro e1 e2)))
              clear hsv s0 s1 e1 e2 hp
              go_wp2_with fail
              refine (jend_any j d g' w12 J HJ12.out b0 (by omega) (by omega)).mono ?_
              rintro e w13 ⟨rfl, n13, rfl⟩
              have hxd : Ext (fun _ => False) g' w12 g' (w12.drewN n13) := (Ext.refl _ _ _).drewN _
              have HK13 := Lib.hid (HK12.out.step hxd (fun _ h => h.elim))
              have HJ13 := Lib.hid (HJ12.out.ext hxd (fun h => h))
              have HBY13 := Lib.hid (HBY.out.ext hxd)
              clear hxd HK12 HJ12 HBY
              generalize w12.drewN n13 = w13 at *
              have hsave := save_ok d g' w13 D' HK13.out.kp.hD HBN.out.dn ⟨#[99]⟩ cN_ok o0 o1 HSA.out.1 HSA.out.2.1 p A cap (al.take p) HBY13.out (by omega) (by rw [HSA.out.2.2.1]; omega) (by omega) (by have := HSA.out.2.2.2; omega) (by rw [HTL.out]; omega) (by have := HBN.out.n; omega) (by rw [HBN.out.pl]; simp)
              rw [HTL.out, Int.toNat_natCast] at hsave
              have HSAVE := Lib.hid hsave
              clear hsave HBY13
              generalize (⟨seqO (newS o0 o1).1 + 1, p, al.take p⟩ : Ck) = ck at *
              generalize svOp ⟨#[99]⟩ (newS o0 o1).2 ck = op at *
              go_wp2_with fail
              refine HSAVE.out.mono ?_
              rintro e w14 ⟨rfl, g14, hx14, hD14⟩
              have hjd : j ≠ d := by have := HK13.out.dn; omega
              have hjl := HJ13.out.lt
              have HK14 := Lib.hid (HK13.out.dev hx14 hD14)
              have HJ14 := Lib.hid (HJ13.out.ext hx14 (by omega))
              clear hx14 hD14 HK13 HJ13 HSAVE hjd hjl
              rcases HSV.out with ⟨hi, hok⟩ | ⟨hi, haf⟩
              · rw [hi]
                have HM : Hid (RsMid w d j K k (.int .i64 0) (.slice A al.length cap) (.int .i64 su) (.int .i64 p) w14) := by
                  have hr := hok d g14 w14 HK14.out.kp.hD
                  exact ⟨g14, _, _, A, cap, al, su, p, 0, rfl, rfl, rfl, rfl, by omega, HK14.out, .inr ⟨rfl, J, HJ14.out, hr⟩, hr.aft (by omega) HK14.out.kp.hD.len, by omega⟩
                clear hok hi HK14 HJ14
                go_wp2_with fail
                go_meet
                case rel => exact ⟨rfl, HM.out⟩
              · rw [hi]
                have HM : Hid (RsMid w d j K k (.int .i64 303) (.slice A al.length cap) (.int .i64 su) (.int .i64 sv) w14) :=
                  ⟨g14, _, _, A, cap, al, su, sv, 303, rfl, rfl, rfl, rfl, by omega, HK14.out, .inl rfl, haf, by omega⟩
                clear haf hi HK14 HJ14
                go_wp2_with fail
                go_meet
                case rel => exact ⟨rfl, HM.out⟩
          by_cases c1 : v12 = 1
          · as_aux_lemma =>
              subst c1
              clear c0
              have HCUT : Hid (Calls Tryd.prog 35 #[.pointer (some ⟨j, 0, none⟩), .int .i64 (sv : Int)] w12 fun e w' => ∃ (ei : Int) (J2 : Jrn) (D2 : Dev), e = .returned (.int .i64 ei) ∧ BothP j d g' w12 J2 D2 w' ∧ ((ei = 0 ∧ Rst J2 D2 (K - k) al su sv) ∨ (ei = 303 ∧ AftP D2 (K - k) al su))) := by
                by_cases hlt2 : J.start.toNat < sv
                · obtain ⟨k2, hk2⟩ : ∃ k2 : Nat, (sv : Int) - J.start = k2 := ⟨((sv : Int) - J.start).toNat, by omega⟩
                  obtain ⟨q1, q2, q3⟩ := HR10.out.cut (by omega) HF0.out HLEN.out j d k2 hlt2 hk2
                  refine (cut_t j d g' w12 J D' HJ12.out HK12.out.kp.hD sv HBN.out.dd q1 (by omega) (by omega) b0 (by omega) (by omega) HBN.out.bl (by have := HBN.out.b1; omega) (fun k3 x y z hk3 => ?_)).mono ?_
                  · obtain rfl : k2 = k3 := by omega
                    exact q2 x y z
                  · rintro e w' ⟨k3, hk3, he, hP⟩
                    obtain rfl : k2 = k3 := by omega
                    rcases q3 with ⟨i1, i2⟩ | ⟨i1, i2⟩
                    · rw [i1] at he hP
                      exact ⟨0, _, _, he, hP, .inl ⟨rfl, i2⟩⟩
                    · rw [i1] at he hP
                      exact ⟨303, _, _, he, hP, .inr ⟨rfl, i2⟩⟩
                · refine (cut_same j d g' w12 J HJ12.out sv HBN.out.dd b0 (by omega) (by omega) (by omega)).mono ?_
                  rintro e w' ⟨he, hP⟩
                  exact ⟨0, J, D', he, BothP.ofSame HJ12.out HK12.out.kp.hD hP, .inl ⟨rfl, HR10.out⟩⟩
              have HC2 : Hid (¬ J.start < (sv : Int) → (sv : Int) = J.start) := fun h => by omega
              by_cases hss : J.start < (sv : Int)
              all_goals (
                go_wp2_with fail
                refine (jstart_any j d g' w12 J HJ12.out).mono ?_
                rintro e w' ⟨rfl, rfl⟩
                go_wp2_with fail
                try rw [HC2.out hss] at HCUT
                refine HCUT.out.mono ?_
                rintro e w13 ⟨ei, J2, D2, rfl, ⟨g13, hx13, hJ13, hD13⟩, hei⟩
                have HM : Hid (RsMid w d j K k (.int .i64 ei) (.slice A al.length cap) (.int .i64 su) (.int .i64 sv) w13) := by
                  have hk13 := HK12.out.both hx13 hD13 hjw
                  rcases hei with ⟨e1, hr⟩ | ⟨e1, ha⟩
                  · have hr' := hr.more (Nat.le_succ _)
                    exact ⟨g13, D2, _, A, cap, al, su, sv, ei, rfl, rfl, rfl, rfl, by omega, hk13, .inr ⟨e1, J2, hJ13, hr'⟩, hr'.aft (by omega) hD13.len, by omega⟩
                  · exact ⟨g13, D2, _, A, cap, al, su, sv, ei, rfl, rfl, rfl, rfl, by omega, hk13, .inl e1, AftP.more ha (by omega), by omega⟩
                clear hx13 hJ13 hD13 hei HCUT HK12 HJ12
                go_wp2_with fail
                go_meet
                case rel => exact ⟨rfl, HM.out⟩)
          by_cases c2 : v12 = 2 ∨ v12 = 3
          · as_aux_lemma =>
              have HCOM : Hid (Calls Tryd.prog 30 #[.pointer (some ⟨j, 0, none⟩)] w12 fun e w' => ∃ (ei : Int) (J2 : Jrn) (D2 : Dev), e = .returned (.int .i64 ei) ∧ BothP j d g' w12 J2 D2 w' ∧ ((ei = 0 ∧ Rst J2 D2 (K - k) al al.length sv) ∨ (ei = 303 ∧ AftP D2 (K - k) al su))) := by
                obtain ⟨q1, q2, q3⟩ := HR10.out.com (by omega) HF0.out HLEN.out j d
                refine (commit_any j d g' w12 J D' HJ12.out HK12.out.kp.hD q1 q2).mono ?_
                rintro e w' ⟨he, hP⟩
                rcases q3 with ⟨i1, i2⟩ | ⟨i1, i2⟩
                · rw [i1] at he
                  exact ⟨0, _, _, he, hP, .inl ⟨rfl, i2⟩⟩
                · rw [i1] at he
                  exact ⟨303, _, _, he, hP, .inr ⟨rfl, i2⟩⟩
              clear c0 c1
              rcases c2 with rfl | rfl
              all_goals (
                go_wp2_with fail
                refine HCOM.out.mono ?_
                rintro e w13 ⟨ei, J2, D2, rfl, ⟨g13, hx13, hJ13, hD13⟩, hei⟩
                have hk13 := HK12.out.both hx13 hD13 hjw
                rcases hei with ⟨rfl, hr⟩ | ⟨rfl, ha⟩
                · have HM : Hid (RsMid w d j K k (.int .i64 0) (.slice A al.length cap) (.int .i64 al.length) (.int .i64 sv) w13) := by
                    have hr' := hr.more (Nat.le_succ _)
                    exact ⟨g13, D2, _, A, cap, al, al.length, sv, 0, rfl, rfl, rfl, rfl, by omega, hk13, .inr ⟨rfl, J2, hJ13, hr'⟩, hr'.aft (by omega) hD13.len, by omega⟩
                  clear hx13 hJ13 hD13 HCOM HK12 HJ12 hk13 hr
                  go_wp2_with fail
                  go_meet
                  case rel => exact ⟨rfl, HM.out⟩
                · have HM : Hid (RsMid w d j K k (.int .i64 303) (.slice A al.length cap) (.int .i64 su) (.int .i64 sv) w13) :=
                    ⟨g13, D2, _, A, cap, al, su, sv, 303, rfl, rfl, rfl, rfl, by omega, hk13, .inl rfl, AftP.more ha (by omega), by omega⟩
                  clear hx13 hJ13 hD13 HCOM HK12 HJ12 hk13 ha
                  go_wp2_with fail
                  go_meet
                  case rel => exact ⟨rfl, HM.out⟩)
          as_aux_lemma =>
            have f0 : ((v12 : Int) == 0) = false := by simp; omega
            have f1 : ((v12 : Int) == 1) = false := by simp; omega
            have f2 : ((v12 : Int) == 2) = false := by simp; omega
            have f3 : ((v12 : Int) == 3) = false := by simp; omega
            clear c0 c1 c2
            go_wp2_with fail
            refine (rnext HK12.out (by omega) 256 (by omega) (by omega)).mono ?_
            rintro e w13 ⟨x, rfl, hx256, hx13, hk13⟩
            have HJ13 := Lib.hid (HJ12.out.ext hx13 (by omega))
            have hx3 := Ext.litB (fun _ => False) g' w13 [UInt8.ofNat x] (0, 0)
            have hb3 := BytesAt.lit g' w13 [UInt8.ofNat x] (0, 0) (by simp)
            have hk8 : (UInt8.ofNat x).toNat = x := by simp; omega
            have hbv : (bv [UInt8.ofNat x]).toArray = #[.int .u8 (x : Int)] := by simp only [bv, List.map_cons, List.map_nil, u8v, hk8]
            have hwrap : IntKind.u8.wrap (x : Int) = x := by rw [IntKind.wrap_u8]; omega
            simp only [List.length_cons, List.length_nil, Nat.zero_add] at hx3 hb3
            rw [hbv] at hx3 hb3
            have HK14 := Lib.hid (hk13.step hx3 (fun _ h => h.elim))
            have HJ14 := Lib.hid (HJ13.out.ext hx3 (fun h => h))
            have HBY := Lib.hid hb3
            obtain ⟨ha0, hrA⟩ := HR10.out.app (by omega) (UInt8.ofNat x)
            have HA0 := Lib.hid ha0
            have HRA := Lib.hid hrA
            clear hx3 hb3 hx13 hk13 HK12 HJ12 HJ13 ha0 hrA
            go_wp2_with fail
            refine (japp_any j d _ _ J HJ14.out _ _ [UInt8.ofNat x] HBY.out (by simp) HBN.out.b0 (by have := HBN.out.b1; omega) (by omega) (by omega)).mono ?_
            rw [HA0.out]
            rintro e w15 ⟨rfl, hP15⟩
            obtain ⟨g15, hx15, hJ15, hD15⟩ := BothP.ofJ HJ14.out HK14.out.kp.hD hP15
            have hK15 := HK14.out.both hx15 hD15 hjw
            have hx4 := Ext.litB (fun _ => False) g15 w15 [UInt8.ofNat x] (0, 0)
            have hb4 := BytesAt.lit g15 w15 [UInt8.ofNat x] (0, 0) (by simp)
            simp only [List.length_cons, List.length_nil, Nat.zero_add] at hx4 hb4
            rw [hbv] at hx4 hb4
            have HK16 := Lib.hid (hK15.step hx4 (fun _ h => h.elim))
            have HJ16 := Lib.hid (hJ15.ext hx4 (fun h => h))
            have HSRC : Hid (Src Tryd.prog 1 32 (.slice (some ⟨w15.heap.size, 0, none⟩) 1 1) 1 (bv [UInt8.ofNat x]) (w15.alloc (.cells #[.int .u8 (x : Int)] 5))) := by
              obtain ⟨_, hz, hrd⟩ := hb4.rd
              exact hrd.src Tryd.underlying32 1 (bv_one _) hz
            have HAP := Lib.hid HK16.out.app
            obtain ⟨i1, hi1, hz0, hz1, hz2⟩ := info_parts Tryd.infoU8
            clear hx4 hb4 hx15 hJ15 hD15 hK15 hP15 HK14 HJ14 HBY hbv hk8
            go_wp2_with (at_builtin; refine wpList_append_app rfl _ _ _ _ rfl 5 i1 (.int .u8 0) 1 1 Tryd.underlying32 hi1 hz0 hz1 hz2 rfl (by decide) rfl HAP.out rfl HSRC.out (by unfold maxLen; omega) (by omega) ?_; intro A7 c7 w17 g17 hx17 ha17 hl17; have hd3 := HK16.out.dn; have HKP := Lib.hid (HK16.out.kp.own hx17 (by omega) (by omega) (by omega) (by simp)); have HJ17 := Lib.hid (HJ16.out.ext hx17 (by omega)); have HA17 := Lib.hid ha17; clear hx17 ha17 hl17 hd3)
            go_meet
            case rel =>
              have hal : (al ++ [UInt8.ofNat x]).length = al.length + 1 := by simp
              have hr' : Rst (jappJ J [UInt8.ofNat x]) D' (K - k + 1) (al ++ [UInt8.ofNat x]) su sv := HRA.out
              refine ⟨rfl, g17, D', _, A7, c7, al ++ [UInt8.ofNat x], su, sv, 0, rfl, by rw [hal], rfl, rfl, by omega, ⟨HKP.out, ?_, HK16.out.dn⟩, .inr ⟨rfl, _, HJ17.out, hr'⟩, hr'.aft (by omega) HKP.out.hD.len, by omega⟩
              have := HA17.out
              rw [hal]
              simpa [bv] using this
        case rest =>
          have HJW := Lib.hid hjw
          clear HR10 HK12 HJ12 hjw hm'
          obtain ⟨rfl, g2, D2, m2, A2, cap2, al2, su2, sv2, ei, rfl, rfl, rfl, rfl, hm2, hk2, hei, haf, hal2⟩ := hcut
          have HK13 := Lib.hid hk2
          have HEI := Lib.hid hei
          have HAF := Lib.hid haf
          clear hk2 hei haf
          go_upto_region 31 with fail
          go_cut [10, 101] from 39 to 192 (fun kk vb wx => kk = .int .i64 k ∧ ∃ (b : Bool) (m3 : Nat), vb = .bool b ∧ m3 ≤ 8 + 40 * (K - k) ∧ RsK w d g2 wx D2 m3 A2 cap2 al2 ∧ (b = true → ei = 0 ∧ ∃ J, JAt g2 wx j d J ∧ Rst J D2 (K - k + 1) al2 su2 sv2))
          case first =>
            rcases HEI.out with rfl | ⟨rfl, J2, hj2, hr2⟩
            · go_wp2_with fail
              go_meet
              case rel => exact ⟨rfl, false, m2, rfl, by omega, HK13.out, fun h => by cases h⟩
            · have HJ2 := Lib.hid hj2
              have HR2 := Lib.hid hr2
              clear hj2 hr2
              go_wp2_with fail
              refine (rnext HK13.out (by omega) 9 (by omega) (by omega)).mono ?_
              rintro e w14 ⟨v14, rfl, hv14, hx14, hk14⟩
              have HK14 := Lib.hid hk14
              have HJ14 := Lib.hid (HJ2.out.ext hx14 (by have := HJW.out; omega))
              clear hx14 hk14 HK13 HJ2
              go_wp2_with fail
              go_meet
              case rel => exact ⟨rfl, _, _, rfl, by omega, HK14.out, fun _ => ⟨by first | rfl | trivial, J2, HJ14.out, HR2.out⟩⟩
          case rest =>
            obtain ⟨rfl, b, m3, rfl, hm3, hk3, hb3⟩ := hcut
            have HK14 := Lib.hid hk3
            have HB14 := Lib.hid hb3
            clear hk3 hb3 HK13 HEI
            cases b
            · as_aux_lemma =>
                clear HB14
                go_wp2_with fail
                refine (rnext HK14.out (by omega) 6 (by omega) (by omega)).mono ?_
                rintro e w15 ⟨v15, rfl, hv15, _, hk15⟩
                have HK15 := Lib.hid hk15
                clear hk15 HK14
                go_wp2_with fail
                refine (rnext HK15.out (by omega) 30 (by omega) (by omega)).mono ?_
                rintro e w16 ⟨v16, rfl, hv16, _, hk16⟩
                have HK16 := Lib.hid hk16
                clear hk16 HK15
                go_wp2_with fail
                refine (lose_any d g2 w16 D2 HK16.out.kp.hD HAF.out.1 ((v15 : Int) - 1) ((v16 : Int) - 1) (by omega) (by omega)).mono ?_
                rintro e w17 ⟨rfl, g17, hx17, hD17⟩
                have HK17 := Lib.hid (HK16.out.dev (hx17.imp (fun _ h => .inl h)) hD17)
                obtain ⟨hdn, hpl, hcr⟩ := HAF.out.2 ((v15 : Int) - 1) ((v16 : Int) - 1)
                have HCR := Lib.hid hcr
                clear hx17 hD17 hcr HK16 HAF
                generalize lossD (downD D2) ((v15 : Int) - 1) ((v16 : Int) - 1) = E at *
                have HDN := Lib.hid (And.intro hdn hpl)
                clear hdn hpl
                go_wp2_with fail
                refine (restart_any d g17 w17 E HK17.out.kp.hD HDN.out.1 HDN.out.2).mono ?_
                rintro e w18 ⟨rfl, g18, hx18, hD18⟩
                have HK18 := Lib.hid (HK17.out.dev (hx18.imp (fun _ h => .inl h)) hD18)
                obtain ⟨q, J3, sv3, hq, hsq, hR3, hpn, hop⟩ := HCR.out d g18 w18 hD18
                clear hx18 hD18 HK17 HCR HDN
                generalize ({ E with down := false } : Dev) = E2 at *
                have hal3 : (al2.take q).length = q := by rw [List.length_take]; omega
                obtain ⟨o, ⟨o0, o1, s0, s1, e1⟩, hpo, hst, hsq3⟩ := hR3.ck
                have hbn := hR3.bnd (by omega)
                have hrc := hR3.rc
                rw [hpn, List.append_nil] at hrc
                have n1 := hbn.s0
                have n2 := hbn.s1
                have n3 := hbn.rl
                have n4 := hbn.lo
                have n5 := hbn.hi
                have n6 := hbn.dn
                rw [hpn, List.length_nil, Nat.add_zero, hal3] at n3
                rw [hal3] at n2
                have HRV := Lib.hid (recover_all d g18 w18 E2 HK18.out.kp.hD n6 ⟨#[99]⟩ ⟨#[106]⟩ cj_two o0 o1 s0 s1 J3 (hop d) n1 (by omega) (by omega) (fun r hr => by rw [hrc] at hr; exact sing_small hr) (by rw [e1]; omega))
                rw [e1] at HRV
                have HRR := Lib.hid hR3
                have HOP := Lib.hid (hop d)
                have HRC := Lib.hid hrc
                have HST := Lib.hid hst
                have HPO := Lib.hid hpo
                have HA3 := Lib.hid hal3
                have HN3 := Lib.hid n3
                clear s0 s1 e1 hpo hst hsq3 hbn hrc hop hR3 n6 hpn hal3 n3
                go_wp2_with fail
                refine HRV.out.mono ?_
                rintro e w19 ⟨g19, hx19, ⟨hgap, _⟩ | ⟨k3, Ar, cr, vst, hk31, hk32, hst19, hrc19, rfl⟩⟩
                · exfalso
                  have := HPO.out
                  omega
                obtain ⟨As, rfl, hbs⟩ := hst19.full
                have HK19 := Lib.hid (HK18.out.step hx19 (fun _ h => h))
                rw [HPO.out] at hk31
                have hbs2 : BytesAt g19 w19 (.slice As sv3 sv3) ((al2.take q).take sv3) := by
                  have h1 := hbs
                  rw [HST.out] at h1
                  have h2 : ((al2.take q).take sv3).length = sv3 := by rw [List.length_take, HA3.out]; have := HN3.out; omega
                  rw [h2] at h1
                  exact h1
                have hsl : (vw o).st.length = sv3 := by rw [HST.out, List.length_take, HA3.out]; have := HN3.out; omega
                have hdr : J3.recs.drop k3 = sing ((al2.take q).drop sv3) := by
                  rw [HRC.out, sing_drop, List.drop_drop]
                  congr 2
                  omega
                rw [hdr] at hrc19
                rw [HPO.out, hsl, hdr, sing_len]
                have HRS := Lib.hid hrc19
                have HBS := Lib.hid hbs2
                clear hx19 hst19 hbs hbs2 hsl hrc19 hdr HRV HK18
                have hRl : ((al2.take q).drop sv3).length = q - sv3 := by rw [List.length_drop, HA3.out]
                have HRL := Lib.hid hRl
                rw [hRl]
                clear hRl
                obtain ⟨R, hRdef⟩ : ∃ R, R = (al2.take q).drop sv3 := ⟨_, rfl⟩
                rw [← hRdef] at HRS HRL
                have HRD := Lib.hid hRdef
                clear hRdef
                have hRl : R.length = q - sv3 := HRL.out
                have hsvq : sv3 ≤ q := by have := HN3.out; omega
                have hRl2 : q - sv3 = R.length := hRl.symm
                rw [hRl2]
                clear hRl2 hRl
                generalize hrl : R.length = rl at *
                have HRLL := Lib.hid hrl
                have hqrl : sv3 + rl = q := by have := HRL.out; omega
                have HQRL := Lib.hid hqrl
                have hrlb : rl ≤ 100 := by omega
                have hqb : q ≤ 100 := by omega
                clear hrl hqrl
                have hcap2 : q ≤ cap2 := by have := HK19.out.app.le; omega
                obtain ⟨i1, hi1, hz0, hz1, hz2⟩ := info_parts Tryd.infoU8
                go_wp2_with fail
                go_loopw [14, 17] (fun vs i wr => ∃ (k5 n5 : Nat) (gr : Gh) (As : Option Addr) (cs : Nat), vs = .slice As n5 cs ∧ i = .int .i64 k5 ∧ k5 ≤ rl ∧ Hid (n5 = sv3 + k5) ∧ RsK w d gr wr E2 (m3 + 1 + 1) A2 cap2 al2 ∧ App 5 1 (w.heap.size + 2) gr wr As n5 cs (bv ((al2.take q).take sv3 ++ R.take k5)) ∧ RecsAt gr wr Ar cr (sing R)) (fun _ i _ => rl - (intOf i).toNat)
                case atStart => exact ⟨0, sv3, g19, As, sv3, rfl, rfl, Nat.zero_le _, rfl, HK19.out, by
                  have h1 := App.full8 (w.heap.size + 2) (l := (al2.take q).take sv3) HBS.out
                  rw [List.take_zero, List.append_nil]; exact h1, HRS.out⟩
                case round =>
                  obtain ⟨k5, n5, gr, As2, cs2, rfl, rfl, hk5, hn5, hkr, har, hrr⟩ := hrel
                  have HKR := Lib.hid hkr
                  have HAR := Lib.hid har
                  have HRR5 := Lib.hid hrr
                  clear hkr har hrr HK19 HBS HRS
                  by_cases hlt5 : k5 < rl
                  · have hkR : k5 < R.length := by rw [HRLL.out]; exact hlt5
                    obtain ⟨b, off, Ab, cb, rfl, hc5, hb5⟩ := HRR5.out.get (k := k5) (by rw [sing_len]; exact hkR)
                    have hg5 : (sing R)[k5]'(by rw [sing_len]; exact hkR) = [R[k5]] := by
                      have h1 := sing_get R k5 hkR
                      rw [List.getElem?_eq_getElem (by rw [sing_len]; exact hkR)] at h1
                      exact Option.some.inj h1
                    rw [hg5] at hc5 hb5
                    obtain ⟨_, _, hrd⟩ := hb5.rd
                    obtain ⟨b2, off2, rfl, _, _, hcc⟩ := hrd.at_ (by simp)
                    have hc6 := hcc 0 (u8v R[k5]) (by simp [bv])
                    have hts : R.take (k5 + 1) = R.take k5 ++ [R[k5]] := by rw [List.take_add_one, List.getElem?_eq_getElem hkR]; rfl
                    have HTS := Lib.hid hts
                    rw [Nat.add_zero] at hc6
                    unfold u8v at hc6
                    have hbv : bv [R[k5]] = [.int .u8 (R[k5].toNat : Int)] := rfl
                    have HBV := Lib.hid hbv
                    clear hrd hcc hb5 hg5 hts hbv
                    generalize hrk : R[k5] = rk at *
                    have hlen1 : ([rk] : List UInt8).length = 1 := rfl
                    rw [hlen1] at hc5
                    clear hlen1 hrk
                    have hx6 := Ext.litB (fun _ => False) gr wr [rk] (0, 0)
                    have hb6 := BytesAt.lit gr wr [rk] (0, 0) (by simp)
                    have hbva : (bv [rk]).toArray = #[.int .u8 (rk.toNat : Int)] := rfl
                    simp only [List.length_cons, List.length_nil, Nat.zero_add] at hx6 hb6
                    rw [hbva] at hx6 hb6
                    have HK6 := Lib.hid (HKR.out.step hx6 (fun _ h => h.elim))
                    have HA6 := Lib.hid (HAR.out.ext hx6 (fun h => h))
                    have HR6 := Lib.hid (HRR5.out.ext hx6)
                    have HSRC : Hid (Src Tryd.prog 1 32 (.slice (some ⟨wr.heap.size, 0, none⟩) 1 1) 1 (bv [rk]) (wr.alloc (.cells #[.int .u8 (rk.toNat : Int)] 5))) := by
                      obtain ⟨_, hz, hrd⟩ := hb6.rd
                      exact hrd.src Tryd.underlying32 1 (bv_one _) hz
                    have hn5' : n5 ≤ 1000 := by have := hn5.out; have := HQRL.out; omega
                    clear hx6 hb6 hbva HKR HAR HRR5
                    go_wp2_with (at_builtin; refine wpList_append_app rfl _ _ _ _ rfl 5 i1 (.int .u8 0) 1 1 Tryd.underlying32 hi1 hz0 hz1 hz2 rfl (by decide) rfl HA6.out rfl HSRC.out (by unfold maxLen; omega) (by omega) ?_; intro A7 c7 w7 g7 hx7 ha7 hl7; have hd3 := HK6.out.dn; have HK7 : Hid (RsK w d g7 w7 E2 (m3 + 1 + 1) A2 cap2 al2) := ⟨HK6.out.kp.own hx7 (by omega) (by omega) (by omega) (by simp), HK6.out.app.ext hx7 (by omega), hd3⟩; have HA7 := Lib.hid ha7; have HR7 := Lib.hid (HR6.out.ext hx7); clear hx7 ha7 hl7 hd3)
                    go_round
                    case rel =>
                      refine ⟨k5 + 1, n5 + 1, g7, A7, c7, rfl, by go_num, by omega, by show _ = _; have := hn5.out; omega, HK7.out, ?_, HR7.out⟩
                      have h1 := HA7.out
                      rw [HTS.out]
                      simpa [bv] using h1
                    case measure => simp [intOf]; omega
                  · obtain rfl : k5 = rl := by omega
                    obtain rfl : n5 = q := by have := hn5.out; have := HQRL.out; omega
                    have HAQ : Hid (App 5 1 (w.heap.size + 2) gr wr As2 n5 cs2 (bv (al2.take n5))) := by
                      have h1 := HAR.out
                      rw [← HRLL.out, List.take_length, HRD.out, List.take_append_drop] at h1
                      exact h1
                    have HBQ : Hid (BytesAt gr wr (.slice As2 n5 cs2) (al2.take n5)) := by
                      have h1 := HAQ.out
                      have h2 : n5 = (al2.take n5).length := HA3.out.symm
                      show BytesAt _ _ _ _
                      obtain ⟨hrd, h3, h4, h5, _⟩ := h1
                      refine ⟨As2, cs2, by rw [← h2], by rw [← h2]; exact h3, h4, fun e => by rw [← h2]; exact (h5 e).1, by rw [← h2]; exact hrd⟩
                    have hca : ∀ n, (convert 32 9 (.slice As2 n5 cs2)).run Tryd.prog (wr.drewN n) = .ok (.string ⟨(al2.take n5).toArray⟩) (wr.drewN n) := fun n => (HBQ.out.ext (M := fun _ => False) ((Ext.refl _ _ _).drewN n)).str
                    have hcb : ∀ n, (convert 32 9 (.slice A2 n5 cap2)).run Tryd.prog (wr.drewN n) = .ok (.string ⟨(al2.take n5).toArray⟩) (wr.drewN n) := fun n => by
                      have h1 : BytesAt gr wr (.slice A2 al2.length cap2) al2 := BytesAt.of_new HKR.out.app
                      exact ((h1.take hq).ext (M := fun _ => False) ((Ext.refl _ _ _).drewN n)).str
                    have hch := run_cut_h (P := Tryd.prog) Tryd.underlying32 hi1 A2 al2.length cap2 n5 hcap2
                    have hlo5 : decide ((n5 : Int) < su2) = false := by simp; omega
                    have hhi5 : decide ((al2.length : Int) < n5) = false := by simp; omega
                    go_wp2_with fail
                    go_quiet (fail)
                    have hxq : Ext (fun _ => False) gr wr gr (wr.drewN nq) := (Ext.refl _ _ _).drewN _
                    have HK20 := Lib.hid (HKR.out.step hxq (fun _ h => h.elim))
                    have HA20 := Lib.hid (HAQ.out.ext hxq (fun h => h))
                    have HSQ : Hid (Src Tryd.prog 1 32 (.slice As2 n5 cs2) n5 (bv (al2.take n5)) (wr.drewN nq)) := by
                      refine HA20.out.rd.src Tryd.underlying32 cs2 (bv_one _) (fun e => (HA20.out.nz e).1)
                    have HAN : Hid (App 5 1 (w.heap.size + 1) gr (wr.drewN nq) none 0 0 []) := App.nil _ _ _ _ _
                    clear hxq hca hcb hch hlo5 hhi5 HAQ HBQ HAR HRR5 HKR
                    generalize wr.drewN nq = w20 at *
                    go_wp2_with (at_builtin; refine wpList_append_app rfl _ _ _ _ rfl 5 i1 (.int .u8 0) 1 1 Tryd.underlying32 hi1 hz0 hz1 hz2 rfl (by decide) rfl HAN.out rfl HSQ.out (by unfold maxLen; omega) (by omega) ?_; intro A7 c7 w21 g21 hx21 ha21 hl21; have hd3 := HK20.out.dn; have HK21 : Hid (RsK w d g21 w21 E2 (m3 + 1 + 1) A7 c7 (al2.take n5)) := ⟨HK20.out.kp.own hx21 (by omega) (by omega) (by omega) (by simp), (by have h1 := ha21; rw [Nat.zero_add, List.nil_append] at h1; rw [HA3.out]; exact h1), hd3⟩; clear hx21 ha21 hl21 hd3)
                    refine (HOP.out g21 w21 HK21.out.kp.hD).mono ?_
                    rintro e w22 ⟨j22, g22, rfl, hj22, hx22, hJ22⟩
                    have HK22 := Lib.hid (HK21.out.step hx22 (fun o (e : o = j22) => by omega))
                    have HJ22 := Lib.hid hJ22
                    have hj22' : w.heap.size + 3 < j22 := by have := HK21.out.size; omega
                    clear hx22 hJ22 HK21 HK20 HA20 HSQ HAN HOP hj22
                    have hendq : J3.start + (J3.recs.length : Int) = n5 := by have := HN3.out; omega
                    go_wp2_with fail
                    refine (jend_any j22 d g22 w22 J3 HJ22.out n1 (by omega) (by omega)).mono ?_
                    rintro e w' ⟨rfl, n23, rfl⟩
                    have hxd : Ext (fun _ => False) g22 w22 g22 (w22.drewN n23) := (Ext.refl _ _ _).drewN _
                    have HK23 := Lib.hid (HK22.out.step hxd (fun _ h => h.elim))
                    have HJ23 := Lib.hid (HJ22.out.ext hxd (fun h => h))
                    clear hxd HK22 HJ22
                    generalize w22.drewN n23 = w23 at *
                    go_wp2_with fail
                    go_roundg (k - 1)
                    case measure => omega
                    case rel =>
                      refine ⟨j22, rfl, congrArg (Value.int .i64) (by omega), g22, E2, m3 + 1 + 1, J3, A7, c7, al2.take n5, n5, sv3, by rw [HA3.out], rfl, congrArg (Value.int .i64) hk31.symm, by omega, by omega, HK23.out, HJ23.out, hj22', ?_⟩
                      have e : K - (k - 1) = K - k + 1 := by omega
                      rw [e]; exact HRR.out
            · obtain ⟨rfl, J3, hj3, hr3⟩ := HB14.out rfl
              have HJ3 := Lib.hid hj3
              have HR3 := Lib.hid hr3
              clear hj3 hr3 HB14
              go_wp2_with fail
              go_roundg (k - 1)
              case measure => omega
              case rel =>
                refine ⟨j, rfl, congrArg (Value.int .i64) (by omega), g2, D2, m3, J3, A2, cap2, al2, su2, sv2, rfl, rfl, rfl, by omega, by omega, HK14.out, HJ3.out, HJW.out, ?_⟩
                have e : K - (k - 1) = K - k + 1 := by omega
                rw [e]; exact HR3.out
    · obtain rfl : k = 0 := by omega
      go_wp2_with fail
      go_ret
      exact ⟨rfl, HK8.out.kp.hx.finW⟩

end Go.Proofs.YtcjkllmellampaaDoor
