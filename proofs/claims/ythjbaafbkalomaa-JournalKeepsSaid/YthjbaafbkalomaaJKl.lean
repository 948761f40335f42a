/-
  The walk of JournalKeeps.
-/
import Derived.Test.YthjbaafbkalomaaJKb
namespace Go.Proofs.Ythjbaafbkalomaa
open Go.RowKit

theorem RdC.get {sz : Nat} {g : Gh} {w : World} {b off n : Nat} {xs : List Value} (h : Rd sz g w (some ⟨b, off, none⟩) n xs) {i : Nat} {v : Value} (hv : xs[i]? = some v) : w.cell? ⟨b, off + i, none⟩ = some v := by
  have hl := h.len
  have hi := (List.getElem?_eq_some_iff.1 hv).1
  have hn : 0 < n := by
    rcases Nat.eq_zero_or_pos n with h0 | h0
    · subst h0; rw [Nat.zero_mul] at hl; omega
    · exact h0
  obtain ⟨b', off', e, _, _, hc⟩ := h.at_ hn
  cases e
  exact hc i v hv
theorem AftJ.fuse {D : Dev} {m : Nat} {P : Int → List (List UInt8) → Prop} (h : AftJ D m P) (F : Int) : AftJ { D with fuse := F } m P := ⟨⟨h.1.pl, h.1.ops, h.1.len, h.1.n⟩, fun kp tn => h.2 kp tn⟩

/-- The loop's head: k rounds are left of K. -/
def JkHead (w : World) (d wb j K k : Nat) (x : World) : Prop :=
  ∃ (g : Gh) (D : Dev) (m : Nat) (J : Jrn) (A1 : Option Addr) (c1 : Nat) (A2 : Option Addr) (c2 : Nat), k ≤ K ∧ m ≤ 1 + 80 * (K - k) ∧
    JkK w d wb g x D m (refOf J) A1 c1 A2 c2 ∧ JAt g x j d J ∧ w.heap.size + 3 < j ∧ j ≠ wb ∧ Jst J D (3 * (K - k))
/-- The journal's candidates behind Commit or Cut. -/
def JkMid (w : World) (d wb j K k : Nat) (ve vl : Value) (x : World) : Prop :=
  ∃ (g : Gh) (D : Dev) (m : Nat) (R : RefR) (A1 : Option Addr) (c1 : Nat) (A2 : Option Addr) (c2 : Nat) (J : Jrn) (ei : Int) (A : Option Addr) (cap : Nat) (V : List Cd), ve = .int .i64 ei ∧ vl = .slice A V.length cap ∧ m ≤ 40 + 80 * (K - k) ∧ V.length ≤ 2000 ∧
    JkK w d wb g x D m R A1 c1 A2 c2 ∧ JAt g x j d J ∧ Cds (w.heap.size + 1) g x A cap V ∧
    ((ei = 303 ∧ J.dead = true) ∨ (ei = 0 ∧ J.dead = false ∧ Jst J D (3 * (K - k) + 3) ∧ ∃ e, V = [e] ∧ e.R = refOf J)) ∧
    AftJ D (3 * (K - k) + 3) (fun st rs => ∃ e ∈ V, e.R.start = st ∧ e.R.recs = rs)

set_option maxRecDepth 100000 in
set_option maxHeartbeats 6400000 in
theorem lawKeeps_any (w : World) (A : Option Addr) (c : Nat) (L : List Int) (hr : Rd 1 (ghW w) w A L.length (L.map (Value.int .i64))) (hL : ∀ x ∈ L, (Lit.int .i64 x).wf = true) :
    Calls Try.prog 3 #[.slice A L.length c] w fun e w' => e = .returned (.bool true) ∧ Below w.heap.size w w' := by
  obtain ⟨hx0, ht0⟩ := TapeAt.new (c := c) hr hL
  have HX0 := Lib.hid hx0
  have HT0 := Lib.hid ht0
  clear hx0 ht0 hr hL
  go_enter Try.func3, Try.ntmps3
  go_wp2_with fail
  refine (gnewN ((ghW w).box w.heap.size) _).mono ?_
  rintro e w1 ⟨d, g1, rfl, hd, hx1, hD1⟩
  have hs : (w.alloc (.cells #[.slice A L.length c, .int .i64 0] 25)).heap.size = w.heap.size + 1 := by simp
  rw [hs] at hd
  have hd3 : d = w.heap.size + 3 := by omega
  have HX1 : Hid (Ext (fun o => w.heap.size ≤ o) (ghW w) w g1 w1) := (HX0.out.trans hx1).imp (fun _ h => h.elim)
  have HD1 := Lib.hid hD1
  have HT1 := Lib.hid (HT0.out.ext hx1 (fun h => h))
  have HD3 := Lib.hid hd3
  clear hx1 hD1 HX0 HT0 hd hs hd3
  go_wp2_with fail
  refine (open_none d g1 w1 dev0 HD1.out ⟨#[106]⟩ (by decide) rfl rfl).mono ?_
  rintro e w2 ⟨j, g2, rfl, hj, hx2, hJ2⟩
  have hdl := HD1.out.lt
  have HX2 := Lib.hid (HX1.out.trans (hx2.imp (fun o (h : False) => (h.elim : w.heap.size ≤ o))))
  have HD2 := Lib.hid (HD1.out.ext hx2 (fun h => h))
  have HT2 := Lib.hid (HT1.out.ext hx2 (fun h => h))
  have HJ2 := Lib.hid hJ2
  have hjw : w.heap.size + 3 < j := by have := HD3.out; omega
  clear hx2 hJ2 hdl HX1 HD1 HT1 hj
  go_wp2_with fail
  refine (known_any g2 w2).mono ?_
  rintro e w3 ⟨rfl, g3, hx3⟩
  have l1 := HD2.out.lt
  have l2 := HT2.out.lt
  have l3 := HJ2.out.lt
  have HX3 := Lib.hid (HX2.out.trans (hx3.imp (fun o h => Nat.le_trans HX2.out.size h)))
  have HD4 := Lib.hid (HD2.out.ext hx3 (by omega))
  have HT3 := Lib.hid (HT2.out.ext hx3 (by omega))
  have HJ3 := Lib.hid (HJ2.out.ext hx3 (by omega))
  have hsz3 := hx3.size
  clear hx3 HX2 HD2 HT2 HJ2
  go_wp2_with fail
  have hxb := Ext.box (fun _ => False) g3 w3 (.cells #[.int .i64 0, .slice none 0 0, .slice none 0 0] 35)
  have HK4 : Hid (JkK w d w3.heap.size (g3.box w3.heap.size) (w3.alloc (.cells #[.int .i64 0, .slice none 0 0, .slice none 0 0] 35)) dev0 0 (refOf (jrn0 ⟨#[106]⟩)) none 0 none 0) := by
    refine ⟨HX3.out.trans (hxb.imp (fun _ h => h.elim)), HD4.out.ext hxb (fun h => h), HT3.out.ext hxb (fun h => h), Blk.new w3 35 [.int .i64 0, .slice none 0 0, .slice none 0 0], RecsAt.nil _ _, RecsAt.nil _ _, Gh.box_O _ _, Gh.box_F _ _, HD3.out, by omega⟩
  have HJ4 := Lib.hid (HJ3.out.ext hxb (fun h => h))
  have hjb : j ≠ w3.heap.size := by omega
  clear hxb HX3 HD4 HT3 HJ3 l1 l2 l3 hsz3 HD3
  generalize w3.alloc (.cells #[.int .i64 0, .slice none 0 0, .slice none 0 0] 35) = w4 at *
  generalize g3.box w3.heap.size = g4 at *
  generalize w3.heap.size = wb at *
  refine (jnext HK4.out (by omega) 12 (by omega) (by omega)).mono ?_
  rintro e w5 ⟨K, rfl, hK, hx5, hk5⟩
  have HH : Hid (JkHead w d wb j K K w5) :=
    ⟨g4, dev0, 1, _, none, 0, none, 0, Nat.le_refl _, by omega, hk5, HJ4.out.ext hx5 (by omega), hjw, hjb, by rw [Nat.sub_self]; exact Jst.zero⟩
  clear hx5 hk5 HK4 HJ4 hjw hjb
  go_wp2_with fail
  go_loopg [5, 8] K (fun k vj kk wr => ∃ j, vj = .pointer (some ⟨j, 0, none⟩) ∧ kk = .int .i64 k ∧ JkHead w d wb j K k wr)
  case atStart => exact ⟨j, rfl, rfl, HH.out⟩
  case round =>
    obtain ⟨j, rfl, rfl, g, D, m, J, A1, c1, A2, c2, hk, hm, hK8, hJ8, hjw, hjb, hR8⟩ := hrel
    have HK8 := Lib.hid hK8
    have HJ8 := Lib.hid hJ8
    have HR8 := Lib.hid hR8
    have HJW := Lib.hid (And.intro hjw hjb)
    clear hK8 hJ8 hR8 HH hjw hjb
    obtain ⟨k, rfl⟩ : ∃ k : Nat, k = gk := ⟨_, rfl⟩
    obtain ⟨w8, rfl⟩ : ∃ wo : World, wo = wr := ⟨_, rfl⟩
    by_cases hlt : 0 < k
    · have hlt' : (0 : Int) < k := by omega
      go_wp2_with fail
      refine (jnext HK8.out (by omega) 4 (by omega) (by omega)).mono ?_
      rintro e w9 ⟨n9, rfl, hn9, hx9, hk9⟩
      have HK9 := Lib.hid hk9
      have HJ9 := Lib.hid (HJ8.out.ext hx9 (by have := HJW.out; omega))
      clear hx9 hk9 HK8 HJ8
      go_wp2_with fail
      go_loopw [9] (fun i wr => ∃ (i9 m9 : Nat) (g : Gh) (J : Jrn) (A1 : Option Addr) (c1 : Nat) (A2 : Option Addr) (c2 : Nat), i = .int .i64 i9 ∧ i9 ≤ n9 ∧ m9 ≤ 2 + 80 * (K - k) + 8 * (n9 - i9) ∧ JkK w d wb g wr D m9 (refOf J) A1 c1 A2 c2 ∧ JAt g wr j d J ∧ Jst J D (3 * (K - k) + (n9 - i9))) (fun i _ => (intOf i).toNat)
      case atStart => exact ⟨n9, _, g, J, A1, c1, A2, c2, rfl, Nat.le_refl _, by omega, HK9.out, HJ9.out, by rw [Nat.sub_self]; exact HR8.out⟩
      case round =>
        obtain ⟨i9, m9, gr, Jr, B1, e1, B2, e2, rfl, hi9, hm9, hkr, hjr, hsr⟩ := hrel
        have HKR := Lib.hid hkr
        have HJR := Lib.hid hjr
        have HSR := Lib.hid hsr
        clear hkr hjr hsr HK9 HJ9 HR8
        by_cases hi0 : 0 < i9
        · have hi0' : (0 : Int) < i9 := by omega
          go_wp2_with fail
          refine (record_any w.heap.size m9 gr wr HKR.out.ht (by omega)).mono ?_
          rintro e w10 ⟨Ab, cb, l, g10, rfl, hl6, hb10, hx10, ht10⟩
          have HK10 := Lib.hid (HKR.out.tape hx10 ht10)
          have HJ10 := Lib.hid (HJR.out.ext hx10 (by have := HJW.out; omega))
          have HB10 := Lib.hid hb10
          obtain ⟨ha0, haj, hrA⟩ := HSR.out.app (by omega) l hl6
          have HA0 := Lib.hid ha0
          have HAJ := Lib.hid haj
          have HRA := Lib.hid hrA
          have hsB := lens_small _ HSR.out.sm
          have hs := HSR.out.snd
          have b1 := hs.by'
          have b2 := hs.cnt
          have b3 := hs.bx
          have b4 := hs.st1
          have b5 := hs.st0
          rw [lens_append, List.length_append] at hsB
          have HBB : Hid (0 ≤ Jr.bytes ∧ Jr.bytes ≤ 1000000000 ∧ Jr.recs.length ≤ 1000 ∧ Jr.pend.length ≤ 1000 ∧ lens Jr.recs + lens Jr.pend ≤ 10000) := ⟨by omega, by omega, by omega, by omega, by omega⟩
          clear hx10 hb10 ht10 ha0 haj hrA HKR HJR hsB hs b1 b2 b3 b4 b5
          go_wp2_with fail
          refine (japp_any j d g10 w10 Jr HJ10.out Ab cb l HB10.out (by omega) HBB.out.1 HBB.out.2.1 (by have := HBB.out; omega) (by have := HBB.out; omega)).mono ?_
          rw [HA0.out, HAJ.out]
          rintro e w11 ⟨rfl, hP11⟩
          obtain ⟨g11, hx11, hJ11, hD11⟩ := BothP.ofJ HJ10.out HK10.out.hD hP11
          have HK11 := Lib.hid (HK10.out.both hx11 hD11 HJW.out.1 HJW.out.2)
          have HJ11 := Lib.hid hJ11
          have HB11 := Lib.hid (HB10.out.ext hx11)
          have r0 : w11.cell? ⟨wb, 0, none⟩ = some (.int .i64 (refOf Jr).start) := HK11.out.hb.cell 0
          have r1 : w11.cell? ⟨wb, 1, none⟩ = some (.slice B1 (refOf Jr).recs.length e1) := HK11.out.hb.cell 1
          have r2 : w11.cell? ⟨wb, 2, none⟩ = some (.slice B2 (refOf Jr).pend.length e2) := HK11.out.hb.cell 2
          clear hx11 hJ11 hD11 hP11 HK10 HJ10 HB10
          go_wp2_with fail
          refine (rappend_any g11 w11 _ (refOf Jr) HK11.out.ref (by show Jr.recs.length + Jr.pend.length < _; have := HBB.out; omega) Ab cb l HB11.out (by omega) (by show lens Jr.recs + lens Jr.pend + _ ≤ _; have := HBB.out; omega)).mono ?_
          rintro e w12 ⟨v12, g12, rfl, hx12, F1, f1, F2, f2, rfl, h1, h2⟩
          have HK12 := Lib.hid (HK11.out.same hx12)
          have HJ12 := Lib.hid (HJ11.out.ext hx12 (fun h => h))
          have hst := HK12.out.store (R' := ⟨(refOf Jr).start, (refOf Jr).recs, (refOf Jr).pend ++ [l]⟩) h1 h2
          have hlen1 : ((refOf Jr).pend ++ [l]).length = (refOf Jr).pend.length + 1 := by simp
          simp only [hlen1] at hst
          have HST := Lib.hid hst
          have z := HK12.out.hb.fz
          have q0 : w12.cell? ⟨wb, 0, none⟩ = some (.int .i64 (refOf Jr).start) := HK12.out.hb.cell 0
          have q1 : w12.cell? ⟨wb, 1, none⟩ = some (.slice B1 (refOf Jr).recs.length e1) := HK12.out.hb.cell 1
          have q2 : w12.cell? ⟨wb, 2, none⟩ = some (.slice B2 (refOf Jr).pend.length e2) := HK12.out.hb.cell 2
          clear hx12 h1 h2 HK11 HJ11 HB11 r0 r1 r2 hst hlen1
          go_wp2_with fail
          go_round
          case rel =>
            exact ⟨i9 - 1, m9 + 8, g12, { Jr with pend := Jr.pend ++ [l], bytes := Jr.bytes + l.length }, F1, f1, F2, f2, congrArg (Value.int .i64) (by omega), by omega, by omega, HST.out.1, HJ12.out.ext HST.out.2 (by have := HJW.out; omega), HRA.out.more (by omega)⟩
          case measure => simp [intOf]; omega
        · obtain rfl : i9 = 0 := by omega
          have HSM := Lib.hid (HSR.out.more (show 3 * (K - k) + (n9 - 0) ≤ 3 * (K - k) + 3 by omega))
          clear HSR
          go_wp2_with fail
          refine (jnext HKR.out (by omega) 2 (by omega) (by omega)).mono ?_
          rintro e w13 ⟨v13, rfl, hv13, hx13, hk13⟩
          have HK13 := Lib.hid hk13
          have HJ13 := Lib.hid (HJR.out.ext hx13 (by have := HJW.out; omega))
          clear hx13 hk13 HKR HJR
          go_upto_if 66 with fail
          go_cut [8] from 42 to 210 (fun kk wx => kk = .int .i64 k ∧ ∃ (g : Gh) (D : Dev) (m : Nat), m ≤ 30 + 80 * (K - k) ∧ JkK w d wb g wx D m (refOf Jr) B1 e1 B2 e2 ∧ JAt g wx j d Jr ∧ Jst Jr D (3 * (K - k) + 3))
          case first =>
            by_cases h13 : v13 = 0
            · subst h13
              go_wp2_with fail
              refine (jnext HK13.out (by omega) 6 (by omega) (by omega)).mono ?_
              rintro e w14 ⟨v14, rfl, hv14, hx14, hk14⟩
              have HK14 := Lib.hid hk14
              have HJ14 := Lib.hid (HJ13.out.ext hx14 (by have := HJW.out; omega))
              clear hx14 hk14 HK13 HJ13
              have hF := fuse_any d gr w14 D HK14.out.hD (1 + v14) (by omega) (by omega)
              go_wp2_with fail
              refine hF.mono ?_
              rintro e w15 ⟨rfl, g15, hx15, hD15⟩
              have HK15 := Lib.hid (HK14.out.dev hx15 hD15)
              have HJ15 := Lib.hid (HJ14.out.ext hx15 (by have := HJW.out; have := HK14.out.dn; omega))
              clear hx15 hD15 hF HK14 HJ14
              go_wp2_with fail
              go_meet
              case rel => exact ⟨rfl, g15, _, _, by omega, HK15.out, HJ15.out, HSM.out.fuse _⟩
            · have h13' : ((v13 : Int) == 0) = false := by simp; omega
              go_wp2_with fail
              go_meet
              case rel => exact ⟨rfl, gr, D, _, by omega, HK13.out, HJ13.out, HSM.out⟩
          case rest =>
            obtain ⟨rfl, g', D', m', hm', hk16, hj16, hr16⟩ := hcut
            clear HK13 HJ13 HSM hm9 hm
            have HK16 := Lib.hid hk16
            have HJ16 := Lib.hid hj16
            have HR16 := Lib.hid hr16
            clear hk16 hj16 hr16
            go_wp2_with fail
            have hxl := Ext.lit (fun _ => False) g' wc (.cells #[] 35) 0
            have HK17 := Lib.hid (HK16.out.same hxl)
            have HJ17 := Lib.hid (HJ16.out.ext hxl (fun h => h))
            have HCD : Hid (Cds (w.heap.size + 1) (g'.lit wc.heap.size 0) (wc.alloc (.cells #[] 35)) (some ⟨wc.heap.size, 0, none⟩) 0 []) :=
              ⟨⟨Rd.nil _ _ _ _, Nat.le_refl _, Nat.zero_le _, (fun h => by cases h), fun h => absurd h (Nat.lt_irrefl _)⟩, fun _ h => by cases h⟩
            clear hxl HK16 HJ16
            generalize wc.alloc (.cells #[] 35) = w17 at *
            generalize g'.lit wc.heap.size 0 = g17 at *
            generalize (some ⟨wc.heap.size, 0, none⟩ : Option Addr) = L0 at *
            refine (jnext HK17.out (by omega) 4 (by omega) (by omega)).mono ?_
            rintro e w18 ⟨v18, rfl, hv18, hx18, hk18⟩
            have HK18 := Lib.hid hk18
            have HJ18 := Lib.hid (HJ17.out.ext hx18 (by have := HJW.out; omega))
            have HC18 := Lib.hid (HCD.out.ext hx18 (by omega))
            clear hx18 hk18 HK17 HJ17 HCD
            go_upto_if 75 with fail
            go_cut [8, 11, 12] from 42 to 210 (fun kk vl ve wx => kk = .int .i64 k ∧ JkMid w d wb j K k ve vl wx)
            case first =>
              have hsB := lens_small _ HR16.out.sm
              have hs := HR16.out.snd
              have b1 := hs.by'
              have b4 := hs.st1
              have b5 := hs.st0
              rw [lens_append, List.length_append] at hsB
              have HBB : Hid (0 ≤ Jr.start ∧ Jr.start ≤ 1000 ∧ 0 ≤ Jr.bytes ∧ Jr.bytes ≤ 1000000000 ∧ Jr.recs.length ≤ 1000 ∧ Jr.pend.length ≤ 1000 ∧ lens Jr.recs + lens Jr.pend ≤ 10000 ∧ lens Jr.recs ≤ Jr.bytes) := ⟨by omega, by omega, by omega, by omega, by omega, by omega, by omega, by omega⟩
              have HF0 : Hid (0 ≤ D'.fuse) := by
                obtain ⟨km, nm, A1, c1, xs, _, hi⟩ := HK18.out.hD
                exact hi.f0
              have HLEN := Lib.hid HK18.out.hD.len
              clear hsB hs b1 b4 b5
              by_cases h18 : v18 = 0
              · as_aux_lemma =>
                  subst h18
                  have HB : Hid (JkB w d wb j g17 w18 D' (m' + 1) Jr B1 e1 B2 e2 L0 0 []) := ⟨HK18.out, HJ18.out, HC18.out, HJW.out.1, HJW.out.2⟩
                  have hm : m' + 1 ≤ 100000 := by omega
                  have h0 : 0 ≤ (refOf Jr).start := HBB.out.1
                  have hst1 : (refOf Jr).start ≤ 1000 := HBB.out.2.1
                  have hrl : (refOf Jr).recs.length ≤ 1000 := HBB.out.2.2.2.2.1
                  clear HK18 HJ18 HC18
                  go_upto_region 22 with fail
                  go_cut [8, 13] from 42 to 210 (fun kk vx wx => kk = .int .i64 k ∧ ∃ (xb v : Nat) (gx : Gh) (mx : Nat) (F1 : Option Addr) (f1 : Nat) (F2 : Option Addr) (f2 : Nat), vx = .pointer (some ⟨xb, 0, none⟩) ∧ v ≤ (refOf Jr).recs.length ∧ mx ≤ m' + 3 ∧ JkB w d wb j gx wx D' mx Jr B1 e1 B2 e2 L0 0 [] ∧ Bx w wb j xb [.int .i64 ((refOf Jr).start + (v : Int)), .slice F1 ((refOf Jr).recs.length - v) f1, .slice F2 (refOf Jr).pend.length f2] gx wx ∧ RecsAt gx wx F1 f1 ((refOf Jr).recs.drop v) ∧ RecsAt gx wx F2 f2 (refOf Jr).pend)
                  case first =>
                    have HB0 : Hid (JkB w d wb j g17 w18.drew D' (m' + 1) Jr B1 e1 B2 e2 L0 0 []) := HB.out.step (M := fun _ => False) ((Ext.refl _ _ _).drew) (fun _ h => h.elim)
                    have hS : Blk wb 35 [.int .i64 (refOf Jr).start, .slice B1 (refOf Jr).recs.length e1, .slice B2 (refOf Jr).pend.length e2] w18.drew := HB0.out.k.hb
                    (refine wp_region_mixf (S := Blk wb 35 [.int .i64 (refOf Jr).start, .slice B1 (refOf Jr).recs.length e1, .slice B2 (refOf Jr).pend.length e2]) [16] [] [11, 12, 13] 15 14 [([0, 1, 2, 3, 4, 5, 6, 7], 8), ([9], 10)] (by kernel_rfl) (by kernel_rfl) (by intro c a d v w h; cases d <;> exact h) hS ?_; have hN : Nonempty (Held (Blk wb 35 [.int .i64 (refOf Jr).start, .slice B1 (refOf Jr).recs.length e1, .slice B2 (refOf Jr).pend.length e2])) := ⟨⟨_, hS⟩⟩)
                    have r0 : ∀ y : Held (Blk wb 35 [.int .i64 (refOf Jr).start, .slice B1 (refOf Jr).recs.length e1, .slice B2 (refOf Jr).pend.length e2]), y.w.cell? ⟨wb, 0, none⟩ = some (.int .i64 (refOf Jr).start) := fun y => y.ok.cell 0
                    have r1 : ∀ y : Held (Blk wb 35 [.int .i64 (refOf Jr).start, .slice B1 (refOf Jr).recs.length e1, .slice B2 (refOf Jr).pend.length e2]), y.w.cell? ⟨wb, 1, none⟩ = some (.slice B1 (refOf Jr).recs.length e1) := fun y => y.ok.cell 1
                    have r2 : ∀ y : Held (Blk wb 35 [.int .i64 (refOf Jr).start, .slice B1 (refOf Jr).recs.length e1, .slice B2 (refOf Jr).pend.length e2]), y.w.cell? ⟨wb, 2, none⟩ = some (.slice B2 (refOf Jr).pend.length e2) := fun y => y.ok.cell 2
                    generalize hwq : w18.drew = x0 at *
                    clear hS hwq HB
                    have hw0 : IntKind.i64.wrap (((refOf Jr).recs.length : Int) + 1) = ((refOf Jr).recs.length : Int) + 1 := IntWalk.i64_in _ (by omega)
                    (unfold wpMixF wpRd; (repeat (first | simp only [List.filterMap_cons] | simp only [List.filterMap_nil] | simp only [List.getElem?_toArray] | simp only [List.getElem?_cons_zero] | simp only [List.getElem?_cons_succ])); (try dsimp only); change wpQuiet _ _ _ _ (_ :: _ :: _ :: _ :: _ :: _ :: _ :: _ :: []) _; (repeat (go_big_quiet_step (fail))); refine wpQuiet_nil ?_; (try dsimp only))
                    clear r0 r1 r2 hw0
                    refine ⟨?_, ?_⟩
                    · as_aux_lemma =>
                        (unfold wpAct; (repeat (first | simp only [List.getElem?_toArray] | simp only [List.getElem?_cons_zero] | simp only [List.getElem?_cons_succ])); (try dsimp only))
                        go_wp2_with fail
                        have HNX := Lib.hid (HB0.out.next hm ((refOf Jr).recs.length + 1) (by omega) (by omega))
                        have hcast : (((refOf Jr).recs.length + 1 : Nat) : Int) = ((refOf Jr).recs.length : Int) + 1 := by omega
                        rw [hcast] at HNX
                        clear hcast
                        refine HNX.out.mono ?_
                        rintro e x1 ⟨v, rfl, hv, hx1, hb1⟩
                        have HB1 := Lib.hid hb1
                        have hS1 := hb1.k.hb
                        clear hx1 hb1 HNX
                        go_wp2_with fail
                        refine ⟨hS1, ?_⟩
                        clear hS1
                        obtain ⟨p, HP, HCU⟩ : ∃ p : Int, Hid (p = (refOf Jr).start + (v : Int)) ∧ Hid ((refOf Jr).cut p = ⟨p, (refOf Jr).recs.drop v, (refOf Jr).pend⟩ ∧ (refOf Jr).cutI p = 0) := ⟨_, rfl, cut_in _ _ (by omega)⟩
                        have hw1 : IntKind.i64.wrap ((refOf Jr).start + (v : Int)) = p := by rw [HP.out]; exact IntWalk.i64_in _ (by omega)
                        (unfold wpMixF wpRd; (repeat (first | simp only [List.filterMap_cons] | simp only [List.filterMap_nil] | simp only [List.getElem?_toArray] | simp only [List.getElem?_cons_zero] | simp only [List.getElem?_cons_succ])); (try dsimp only); change wpQuiet _ _ _ _ (_ :: []) _; (repeat (go_big_quiet_step (fail))); refine wpQuiet_nil ?_; (try dsimp only))
                        clear hw1
                        refine ⟨?_, ?_⟩
                        · as_aux_lemma =>
                            (unfold wpAct; (repeat (first | simp only [List.getElem?_toArray] | simp only [List.getElem?_cons_zero] | simp only [List.getElem?_cons_succ])); (try dsimp only))
                            go_wp2_with fail
                            have HRC := Lib.hid (rcut_any _ _ _ (refOf Jr) HB1.out.k.ref p h0 (by omega) (by omega))
                            rw [HCU.out.1, HCU.out.2] at HRC
                            refine HRC.out.mono ?_
                            rintro e x2 ⟨v2, g2, rfl, hx2, F1, f1, F2, f2, rfl, hr1, hr2⟩
                            have HB2 := Lib.hid (HB1.out.step hx2 (fun _ h => h.elim))
                            have hS2 := HB2.out.k.hb
                            have HR1 := Lib.hid hr1
                            have HR2 := Lib.hid hr2
                            clear hr1 hr2 HRC
                            clear hx2
                            go_wp2_with fail
                            refine ⟨hS2, ?_⟩
                            clear hS2
                            (unfold wpMixF wpRd; (repeat (first | simp only [List.filterMap_cons] | simp only [List.filterMap_nil] | simp only [List.getElem?_toArray] | simp only [List.getElem?_cons_zero] | simp only [List.getElem?_cons_succ])); (try dsimp only); change wpQuiet _ _ _ _ (_ :: _ :: _ :: []) _; (repeat (go_big_quiet_step (fail))); refine wpQuiet_nil ?_; (try dsimp only))
                            (unfold wpAct; (repeat (first | simp only [List.getElem?_toArray] | simp only [List.getElem?_cons_zero] | simp only [List.getElem?_cons_succ])); (try dsimp only))
                            go_wp2_with fail
                            have HB3 : Hid (JkB w d wb j (Gh.box _ x2.heap.size) (x2.alloc (.cells #[.int .i64 0, .slice none 0 0, .slice none 0 0] 35)) D' _ Jr B1 e1 B2 e2 L0 0 []) := HB2.out.step (Ext.box (fun _ => False) _ x2 (.cells #[.int .i64 0, .slice none 0 0, .slice none 0 0] 35)) (fun _ h => h.elim)
                            have HX3 : Hid (Bx w wb j x2.heap.size [.int .i64 0, .slice none 0 0, .slice none 0 0] (Gh.box _ x2.heap.size) (x2.alloc (.cells #[.int .i64 0, .slice none 0 0, .slice none 0 0] 35))) := Bx.new HB2.out
                            have HR13 := Lib.hid (HR1.out.ext (Ext.box (fun _ => False) _ x2 (.cells #[.int .i64 0, .slice none 0 0, .slice none 0 0] 35)))
                            have HR23 := Lib.hid (HR2.out.ext (Ext.box (fun _ => False) _ x2 (.cells #[.int .i64 0, .slice none 0 0, .slice none 0 0] 35)))
                            clear HR1 HR2
                            generalize x2.alloc (.cells #[.int .i64 0, .slice none 0 0, .slice none 0 0] 35) = x3 at *
                            generalize Gh.box _ x2.heap.size = g3 at *
                            generalize x2.heap.size = xb at *
                            have hS3 := HB3.out.k.hb
                            refine ⟨hS3, ?_⟩
                            clear hS3 HB2
                            (unfold wpMix wpRd; (repeat (first | simp only [List.filterMap_cons] | simp only [List.filterMap_nil] | simp only [List.getElem?_toArray] | simp only [List.getElem?_cons_zero] | simp only [List.getElem?_cons_succ])); (try dsimp only); change wpQuiet _ _ _ _ ([]) _; (repeat (go_big_quiet_step (fail))); refine wpQuiet_nil ?_; (try dsimp only))
                            have k0 := HX3.out.blk.cell 0
                            have k1 := HX3.out.blk.cell 1
                            have k2 := HX3.out.blk.cell 2
                            have kz := HX3.out.blk.fz
                            dsimp only [List.getElem?_cons_zero, List.getElem?_cons_succ] at k0 k1 k2
                            go_wp2_with fail
                            obtain ⟨HBE, HXE, hxe⟩ := Bx.put3 HB3.out HX3.out (.int .i64 p) (.slice F1 ((refOf Jr).recs.length - v) f1) (.slice F2 (refOf Jr).pend.length f2)
                            have HBE := Lib.hid HBE
                            have HXE := Lib.hid HXE
                            have HRE1 := Lib.hid (HR13.out.ext hxe)
                            have HRE2 := Lib.hid (HR23.out.ext hxe)
                            clear k0 k1 k2 kz hxe
                            refine ⟨HBE.out.k.hb, ?_⟩
                            (unfold wpMix wpRd; (repeat (first | simp only [List.filterMap_cons] | simp only [List.filterMap_nil] | simp only [List.getElem?_toArray] | simp only [List.getElem?_cons_zero] | simp only [List.getElem?_cons_succ])); (try dsimp only); change wpQuiet _ _ _ _ (_ :: []) _; (repeat (go_big_quiet_step (fail))); refine wpQuiet_nil ?_; (try dsimp only))
                            go_wp2_with fail
                            go_meet
                            case rel => exact ⟨rfl, xb, v, _, m' + 1 + 1, F1, f1, F2, f2, rfl, by omega, by omega, HBE.out, by rw [← HP.out]; exact HXE.out, HRE1.out, HRE2.out⟩
                        · as_aux_lemma =>
                            (unfold wpAct; (repeat (first | simp only [List.getElem?_toArray] | simp only [List.getElem?_cons_zero] | simp only [List.getElem?_cons_succ])); (try dsimp only))
                            go_wp2_with fail
                            have HB2 : Hid (JkB w d wb j (Gh.box _ x1.heap.size) (x1.alloc (.cells #[.int .i64 0, .slice none 0 0, .slice none 0 0] 35)) D' _ Jr B1 e1 B2 e2 L0 0 []) := HB1.out.step (Ext.box (fun _ => False) _ x1 (.cells #[.int .i64 0, .slice none 0 0, .slice none 0 0] 35)) (fun _ h => h.elim)
                            have HX2 : Hid (Bx w wb j x1.heap.size [.int .i64 0, .slice none 0 0, .slice none 0 0] (Gh.box _ x1.heap.size) (x1.alloc (.cells #[.int .i64 0, .slice none 0 0, .slice none 0 0] 35))) := Bx.new HB1.out
                            generalize x1.alloc (.cells #[.int .i64 0, .slice none 0 0, .slice none 0 0] 35) = x2 at *
                            generalize Gh.box _ x1.heap.size = g2 at *
                            generalize x1.heap.size = xb at *
                            have hS2 := HB2.out.k.hb
                            refine ⟨hS2, ?_⟩
                            clear hS2 HB1
                            simp only [List.cons_append, List.nil_append]
                            (unfold wpMix wpRd; (repeat (first | simp only [List.filterMap_cons] | simp only [List.filterMap_nil] | simp only [List.getElem?_toArray] | simp only [List.getElem?_cons_zero] | simp only [List.getElem?_cons_succ])); (try dsimp only); change wpQuiet _ _ _ _ ([]) _; (repeat (go_big_quiet_step (fail))); refine wpQuiet_nil ?_; (try dsimp only))
                            go_wp2_with fail
                            have HRC := Lib.hid (rcut_any _ _ _ (refOf Jr) HB2.out.k.ref p h0 (by omega) (by omega))
                            rw [HCU.out.1, HCU.out.2] at HRC
                            refine HRC.out.mono ?_
                            rintro e x3 ⟨v3, g3, rfl, hx3, F1, f1, F2, f2, rfl, hr1, hr2⟩
                            have HB3 := Lib.hid (HB2.out.step hx3 (fun _ h => h.elim))
                            have hS3 := HB3.out.k.hb
                            have HR1 := Lib.hid hr1
                            have HR2 := Lib.hid hr2
                            clear hr1 hr2 HRC
                            have HX3 := Lib.hid (HX2.out.ext hx3 (fun h => h))
                            clear hx3
                            go_wp2_with fail
                            refine ⟨hS3, ?_⟩
                            clear hS3
                            (unfold wpMix wpRd; (repeat (first | simp only [List.filterMap_cons] | simp only [List.filterMap_nil] | simp only [List.getElem?_toArray] | simp only [List.getElem?_cons_zero] | simp only [List.getElem?_cons_succ])); (try dsimp only); change wpQuiet _ _ _ _ (_ :: _ :: _ :: []) _; (repeat (go_big_quiet_step (fail))); refine wpQuiet_nil ?_; (try dsimp only))
                            have k0 := HX3.out.blk.cell 0
                            have k1 := HX3.out.blk.cell 1
                            have k2 := HX3.out.blk.cell 2
                            have kz := HX3.out.blk.fz
                            dsimp only [List.getElem?_cons_zero, List.getElem?_cons_succ] at k0 k1 k2
                            go_wp2_with fail
                            obtain ⟨HBE, HXE, hxe⟩ := Bx.put3 HB3.out HX3.out (.int .i64 p) (.slice F1 ((refOf Jr).recs.length - v) f1) (.slice F2 (refOf Jr).pend.length f2)
                            have HBE := Lib.hid HBE
                            have HXE := Lib.hid HXE
                            have HRE1 := Lib.hid (HR1.out.ext hxe)
                            have HRE2 := Lib.hid (HR2.out.ext hxe)
                            clear k0 k1 k2 kz hxe
                            refine ⟨HBE.out.k.hb, ?_⟩
                            (unfold wpMix wpRd; (repeat (first | simp only [List.filterMap_cons] | simp only [List.filterMap_nil] | simp only [List.getElem?_toArray] | simp only [List.getElem?_cons_zero] | simp only [List.getElem?_cons_succ])); (try dsimp only); change wpQuiet _ _ _ _ (_ :: []) _; (repeat (go_big_quiet_step (fail))); refine wpQuiet_nil ?_; (try dsimp only))
                            go_wp2_with fail
                            go_meet
                            case rel => exact ⟨rfl, xb, v, _, m' + 1 + 1, F1, f1, F2, f2, rfl, by omega, by omega, HBE.out, by rw [← HP.out]; exact HXE.out, HRE1.out, HRE2.out⟩
                    · as_aux_lemma =>
                        (unfold wpAct; (repeat (first | simp only [List.getElem?_toArray] | simp only [List.getElem?_cons_zero] | simp only [List.getElem?_cons_succ])); (try dsimp only))
                        go_wp2_with fail
                        have HB1 : Hid (JkB w d wb j (Gh.box _ x0.heap.size) (x0.alloc (.cells #[.int .i64 0, .slice none 0 0, .slice none 0 0] 35)) D' _ Jr B1 e1 B2 e2 L0 0 []) := HB0.out.step (Ext.box (fun _ => False) _ x0 (.cells #[.int .i64 0, .slice none 0 0, .slice none 0 0] 35)) (fun _ h => h.elim)
                        have HX1 : Hid (Bx w wb j x0.heap.size [.int .i64 0, .slice none 0 0, .slice none 0 0] (Gh.box _ x0.heap.size) (x0.alloc (.cells #[.int .i64 0, .slice none 0 0, .slice none 0 0] 35))) := Bx.new HB0.out
                        generalize x0.alloc (.cells #[.int .i64 0, .slice none 0 0, .slice none 0 0] 35) = x1 at *
                        generalize Gh.box _ x0.heap.size = g1 at *
                        generalize x0.heap.size = xb at *
                        have hS1 := HB1.out.k.hb
                        refine ⟨hS1, ?_⟩
                        clear hS1 HB0
                        simp only [List.cons_append, List.nil_append]
                        (unfold wpMix wpRd; (repeat (first | simp only [List.filterMap_cons] | simp only [List.filterMap_nil] | simp only [List.getElem?_toArray] | simp only [List.getElem?_cons_zero] | simp only [List.getElem?_cons_succ])); (try dsimp only); change wpQuiet _ _ _ _ ([]) _; (repeat (go_big_quiet_step (fail))); refine wpQuiet_nil ?_; (try dsimp only))
                        go_wp2_with fail
                        have HNX := Lib.hid (HB1.out.next hm ((refOf Jr).recs.length + 1) (by omega) (by omega))
                        have hcast : (((refOf Jr).recs.length + 1 : Nat) : Int) = ((refOf Jr).recs.length : Int) + 1 := by omega
                        rw [hcast] at HNX
                        clear hcast
                        refine HNX.out.mono ?_
                        rintro e x2 ⟨v, rfl, hv, hx2, hb2⟩
                        have HB2 := Lib.hid hb2
                        have hS2 := hb2.k.hb
                        have HX2 := Lib.hid (HX1.out.ext hx2 (fun e => by have := HX1.out.gt; omega))
                        clear hx2 hb2 HNX
                        go_wp2_with fail
                        refine ⟨hS2, ?_⟩
                        clear hS2
                        obtain ⟨p, HP, HCU⟩ : ∃ p : Int, Hid (p = (refOf Jr).start + (v : Int)) ∧ Hid ((refOf Jr).cut p = ⟨p, (refOf Jr).recs.drop v, (refOf Jr).pend⟩ ∧ (refOf Jr).cutI p = 0) := ⟨_, rfl, cut_in _ _ (by omega)⟩
                        have hw1 : IntKind.i64.wrap ((refOf Jr).start + (v : Int)) = p := by rw [HP.out]; exact IntWalk.i64_in _ (by omega)
                        (unfold wpMix wpRd; (repeat (first | simp only [List.filterMap_cons] | simp only [List.filterMap_nil] | simp only [List.getElem?_toArray] | simp only [List.getElem?_cons_zero] | simp only [List.getElem?_cons_succ])); (try dsimp only); change wpQuiet _ _ _ _ (_ :: []) _; (repeat (go_big_quiet_step (fail))); refine wpQuiet_nil ?_; (try dsimp only))
                        clear hw1
                        go_wp2_with fail
                        have HRC := Lib.hid (rcut_any _ _ _ (refOf Jr) HB2.out.k.ref p h0 (by omega) (by omega))
                        rw [HCU.out.1, HCU.out.2] at HRC
                        refine HRC.out.mono ?_
                        rintro e x3 ⟨v3, g3, rfl, hx3, F1, f1, F2, f2, rfl, hr1, hr2⟩
                        have HB3 := Lib.hid (HB2.out.step hx3 (fun _ h => h.elim))
                        have hS3 := HB3.out.k.hb
                        have HR1 := Lib.hid hr1
                        have HR2 := Lib.hid hr2
                        clear hr1 hr2 HRC
                        have HX3 := Lib.hid (HX2.out.ext hx3 (fun h => h))
                        clear hx3
                        go_wp2_with fail
                        refine ⟨hS3, ?_⟩
                        clear hS3
                        (unfold wpMix wpRd; (repeat (first | simp only [List.filterMap_cons] | simp only [List.filterMap_nil] | simp only [List.getElem?_toArray] | simp only [List.getElem?_cons_zero] | simp only [List.getElem?_cons_succ])); (try dsimp only); change wpQuiet _ _ _ _ (_ :: _ :: _ :: []) _; (repeat (go_big_quiet_step (fail))); refine wpQuiet_nil ?_; (try dsimp only))
                        have k0 := HX3.out.blk.cell 0
                        have k1 := HX3.out.blk.cell 1
                        have k2 := HX3.out.blk.cell 2
                        have kz := HX3.out.blk.fz
                        dsimp only [List.getElem?_cons_zero, List.getElem?_cons_succ] at k0 k1 k2
                        go_wp2_with fail
                        obtain ⟨HBE, HXE, hxe⟩ := Bx.put3 HB3.out HX3.out (.int .i64 p) (.slice F1 ((refOf Jr).recs.length - v) f1) (.slice F2 (refOf Jr).pend.length f2)
                        have HBE := Lib.hid HBE
                        have HXE := Lib.hid HXE
                        have HRE1 := Lib.hid (HR1.out.ext hxe)
                        have HRE2 := Lib.hid (HR2.out.ext hxe)
                        clear k0 k1 k2 kz hxe
                        refine ⟨HBE.out.k.hb, ?_⟩
                        (unfold wpMix wpRd; (repeat (first | simp only [List.filterMap_cons] | simp only [List.filterMap_nil] | simp only [List.getElem?_toArray] | simp only [List.getElem?_cons_zero] | simp only [List.getElem?_cons_succ])); (try dsimp only); change wpQuiet _ _ _ _ (_ :: []) _; (repeat (go_big_quiet_step (fail))); refine wpQuiet_nil ?_; (try dsimp only))
                        go_wp2_with fail
                        go_meet
                        case rel => exact ⟨rfl, xb, v, _, m' + 1 + 1, F1, f1, F2, f2, rfl, by omega, by omega, HBE.out, by rw [← HP.out]; exact HXE.out, HRE1.out, HRE2.out⟩
                  case rest =>
                    obtain ⟨rfl, xb, v, gx, mx, F1, f1, F2, f2, rfl, hv, hmx, hjb, hbx, hr1, hr2⟩ := hcut
                    obtain ⟨p, HP⟩ : ∃ p : Int, Hid (p = (refOf Jr).start + (v : Int)) := ⟨_, rfl⟩
                    rw [← HP.out] at hbx
                    have HB := Lib.hid hjb
                    have HX := Lib.hid hbx
                    have HR1 := Lib.hid hr1
                    have HR2 := Lib.hid hr2
                    clear hjb hbx hr1 hr2
                    have HCUT : Hid (Calls Try.prog 13 #[.pointer (some ⟨j, 0, none⟩), .int .i64 p] wc fun e w' => ∃ (ei : Int) (J2 : Jrn) (D2 : Dev), e = .returned (.int .i64 ei) ∧ BothP j d gx wc J2 D2 w' ∧ ((ei = 0 ∧ J2.dead = false ∧ Jst J2 D2 (3 * (K - k) + 3) ∧ refOf J2 = ⟨p, (refOf Jr).recs.drop v, (refOf Jr).pend⟩) ∨ (ei = 303 ∧ J2.dead = true ∧ AftJ D2 (3 * (K - k) + 3) (fun st rs => (st = (refOf Jr).start ∧ rs = (refOf Jr).recs) ∨ (st = p ∧ rs = (refOf Jr).recs.drop v))))) := by
                      have hpe : p = Jr.start + (v : Int) := HP.out
                      have hs0 := HBB.out
                      have hdd := HR16.out.snd.dead
                      have hv' : v ≤ Jr.recs.length := hv
                      by_cases hv0 : v = 0
                      · subst hv0
                        refine (cut_same j d gx wc Jr HB.out.ja p hdd hs0.1 (by omega) (by omega) (by omega)).mono ?_
                        rintro e w' ⟨he, hP⟩
                        refine ⟨0, Jr, D', he, BothP.ofSame HB.out.ja HB.out.k.hD hP, .inl ⟨rfl, hdd, HR16.out, ?_⟩⟩
                        rw [hpe]
                        simp [refOf]
                      · obtain ⟨pn, hpn⟩ : ∃ pn : Nat, p = pn := ⟨p.toNat, by omega⟩
                        subst hpn
                        obtain ⟨q1, q2, q3⟩ := HR16.out.cut (by omega) HF0.out HLEN.out j d pn v (by omega) (by omega) hv'
                        refine (cut_t j d gx wc Jr D' HB.out.ja HB.out.k.hD pn hdd q1 (by omega) (by omega) hs0.1 (by omega) (by omega) hs0.2.2.2.2.2.2.2 (by omega) (fun k3 x y z hk3 => ?_)).mono ?_
                        · obtain rfl : v = k3 := by omega
                          exact q2 x y z
                        · rintro e w' ⟨k3, hk3, he, hP⟩
                          obtain rfl : v = k3 := by omega
                          rcases q3 with ⟨i1, i2⟩ | ⟨i1, i2, i3⟩
                          · rw [i1] at he hP
                            exact ⟨0, _, _, he, hP, .inl ⟨rfl, i2.snd.dead, i2, rfl⟩⟩
                          · rw [i1, i2] at hP
                            rw [i1] at he
                            exact ⟨303, _, _, he, hP, .inr ⟨rfl, rfl, i3⟩⟩
                    have xc0 : wc.cell? ⟨xb, 0, none⟩ = some (.int .i64 p) := HX.out.blk.cell 0
                    go_wp2_with fail
                    refine HCUT.out.mono ?_
                    rintro e w20 ⟨ei, J2, D2, rfl, ⟨g20, hx20, hJ20, hD20⟩, hei⟩
                    have HK20 := Lib.hid (HB.out.k.both hx20 hD20 HJW.out.1 HJW.out.2)
                    have HJ20 := Lib.hid hJ20
                    have HC20 := Lib.hid (HB.out.cd.ext hx20 (by have := HB.out.k.dn; have := HJW.out; omega))
                    have HX20 := Lib.hid (HX.out.ext hx20 (by have := HB.out.k.dn; have := HX.out.gt; have := HX.out.nj; omega))
                    have HY20 := Lib.hid (And.intro (HR1.out.ext hx20) (HR2.out.ext hx20))
                    have HL20 := Lib.hid hD20.len
                    obtain ⟨i1, hi1, hz0, hz1, hz2⟩ := info_parts Try.infoRJ
                    clear hx20 hJ20 hD20 HCUT HB HX HR1 HR2 xc0
                    rcases hei with ⟨rfl, hdd, hjs, hrf⟩ | ⟨rfl, hdd, haf⟩
                    · have HJS := Lib.hid (And.intro hdd (And.intro hjs hrf))
                      clear hdd hjs hrf
                      have xc0 : w20.cell? ⟨xb, 0, none⟩ = some (.int .i64 p) := HX20.out.blk.cell 0
                      have xc1 : w20.cell? ⟨xb, 1, none⟩ = some (.slice F1 ((refOf Jr).recs.length - v) f1) := HX20.out.blk.cell 1
                      have xc2 : w20.cell? ⟨xb, 2, none⟩ = some (.slice F2 (refOf Jr).pend.length f2) := HX20.out.blk.cell 2
                      have HLD : Hid (((refOf Jr).recs.drop v).length = (refOf Jr).recs.length - v) := List.length_drop
                      have hal21 := Ext.lit (fun _ => False) g20 w20 (.cells #[.int .i64 p, .slice F1 ((refOf Jr).recs.length - v) f1, .slice F2 (refOf Jr).pend.length f2] 35) 0
                      have HK21 := Lib.hid (HK20.out.same hal21)
                      have HJ21 := Lib.hid (HJ20.out.ext hal21 (fun h => h))
                      have HC21 := Lib.hid (HC20.out.ext hal21 (fun h => h))
                      have HX21 := Lib.hid (HX20.out.ext hal21 (fun h => h))
                      have HY21 := Lib.hid ((And.intro (HY20.out.1.ext hal21) (HY20.out.2.ext hal21)))
                      have HSRC21 : Hid (Src Try.prog 3 43 (.slice (some ⟨w20.heap.size, 0, none⟩) 1 1) 1 (⟨⟨p, (refOf Jr).recs.drop v, (refOf Jr).pend⟩, F1, f1, F2, f2⟩ : Cd).cells (w20.alloc (.cells #[.int .i64 p, .slice F1 ((refOf Jr).recs.length - v) f1, .slice F2 (refOf Jr).pend.length f2] 35))) := by
                        have h1 := src_rj w20 ⟨⟨p, (refOf Jr).recs.drop v, (refOf Jr).pend⟩, F1, f1, F2, f2⟩
                        simp only [Cd.cells, HLD.out] at h1 ⊢
                        exact h1
                      clear hal21 HK20 HJ20 HC20 HX20 HY20
                      go_wp2_with (at_builtin; refine wpList_append_app rfl _ _ _ _ rfl 35 i1 (.agg #[.int .i64 0, .slice none 0 0, .slice none 0 0]) 3 56 Try.underlying43 hi1 hz0 hz1 hz2 rfl (by decide) rfl HC21.out.app rfl HSRC21.out (by unfold maxLen; simp) (by simp) ?_; intro A21 cap21 x21 g21 hx21 ha21 hl21; have HKz21 := Lib.hid (HK21.out.ext hx21 (fun o e => by omega) (by omega) (by omega) (by have := HK21.out.bw; omega)); have HJz21 := Lib.hid (HJ21.out.ext hx21 (by have := HJW.out; omega)); have HCz21 := Lib.hid (HC21.out.snoc ⟨⟨p, (refOf Jr).recs.drop v, (refOf Jr).pend⟩, F1, f1, F2, f2⟩ HY21.out hx21 ha21); have HXz21 := Lib.hid (HX21.out.ext hx21 (by have := HX21.out.gt; omega)); have HYz21 := Lib.hid (And.intro (HY21.out.1.ext hx21) (HY21.out.2.ext hx21)); clear hx21 ha21 hl21; clear xc0 xc1 xc2)
                      go_meet
                      case rel =>
                        refine ⟨rfl, g21, D2, mx, refOf Jr, B1, e1, B2, e2, J2, 0, A21, cap21, [⟨⟨p, (refOf Jr).recs.drop v, (refOf Jr).pend⟩, F1, f1, F2, f2⟩], rfl, rfl, by omega, by simp, HKz21.out, HJz21.out, HCz21.out, .inr ⟨rfl, HJS.out.1, HJS.out.2.1, _, rfl, HJS.out.2.2.symm⟩, ?_⟩
                        refine (HJS.out.2.1.aft (by omega) HL20.out).imp ?_
                        rintro st rs ⟨rfl, rfl⟩
                        exact ⟨_, List.mem_singleton.2 rfl, (congrArg RefR.start HJS.out.2.2).symm, (congrArg RefR.recs HJS.out.2.2).symm⟩
                    · have HJS := Lib.hid (And.intro hdd haf)
                      clear hdd haf
                      have xc0 : w20.cell? ⟨wb, 0, none⟩ = some (.int .i64 (refOf Jr).start) := HK20.out.hb.cell 0
                      have xc1 : w20.cell? ⟨wb, 1, none⟩ = some (.slice B1 (refOf Jr).recs.length e1) := HK20.out.hb.cell 1
                      have xc2 : w20.cell? ⟨wb, 2, none⟩ = some (.slice B2 (refOf Jr).pend.length e2) := HK20.out.hb.cell 2
                      have HLD : Hid (((refOf Jr).recs.drop v).length = (refOf Jr).recs.length - v) := List.length_drop
                      have hal21 := Ext.lit (fun _ => False) g20 w20 (.cells #[.int .i64 (refOf Jr).start, .slice B1 (refOf Jr).recs.length e1, .slice B2 (refOf Jr).pend.length e2] 35) 0
                      have HK21 := Lib.hid (HK20.out.same hal21)
                      have HJ21 := Lib.hid (HJ20.out.ext hal21 (fun h => h))
                      have HC21 := Lib.hid (HC20.out.ext hal21 (fun h => h))
                      have HX21 := Lib.hid (HX20.out.ext hal21 (fun h => h))
                      have HY21 := Lib.hid ((And.intro (HY20.out.1.ext hal21) (HY20.out.2.ext hal21)))
                      have HSRC21 : Hid (Src Try.prog 3 43 (.slice (some ⟨w20.heap.size, 0, none⟩) 1 1) 1 (⟨refOf Jr, B1, e1, B2, e2⟩ : Cd).cells (w20.alloc (.cells #[.int .i64 (refOf Jr).start, .slice B1 (refOf Jr).recs.length e1, .slice B2 (refOf Jr).pend.length e2] 35))) := by
                        have h1 := src_rj w20 ⟨refOf Jr, B1, e1, B2, e2⟩
                        simp only [Cd.cells] at h1 ⊢
                        exact h1
                      clear hal21 HK20 HJ20 HC20 HX20 HY20
                      go_upto_region 26 with (at_builtin; refine wpList_append_app rfl _ _ _ _ rfl 35 i1 (.agg #[.int .i64 0, .slice none 0 0, .slice none 0 0]) 3 56 Try.underlying43 hi1 hz0 hz1 hz2 rfl (by decide) rfl HC21.out.app rfl HSRC21.out (by unfold maxLen; simp) (by simp) ?_; intro A21 cap21 x21 g21 hx21 ha21 hl21; have HKz21 := Lib.hid (HK21.out.ext hx21 (fun o e => by omega) (by omega) (by omega) (by have := HK21.out.bw; omega)); have HJz21 := Lib.hid (HJ21.out.ext hx21 (by have := HJW.out; omega)); have HCz21 := Lib.hid (HC21.out.snoc ⟨refOf Jr, B1, e1, B2, e2⟩ ⟨HK21.out.r1, HK21.out.r2⟩ hx21 ha21); have HXz21 := Lib.hid (HX21.out.ext hx21 (by have := HX21.out.gt; omega)); have HYz21 := Lib.hid (And.intro (HY21.out.1.ext hx21) (HY21.out.2.ext hx21)); clear hx21 ha21 hl21; clear xc0 xc1 xc2; have xc0 : x21.cell? ⟨xb, 0, none⟩ = some (.int .i64 p) := HXz21.out.blk.cell 0; have xc1 : x21.cell? ⟨xb, 1, none⟩ = some (.slice F1 ((refOf Jr).recs.length - v) f1) := HXz21.out.blk.cell 1; have xc2 : x21.cell? ⟨xb, 2, none⟩ = some (.slice F2 (refOf Jr).pend.length f2) := HXz21.out.blk.cell 2)
                      have hal22 := Ext.lit (fun _ => False) g21 x21 (.cells #[.int .i64 p, .slice F1 ((refOf Jr).recs.length - v) f1, .slice F2 (refOf Jr).pend.length f2] 35) 0
                      have HK22 := Lib.hid (HKz21.out.same hal22)
                      have HJ22 := Lib.hid (HJz21.out.ext hal22 (fun h => h))
                      have HC22 := Lib.hid (HCz21.out.ext hal22 (fun h => h))
                      have HX22 := Lib.hid (HXz21.out.ext hal22 (fun h => h))
                      have HY22 := Lib.hid ((And.intro (HYz21.out.1.ext hal22) (HYz21.out.2.ext hal22)))
                      have HSRC22 : Hid (Src Try.prog 3 43 (.slice (some ⟨x21.heap.size, 0, none⟩) 1 1) 1 (⟨⟨p, (refOf Jr).recs.drop v, (refOf Jr).pend⟩, F1, f1, F2, f2⟩ : Cd).cells (x21.alloc (.cells #[.int .i64 p, .slice F1 ((refOf Jr).recs.length - v) f1, .slice F2 (refOf Jr).pend.length f2] 35))) := by
                        have h1 := src_rj x21 ⟨⟨p, (refOf Jr).recs.drop v, (refOf Jr).pend⟩, F1, f1, F2, f2⟩
                        simp only [Cd.cells, HLD.out] at h1 ⊢
                        exact h1
                      clear hal22 HKz21 HJz21 HCz21 HXz21 HYz21
                      go_wp2_with (at_builtin; refine wpList_append_app rfl _ _ _ _ rfl 35 i1 (.agg #[.int .i64 0, .slice none 0 0, .slice none 0 0]) 3 56 Try.underlying43 hi1 hz0 hz1 hz2 rfl (by decide) rfl HC22.out.app rfl HSRC22.out (by unfold maxLen; simp) (by simp) ?_; intro A22 cap22 x22 g22 hx22 ha22 hl22; have HKz22 := Lib.hid (HK22.out.ext hx22 (fun o e => by omega) (by omega) (by omega) (by have := HK22.out.bw; omega)); have HJz22 := Lib.hid (HJ22.out.ext hx22 (by have := HJW.out; omega)); have HCz22 := Lib.hid (HC22.out.snoc ⟨⟨p, (refOf Jr).recs.drop v, (refOf Jr).pend⟩, F1, f1, F2, f2⟩ HY22.out hx22 ha22); have HXz22 := Lib.hid (HX22.out.ext hx22 (by have := HX22.out.gt; omega)); have HYz22 := Lib.hid (And.intro (HY22.out.1.ext hx22) (HY22.out.2.ext hx22)); clear hx22 ha22 hl22; clear xc0 xc1 xc2)
                      go_meet
                      case rel =>
                        refine ⟨rfl, g22, D2, mx, refOf Jr, B1, e1, B2, e2, J2, 303, A22, cap22, [⟨refOf Jr, B1, e1, B2, e2⟩, ⟨⟨p, (refOf Jr).recs.drop v, (refOf Jr).pend⟩, F1, f1, F2, f2⟩], rfl, rfl, by omega, by simp, HKz22.out, HJz22.out, HCz22.out, .inl ⟨rfl, HJS.out.1⟩, HJS.out.2.imp ?_⟩
                        rintro st rs (⟨rfl, rfl⟩ | ⟨rfl, rfl⟩)
                        · exact ⟨_, List.mem_cons_self .., rfl, rfl⟩
                        · exact ⟨_, List.mem_cons_of_mem _ (List.mem_cons_self ..), rfl, rfl⟩
              · as_aux_lemma =>
                  have HCOM : Hid (Calls Try.prog 14 #[.pointer (some ⟨j, 0, none⟩)] w18 fun e w' => ∃ (ei : Int) (J2 : Jrn) (D2 : Dev), e = .returned (.int .i64 ei) ∧ BothP j d g17 w18 J2 D2 w' ∧ ((ei = 0 ∧ J2.dead = false ∧ Jst J2 D2 (3 * (K - k) + 3) ∧ refOf J2 = ⟨(refOf Jr).start, (refOf Jr).recs ++ (refOf Jr).pend, []⟩) ∨ (ei = 303 ∧ J2.dead = true ∧ AftJ D2 (3 * (K - k) + 3) (fun st rs => st = (refOf Jr).start ∧ ∃ k, k ≤ (refOf Jr).pend.length ∧ rs = (refOf Jr).recs ++ (refOf Jr).pend.take k)))) := by
                    obtain ⟨q1, q2, q3⟩ := HR16.out.com (by omega) HF0.out HLEN.out j d
                    refine (commit_any j d g17 w18 Jr D' HJ18.out HK18.out.hD q1 q2).mono ?_
                    rintro e w' ⟨he, hP⟩
                    rcases q3 with ⟨i1, i2, i3⟩ | ⟨i1, i2, i3⟩
                    · rw [i1] at he
                      rw [i2] at hP
                      exact ⟨0, _, _, he, hP, .inl ⟨rfl, i3.snd.dead, i3, rfl⟩⟩
                    · rw [i1] at he
                      rw [i2] at hP
                      exact ⟨303, _, _, he, hP, .inr ⟨rfl, rfl, i3⟩⟩
                  have f0 : ((v18 : Int) == 0) = false := by simp; omega
                  go_wp2_with fail
                  refine HCOM.out.mono ?_
                  rintro e w20 ⟨ei, J2, D2, rfl, ⟨g20, hx20, hJ20, hD20⟩, hei⟩
                  have HK20 := Lib.hid (HK18.out.both hx20 hD20 HJW.out.1 HJW.out.2)
                  have HJ20 := Lib.hid hJ20
                  have HC20 := Lib.hid (HC18.out.ext hx20 (by have := HK18.out.dn; have := HJW.out; omega))
                  have HL20 := Lib.hid hD20.len
                  have hpl : (refOf Jr).pend.length ≤ 1000 := HBB.out.2.2.2.2.2.1
                  obtain ⟨i1, hi1, hz0, hz1, hz2⟩ := info_parts Try.infoRJ
                  clear hx20 hJ20 hD20 HCOM HK18 HJ18 HC18 f0 HLEN HF0
                  rcases hei with ⟨rfl, hdd, hjs, hrf⟩ | ⟨rfl, hdd, haf⟩
                  · have HJS := Lib.hid (And.intro hdd (And.intro hjs hrf))
                    clear hdd hjs hrf
                    have xc2 : w20.cell? ⟨wb, 2, none⟩ = some (.slice B2 (refOf Jr).pend.length e2) := HK20.out.hb.cell 2
                    go_wp2_with fail
                    go_loopw [11, 15] (fun l i wr => l = .slice L0 0 0 ∧ i = .int .i64 0 ∧ wr = w20) (fun _ _ _ => 0)
                    case atStart => exact ⟨rfl, rfl, rfl⟩
                    case round =>
                      obtain ⟨rfl, rfl, rfl⟩ := hrel
                      have HVB : Hid (0 ≤ 1000) := Nat.zero_le _
                      have HKR := HK20
                      have HJR := HJ20
                      have HCR := HC20
                      clear HK20 HJ20 HC20
                      by_cases hp0 : 0 < (refOf Jr).pend.length
                      all_goals (
                      clear xc2
                      have xc0 : wr.cell? ⟨wb, 0, none⟩ = some (.int .i64 (refOf Jr).start) := HKR.out.hb.cell 0
                      have xc1 : wr.cell? ⟨wb, 1, none⟩ = some (.slice B1 (refOf Jr).recs.length e1) := HKR.out.hb.cell 1
                      have xc2 : wr.cell? ⟨wb, 2, none⟩ = some (.slice B2 (refOf Jr).pend.length e2) := HKR.out.hb.cell 2
                      have HRCM := Lib.hid (rcommit_any g20 wr _ (refOf Jr) HKR.out.ref (by have := HBB.out.2.2.2.2.1; show Jr.recs.length ≤ _; omega) (by have := HBB.out.2.2.2.2.2.1; show Jr.pend.length ≤ _; omega) (refOf Jr).pend.length (by omega))
                      go_wp2_with fail
                      refine HRCM.out.mono ?_
                      rintro e x22 ⟨v22, g22, rfl, hx22, F1, f1, F2, f2, rfl, h1, h2⟩
                      clear xc0 xc1 xc2 HRCM
                      have HK22 := Lib.hid (HKR.out.same hx22)
                      have HJ22 := Lib.hid (HJR.out.ext hx22 (fun h => h))
                      have HC22 := Lib.hid (HCR.out.ext hx22 (fun h => h))
                      have HY22 := Lib.hid (And.intro h1 h2)
                      clear hx22 h1 h2 HKR HJR HCR
                      dsimp only [List.length_nil]
                      obtain ⟨n22, hn22⟩ : ∃ n, ((refOf Jr).recs ++ (refOf Jr).pend.take (refOf Jr).pend.length).length = n := ⟨_, rfl⟩
                      rw [hn22]
                      have HLD := Lib.hid hn22
                      clear hn22
                      have hal23 := Ext.lit (fun _ => False) g22 x22 (.cells #[.int .i64 (refOf Jr).start, .slice F1 n22 f1, .slice F2 0 f2] 35) 0
                      have HK23 := Lib.hid (HK22.out.same hal23)
                      have HJ23 := Lib.hid (HJ22.out.ext hal23 (fun h => h))
                      have HC23 := Lib.hid (HC22.out.ext hal23 (fun h => h))
                      have HY23 := Lib.hid ((And.intro (HY22.out.1.ext hal23) (HY22.out.2.ext hal23)))
                      have HSRC23 : Hid (Src Try.prog 3 43 (.slice (some ⟨x22.heap.size, 0, none⟩) 1 1) 1 (⟨⟨(refOf Jr).start, (refOf Jr).recs ++ (refOf Jr).pend.take (refOf Jr).pend.length, []⟩, F1, f1, F2, f2⟩ : Cd).cells (x22.alloc (.cells #[.int .i64 (refOf Jr).start, .slice F1 n22 f1, .slice F2 0 f2] 35))) := by
                        have h1 := src_rj x22 ⟨⟨(refOf Jr).start, (refOf Jr).recs ++ (refOf Jr).pend.take (refOf Jr).pend.length, []⟩, F1, f1, F2, f2⟩
                        simp only [Cd.cells, HLD.out, List.length_nil] at h1 ⊢
                        exact h1
                      clear hal23 HK22 HJ22 HC22 HY22
                      go_wp2_with (at_builtin; refine wpList_append_app rfl _ _ _ _ rfl 35 i1 (.agg #[.int .i64 0, .slice none 0 0, .slice none 0 0]) 3 56 Try.underlying43 hi1 hz0 hz1 hz2 rfl (by decide) rfl HC23.out.app rfl HSRC23.out (by unfold maxLen; have := HVB.out; omega) (by have := HVB.out; omega) ?_; intro A23 cap23 x23 g23 hx23 ha23 hl23; have HKz23 := Lib.hid (HK23.out.ext hx23 (fun o e => by omega) (by omega) (by omega) (by have := HK23.out.bw; omega)); have HJz23 := Lib.hid (HJ23.out.ext hx23 (by have := HJW.out; omega)); have HCz23 := Lib.hid (HC23.out.snoc ⟨⟨(refOf Jr).start, (refOf Jr).recs ++ (refOf Jr).pend.take (refOf Jr).pend.length, []⟩, F1, f1, F2, f2⟩ HY23.out hx23 ha23); clear hx23 ha23 hl23)
                      go_meet
                      case rel =>
                        refine ⟨rfl, g23, D2, _, refOf Jr, B1, e1, B2, e2, J2, 0, A23, cap23, [⟨⟨(refOf Jr).start, (refOf Jr).recs ++ (refOf Jr).pend.take (refOf Jr).pend.length, []⟩, F1, f1, F2, f2⟩], rfl, rfl, by omega, by simp, HKz23.out, HJz23.out, HCz23.out, .inr ⟨rfl, HJS.out.1, HJS.out.2.1, _, rfl, ?_⟩, ?_⟩
                        · rw [HJS.out.2.2, List.take_length]
                        · refine (HJS.out.2.1.aft (by omega) HL20.out).imp ?_
                          rintro st rs ⟨rfl, rfl⟩
                          refine ⟨_, List.mem_singleton.2 rfl, (congrArg RefR.start HJS.out.2.2).symm, ?_⟩
                          have := congrArg RefR.recs HJS.out.2.2
                          show (refOf Jr).recs ++ (refOf Jr).pend.take (refOf Jr).pend.length = J2.recs
                          rw [List.take_length]; exact this.symm)
                  · have HJS := Lib.hid (And.intro hdd haf)
                    clear hdd haf
                    go_wp2_with fail
                    go_loopw [11, 15] (fun l i wr => ∃ (k9 : Nat) (gr : Gh) (A9 : Option Addr) (c9 : Nat) (V : List Cd), l = .slice A9 k9 c9 ∧ i = .int .i64 k9 ∧ k9 ≤ (refOf Jr).pend.length ∧ Hid (V.length = k9) ∧ JkK w d wb gr wr D2 (m' + 1) (refOf Jr) B1 e1 B2 e2 ∧ JAt gr wr j d J2 ∧ Cds (w.heap.size + 1) gr wr A9 c9 V ∧ (∀ q, q < k9 → ∃ e ∈ V, e.R.start = (refOf Jr).start ∧ e.R.recs = (refOf Jr).recs ++ (refOf Jr).pend.take q)) (fun _ i _ => (refOf Jr).pend.length - (intOf i).toNat)
                    case atStart => exact ⟨0, g20, L0, 0, [], rfl, rfl, Nat.zero_le _, rfl, HK20.out, HJ20.out, HC20.out, fun q hq => absurd hq (Nat.not_lt_zero _)⟩
                    case round =>
                      obtain ⟨k9, gr, A9, c9, V, rfl, rfl, hk9, hvl, hkr, hjr, hcr, hall⟩ := hrel
                      obtain rfl : V.length = k9 := hvl.out
                      have HKR := Lib.hid hkr
                      have HJR := Lib.hid hjr
                      have HCR := Lib.hid hcr
                      have HALL := Lib.hid hall
                      have HVB : Hid (V.length ≤ 1000) := Nat.le_trans hk9 hpl
                      have xc2 : wr.cell? ⟨wb, 2, none⟩ = some (.slice B2 (refOf Jr).pend.length e2) := HKR.out.hb.cell 2
                      clear hkr hjr hcr hall hvl HK20 HJ20 HC20
                      by_cases h9 : V.length < (refOf Jr).pend.length
                      · as_aux_lemma =>
                          have h9' : ((V.length : Int) < ((refOf Jr).pend.length : Int)) := by omega
                          clear xc2
                          have xc0 : wr.cell? ⟨wb, 0, none⟩ = some (.int .i64 (refOf Jr).start) := HKR.out.hb.cell 0
                          have xc1 : wr.cell? ⟨wb, 1, none⟩ = some (.slice B1 (refOf Jr).recs.length e1) := HKR.out.hb.cell 1
                          have xc2 : wr.cell? ⟨wb, 2, none⟩ = some (.slice B2 (refOf Jr).pend.length e2) := HKR.out.hb.cell 2
                          have HRCM := Lib.hid (rcommit_any gr wr _ (refOf Jr) HKR.out.ref (by have := HBB.out.2.2.2.2.1; show Jr.recs.length ≤ _; omega) (by have := HBB.out.2.2.2.2.2.1; show Jr.pend.length ≤ _; omega) V.length (by omega))
                          go_wp2_with fail
                          refine HRCM.out.mono ?_
                          rintro e x22 ⟨v22, g22, rfl, hx22, F1, f1, F2, f2, rfl, h1, h2⟩
                          clear xc0 xc1 xc2 HRCM
                          have HK22 := Lib.hid (HKR.out.same hx22)
                          have HJ22 := Lib.hid (HJR.out.ext hx22 (fun h => h))
                          have HC22 := Lib.hid (HCR.out.ext hx22 (fun h => h))
                          have HY22 := Lib.hid (And.intro h1 h2)
                          clear hx22 h1 h2 HKR HJR HCR
                          dsimp only [List.length_nil]
                          obtain ⟨n22, hn22⟩ : ∃ n, ((refOf Jr).recs ++ (refOf Jr).pend.take V.length).length = n := ⟨_, rfl⟩
                          rw [hn22]
                          have HLD := Lib.hid hn22
                          clear hn22
                          have hal23 := Ext.lit (fun _ => False) g22 x22 (.cells #[.int .i64 (refOf Jr).start, .slice F1 n22 f1, .slice F2 0 f2] 35) 0
                          have HK23 := Lib.hid (HK22.out.same hal23)
                          have HJ23 := Lib.hid (HJ22.out.ext hal23 (fun h => h))
                          have HC23 := Lib.hid (HC22.out.ext hal23 (fun h => h))
                          have HY23 := Lib.hid ((And.intro (HY22.out.1.ext hal23) (HY22.out.2.ext hal23)))
                          have HSRC23 : Hid (Src Try.prog 3 43 (.slice (some ⟨x22.heap.size, 0, none⟩) 1 1) 1 (⟨⟨(refOf Jr).start, (refOf Jr).recs ++ (refOf Jr).pend.take V.length, []⟩, F1, f1, F2, f2⟩ : Cd).cells (x22.alloc (.cells #[.int .i64 (refOf Jr).start, .slice F1 n22 f1, .slice F2 0 f2] 35))) := by
                            have h1 := src_rj x22 ⟨⟨(refOf Jr).start, (refOf Jr).recs ++ (refOf Jr).pend.take V.length, []⟩, F1, f1, F2, f2⟩
                            simp only [Cd.cells, HLD.out, List.length_nil] at h1 ⊢
                            exact h1
                          clear hal23 HK22 HJ22 HC22 HY22
                          go_wp2_with (at_builtin; refine wpList_append_app rfl _ _ _ _ rfl 35 i1 (.agg #[.int .i64 0, .slice none 0 0, .slice none 0 0]) 3 56 Try.underlying43 hi1 hz0 hz1 hz2 rfl (by decide) rfl HC23.out.app rfl HSRC23.out (by unfold maxLen; have := HVB.out; omega) (by have := HVB.out; omega) ?_; intro A23 cap23 x23 g23 hx23 ha23 hl23; have HKz23 := Lib.hid (HK23.out.ext hx23 (fun o e => by omega) (by omega) (by omega) (by have := HK23.out.bw; omega)); have HJz23 := Lib.hid (HJ23.out.ext hx23 (by have := HJW.out; omega)); have HCz23 := Lib.hid (HC23.out.snoc ⟨⟨(refOf Jr).start, (refOf Jr).recs ++ (refOf Jr).pend.take V.length, []⟩, F1, f1, F2, f2⟩ HY23.out hx23 ha23); clear hx23 ha23 hl23)
                          go_round
                          case rel =>
                            refine ⟨V.length + 1, g23, A23, cap23, V ++ [⟨⟨(refOf Jr).start, (refOf Jr).recs ++ (refOf Jr).pend.take V.length, []⟩, F1, f1, F2, f2⟩], by simp, by go_num, by omega, by show _ = _; simp, HKz23.out, HJz23.out, HCz23.out, fun q hq => ?_⟩
                            by_cases hqk : q = V.length
                            · subst hqk
                              exact ⟨_, List.mem_append_right _ (List.mem_singleton.2 rfl), rfl, rfl⟩
                            · obtain ⟨e, he, h1, h2⟩ := HALL.out q (by omega)
                              exact ⟨e, List.mem_append_left _ he, h1, h2⟩
                          case measure => simp [intOf]; omega
                      · as_aux_lemma =>
                          have H9E : Hid ((refOf Jr).pend.length = V.length) := by
                            show _ = _
                            omega
                          clear xc2
                          have xc0 : wr.cell? ⟨wb, 0, none⟩ = some (.int .i64 (refOf Jr).start) := HKR.out.hb.cell 0
                          have xc1 : wr.cell? ⟨wb, 1, none⟩ = some (.slice B1 (refOf Jr).recs.length e1) := HKR.out.hb.cell 1
                          have xc2 : wr.cell? ⟨wb, 2, none⟩ = some (.slice B2 (refOf Jr).pend.length e2) := HKR.out.hb.cell 2
                          have HRCM := Lib.hid (rcommit_any gr wr _ (refOf Jr) HKR.out.ref (by have := HBB.out.2.2.2.2.1; show Jr.recs.length ≤ _; omega) (by have := HBB.out.2.2.2.2.2.1; show Jr.pend.length ≤ _; omega) (refOf Jr).pend.length (by omega))
                          go_wp2_with fail
                          refine HRCM.out.mono ?_
                          rintro e x22 ⟨v22, g22, rfl, hx22, F1, f1, F2, f2, rfl, h1, h2⟩
                          clear xc0 xc1 xc2 HRCM
                          have HK22 := Lib.hid (HKR.out.same hx22)
                          have HJ22 := Lib.hid (HJR.out.ext hx22 (fun h => h))
                          have HC22 := Lib.hid (HCR.out.ext hx22 (fun h => h))
                          have HY22 := Lib.hid (And.intro h1 h2)
                          clear hx22 h1 h2 HKR HJR HCR
                          dsimp only [List.length_nil]
                          obtain ⟨n22, hn22⟩ : ∃ n, ((refOf Jr).recs ++ (refOf Jr).pend.take (refOf Jr).pend.length).length = n := ⟨_, rfl⟩
                          rw [hn22]
                          have HLD := Lib.hid hn22
                          clear hn22
                          have hal23 := Ext.lit (fun _ => False) g22 x22 (.cells #[.int .i64 (refOf Jr).start, .slice F1 n22 f1, .slice F2 0 f2] 35) 0
                          have HK23 := Lib.hid (HK22.out.same hal23)
                          have HJ23 := Lib.hid (HJ22.out.ext hal23 (fun h => h))
                          have HC23 := Lib.hid (HC22.out.ext hal23 (fun h => h))
                          have HY23 := Lib.hid ((And.intro (HY22.out.1.ext hal23) (HY22.out.2.ext hal23)))
                          have HSRC23 : Hid (Src Try.prog 3 43 (.slice (some ⟨x22.heap.size, 0, none⟩) 1 1) 1 (⟨⟨(refOf Jr).start, (refOf Jr).recs ++ (refOf Jr).pend.take (refOf Jr).pend.length, []⟩, F1, f1, F2, f2⟩ : Cd).cells (x22.alloc (.cells #[.int .i64 (refOf Jr).start, .slice F1 n22 f1, .slice F2 0 f2] 35))) := by
                            have h1 := src_rj x22 ⟨⟨(refOf Jr).start, (refOf Jr).recs ++ (refOf Jr).pend.take (refOf Jr).pend.length, []⟩, F1, f1, F2, f2⟩
                            simp only [Cd.cells, HLD.out, List.length_nil] at h1 ⊢
                            exact h1
                          clear hal23 HK22 HJ22 HC22 HY22
                          go_wp2_with (at_builtin; refine wpList_append_app rfl _ _ _ _ rfl 35 i1 (.agg #[.int .i64 0, .slice none 0 0, .slice none 0 0]) 3 56 Try.underlying43 hi1 hz0 hz1 hz2 rfl (by decide) rfl HC23.out.app rfl HSRC23.out (by unfold maxLen; have := HVB.out; omega) (by have := HVB.out; omega) ?_; intro A23 cap23 x23 g23 hx23 ha23 hl23; have HKz23 := Lib.hid (HK23.out.ext hx23 (fun o e => by omega) (by omega) (by omega) (by have := HK23.out.bw; omega)); have HJz23 := Lib.hid (HJ23.out.ext hx23 (by have := HJW.out; omega)); have HCz23 := Lib.hid (HC23.out.snoc ⟨⟨(refOf Jr).start, (refOf Jr).recs ++ (refOf Jr).pend.take (refOf Jr).pend.length, []⟩, F1, f1, F2, f2⟩ HY23.out hx23 ha23); clear hx23 ha23 hl23)
                          go_meet
                          case rel =>
                            refine ⟨rfl, g23, D2, _, refOf Jr, B1, e1, B2, e2, J2, 303, A23, cap23, V ++ [⟨⟨(refOf Jr).start, (refOf Jr).recs ++ (refOf Jr).pend.take (refOf Jr).pend.length, []⟩, F1, f1, F2, f2⟩], rfl, by simp, by omega, by simp; have := HVB.out; omega, HKz23.out, HJz23.out, HCz23.out, .inl ⟨rfl, HJS.out.1⟩, HJS.out.2.imp ?_⟩
                            rintro st rs ⟨rfl, q, hq, rfl⟩
                            by_cases hqk : q < (refOf Jr).pend.length
                            · obtain ⟨e, he, h1, h2⟩ := HALL.out q (by have := H9E.out; omega)
                              exact ⟨e, List.mem_append_left _ he, h1, h2⟩
                            · obtain rfl : q = (refOf Jr).pend.length := by omega
                              exact ⟨_, List.mem_append_right _ (List.mem_singleton.2 rfl), rfl, rfl⟩
            case rest =>
              obtain ⟨w23, rfl⟩ : ∃ wo : World, wo = wc := ⟨_, rfl⟩
              obtain ⟨rfl, g2, D2, m2, R2, B3, e3, B4, e4, J2, ei, A2l, cap2, V, rfl, rfl, hm2, hV, hk2, hj2, hc2, hei, haf⟩ := hcut
              have HK23 := Lib.hid hk2
              have HJ23 := Lib.hid hj2
              have HC23 := Lib.hid hc2
              have HEI := Lib.hid hei
              have HAF := Lib.hid haf
              clear hk2 hj2 hc2 hei haf HK18 HJ18 HC18 HR16
              go_upto_region 33 with fail
              go_cut [8, 143] from 42 to 210 (fun kk vb wx => kk = .int .i64 k ∧ vb = .bool false ∧ wx = w23)
              case first =>
                rcases HEI.out with ⟨rfl, hdd⟩ | ⟨rfl, hdd, _, _⟩
                all_goals (
                have HDD := Lib.hid hdd
                clear hdd HEI
                go_wp2_with fail
                refine (jdead_any j d g2 w23 J2 HJ23.out).mono ?_
                rintro e w' ⟨rfl, rfl⟩
                rw [HDD.out]
                go_wp2_with fail
                go_meet
                case rel => exact ⟨rfl, rfl, rfl⟩)
              case rest =>
                obtain ⟨rfl, rfl, rfl⟩ := hcut
                have hF := fuse_any d g2 wc D2 HK23.out.hD 0 (by omega) (by omega)
                go_wp2_with fail
                refine hF.mono ?_
                rintro e w24 ⟨rfl, g24, hx24, hD24⟩
                have HK24 := Lib.hid (HK23.out.dev hx24 hD24)
                have HJ24 := Lib.hid (HJ23.out.ext hx24 (by have := HK23.out.dn; have := HJW.out; omega))
                have HC24 := Lib.hid (HC23.out.ext hx24 (by have := HK23.out.dn; omega))
                have HAF2 := Lib.hid (HAF.out.fuse 0)
                have HEI2 : Hid (ei = 303 ∨ (ei = 0 ∧ Jst J2 { D2 with fuse := 0 } (3 * (K - k) + 3) ∧ ∃ e, V = [e] ∧ e.R = refOf J2)) := by
                  rcases HEI.out with ⟨h1, _⟩ | ⟨h1, _, h3, h4⟩
                  · exact .inl h1
                  · exact .inr ⟨h1, h3.fuse 0, h4⟩
                clear hx24 hD24 hF HK23 HJ23 HC23 HAF HEI
                generalize ({ D2 with fuse := 0 } : Dev) = D3 at *
                go_upto_region 36 with fail
                go_cut [8, 152] from 42 to 210 (fun kk vb wx => kk = .int .i64 k ∧ ∃ (b : Bool) (m3 : Nat), vb = .bool b ∧ m3 ≤ 42 + 80 * (K - k) ∧ JkK w d wb g24 wx D3 m3 R2 B3 e3 B4 e4 ∧ JAt g24 wx j d J2 ∧ Cds (w.heap.size + 1) g24 wx A2l cap2 V ∧ (b = true → Jst J2 D3 (3 * (K - k) + 3) ∧ ∃ e, V = [e] ∧ e.R = refOf J2))
                case first =>
                  rcases HEI2.out with rfl | ⟨rfl, hjs, hve⟩
                  · go_wp2_with fail
                    go_meet
                    case rel => exact ⟨rfl, false, m2, rfl, by omega, HK24.out, HJ24.out, HC24.out, fun h => by cases h⟩
                  · have HVE := Lib.hid (And.intro hjs hve)
                    clear hjs hve HEI2
                    go_wp2_with fail
                    refine (jnext HK24.out (by omega) 2 (by omega) (by omega)).mono ?_
                    rintro e w25 ⟨v25, rfl, hv25, hx25, hk25⟩
                    have HK25 := Lib.hid hk25
                    have HJ25 := Lib.hid (HJ24.out.ext hx25 (by have := HJW.out; omega))
                    have HC25 := Lib.hid (HC24.out.ext hx25 (by omega))
                    clear hx25 hk25 HK24 HJ24 HC24
                    go_wp2_with fail
                    go_meet
                    case rel => exact ⟨rfl, _, _, rfl, by omega, HK25.out, HJ25.out, HC25.out, fun _ => HVE.out⟩
                case rest =>
                  obtain ⟨w25, rfl⟩ : ∃ wo : World, wo = wc := ⟨_, rfl⟩
                  obtain ⟨rfl, b, m3, rfl, hm3, hk25, hj25, hc25, hb25⟩ := hcut
                  have HK25 := Lib.hid hk25
                  have HJ25 := Lib.hid hj25
                  have HC25 := Lib.hid hc25
                  have HB25 := Lib.hid hb25
                  clear hk25 hj25 hc25 hb25 HK24 HJ24 HC24 HEI2
                  cases b
                  · as_aux_lemma =>
                      clear HB25 HJ25
                      go_wp2_with fail
                      refine (jnext HK25.out (by omega) 6 (by omega) (by omega)).mono ?_
                      rintro e w26 ⟨v26, rfl, hv26, hx26, hk26⟩
                      have HK26 := Lib.hid hk26
                      have HC26 := Lib.hid (HC25.out.ext hx26 (by omega))
                      clear hx26 hk26 HK25 HC25
                      go_wp2_with fail
                      refine (jnext HK26.out (by omega) 40 (by omega) (by omega)).mono ?_
                      rintro e w27 ⟨v27, rfl, hv27, hx27, hk27⟩
                      have HK27 := Lib.hid hk27
                      have HC27 := Lib.hid (HC26.out.ext hx27 (by omega))
                      clear hx27 hk27 HK26 HC26
                      go_wp2_with fail
                      refine (lose_any d g24 w27 D3 HK27.out.hD HAF2.out.1 ((v26 : Int) - 1) ((v27 : Int) - 1) (by omega) (by omega)).mono ?_
                      rintro e w28 ⟨rfl, g28, hx28, hD28⟩
                      have HK28 := Lib.hid (HK27.out.dev hx28 hD28)
                      have HC28 := Lib.hid (HC27.out.ext hx28 (by have := HK27.out.dn; omega))
                      obtain ⟨hdn, hpl, hfu, hcr⟩ := HAF2.out.2 ((v26 : Int) - 1) ((v27 : Int) - 1)
                      have HCRS := Lib.hid hcr
                      clear hx28 hD28 hcr HK27 HC27 HAF2
                      generalize lossD (downD D3) ((v26 : Int) - 1) ((v27 : Int) - 1) = E at *
                      have HDN := Lib.hid (And.intro hdn (And.intro hpl hfu))
                      clear hdn hpl hfu
                      go_wp2_with fail
                      refine (restart_any d g28 w28 E HK28.out.hD HDN.out.1 HDN.out.2.1).mono ?_
                      rintro e w29 ⟨rfl, g29, hx29, hD29⟩
                      have HK29 := Lib.hid (HK28.out.dev hx29 hD29)
                      have HC29 := Lib.hid (HC28.out.ext hx29 (by have := HK28.out.dn; omega))
                      obtain ⟨J3, hJs3, hpn3, hP3, hop3⟩ := HCRS.out
                      have HFU : Hid (({ E with down := false } : Dev).fuse = 0) := HDN.out.2.2
                      have HOP := Lib.hid (hop3 d)
                      have HR3 := Lib.hid hJs3
                      have HPN := Lib.hid hpn3
                      have HP3 := Lib.hid hP3
                      clear hx29 hD29 hop3 hJs3 hpn3 hP3 HK28 HC28 HCRS HDN
                      generalize ({ E with down := false } : Dev) = E2 at *
                      have HOPD := Lib.hid (opened_any w d wb g29 w29 E2 _ _ _ _ _ _ HK29.out (by omega) HFU.out J3 HOP.out)
                      clear HOP
                      go_wp2_with fail
                      refine HOPD.out.mono ?_
                      rintro e w30 ⟨j30, g30, rfl, hj30, hk30, hJ30, hx30⟩
                      have HK30 := Lib.hid hk30
                      have HJ30 := Lib.hid hJ30
                      have HC30 := Lib.hid (HC29.out.ext hx30 (by have := HK29.out.dn; have := HK29.out.size; have := HK29.out.bw; omega))
                      have HJW3 : Hid (w.heap.size + 3 < j30 ∧ j30 ≠ wb) := by
                        have h1 := HK29.out.size
                        have h2 := HK29.out.bw
                        exact ⟨by omega, by omega⟩
                      clear hk30 hJ30 hx30 HK29 HC29 HOPD hj30
                      have hs3 := HR3.out.snd
                      have q1 := hs3.st0
                      have q2 := hs3.st1
                      clear hs3
                      have HLK := Lib.hid (look_any j30 d g30 w30 J3 HJ30.out q1 (by omega) (by omega) (fun r hr => Nat.le_trans (HR3.out.sm r (List.mem_append_left _ hr)) (by decide)))
                      go_wp2_with fail
                      refine HLK.out.mono ?_
                      rintro e w31 ⟨v31, g31, rfl, hx31, F1, f1, F2, f2, rfl, h1, h2⟩
                      have HK31 := Lib.hid (HK30.out.same hx31)
                      have HJ31 := Lib.hid (HJ30.out.ext hx31 (fun h => h))
                      have HC31 := Lib.hid (HC30.out.ext hx31 (fun h => h))
                      have HRR := Lib.hid (And.intro h1 h2)
                      clear hx31 h1 h2 HLK HK30 HJ30 HC30
                      dsimp only [List.length_nil]
                      go_wp2_with fail
                      have hxb := Ext.box (fun _ => False) g31 w31 (.cells #[.int .i64 J3.start, .slice F1 J3.recs.length f1, .slice F2 0 f2] 35)
                      have HK32 := Lib.hid (HK31.out.same hxb)
                      have HJ32 := Lib.hid (HJ31.out.ext hxb (fun h => h))
                      have HC32 := Lib.hid (HC31.out.ext hxb (fun h => h))
                      have HRR2 := Lib.hid (And.intro (HRR.out.1.ext hxb) (HRR.out.2.ext hxb))
                      have HX32 : Hid (Blk w31.heap.size 35 [.int .i64 J3.start, .slice F1 J3.recs.length f1, .slice F2 0 f2] (w31.alloc (.cells #[.int .i64 J3.start, .slice F1 J3.recs.length f1, .slice F2 0 f2] 35))) := Blk.new w31 35 [.int .i64 J3.start, .slice F1 J3.recs.length f1, .slice F2 0 f2]
                      have hwbx : wb < w31.heap.size := HK31.out.size
                      clear hxb HK31 HJ31 HC31 HRR
                      generalize w31.alloc (.cells #[.int .i64 J3.start, .slice F1 J3.recs.length f1, .slice F2 0 f2] 35) = w32 at *
                      generalize g31.box w31.heap.size = g32 at *
                      generalize w31.heap.size = xb at *
                      go_loopw [19, 20] (fun f i wr => ∃ (q : Nat) (fb : Bool), i = .int .i64 q ∧ q ≤ V.length ∧ f = .bool fb ∧ Hid (fb = (V.take q).any (fun e => sameB ⟨J3.start, J3.recs, []⟩ e.R)) ∧ SameP g32 w32 wr) (fun _ i _ => V.length - (intOf i).toNat)
                      case atStart => exact ⟨0, false, rfl, Nat.zero_le _, rfl, rfl, g32, Ext.refl _ _ _⟩
                      case round =>
                        obtain ⟨q, fb, rfl, hq, rfl, hfb, hsp⟩ := hrel
                        by_cases hqv : q < V.length
                        · have hqv' : (q : Int) < (V.length : Int) := by omega
                          have HAT : Hid ((V.take (q + 1)).any (fun e => sameB ⟨J3.start, J3.recs, []⟩ e.R) = ((V.take q).any (fun e => sameB ⟨J3.start, J3.recs, []⟩ e.R) || sameB ⟨J3.start, J3.recs, []⟩ V[q].R)) := by
                            show _ = _
                            rw [List.take_succ_eq_append_getElem hqv, List.any_append]
                            simp only [List.any_cons, List.any_nil, Bool.or_false]
                          have HVQ : Hid (V[q]? = some V[q] ∧ V[q] ∈ V) := ⟨List.getElem?_eq_getElem hqv, List.getElem_mem hqv⟩
                          obtain ⟨g33, hx33⟩ := hsp
                          have hS : SameP g32 w32 wr.drew := ⟨g33, hx33.drew⟩
                          obtain ⟨b2, off2, hA2, _, _, hcc⟩ := HC32.out.app.rd.at_ (by omega)
                          subst hA2
                          have HCC := Lib.hid hcc
                          clear hcc hx33
                          generalize hve : V[q] = ve at *
                          clear hve
                          cases fb
                          · have hSM : ∀ y : Held (SameP g32 w32), Calls Try.prog 22 #[.agg #[.int .i64 J3.start, .slice F1 J3.recs.length f1, .slice F2 0 f2], .agg #[.int .i64 ve.R.start, .slice ve.A1 ve.R.recs.length ve.c1, .slice ve.A2 ve.R.pend.length ve.c2]] y.w fun e w'' => e = .returned (.bool (sameB ⟨J3.start, J3.recs, []⟩ ve.R)) ∧ ∃ z : Held (SameP g32 w32), w'' = z.w := by
                              intro y
                              obtain ⟨yw, gy, hn⟩ := y
                              have hce := HC32.out.all ve HVQ.out.2
                              refine (same_any gy yw _ _ ⟨J3.start, J3.recs, []⟩ ve.R ⟨F1, f1, F2, f2, rfl, HRR2.out.1.ext hn, HRR2.out.2.ext hn⟩ ⟨ve.A1, ve.c1, ve.A2, ve.c2, rfl, hce.1.ext hn, hce.2.ext hn⟩ (by show J3.recs.length ≤ _; omega)).mono ?_
                              rintro e w4 ⟨rfl, g4, hx4⟩
                              exact ⟨rfl, ⟨w4, g4, hn.trans hx4⟩, rfl⟩
                            have HSM := Lib.hid hSM
                            clear hSM
                            obtain ⟨hg0, hg1, hg2⟩ := celJ_get V q ve HVQ.out.1
                            have HGG := Lib.hid (And.intro hg0 (And.intro hg1 hg2))
                            clear hg0 hg1 hg2
                            go_wp2_with fail
                            (refine wp_region_s (S := SameP g32 w32) (by kernel_rfl) (by kernel_rfl) hS ?_; have hN : Nonempty (Held (SameP g32 w32)) := ⟨⟨_, hS⟩⟩; (have x0 : ∀ y : Held (SameP g32 w32), y.w.cell? ⟨xb, 0, none⟩ = some (.int .i64 J3.start) := fun y => (by obtain ⟨gy, hn⟩ := y.ok; exact (HX32.out.ext hn (fun h => h)).cell 0); have x1 : ∀ y : Held (SameP g32 w32), y.w.cell? ⟨xb, 1, none⟩ = some (.slice F1 J3.recs.length f1) := fun y => (by obtain ⟨gy, hn⟩ := y.ok; exact (HX32.out.ext hn (fun h => h)).cell 1); have x2 : ∀ y : Held (SameP g32 w32), y.w.cell? ⟨xb, 2, none⟩ = some (.slice F2 0 f2) := fun y => (by obtain ⟨gy, hn⟩ := y.ok; exact (HX32.out.ext hn (fun h => h)).cell 2); have y0 : ∀ y : Held (SameP g32 w32), y.w.cell? ⟨b2, off2 + q * 3, none⟩ = some (.int .i64 ve.R.start) := fun y => (by obtain ⟨gy, hn⟩ := y.ok; exact RdC.get ((HC32.out.app.rd).ext hn) HGG.out.1); have y1 : ∀ y : Held (SameP g32 w32), y.w.cell? ⟨b2, off2 + q * 3 + 1, none⟩ = some (.slice ve.A1 ve.R.recs.length ve.c1) := fun y => (by obtain ⟨gy, hn⟩ := y.ok; exact RdC.get ((HC32.out.app.rd).ext hn) HGG.out.2.1); have y2 : ∀ y : Held (SameP g32 w32), y.w.cell? ⟨b2, off2 + q * 3 + 2, none⟩ = some (.slice ve.A2 ve.R.pend.length ve.c2) := fun y => (by obtain ⟨gy, hn⟩ := y.ok; exact RdC.get ((HC32.out.app.rd).ext hn) HGG.out.2.2)); (repeat (go_big_quiet_step ((go_at_call 22; exact HSM.out _)))); refine wpQuiet_nil ?_; rintro _ ⟨⟨x, hx⟩, rfl⟩; clear hN)
                            clear x0 x1 x2 y0 y1 y2
                            go_wp2_with fail
                            go_round
                            case rel => exact ⟨q + 1, _, by go_num, by omega, rfl, by show _ = _; rw [HAT.out, ← hfb.out]; rfl, hx⟩
                            case measure => simp [intOf]; omega
                          · go_wp2_with fail
                            (refine wp_region_s (S := SameP g32 w32) (by kernel_rfl) (by kernel_rfl) hS ?_; have hN : Nonempty (Held (SameP g32 w32)) := ⟨⟨_, hS⟩⟩; skip; (repeat (go_big_quiet_step (fail))); refine wpQuiet_nil ?_; rintro _ ⟨⟨x, hx⟩, rfl⟩; clear hN)
                            go_wp2_with fail
                            go_round
                            case rel => exact ⟨q + 1, true, by go_num, by omega, rfl, by show _ = _; rw [HAT.out, ← hfb.out]; rfl, hx⟩
                            case measure => simp [intOf]; omega
                        · obtain rfl : q = V.length := by omega
                          have hfbt : fb = true := by
                            rw [hfb.out, List.take_length, List.any_eq_true]
                            obtain ⟨e, he, h1, h2⟩ := HP3.out
                            exact ⟨e, he, by simp [sameB, h1, h2]⟩
                          subst hfbt
                          obtain ⟨g33, hx33⟩ := hsp
                          have HK33 := Lib.hid (HK32.out.same hx33)
                          have HJ33 := Lib.hid (HJ32.out.ext hx33 (fun h => h))
                          have hst := HK33.out.store (R' := ⟨J3.start, J3.recs, []⟩) (HRR2.out.1.ext hx33) (HRR2.out.2.ext hx33)
                          dsimp only [List.length_nil] at hst
                          have HST := Lib.hid hst
                          have HX33 := HX32.out.ext hx33 (fun h => h)
                          have x0 : wr.cell? ⟨xb, 0, none⟩ = some (.int .i64 J3.start) := HX33.cell 0
                          have x1 : wr.cell? ⟨xb, 1, none⟩ = some (.slice F1 J3.recs.length f1) := HX33.cell 1
                          have x2 : wr.cell? ⟨xb, 2, none⟩ = some (.slice F2 0 f2) := HX33.cell 2
                          have y0 : wr.cell? ⟨wb, 0, none⟩ = some (.int .i64 R2.start) := HK33.out.hb.cell 0
                          have y1 : wr.cell? ⟨wb, 1, none⟩ = some (.slice B3 R2.recs.length e3) := HK33.out.hb.cell 1
                          have y2 : wr.cell? ⟨wb, 2, none⟩ = some (.slice B4 R2.pend.length e4) := HK33.out.hb.cell 2
                          have z := HK33.out.hb.fz
                          have nxb : xb ≠ wb := by omega
                          have HPE := Lib.hid (jpending_any j30 d g33 wr J3 HJ33.out)
                          rw [HPN.out] at HPE
                          clear hst HX33 hx33 HK32 HJ32 HC32 hfb HX32 hwbx
                          dsimp only [List.length_nil] at HPE
                          go_wp2_with fail
                          refine HPE.out.mono ?_
                          rintro e w' ⟨rfl, rfl⟩
                          go_wp2_with fail
                          go_roundg (k - 1)
                          case measure => omega
                          case rel =>
                            have hrf : refOf J3 = ⟨J3.start, J3.recs, []⟩ := by unfold refOf; rw [HPN.out]
                            refine ⟨j30, rfl, congrArg (Value.int .i64) (by omega), g33, E2, _, J3, F1, f1, F2, f2, by omega, ?_, by rw [hrf]; exact HST.out.1, HJ33.out.ext HST.out.2 (by have := HJW3.out; omega), HJW3.out.1, HJW3.out.2, ?_⟩
                            · omega
                            · have e : 3 * (K - (k - 1)) = 3 * (K - k) + 3 := by omega
                              rw [e]; exact HR3.out
                  · as_aux_lemma =>
                      obtain ⟨hjs, ee, rfl, her⟩ := HB25.out rfl
                      clear HB25 HAF2
                      obtain ⟨b2, off2, rfl, _, _, hcc⟩ := HC25.out.app.rd.at_ (by simp)
                      have k0 := hcc 0 (.int .i64 ee.R.start) (by simp [celJ, Cd.cells])
                      have k1 := hcc 1 (.slice ee.A1 ee.R.recs.length ee.c1) (by simp [celJ, Cd.cells])
                      have k2 := hcc 2 (.slice ee.A2 ee.R.pend.length ee.c2) (by simp [celJ, Cd.cells])
                      rw [Nat.add_zero] at k0
                      clear hcc
                      have hce := HC25.out.all ee (List.mem_singleton.2 rfl)
                      have HST := Lib.hid (HK25.out.store (R' := ee.R) hce.1 hce.2)
                      have y0 : w25.cell? ⟨wb, 0, none⟩ = some (.int .i64 R2.start) := HK25.out.hb.cell 0
                      have y1 : w25.cell? ⟨wb, 1, none⟩ = some (.slice B3 R2.recs.length e3) := HK25.out.hb.cell 1
                      have y2 : w25.cell? ⟨wb, 2, none⟩ = some (.slice B4 R2.pend.length e4) := HK25.out.hb.cell 2
                      have z := HK25.out.hb.fz
                      have HJ26 := Lib.hid (HJ25.out.ext HST.out.2 (by have := HJW.out; omega))
                      have hs := hjs.snd
                      have q1 := hs.st0
                      have q2 := hs.st1
                      have HRF : Hid (RefAt g24 (((w25.setCell ⟨wb, 0, none⟩ (.int .i64 ee.R.start)).setCell ⟨wb, 1, none⟩ (.slice ee.A1 ee.R.recs.length ee.c1)).setCell ⟨wb, 2, none⟩ (.slice ee.A2 ee.R.pend.length ee.c2)) (.agg #[.int .i64 ee.R.start, .slice ee.A1 ee.R.recs.length ee.c1, .slice ee.A2 ee.R.pend.length ee.c2]) (refOf J2)) := by
                        have h1 := HST.out.1.ref
                        have h2 : RefAt g24 (((w25.setCell ⟨wb, 0, none⟩ (.int .i64 ee.R.start)).setCell ⟨wb, 1, none⟩ (.slice ee.A1 ee.R.recs.length ee.c1)).setCell ⟨wb, 2, none⟩ (.slice ee.A2 ee.R.pend.length ee.c2)) (.agg #[.int .i64 ee.R.start, .slice ee.A1 ee.R.recs.length ee.c1, .slice ee.A2 ee.R.pend.length ee.c2]) ee.R := h1
                        exact her ▸ h2
                      have HIS := Lib.hid (is_any j d g24 _ J2 _ HJ26.out HRF.out q1 (by omega) (by omega) (fun r hr => Nat.le_trans (hjs.sm r (List.mem_append_left _ hr)) (by decide)))
                      have HJS := Lib.hid hjs
                      have HER := Lib.hid her
                      clear hs hjs her hce HC25
                      go_wp2_with fail
                      refine HIS.out.mono ?_
                      rintro e w26 ⟨rfl, g26, hx26⟩
                      have HK27 := Lib.hid (HST.out.1.same hx26)
                      have HJ27 := Lib.hid (HJ26.out.ext hx26 (fun h => h))
                      clear hx26 HST HJ26 HRF HIS HK25 HJ25 y0 y1 y2 z k0 k1 k2
                      go_wp2_with fail
                      go_roundg (k - 1)
                      case measure => omega
                      case rel =>
                        refine ⟨j, rfl, congrArg (Value.int .i64) (by omega), g26, D3, _, J2, ee.A1, ee.c1, ee.A2, ee.c2, by omega, ?_, by rw [← HER.out]; exact HK27.out, HJ27.out, HJW.out.1, HJW.out.2, ?_⟩
                        · omega
                        · have e : 3 * (K - (k - 1)) = 3 * (K - k) + 3 := by omega
                          rw [e]; exact HJS.out
    · obtain rfl : k = 0 := by omega
      go_wp2_with fail
      go_ret
      exact ⟨rfl, HK8.out.hx.finW⟩

end Go.Proofs.Ythjbaafbkalomaa
