/-
  What a journal has.
-/
import Derived.Test.YthjbaafbkalomaaRef31
namespace Go.Proofs.Ythjbaafbkalomaa
open Go.RowKit

theorem Ext.set3 {M : Nat → Prop} {g gr : Gh} {w x : World} (h : Ext M g w gr x) (hF : gr.F w.heap.size = 0) (a b c : Value) : Ext M g w gr (((x.setCell ⟨w.heap.size, 0, none⟩ a).setCell ⟨w.heap.size, 1, none⟩ b).setCell ⟨w.heap.size, 2, none⟩ c) :=
  ((h.setCell (fun h => absurd h (Nat.lt_irrefl _)) hF a).setCell (fun h => absurd h (Nat.lt_irrefl _)) hF b).setCell (fun h => absurd h (Nat.lt_irrefl _)) hF c

set_option maxRecDepth 100000 in
set_option maxHeartbeats 1600000 in
theorem look_any (j d : Nat) (g : Gh) (w : World) (J : Jrn) (hJ : JAt g w j d J) (h0 : 0 ≤ J.start) (h1 : J.start ≤ 4611686018427387904) (h2 : J.recs.length ≤ 4096) (h3 : ∀ r ∈ J.recs, r.length ≤ 65536) :
    Calls Try.prog 21 #[.pointer (some ⟨j, 0, none⟩)] w fun e w' => ∃ v g', e = .returned (.tuple #[v, .bool true]) ∧ Ext (fun _ => False) g w g' w' ∧ RefAt g' w' v ⟨J.start, J.recs, []⟩ := by
  have hx1 := Ext.box (fun _ => False) g w (.cells #[.int .i64 0, .slice none 0 0, .slice none 0 0] 35)
  have hx2 := Ext.two g w (.cells #[.int .i64 0, .slice none 0 0, .slice none 0 0] 35) (.cells #[.int .i64 J.start, .slice none 0 0, .slice none 0 0] 35)
  have hb1 : Blk w.heap.size 35 [.int .i64 0, .slice none 0 0, .slice none 0 0] ((w.alloc (.cells #[.int .i64 0, .slice none 0 0, .slice none 0 0] 35)).alloc (.cells #[.int .i64 J.start, .slice none 0 0, .slice none 0 0] 35)) := (Blk.new w 35 [.int .i64 0, .slice none 0 0, .slice none 0 0]).alloc _
  have hb2 : Blk (w.heap.size + 1) 35 [.int .i64 J.start, .slice none 0 0, .slice none 0 0] ((w.alloc (.cells #[.int .i64 0, .slice none 0 0, .slice none 0 0] 35)).alloc (.cells #[.int .i64 J.start, .slice none 0 0, .slice none 0 0] 35)) := by
    have := Blk.new (w.alloc (.cells #[.int .i64 0, .slice none 0 0, .slice none 0 0] 35)) 35 [.int .i64 J.start, .slice none 0 0, .slice none 0 0]
    simpa using this
  obtain ⟨o, ho⟩ := owner_new ((g.box w.heap.size).box (w.heap.size + 1)) (w.heap.size + 1 + 1)
  have hO1 : ((g.box w.heap.size).box (w.heap.size + 1)).O w.heap.size = w.heap.size := by simp [Gh.box]
  have hO2 : ((g.box w.heap.size).box (w.heap.size + 1)).O (w.heap.size + 1) = w.heap.size + 1 := by simp [Gh.box]
  have hF1 : ((g.box w.heap.size).box (w.heap.size + 1)).F w.heap.size = 0 := by simp [Gh.box]
  have hF2 : ((g.box w.heap.size).box (w.heap.size + 1)).F (w.heap.size + 1) = 0 := by simp [Gh.box]
  have ho1 : o ≠ w.heap.size := fun e => ho w.heap.size (by omega) (by rw [hO1, e])
  have ho2 : o ≠ w.heap.size + 1 := fun e => ho (w.heap.size + 1) (by omega) (by rw [hO2, e])
  have HO : Hid (∀ b, b < w.heap.size → g.O b ≠ o) := by
    intro b hb e
    exact ho b (by omega) (by rw [← e]; simp only [Gh.box]; rw [if_neg (by omega), if_neg (by omega)])
  have hoj : o ≠ j := fun e => by
    obtain ⟨A1, c1, v1, A2, c2, v2, hb, hi⟩ := hJ
    exact HO.out j hb.lt (by rw [hi.O, e])
  have hjl := hJ.lt
  have HJ1 := Lib.hid (hJ.ext hx1 (fun h => h))
  have HJ2 := Lib.hid (hJ.ext hx2 (fun h => h))
  have HX2 := Lib.hid hx2
  have HB1 := Lib.hid hb1
  have HB2 := Lib.hid hb2
  have H3 := Lib.hid h3
  obtain ⟨i0, hi0, hz0, hz1, hz2⟩ := info_parts Try.infoBytes
  clear hJ hx1 hx2 hb1 hb2 ho h3
  generalize (g.box w.heap.size).box (w.heap.size + 1) = g2 at *
  go_enter Try.func21, Try.ntmps21
  go_wp2_with fail
  refine (jstart_any j d _ _ J HJ1.out).mono ?_
  rintro e w' ⟨rfl, rfl⟩
  go_wp2_with fail
  refine (jend_any j d g2 _ J HJ2.out h0 h1 (by omega)).mono ?_
  rintro e w' ⟨rfl, n1, rfl⟩
  have hxd : Ext (fun _ => False) g2 ((w.alloc (.cells #[.int .i64 0, .slice none 0 0, .slice none 0 0] 35)).alloc (.cells #[.int .i64 J.start, .slice none 0 0, .slice none 0 0] 35)) g2 (((w.alloc (.cells #[.int .i64 0, .slice none 0 0, .slice none 0 0] 35)).alloc (.cells #[.int .i64 J.start, .slice none 0 0, .slice none 0 0] 35)).drewN n1) := (Ext.refl _ _ _).drewN _
  have HX3 := Lib.hid (HX2.out.trans hxd)
  have HJ3 := Lib.hid (HJ2.out.ext hxd (fun h => h))
  have HB13 := Lib.hid (HB1.out.drewN n1)
  have HB23 := Lib.hid (HB2.out.drewN n1)
  clear hxd HX2 HJ2 HB1 HB2 HJ1
  generalize ((w.alloc (.cells #[.int .i64 0, .slice none 0 0, .slice none 0 0] 35)).alloc (.cells #[.int .i64 J.start, .slice none 0 0, .slice none 0 0] 35)).drewN n1 = w3 at *
  go_wp2_with fail
  refine (jstart_any j d _ _ J HJ3.out).mono ?_
  rintro e w' ⟨rfl, rfl⟩
  go_wp2_with fail
  refine (jstart_any j d _ _ J HJ3.out).mono ?_
  rintro e w' ⟨rfl, rfl⟩
  have hsub : J.start + (J.recs.length : Int) - J.start = J.recs.length := by omega
  go_wp2_with fail
  go_loopw [6] (fun i wr => ∃ (k : Nat) (gr : Gh) (B : Option Addr) (c : Nat) (vs : List Value), k ≤ J.recs.length ∧ i = .int .i64 k ∧ Ext (· = o) g w gr wr ∧ JAt gr wr j d J ∧ Blk w.heap.size 35 [.int .i64 0, .slice none 0 0, .slice none 0 0] wr ∧ Blk (w.heap.size + 1) 35 [.int .i64 J.start, .slice B k c, .slice none 0 0] wr ∧ gr.O w.heap.size = w.heap.size ∧ gr.O (w.heap.size + 1) = w.heap.size + 1 ∧ gr.F w.heap.size = 0 ∧ gr.F (w.heap.size + 1) = 0 ∧ App 37 1 o gr wr B k c vs ∧ RecsR gr wr vs (J.recs.take k)) (fun i _ => J.recs.length - (intOf i).toNat)
  case atStart => exact ⟨0, g2, none, 0, [], Nat.zero_le _, rfl, HX3.out.imp (fun _ h => h.elim), HJ3.out, HB13.out, HB23.out, hO1, hO2, hF1, hF2, App.nil _ _ _ _ _, trivial⟩
  case round =>
    obtain ⟨k, gr, B, c, vs, hk, rfl, hx, hJr, hbr, hbm, hOr, hOm, hFr, hFm, ha, hrr⟩ := hrel
    have HX4 := Lib.hid hx
    have HJ4 := Lib.hid hJr
    have HBR4 := Lib.hid hbr
    have HBM4 := Lib.hid hbm
    have HA4 := Lib.hid ha
    have HR4 := Lib.hid hrr
    have m0 : wr.cell? ⟨w.heap.size + 1, 0, none⟩ = some (.int .i64 J.start) := hbm.cell 0
    have m1 : wr.cell? ⟨w.heap.size + 1, 1, none⟩ = some (.slice B k c) := hbm.cell 1
    have m2 : wr.cell? ⟨w.heap.size + 1, 2, none⟩ = some (.slice none 0 0) := hbm.cell 2
    clear hx hJr hbr ha hrr HX3 HJ3 HB13 HB23
    by_cases hlt : k < J.recs.length
    · have hg : getR J (J.start + k) = some J.recs[k] := by
        unfold getR
        rw [if_neg (by omega), if_neg (by omega)]
        have : (J.start + (k : Int) - J.start).toNat = k := by omega
        rw [this, List.getElem?_eq_getElem hlt]
      have HG := Lib.hid hg
      have HTS : Hid (J.recs.take (k + 1) = J.recs.take k ++ [J.recs[k]]) := by
        show _ = _
        rw [List.take_add_one, List.getElem?_eq_getElem hlt]; rfl
      clear hg hbm
      generalize J.recs[k] = r at *
      go_wp2_with fail
      refine (get_any j d gr wr J HJ4.out _ h0 h1 (by omega) H3.out (by omega) (by omega)).mono ?_
      rw [HG.out]
      rintro e w5 ⟨A5, c5, g5, rfl, hx5, hB5⟩
      have HX5 := Lib.hid (HX4.out.trans (hx5.imp (fun _ h => h.elim)))
      have HJ5 := Lib.hid (HJ4.out.ext hx5 (fun h => h))
      have HBR5 := Lib.hid (HBR4.out.ext hx5 (fun h => h))
      have HBM5 := Lib.hid (HBM4.out.ext hx5 (fun h => h))
      have HA5 := Lib.hid (HA4.out.ext hx5 (fun h => h))
      have HR5 := Lib.hid (HR4.out.ext hx5)
      have HB5 := Lib.hid hB5
      have lr := HBR4.out.lt
      have lm := HBM4.out.lt
      have hOr5 := (hx5.own _ lr).trans hOr
      have hOm5 := (hx5.own _ lm).trans hOm
      have hFr5 := hx5.zero _ lr hFr
      have hFm5 := hx5.zero _ lm hFm
      have m1 : w5.cell? ⟨w.heap.size + 1, 1, none⟩ = some (.slice B k c) := HBM5.out.cell 1
      clear hx5 hB5 HX4 HJ4 HBR4 HBM4 HA4 HR4 m0 m2 lr lm hOr hOm hFr hFm
      generalize r.length = rl at *
      have hal : Ext (fun _ => False) g5 w5 g5 (w5.alloc (.cells #[.slice A5 rl c5] 37)) := (Ext.refl _ _ _).alloc _
      have HX6 := Lib.hid (HX5.out.trans (hal.imp (fun _ h => h.elim)))
      have HJ6 := Lib.hid (HJ5.out.ext hal (fun h => h))
      have HBR6 := Lib.hid (HBR5.out.ext hal (fun h => h))
      have HBM6 := Lib.hid (HBM5.out.ext hal (fun h => h))
      have HA6 := Lib.hid (HA5.out.ext hal (fun h => h))
      have HR6 := Lib.hid (HR5.out.ext hal)
      have HB6 := Lib.hid (HB5.out.ext hal)
      have HSRC : Hid (Src Try.prog 1 33 (.slice (some ⟨w5.heap.size, 0, none⟩) 1 1) 1 [.slice A5 rl c5] (w5.alloc (.cells #[.slice A5 rl c5] 37))) :=
        Src.ofSlice _ Try.underlying33 _ 1 1 _ rfl (fun j u hu => by
          have hh : (w5.alloc (.cells #[.slice A5 rl c5] 37)).heap[w5.heap.size]? = some (.cells #[.slice A5 rl c5] 37 (0, 0)) := heap_alloc_new w5 _
          rw [add_lit, Nat.zero_add, cell_at hh]
          simpa using hu) (by simp [Value.oneCell'])
      clear hal HX5 HJ5 HBR5 HBM5 HA5 HR5 HB5
      go_wp2_with (at_builtin; refine wpList_append_app rfl _ _ _ _ rfl 37 i0 (.slice none 0 0) 1 24 Try.underlying33 hi0 hz0 hz1 hz2 rfl (by decide) rfl HA6.out rfl HSRC.out (by unfold maxLen; omega) (by omega) ?_; intro A7 c7 w7 g7 hx7 ha7 hl7; have HX7 := Lib.hid (HX6.out.trans hx7); have HJ7 := Lib.hid (HJ6.out.ext hx7 (fun e => hoj e.symm)); have HBR7 := Lib.hid (HBR6.out.ext hx7 (by rw [hOr5]; exact fun e => ho1 e.symm)); have HBM7 := Lib.hid (HBM6.out.ext hx7 (by rw [hOm5]; exact fun e => ho2 e.symm)); have HA7 := Lib.hid ha7; have HR7 := Lib.hid (RecsR.append (HR6.out.ext hx7) (vs' := [.slice A5 rl c5]) (rs' := [r]) ⟨HB6.out.ext hx7, trivial⟩); have hOr7 := (hx7.own _ HBR6.out.lt).trans hOr5; have hOm7 := (hx7.own _ HBM6.out.lt).trans hOm5; have hFr7 := hx7.zero _ HBR6.out.lt hFr5; have hFm7 := hx7.zero _ HBM6.out.lt hFm5; have n1 : w7.cell? ⟨w.heap.size + 1, 1, none⟩ = some (.slice B k c) := HBM7.out.cell 1; have nz := HBM7.out.fz; clear hx7 ha7 hl7 m1)
      go_round
      case rel =>
        have hxs : Ext (· = w.heap.size + 1) g7 w7 g7 (w7.setCell ⟨w.heap.size + 1, 1, none⟩ (.slice A7 (k + 1) c7)) := (Ext.refl _ _ _).setCell (fun _ => hOm7) hFm7 _
        refine ⟨k + 1, g7, A7, c7, _, by omega, by go_num, HX7.out.setCell (fun h => absurd h (by show ¬ w.heap.size + 1 < w.heap.size; omega)) hFm7 _, HJ7.out.ext hxs (by omega), HBR7.out.ext hxs (by rw [hOr7]; omega), ?_, hOr7, hOm7, hFr7, hFm7, HA7.out.ext hxs ho2, ?_⟩
        · have := HBM7.out.set 1 (.slice A7 (k + 1) c7)
          simpa using this
        · rw [HTS.out]; exact HR7.out.ext hxs
      case measure => simp [intOf]; omega
    · obtain rfl : k = J.recs.length := by omega
      have hg1 : getR J (J.start - 1) = none := by unfold getR; rw [if_pos (by omega)]
      have hg2 : getR J (J.start + J.recs.length) = none := by unfold getR; rw [if_neg (by omega), if_pos (by omega)]
      have HG1 := Lib.hid hg1
      have HG2 := Lib.hid hg2
      clear hg1 hg2 hbm
      go_wp2_with fail
      refine (get_any j d gr wr J HJ4.out _ h0 h1 (by omega) H3.out (by omega) (by omega)).mono ?_
      rw [HG1.out]
      rintro e w5 ⟨rfl, n5, rfl⟩
      have hx5 : Ext (fun _ => False) gr wr gr (wr.drewN n5) := (Ext.refl _ _ _).drewN _
      have HX5 := Lib.hid (HX4.out.trans (hx5.imp (fun _ h => h.elim)))
      have HJ5 := Lib.hid (HJ4.out.ext hx5 (fun h => h))
      have HBR5 := Lib.hid (HBR4.out.ext hx5 (fun h => h))
      have HBM5 := Lib.hid (HBM4.out.ext hx5 (fun h => h))
      have HA5 := Lib.hid (HA4.out.ext hx5 (fun h => h))
      have HR5 := Lib.hid (HR4.out.ext hx5)
      clear hx5 HX4 HJ4 HBR4 HBM4 HA4 HR4 m0 m1 m2
      generalize wr.drewN n5 = w5 at *
      have m0 : w5.cell? ⟨w.heap.size + 1, 0, none⟩ = some (.int .i64 J.start) := HBM5.out.cell 0
      go_wp2_with fail
      refine (get_any j d gr w5 J HJ5.out _ h0 h1 (by omega) H3.out (by omega) (by omega)).mono ?_
      rw [HG2.out]
      rintro e w6 ⟨rfl, n6, rfl⟩
      have hx6 : Ext (fun _ => False) gr w5 gr (w5.drewN n6) := (Ext.refl _ _ _).drewN _
      have HX6 := Lib.hid (HX5.out.trans (hx6.imp (fun _ h => h.elim)))
      have HBR6 := Lib.hid (HBR5.out.ext hx6 (fun h => h))
      have HBM6 := Lib.hid (HBM5.out.ext hx6 (fun h => h))
      have HA6 := Lib.hid (HA5.out.ext hx6 (fun h => h))
      have HR6 := Lib.hid (HR5.out.ext hx6)
      clear hx6 HX5 HJ5 HBR5 HBM5 HA5 HR5 m0
      generalize w5.drewN n6 = w6 at *
      have m0 : w6.cell? ⟨w.heap.size + 1, 0, none⟩ = some (.int .i64 J.start) := HBM6.out.cell 0
      have m1 : w6.cell? ⟨w.heap.size + 1, 1, none⟩ = some (.slice B J.recs.length c) := HBM6.out.cell 1
      have m2 : w6.cell? ⟨w.heap.size + 1, 2, none⟩ = some (.slice none 0 0) := HBM6.out.cell 2
      have r0 : w6.cell? ⟨w.heap.size, 0, none⟩ = some (.int .i64 0) := HBR6.out.cell 0
      have r1 : w6.cell? ⟨w.heap.size, 1, none⟩ = some (.slice none 0 0) := HBR6.out.cell 1
      have r2 : w6.cell? ⟨w.heap.size, 2, none⟩ = some (.slice none 0 0) := HBR6.out.cell 2
      have z := HBR6.out.fz
      go_wp2_with fail
      refine bodyPost_ret (v := .tuple #[.agg #[.int .i64 J.start, .slice B J.recs.length c, .slice none 0 0], .bool true]) (by simp [results, Try.results21, go_sem, r0, r1, r2]) rfl ?_
      refine ⟨_, gr, rfl, ?_, B, c, none, 0, rfl, ?_, RecsAt.nil _ _⟩
      · exact (HX6.out.set3 hFr _ _ _).more (fun b hb e => absurd e (HO.out b hb))
      · have hx7 : Ext (· = w.heap.size) gr w6 gr (((w6.setCell ⟨w.heap.size, 0, none⟩ (.int .i64 J.start)).setCell ⟨w.heap.size, 1, none⟩ (.slice B J.recs.length c)).setCell ⟨w.heap.size, 2, none⟩ (.slice none 0 0)) :=
          (((Ext.refl _ _ _).setCell (fun _ => hOr) hFr _).setCell (fun _ => hOr) hFr _).setCell (fun _ => hOr) hFr _
        have hr := HR6.out
        rw [List.take_length] at hr
        exact (RecsAt.ofApp HA6.out rfl hr).ext hx7
end Go.Proofs.Ythjbaafbkalomaa
