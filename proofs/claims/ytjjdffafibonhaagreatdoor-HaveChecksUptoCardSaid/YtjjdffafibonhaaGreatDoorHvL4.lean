/-
  What the statements draw: an entry, sometimes one that is not valid.
-/
import Derived.Test.YtjjdffafibonhaaGreatDoorHvL
import Derived.Test.YtjjdffafibonhaaGreatDoorHvRep
namespace Go.Proofs.YtjjdffafibonhaaGreatDoor
open Go.RowKit

set_option maxRecDepth 100000 in
set_option maxHeartbeats 6400000 in
theorem entry_true : EntOk true := by
  intro t m g w ht hm
  have hx := Ext.box (· = t) g w (.cells #[.string ⟨#[]⟩, .int .i64 0, .string ⟨#[]⟩] 32)
  have hb0 : Blk w.heap.size 32 [.string ⟨#[]⟩, .int .i64 0, .string ⟨#[]⟩] (w.alloc (.cells #[.string ⟨#[]⟩, .int .i64 0, .string ⟨#[]⟩] 32)) := Blk.new w 32 [.string ⟨#[]⟩, .int .i64 0, .string ⟨#[]⟩]
  have ht1 := ht.ext (Ext.box (fun _ => False) g w (.cells #[.string ⟨#[]⟩, .int .i64 0, .string ⟨#[]⟩] 32)) (fun h => h)
  have htl := ht.lt
  have hO : (g.box w.heap.size).O w.heap.size = w.heap.size := g.box_O _
  have hF : (g.box w.heap.size).F w.heap.size = 0 := g.box_F _
  have HX := Lib.hid hx
  have HB := Lib.hid hb0
  have HT := Lib.hid ht1
  have hlt : w.heap.size < (w.alloc (.cells #[.string ⟨#[]⟩, .int .i64 0, .string ⟨#[]⟩] 32)).heap.size := by simp
  clear hx hb0 ht ht1
  generalize g.box w.heap.size = g0 at *
  go_enter Tryz.func44, Tryz.ntmps44
  go_wp2_with fail
  generalize w.alloc (.cells #[.string ⟨#[]⟩, .int .i64 0, .string ⟨#[]⟩] 32) = w0 at *
  refine (depot_any t m g0 w0 HT.out (by omega)).mono ?_
  rintro e w1 ⟨p, g1, rfl, hp, hx1, ht1⟩
  have HX1 := Lib.hid (HX.out.trans hx1)
  have HB1 := Lib.hid (HB.out.ext hx1 (by rw [hO]; omega))
  have hO1 := (hx1.own _ hlt).trans hO
  have hF1 := hx1.zero _ hlt hF
  have HT1 := Lib.hid ht1
  have hlt1 := Nat.lt_of_lt_of_le hlt hx1.size
  clear hx1 ht1 HX HB HT
  go_wp2_with fail
  refine (next_any t (m + 1) g1 w1 HT1.out (by omega) 4 (by omega)).mono ?_
  rintro e w2 ⟨v, rfl, hv0, hv1, hx2, ht2⟩
  have HX2 := Lib.hid (HX1.out.trans hx2)
  have HB2 := Lib.hid (HB1.out.ext hx2 (by rw [hO1]; omega))
  have hO2 := (hx2.own _ hlt1).trans hO1
  have hF2 := hx2.zero _ hlt1 hF1
  have HT2 := Lib.hid ht2
  have hlt2 := Nat.lt_of_lt_of_le hlt1 hx2.size
  have hv2 : v < 4 := by omega
  clear hx2 ht2 HX1 HB1 HT1 hv1
  go_wp2_with fail
  refine (local_any t (m + 1 + 1) g1 w2 HT2.out (by omega)).mono ?_
  rintro e w3 ⟨lo, g3, rfl, hlo, hx3, ht3⟩
  have hal : Ext (fun _ => False) g3 w3 (g3.box w3.heap.size) (w3.alloc (.cells #[.string p, .int .i64 (1 + v), .string lo] 32)) := Ext.box _ g3 w3 _
  have HX3 := Lib.hid ((HX2.out.trans hx3).trans (hal.imp (fun _ h => h.elim)))
  have HB3 := Lib.hid ((HB2.out.ext hx3 (by rw [hO2]; omega)).alloc (.cells #[.string p, .int .i64 (1 + v), .string lo] 32))
  have HK3 : Hid (Blk w3.heap.size 32 [.string p, .int .i64 (1 + v), .string lo] (w3.alloc (.cells #[.string p, .int .i64 (1 + v), .string lo] 32))) := Blk.new w3 32 [.string p, .int .i64 (1 + v), .string lo]
  have hlt3 := Nat.lt_of_lt_of_le hlt2 hx3.size
  have hO3 := (hal.own _ hlt3).trans ((hx3.own _ hlt2).trans hO2)
  have hF3 := hal.zero _ hlt3 (hx3.zero _ hlt2 hF2)
  have hO3b : (g3.box w3.heap.size).O w3.heap.size = w3.heap.size := g3.box_O _
  have hF3b : (g3.box w3.heap.size).F w3.heap.size = 0 := g3.box_F _
  have HT3 := Lib.hid (ht3.ext hal (fun h => h))
  have hltb : w3.heap.size < (w3.alloc (.cells #[.string p, .int .i64 (1 + v), .string lo] 32)).heap.size := by simp
  have htl3 : t < w3.heap.size := ht3.lt
  clear hx3 ht3 HX2 HB2 HT2 hal
  generalize g3.box w3.heap.size = g4 at *
  go_wp2_with fail
  generalize w3.alloc (.cells #[.string p, .int .i64 (1 + v), .string lo] 32) = wa at *
  refine (next_any t _ g4 wa HT3.out (by omega) 24 (by omega)).mono ?_
  rintro e w4 ⟨u, rfl, hu0, hu1, hx4, ht4⟩
  have HX4 := Lib.hid (HX3.out.trans hx4)
  have HB4 := Lib.hid (HB3.out.ext hx4 (by rw [hO3]; omega))
  have HK4 := Lib.hid (HK3.out.ext hx4 (by rw [hO3b]; omega))
  have hlt3' : w.heap.size < wa.heap.size := by omega
  have hO4 := (hx4.own _ hlt3').trans hO3
  have hF4 := hx4.zero _ hlt3' hF3
  have hO4b := (hx4.own _ hltb).trans hO3b
  have hF4b := hx4.zero _ hltb hF3b
  have HT4 := Lib.hid ht4
  clear hx4 ht4 HX3 HB3 HT3 HK3
  by_cases hu2 : u = 0
  · subst hu2
    clear hu0 hu1
    have z4 := HK4.out.fz
    have hk5 : Blk w3.heap.size 32 [.string p, .int .i64 0, .string lo] (w4.setCell ⟨w3.heap.size, 1, none⟩ (.int .i64 0)) := by
      have := HK4.out.set 1 (.int .i64 0)
      simpa using this
    have hb5 : Blk w.heap.size 32 [.string ⟨#[]⟩, .int .i64 0, .string ⟨#[]⟩] (w4.setCell ⟨w3.heap.size, 1, none⟩ (.int .i64 0)) := HB4.out.far (p := ⟨w3.heap.size, 1, none⟩) (by show w.heap.size ≠ w3.heap.size; omega) _
    have hx5 : Ext (· = w3.heap.size) g4 w4 g4 (w4.setCell ⟨w3.heap.size, 1, none⟩ (.int .i64 0)) := (Ext.refl _ _ _).setCell (p := ⟨w3.heap.size, 1, none⟩) (fun _ => hO4b) hF4b _
    have HX5 := Lib.hid (HX4.out.setCell (p := ⟨w3.heap.size, 1, none⟩) (fun h => absurd h (by show ¬ w3.heap.size < w.heap.size; omega)) hF4b (.int .i64 0))
    have HT5 := Lib.hid (HT4.out.ext hx5 (by omega))
    have h4c := HK4.out.cell 1
    dsimp only [List.getElem?_cons_zero, List.getElem?_cons_succ] at h4c
    clear hx5 HX4 HT4 HB4 HK4
    have k0 := hk5.cell 0
    have k1 := hk5.cell 1
    have k2 := hk5.cell 2
    have b0 := hb5.cell 0
    have b1 := hb5.cell 1
    have b2 := hb5.cell 2
    dsimp only [List.getElem?_cons_zero, List.getElem?_cons_succ] at k0 k1 k2 b0 b1 b2
    have z := hb5.fz
    have hq := blk_set3 hb5 (.string p) (.int .i64 0) (.string lo)
    have q0 := hq.cell 0
    have q1 := hq.cell 1
    have q2 := hq.cell 2
    dsimp only [List.getElem?_cons_zero, List.getElem?_cons_succ] at q0 q1 q2
    have HQ := Lib.hid (And.intro q0 (And.intro q1 q2))
    clear hb5 hk5 hq q0 q1 q2
    go_wp2_with fail
    obtain ⟨q0, q1, q2⟩ := HQ.out
    refine bodyPost_ret (v := .agg #[.string p, .int .i64 0, .string lo]) (by simp only [results, Tryz.results44]; simp [go_sem, q0, q1, q2]) rfl ?_
    refine ⟨p, 0, lo, g4, rfl, hp, hlo, by omega, by omega, ?_, ?_⟩
    · exact ((HX5.out.setCell (p := ⟨w.heap.size, 0, none⟩) (fun h => absurd h (Nat.lt_irrefl _)) hF4 _).setCell (p := ⟨w.heap.size, 1, none⟩) (fun h => absurd h (Nat.lt_irrefl _)) hF4 _).setCell (p := ⟨w.heap.size, 2, none⟩) (fun h => absurd h (Nat.lt_irrefl _)) hF4 _
    · have hs : Ext (· = w.heap.size) g4 (w4.setCell ⟨w3.heap.size, 1, none⟩ (.int .i64 0)) g4 ((((w4.setCell ⟨w3.heap.size, 1, none⟩ (.int .i64 0)).setCell ⟨w.heap.size, 0, none⟩ (.string p)).setCell ⟨w.heap.size, 1, none⟩ (.int .i64 0)).setCell ⟨w.heap.size, 2, none⟩ (.string lo)) :=
        (((Ext.refl _ _ _).setCell (p := ⟨w.heap.size, 0, none⟩) (fun _ => hO4) hF4 _).setCell (p := ⟨w.heap.size, 1, none⟩) (fun _ => hO4) hF4 _).setCell (p := ⟨w.heap.size, 2, none⟩) (fun _ => hO4) hF4 _
      exact (HT5.out.ext hs (by omega)).more (by omega)
  by_cases hu3 : u = 1
  · subst hu3
    clear hu0 hu1 hu2
    have z4 := HK4.out.fz
    have hk5 : Blk w3.heap.size 32 [.string ⟨#[47, 47, 100]⟩, .int .i64 (1 + v), .string lo] (w4.setCell ⟨w3.heap.size, 0, none⟩ (.string ⟨#[47, 47, 100]⟩)) := by
      have := HK4.out.set 0 (.string ⟨#[47, 47, 100]⟩)
      simpa using this
    have hb5 : Blk w.heap.size 32 [.string ⟨#[]⟩, .int .i64 0, .string ⟨#[]⟩] (w4.setCell ⟨w3.heap.size, 0, none⟩ (.string ⟨#[47, 47, 100]⟩)) := HB4.out.far (p := ⟨w3.heap.size, 0, none⟩) (by show w.heap.size ≠ w3.heap.size; omega) _
    have hx5 : Ext (· = w3.heap.size) g4 w4 g4 (w4.setCell ⟨w3.heap.size, 0, none⟩ (.string ⟨#[47, 47, 100]⟩)) := (Ext.refl _ _ _).setCell (p := ⟨w3.heap.size, 0, none⟩) (fun _ => hO4b) hF4b _
    have HX5 := Lib.hid (HX4.out.setCell (p := ⟨w3.heap.size, 0, none⟩) (fun h => absurd h (by show ¬ w3.heap.size < w.heap.size; omega)) hF4b (.string ⟨#[47, 47, 100]⟩))
    have HT5 := Lib.hid (HT4.out.ext hx5 (by omega))
    have h4c := HK4.out.cell 0
    dsimp only [List.getElem?_cons_zero, List.getElem?_cons_succ] at h4c
    clear hx5 HX4 HT4 HB4 HK4
    have k0 := hk5.cell 0
    have k1 := hk5.cell 1
    have k2 := hk5.cell 2
    have b0 := hb5.cell 0
    have b1 := hb5.cell 1
    have b2 := hb5.cell 2
    dsimp only [List.getElem?_cons_zero, List.getElem?_cons_succ] at k0 k1 k2 b0 b1 b2
    have z := hb5.fz
    have hq := blk_set3 hb5 (.string ⟨#[47, 47, 100]⟩) (.int .i64 (1 + v)) (.string lo)
    have q0 := hq.cell 0
    have q1 := hq.cell 1
    have q2 := hq.cell 2
    dsimp only [List.getElem?_cons_zero, List.getElem?_cons_succ] at q0 q1 q2
    have HQ := Lib.hid (And.intro q0 (And.intro q1 q2))
    clear hb5 hk5 hq q0 q1 q2
    go_wp2_with fail
    obtain ⟨q0, q1, q2⟩ := HQ.out
    refine bodyPost_ret (v := .agg #[.string ⟨#[47, 47, 100]⟩, .int .i64 (1 + v), .string lo]) (by simp only [results, Tryz.results44]; simp [go_sem, q0, q1, q2]) rfl ?_
    refine ⟨⟨#[47, 47, 100]⟩, (1 + v), lo, g4, rfl, by decide, hlo, by omega, by omega, ?_, ?_⟩
    · exact ((HX5.out.setCell (p := ⟨w.heap.size, 0, none⟩) (fun h => absurd h (Nat.lt_irrefl _)) hF4 _).setCell (p := ⟨w.heap.size, 1, none⟩) (fun h => absurd h (Nat.lt_irrefl _)) hF4 _).setCell (p := ⟨w.heap.size, 2, none⟩) (fun h => absurd h (Nat.lt_irrefl _)) hF4 _
    · have hs : Ext (· = w.heap.size) g4 (w4.setCell ⟨w3.heap.size, 0, none⟩ (.string ⟨#[47, 47, 100]⟩)) g4 ((((w4.setCell ⟨w3.heap.size, 0, none⟩ (.string ⟨#[47, 47, 100]⟩)).setCell ⟨w.heap.size, 0, none⟩ (.string ⟨#[47, 47, 100]⟩)).setCell ⟨w.heap.size, 1, none⟩ (.int .i64 (1 + v))).setCell ⟨w.heap.size, 2, none⟩ (.string lo)) :=
        (((Ext.refl _ _ _).setCell (p := ⟨w.heap.size, 0, none⟩) (fun _ => hO4) hF4 _).setCell (p := ⟨w.heap.size, 1, none⟩) (fun _ => hO4) hF4 _).setCell (p := ⟨w.heap.size, 2, none⟩) (fun _ => hO4) hF4 _
      exact (HT5.out.ext hs (by omega)).more (by omega)
  by_cases hu4 : u = 2
  · subst hu4
    clear hu0 hu1 hu2 hu3
    go_wp2_with fail
    refine (next_any t _ g4 w4 HT4.out (by omega) 2 (by omega)).mono ?_
    rintro e wb ⟨y, rfl, hy0, hy1, hx5, ht5⟩
    obtain ⟨yk, rfl⟩ : ∃ yk : Nat, y = (yk : Int) := ⟨y.toNat, by omega⟩
    have hyk : yk ≤ 1 := by omega
    have HX5 := Lib.hid (HX4.out.trans hx5)
    have HB5 := Lib.hid (HB4.out.ext hx5 (by rw [hO4]; omega))
    have HK5 := Lib.hid (HK4.out.ext hx5 (by rw [hO4b]; omega))
    have hl4 := HB4.out.lt
    have hl4b := HK4.out.lt
    have hO5 := (hx5.own _ hl4).trans hO4
    have hF5 := hx5.zero _ hl4 hF4
    have hO5b := (hx5.own _ hl4b).trans hO4b
    have hF5b := hx5.zero _ hl4b hF4b
    have HT5 := Lib.hid ht5
    have HRP := Lib.hid (repeat_any (196 + yk) (by omega) (by omega) wb)
    have hcast : (((196 + yk : Nat)) : Int) = 196 + (yk : Int) := by omega
    rw [hcast] at HRP
    clear hx5 ht5 HX4 HB4 HK4 HT4 hy0 hy1 hcast
    go_wp2_with fail
    refine HRP.out.mono ?_
    rintro e wc ⟨sr, rfl, hsr, hbc⟩
    have hxc := Ext.of_below (fun _ => False) g4 hbc
    have HX6 := Lib.hid (HX5.out.below hbc)
    have HT6 := Lib.hid (HT5.out.ext hxc (fun h => h))
    have hb6 := HB5.out.below hbc
    have hk6 := HK5.out.below hbc
    have hlo6 : ((⟨#[47, 47, 99, 47]⟩ : ByteArray) ++ sr).size ≤ 300 := by
      rw [ByteArray.size_append]
      have : (⟨#[47, 47, 99, 47]⟩ : ByteArray).size = 4 := rfl
      omega
    generalize hso : (⟨#[47, 47, 99, 47]⟩ : ByteArray) ++ sr = so at *
    have zz := hk6.fz
    have kc := hk6.cell 2
    dsimp only [List.getElem?_cons_zero, List.getElem?_cons_succ] at kc
    have hk7 : Blk w3.heap.size 32 [.string p, .int .i64 (1 + v), .string so] (wc.setCell ⟨w3.heap.size, 2, none⟩ (.string so)) := by
      have := hk6.set 2 (.string so)
      simpa using this
    have hb7 : Blk w.heap.size 32 [.string ⟨#[]⟩, .int .i64 0, .string ⟨#[]⟩] (wc.setCell ⟨w3.heap.size, 2, none⟩ (.string so)) := hb6.far (p := ⟨w3.heap.size, 2, none⟩) (by show w.heap.size ≠ w3.heap.size; omega) _
    have hx7 : Ext (· = w3.heap.size) g4 wc g4 (wc.setCell ⟨w3.heap.size, 2, none⟩ (.string so)) := (Ext.refl _ _ _).setCell (p := ⟨w3.heap.size, 2, none⟩) (fun _ => hO5b) hF5b _
    have HX7 := Lib.hid (HX6.out.setCell (p := ⟨w3.heap.size, 2, none⟩) (fun h => absurd h (by show ¬ w3.heap.size < w.heap.size; omega)) hF5b (.string so))
    have HT7 := Lib.hid (HT6.out.ext hx7 (by omega))
    clear hx7 hxc hbc hb6 hk6 HX6 HT6 HX5 HT5 HB5 HK5 HRP
    have k0 := hk7.cell 0
    have k1 := hk7.cell 1
    have k2 := hk7.cell 2
    have b0 := hb7.cell 0
    have b1 := hb7.cell 1
    have b2 := hb7.cell 2
    dsimp only [List.getElem?_cons_zero, List.getElem?_cons_succ] at k0 k1 k2 b0 b1 b2
    have z := hb7.fz
    have hq := blk_set3 hb7 (.string p) (.int .i64 (1 + v)) (.string so)
    have q0 := hq.cell 0
    have q1 := hq.cell 1
    have q2 := hq.cell 2
    dsimp only [List.getElem?_cons_zero, List.getElem?_cons_succ] at q0 q1 q2
    have HQ := Lib.hid (And.intro q0 (And.intro q1 q2))
    clear hb7 hk7 hq q0 q1 q2
    go_wp2_with fail
    obtain ⟨q0, q1, q2⟩ := HQ.out
    refine bodyPost_ret (v := .agg #[.string p, .int .i64 (1 + v), .string so]) (by simp only [results, Tryz.results44]; simp [go_sem, q0, q1, q2]) rfl ?_
    refine ⟨p, (1 + v), so, g4, rfl, hp, hlo6, by omega, by omega, ?_, ?_⟩
    · exact ((HX7.out.setCell (p := ⟨w.heap.size, 0, none⟩) (fun h => absurd h (Nat.lt_irrefl _)) hF5 _).setCell (p := ⟨w.heap.size, 1, none⟩) (fun h => absurd h (Nat.lt_irrefl _)) hF5 _).setCell (p := ⟨w.heap.size, 2, none⟩) (fun h => absurd h (Nat.lt_irrefl _)) hF5 _
    · have hs : Ext (· = w.heap.size) g4 (wc.setCell ⟨w3.heap.size, 2, none⟩ (.string so)) g4 ((((wc.setCell ⟨w3.heap.size, 2, none⟩ (.string so)).setCell ⟨w.heap.size, 0, none⟩ (.string p)).setCell ⟨w.heap.size, 1, none⟩ (.int .i64 (1 + v))).setCell ⟨w.heap.size, 2, none⟩ (.string so)) :=
        (((Ext.refl _ _ _).setCell (p := ⟨w.heap.size, 0, none⟩) (fun _ => hO5) hF5 _).setCell (p := ⟨w.heap.size, 1, none⟩) (fun _ => hO5) hF5 _).setCell (p := ⟨w.heap.size, 2, none⟩) (fun _ => hO5) hF5 _
      exact (HT7.out.ext hs (by omega)).more (by omega)
  · have f1 : (u == 0) = false := by simpa using hu2
    have f2 : (u == 1) = false := by simpa using hu3
    have f3 : (u == 2) = false := by simpa using hu4
    have hb5 := HB4.out
    have hk5 := HK4.out
    have k0 := hk5.cell 0
    have k1 := hk5.cell 1
    have k2 := hk5.cell 2
    have b0 := hb5.cell 0
    have b1 := hb5.cell 1
    have b2 := hb5.cell 2
    dsimp only [List.getElem?_cons_zero, List.getElem?_cons_succ] at k0 k1 k2 b0 b1 b2
    have z := hb5.fz
    have hq := blk_set3 hb5 (.string p) (.int .i64 (1 + v)) (.string lo)
    have q0 := hq.cell 0
    have q1 := hq.cell 1
    have q2 := hq.cell 2
    dsimp only [List.getElem?_cons_zero, List.getElem?_cons_succ] at q0 q1 q2
    have HQ := Lib.hid (And.intro q0 (And.intro q1 q2))
    clear hb5 hk5 hq q0 q1 q2
    go_wp2_with fail
    obtain ⟨q0, q1, q2⟩ := HQ.out
    refine bodyPost_ret (v := .agg #[.string p, .int .i64 (1 + v), .string lo]) (by simp only [results, Tryz.results44]; simp [go_sem, q0, q1, q2]) rfl ?_
    refine ⟨p, (1 + v), lo, g4, rfl, hp, hlo, by omega, by omega, ?_, ?_⟩
    · exact ((HX4.out.setCell (p := ⟨w.heap.size, 0, none⟩) (fun h => absurd h (Nat.lt_irrefl _)) hF4 _).setCell (p := ⟨w.heap.size, 1, none⟩) (fun h => absurd h (Nat.lt_irrefl _)) hF4 _).setCell (p := ⟨w.heap.size, 2, none⟩) (fun h => absurd h (Nat.lt_irrefl _)) hF4 _
    · have hs : Ext (· = w.heap.size) g4 w4 g4 (((w4.setCell ⟨w.heap.size, 0, none⟩ (.string p)).setCell ⟨w.heap.size, 1, none⟩ (.int .i64 (1 + v))).setCell ⟨w.heap.size, 2, none⟩ (.string lo)) :=
        (((Ext.refl _ _ _).setCell (p := ⟨w.heap.size, 0, none⟩) (fun _ => hO4) hF4 _).setCell (p := ⟨w.heap.size, 1, none⟩) (fun _ => hO4) hF4 _).setCell (p := ⟨w.heap.size, 2, none⟩) (fun _ => hO4) hF4 _
      exact (HT4.out.ext hs (by omega)).more (by omega)

end Go.Proofs.YtjjdffafibonhaaGreatDoor
