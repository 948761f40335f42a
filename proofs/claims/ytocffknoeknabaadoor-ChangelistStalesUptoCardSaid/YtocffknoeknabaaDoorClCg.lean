/-
  The walk of changelist.Change (printed by mkchange.py).
-/
import Derived.Test.YtocffknoeknabaaDoorClG
namespace Go.Proofs.YtocffknoeknabaaDoor
open Go.RowKit

def ChgRet (p : Pnd) (num : Int) (w : World) (e : Ending) (w' : World) : Prop := ∃ E2 R2 e2 r2, e = .returned (.agg #[.int .i64 num, .string p.client, .string p.text, .slice E2 p.edits.length e2, .slice R2 0 r2]) ∧ edtK.In E2 p.edits w' ∧ Below w.heap.size w w'
set_option maxRecDepth 100000 in
set_option maxHeartbeats 6400000 in
theorem change_any (p : Pnd) (num : Int) (E R : Option Addr) (ec rc : Nat) (w : World) (hE : edtK.In E p.edits w) (hlen : p.edits.length ≤ 1000) :
    Calls Tryd.prog 17 #[pndV p E ec R rc, .int .i64 num] w (ChgRet p num w) := by
  have HIE := Lib.hid hE
  have HCE := Lib.hid (fun w h => cloneE_any p.edits E ec w h (by omega))
  have HCR := Lib.hid (fun w => cloneC0_any R rc w)
  clear hE
  obtain ⟨pn, pc, pt, ps, V⟩ := p
  unfold pndV pndC
  dsimp only at *
  go_enter Tryd.func17, Tryd.ntmps17
  go_upto_region 1 with fail
  generalize hw1 : World.alloc _ (.cells #[.int .i64 0, .string ⟨#[]⟩, .string ⟨#[]⟩, .slice none 0 0, .slice none 0 0] 44) = w1
  have HM1 : Hid (Bs [(w.heap.size + 1, 44, [.int .i64 0, .string ⟨#[]⟩, .string ⟨#[]⟩, .slice none 0 0, .slice none 0 0]), (w.heap.size, 34, [.int .i64 pn, .string pc, .string pt, .bool ps, .slice E V.length ec, .slice R 0 rc])] w1) := by
    show Bs _ _
    rw [← hw1]
    exact ⟨Blk.new1 _ _ _ _, (Blk.new _ _ _).alloc _, trivial⟩
  have HB1 : Hid (Below w.heap.size w w1) := by
    show Below _ _ _
    rw [← hw1]
    (repeat (first | (with_reducible exact Below.refl _ _) | (with_reducible assumption) | (with_reducible refine Below.setCell ?_ ?_ _; rotate_left; focus (first | exact Nat.le_refl _ | (dsimp only; omega))) | (with_reducible refine Below.drew ?_) | (with_reducible refine below_drewN ?_ _) | (with_reducible refine Below.alloc ?_ ?_ _; rotate_left; focus (first | exact Nat.le_refl _ | (simp; done) | (simp; omega)))))
  clear hw1
  have lt1 := HM1.out.1.lt
  have hS : Bs [(w.heap.size, 34, [.int .i64 pn, .string pc, .string pt, .bool ps, .slice E V.length ec, .slice R 0 rc])] w1.drew := (show Bs [(w.heap.size, 34, [.int .i64 pn, .string pc, .string pt, .bool ps, .slice E V.length ec, .slice R 0 rc])] w1 from HM1.out.2).drew
  have HMD := Lib.hid HM1.out.drew
  have HBD := Lib.hid HB1.out.drew
  (refine wp_region_mix (S := Bs [(w.heap.size, 34, [.int .i64 pn, .string pc, .string pt, .bool ps, .slice E V.length ec, .slice R 0 rc])]) [] [([0, 1, 2, 3, 4, 5, 6, 8, 9], 7), ([], 10), ([11], 12)] (by kernel_rfl) (by kernel_rfl) (by intro c a d v w h; cases d <;> exact h) hS ?_; have hN : Nonempty (Held (Bs [(w.heap.size, 34, [.int .i64 pn, .string pc, .string pt, .bool ps, .slice E V.length ec, .slice R 0 rc])])) := ⟨⟨_, hS⟩⟩)
  obtain ⟨p0, p1, p2, p3, p4, p5⟩ := fun_and6 (fun y : Held (Bs [(w.heap.size, 34, [.int .i64 pn, .string pc, .string pt, .bool ps, .slice E V.length ec, .slice R 0 rc])]) => y.ok.1.c6)
  (unfold wpMix wpRd; (repeat (first | simp only [List.filterMap_cons] | simp only [List.filterMap_nil] | simp only [List.getElem?_toArray] | simp only [List.getElem?_cons_zero] | simp only [List.getElem?_cons_succ])); (try dsimp only); change wpQuiet _ _ _ _ (_ :: _ :: _ :: _ :: _ :: _ :: _ :: _ :: _ :: []) _; (repeat (go_big_quiet_step (fail))); refine wpQuiet_nil ?_; (try dsimp only))
  -- MARKA
  have lt1d : w.heap.size + 1 < w1.drew.heap.size := lt1
  generalize hwq : w1.drew = wq at *
  clear hwq HM1 HB1 p0 p1 p2 p3 p4 p5
  go_wp2_with fail
  refine (HCE.out _ (HIE.out.below HBD.out)).mono ?_
  rintro e y1 ⟨v1, rfl, ho1, hb1⟩
  obtain ⟨E2, e2, rfl⟩ := own_slice ho1
  have HI1 := Lib.hid (RowK.In.of_row (R := edtK) ho1)
  have HM2 := Lib.hid (HMD.out.below hb1)
  have HB2 := Lib.hid (HBD.out.trans (hb1.mono HBD.out.size))
  have HFR : Hid (∀ b off, E2 = some ⟨b, off, none⟩ → w.heap.size + 1 < b) := fun b off e => by have := (ho1.lt b (by rw [e]; rfl)).1; omega
  clear ho1 hb1 HMD HBD hS
  go_wp2_with fail
  refine ⟨HM2.out.2, ?_⟩
  (unfold wpMix wpRd; (repeat (first | simp only [List.filterMap_cons] | simp only [List.filterMap_nil] | simp only [List.getElem?_toArray] | simp only [List.getElem?_cons_zero] | simp only [List.getElem?_cons_succ])); (try dsimp only); change wpQuiet _ _ _ _ ([]) _; (repeat (go_big_quiet_step (fail))); refine wpQuiet_nil ?_; (try dsimp only))
  ((repeat (first | simp only [List.getElem?_toArray] | simp only [List.getElem?_cons_zero] | simp only [List.getElem?_cons_succ])); (try dsimp only))
  go_wp2_with fail
  -- MARKB
  refine (HCR.out _).mono ?_
  rintro e y2 ⟨R2, r2, rfl, hb2⟩
  have HM3 := Lib.hid (HM2.out.below hb2)
  have HB3 := Lib.hid (HB2.out.trans (hb2.mono HB2.out.size))
  have HI3 := Lib.hid (HI1.out.below hb2)
  clear hb2 HM2 HB2 HI1
  go_wp2_with fail
  refine ⟨HM3.out.2, ?_⟩
  (unfold wpMix wpRd; (repeat (first | simp only [List.filterMap_cons] | simp only [List.filterMap_nil] | simp only [List.getElem?_toArray] | simp only [List.getElem?_cons_zero] | simp only [List.getElem?_cons_succ])); (try dsimp only); change wpQuiet _ _ _ _ (_ :: []) _; (repeat (go_big_quiet_step (fail))); refine wpQuiet_nil ?_; (try dsimp only))
  ((repeat (first | simp only [List.getElem?_toArray] | simp only [List.getElem?_cons_zero] | simp only [List.getElem?_cons_succ])); (try dsimp only))
  obtain ⟨z0, z1, z2, z3, z4⟩ := HM3.out.1.c5
  have f0 := HM3.out.1.fz 0
  have f1 := HM3.out.1.fz 1
  have f2 := HM3.out.1.fz 2
  have f3 := HM3.out.1.fz 3
  have f4 := HM3.out.1.fz 4
  have hnb : ∀ b off, E2 = some ⟨b, off, none⟩ → b ≠ w.heap.size + 1 := fun b off e => by have := HFR.out b off e; omega
  have KZ := Lib.hid (show Blk (w.heap.size + 1) 44 [.int .i64 num, .string pc, .string pt, .slice E2 V.length e2, .slice R2 0 r2] _ from (((((HM3.out.1.set 0 (.int .i64 num)).set 1 (.string pc)).set 2 (.string pt)).set 3 (.slice E2 V.length e2)).set 4 (.slice R2 0 r2)))
  have KP := Lib.hid (show Blk w.heap.size 34 [.int .i64 pn, .string pc, .string pt, .bool ps, .slice E V.length ec, .slice R 0 rc] _ from (((((HM3.out.2.1.far (p := ⟨w.heap.size + 1, 0, none⟩) (by dsimp only; omega) (.int .i64 num)).far (p := ⟨w.heap.size + 1, 1, none⟩) (by dsimp only; omega) (.string pc)).far (p := ⟨w.heap.size + 1, 2, none⟩) (by dsimp only; omega) (.string pt)).far (p := ⟨w.heap.size + 1, 3, none⟩) (by dsimp only; omega) (.slice E2 V.length e2)).far (p := ⟨w.heap.size + 1, 4, none⟩) (by dsimp only; omega) (.slice R2 0 r2)))
  have HBZ := Lib.hid ((((((HB3.out.setCell (p := ⟨w.heap.size + 1, 0, none⟩) (by dsimp only; omega) (.int .i64 num)).setCell (p := ⟨w.heap.size + 1, 1, none⟩) (by dsimp only; omega) (.string pc)).setCell (p := ⟨w.heap.size + 1, 2, none⟩) (by dsimp only; omega) (.string pt)).setCell (p := ⟨w.heap.size + 1, 3, none⟩) (by dsimp only; omega) (.slice E2 V.length e2)).setCell (p := ⟨w.heap.size + 1, 4, none⟩) (by dsimp only; omega) (.slice R2 0 r2)))
  have HIZ := Lib.hid ((((((HI3.out.setC (p := ⟨w.heap.size + 1, 0, none⟩) hnb (.int .i64 num)).setC (p := ⟨w.heap.size + 1, 1, none⟩) hnb (.string pc)).setC (p := ⟨w.heap.size + 1, 2, none⟩) hnb (.string pt)).setC (p := ⟨w.heap.size + 1, 3, none⟩) hnb (.slice E2 V.length e2)).setC (p := ⟨w.heap.size + 1, 4, none⟩) hnb (.slice R2 0 r2)))
  clear hnb
  -- MARKC
  go_wp2_with fail
  generalize World.setCell (World.setCell (World.setCell (World.setCell (World.setCell y2 _ _) _ _) _ _) _ _) _ _ = wz at *
  refine ⟨⟨KP.out, trivial⟩, ?_⟩
  (unfold wpMix wpRd; (repeat (first | simp only [List.filterMap_cons] | simp only [List.filterMap_nil] | simp only [List.getElem?_toArray] | simp only [List.getElem?_cons_zero] | simp only [List.getElem?_cons_succ])); (try dsimp only); change wpQuiet _ _ _ _ ([]) _; (repeat (go_big_quiet_step (fail))); refine wpQuiet_nil ?_; (try dsimp only))
  obtain ⟨x0, x1, x2, x3, x4⟩ := KZ.out.c5
  go_wp2_with fail
  -- MARKD
  refine bodyPost_ret (v := .agg #[.int .i64 num, .string pc, .string pt, .slice E2 V.length e2, .slice R2 0 r2]) (by simp [results, Tryd.results17, go_sem, x0, x1, x2, x3, x4]) rfl ?_
  exact ⟨E2, R2, e2, r2, rfl, HIZ.out, HBZ.out⟩
end Go.Proofs.YtocffknoeknabaaDoor
