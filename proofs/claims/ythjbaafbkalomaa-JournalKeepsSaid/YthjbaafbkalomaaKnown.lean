/-
  The sanity check of the chapter.
-/
import Derived.Test.YthjbaafbkalomaaLit
namespace Go.Proofs.Ythjbaafbkalomaa
open Go.RowKit

set_option maxRecDepth 100000 in
set_option maxHeartbeats 1600000 in
theorem known_any (g : Gh) (w : World) : Calls Try.prog 6 #[] w fun e w' => e = .returned (.bool true) ∧ ∃ g', Ext (fun o => w.heap.size ≤ o) g w g' w' := by
  have hcv := fun (w : World) (C : Array Value) (n c : Nat) => Lib.run_convert_bytes_const (P := Try.prog) w 37 5 C n c Try.underlying37 Try.underlying5
  go_enter Try.func6, Try.ntmps6
  go_wp2_with fail
  refine (gnew g w).mono ?_
  rintro e w1 ⟨d, g1, rfl, hd, hx1, hD1⟩
  have HX1 := Lib.hid hx1
  have HD1 := Lib.hid hD1
  clear hx1 hD1
  go_wp2_with fail
  refine (open_none d g1 w1 dev0 HD1.out ⟨#[106]⟩ (by decide) rfl rfl).mono ?_
  rintro e w2 ⟨j, g2, rfl, hj, hx2, hJ2⟩
  have hG2 := Good.dev0 (name := ⟨#[106]⟩) (by decide) 0
  have hjw : w.heap.size ≤ j := Nat.le_trans HX1.out.size hj
  have HX2 : Hid (Ext (fun o => w.heap.size ≤ o) g w g2 w2) := (HX1.out.trans hx2).imp (fun _ h => h.elim)
  have HJ2 := Lib.hid hJ2
  have HG2 := Lib.hid hG2
  have HD2 := Lib.hid (HD1.out.ext hx2 (fun h => h))
  clear hx2 hJ2 hG2 HX1 HD1 hj
  go_wp2_with fail
  refine (gappend_lit j d g2 w2 _ _ 0 0 HJ2.out HD2.out HG2.out (by omega) (by omega) [97] (1, 2) (by decide)).mono ?_
  have HG3 := Lib.hid (HG2.out.appJ [97])
  rw [show jappI (jrn0 ⟨#[106]⟩) [97] = 0 from by decide, show jappJ (jrn0 ⟨#[106]⟩) [97] = ⟨⟨#[106]⟩, 0, [], [[97]], 1, false, false⟩ from rfl]
  rw [show jappJ (jrn0 ⟨#[106]⟩) [97] = ⟨⟨#[106]⟩, 0, [], [[97]], 1, false, false⟩ from rfl] at HG3
  rintro e w3 ⟨rfl, hP⟩
  (obtain ⟨g3, hx3, hJ3, hD3⟩ := hP; have HX3 := Lib.hid (HX2.out.trans (hx3.imp (fun o h => show w.heap.size ≤ o from by rcases h with rfl | rfl <;> omega))); have HJ3 := Lib.hid hJ3; have HD3 := Lib.hid hD3; clear hx3 hJ3 hD3 HX2 HJ2 HD2)
  go_wp2_with fail
  refine (gappend_lit j d g3 w3 _ _ 0 _ HJ3.out HD3.out HG3.out (by omega) (by omega) [98] (1, 2) (by decide)).mono ?_
  have HG4 := Lib.hid (HG3.out.appJ [98])
  rw [show jappI ⟨⟨#[106]⟩, 0, [], [[97]], 1, false, false⟩ [98] = 0 from by decide, show jappJ ⟨⟨#[106]⟩, 0, [], [[97]], 1, false, false⟩ [98] = ⟨⟨#[106]⟩, 0, [], [[97], [98]], 2, false, false⟩ from rfl]
  rw [show jappJ ⟨⟨#[106]⟩, 0, [], [[97]], 1, false, false⟩ [98] = ⟨⟨#[106]⟩, 0, [], [[97], [98]], 2, false, false⟩ from rfl] at HG4
  rintro e w4 ⟨rfl, hP⟩
  (obtain ⟨g4, hx4, hJ4, hD4⟩ := hP; have HX4 := Lib.hid (HX3.out.trans (hx4.imp (fun o h => show w.heap.size ≤ o from by rcases h with rfl | rfl <;> omega))); have HJ4 := Lib.hid hJ4; have HD4 := Lib.hid hD4; clear hx4 hJ4 hD4 HX3 HJ3 HD3)
  go_wp2_with fail
  refine (gcommit j d g4 w4 _ _ 0 _ HJ4.out HD4.out HG4.out (by omega) (by omega)).mono ?_
  rw [show comR ⟨⟨#[106]⟩, 0, [], [[97], [98]], 2, false, false⟩ = ⟨⟨#[106]⟩, 0, [[97], [98]], [], 2, true, false⟩ from rfl]
  rintro e w5 ⟨rfl, D5, hP, hG5, _⟩
  have HG5 := Lib.hid hG5
  clear hG5
  (obtain ⟨g5, hx5, hJ5, hD5⟩ := hP; have HX5 := Lib.hid (HX4.out.trans (hx5.imp (fun o h => show w.heap.size ≤ o from by rcases h with rfl | rfl <;> omega))); have HJ5 := Lib.hid hJ5; have HD5 := Lib.hid hD5; clear hx5 hJ5 hD5 HX4 HJ4 HD4)
  go_wp2_with fail
  refine (gappend_lit j d g5 w5 _ _ 0 _ HJ5.out HD5.out HG5.out (by omega) (by omega) [99] (1, 2) (by decide)).mono ?_
  have HG6 := Lib.hid (HG5.out.appJ [99])
  rw [show jappI ⟨⟨#[106]⟩, 0, [[97], [98]], [], 2, true, false⟩ [99] = 0 from by decide, show jappJ ⟨⟨#[106]⟩, 0, [[97], [98]], [], 2, true, false⟩ [99] = ⟨⟨#[106]⟩, 0, [[97], [98]], [[99]], 3, true, false⟩ from rfl]
  rw [show jappJ ⟨⟨#[106]⟩, 0, [[97], [98]], [], 2, true, false⟩ [99] = ⟨⟨#[106]⟩, 0, [[97], [98]], [[99]], 3, true, false⟩ from rfl] at HG6
  rintro e w6 ⟨rfl, hP⟩
  (obtain ⟨g6, hx6, hJ6, hD6⟩ := hP; have HX6 := Lib.hid (HX5.out.trans (hx6.imp (fun o h => show w.heap.size ≤ o from by rcases h with rfl | rfl <;> omega))); have HJ6 := Lib.hid hJ6; have HD6 := Lib.hid hD6; clear hx6 hJ6 hD6 HX5 HJ5 HD5)
  go_wp2_with fail
  refine (gcut j d g6 w6 _ _ 0 _ HJ6.out HD6.out HG6.out (by omega) (by omega) 1).mono ?_
  rw [show cutI ⟨⟨#[106]⟩, 0, [[97], [98]], [[99]], 3, true, false⟩ 1 = 0 from by decide, show cutR ⟨⟨#[106]⟩, 0, [[97], [98]], [[99]], 3, true, false⟩ 1 = ⟨⟨#[106]⟩, 1, [[98]], [[99]], 2, true, false⟩ from rfl]
  rintro e w7 ⟨rfl, D7, hP, _, _⟩
  (obtain ⟨g7, hx7, hJ7, hD7⟩ := hP; have HX7 := Lib.hid (HX6.out.trans (hx7.imp (fun o h => show w.heap.size ≤ o from by rcases h with rfl | rfl <;> omega))); have HJ7 := Lib.hid hJ7; have HD7 := Lib.hid hD7; clear hx7 hJ7 hD7 HX6 HJ6 HD6)
  go_wp2_with fail
  refine (get_any j d g7 w7 _ HJ7.out 1 (by decide) (by decide) (by decide) (by decide) (by decide) (by decide)).mono ?_
  rw [show getR ⟨⟨#[106]⟩, 1, [[98]], [[99]], 2, true, false⟩ 1 = some [98] from rfl]
  rintro e w8 ⟨A8, c8, g8, rfl, hx8, hB8⟩
  have HX8 := Lib.hid (HX7.out.trans (hx8.imp (fun o h => h.elim)))
  have HJ8 := Lib.hid (HJ7.out.ext hx8 (fun h => h))
  have HB8 := Lib.hid hB8
  clear hx8 hB8 HX7 HJ7
  go_wp2_with fail
  refine (get_any j d g8 w8 _ HJ8.out 2 (by decide) (by decide) (by decide) (by decide) (by decide) (by decide)).mono ?_
  rw [show getR ⟨⟨#[106]⟩, 1, [[98]], [[99]], 2, true, false⟩ 2 = none from rfl]
  rintro e w9 ⟨rfl, n9, rfl⟩
  have hx9 : Ext (fun _ => False) g8 w8 g8 (w8.drewN n9) := (Ext.refl _ _ _).drewN _
  have HX9 := Lib.hid (HX8.out.trans (hx9.imp (fun o h => h.elim)))
  have HJ9 := Lib.hid (HJ8.out.ext hx9 (fun h => h))
  have HB9 := Lib.hid (HB8.out.ext hx9)
  clear hx9 HX8 HJ8 HB8
  generalize w8.drewN n9 = w9 at *
  go_wp2_with fail
  refine (jstart_any j d g8 w9 _ HJ9.out).mono ?_
  rintro e w' ⟨rfl, rfl⟩
  go_wp2_with fail
  refine (jend_any j d g8 w9 _ HJ9.out (by decide) (by decide) (by decide)).mono ?_
  rintro e w' ⟨rfl, n10, rfl⟩
  have hx10 : Ext (fun _ => False) g8 w9 g8 (w9.drewN n10) := (Ext.refl _ _ _).drewN _
  have HX10 := Lib.hid (HX9.out.trans (hx10.imp (fun o h => h.elim)))
  have HJ10 := Lib.hid (HJ9.out.ext hx10 (fun h => h))
  have hst := (HB9.out.ext hx10).str
  change (convert 37 9 (.slice A8 1 c8)).run Try.prog _ = _ at hst
  clear hx10 HX9 HJ9 HB9
  generalize w9.drewN n10 = w10 at *
  go_wp2_with fail
  refine (jpending_any j d g8 w10 _ HJ10.out).mono ?_
  rintro e w' ⟨rfl, rfl⟩
  go_wp2_with fail
  go_ret
  exact ⟨rfl, g8, HX10.out⟩

end Go.Proofs.Ythjbaafbkalomaa
