/-
  The walk of JournalNames.
-/
import Derived.Test.YtopggjpaplhboaaKnown
namespace Go.Proofs.Ytopggjpaplhboaa
open Go.RowKit

def gh0 : Gh := ⟨fun _ => 0, fun b => b⟩
theorem Ext.fin {g' : Gh} {w w' : World} (h : Ext (fun o => w.heap.size ≤ o) gh0 w g' w') : Below w.heap.size w w' :=
  h.to_below (Nat.le_refl _) (fun b hb => by show ¬ w.heap.size ≤ b; omega)

set_option maxRecDepth 100000 in
set_option maxHeartbeats 1600000 in
theorem lawNames_any (s : ByteArray) (w : World) (hs : s.size ≤ 9223372036854775807) : Calls Try.prog 3 #[.string s] w fun e w' => e = .returned (.bool true) ∧ Below w.heap.size w w' := by
  by_cases hn : nmB false 40 s = true
  · go_enter Try.func3, Try.ntmps3
    go_wp2_with fail
    refine (gnew gh0 w).mono ?_
    rintro e w1 ⟨d, g1, rfl, hd, hx1, hD1⟩
    have HX1 := Lib.hid hx1
    have HD1 := Lib.hid hD1
    clear hx1 hD1
    go_wp2_with fail
    refine (open_none d g1 w1 dev0 HD1.out s hn rfl rfl).mono ?_
    rintro e w2 ⟨j, g2, rfl, hj, hx2, hJ2⟩
    have hjw : w.heap.size ≤ j := Nat.le_trans HX1.out.size hj
    have HX2 : Hid (Ext (fun o => w.heap.size ≤ o) gh0 w g2 w2) := (HX1.out.trans hx2).imp (fun _ h => h.elim)
    have HJ2 := Lib.hid hJ2
    clear hx2 hJ2 HX1 HD1 hj
    go_wp2_with fail
    refine (rname_any s w2 hs).mono ?_
    rw [hn]
    rintro e w' ⟨rfl, rfl⟩
    go_wp2_with fail
    refine (known_any g2 w2).mono ?_
    rintro e w3 ⟨rfl, g3, hx3⟩
    have hjl := HJ2.out.lt
    have HX3 := Lib.hid (HX2.out.trans (hx3.imp (fun o h => Nat.le_trans HX2.out.size h)))
    have HJ3 := Lib.hid (HJ2.out.ext hx3 (by omega))
    clear hx3 HX2 HJ2
    go_wp2_with fail
    refine (jstart_any j d g3 w3 _ HJ3.out).mono ?_
    rintro e w' ⟨rfl, rfl⟩
    go_wp2_with fail
    refine (jend_any j d g3 w3 _ HJ3.out (by simp [jrn0]) (by simp [jrn0]) (by simp [jrn0])).mono ?_
    rintro e w' ⟨rfl, n, rfl⟩
    have hx4 : Ext (fun _ => False) g3 w3 g3 (w3.drewN n) := (Ext.refl _ _ _).drewN _
    have HX4 := Lib.hid (HX3.out.trans (hx4.imp (fun o h => h.elim)))
    have HJ4 := Lib.hid (HJ3.out.ext hx4 (fun h => h))
    clear hx4 HX3 HJ3
    generalize w3.drewN n = w4 at *
    go_wp2_with fail
    refine (jpending_any j d g3 w4 _ HJ4.out).mono ?_
    rintro e w' ⟨rfl, rfl⟩
    simp only [jrn0, List.length_nil]
    go_wp2_with fail
    go_ret
    exact ⟨rfl, HX4.out.fin⟩
  · have hn : nmB false 40 s = false := by simpa using hn
    go_enter Try.func3, Try.ntmps3
    go_wp2_with fail
    refine (gnew gh0 w).mono ?_
    rintro e w1 ⟨d, g1, rfl, hd, hx1, hD1⟩
    have HX1 := Lib.hid hx1
    clear hx1 hD1
    go_wp2_with fail
    refine (open_bad d w1 s hs hn).mono ?_
    rintro e w' ⟨rfl, rfl⟩
    go_wp2_with fail
    refine (rname_any s w1 hs).mono ?_
    rw [hn]
    rintro e w' ⟨rfl, rfl⟩
    go_wp2_with fail
    refine (known_any g1 w1).mono ?_
    rintro e w3 ⟨rfl, g3, hx3⟩
    have HX3 := Lib.hid ((HX1.out.imp (fun _ h => h.elim)).trans (hx3.imp (M' := fun o => w.heap.size ≤ o) (fun o h => Nat.le_trans HX1.out.size h)))
    clear hx3
    go_wp2_with fail
    go_ret
    exact ⟨rfl, HX3.out.fin⟩

end Go.Proofs.Ytopggjpaplhboaa
