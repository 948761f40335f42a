/-
  CreditOriginals returns true for all changes and names that are not longer than 1048576 bytes; what was in memory before the call stays as it was (printed by mklaw14.py).
-/
import Derived.Test.YthonhikkoabhlaaDoorCrA
import Derived.Test.YthonhikkoabhlaaDoorCrX
import Derived.Test.YthonhikkoabhlaaDoorCrW
import Derived.Test.YthonhikkoabhlaaDoorDpM
import Derived.Test.YthonhikkoabhlaaDoorDpN
namespace Go.Proofs.YthonhikkoabhlaaDoor
open Go.RowKit

set_option maxRecDepth 100000 in
set_option maxHeartbeats 12800000 in
theorem lorig_any (l : List Chg) (A : Option Addr) (ca : Nat) (p : ByteArray) (n : Int) (w : World) (hA : ChsIn A l w) (hb : ChBnd l) (hp : p.size ≤ 1048576) (hn : (Lit.int .i64 n).wf = true) (hg : G0 w) :
    Calls Tryd.prog 3 #[.slice A l.length ca, .string p, .int .i64 n] w fun e w' => e = .returned (.bool true) ∧ Below w.heap.size w w' := by
  have HSM := Lib.hid (fun x hx => rsmall_any l A ca x (hA.below hx) hb)
  have HBU := Lib.hid (fun x (hx : Below w.heap.size w x) => rbuild_any l A ca x (hA.below hx) (by have := hb.len; omega) (fun c hc => hb.sz hc) (hg.below hx))
  have HG := Lib.hid hg
  have HVO : Hid (FOk (p, n)) := ⟨by show p.size ≤ _; omega, hn⟩
  clear hA hb hg hn
  go_enter Tryd.func3, Tryd.ntmps3
  go_wp2_with fail
  refine (HSM.out _ (Below.refl _ _)).mono ?_
  rintro e w1 ⟨sm, rfl, -, hb1⟩
  have HB1 := Lib.hid hb1
  clear hb1
  cases sm
  · go_wp2_with (go_at_call 11; refine (awake14_any _).mono ?_; rintro e w9 ⟨rfl, HB9⟩)
    go_ret
    exact ⟨rfl, HB1.out.trans (HB9.mono HB1.out.size)⟩
  by_cases h6 : 300 < p.size
  · have h6' : (300 : Int) < (p.size : Int) := by omega
    go_wp2_with (go_at_call 11; refine (awake14_any _).mono ?_; rintro e w9 ⟨rfl, HB9⟩)
    go_ret
    exact ⟨rfl, HB1.out.trans (HB9.mono HB1.out.size)⟩
  have h6' : ¬ (300 : Int) < (p.size : Int) := by omega
  go_wp2_with fail
  refine (HBU.out _ HB1.out).mono ?_
  rintro e w3 ⟨d, DA, DB, da, db, rfl, hblt, hIA, hIB, hb3⟩
  have HC := Lib.hid hblt.crd
  have HMO := Lib.hid hblt.mono
  have HBLT := Lib.hid hblt
  have hRl : d.revs.length ≤ 512 := hblt.ok.few
  have HB3 := Lib.hid (HB1.out.trans (hb3.mono HB1.out.size))
  have HIA3 := Lib.hid hIA
  have HIB3 := Lib.hid hIB
  clear hb3 HB1 hIA hIB hblt HSM HBU
  have HM4 : Hid (Bs [(w3.heap.size, 28, [.slice DA d.revs.length da, .slice DB d.recs.length db])] (w3.alloc (.cells [.slice DA d.revs.length da, .slice DB d.recs.length db].toArray 28))) := ⟨Blk.new w3 28 [.slice DA d.revs.length da, .slice DB d.recs.length db], trivial⟩
  have HB4 : Hid (Below w.heap.size w (w3.alloc (.cells [.slice DA d.revs.length da, .slice DB d.recs.length db].toArray 28))) := HB3.out.alloc HB3.out.size _
  have HI4 := Lib.hid (HIA3.out.below ((Below.refl _ _).alloc (Nat.le_refl _) (.cells [.slice DA d.revs.length da, .slice DB d.recs.length db].toArray 28)))
  have HQ4 := Lib.hid (HIB3.out.below ((Below.refl _ _).alloc (Nat.le_refl _) (.cells [.slice DA d.revs.length da, .slice DB d.recs.length db].toArray 28)))
  have ltq : w3.heap.size < (w3.alloc (.cells [.slice DA d.revs.length da, .slice DB d.recs.length db].toArray 28)).heap.size := by simp
  have hq0 : w.heap.size ≤ w3.heap.size := HB3.out.size
  go_upto_region 4 with fail
  generalize w3.heap.size = qb at *
  generalize World.alloc w3 (.cells #[.slice DA d.revs.length da, .slice DB d.recs.length db] 28) = w4 at *
  clear HB3 HIA3 HIB3
  obtain ⟨d0, d1⟩ := HM4.out.1.c2
  go_wp2_with fail
  refine (porig_any d DA DB da db p n w4 HC.out HI4.out HQ4.out HVO.out).mono ?_
  rintro e w5 ⟨rfl, hb5⟩
  have HB5 := Lib.hid (HB4.out.trans (hb5.mono HB4.out.size))
  have HM5 := Lib.hid (HM4.out.below hb5)
  have HI5 := Lib.hid (HI4.out.below hb5)
  have HQ5 := Lib.hid (HQ4.out.below hb5)
  clear hb5 HM4 HB4 HI4 HQ4 d0 d1
  obtain ⟨d0, d1⟩ := HM5.out.1.c2
  go_wp2_with fail
  refine (rof_any d DA DB da db p n w5 HC.out HI5.out HQ5.out HVO.out).mono ?_
  rintro e w6 (⟨hm, rfl, hb6⟩ | ⟨hm, b1, b2, b3, rfl, -, -, -, hb6⟩)
  · have HB6 := Lib.hid ((HB5.out.trans (hb6.mono HB5.out.size)).alloc (Nat.le_trans HB5.out.size hb6.size) (.cells #[.bool false, .map none, .map none, .map none] 36))
    have he : errC d (p, n) = 140 := errC_no hm
    have ho : origM d (p, n) = false := by unfold origM; rw [hm]; rfl
    rw [he, ho]
    clear hm he ho hb6 d0 d1 HB5 HM5 HI5 HQ5
    go_wp2_with (go_at_call 11; refine (awake14_any _).mono ?_; rintro e w9 ⟨rfl, HB9⟩)
    go_ret
    exact ⟨rfl, HB6.out.trans (HB9.mono HB6.out.size)⟩
  · have HB6 := Lib.hid (HB5.out.trans (hb6.mono HB5.out.size))
    have he : errC d (p, n) = 0 := errC_mem hm
    have ho : origM d (p, n) = origD d.recs (p, n) := by unfold origM; rw [hm]; rfl
    rw [he, ho]
    clear hm he ho hb6 d0 d1 HB5 HM5 HI5 HQ5
    have HB7 := Lib.hid (HB6.out.alloc HB6.out.size (.cells #[.bool (origD d.recs (p, n)), .map (some b1), .map (some b2), .map (some b3)] 36))
    generalize origD d.recs (p, n) = oo at *
    cases oo
    · go_wp2_with (go_at_call 11; refine (awake14_any _).mono ?_; rintro e w9 ⟨rfl, HB9⟩)
      go_ret
      exact ⟨rfl, HB7.out.trans (HB9.mono HB7.out.size)⟩
    · go_wp2_with (go_at_call 11; refine (awake14_any _).mono ?_; rintro e w9 ⟨rfl, HB9⟩)
      go_ret
      exact ⟨rfl, HB7.out.trans (HB9.mono HB7.out.size)⟩
end Go.Proofs.YthonhikkoabhlaaDoor
