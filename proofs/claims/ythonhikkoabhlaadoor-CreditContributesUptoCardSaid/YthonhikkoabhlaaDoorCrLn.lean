/-
  CreditContributes returns true for all changes and names that are not longer than 1048576 bytes; what was in memory before the call stays as it was (printed by mklaw14.py).
-/
import Derived.Test.YthonhikkoabhlaaDoorCrA
import Derived.Test.YthonhikkoabhlaaDoorCrR
import Derived.Test.YthonhikkoabhlaaDoorCrX
import Derived.Test.YthonhikkoabhlaaDoorCrW
import Derived.Test.YthonhikkoabhlaaDoorDpM
import Derived.Test.YthonhikkoabhlaaDoorDpN
namespace Go.Proofs.YthonhikkoabhlaaDoor
open Go.RowKit

set_option maxRecDepth 100000 in
set_option maxHeartbeats 12800000 in
theorem lcon_any (l : List Chg) (A : Option Addr) (ca : Nat) (p : ByteArray) (n : Int) (w : World) (hA : ChsIn A l w) (hb : ChBnd l) (hp : p.size ≤ 1048576) (hn : (Lit.int .i64 n).wf = true) (hg : G0 w) :
    Calls Tryd.prog 5 #[.slice A l.length ca, .string p, .int .i64 n] w fun e w' => e = .returned (.bool true) ∧ Below w.heap.size w w' := by
  have HSM := Lib.hid (fun x hx => rsmall_any l A ca x (hA.below hx) hb)
  have HBU := Lib.hid (fun x (hx : Below w.heap.size w x) => rbuild_any l A ca x (hA.below hx) (by have := hb.len; omega) (fun c hc => hb.sz hc) (hg.below hx))
  have HG := Lib.hid hg
  have HVO : Hid (FOk (p, n)) := ⟨by show p.size ≤ _; omega, hn⟩
  clear hA hb hg hn
  go_enter Tryd.func5, Tryd.ntmps5
  go_wp2_with fail
  refine (HSM.out _ (Below.refl _ _)).mono ?_
  rintro e w1 ⟨sm, rfl, -, hb1⟩
  have HB1 := Lib.hid hb1
  clear hb1
  cases sm
  · go_wp2_with (go_at_call 11; refine (awake14_any _).mono ?_; rintro e w9 ⟨rfl, HB9⟩)
    go_ret
    exact ⟨rfl, HB1.out.trans (HB9.mono HB1.out.size)⟩
  by_cases h6 : 300 < p.size
  · have h6' : (300 : Int) < (p.size : Int) := by omega
    go_wp2_with (go_at_call 11; refine (awake14_any _).mono ?_; rintro e w9 ⟨rfl, HB9⟩)
    go_ret
    exact ⟨rfl, HB1.out.trans (HB9.mono HB1.out.size)⟩
  have h6' : ¬ (300 : Int) < (p.size : Int) := by omega
  go_wp2_with fail
  refine (HBU.out _ HB1.out).mono ?_
  rintro e w3 ⟨d, DA, DB, da, db, rfl, hblt, hIA, hIB, hb3⟩
  have HC := Lib.hid hblt.crd
  have HMO := Lib.hid hblt.mono
  have HBLT := Lib.hid hblt
  have hRl : d.revs.length ≤ 512 := hblt.ok.few
  have HB3 := Lib.hid (HB1.out.trans (hb3.mono HB1.out.size))
  have HIA3 := Lib.hid hIA
  have HIB3 := Lib.hid hIB
  clear hb3 HB1 hIA hIB hblt HSM HBU
  have HM4 : Hid (Bs [(w3.heap.size, 28, [.slice DA d.revs.length da, .slice DB d.recs.length db])] (w3.alloc (.cells [.slice DA d.revs.length da, .slice DB d.recs.length db].toArray 28))) := ⟨Blk.new w3 28 [.slice DA d.revs.length da, .slice DB d.recs.length db], trivial⟩
  have HB4 : Hid (Below w.heap.size w (w3.alloc (.cells [.slice DA d.revs.length da, .slice DB d.recs.length db].toArray 28))) := HB3.out.alloc HB3.out.size _
  have HI4 := Lib.hid (HIA3.out.below ((Below.refl _ _).alloc (Nat.le_refl _) (.cells [.slice DA d.revs.length da, .slice DB d.recs.length db].toArray 28)))
  have HQ4 := Lib.hid (HIB3.out.below ((Below.refl _ _).alloc (Nat.le_refl _) (.cells [.slice DA d.revs.length da, .slice DB d.recs.length db].toArray 28)))
  have ltq : w3.heap.size < (w3.alloc (.cells [.slice DA d.revs.length da, .slice DB d.recs.length db].toArray 28)).heap.size := by simp
  have hq0 : w.heap.size ≤ w3.heap.size := HB3.out.size
  go_upto_region 4 with fail
  generalize w3.heap.size = qb at *
  generalize World.alloc w3 (.cells #[.slice DA d.revs.length da, .slice DB d.recs.length db] 28) = w4 at *
  clear HB3 HIA3 HIB3
  obtain ⟨d0, d1⟩ := HM4.out.1.c2
  go_wp2_with fail
  refine (pcon_any d DA DB da db p n w4 HC.out HI4.out HQ4.out HVO.out).mono ?_
  rintro e w5 ⟨L, A5, c5, rfl, hi5, hs5, hm5, hb5⟩
  have HB5 := Lib.hid (HB4.out.trans (hb5.mono HB4.out.size))
  have HM5 := Lib.hid (HM4.out.below hb5)
  have HI5 := Lib.hid (HI4.out.below hb5)
  have HQ5 := Lib.hid (HQ4.out.below hb5)
  have HL5 := Lib.hid hi5
  have HSL := Lib.hid hs5
  have HML := Lib.hid hm5
  have HFW := Lib.hid (mem_few HC.out (S := (tabD d (p, n)).con) (fun g hg => (tab_mem HC.out.hist _ (p, n) (Nat.le_refl _) g (.inr (.inl hg))).1))
  have HOV := Lib.hid (fun g (hg : (tabD d (p, n)).con g) => mem_okV HC.out (tab_mem HC.out.hist _ (p, n) (Nat.le_refl _) g (.inr (.inl hg))).1)
  have hLn : L.length ≤ 512 := HFW.out L hs5.nodup (fun f hf => (hm5 f).1 hf)
  clear hb5 hi5 hs5 hm5 HM4 HB4 HI4 HQ4 d0 d1
  obtain ⟨d0, d1⟩ := HM5.out.1.c2
  go_wp2_with fail
  refine (rof_any d DA DB da db p n w5 HC.out HI5.out HQ5.out HVO.out).mono ?_
  rintro e w6 (⟨hm, rfl, hb6⟩ | ⟨hm, b1, b2, b3, rfl, hs1, hs2, hs3, hb6⟩)
  · have HB6 := Lib.hid ((HB5.out.trans (hb6.mono HB5.out.size)).alloc (Nat.le_trans HB5.out.size hb6.size) (.cells #[.bool false, .map none, .map none, .map none] 36))
    have he : errC d (p, n) = 140 := errC_no hm
    rw [he]
    obtain rfl : L = [] := by
      cases L with
      | nil => rfl
      | cons f r =>
        have h := (HML.out f).1 (List.mem_cons_self ..)
        rw [tab_out hm] at h
        exact h.elim
    clear hm he hb6 d0 d1 HB5 HM5 HI5 HQ5
    go_wp2_with (go_at_call 11; refine (awake14_any _).mono ?_; rintro e w9 ⟨rfl, HB9⟩)
    go_ret
    exact ⟨rfl, HB6.out.trans (HB9.mono HB6.out.size)⟩
  · have he : errC d (p, n) = 0 := errC_mem hm
    rw [he]
    have HB6 := Lib.hid ((HB5.out.trans (hb6.mono HB5.out.size)).alloc (Nat.le_trans HB5.out.size hb6.size) (.cells #[.bool (origD d.recs (p, n)), .map (some b1), .map (some b2), .map (some b3)] 36))
    have HX6 := Lib.hid (Blk.new w6 36 [.bool (origD d.recs (p, n)), .map (some b1), .map (some b2), .map (some b3)])
    have hs := hs2.below ((Below.refl _ _).alloc (Nat.le_refl _) (.cells #[.bool (origD d.recs (p, n)), .map (some b1), .map (some b2), .map (some b3)] 36)) hs2.lt
    have HSX := Lib.hid hs
    have HL6 := Lib.hid ((HL5.out.below hb6).below ((Below.refl _ _).alloc (Nat.le_refl _) (.cells #[.bool (origD d.recs (p, n)), .map (some b1), .map (some b2), .map (some b3)] 36)))
    generalize origD d.recs (p, n) = oo at *
    clear hm he hb6 d0 d1 HB5 HM5 HI5 HQ5 HL5 hs hs1 hs2 hs3
    go_upto_region 8 with fail
    generalize World.alloc w6 _ = w7 at *
    obtain ⟨x0, x1, x2, x3⟩ := HX6.out.c4
    go_wp2_with fail
    refine (rlist_any b2 (tabD d (p, n)).con w7 HSX.out HOV.out HFW.out (HG.out.below HB6.out)).mono ?_
    rintro e w8 ⟨L2, A8, c8, rfl, hi8, hs8, hm8, hb8⟩
    obtain rfl : L = L2 := SrtF.ext HSL.out hs8 fun f => (HML.out f).trans (hm8 f).symm
    have HB8 := Lib.hid (HB6.out.trans (hb8.mono HB6.out.size))
    have HL8 := Lib.hid (HL6.out.below hb8)
    have HI8 := Lib.hid hi8
    clear hb8 hi8 hs8 hm8 HB6 HL6 HX6 HSX x0 x1 x2 x3
    go_wp2_with fail
    refine (same_any L A5 A8 c5 c8 w8 HL8.out HI8.out hLn).mono ?_
    rintro e w10 ⟨rfl, hb10⟩
    have HB10 := Lib.hid (HB8.out.trans (hb10.mono HB8.out.size))
    clear hb10 HB8 HL8 HI8
    go_wp2_with (go_at_call 11; refine (awake14_any _).mono ?_; rintro e w9 ⟨rfl, HB9⟩)
    go_ret
    exact ⟨rfl, HB10.out.trans (HB9.mono HB10.out.size)⟩
end Go.Proofs.YthonhikkoabhlaaDoor
