/-
  CreditElements returns true for all changes and names that are not longer than 1048576 bytes; what was in memory before the call stays as it was (printed by mklaw14.py).
-/
import Derived.Test.YthonhikkoabhlaaDoorCrW
import Derived.Test.YthonhikkoabhlaaDoorCrX
import Derived.Test.YthonhikkoabhlaaDoorDpM
import Derived.Test.YthonhikkoabhlaaDoorDpN
namespace Go.Proofs.YthonhikkoabhlaaDoor
open Go.RowKit

set_option maxRecDepth 100000 in
set_option maxHeartbeats 12800000 in
theorem elems_any (l : List Chg) (A : Option Addr) (ca : Nat) (p : ByteArray) (n : Int) (w : World) (hA : ChsIn A l w) (hb : ChBnd l) (hp : p.size ≤ 1048576) (hn : (Lit.int .i64 n).wf = true) (hg : G0 w) :
    Calls Tryd.prog 7 #[.slice A l.length ca, .string p, .int .i64 n] w fun e w' => e = .returned (.bool true) ∧ Below w.heap.size w w' := by
  have HSM := Lib.hid (fun x hx => rsmall_any l A ca x (hA.below hx) hb)
  have HBU := Lib.hid (fun x (hx : Below w.heap.size w x) => rbuild_any l A ca x (hA.below hx) (by have := hb.len; omega) (fun c hc => hb.sz hc) (hg.below hx))
  have HG := Lib.hid hg
  have HVO : Hid (FOk (p, n)) := ⟨by show p.size ≤ _; omega, hn⟩
  clear hA hb hg hn
  go_enter Tryd.func7, Tryd.ntmps7
  go_wp2_with fail
  refine (HSM.out _ (Below.refl _ _)).mono ?_
  rintro e w1 ⟨sm, rfl, -, hb1⟩
  have HB1 := Lib.hid hb1
  clear hb1
  cases sm
  · go_wp2_with (go_at_call 11; refine (awake14_any _).mono ?_; rintro e w9 ⟨rfl, HB9⟩)
    go_ret
    exact ⟨rfl, HB1.out.trans (HB9.mono HB1.out.size)⟩
  by_cases h6 : 300 < p.size
  · have h6' : (300 : Int) < (p.size : Int) := by omega
    go_wp2_with (go_at_call 11; refine (awake14_any _).mono ?_; rintro e w9 ⟨rfl, HB9⟩)
    go_ret
    exact ⟨rfl, HB1.out.trans (HB9.mono HB1.out.size)⟩
  have h6' : ¬ (300 : Int) < (p.size : Int) := by omega
  go_wp2_with fail
  refine (HBU.out _ HB1.out).mono ?_
  rintro e w3 ⟨d, DA, DB, da, db, rfl, hblt, hIA, hIB, hb3⟩
  have HC := Lib.hid hblt.crd
  have HMO := Lib.hid hblt.mono
  have HBLT := Lib.hid hblt
  have hRl : d.revs.length ≤ 512 := hblt.ok.few
  have HB3 := Lib.hid (HB1.out.trans (hb3.mono HB1.out.size))
  have HIA3 := Lib.hid hIA
  have HIB3 := Lib.hid hIB
  clear hb3 HB1 hIA hIB hblt HSM HBU
  have HM4 : Hid (Bs [(w3.heap.size, 28, [.slice DA d.revs.length da, .slice DB d.recs.length db])] (w3.alloc (.cells [.slice DA d.revs.length da, .slice DB d.recs.length db].toArray 28))) := ⟨Blk.new w3 28 [.slice DA d.revs.length da, .slice DB d.recs.length db], trivial⟩
  have HB4 : Hid (Below w.heap.size w (w3.alloc (.cells [.slice DA d.revs.length da, .slice DB d.recs.length db].toArray 28))) := HB3.out.alloc HB3.out.size _
  have HI4 := Lib.hid (HIA3.out.below ((Below.refl _ _).alloc (Nat.le_refl _) (.cells [.slice DA d.revs.length da, .slice DB d.recs.length db].toArray 28)))
  have HQ4 := Lib.hid (HIB3.out.below ((Below.refl _ _).alloc (Nat.le_refl _) (.cells [.slice DA d.revs.length da, .slice DB d.recs.length db].toArray 28)))
  have ltq : w3.heap.size < (w3.alloc (.cells [.slice DA d.revs.length da, .slice DB d.recs.length db].toArray 28)).heap.size := by simp
  have hq0 : w.heap.size ≤ w3.heap.size := HB3.out.size
  go_upto_region 4 with fail
  generalize w3.heap.size = qb at *
  generalize World.alloc w3 (.cells #[.slice DA d.revs.length da, .slice DB d.recs.length db] 28) = w4 at *
  clear HB3 HIA3 HIB3
  obtain ⟨d0, d1⟩ := HM4.out.1.c2
  go_wp2_with fail
  refine (pcre_any d DA DB da db p n w4 HC.out HI4.out HQ4.out HVO.out).mono ?_
  rintro e w5 ⟨L, A5, c5, rfl, hi5, hs5, hm5, hb5⟩
  have HB5 := Lib.hid (HB4.out.trans (hb5.mono HB4.out.size))
  have HM5 := Lib.hid (HM4.out.below hb5)
  have HI5 := Lib.hid (HI4.out.below hb5)
  have HQ5 := Lib.hid (HQ4.out.below hb5)
  have HL5 := Lib.hid hi5
  have HML := Lib.hid hm5
  have hLn : L.length ≤ 512 := mem_few HC.out (S := (tabD d (p, n)).cre) (fun g hg => (tab_mem HC.out.hist _ (p, n) (Nat.le_refl _) g (.inr (.inr hg))).1) L hs5.nodup (fun f hf => (hm5 f).1 hf)
  clear hb5 hi5 hs5 hm5 HM4 HB4 HI4 HQ4 d0 d1
  cases hv : memD d.revs (p, n) with
  | none =>
    have he := errC_no hv
    rw [he]
    clear hv he
    go_wp2_with (go_at_call 11; refine (awake14_any _).mono ?_; rintro e w9 ⟨rfl, HB9⟩)
    go_ret
    exact ⟨rfl, HB5.out.trans (HB9.mono HB5.out.size)⟩
  | some v =>
    have he := errC_mem (d := d) (f := (p, n)) (by rw [hv]; rfl)
    have hge := getR_of_mem HC.out hv
    have HEL := Lib.hid (fun f hf => cre_elem HC.out HMO.out hv ((HML.out f).1 hf))
    rw [he]
    clear hv he
    obtain ⟨d0, d1⟩ := HM5.out.1.c2
    go_wp2_with fail
    refine (rget_any d.revs p n DA DB da d.recs.length db w5 HI5.out (by omega)).mono ?_
    rintro e w6 ⟨rfl, hb6⟩
    rw [hge.1, hge.2]
    have HB6 := Lib.hid (HB5.out.trans (hb6.mono HB5.out.size))
    have HM6 := Lib.hid (HM5.out.below hb6)
    have HI6 := Lib.hid (HI5.out.below hb6)
    have HQ6 := Lib.hid (HQ5.out.below hb6)
    have HL6 := Lib.hid (HL5.out.below hb6)
    clear hb6 hge HM5 HB5 HI5 HQ5 HL5 d0 d1
    obtain ⟨vp, vn, vc, va, ⟨tb, tk, te, tx⟩, ⟨cs, cz⟩, vs, vm⟩ := v
    unfold Rev.val Rev.cells
    dsimp only at HEL ⊢
    have hb7 := (Below.refl w6.heap.size w6).alloc (Nat.le_refl _) (.cells (#[.string vp, .int .i64 vn, .int .i64 vc, .int .i64 va, .int .i64 tb, .bool tk, .bool te, .bool tx, .int .u64 cs, .int .i64 cz, .string vs, .int .i64 vm]) 51)
    have HV7 := Lib.hid (Blk.new w6 51 ([.string vp, .int .i64 vn, .int .i64 vc, .int .i64 va, .int .i64 tb, .bool tk, .bool te, .bool tx, .int .u64 cs, .int .i64 cz, .string vs, .int .i64 vm]))
    have HB7 := Lib.hid (HB6.out.trans (hb7.mono HB6.out.size))
    have HM7 := Lib.hid (HM6.out.below hb7)
    have HI7 := Lib.hid (HI6.out.below hb7)
    have HQ7 := Lib.hid (HQ6.out.below hb7)
    have HL7 := Lib.hid (HL6.out.below hb7)
    clear hb7 HM6 HB6 HI6 HQ6 HL6
    go_upto_region 8 with fail
    generalize World.alloc w6 _ = w7 at *
    generalize w6.heap.size = vb at *
    go_wp2_with fail
    go_loopw [48] (fun i wr => ∃ k : Nat, i = .int .i64 k ∧ k ≤ L.length ∧ Below w7.heap.size w7 wr) (fun i _ => L.length - (intOf i).toNat)
    case atStart => exact ⟨0, rfl, Nat.zero_le _, Below.refl _ _⟩
    case round =>
      obtain ⟨k, rfl, hk, hbr⟩ := hrel
      have HBR := Lib.hid hbr
      have HMr := Lib.hid (HM7.out.below hbr)
      have HVr := Lib.hid (HV7.out.below hbr)
      have HIr := Lib.hid (HI7.out.below hbr)
      have HQr := Lib.hid (HQ7.out.below hbr)
      by_cases hlt : k < L.length
      · obtain ⟨g, off, rfl, hgl, hat⟩ := HL7.out (by omega)
        have hgk := List.getElem?_eq_getElem hlt
        have hmem : L[k] ∈ L := List.getElem_mem hlt
        obtain ⟨u, hu, ho, hcl⟩ := HEL.out _ hmem
        generalize hq : L[k] = f at *
        obtain ⟨fp, fn⟩ := f
        have hat := hat.below hbr hgl
        have c0 := hat.get hgk (show (filK.cells (fp, fn))[0]? = some (.string fp) from rfl)
        have c1 := hat.get hgk (show (filK.cells (fp, fn))[1]? = some (.int .i64 fn) from rfl)
        have e2 : filK.n = 2 := rfl
        simp only [e2, Nat.add_zero] at c0 c1
        have he := errC_mem (d := d) (f := (fp, fn)) (by rw [hu]; rfl)
        have hge := getR_of_mem HC.out hu
        have hfo := HC.out.fok (f := (fp, fn)) (by rw [hu]; rfl)
        clear hat hgk hq hmem hbr hu e2
        have hb8 := (Below.refl wr.heap.size wr).alloc (Nat.le_refl _) (.cells #[.string fp, .int .i64 fn] 55)
        have HF8 := Lib.hid (Blk.new wr 55 [.string fp, .int .i64 fn])
        have HB8 := Lib.hid (HBR.out.trans (hb8.mono HBR.out.size))
        have HM8 := Lib.hid (HMr.out.below hb8)
        have HV8 := Lib.hid (HVr.out.below hb8)
        have HI8 := Lib.hid (HIr.out.below hb8)
        have HQ8 := Lib.hid (HQr.out.below hb8)
        clear hb8 HMr HVr HIr HQr
        go_upto_region 11 with fail
        generalize World.alloc wr _ = w8 at *
        clear c0 c1
        obtain ⟨d0, d1⟩ := HM8.out.1.c2
        obtain ⟨f0, f1⟩ := HF8.out.c2
        go_wp2_with fail
        refine (porig_any d DA DB da db fp fn w8 HC.out HI8.out HQ8.out hfo).mono ?_
        rintro e w10 ⟨rfl, hb10⟩
        rw [he, ho]
        have HB10 := Lib.hid (HB8.out.trans (hb10.mono HB8.out.size))
        have HF10 := Lib.hid (HF8.out.below hb10)
        have HM10 := Lib.hid (HM8.out.below hb10)
        have HV10 := Lib.hid (HV8.out.below hb10)
        have HI10 := Lib.hid (HI8.out.below hb10)
        clear hb10 HB8 HF8 HM8 HV8 HI8 HQ8 d0 d1 f0 f1 he ho
        obtain ⟨d0, d1⟩ := HM10.out.1.c2
        obtain ⟨f0, f1⟩ := HF10.out.c2
        go_wp2_with fail
        refine (rget_any d.revs fp fn DA DB da d.recs.length db w10 HI10.out (by omega)).mono ?_
        rintro e w11 ⟨rfl, hb11⟩
        rw [hge.1, hge.2]
        have HB11 := Lib.hid (HB10.out.trans (hb11.mono HB10.out.size))
        have HV11 := Lib.hid (HV10.out.below hb11)
        clear hb11 HB10 HF10 HM10 HV10 HI10 d0 d1 f0 f1 hge
        obtain ⟨xp, xn, xc, xa, ⟨xb, xk, xe, xx⟩, ⟨xs, xz⟩, xf, xm⟩ := u
        unfold Rev.val Rev.cells
        dsimp only at hcl ⊢
        obtain ⟨v0, v1, v2, v3, v4, v5, v6, v7, v8, v9, v10, v11⟩ := HV11.out.c12
        have hvl := HV11.out.lt
        have hcl' : ¬ vc < xc := by omega
        go_wp2_with fail
        go_roundw
        case rel => exact ⟨k + 1, by go_num, by omega, HB11.out.alloc HB11.out.size _⟩
        case measure => simp [intOf]; omega
      · have HBR2 := Lib.hid (HB7.out.trans (hbr.mono HB7.out.size))
        clear hbr
        go_wp2_with (go_at_call 11; refine (awake14_any _).mono ?_; rintro e w9 ⟨rfl, HB9⟩)
        go_ret
        exact ⟨rfl, HBR2.out.trans (HB9.mono HBR2.out.size)⟩
end Go.Proofs.YthonhikkoabhlaaDoor
