/-
  CreditNests returns true for all changes and names that are not longer than 1048576 bytes; what was in memory before the call stays as it was (printed by mklaw14.py).
-/
import Derived.Test.YthonhikkoabhlaaGreatDoorCrPv
import Derived.Test.YthonhikkoabhlaaGreatDoorCrY
import Derived.Test.YthonhikkoabhlaaGreatDoorCrX
import Derived.Test.YthonhikkoabhlaaGreatDoorCrW
import Derived.Test.YthonhikkoabhlaaGreatDoorDpM
import Derived.Test.YthonhikkoabhlaaGreatDoorDpN
namespace Go.Proofs.YthonhikkoabhlaaGreatDoor
open Go.RowKit

/-! How the sets of a member and of the one before lie within one another. -/
section
variable {d : Dep} {f u : Fil} (H : Hist d) (hm : (memD d.revs f).isSome = true)
include H hm
theorem ns_car_cre {g : Fil} (h : (tabD d f).car g) : (tabD d f).cre g := (tab_cre H hm g).2 (.inr (.inl h))
theorem ns_con_car {g : Fil} (h : (tabD d f).con g) : (tabD d f).car g := ((tab_con H hm g).1 h).1
theorem ns_was_car (hu : prevF d.revs f = some u) {g : Fil} (h : (tabD d u).car g) : (tabD d f).car g := (tab_car H hm g).2 (.inr (.inl ⟨u, hu, h⟩))
theorem ns_had_cre (hu : prevF d.revs f = some u) {g : Fil} (h : (tabD d u).cre g) : (tabD d f).cre g := (tab_cre H hm g).2 (.inl ⟨u, hu, h⟩)
theorem ns_con_was (hu : prevF d.revs f = some u) {g : Fil} (h : (tabD d f).con g) : ¬ (tabD d u).car g := fun hc => ((tab_con H hm g).1 h).2 ⟨u, hu, hc⟩
theorem ns_split (hu : prevF d.revs f = some u) (g : Fil) : (tabD d f).car g ↔ (tabD d f).con g ∨ (tabD d u).car g := by
  constructor
  · intro h
    by_cases hb : (tabD d u).car g
    · exact .inr hb
    · exact .inl ((tab_con H hm g).2 ⟨h, fun ⟨x, h1, h2⟩ => by rw [hu] at h1; cases h1; exact hb h2⟩)
  · exact fun h => h.elim (ns_con_car H hm) (ns_was_car H hm hu)
theorem ns_first (hu : prevF d.revs f = none) (g : Fil) : (tabD d f).car g ↔ (tabD d f).con g := by
  rw [tab_con H hm g]
  exact ⟨fun h => ⟨h, fun ⟨x, h1, _⟩ => by rw [hu] at h1; cases h1⟩, fun h => h.1⟩
end
theorem ns_len {A B C : List Fil} (ha : A.Nodup) (hb : B.Nodup) (hc : C.Nodup) (h : ∀ g, g ∈ C ↔ g ∈ A ∨ g ∈ B) (hd : ∀ g ∈ A, g ∉ B) : A.length + B.length = C.length := by
  have hn : (A ++ B).Nodup := List.nodup_append.2 ⟨ha, hb, fun x hx y hy e => hd x hx (e ▸ hy)⟩
  have h1 := nodup_le (M := C) hn fun x hx => (h x).2 (List.mem_append.1 hx)
  have h2 := nodup_le (M := A ++ B) hc fun x hx => List.mem_append.2 ((h x).1 hx)
  rw [List.length_append] at h1 h2
  omega
set_option maxRecDepth 100000 in
set_option maxHeartbeats 12800000 in
theorem nests_any (l : List Chg) (A : Option Addr) (ca : Nat) (p : ByteArray) (n : Int) (w : World) (hA : ChsIn A l w) (hb : ChBnd l) (hp : p.size ≤ 1048576) (hn : (Lit.int .i64 n).wf = true) (hg : G0 w) :
    Calls Tryz.prog 3 #[.slice A l.length ca, .string p, .int .i64 n] w fun e w' => e = .returned (.bool true) ∧ Below w.heap.size w w' := by
  have HSM := Lib.hid (fun x hx => rsmall_any l A ca x (hA.below hx) hb)
  have HBU := Lib.hid (fun x (hx : Below w.heap.size w x) => rbuild_any l A ca x (hA.below hx) (by have := hb.len; omega) (fun c hc => hb.sz hc) (hg.below hx))
  have HG := Lib.hid hg
  have HVO : Hid (FOk (p, n)) := ⟨by show p.size ≤ _; omega, hn⟩
  clear hA hb hg hn
  go_enter Tryz.func3, Tryz.ntmps3
  go_wp2_with fail
  refine (HSM.out _ (Below.refl _ _)).mono ?_
  rintro e w1 ⟨sm, rfl, -, hb1⟩
  have HB1 := Lib.hid hb1
  clear hb1
  cases sm
  · go_wp2_with (go_at_call 6; refine (awake14_any _).mono ?_; rintro e w9 ⟨rfl, HB9⟩)
    go_ret
    exact ⟨rfl, HB1.out.trans (HB9.mono HB1.out.size)⟩
  by_cases h6 : 300 < p.size
  · have h6' : (300 : Int) < (p.size : Int) := by omega
    go_wp2_with (go_at_call 6; refine (awake14_any _).mono ?_; rintro e w9 ⟨rfl, HB9⟩)
    go_ret
    exact ⟨rfl, HB1.out.trans (HB9.mono HB1.out.size)⟩
  have h6' : ¬ (300 : Int) < (p.size : Int) := by omega
  go_wp2_with fail
  refine (HBU.out _ HB1.out).mono ?_
  rintro e w3 ⟨d, DA, DB, da, db, rfl, hblt, hIA, hIB, hb3⟩
  have HC := Lib.hid hblt.crd
  have HMO := Lib.hid hblt.mono
  have HBLT := Lib.hid hblt
  have hRl : d.revs.length ≤ 512 := hblt.ok.few
  have HB3 := Lib.hid (HB1.out.trans (hb3.mono HB1.out.size))
  have HIA3 := Lib.hid hIA
  have HIB3 := Lib.hid hIB
  clear hb3 HB1 hIA hIB hblt HSM HBU
  have HM4 : Hid (Bs [(w3.heap.size, 28, [.slice DA d.revs.length da, .slice DB d.recs.length db])] (w3.alloc (.cells [.slice DA d.revs.length da, .slice DB d.recs.length db].toArray 28))) := ⟨Blk.new w3 28 [.slice DA d.revs.length da, .slice DB d.recs.length db], trivial⟩
  have HB4 : Hid (Below w.heap.size w (w3.alloc (.cells [.slice DA d.revs.length da, .slice DB d.recs.length db].toArray 28))) := HB3.out.alloc HB3.out.size _
  have HI4 := Lib.hid (HIA3.out.below ((Below.refl _ _).alloc (Nat.le_refl _) (.cells [.slice DA d.revs.length da, .slice DB d.recs.length db].toArray 28)))
  have HQ4 := Lib.hid (HIB3.out.below ((Below.refl _ _).alloc (Nat.le_refl _) (.cells [.slice DA d.revs.length da, .slice DB d.recs.length db].toArray 28)))
  have ltq : w3.heap.size < (w3.alloc (.cells [.slice DA d.revs.length da, .slice DB d.recs.length db].toArray 28)).heap.size := by simp
  have hq0 : w.heap.size ≤ w3.heap.size := HB3.out.size
  go_upto_region 4 with fail
  generalize w3.heap.size = qb at *
  generalize World.alloc w3 (.cells #[.slice DA d.revs.length da, .slice DB d.recs.length db] 28) = w4 at *
  clear HB3 HIA3 HIB3
  obtain ⟨d0, d1⟩ := HM4.out.1.c2
  have HM := HM4
  have HB := HB4
  have HI := HI4
  have HQ := HQ4
  clear HM4 HB4 HI4 HQ4 d0 d1 ltq hq0 HMO HBLT HG
  obtain ⟨d0, d1⟩ := HM.out.1.c2
  go_wp2_with fail
  refine (pcar_any d DA DB da db p n w4 HC.out HI.out HQ.out HVO.out).mono ?_
  rintro e w4' ⟨L1, A1, c1, rfl, hi, hs, hm, hb⟩
  clear d0 d1
  replace HB := Lib.hid (HB.out.trans (hb.mono HB.out.size))
  replace HM := Lib.hid (HM.out.below hb)
  replace HI := Lib.hid (HI.out.below hb)
  replace HQ := Lib.hid (HQ.out.below hb)
  have HL1 := Lib.hid hi
  have HN1 := Lib.hid hs.nodup
  have HE1 := Lib.hid hm
  have HO1 : Hid (∀ f ∈ L1, FOk f) := fun g hg => HC.out.fok (tab_mem HC.out.hist _ (p, n) (Nat.le_refl _) g ((.inl ((hm g).1 hg)))).1
  have hn1 : L1.length ≤ 512 := mem_few HC.out (S := (tabD d (p, n)).car) (fun g hg => (tab_mem HC.out.hist _ (p, n) (Nat.le_refl _) g (.inl hg)).1) L1 hs.nodup (fun f hf => (hm f).1 hf)
  clear hb hi hs hm
  cases hv : memD d.revs (p, n) with
  | none =>
    have he := errC_no hv
    rw [he]
    clear hv he
    go_wp2_with (go_at_call 6; refine (awake14_any _).mono ?_; rintro e w9 ⟨rfl, HB9⟩)
    go_ret
    exact ⟨rfl, HB.out.trans (HB9.mono HB.out.size)⟩
  | some v =>
    have hms : (memD d.revs (p, n)).isSome = true := by rw [hv]; rfl
    have he := errC_mem (d := d) hms
    have HV := Lib.hid hv
    have HMS := Lib.hid hms
    have HER := Lib.hid he
    have H12 := Lib.hid (fun g (h : (tabD d (p, n)).con g) => ns_con_car HC.out.hist hms h)
    have H13 := Lib.hid (fun g (h : (tabD d (p, n)).car g) => ns_car_cre HC.out.hist hms h)
    rw [he]
    clear hv he hms
    obtain ⟨d0, d1⟩ := HM.out.1.c2
    go_wp2_with fail
    refine (pcon_any d DA DB da db p n w4' HC.out HI.out HQ.out HVO.out).mono ?_
    rintro e w4'' ⟨L2, A2, c2, rfl, hi, hs, hm, hb⟩
    clear d0 d1
    replace HB := Lib.hid (HB.out.trans (hb.mono HB.out.size))
    replace HM := Lib.hid (HM.out.below hb)
    replace HI := Lib.hid (HI.out.below hb)
    replace HQ := Lib.hid (HQ.out.below hb)
    replace HL1 := Lib.hid (HL1.out.below hb)
    have HL2 := Lib.hid hi
    have HN2 := Lib.hid hs.nodup
    have HE2 := Lib.hid hm
    have HO2 : Hid (∀ f ∈ L2, FOk f) := fun g hg => HC.out.fok (tab_mem HC.out.hist _ (p, n) (Nat.le_refl _) g ((.inr (.inl ((hm g).1 hg))))).1
    have hn2 : L2.length ≤ 512 := mem_few HC.out (S := (tabD d (p, n)).con) (fun g hg => (tab_mem HC.out.hist _ (p, n) (Nat.le_refl _) g (.inr (.inl hg))).1) L2 hs.nodup (fun f hf => (hm f).1 hf)
    clear hb hi hs hm
    rw [HER.out]
    obtain ⟨d0, d1⟩ := HM.out.1.c2
    go_wp2_with fail
    refine (pcre_any d DA DB da db p n w4'' HC.out HI.out HQ.out HVO.out).mono ?_
    rintro e w4''' ⟨L3, A3, c3, rfl, hi, hs, hm, hb⟩
    clear d0 d1
    replace HB := Lib.hid (HB.out.trans (hb.mono HB.out.size))
    replace HM := Lib.hid (HM.out.below hb)
    replace HI := Lib.hid (HI.out.below hb)
    replace HQ := Lib.hid (HQ.out.below hb)
    replace HL1 := Lib.hid (HL1.out.below hb)
    replace HL2 := Lib.hid (HL2.out.below hb)
    have HL3 := Lib.hid hi
    have HN3 := Lib.hid hs.nodup
    have HE3 := Lib.hid hm
    have HO3 : Hid (∀ f ∈ L3, FOk f) := fun g hg => HC.out.fok (tab_mem HC.out.hist _ (p, n) (Nat.le_refl _) g ((.inr (.inr ((hm g).1 hg))))).1
    have hn3 : L3.length ≤ 512 := mem_few HC.out (S := (tabD d (p, n)).cre) (fun g hg => (tab_mem HC.out.hist _ (p, n) (Nat.le_refl _) g (.inr (.inr hg))).1) L3 hs.nodup (fun f hf => (hm f).1 hf)
    clear hb hi hs hm
    rw [HER.out]
    generalize w4''' = w5 at *
    go_wp2_with fail
    refine (set_any L3 A3 c3 w5 HL3.out HO3.out hn3).mono ?_
    rintro e w5' ⟨rfl, hset, hb⟩
    replace HB := Lib.hid (HB.out.trans (hb.mono HB.out.size))
    replace HM := Lib.hid (HM.out.below hb)
    replace HI := Lib.hid (HI.out.below hb)
    replace HQ := Lib.hid (HQ.out.below hb)
    replace HL1 := Lib.hid (HL1.out.below hb)
    replace HL2 := Lib.hid (HL2.out.below hb)
    replace HL3 := Lib.hid (HL3.out.below hb)
    have HSET := Lib.hid hset
    clear hb hset
    go_wp2_with fail
    refine (within_any L1 (fun f => f ∈ L3) A1 c1 w5.heap.size w5' HL1.out HO1.out HSET.out (fun f hf => (HE3.out f).2 (H13.out f ((HE1.out f).1 hf))) hn1).mono ?_
    rintro e w5'' ⟨rfl, hb⟩
    replace HB := Lib.hid (HB.out.trans (hb.mono HB.out.size))
    replace HM := Lib.hid (HM.out.below hb)
    replace HI := Lib.hid (HI.out.below hb)
    replace HQ := Lib.hid (HQ.out.below hb)
    replace HL1 := Lib.hid (HL1.out.below hb)
    replace HL2 := Lib.hid (HL2.out.below hb)
    replace HL3 := Lib.hid (HL3.out.below hb)
    clear hb HSET
    generalize w5'' = w6 at *
    go_wp2_with fail
    refine (set_any L1 A1 c1 w6 HL1.out HO1.out hn1).mono ?_
    rintro e w6' ⟨rfl, hset, hb⟩
    replace HB := Lib.hid (HB.out.trans (hb.mono HB.out.size))
    replace HM := Lib.hid (HM.out.below hb)
    replace HI := Lib.hid (HI.out.below hb)
    replace HQ := Lib.hid (HQ.out.below hb)
    replace HL1 := Lib.hid (HL1.out.below hb)
    replace HL2 := Lib.hid (HL2.out.below hb)
    replace HL3 := Lib.hid (HL3.out.below hb)
    have HSET := Lib.hid hset
    clear hb hset
    go_wp2_with fail
    refine (within_any L2 (fun f => f ∈ L1) A2 c2 w6.heap.size w6' HL2.out HO2.out HSET.out (fun f hf => (HE1.out f).2 (H12.out f ((HE2.out f).1 hf))) hn2).mono ?_
    rintro e w6'' ⟨rfl, hb⟩
    replace HB := Lib.hid (HB.out.trans (hb.mono HB.out.size))
    replace HM := Lib.hid (HM.out.below hb)
    replace HI := Lib.hid (HI.out.below hb)
    replace HQ := Lib.hid (HQ.out.below hb)
    replace HL1 := Lib.hid (HL1.out.below hb)
    replace HL2 := Lib.hid (HL2.out.below hb)
    replace HL3 := Lib.hid (HL3.out.below hb)
    clear hb HSET
    generalize w6'' = w7 at *
    obtain ⟨d0, d1⟩ := HM.out.1.c2
    go_wp2_with fail
    refine (lPrevious_any d DA DB da db p n v w7 HC.out HI.out HV.out).mono ?_
    rintro e w8 ⟨z, b, rfl, hz, hb⟩
    clear d0 d1
    replace HB := Lib.hid (HB.out.trans (hb.mono HB.out.size))
    replace HM := Lib.hid (HM.out.below hb)
    replace HI := Lib.hid (HI.out.below hb)
    replace HQ := Lib.hid (HQ.out.below hb)
    replace HL1 := Lib.hid (HL1.out.below hb)
    replace HL2 := Lib.hid (HL2.out.below hb)
    replace HL3 := Lib.hid (HL3.out.below hb)
    clear hb
    have hb2 := (Below.refl w8.heap.size w8).alloc (Nat.le_refl _) (.cells z.cells.toArray 43)
    replace HB := Lib.hid (HB.out.trans (hb2.mono HB.out.size))
    replace HM := Lib.hid (HM.out.below hb2)
    replace HI := Lib.hid (HI.out.below hb2)
    replace HQ := Lib.hid (HQ.out.below hb2)
    replace HL1 := Lib.hid (HL1.out.below hb2)
    replace HL2 := Lib.hid (HL2.out.below hb2)
    replace HL3 := Lib.hid (HL3.out.below hb2)
    have HZB := Lib.hid (Blk.new w8 43 z.cells)
    clear hb2
    rcases hz with ⟨rfl, hpz, hzm⟩ | ⟨rfl, hpn⟩
    · obtain ⟨xp, xn, xc, xa, ⟨xb, xk, xe, xx⟩, ⟨xs, xz⟩, xf, xm⟩ := z
      unfold Rev.fil at hpz hzm
      unfold Rev.val Rev.cells
      unfold Rev.cells at HZB HM HB HI HQ HL1 HL2 HL3
      dsimp only at hpz hzm HZB HM HB HI HQ HL1 HL2 HL3 ⊢
      have hzs : (memD d.revs (xp, xn)).isSome = true := by rw [hzm]; rfl
      have HZO := Lib.hid (HC.out.fok hzs)
      have HEZ := Lib.hid (errC_mem (d := d) hzs)
      have HP1 := Lib.hid (fun g (h : (tabD d (xp, xn)).car g) => ns_was_car HC.out.hist HMS.out hpz h)
      have HP2 := Lib.hid (fun g (h : (tabD d (xp, xn)).cre g) => ns_had_cre HC.out.hist HMS.out hpz h)
      have HP3 := Lib.hid (fun g (h : (tabD d (p, n)).con g) => ns_con_was HC.out.hist HMS.out hpz h)
      have HP4 := Lib.hid (fun g => ns_split HC.out.hist HMS.out hpz g)
      clear hpz hzm hzs
      go_upto_region 14 with fail
      generalize World.alloc w8 _ = wa at *
      generalize w8.heap.size = zb at *
      obtain ⟨v0, v1, -, -, -, -, -, -, -, -, -, -⟩ := HZB.out.c12
      obtain ⟨d0, d1⟩ := HM.out.1.c2
      go_wp2_with fail
      refine (pcar_any d DA DB da db xp xn wa HC.out HI.out HQ.out HZO.out).mono ?_
      rintro e wa' ⟨L4, A4, c4, rfl, hi, hs, hm, hb⟩
      clear d0 d1
      replace HB := Lib.hid (HB.out.trans (hb.mono HB.out.size))
      replace HM := Lib.hid (HM.out.below hb)
      replace HI := Lib.hid (HI.out.below hb)
      replace HQ := Lib.hid (HQ.out.below hb)
      replace HL1 := Lib.hid (HL1.out.below hb)
      replace HL2 := Lib.hid (HL2.out.below hb)
      replace HL3 := Lib.hid (HL3.out.below hb)
      replace HZB := Lib.hid (HZB.out.below hb)
      have HL4 := Lib.hid hi
      have HN4 := Lib.hid hs.nodup
      have HE4 := Lib.hid hm
      have HO4 : Hid (∀ f ∈ L4, FOk f) := fun g hg => HC.out.fok (tab_mem HC.out.hist _ (xp, xn) (Nat.le_refl _) g ((.inl ((hm g).1 hg)))).1
      have hn4 : L4.length ≤ 512 := mem_few HC.out (S := (tabD d (xp, xn)).car) (fun g hg => (tab_mem HC.out.hist _ (xp, xn) (Nat.le_refl _) g (.inl hg)).1) L4 hs.nodup (fun f hf => (hm f).1 hf)
      clear hb hi hs hm
      rw [HEZ.out]
      clear v0 v1
      obtain ⟨v0, v1, -, -, -, -, -, -, -, -, -, -⟩ := HZB.out.c12
      obtain ⟨d0, d1⟩ := HM.out.1.c2
      go_wp2_with fail
      refine (pcre_any d DA DB da db xp xn wa' HC.out HI.out HQ.out HZO.out).mono ?_
      rintro e wa'' ⟨L5, A5, c5, rfl, hi, hs, hm, hb⟩
      clear d0 d1
      replace HB := Lib.hid (HB.out.trans (hb.mono HB.out.size))
      replace HM := Lib.hid (HM.out.below hb)
      replace HI := Lib.hid (HI.out.below hb)
      replace HQ := Lib.hid (HQ.out.below hb)
      replace HL1 := Lib.hid (HL1.out.below hb)
      replace HL2 := Lib.hid (HL2.out.below hb)
      replace HL3 := Lib.hid (HL3.out.below hb)
      replace HL4 := Lib.hid (HL4.out.below hb)
      have HL5 := Lib.hid hi
      have HN5 := Lib.hid hs.nodup
      have HE5 := Lib.hid hm
      have HO5 : Hid (∀ f ∈ L5, FOk f) := fun g hg => HC.out.fok (tab_mem HC.out.hist _ (xp, xn) (Nat.le_refl _) g ((.inr (.inr ((hm g).1 hg))))).1
      have hn5 : L5.length ≤ 512 := mem_few HC.out (S := (tabD d (xp, xn)).cre) (fun g hg => (tab_mem HC.out.hist _ (xp, xn) (Nat.le_refl _) g (.inr (.inr hg))).1) L5 hs.nodup (fun f hf => (hm f).1 hf)
      clear hb hi hs hm
      rw [HEZ.out]
      clear v0 v1 HZB
      generalize wa'' = wb at *
      have HDIS : Hid (∀ f ∈ L2, f ∉ L4) := fun f hf h4 => HP3.out f ((HE2.out f).1 hf) ((HE4.out f).1 h4)
      have HLEN : Hid (L2.length + L4.length = L1.length) := ns_len HN2.out HN4.out HN1.out (fun g => by rw [HE1.out g, HE2.out g, HE4.out g]; exact HP4.out g) HDIS.out
      have HWC : Hid (∀ f ∈ L4, f ∈ L1) := fun f hf => (HE1.out f).2 (HP1.out f ((HE4.out f).1 hf))
      have HHC : Hid (∀ f ∈ L5, f ∈ L3) := fun f hf => (HE3.out f).2 (HP2.out f ((HE5.out f).1 hf))
      have hlen : ((L2.length : Int) + (L4.length : Int)) = (L1.length : Int) := by have := HLEN.out; omega
      go_wp2_with fail
      refine (set_any L4 A4 c4 wb HL4.out HO4.out hn4).mono ?_
      rintro e wb' ⟨rfl, hset, hb⟩
      replace HB := Lib.hid (HB.out.trans (hb.mono HB.out.size))
      replace HM := Lib.hid (HM.out.below hb)
      replace HI := Lib.hid (HI.out.below hb)
      replace HQ := Lib.hid (HQ.out.below hb)
      replace HL1 := Lib.hid (HL1.out.below hb)
      replace HL2 := Lib.hid (HL2.out.below hb)
      replace HL3 := Lib.hid (HL3.out.below hb)
      replace HL4 := Lib.hid (HL4.out.below hb)
      replace HL5 := Lib.hid (HL5.out.below hb)
      have HSET := Lib.hid hset
      clear hb hset
      have hsl : wb.heap.size < wb'.heap.size := HSET.out.lt
      go_wp2_with fail
      go_loopw [112] (fun i wr => ∃ k : Nat, i = .int .i64 k ∧ k ≤ L2.length ∧ Below wb'.heap.size wb' wr) (fun i _ => L2.length - (intOf i).toNat)
      case atStart => exact ⟨0, rfl, Nat.zero_le _, Below.refl _ _⟩
      case round =>
        obtain ⟨k, rfl, hk, hbr⟩ := hrel
        by_cases hlt : k < L2.length
        · obtain ⟨g, off, rfl, hgl, hat⟩ := HL2.out (by omega)
          have hgk := List.getElem?_eq_getElem hlt
          have hmem := List.getElem_mem hlt
          generalize hq : L2[k] = f at *
          obtain ⟨fp, fn⟩ := f
          have hat := hat.below hbr hgl
          have c0 := hat.get hgk (show (filK.cells (fp, fn))[0]? = some (.string fp) from rfl)
          have c1 := hat.get hgk (show (filK.cells (fp, fn))[1]? = some (.int .i64 fn) from rfl)
          have e2 : filK.n = 2 := rfl
          simp only [e2, Nat.add_zero] at c0 c1
          have hB8 := hbr.alloc hbr.size (.cells #[.string fp, .int .i64 fn] 47)
          obtain ⟨c, hc, hct⟩ := (HSET.out.below hB8 hsl).run_has Tryz.underlying35 (zeroBool _) (HO2.out _ hmem)
          obtain rfl : c = false := by
            cases c with
            | false => rfl
            | true => exact absurd (hct.1 rfl) (HDIS.out _ hmem)
          have HB8 := Lib.hid hB8
          unfold fileV at hc
          dsimp only at hc
          clear hat hgk hq e2 hbr hB8 hct hmem
          go_wp2_with fail
          go_roundw
          case rel => exact ⟨k + 1, by go_num, by omega, HB8.out⟩
          case measure => simp [intOf]; omega
        · have HBR := Lib.hid hbr
          have HB := Lib.hid (HB.out.trans (HBR.out.mono HB.out.size))
          have HM := Lib.hid (HM.out.below HBR.out)
          have HI := Lib.hid (HI.out.below HBR.out)
          have HQ := Lib.hid (HQ.out.below HBR.out)
          have HL1 := Lib.hid (HL1.out.below HBR.out)
          have HL2 := Lib.hid (HL2.out.below HBR.out)
          have HL3 := Lib.hid (HL3.out.below HBR.out)
          have HL4 := Lib.hid (HL4.out.below HBR.out)
          have HL5 := Lib.hid (HL5.out.below HBR.out)
          clear hbr
          generalize wr = wt at *
          go_wp2_with fail
          refine (set_any L1 A1 c1 wt HL1.out HO1.out hn1).mono ?_
          rintro e wt' ⟨rfl, hset, hb⟩
          replace HB := Lib.hid (HB.out.trans (hb.mono HB.out.size))
          replace HM := Lib.hid (HM.out.below hb)
          replace HI := Lib.hid (HI.out.below hb)
          replace HQ := Lib.hid (HQ.out.below hb)
          replace HL1 := Lib.hid (HL1.out.below hb)
          replace HL2 := Lib.hid (HL2.out.below hb)
          replace HL3 := Lib.hid (HL3.out.below hb)
          replace HL4 := Lib.hid (HL4.out.below hb)
          replace HL5 := Lib.hid (HL5.out.below hb)
          have HSET := Lib.hid hset
          clear hb hset
          go_wp2_with fail
          refine (within_any L4 (fun f => f ∈ L1) A4 c4 wt.heap.size wt' HL4.out HO4.out HSET.out HWC.out hn4).mono ?_
          rintro e wt'' ⟨rfl, hb⟩
          replace HB := Lib.hid (HB.out.trans (hb.mono HB.out.size))
          replace HM := Lib.hid (HM.out.below hb)
          replace HI := Lib.hid (HI.out.below hb)
          replace HQ := Lib.hid (HQ.out.below hb)
          replace HL1 := Lib.hid (HL1.out.below hb)
          replace HL2 := Lib.hid (HL2.out.below hb)
          replace HL3 := Lib.hid (HL3.out.below hb)
          replace HL4 := Lib.hid (HL4.out.below hb)
          replace HL5 := Lib.hid (HL5.out.below hb)
          clear hb HSET
          generalize wt'' = wu at *
          go_wp2_with fail
          refine (set_any L3 A3 c3 wu HL3.out HO3.out hn3).mono ?_
          rintro e wu' ⟨rfl, hset, hb⟩
          replace HB := Lib.hid (HB.out.trans (hb.mono HB.out.size))
          replace HM := Lib.hid (HM.out.below hb)
          replace HI := Lib.hid (HI.out.below hb)
          replace HQ := Lib.hid (HQ.out.below hb)
          replace HL1 := Lib.hid (HL1.out.below hb)
          replace HL2 := Lib.hid (HL2.out.below hb)
          replace HL3 := Lib.hid (HL3.out.below hb)
          replace HL4 := Lib.hid (HL4.out.below hb)
          replace HL5 := Lib.hid (HL5.out.below hb)
          have HSET := Lib.hid hset
          clear hb hset
          go_wp2_with fail
          refine (within_any L5 (fun f => f ∈ L3) A5 c5 wu.heap.size wu' HL5.out HO5.out HSET.out HHC.out hn5).mono ?_
          rintro e wu'' ⟨rfl, hb⟩
          replace HB := Lib.hid (HB.out.trans (hb.mono HB.out.size))
          replace HM := Lib.hid (HM.out.below hb)
          replace HI := Lib.hid (HI.out.below hb)
          replace HQ := Lib.hid (HQ.out.below hb)
          replace HL1 := Lib.hid (HL1.out.below hb)
          replace HL2 := Lib.hid (HL2.out.below hb)
          replace HL3 := Lib.hid (HL3.out.below hb)
          replace HL4 := Lib.hid (HL4.out.below hb)
          replace HL5 := Lib.hid (HL5.out.below hb)
          clear hb HSET
          go_wp2_with (go_at_call 6; refine (awake14_any _).mono ?_; rintro e w9 ⟨rfl, HB9⟩)
          go_ret
          exact ⟨rfl, HB.out.trans (HB9.mono HB.out.size)⟩
    · obtain ⟨xp, xn, xc, xa, ⟨xb, xk, xe, xx⟩, ⟨xs, xz⟩, xf, xm⟩ := z
      unfold Rev.val Rev.cells
      unfold Rev.cells at HZB HM HB HI HQ HL1 HL2 HL3
      dsimp only at HZB HM HB HI HQ HL1 HL2 HL3 ⊢
      have HP4 := Lib.hid (fun g => ns_first HC.out.hist HMS.out hpn g)
      clear hpn
      go_upto_region 18 with fail
      generalize World.alloc w8 _ = wb at *
      clear HZB
      have HL4 : Hid (filK.In none ([] : List Fil) wb) := RowK.In.nil _ _
      have HL5 := HL4
      have HO4 : Hid (∀ f ∈ ([] : List Fil), FOk f) := fun f hf => by simp at hf
      have HO5 := HO4
      have hn4 : ([] : List Fil).length ≤ 512 := by simp
      have hn5 := hn4
      have HDIS : Hid (∀ f ∈ L2, f ∉ ([] : List Fil)) := fun f _ h4 => by simp at h4
      have HLEN : Hid (L2.length + ([] : List Fil).length = L1.length) := ns_len HN2.out (by simp) HN1.out (fun g => by rw [HE1.out g, HE2.out g]; simp [HP4.out g]) HDIS.out
      have hle0 : (L2.length : Int) = (L1.length : Int) := by have h := HLEN.out; simp at h; omega
      have HWC : Hid (∀ f ∈ ([] : List Fil), f ∈ L1) := fun f hf => by simp at hf
      have HHC : Hid (∀ f ∈ ([] : List Fil), f ∈ L3) := fun f hf => by simp at hf
      have hlen : ((L2.length : Int) + (([] : List Fil).length : Int)) = (L1.length : Int) := by have := HLEN.out; omega
      go_wp2_with fail
      refine (set_any ([] : List Fil) none 0 wb HL4.out HO4.out hn4).mono ?_
      rintro e wb' ⟨rfl, hset, hb⟩
      replace HB := Lib.hid (HB.out.trans (hb.mono HB.out.size))
      replace HM := Lib.hid (HM.out.below hb)
      replace HI := Lib.hid (HI.out.below hb)
      replace HQ := Lib.hid (HQ.out.below hb)
      replace HL1 := Lib.hid (HL1.out.below hb)
      replace HL2 := Lib.hid (HL2.out.below hb)
      replace HL3 := Lib.hid (HL3.out.below hb)
      replace HL4 := Lib.hid (HL4.out.below hb)
      replace HL5 := Lib.hid (HL5.out.below hb)
      have HSET := Lib.hid hset
      clear hb hset
      have hsl : wb.heap.size < wb'.heap.size := HSET.out.lt
      go_wp2_with fail
      go_loopw [112] (fun i wr => ∃ k : Nat, i = .int .i64 k ∧ k ≤ L2.length ∧ Below wb'.heap.size wb' wr) (fun i _ => L2.length - (intOf i).toNat)
      case atStart => exact ⟨0, rfl, Nat.zero_le _, Below.refl _ _⟩
      case round =>
        obtain ⟨k, rfl, hk, hbr⟩ := hrel
        by_cases hlt : k < L2.length
        · obtain ⟨g, off, rfl, hgl, hat⟩ := HL2.out (by omega)
          have hgk := List.getElem?_eq_getElem hlt
          have hmem := List.getElem_mem hlt
          generalize hq : L2[k] = f at *
          obtain ⟨fp, fn⟩ := f
          have hat := hat.below hbr hgl
          have c0 := hat.get hgk (show (filK.cells (fp, fn))[0]? = some (.string fp) from rfl)
          have c1 := hat.get hgk (show (filK.cells (fp, fn))[1]? = some (.int .i64 fn) from rfl)
          have e2 : filK.n = 2 := rfl
          simp only [e2, Nat.add_zero] at c0 c1
          have hB8 := hbr.alloc hbr.size (.cells #[.string fp, .int .i64 fn] 47)
          obtain ⟨c, hc, hct⟩ := (HSET.out.below hB8 hsl).run_has Tryz.underlying35 (zeroBool _) (HO2.out _ hmem)
          obtain rfl : c = false := by
            cases c with
            | false => rfl
            | true => exact absurd (hct.1 rfl) (HDIS.out _ hmem)
          have HB8 := Lib.hid hB8
          unfold fileV at hc
          dsimp only at hc
          clear hat hgk hq e2 hbr hB8 hct hmem
          go_wp2_with fail
          go_roundw
          case rel => exact ⟨k + 1, by go_num, by omega, HB8.out⟩
          case measure => simp [intOf]; omega
        · have HBR := Lib.hid hbr
          have HB := Lib.hid (HB.out.trans (HBR.out.mono HB.out.size))
          have HM := Lib.hid (HM.out.below HBR.out)
          have HI := Lib.hid (HI.out.below HBR.out)
          have HQ := Lib.hid (HQ.out.below HBR.out)
          have HL1 := Lib.hid (HL1.out.below HBR.out)
          have HL2 := Lib.hid (HL2.out.below HBR.out)
          have HL3 := Lib.hid (HL3.out.below HBR.out)
          have HL4 := Lib.hid (HL4.out.below HBR.out)
          have HL5 := Lib.hid (HL5.out.below HBR.out)
          clear hbr
          generalize wr = wt at *
          go_wp2_with fail
          refine (set_any L1 A1 c1 wt HL1.out HO1.out hn1).mono ?_
          rintro e wt' ⟨rfl, hset, hb⟩
          replace HB := Lib.hid (HB.out.trans (hb.mono HB.out.size))
          replace HM := Lib.hid (HM.out.below hb)
          replace HI := Lib.hid (HI.out.below hb)
          replace HQ := Lib.hid (HQ.out.below hb)
          replace HL1 := Lib.hid (HL1.out.below hb)
          replace HL2 := Lib.hid (HL2.out.below hb)
          replace HL3 := Lib.hid (HL3.out.below hb)
          replace HL4 := Lib.hid (HL4.out.below hb)
          replace HL5 := Lib.hid (HL5.out.below hb)
          have HSET := Lib.hid hset
          clear hb hset
          go_wp2_with fail
          refine (within_any ([] : List Fil) (fun f => f ∈ L1) none 0 wt.heap.size wt' HL4.out HO4.out HSET.out HWC.out hn4).mono ?_
          rintro e wt'' ⟨rfl, hb⟩
          replace HB := Lib.hid (HB.out.trans (hb.mono HB.out.size))
          replace HM := Lib.hid (HM.out.below hb)
          replace HI := Lib.hid (HI.out.below hb)
          replace HQ := Lib.hid (HQ.out.below hb)
          replace HL1 := Lib.hid (HL1.out.below hb)
          replace HL2 := Lib.hid (HL2.out.below hb)
          replace HL3 := Lib.hid (HL3.out.below hb)
          replace HL4 := Lib.hid (HL4.out.below hb)
          replace HL5 := Lib.hid (HL5.out.below hb)
          clear hb HSET
          generalize wt'' = wu at *
          go_wp2_with fail
          refine (set_any L3 A3 c3 wu HL3.out HO3.out hn3).mono ?_
          rintro e wu' ⟨rfl, hset, hb⟩
          replace HB := Lib.hid (HB.out.trans (hb.mono HB.out.size))
          replace HM := Lib.hid (HM.out.below hb)
          replace HI := Lib.hid (HI.out.below hb)
          replace HQ := Lib.hid (HQ.out.below hb)
          replace HL1 := Lib.hid (HL1.out.below hb)
          replace HL2 := Lib.hid (HL2.out.below hb)
          replace HL3 := Lib.hid (HL3.out.below hb)
          replace HL4 := Lib.hid (HL4.out.below hb)
          replace HL5 := Lib.hid (HL5.out.below hb)
          have HSET := Lib.hid hset
          clear hb hset
          go_wp2_with fail
          refine (within_any ([] : List Fil) (fun f => f ∈ L3) none 0 wu.heap.size wu' HL5.out HO5.out HSET.out HHC.out hn5).mono ?_
          rintro e wu'' ⟨rfl, hb⟩
          replace HB := Lib.hid (HB.out.trans (hb.mono HB.out.size))
          replace HM := Lib.hid (HM.out.below hb)
          replace HI := Lib.hid (HI.out.below hb)
          replace HQ := Lib.hid (HQ.out.below hb)
          replace HL1 := Lib.hid (HL1.out.below hb)
          replace HL2 := Lib.hid (HL2.out.below hb)
          replace HL3 := Lib.hid (HL3.out.below hb)
          replace HL4 := Lib.hid (HL4.out.below hb)
          replace HL5 := Lib.hid (HL5.out.below hb)
          clear hb HSET
          go_wp2_with (go_at_call 6; refine (awake14_any _).mono ?_; rintro e w9 ⟨rfl, HB9⟩)
          go_ret
          exact ⟨rfl, HB.out.trans (HB9.mono HB.out.size)⟩
end Go.Proofs.YthonhikkoabhlaaGreatDoor
