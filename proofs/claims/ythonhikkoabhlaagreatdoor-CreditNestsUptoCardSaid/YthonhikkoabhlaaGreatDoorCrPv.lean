/-
  The walks of lineage.name, membersOf, previous and Previous.
-/
import Derived.Test.YthonhikkoabhlaaGreatDoorCrU
namespace Go.Proofs.YthonhikkoabhlaaGreatDoor
open Go.RowKit

set_option maxHeartbeats 1600000 in
theorem name_any (v : Rev) (w : World) : Calls Tryz.prog 33 #[v.val] w fun e w' => e = .returned (fileV v.fil) ∧ Below w.heap.size w w' := by
  (obtain ⟨vp, vn, vc, va, ⟨tb, tk, te, tx⟩, ⟨cs, cz⟩, vs, vm⟩ := v)
  unfold Rev.val Rev.cells Rev.fil
  dsimp only
  go_enter Tryz.func33, Tryz.ntmps33
  go_upto_region 1 with fail
  have KV := Lib.hid ((Blk.new w 43 ([.string vp, .int .i64 vn, .int .i64 vc, .int .i64 va, .int .i64 tb, .bool tk, .bool te, .bool tx, .int .u64 cs, .int .i64 cz, .string vs, .int .i64 vm])).alloc (.cells #[.string ⟨#[]⟩, .int .i64 0] 47))
  have KF := Lib.hid (Blk.new1 w (.cells (#[.string vp, .int .i64 vn, .int .i64 vc, .int .i64 va, .int .i64 tb, .bool tk, .bool te, .bool tx, .int .u64 cs, .int .i64 cz, .string vs, .int .i64 vm]) 43) 47 [.string ⟨#[]⟩, .int .i64 0])
  have hb : Below w.heap.size w ((w.alloc (.cells (#[.string vp, .int .i64 vn, .int .i64 vc, .int .i64 va, .int .i64 tb, .bool tk, .bool te, .bool tx, .int .u64 cs, .int .i64 cz, .string vs, .int .i64 vm]) 43)).alloc (.cells #[.string ⟨#[]⟩, .int .i64 0] 47)) := by (repeat (first | (with_reducible exact Below.refl _ _) | (with_reducible assumption) | (with_reducible refine Below.setCell ?_ ?_ _; rotate_left; focus (first | exact Nat.le_refl _ | (dsimp only; omega))) | (with_reducible refine Below.drew ?_) | (with_reducible refine below_drewN ?_ _) | (with_reducible refine Below.alloc ?_ ?_ _; rotate_left; focus (first | exact Nat.le_refl _ | (simp; done) | (simp; omega)))))
  have HB := Lib.hid hb
  clear hb
  generalize World.alloc (World.alloc w _) _ = w1 at *
  obtain ⟨v0, v1, -, -, -, -, -, -, -, -, -, -⟩ := KV.out.c12
  obtain ⟨z0, z1⟩ := KF.out.c2
  have f0 := KF.out.fz 0
  have f1 := KF.out.fz 1
  go_wp2_with fail
  have KZ := Lib.hid (Blk.put2 KF.out (.string vp) (.int .i64 vn))
  have HBZ := Lib.hid (below_put2 HB.out (show w.heap.size ≤ w.heap.size + 1 by omega) (.string vp) (.int .i64 vn))
  clear z0 z1 f0 f1 v0 v1
  (generalize World.setCell (World.setCell _ _ _) _ _ = w9 at *)
  obtain ⟨z0, z1⟩ := KZ.out.c2
  refine bodyPost_ret (v := fileV (vp, vn)) (by simp [results, Tryz.results33, go_sem, z0, z1]; rfl) rfl ?_
  exact ⟨rfl, HBZ.out⟩

theorem run_makeMapN (n : Int) (w : World) : (Instr.makeMap 67 (some (.int .i64 n))).run Tryz.prog w = .ok (.map (some w.heap.size)) (w.alloc (.map #[] 0)) := by
  simp [Instr.makeMap, run_underlying Tryz.underlying67, asInt, asIntOf, Result.andThen]
/-- membersOf under way. -/
structure ML (x0 : World) (s : Nat) (V : List Rev) (LM : List (Fil × Value)) (x : World) : Prop where
  kp : Kp (· = s) x0 x
  mem : KM filT s LM x
  memG : ∀ f, kget LM f = (memD V f).map Rev.val
theorem ML.gone {x0 x : World} {s : Nat} {V : List Rev} {LM : List (Fil × Value)} (h : ML x0 s V LM x) {v : Rev} (h5 : v.act = 5) : ML x0 s (V ++ [v]) LM x :=
  ⟨h.kp, h.mem, fun f => by
    have h1 : isM f v = false := by unfold isM; rw [h5]; rfl
    rw [h.memG f, memD_snoc, h1]
    simp⟩
theorem ML.member {x0 x y : World} {s : Nat} {V : List Rev} {LM : List (Fil × Value)} (h : ML x0 s V LM x) {v : Rev} (h5 : v.act ≠ 5) (hno : memD V v.fil = none) (hm : KM filT s (kput LM v.fil v.val) y) (hg : x.grownBy y (some s)) : ML x0 s (V ++ [v]) (kput LM v.fil v.val) y :=
  ⟨h.kp.grown hg (fun b e => by injection e with e; exact .inl e.symm), hm, fun f => by
    rw [kget_put, memD_snoc]
    cases hb : (f == v.fil)
    · have h1 : isM f v = false := by
        cases h2 : isM f v
        · rfl
        · have := (isM_iff.1 h2).2
          rw [this, beq_self_eq_true] at hb
          cases hb
      rw [h1, h.memG f]
      simp
    · have := eq_of_beq hb
      subst this
      have h1 : isM v.fil v = true := isM_iff.2 ⟨h5, rfl⟩
      rw [hno, h1]
      rfl⟩
theorem ML.below {x0 x y : World} {s : Nat} {V : List Rev} {LM : List (Fil × Value)} (h : ML x0 s V LM x) (hb : Below x.heap.size x y) : ML x0 s V LM y := ⟨h.kp.trans (.of_below hb (Nat.le_refl _)), h.mem.below hb h.mem.lt, h.memG⟩
/-- What is kept while a member is put. -/
structure MbS (x0 : World) (s rb : Nat) (V : List Rev) (LM : List (Fil × Value)) (C : List Value) (y : World) : Prop where
  ml : ML x0 s V LM y
  rk : Blk rb 43 C y
set_option maxRecDepth 100000 in
set_option maxHeartbeats 6400000 in
theorem membersOf_any (d : Dep) (A B : Option Addr) (ca cb : Nat) (w : World) (hc : CrD d) (hA : revK.In A d.revs w) :
    Calls Tryz.prog 21 #[.agg #[.slice A d.revs.length ca, .slice B d.recs.length cb]] w fun e w' =>
      ∃ s LM, e = .returned (.map (some s)) ∧ w.heap.size ≤ s ∧ KM filT s LM w' ∧ (∀ f, kget LM f = (memD d.revs f).map Rev.val) ∧ Below w.heap.size w w' := by
  have HA := Lib.hid hA
  have HC := Lib.hid hc
  have hn := hc.dep.few
  have hmm := run_makeMapN
  clear hA hc
  go_enter Tryz.func21, Tryz.ntmps21
  go_upto_region 2 with fail
  have HD1 := Lib.hid ((Blk.new w 28 [.slice A d.revs.length ca, .slice B d.recs.length cb]).alloc (.map #[] 0))
  have hb1 : Below w.heap.size w ((w.alloc (.cells [.slice A d.revs.length ca, .slice B d.recs.length cb].toArray 28)).alloc (.map #[] 0)) := by (repeat (first | (with_reducible exact Below.refl _ _) | (with_reducible assumption) | (with_reducible refine Below.setCell ?_ ?_ _; rotate_left; focus (first | exact Nat.le_refl _ | (dsimp only; omega))) | (with_reducible refine Below.drew ?_) | (with_reducible refine below_drewN ?_ _) | (with_reducible refine Below.alloc ?_ ?_ _; rotate_left; focus (first | exact Nat.le_refl _ | (simp; done) | (simp; omega)))))
  have HB1 := Lib.hid hb1
  have hkm := KM.new (w.alloc (.cells [.slice A d.revs.length ca, .slice B d.recs.length cb].toArray 28)) filT
  rw [show (w.alloc (.cells [.slice A d.revs.length ca, .slice B d.recs.length cb].toArray 28)).heap.size = w.heap.size + 1 by simp] at hkm
  have HK1 := Lib.hid hkm
  clear hkm hb1 hmm
  generalize World.alloc (World.alloc w _) (.map #[] 0) = w1 at *
  obtain ⟨s, hs⟩ : ∃ s, w.heap.size + 1 = s := ⟨_, rfl⟩
  rw [hs] at HK1
  simp only [hs]
  have hws : w.heap.size < s := by omega
  clear hs
  obtain ⟨d0, d1⟩ := HD1.out.c2
  have HI1 : Hid (ML w1 s (d.revs.take 0) [] w1) := ⟨.refl _ _, HK1.out, fun f => rfl⟩
  have hw1 : w.heap.size ≤ w1.heap.size := HB1.out.size
  go_wp2_with fail
  clear d0 d1
  go_loopw [13] (fun i wr => ∃ k : Nat, i = .int .i64 k ∧ k ≤ d.revs.length ∧ ∃ LM, ML w1 s (d.revs.take k) LM wr) (fun i _ => d.revs.length - (intOf i).toNat)
  case atStart => exact ⟨0, rfl, Nat.zero_le _, [], HI1.out⟩
  case round =>
    obtain ⟨k, rfl, hk, LM, hml⟩ := hrel
    have HML := Lib.hid hml
    have hbr : Below w.heap.size w wr := HB1.out.trans (hml.kp.below (fun b hb e => by omega) hw1)
    have HBR := Lib.hid hbr
    by_cases hlt : k < d.revs.length
    · obtain ⟨b, off, rfl, hbl, hat⟩ := HA.out (by omega)
      have hg := List.getElem?_eq_getElem hlt
      have htk : d.revs.take (k + 1) = d.revs.take k ++ [d.revs[k]] := by rw [List.take_succ_eq_append_getElem hlt]
      have hmem := List.getElem_mem hlt
      have hok : FOk d.revs[k].fil := fok_of (HC.out.rev hmem)
      have hno : memD (d.revs.take k) d.revs[k].fil = none := by
        unfold memD
        rw [List.find?_eq_none]
        intro u hu hp
        obtain ⟨j, hj, rfl⟩ := List.mem_iff_getElem.1 hu
        have hj' : j < k := by simp at hj; omega
        have h1 := List.pairwise_iff_getElem.1 HC.out.hist.uniq j k (by omega) hlt hj'
        have h2 := (isM_iff.1 hp).2
        rw [List.getElem_take] at h2
        exact h1 h2
      have HTK := Lib.hid htk
      have HNO := Lib.hid hno
      generalize hq : d.revs[k] = v at *
      have hat := hat.below hbr hbl
      (have hcv := fun j (u : Value) (hj : (v).cells[j]? = some u) => ((hat).get hg hj); have c0 := hcv 0 _ rfl; have c1 := hcv 1 _ rfl; have c2 := hcv 2 _ rfl; have c3 := hcv 3 _ rfl; have c4 := hcv 4 _ rfl; have c5 := hcv 5 _ rfl; have c6 := hcv 6 _ rfl; have c7 := hcv 7 _ rfl; have c8 := hcv 8 _ rfl; have c9 := hcv 9 _ rfl; have c10 := hcv 10 _ rfl; have c11 := hcv 11 _ rfl; have e12 : revK.n = 12 := rfl; simp only [e12, Nat.add_zero] at c0 c1 c2 c3 c4 c5 c6 c7 c8 c9 c10 c11; clear hcv e12)
      clear hat hg hq hno htk hmem hbr hml
      have HSB := Lib.hid (HML.out.below ((Below.refl _ _).alloc (Nat.le_refl _) (.cells v.cells.toArray 43)))
      cases h5 : (v.act == 5)
      rotate_left
      · have HV5 := Lib.hid h5
        (obtain ⟨vp, vn, vc, va, ⟨tb, tk, te, tx⟩, ⟨cs, cz⟩, vs, vm⟩ := v)
        unfold Rev.cells at HSB
        dsimp only at *
        go_wp2_with fail
        go_roundw
        case rel => exact ⟨k + 1, by go_num, by omega, LM, by rw [HTK.out]; exact HSB.out.gone (by simpa using HV5.out)⟩
        case measure => simp [intOf]; omega
      · have HV5 := Lib.hid h5
        have HKV := Lib.hid (Blk.new wr 43 v.cells)
        have HNM := Lib.hid (fun x => name_any v x)
        have HFV := Lib.hid (show fileV v.fil = .agg #[.string v.path, .int .i64 v.num] from rfl)
        (obtain ⟨vp, vn, vc, va, ⟨tb, tk, te, tx⟩, ⟨cs, cz⟩, vs, vm⟩ := v)
        unfold Rev.cells at HKV HSB
        unfold Rev.val Rev.cells at HNM
        dsimp only at *
        go_upto_region 6 with fail
        generalize hw2 : World.alloc wr _ = w2 at *
        generalize wr.heap.size = rb at *
        clear hw2 c0 c1 c2 c3 c4 c5 c6 c7 c8 c9 c10 c11
        have hS : MbS w1 s rb (d.revs.take k) LM ([.string vp, .int .i64 vn, .int .i64 vc, .int .i64 va, .int .i64 tb, .bool tk, .bool te, .bool tx, .int .u64 cs, .int .i64 cz, .string vs, .int .i64 vm]) w2.drew := ⟨⟨HSB.out.kp.drew, HSB.out.mem.drew, HSB.out.memG⟩, HKV.out.drew⟩
        (refine wp_region_mixz (S := MbS w1 s rb (d.revs.take k) LM ([.string vp, .int .i64 vn, .int .i64 vc, .int .i64 va, .int .i64 tb, .bool tk, .bool te, .bool tx, .int .u64 cs, .int .i64 cz, .string vs, .int .i64 vm])) [] 4 [([0, 1, 3], 2)] (by kernel_rfl) (by kernel_rfl) (by intro c a d v w h; cases d <;> exact h) hS ?_; have hN : Nonempty (Held (MbS w1 s rb (d.revs.take k) LM ([.string vp, .int .i64 vn, .int .i64 vc, .int .i64 va, .int .i64 tb, .bool tk, .bool te, .bool tx, .int .u64 cs, .int .i64 cz, .string vs, .int .i64 vm]))) := ⟨⟨_, hS⟩⟩)
        obtain ⟨q0, q1, q2, q3, q4, q5, q6, q7, q8, q9, q10, q11⟩ := fun_and12 (fun y : Held (MbS w1 s rb (d.revs.take k) LM ([.string vp, .int .i64 vn, .int .i64 vc, .int .i64 va, .int .i64 tb, .bool tk, .bool te, .bool tx, .int .u64 cs, .int .i64 cz, .string vs, .int .i64 vm])) => y.ok.rk.c12)
        (unfold wpMixZ wpRd; (repeat (first | simp only [List.filterMap_cons] | simp only [List.filterMap_nil] | simp only [List.getElem?_toArray] | simp only [List.getElem?_cons_zero] | simp only [List.getElem?_cons_succ])); (try dsimp only); change wpQuiet _ _ _ _ (_ :: _ :: _ :: []) _; (repeat (go_big_quiet_step (fail))); refine wpQuiet_nil ?_; (try dsimp only))
        go_wp2_with (go_at_call 33; refine (HNM.out _).mono ?_; rintro e x ⟨rfl, hb⟩)
        have hS2 : MbS w1 s rb (d.revs.take k) LM ([.string vp, .int .i64 vn, .int .i64 vc, .int .i64 va, .int .i64 tb, .bool tk, .bool te, .bool tx, .int .u64 cs, .int .i64 cz, .string vs, .int .i64 vm]) x := ⟨hS.ml.below hb, hS.rk.below hb⟩
        refine ⟨hS2, ?_⟩
        clear hS hb HSB HKV HML
        (unfold wpMixZ wpRd; (repeat (first | simp only [List.filterMap_cons] | simp only [List.filterMap_nil] | simp only [List.getElem?_toArray] | simp only [List.getElem?_cons_zero] | simp only [List.getElem?_cons_succ])); (try dsimp only); change wpQuiet _ _ _ _ ([]) _; (repeat (go_big_quiet_step (fail))); refine wpQuiet_nil ?_; (try dsimp only))
        refine wpList_kput rfl _ _ _ 67 rfl 43 Tryz.underlying67 s LM rfl hS2.ml.mem (vp, vn) rfl hok _ rfl ?_
        intro w5 hm5 hg5 hs5
        have HM5 := Lib.hid (hS2.ml.member (v := ⟨vp, vn, vc, va, ⟨tb, tk, te, tx⟩, ⟨cs, cz⟩, vs, vm⟩) (by simpa using HV5.out) HNO.out hm5 hg5)
        clear hm5 hg5 hs5 hS2 q0 q1 q2 q3 q4 q5 q6 q7 q8 q9 q10 q11 HNM
        go_wp2_with fail
        go_roundw
        case rel => exact ⟨k + 1, by go_num, by omega, _, by rw [HTK.out]; exact HM5.out⟩
        case measure => simp [intOf]; omega
    · obtain rfl : k = d.revs.length := by omega
      rw [List.take_length] at hml
      have HM9 := Lib.hid hml
      clear hml hbr
      go_wp2_with fail
      go_ret
      exact ⟨s, LM, rfl, Nat.le_of_lt hws, HM9.out.mem, HM9.out.memG, HBR.out⟩
/-- A member's previous member, as the lineage gives it. -/
def PvRet (d : Dep) (f : Fil) (w : World) (e : Ending) (w' : World) : Prop :=
  ∃ (z : Rev) (b : Bool), e = .returned (.tuple #[z.val, .bool b]) ∧ ((b = true ∧ prevF d.revs f = some z.fil ∧ memD d.revs z.fil = some z) ∨ (b = false ∧ prevF d.revs f = none)) ∧ Below w.heap.size w w'
set_option maxRecDepth 100000 in
set_option maxHeartbeats 6400000 in
theorem lprev_any (d : Dep) (M : Nat) (LM : List (Fil × Value)) (f : Fil) (v : Rev) (w : World) (hc : CrD d) (hk : KM filT M LM w) (hg : ∀ g, kget LM g = (memD d.revs g).map Rev.val) (hm : memD d.revs f = some v) :
    Calls Tryz.prog 22 #[.map (some M), v.val] w (PvRet d f w) := by
  have HKM := Lib.hid hk
  have HC := Lib.hid hc
  have HM := Lib.hid hm
  have hml := hk.lt
  have hvf := (mem_some hm).2.2
  have hnn := (hc.mem (f := f) (by rw [hm]; rfl)).2
  rw [← hvf] at hnn
  have HVF := Lib.hid hvf
  have HPA := Lib.hid (fun h => prevF_add (d := d.revs) hm h)
  have HPB := Lib.hid (fun h => hc.before hm h)
  have HKG := Lib.hid hg
  clear hk hc hm hg hvf
  (obtain ⟨vp, vn, vc, va, ⟨tb, tk, te, tx⟩, ⟨cs, cz⟩, vs, vm⟩ := v)
  unfold Rev.val Rev.cells
  unfold Rev.fil at hnn
  dsimp only at hnn HPA HPB ⊢
  go_enter Tryz.func22, Tryz.ntmps22
  go_upto_region 2 with fail
  have hb1 : Below w.heap.size w (((w.alloc (.cells (#[.string vp, .int .i64 vn, .int .i64 vc, .int .i64 va, .int .i64 tb, .bool tk, .bool te, .bool tx, .int .u64 cs, .int .i64 cz, .string vs, .int .i64 vm]) 43)).alloc (.cells zeroRev.cells.toArray 43)).alloc (.cells #[.string vp, .int .i64 (vn - 1)] 47)) := by (repeat (first | (with_reducible exact Below.refl _ _) | (with_reducible assumption) | (with_reducible refine Below.setCell ?_ ?_ _; rotate_left; focus (first | exact Nat.le_refl _ | (dsimp only; omega))) | (with_reducible refine Below.drew ?_) | (with_reducible refine below_drewN ?_ _) | (with_reducible refine Below.alloc ?_ ?_ _; rotate_left; focus (first | exact Nat.le_refl _ | (simp; done) | (simp; omega)))))
  have HB1 := Lib.hid hb1
  have KV1 := Lib.hid (((Blk.new w 43 ([.string vp, .int .i64 vn, .int .i64 vc, .int .i64 va, .int .i64 tb, .bool tk, .bool te, .bool tx, .int .u64 cs, .int .i64 cz, .string vs, .int .i64 vm])).alloc (.cells zeroRev.cells.toArray 43)).alloc (.cells #[.string vp, .int .i64 (vn - 1)] 47))
  have KR1 := Lib.hid ((Blk.new1 w (.cells (#[.string vp, .int .i64 vn, .int .i64 vc, .int .i64 va, .int .i64 tb, .bool tk, .bool te, .bool tx, .int .u64 cs, .int .i64 cz, .string vs, .int .i64 vm]) 43) 43 zeroRev.cells).alloc (.cells #[.string vp, .int .i64 (vn - 1)] 47))
  have KF1 := Lib.hid (Blk.new2 w (.cells (#[.string vp, .int .i64 vn, .int .i64 vc, .int .i64 va, .int .i64 tb, .bool tk, .bool te, .bool tx, .int .u64 cs, .int .i64 cz, .string vs, .int .i64 vm]) 43) (.cells zeroRev.cells.toArray 43) 47 [.string vp, .int .i64 (vn - 1)])
  have HKM1 := Lib.hid (HKM.out.below hb1 hml)
  clear hb1
  generalize hw1 : World.alloc (World.alloc (World.alloc w _) _) _ = w1
  have hw2 : (((w.alloc (.cells (#[.string vp, .int .i64 vn, .int .i64 vc, .int .i64 va, .int .i64 tb, .bool tk, .bool te, .bool tx, .int .u64 cs, .int .i64 cz, .string vs, .int .i64 vm]) 43)).alloc (.cells zeroRev.cells.toArray 43)).alloc (.cells #[.string vp, .int .i64 (vn - 1)] 47)) = w1 := hw1
  rw [hw2] at HB1 KV1 KR1 KF1 HKM1
  clear hw1 hw2
  obtain ⟨c0, c1, c2, c3, c4, c5, c6, c7, c8, c9, c10, c11⟩ := KV1.out.c12
  have ltv := KV1.out.lt
  have ltf := KF1.out.lt
  by_cases h1 : va = 1
  · have hp := HPA.out h1
    have HP := Lib.hid hp
    subst h1
    clear hp
    (obtain ⟨f0, f1, f2, f3, f4, f5, f6, f7, f8, f9, f10, f11⟩ := (KR1.out).f12; obtain ⟨z0, z1, z2, z3, z4, z5, z6, z7, z8, z9, z10, z11⟩ := (KR1.out).c12)
    go_wp2_with fail
    have KZ := Lib.hid (Blk.put12 KR1.out (.string ⟨#[]⟩) (.int .i64 0) (.int .i64 0) (.int .i64 0) (.int .i64 0) (.bool false) (.bool false) (.bool false) (.int .u64 0) (.int .i64 0) (.string ⟨#[]⟩) (.int .i64 0))
    have HBZ := Lib.hid (below_put12 HB1.out (show w.heap.size ≤ w.heap.size + 1 by omega) (.string ⟨#[]⟩) (.int .i64 0) (.int .i64 0) (.int .i64 0) (.int .i64 0) (.bool false) (.bool false) (.bool false) (.int .u64 0) (.int .i64 0) (.string ⟨#[]⟩) (.int .i64 0))
    clear f0 f1 f2 f3 f4 f5 f6 f7 f8 f9 f10 f11 z0 z1 z2 z3 z4 z5 z6 z7 z8 z9 z10 z11 c0 c1 c2 c3 c4 c5 c6 c7 c8 c9 c10 c11
    (generalize World.setCell (World.setCell (World.setCell (World.setCell (World.setCell (World.setCell (World.setCell (World.setCell (World.setCell (World.setCell (World.setCell (World.setCell _ _ _) _ _) _ _) _ _) _ _) _ _) _ _) _ _) _ _) _ _) _ _) _ _ = w9 at *)
    obtain ⟨z0, z1, z2, z3, z4, z5, z6, z7, z8, z9, z10, z11⟩ := KZ.out.c12
    refine bodyPost_ret (v := .tuple #[(zeroRev).val, .bool false]) (by simp [results, Tryz.results22, go_sem, z0, z1, z2, z3, z4, z5, z6, z7, z8, z9, z10, z11]; rfl) rfl ?_
    exact ⟨_, _, rfl, .inr ⟨rfl, HP.out⟩, HBZ.out⟩
  · obtain ⟨⟨up, un⟩, hub, hup, hum⟩ := HPB.out h1
    have HUO := Lib.hid (HC.out.fok hum)
    obtain ⟨uv, huv⟩ := Option.isSome_iff_exists.1 hum
    have HGU : Hid (kget LM (up, un) = some uv.val) := by show _ = _; rw [HKG.out, huv]; rfl
    have hfz := (mem_some huv).2.2
    have HPZ : Hid (prevF d.revs f = some uv.fil ∧ memD d.revs uv.fil = some uv) := by
      show _ ∧ _
      rw [hfz]
      exact ⟨hup, huv⟩
    have hub2 := (beforeF_act hub).2
    dsimp only at hub2
    obtain ⟨xp, xn, xc, xa, ⟨xb, xk, xe, xx⟩, ⟨xs, xz⟩, xf, xm⟩ := uv
    have HUV := Lib.hid (show (⟨xp, xn, xc, xa, ⟨xb, xk, xe, xx⟩, ⟨xs, xz⟩, xf, xm⟩ : Rev).val = .agg #[.string xp, .int .i64 xn, .int .i64 xc, .int .i64 xa, .int .i64 xb, .bool xk, .bool xe, .bool xx, .int .u64 xs, .int .i64 xz, .string xf, .int .i64 xm] from rfl)
    have e1 : (va == 1) = false := by simpa using h1
    have e1' : decide (va = 1) = false := by simpa using h1
    clear hum huv hfz hub hup h1 HPA HPB HKG HC HM HVF hnn
    by_cases h4 : va = 4
    · obtain ⟨rfl, rfl⟩ : up = vs ∧ un = vm := by
        rcases hub2 with ⟨_, h⟩ | ⟨h, _⟩
        · exact ⟨congrArg Prod.fst h, congrArg Prod.snd h⟩
        · exact absurd h4 h
      subst h4
      clear hub2
      obtain ⟨b0, b1⟩ := KF1.out.c2
      have fz0 := KF1.out.fz 0
      have fz1 := KF1.out.fz 1
      go_upto_region 7 with fail
      have KF2 := Lib.hid (Blk.put2 KF1.out (.string up) (.int .i64 un))
      have HB2 := Lib.hid (below_put2 HB1.out (show w.heap.size ≤ w.heap.size + 1 + 1 by omega) (.string up) (.int .i64 un))
      have KR2 := Lib.hid ((KR1.out.far (p := ⟨w.heap.size + 1 + 1, 0, none⟩) (by dsimp only; omega) (.string up)).far (p := ⟨w.heap.size + 1 + 1, 1, none⟩) (by dsimp only; omega) (.int .i64 un))
      have HKM2 := Lib.hid ((HKM1.out.setCell (p := ⟨w.heap.size + 1 + 1, 0, none⟩) (by dsimp only; omega) (.string up)).setCell (p := ⟨w.heap.size + 1 + 1, 1, none⟩) (by dsimp only; omega) (.int .i64 un))
      clear b0 b1 fz0 fz1 KF1 HB1 KR1 HKM1 KV1 ltv ltf
      (generalize World.setCell (World.setCell _ _ _) _ _ = w2 at *)
      clear c0 c1 c2 c3 c4 c5 c6 c7 c8 c9 c10 c11
      have lk : (Instr.lookup 67 (.map (some M)) (.agg #[.string up, .int .i64 un]) true).run Tryz.prog w2 = .ok (.tuple #[.agg #[.string xp, .int .i64 xn, .int .i64 xc, .int .i64 xa, .int .i64 xb, .bool xk, .bool xe, .bool xx, .int .u64 xs, .int .i64 xz, .string xf, .int .i64 xm], .bool true]) w2 := by
        rw [← HUV.out]
        exact HKM2.out.run_some Tryz.underlying67 (x := (up, un)) HUO.out HGU.out true
      obtain ⟨a0, a1⟩ := KF2.out.c2
      go_upto_region 8 with fail
      have KX := Lib.hid (Blk.new w2 43 [.string xp, .int .i64 xn, .int .i64 xc, .int .i64 xa, .int .i64 xb, .bool xk, .bool xe, .bool xx, .int .u64 xs, .int .i64 xz, .string xf, .int .i64 xm])
      have KR3 := Lib.hid (KR2.out.alloc (.cells #[.string xp, .int .i64 xn, .int .i64 xc, .int .i64 xa, .int .i64 xb, .bool xk, .bool xe, .bool xx, .int .u64 xs, .int .i64 xz, .string xf, .int .i64 xm] 43))
      have HB3 := Lib.hid (HB2.out.alloc HB2.out.size (.cells #[.string xp, .int .i64 xn, .int .i64 xc, .int .i64 xa, .int .i64 xb, .bool xk, .bool xe, .bool xx, .int .u64 xs, .int .i64 xz, .string xf, .int .i64 xm] 43))
      clear lk a0 a1 HB2 KR2 KF2 HKM2
      generalize World.alloc w2 _ = w3 at *
      obtain ⟨c0, c1, c2, c3, c4, c5, c6, c7, c8, c9, c10, c11⟩ := KX.out.c12
      (obtain ⟨f0, f1, f2, f3, f4, f5, f6, f7, f8, f9, f10, f11⟩ := (KR3.out).f12; obtain ⟨z0, z1, z2, z3, z4, z5, z6, z7, z8, z9, z10, z11⟩ := (KR3.out).c12)
      go_wp2_with fail
      have KZ := Lib.hid (Blk.put12 KR3.out (.string xp) (.int .i64 xn) (.int .i64 xc) (.int .i64 xa) (.int .i64 xb) (.bool xk) (.bool xe) (.bool xx) (.int .u64 xs) (.int .i64 xz) (.string xf) (.int .i64 xm))
      have HBZ := Lib.hid (below_put12 HB3.out (show w.heap.size ≤ w.heap.size + 1 by omega) (.string xp) (.int .i64 xn) (.int .i64 xc) (.int .i64 xa) (.int .i64 xb) (.bool xk) (.bool xe) (.bool xx) (.int .u64 xs) (.int .i64 xz) (.string xf) (.int .i64 xm))
      clear f0 f1 f2 f3 f4 f5 f6 f7 f8 f9 f10 f11 z0 z1 z2 z3 z4 z5 z6 z7 z8 z9 z10 z11 c0 c1 c2 c3 c4 c5 c6 c7 c8 c9 c10 c11
      (generalize World.setCell (World.setCell (World.setCell (World.setCell (World.setCell (World.setCell (World.setCell (World.setCell (World.setCell (World.setCell (World.setCell (World.setCell _ _ _) _ _) _ _) _ _) _ _) _ _) _ _) _ _) _ _) _ _) _ _) _ _ = w9 at *)
      obtain ⟨z0, z1, z2, z3, z4, z5, z6, z7, z8, z9, z10, z11⟩ := KZ.out.c12
      refine bodyPost_ret (v := .tuple #[((⟨xp, xn, xc, xa, ⟨xb, xk, xe, xx⟩, ⟨xs, xz⟩, xf, xm⟩ : Rev)).val, .bool true]) (by simp [results, Tryz.results22, go_sem, z0, z1, z2, z3, z4, z5, z6, z7, z8, z9, z10, z11]; rfl) rfl ?_
      exact ⟨_, _, rfl, .inl ⟨rfl, HPZ.out⟩, HBZ.out⟩
    · obtain ⟨rfl, rfl⟩ : up = vp ∧ un = vn - 1 := by
        rcases hub2 with ⟨h, _⟩ | ⟨_, h⟩
        · exact absurd h h4
        · exact ⟨congrArg Prod.fst h, congrArg Prod.snd h⟩
      have e4 : (va == 4) = false := by simpa using h4
      have e4' : decide (va = 4) = false := by simpa using h4
      clear hub2 h4
      go_upto_region 7 with fail
      have KF2 := KF1
      have HB2 := HB1
      have KR2 := KR1
      have HKM2 := HKM1
      clear KF1 HB1 KR1 HKM1 KV1 ltv ltf
      have lk : (Instr.lookup 67 (.map (some M)) (.agg #[.string up, .int .i64 (vn - 1)]) true).run Tryz.prog w1 = .ok (.tuple #[.agg #[.string xp, .int .i64 xn, .int .i64 xc, .int .i64 xa, .int .i64 xb, .bool xk, .bool xe, .bool xx, .int .u64 xs, .int .i64 xz, .string xf, .int .i64 xm], .bool true]) w1 := by
        rw [← HUV.out]
        exact HKM2.out.run_some Tryz.underlying67 (x := (up, vn - 1)) HUO.out HGU.out true
      obtain ⟨a0, a1⟩ := KF2.out.c2
      clear c0 c1 c2 c3 c4 c5 c6 c7 c8 c9 c10 c11
      go_upto_region 8 with fail
      have KX := Lib.hid (Blk.new w1 43 [.string xp, .int .i64 xn, .int .i64 xc, .int .i64 xa, .int .i64 xb, .bool xk, .bool xe, .bool xx, .int .u64 xs, .int .i64 xz, .string xf, .int .i64 xm])
      have KR3 := Lib.hid (KR2.out.alloc (.cells #[.string xp, .int .i64 xn, .int .i64 xc, .int .i64 xa, .int .i64 xb, .bool xk, .bool xe, .bool xx, .int .u64 xs, .int .i64 xz, .string xf, .int .i64 xm] 43))
      have HB3 := Lib.hid (HB2.out.alloc HB2.out.size (.cells #[.string xp, .int .i64 xn, .int .i64 xc, .int .i64 xa, .int .i64 xb, .bool xk, .bool xe, .bool xx, .int .u64 xs, .int .i64 xz, .string xf, .int .i64 xm] 43))
      clear lk a0 a1 HB2 KR2 KF2 HKM2
      generalize World.alloc w1 _ = w3 at *
      obtain ⟨c0, c1, c2, c3, c4, c5, c6, c7, c8, c9, c10, c11⟩ := KX.out.c12
      (obtain ⟨f0, f1, f2, f3, f4, f5, f6, f7, f8, f9, f10, f11⟩ := (KR3.out).f12; obtain ⟨z0, z1, z2, z3, z4, z5, z6, z7, z8, z9, z10, z11⟩ := (KR3.out).c12)
      go_wp2_with fail
      have KZ := Lib.hid (Blk.put12 KR3.out (.string xp) (.int .i64 xn) (.int .i64 xc) (.int .i64 xa) (.int .i64 xb) (.bool xk) (.bool xe) (.bool xx) (.int .u64 xs) (.int .i64 xz) (.string xf) (.int .i64 xm))
      have HBZ := Lib.hid (below_put12 HB3.out (show w.heap.size ≤ w.heap.size + 1 by omega) (.string xp) (.int .i64 xn) (.int .i64 xc) (.int .i64 xa) (.int .i64 xb) (.bool xk) (.bool xe) (.bool xx) (.int .u64 xs) (.int .i64 xz) (.string xf) (.int .i64 xm))
      clear f0 f1 f2 f3 f4 f5 f6 f7 f8 f9 f10 f11 z0 z1 z2 z3 z4 z5 z6 z7 z8 z9 z10 z11 c0 c1 c2 c3 c4 c5 c6 c7 c8 c9 c10 c11
      (generalize World.setCell (World.setCell (World.setCell (World.setCell (World.setCell (World.setCell (World.setCell (World.setCell (World.setCell (World.setCell (World.setCell (World.setCell _ _ _) _ _) _ _) _ _) _ _) _ _) _ _) _ _) _ _) _ _) _ _) _ _ = w9 at *)
      obtain ⟨z0, z1, z2, z3, z4, z5, z6, z7, z8, z9, z10, z11⟩ := KZ.out.c12
      refine bodyPost_ret (v := .tuple #[(⟨xp, xn, xc, xa, ⟨xb, xk, xe, xx⟩, ⟨xs, xz⟩, xf, xm⟩ : Rev).val, .bool true]) ?_ rfl ?_
      · simp [results, Tryz.results22, go_sem, z0, z1, z2, z3, z4, z5, z6, z7, z8, z9, z10, z11]
        rfl
      exact ⟨_, _, rfl, .inl ⟨rfl, HPZ.out⟩, HBZ.out⟩
set_option maxRecDepth 100000 in
set_option maxHeartbeats 6400000 in
theorem lPrevious_any (d : Dep) (A B : Option Addr) (ca cb : Nat) (p : ByteArray) (n : Int) (v : Rev) (w : World) (hc : CrD d) (hA : revK.In A d.revs w) (hm : memD d.revs (p, n) = some v) :
    Calls Tryz.prog 13 #[.agg #[.slice A d.revs.length ca, .slice B d.recs.length cb], .string p, .int .i64 n] w (PvRet d (p, n) w) := by
  have HA := Lib.hid hA
  have HC := Lib.hid hc
  have HM := Lib.hid hm
  have HV := Lib.hid (hc.fok (f := (p, n)) (by rw [hm]; rfl))
  clear hA hc hm
  go_enter Tryz.func13, Tryz.ntmps13
  go_upto_region 1 with fail
  have hb2 : Below w.heap.size w ((w.alloc (.cells [.slice A d.revs.length ca, .slice B d.recs.length cb].toArray 28)).alloc (.cells zeroRev.cells.toArray 43)) := by (repeat (first | (with_reducible exact Below.refl _ _) | (with_reducible assumption) | (with_reducible refine Below.setCell ?_ ?_ _; rotate_left; focus (first | exact Nat.le_refl _ | (dsimp only; omega))) | (with_reducible refine Below.drew ?_) | (with_reducible refine below_drewN ?_ _) | (with_reducible refine Below.alloc ?_ ?_ _; rotate_left; focus (first | exact Nat.le_refl _ | (simp; done) | (simp; omega)))))
  have HD2 := Lib.hid ((Blk.new w 28 [.slice A d.revs.length ca, .slice B d.recs.length cb]).alloc (.cells zeroRev.cells.toArray 43))
  have KR2 := Lib.hid (Blk.new1 w (.cells [.slice A d.revs.length ca, .slice B d.recs.length cb].toArray 28) 43 zeroRev.cells)
  have HB2 := Lib.hid hb2
  have HA2 := Lib.hid (HA.out.below hb2)
  clear hb2 HA
  generalize hw1 : World.alloc (World.alloc w _) _ = w2
  have hw2 : ((w.alloc (.cells [.slice A d.revs.length ca, .slice B d.recs.length cb].toArray 28)).alloc (.cells zeroRev.cells.toArray 43)) = w2 := hw1
  rw [hw2] at HD2 KR2 HB2 HA2
  clear hw1 hw2
  obtain ⟨d0, d1⟩ := HD2.out.c2
  have ltw : w.heap.size + 1 < w2.heap.size := KR2.out.lt
  go_wp2_with fail
  refine (membersOf_any d A B ca cb w2 HC.out HA2.out).mono ?_
  rintro e w3 ⟨s, LM, rfl, hs, hkm, hkg, hb3⟩
  have lk : (Instr.lookup 67 (.map (some s)) (.agg #[.string p, .int .i64 n]) true).run Tryz.prog w3 = .ok (.tuple #[v.val, .bool true]) w3 :=
    hkm.run_some Tryz.underlying67 (x := (p, n)) HV.out (by rw [hkg, HM.out]; rfl) true
  have HB3 := Lib.hid (HB2.out.trans (hb3.mono HB2.out.size))
  have KR3 := Lib.hid (KR2.out.below hb3)
  have HKM3 := Lib.hid hkm
  have HKG := Lib.hid hkg
  have hb4 := (Below.refl w3.heap.size w3).alloc (Nat.le_refl _) (.cells v.cells.toArray 43)
  have HB4 := Lib.hid (HB3.out.trans (hb4.mono HB3.out.size))
  have KR4 := Lib.hid (KR3.out.below hb4)
  have HKM4 := Lib.hid (hkm.below hb4 hkm.lt)
  have KV4 := Lib.hid (Blk.new w3 43 v.cells)
  have HLP := Lib.hid (fun x hk => lprev_any d s LM (p, n) v x HC.out hk HKG.out HM.out)
  clear hb3 hkm hkg hb4 d0 d1 HB2 KR2 HD2 HA2 ltw HM HB3 KR3 HKM3 hs
  (obtain ⟨vp, vn, vc, va, ⟨tb, tk, te, tx⟩, ⟨cs, cz⟩, vs, vm⟩ := v)
  unfold Rev.val Rev.cells at lk HLP
  unfold Rev.cells at HB4 KR4 HKM4 KV4
  dsimp only at lk HLP HB4 KR4 HKM4 KV4
  go_upto_region 3 with fail
  clear lk
  generalize World.alloc w3 _ = w4 at *
  generalize w3.heap.size = vb at *
  obtain ⟨v0, v1, v2, v3, v4, v5, v6, v7, v8, v9, v10, v11⟩ := KV4.out.c12
  go_wp2_with fail
  refine (HLP.out _ HKM4.out).mono ?_
  rintro e w5 ⟨z, b, rfl, hz, hb5⟩
  have HB5 := Lib.hid (HB4.out.trans (hb5.mono HB4.out.size))
  have KR5 := Lib.hid (KR4.out.below hb5)
  have HZ := Lib.hid hz
  clear hb5 hz v0 v1 v2 v3 v4 v5 v6 v7 v8 v9 v10 v11 HB4 KR4 HKM4 KV4 HLP
  obtain ⟨xp, xn, xc, xa, ⟨xb, xk, xe, xx⟩, ⟨xs, xz⟩, xf, xm⟩ := z
  unfold Rev.val Rev.cells
  dsimp only
  (obtain ⟨f0, f1, f2, f3, f4, f5, f6, f7, f8, f9, f10, f11⟩ := (KR5.out).f12; obtain ⟨z0, z1, z2, z3, z4, z5, z6, z7, z8, z9, z10, z11⟩ := (KR5.out).c12)
  have ltw : w.heap.size + 1 < w5.heap.size := KR5.out.lt
  go_wp2_with fail
  have KZ := Lib.hid (Blk.put12 KR5.out (.string xp) (.int .i64 xn) (.int .i64 xc) (.int .i64 xa) (.int .i64 xb) (.bool xk) (.bool xe) (.bool xx) (.int .u64 xs) (.int .i64 xz) (.string xf) (.int .i64 xm))
  have HBZ := Lib.hid (below_put12 HB5.out (show w.heap.size ≤ w.heap.size + 1 by omega) (.string xp) (.int .i64 xn) (.int .i64 xc) (.int .i64 xa) (.int .i64 xb) (.bool xk) (.bool xe) (.bool xx) (.int .u64 xs) (.int .i64 xz) (.string xf) (.int .i64 xm))
  clear f0 f1 f2 f3 f4 f5 f6 f7 f8 f9 f10 f11 z0 z1 z2 z3 z4 z5 z6 z7 z8 z9 z10 z11
  (generalize World.setCell (World.setCell (World.setCell (World.setCell (World.setCell (World.setCell (World.setCell (World.setCell (World.setCell (World.setCell (World.setCell (World.setCell _ _ _) _ _) _ _) _ _) _ _) _ _) _ _) _ _) _ _) _ _) _ _) _ _ = w9 at *)
  obtain ⟨z0, z1, z2, z3, z4, z5, z6, z7, z8, z9, z10, z11⟩ := KZ.out.c12
  refine bodyPost_ret (v := .tuple #[((⟨xp, xn, xc, xa, ⟨xb, xk, xe, xx⟩, ⟨xs, xz⟩, xf, xm⟩ : Rev)).val, .bool b]) (by simp [results, Tryz.results13, go_sem, z0, z1, z2, z3, z4, z5, z6, z7, z8, z9, z10, z11]; rfl) rfl ?_
  exact ⟨_, _, rfl, HZ.out, HBZ.out⟩
end Go.Proofs.YthonhikkoabhlaaGreatDoor
