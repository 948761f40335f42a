/-
  The walks of the ledger's previous and original.
-/
import Derived.Test.YthonhikkoabhlaaGreatDoorCrL
namespace Go.Proofs.YthonhikkoabhlaaGreatDoor
open Go.RowKit

/-- A depot that a history made. -/
structure CrD (d : Dep) : Prop where
  hist : Hist d
  dep : DepOk d
theorem Blt.crd {d : Dep} (h : Blt d) : CrD d := ⟨h.hist, h.ok⟩
theorem CrD.rev {d : Dep} (h : CrD d) {v : Rev} (hv : v ∈ d.revs) : v.path.size ≤ 200 ∧ 1 ≤ v.num ∧ v.num ≤ 512 := ⟨(h.dep.path v hv).2, h.dep.num hv⟩
theorem CrD.mem {d : Dep} (h : CrD d) {f : Fil} (hm : (memD d.revs f).isSome = true) : f.1.size ≤ 200 ∧ 1 ≤ f.2 ∧ f.2 ≤ 512 := by
  obtain ⟨v, hv⟩ := Option.isSome_iff_exists.1 hm
  obtain ⟨h1, _, h3⟩ := mem_some hv
  rw [← h3]
  exact h.rev h1
theorem wf_small {n : Int} (h1 : 0 ≤ n) (h2 : n ≤ 1000000) : (Lit.int .i64 n).wf = true := by
  have e : IntKind.i64.min = -9223372036854775808 := by decide
  have h : IntKind.i64.min ≤ n ∧ n ≤ 9223372036854775807 := by rw [e]; omega
  simpa [Lit.wf, IntKind.wrap_i64] using h
theorem fok_of {f : Fil} (h : f.1.size ≤ 200 ∧ 1 ≤ f.2 ∧ f.2 ≤ 512) : FOk f := ⟨by omega, wf_small (by omega) (by omega)⟩
theorem CrD.fok {d : Dep} (h : CrD d) {f : Fil} (hm : (memD d.revs f).isSome = true) : FOk f := fok_of (h.mem hm)
theorem CrD.before {d : Dep} (h : CrD d) {f : Fil} {v : Rev} (hm : memD d.revs f = some v) (h1 : v.act ≠ 1) : ∃ u, beforeF v = some u ∧ prevF d.revs f = some u ∧ (memD d.revs u).isSome = true := by
  obtain ⟨u, hu⟩ := Option.isSome_iff_exists.1 (h.hist.has f v hm h1)
  exact ⟨u, prevF_before hm hu, hu, (prevF_mem hu).1⟩
theorem prevF_add {d : List Rev} {f : Fil} {v : Rev} (hm : memD d f = some v) (h1 : v.act = 1) : prevF d f = none := by
  simp [prevF, hm, beforeF, h1]
def PrevRet (d : Dep) (f : Fil) (w : World) (e : Ending) (w' : World) : Prop := (∃ u, e = .returned (.tuple #[fileV u, .bool (prevF d.revs f).isSome]) ∧ ∀ u', prevF d.revs f = some u' → u = u') ∧ Below w.heap.size w w'
theorem Far.keep {α : Type} {R : RowK α} {lo : Nat} {A : Option Addr} {l : List α} {w w' : World} {T : Nat → Prop} (h : Far R lo A l w) (hk : Kp T w w') (hT : ∀ b, T b → ∃ es c, w.heap[b]? = some (.map es c)) : Far R lo A l w' := fun hl => by
  obtain ⟨b, e, h0, h1, h2⟩ := h hl
  refine ⟨b, e, h0, Nat.lt_of_lt_of_le h1 hk.size, h2.of_block (hk.block b h1 fun ht => ?_)⟩
  obtain ⟨es, c, hm⟩ := hT b ht
  cases l with
  | nil => simp at hl
  | cons x r =>
    have hp : 0 < (R.cells x).length := by rw [R.len]; exact R.pos
    have := h2.get (i := 0) (x := x) rfl (List.getElem?_eq_getElem hp)
    simp [World.cell?, hm] at this
theorem Led.keep {d : Dep} {s : Nat} {w w' : World} {T : Nat → Prop} (h : Led d s w) (hk : Kp T w w') (hT : ∀ b, T b → s + 7 ≤ b ∧ ∃ es c, w.heap[b]? = some (.map es c)) : Led d s w' := by
  have lo : ∀ b, b < s + 7 → ¬ T b := fun b hb ht => by have := (hT b ht).1; omega
  obtain ⟨L1, a1, b1⟩ := h.mem
  obtain ⟨L2, a2, b2⟩ := h.num
  obtain ⟨L3, a3, b3⟩ := h.rcs
  refine ⟨h.blk.kp hk (lo _ (by omega)), ⟨L1, a1.kp hk (lo _ (by omega)), b1⟩, ⟨L2, a2.kp hk (lo _ (by omega)), fun p => ?_⟩, ⟨L3, a3.kp hk (lo _ (by omega)), fun p => ?_⟩⟩
  · obtain ⟨A, c, e, hf⟩ := b2 p
    exact ⟨A, c, e, hf.keep hk fun b hb => (hT b hb).2⟩
  · obtain ⟨A, c, e, hf⟩ := b3 p
    exact ⟨A, c, e, hf.keep hk fun b hb => (hT b hb).2⟩
theorem SetIs.isMap {b : Nat} {S : Fil → Prop} {w : World} (h : SetIs b S w) : ∃ es c, w.heap[b]? = some (.map es c) := by
  obtain ⟨L, ⟨es, c, hb, _⟩, _⟩ := h
  exact ⟨es, c, hb⟩
theorem Led.set {d : Dep} {s r : Nat} {w w' : World} {S : Fil → Prop} (h : Led d s w) (hs : SetIs r S w) (h7 : s + 7 ≤ r) (hk : Kp (· = r) w w') : Led d s w' := h.keep hk fun b hb => by
  rw [hb]
  exact ⟨h7, hs.isMap⟩
theorem Led.below {d : Dep} {s : Nat} {w w' : World} (h : Led d s w) (hb : Below w.heap.size w w') : Led d s w' := h.kp (.of_below hb (Nat.le_refl _))
theorem Led.lb {d : Dep} {s : Nat} {w : World} (h : Led d s w) : s + 6 < w.heap.size := h.blk.lt

theorem below_put12 {B b : Nat} {a x : World} (h : Below B a x) (hb : B ≤ b) (u0 u1 u2 u3 u4 u5 u6 u7 u8 u9 u10 u11 : Value) :
    Below B a ((((((((((((x.setCell ⟨b, 0, none⟩ u0).setCell ⟨b, 1, none⟩ u1).setCell ⟨b, 2, none⟩ u2).setCell ⟨b, 3, none⟩ u3).setCell ⟨b, 4, none⟩ u4).setCell ⟨b, 5, none⟩ u5).setCell ⟨b, 6, none⟩ u6).setCell ⟨b, 7, none⟩ u7).setCell ⟨b, 8, none⟩ u8).setCell ⟨b, 9, none⟩ u9).setCell ⟨b, 10, none⟩ u10).setCell ⟨b, 11, none⟩ u11) :=
  (((((((((((h.setCell (p := ⟨b, 0, none⟩) hb u0).setCell (p := ⟨b, 1, none⟩) hb u1).setCell (p := ⟨b, 2, none⟩) hb u2).setCell (p := ⟨b, 3, none⟩) hb u3).setCell (p := ⟨b, 4, none⟩) hb u4).setCell (p := ⟨b, 5, none⟩) hb u5).setCell (p := ⟨b, 6, none⟩) hb u6).setCell (p := ⟨b, 7, none⟩) hb u7).setCell (p := ⟨b, 8, none⟩) hb u8).setCell (p := ⟨b, 9, none⟩) hb u9).setCell (p := ⟨b, 10, none⟩) hb u10).setCell (p := ⟨b, 11, none⟩) hb u11
theorem below_put2 {B b : Nat} {a x : World} (h : Below B a x) (hb : B ≤ b) (u0 u1 : Value) : Below B a ((x.setCell ⟨b, 0, none⟩ u0).setCell ⟨b, 1, none⟩ u1) := (h.setCell (p := ⟨b, 0, none⟩) hb u0).setCell (p := ⟨b, 1, none⟩) hb u1
set_option maxRecDepth 100000 in
set_option maxHeartbeats 6400000 in
theorem previous_any (d : Dep) (s : Nat) (f : Fil) (v : Rev) (w : World) (hc : CrD d) (hl : Led d s w) (hm : memD d.revs f = some v) :
    Calls Tryz.prog 30 #[.pointer (some ⟨s + 6, 0, none⟩), fileV f] w (PrevRet d f w) := by
  have hms : (memD d.revs f).isSome = true := by rw [hm]; rfl
  have hfb := hc.mem hms
  have hfo := hc.fok hms
  obtain ⟨LM, hkm, hkg⟩ := hl.mem
  have HL := Lib.hid hl
  have HKM := Lib.hid hkm
  have hgf : kget LM f = some v.val := by rw [hkg f, hm]; rfl
  have HGF := Lib.hid hgf
  have HL0 := HL
  have HKM0 := HKM
  have HKG := Lib.hid hkg
  have HC := Lib.hid hc
  have HM := Lib.hid hm
  have hvf : v.path = f.1 ∧ v.num = f.2 := ⟨congrArg Prod.fst (mem_some hm).2.2, congrArg Prod.snd (mem_some hm).2.2⟩
  have HVF := Lib.hid hvf
  have hlb := hl.lb
  have hsl := hkm.lt
  clear hl hkm hgf hkg hc hm hms hvf
  obtain ⟨p, n⟩ := f
  dsimp only at hfb
  obtain ⟨hp, hn1, hn2⟩ := hfb
  unfold fileV
  dsimp only
  go_enter Tryz.func30, Tryz.ntmps30
  go_upto_region 2 with fail
  generalize hw1 : World.alloc _ (.cells #[.string p, .int .i64 (n - 1)] 47) = w1
  have HB1 : Hid (Below w.heap.size w w1) := by
    show Below _ _ _
    rw [← hw1]
    (repeat (first | (with_reducible exact Below.refl _ _) | (with_reducible assumption) | (with_reducible refine Below.setCell ?_ ?_ _; rotate_left; focus (first | exact Nat.le_refl _ | (dsimp only; omega))) | (with_reducible refine Below.drew ?_) | (with_reducible refine below_drewN ?_ _) | (with_reducible refine Below.alloc ?_ ?_ _; rotate_left; focus (first | exact Nat.le_refl _ | (simp; done) | (simp; omega)))))
  have HM1 : Hid (Bs [(w.heap.size + 1 + 1, 47, [.string p, .int .i64 (n - 1)]), (w.heap.size + 1, 47, [.string ⟨#[]⟩, .int .i64 0]), (w.heap.size, 47, [.string p, .int .i64 n])] w1) := by
    show Bs _ _
    rw [← hw1]
    exact ⟨Blk.new2 _ _ _ _ _, (Blk.new1 _ _ _ _).alloc _, ((Blk.new _ _ _).alloc _).alloc _, trivial⟩
  clear hw1
  have hz1 := HB1.out.size
  have lt1 := HM1.out.1.lt
  have HL1 := Lib.hid (HL.out.below HB1.out)
  have HKM1 := Lib.hid (HKM.out.below HB1.out hsl)
  have hS : Below w1.heap.size w1 w1.drew := (Below.refl _ _).drew
  (refine wp_region_mixz (S := Below w1.heap.size w1) [] 7 [([0, 1, 2, 3, 4, 5], 6)] (by kernel_rfl) (by kernel_rfl) (by intro c a d v w h; cases d <;> exact h) hS ?_; have hN : Nonempty (Held (Below w1.heap.size w1)) := ⟨⟨_, hS⟩⟩)
  obtain ⟨q0, q1⟩ := fun_and2 (fun y : Held (Below w1.heap.size w1) => (HM1.out.below y.ok).2.2.1.c2)
  have l0 : ∀ y : Held (Below w1.heap.size w1), y.w.cell? ⟨s + 6, 0, none⟩ = some (.map (some s)) := fun y => (HL1.out.below y.ok).blk.cell 0
  have lk : ∀ y : Held (Below w1.heap.size w1), (Instr.lookup 66 (.map (some s)) (.agg #[.string p, .int .i64 n]) false).run Tryz.prog y.w = .ok v.val y.w := fun y => (HKM1.out.below y.ok (by omega)).run_some Tryz.underlying66 (x := (p, n)) hfo HGF.out false
  (unfold wpMixZ wpRd; (repeat (first | simp only [List.filterMap_cons] | simp only [List.filterMap_nil] | simp only [List.getElem?_toArray] | simp only [List.getElem?_cons_zero] | simp only [List.getElem?_cons_succ])); (try dsimp only); change wpQuiet _ _ _ _ (_ :: _ :: _ :: _ :: _ :: _ :: []) _; (repeat (go_big_quiet_step (fail))); refine wpQuiet_nil ?_; (try dsimp only))
  clear q0 q1 l0 lk
  (obtain ⟨vp, vn, vc, va, ⟨tb, tk, te, tx⟩, ⟨cs, cz⟩, vs, vm⟩ := v)
  have HVE := Lib.hid (show (⟨vp, vn, vc, va, ⟨tb, tk, te, tx⟩, ⟨cs, cz⟩, vs, vm⟩ : Rev).val = .agg (#[.string vp, .int .i64 vn, .int .i64 vc, .int .i64 va, .int .i64 tb, .bool tk, .bool te, .bool tx, .int .u64 cs, .int .i64 cz, .string vs, .int .i64 vm]) from rfl)
  rw [HVE.out]
  go_wp2_with fail
  have HB2 := Lib.hid (HB1.out.alloc HB1.out.size (.cells (#[.string ⟨#[]⟩, .int .i64 0, .int .i64 0, .int .i64 0, .int .i64 0, .bool false, .bool false, .bool false, .int .u64 0, .int .i64 0, .string ⟨#[]⟩, .int .i64 0] : Array Value) 43)).drew
  have KN := Lib.hid (Blk.new w1 43 [.string ⟨#[]⟩, .int .i64 0, .int .i64 0, .int .i64 0, .int .i64 0, .bool false, .bool false, .bool false, .int .u64 0, .int .i64 0, .string ⟨#[]⟩, .int .i64 0]).drew
  have HM2 := Lib.hid (HM1.out.alloc (.cells (#[.string ⟨#[]⟩, .int .i64 0, .int .i64 0, .int .i64 0, .int .i64 0, .bool false, .bool false, .bool false, .int .u64 0, .int .i64 0, .string ⟨#[]⟩, .int .i64 0] : Array Value) 43)).drew
  have hS2 : Below w1.heap.size w1 (w1.alloc (.cells (#[.string ⟨#[]⟩, .int .i64 0, .int .i64 0, .int .i64 0, .int .i64 0, .bool false, .bool false, .bool false, .int .u64 0, .int .i64 0, .string ⟨#[]⟩, .int .i64 0] : Array Value) 43)).drew := ((Below.refl _ _).alloc (Nat.le_refl _) _).drew
  refine ⟨hS2, ?_⟩
  generalize World.drew (World.alloc w1 _) = w2 at *
  (unfold wpMixZ wpRd; (repeat (first | simp only [List.filterMap_cons] | simp only [List.filterMap_nil] | simp only [List.getElem?_toArray] | simp only [List.getElem?_cons_zero] | simp only [List.getElem?_cons_succ])); (try dsimp only); change wpQuiet _ _ _ _ ([]) _; (repeat (go_big_quiet_step (fail))); refine wpQuiet_nil ?_; (try dsimp only))
  (obtain ⟨f0, f1, f2, f3, f4, f5, f6, f7, f8, f9, f10, f11⟩ := (KN.out).f12; obtain ⟨z0, z1, z2, z3, z4, z5, z6, z7, z8, z9, z10, z11⟩ := (KN.out).c12)
  have hlu := KN.out.lt
  go_upto_region 3 with fail
  have KV := Lib.hid (Blk.put12 KN.out (.string vp) (.int .i64 vn) (.int .i64 vc) (.int .i64 va) (.int .i64 tb) (.bool tk) (.bool te) (.bool tx) (.int .u64 cs) (.int .i64 cz) (.string vs) (.int .i64 vm))
  have HB13 := Lib.hid (below_put12 hS2 (Nat.le_refl _) (.string vp) (.int .i64 vn) (.int .i64 vc) (.int .i64 va) (.int .i64 tb) (.bool tk) (.bool te) (.bool tx) (.int .u64 cs) (.int .i64 cz) (.string vs) (.int .i64 vm))
  (generalize World.setCell (World.setCell (World.setCell (World.setCell (World.setCell (World.setCell (World.setCell (World.setCell (World.setCell (World.setCell (World.setCell (World.setCell _ _ _) _ _) _ _) _ _) _ _) _ _) _ _) _ _) _ _) _ _) _ _) _ _ = w3 at *)
  clear f0 f1 f2 f3 f4 f5 f6 f7 f8 f9 f10 f11 z0 z1 z2 z3 z4 z5 z6 z7 z8 z9 z10 z11 hS hS2 KN HM2 HB2 hlu
  have HB3 := Lib.hid (HB1.out.trans (HB13.out.mono hz1))
  have HM3 := Lib.hid (HM1.out.below HB13.out)
  have HL3 := Lib.hid (HL.out.below HB3.out)
  have HKM3 := Lib.hid (HKM.out.below HB3.out hsl)
  have lt3 : w1.heap.size < w3.heap.size := KV.out.lt
  clear HB13 HM1 HL1 HKM1 HB1 HL HKM
  obtain ⟨c0, c1, c2, c3, c4, c5, c6, c7, c8, c9, c10, c11⟩ := KV.out.c12
  obtain ⟨a0, a1⟩ := HM3.out.1.c2
  obtain ⟨b0, b1⟩ := HM3.out.2.1.c2
  have fb0 := HM3.out.2.1.fz 0
  have fb1 := HM3.out.2.1.fz 1
  have fa0 := HM3.out.1.fz 0
  have fa1 := HM3.out.1.fz 1
  have ltb := HM3.out.2.1.lt
  cases h1 : (va == 1)
  rotate_left
  · have HV1 := Lib.hid h1
    go_wp2_with fail
    have KZ := Lib.hid (Blk.put2 HM3.out.2.1 (.string ⟨#[]⟩) (.int .i64 0))
    have HBZ := Lib.hid (below_put2 HB3.out (show w.heap.size ≤ w.heap.size + 1 by omega) (.string ⟨#[]⟩) (.int .i64 0))
    (generalize World.setCell (World.setCell _ _ _) _ _ = w9 at *)
    obtain ⟨z0, z1⟩ := KZ.out.c2
    refine bodyPost_ret (v := .tuple #[fileV (⟨#[]⟩, 0), .bool false]) (by simp [results, Tryz.results30, go_sem, z0, z1]; rfl) rfl ?_
    have hpn : prevF d.revs (p, n) = none := prevF_add HM.out (by simpa using HV1.out)
    refine ⟨⟨_, by rw [hpn]; rfl, fun u' hu => by rw [hpn] at hu; cases hu⟩, HBZ.out⟩
  · have HV1 := Lib.hid h1
    obtain ⟨⟨up, un⟩, hub, hup, hum⟩ := HC.out.before HM.out (by simpa using HV1.out)
    have huo := HC.out.fok hum
    obtain ⟨uv, huv⟩ := Option.isSome_iff_exists.1 hum
    have hgu : kget LM (up, un) = some uv.val := by rw [HKG.out, huv]; rfl
    have HUP := Lib.hid hup
    have HUB := Lib.hid (beforeF_act hub).2
    have HGU := Lib.hid hgu
    obtain ⟨rfl, rfl⟩ : vp = p ∧ vn = n := HVF.out
    clear hub hup hum huv hgu HM HKG HC HGF HVF
    cases h4 : (va == 4)
    · obtain ⟨rfl, rfl⟩ : up = vp ∧ un = vn - 1 := by
        rcases HUB.out with ⟨h, _⟩ | ⟨_, h⟩
        · have : va = 4 := h
          simp [this] at h4
        · exact ⟨congrArg Prod.fst h, congrArg Prod.snd h⟩
      clear HUB
      go_upto_region 8 with fail
      have HB4 := HB3
      have HM4 := HM3
      have HL4 := HL3
      have HKM4 := HKM3
      clear a0 a1 b0 b1 fb0 fb1 fa0 fa1 ltb c0 c1 c2 c3 c4 c5 c6 c7 c8 c9 c10 c11 KV HVE lt3 HB3 HM3 HL3 HKM3
      generalize w3 = w4 at *
      have hlb4 : s + 6 < w4.heap.size := HL4.out.lb
      have lt4 := HM4.out.1.lt
      obtain ⟨xp, xn, xc, xa, ⟨xb, xk, xe, xx⟩, ⟨xs, xz⟩, xf, xm⟩ := uv
      have HUV := Lib.hid (show (⟨xp, xn, xc, xa, ⟨xb, xk, xe, xx⟩, ⟨xs, xz⟩, xf, xm⟩ : Rev).val = .agg #[.string xp, .int .i64 xn, .int .i64 xc, .int .i64 xa, .int .i64 xb, .bool xk, .bool xe, .bool xx, .int .u64 xs, .int .i64 xz, .string xf, .int .i64 xm] from rfl)
      have hS : Below w4.heap.size w4 w4.drew := (Below.refl _ _).drew
      (refine wp_region_mixz (S := Below w4.heap.size w4) [] 11 [([0, 1, 2, 3, 4, 5, 6, 7, 8], 9), ([], 10)] (by kernel_rfl) (by kernel_rfl) (by intro c a d v w h; cases d <;> exact h) hS ?_; have hN : Nonempty (Held (Below w4.heap.size w4)) := ⟨⟨_, hS⟩⟩)
      obtain ⟨q0, q1⟩ := fun_and2 (fun y : Held (Below w4.heap.size w4) => (HM4.out.below y.ok).1.c2)
      have l0 : ∀ y : Held (Below w4.heap.size w4), y.w.cell? ⟨s + 6, 0, none⟩ = some (.map (some s)) := fun y => (HL4.out.below y.ok).blk.cell 0
      have lk : ∀ y : Held (Below w4.heap.size w4), (Instr.lookup 66 (.map (some s)) (.agg #[.string up, .int .i64 (vn - 1)]) true).run Tryz.prog y.w = .ok (.tuple #[.agg #[.string xp, .int .i64 xn, .int .i64 xc, .int .i64 xa, .int .i64 xb, .bool xk, .bool xe, .bool xx, .int .u64 xs, .int .i64 xz, .string xf, .int .i64 xm], .bool true]) y.w := fun y => by
        rw [← HUV.out]
        exact (HKM4.out.below y.ok (by omega)).run_some Tryz.underlying66 (x := (up, vn - 1)) huo HGU.out true
      (unfold wpMixZ wpRd; (repeat (first | simp only [List.filterMap_cons] | simp only [List.filterMap_nil] | simp only [List.getElem?_toArray] | simp only [List.getElem?_cons_zero] | simp only [List.getElem?_cons_succ])); (try dsimp only); change wpQuiet _ _ _ _ (_ :: _ :: _ :: _ :: _ :: _ :: _ :: _ :: _ :: []) _; (repeat (go_big_quiet_step (fail))); refine wpQuiet_nil ?_; (try dsimp only))
      clear q0 q1 l0 lk
      go_wp2_with fail
      have hS2 : Below w4.heap.size w4 (w4.alloc (.cells (#[.string ⟨#[]⟩, .int .i64 0, .int .i64 0, .int .i64 0, .int .i64 0, .bool false, .bool false, .bool false, .int .u64 0, .int .i64 0, .string ⟨#[]⟩, .int .i64 0] : Array Value) 43)).drew := ((Below.refl _ _).alloc (Nat.le_refl _) _).drew
      have KN := Lib.hid (Blk.new w4 43 [.string ⟨#[]⟩, .int .i64 0, .int .i64 0, .int .i64 0, .int .i64 0, .bool false, .bool false, .bool false, .int .u64 0, .int .i64 0, .string ⟨#[]⟩, .int .i64 0]).drew
      refine ⟨hS2, ?_⟩
      generalize World.drew (World.alloc w4 _) = w5 at *
      (unfold wpMixZ wpRd; (repeat (first | simp only [List.filterMap_cons] | simp only [List.filterMap_nil] | simp only [List.getElem?_toArray] | simp only [List.getElem?_cons_zero] | simp only [List.getElem?_cons_succ])); (try dsimp only); change wpQuiet _ _ _ _ ([]) _; (repeat (go_big_quiet_step (fail))); refine wpQuiet_nil ?_; (try dsimp only))
      (obtain ⟨f0, f1, f2, f3, f4, f5, f6, f7, f8, f9, f10, f11⟩ := (KN.out).f12; obtain ⟨z0, z1, z2, z3, z4, z5, z6, z7, z8, z9, z10, z11⟩ := (KN.out).c12)
      have hlu := KN.out.lt
      go_wp2_with fail
      have HB13 := Lib.hid (below_put12 hS2 (Nat.le_refl _) (.string xp) (.int .i64 xn) (.int .i64 xc) (.int .i64 xa) (.int .i64 xb) (.bool xk) (.bool xe) (.bool xx) (.int .u64 xs) (.int .i64 xz) (.string xf) (.int .i64 xm))
      refine ⟨HB13.out, ?_⟩
      clear f0 f1 f2 f3 f4 f5 f6 f7 f8 f9 f10 f11 z0 z1 z2 z3 z4 z5 z6 z7 z8 z9 z10 z11 hS hS2 KN hlu
      (generalize World.setCell (World.setCell (World.setCell (World.setCell (World.setCell (World.setCell (World.setCell (World.setCell (World.setCell (World.setCell (World.setCell (World.setCell _ _ _) _ _) _ _) _ _) _ _) _ _) _ _) _ _) _ _) _ _) _ _) _ _ = w6 at *)
      (unfold wpMixZ wpRd; (repeat (first | simp only [List.filterMap_cons] | simp only [List.filterMap_nil] | simp only [List.getElem?_toArray] | simp only [List.getElem?_cons_zero] | simp only [List.getElem?_cons_succ])); (try dsimp only); change wpQuiet _ _ _ _ ([]) _; (repeat (go_big_quiet_step (fail))); refine wpQuiet_nil ?_; (try dsimp only))
      have HB6 := Lib.hid (HB4.out.trans (HB13.out.mono HB4.out.size))
      have HM6 := Lib.hid (HM4.out.below HB13.out)
      obtain ⟨a0, a1⟩ := HM6.out.1.c2
      have fb0 := HM6.out.2.1.fz 0
      have fb1 := HM6.out.2.1.fz 1
      obtain ⟨b0, b1⟩ := HM6.out.2.1.c2
      have ltb := HM6.out.2.1.lt
      go_wp2_with fail
      have KZ := Lib.hid (Blk.put2 HM6.out.2.1 (.string up) (.int .i64 (vn - 1)))
      have HBZ := Lib.hid (below_put2 HB6.out (show w.heap.size ≤ w.heap.size + 1 by omega) (.string up) (.int .i64 (vn - 1)))
      (generalize World.setCell (World.setCell _ _ _) _ _ = w9 at *)
      obtain ⟨z0, z1⟩ := KZ.out.c2
      refine bodyPost_ret (v := .tuple #[fileV (up, vn - 1), .bool true]) (by simp [results, Tryz.results30, go_sem, z0, z1]; rfl) rfl ?_
      refine ⟨⟨_, by rw [HUP.out]; rfl, fun u' hu => by rw [HUP.out] at hu; injection hu⟩, HBZ.out⟩
    · obtain ⟨rfl, rfl⟩ : up = vs ∧ un = vm := by
        rcases HUB.out with ⟨_, h⟩ | ⟨h, _⟩
        · exact ⟨congrArg Prod.fst h, congrArg Prod.snd h⟩
        · exact absurd (by simpa using h4 : va = 4) h
      clear HUB
      go_upto_region 8 with fail
      have hg2 : Below w.heap.size w ((w3.setCell ⟨w.heap.size + 1 + 1, 0, none⟩ (.string up)).setCell ⟨w.heap.size + 1 + 1, 1, none⟩ (.int .i64 un)) := below_put2 HB3.out (by omega) _ _
      have HB4 := Lib.hid hg2
      have HM4 : Hid (Bs [(w.heap.size + 1 + 1, 47, [.string up, .int .i64 un]), (w.heap.size + 1, 47, [.string ⟨#[]⟩, .int .i64 0]), (w.heap.size, 47, [.string vp, .int .i64 vn])] ((w3.setCell ⟨w.heap.size + 1 + 1, 0, none⟩ (.string up)).setCell ⟨w.heap.size + 1 + 1, 1, none⟩ (.int .i64 un))) :=
        ⟨Blk.put2 HM3.out.1 _ _, (HM3.out.2.1.far (p := ⟨w.heap.size + 1 + 1, 0, none⟩) (by dsimp only; omega) _).far (p := ⟨w.heap.size + 1 + 1, 1, none⟩) (by dsimp only; omega) _, (HM3.out.2.2.1.far (p := ⟨w.heap.size + 1 + 1, 0, none⟩) (by dsimp only; omega) _).far (p := ⟨w.heap.size + 1 + 1, 1, none⟩) (by dsimp only; omega) _, trivial⟩
      have HL4 := Lib.hid (HL0.out.below hg2)
      have HKM4 := Lib.hid (HKM0.out.below hg2 hsl)
      clear a0 a1 b0 b1 fb0 fb1 fa0 fa1 ltb c0 c1 c2 c3 c4 c5 c6 c7 c8 c9 c10 c11 KV HVE lt3 HB3 HM3 HL3 HKM3 hg2
      (generalize World.setCell (World.setCell _ _ _) _ _ = w4 at *)
      have hlb4 : s + 6 < w4.heap.size := HL4.out.lb
      have lt4 := HM4.out.1.lt
      obtain ⟨xp, xn, xc, xa, ⟨xb, xk, xe, xx⟩, ⟨xs, xz⟩, xf, xm⟩ := uv
      have HUV := Lib.hid (show (⟨xp, xn, xc, xa, ⟨xb, xk, xe, xx⟩, ⟨xs, xz⟩, xf, xm⟩ : Rev).val = .agg #[.string xp, .int .i64 xn, .int .i64 xc, .int .i64 xa, .int .i64 xb, .bool xk, .bool xe, .bool xx, .int .u64 xs, .int .i64 xz, .string xf, .int .i64 xm] from rfl)
      have hS : Below w4.heap.size w4 w4.drew := (Below.refl _ _).drew
      (refine wp_region_mixz (S := Below w4.heap.size w4) [] 11 [([0, 1, 2, 3, 4, 5, 6, 7, 8], 9), ([], 10)] (by kernel_rfl) (by kernel_rfl) (by intro c a d v w h; cases d <;> exact h) hS ?_; have hN : Nonempty (Held (Below w4.heap.size w4)) := ⟨⟨_, hS⟩⟩)
      obtain ⟨q0, q1⟩ := fun_and2 (fun y : Held (Below w4.heap.size w4) => (HM4.out.below y.ok).1.c2)
      have l0 : ∀ y : Held (Below w4.heap.size w4), y.w.cell? ⟨s + 6, 0, none⟩ = some (.map (some s)) := fun y => (HL4.out.below y.ok).blk.cell 0
      have lk : ∀ y : Held (Below w4.heap.size w4), (Instr.lookup 66 (.map (some s)) (.agg #[.string up, .int .i64 (un)]) true).run Tryz.prog y.w = .ok (.tuple #[.agg #[.string xp, .int .i64 xn, .int .i64 xc, .int .i64 xa, .int .i64 xb, .bool xk, .bool xe, .bool xx, .int .u64 xs, .int .i64 xz, .string xf, .int .i64 xm], .bool true]) y.w := fun y => by
        rw [← HUV.out]
        exact (HKM4.out.below y.ok (by omega)).run_some Tryz.underlying66 (x := (up, un)) huo HGU.out true
      (unfold wpMixZ wpRd; (repeat (first | simp only [List.filterMap_cons] | simp only [List.filterMap_nil] | simp only [List.getElem?_toArray] | simp only [List.getElem?_cons_zero] | simp only [List.getElem?_cons_succ])); (try dsimp only); change wpQuiet _ _ _ _ (_ :: _ :: _ :: _ :: _ :: _ :: _ :: _ :: _ :: []) _; (repeat (go_big_quiet_step (fail))); refine wpQuiet_nil ?_; (try dsimp only))
      clear q0 q1 l0 lk
      go_wp2_with fail
      have hS2 : Below w4.heap.size w4 (w4.alloc (.cells (#[.string ⟨#[]⟩, .int .i64 0, .int .i64 0, .int .i64 0, .int .i64 0, .bool false, .bool false, .bool false, .int .u64 0, .int .i64 0, .string ⟨#[]⟩, .int .i64 0] : Array Value) 43)).drew := ((Below.refl _ _).alloc (Nat.le_refl _) _).drew
      have KN := Lib.hid (Blk.new w4 43 [.string ⟨#[]⟩, .int .i64 0, .int .i64 0, .int .i64 0, .int .i64 0, .bool false, .bool false, .bool false, .int .u64 0, .int .i64 0, .string ⟨#[]⟩, .int .i64 0]).drew
      refine ⟨hS2, ?_⟩
      generalize World.drew (World.alloc w4 _) = w5 at *
      (unfold wpMixZ wpRd; (repeat (first | simp only [List.filterMap_cons] | simp only [List.filterMap_nil] | simp only [List.getElem?_toArray] | simp only [List.getElem?_cons_zero] | simp only [List.getElem?_cons_succ])); (try dsimp only); change wpQuiet _ _ _ _ ([]) _; (repeat (go_big_quiet_step (fail))); refine wpQuiet_nil ?_; (try dsimp only))
      (obtain ⟨f0, f1, f2, f3, f4, f5, f6, f7, f8, f9, f10, f11⟩ := (KN.out).f12; obtain ⟨z0, z1, z2, z3, z4, z5, z6, z7, z8, z9, z10, z11⟩ := (KN.out).c12)
      have hlu := KN.out.lt
      go_wp2_with fail
      have HB13 := Lib.hid (below_put12 hS2 (Nat.le_refl _) (.string xp) (.int .i64 xn) (.int .i64 xc) (.int .i64 xa) (.int .i64 xb) (.bool xk) (.bool xe) (.bool xx) (.int .u64 xs) (.int .i64 xz) (.string xf) (.int .i64 xm))
      refine ⟨HB13.out, ?_⟩
      clear f0 f1 f2 f3 f4 f5 f6 f7 f8 f9 f10 f11 z0 z1 z2 z3 z4 z5 z6 z7 z8 z9 z10 z11 hS hS2 KN hlu
      (generalize World.setCell (World.setCell (World.setCell (World.setCell (World.setCell (World.setCell (World.setCell (World.setCell (World.setCell (World.setCell (World.setCell (World.setCell _ _ _) _ _) _ _) _ _) _ _) _ _) _ _) _ _) _ _) _ _) _ _) _ _ = w6 at *)
      (unfold wpMixZ wpRd; (repeat (first | simp only [List.filterMap_cons] | simp only [List.filterMap_nil] | simp only [List.getElem?_toArray] | simp only [List.getElem?_cons_zero] | simp only [List.getElem?_cons_succ])); (try dsimp only); change wpQuiet _ _ _ _ ([]) _; (repeat (go_big_quiet_step (fail))); refine wpQuiet_nil ?_; (try dsimp only))
      have HB6 := Lib.hid (HB4.out.trans (HB13.out.mono HB4.out.size))
      have HM6 := Lib.hid (HM4.out.below HB13.out)
      obtain ⟨a0, a1⟩ := HM6.out.1.c2
      have fb0 := HM6.out.2.1.fz 0
      have fb1 := HM6.out.2.1.fz 1
      obtain ⟨b0, b1⟩ := HM6.out.2.1.c2
      have ltb := HM6.out.2.1.lt
      go_wp2_with fail
      have KZ := Lib.hid (Blk.put2 HM6.out.2.1 (.string up) (.int .i64 (un)))
      have HBZ := Lib.hid (below_put2 HB6.out (show w.heap.size ≤ w.heap.size + 1 by omega) (.string up) (.int .i64 (un)))
      (generalize World.setCell (World.setCell _ _ _) _ _ = w9 at *)
      obtain ⟨z0, z1⟩ := KZ.out.c2
      refine bodyPost_ret (v := .tuple #[fileV (up, un), .bool true]) (by simp [results, Tryz.results30, go_sem, z0, z1]; rfl) rfl ?_
      refine ⟨⟨_, by rw [HUP.out]; rfl, fun u' hu => by rw [HUP.out] at hu; injection hu⟩, HBZ.out⟩
theorem orig1_any (r : Rcd) (w : World) : Calls Tryz.prog 37 #[r.val] w fun e w' => e = .returned (.bool (r.how == 4)) ∧ Below w.heap.size w w' := by
  obtain ⟨rs, rf, rl, rt, rn, rh⟩ := r
  unfold Rcd.val Rcd.cells
  dsimp only
  cases h : (rh == 4)
  all_goals
    go_enter Tryz.func37, Tryz.ntmps37
    go_wp2_with fail
    go_ret
    exact ⟨rfl, by (repeat (first | (with_reducible exact Below.refl _ _) | (with_reducible assumption) | (with_reducible refine Below.setCell ?_ ?_ _; rotate_left; focus (first | exact Nat.le_refl _ | (dsimp only; omega))) | (with_reducible refine Below.drew ?_) | (with_reducible refine below_drewN ?_ _) | (with_reducible refine Below.alloc ?_ ?_ _; rotate_left; focus (first | exact Nat.le_refl _ | (simp; done) | (simp; omega)))))⟩
theorem any_take {α : Type} (f : α → Bool) (l : List α) (k : Nat) (h : k < l.length) : (l.take (k + 1)).any f = ((l.take k).any f || f l[k]) := by
  rw [List.take_succ_eq_append_getElem h, List.any_append, List.any_cons, List.any_nil, Bool.or_false]
set_option maxRecDepth 100000 in
set_option maxHeartbeats 3200000 in
theorem idx_any (l : List Rcd) (A : Option Addr) (c : Nat) (w : World) (h : rcdK.In A l w) (hn : l.length ≤ 1000000) :
    Calls Tryz.prog 48 #[.slice A l.length c, .func (.func 37) #[] #[]] w fun e w' => (∃ i : Int, e = .returned (.int .i64 i) ∧ (0 ≤ i ↔ (l.any fun r => r.how == 4) = true)) ∧ Below w.heap.size w w' := by
  have HI := Lib.hid h
  clear h
  go_enter Tryz.func48, Tryz.ntmps48
  go_wp2_with fail
  go_loopw [8] (fun i wr => ∃ k : Nat, i = .int .i64 k ∧ k ≤ l.length ∧ Below w.heap.size w wr ∧ Hid (((l.take k).any fun r => r.how == 4) = false)) (fun i _ => l.length - (intOf i).toNat)
  case atStart => exact ⟨0, rfl, Nat.zero_le _, Below.refl _ _, rfl⟩
  case round =>
    obtain ⟨k, rfl, hk, hB, hno⟩ := hrel
    have HB := Lib.hid hB
    by_cases hlt : k < l.length
    · obtain ⟨b, off, rfl, hbl, hat⟩ := HI.out (by omega)
      have hg := List.getElem?_eq_getElem hlt
      have HA := Lib.hid (any_take (fun r : Rcd => r.how == 4) l k hlt)
      have HAL : Hid ((l[k].how == 4) = true → (l.any fun r => r.how == 4) = true) := fun h => List.any_eq_true.2 ⟨_, List.getElem_mem hlt, h⟩
      generalize hq : l[k] = r at *
      have hat := hat.below hB hbl
      (have hcv := fun j (u : Value) (hj : (r).cells[j]? = some u) => ((hat).get hg hj); have c0 := hcv 0 _ rfl; have c1 := hcv 1 _ rfl; have c2 := hcv 2 _ rfl; have c3 := hcv 3 _ rfl; have c4 := hcv 4 _ rfl; have c5 := hcv 5 _ rfl; have e12 : rcdK.n = 6 := rfl; simp only [e12, Nat.add_zero] at c0 c1 c2 c3 c4 c5; clear hcv e12)
      have H1 := Lib.hid (fun w => orig1_any r w)
      obtain ⟨rs, rf, rl, rt, rn, rh⟩ := r
      unfold Rcd.val Rcd.cells at H1
      dsimp only at *
      clear hat hg hq hB
      cases h4 : (rh == 4)
      · have H4 : Hid ((rh == 4) = false) := h4
        rw [h4] at H1
        go_wp2_with fail
        refine (H1.out _).mono ?_
        rintro e w1 ⟨rfl, hb1⟩
        have HB1 := Lib.hid (HB.out.trans (hb1.mono HB.out.size))
        clear hb1
        go_wp2_with fail
        go_roundw
        case rel => exact ⟨k + 1, by go_num, by omega, HB1.out, by show _ = _; rw [HA.out, hno.out, H4.out]; rfl⟩
        case measure => simp [intOf]; omega
      · have H4 : Hid ((rh == 4) = true) := h4
        rw [h4] at H1
        go_wp2_with fail
        refine (H1.out _).mono ?_
        rintro e w1 ⟨rfl, hb1⟩
        have HB1 := Lib.hid (HB.out.trans (hb1.mono HB.out.size))
        clear hb1
        go_wp2_with fail
        go_ret
        exact ⟨⟨_, rfl, fun _ => HAL.out H4.out, fun _ => by omega⟩, HB1.out⟩
    · obtain rfl : k = l.length := by omega
      have hno' : (l.any fun r => r.how == 4) = false := by
        have := hno.out
        rwa [List.take_length] at this
      have HN := Lib.hid hno'
      clear hno hno' hB
      go_wp2_with fail
      go_ret
      exact ⟨⟨_, rfl, fun h => absurd h (by decide), fun h => by rw [HN.out] at h; cases h⟩, HB.out⟩
set_option maxHeartbeats 1600000 in
theorem has_any (l : List Rcd) (A : Option Addr) (c : Nat) (w : World) (h : rcdK.In A l w) (hn : l.length ≤ 1000000) :
    Calls Tryz.prog 36 #[.slice A l.length c, .func (.func 37) #[] #[]] w fun e w' => e = .returned (.bool (l.any fun r => r.how == 4)) ∧ Below w.heap.size w w' := by
  have H := Lib.hid (idx_any l A c w h hn)
  clear h
  go_enter Tryz.func36, Tryz.ntmps36
  go_wp2_with fail
  refine H.out.mono ?_
  rintro e w1 ⟨⟨i, rfl, hi⟩, hb⟩
  have HB := Lib.hid hb
  have HI := Lib.hid hi
  clear hb hi
  go_wp2_with fail
  go_ret
  refine ⟨?_, HB.out⟩
  show Ending.returned (.bool (decide (0 ≤ i))) = _
  congr 2
  cases ha : (l.any fun r => r.how == 4)
  · exact decide_eq_false fun h => by have := HI.out.1 h; rw [ha] at this; cases this
  · exact decide_eq_true (HI.out.2 ha)
set_option maxRecDepth 100000 in
set_option maxHeartbeats 3200000 in
theorem original_any (d : Dep) (s : Nat) (f : Fil) (w : World) (hl : Led d s w) (hf : FOk f) (hn : d.recs.length ≤ 512) :
    Calls Tryz.prog 25 #[.pointer (some ⟨s + 6, 0, none⟩), fileV f] w fun e w' => e = .returned (.bool (origD d.recs f)) ∧ Below w.heap.size w w' := by
  obtain ⟨LR, hkm, hkg⟩ := hl.rcs
  obtain ⟨A, c, hgf, hfar⟩ := hkg f
  have hrl : (recsD d.recs f).length ≤ 512 := Nat.le_trans (List.length_filter_le _ _) hn
  have HI := Lib.hid hfar.in_
  have HL := Lib.hid hl
  have HKM := Lib.hid hkm
  have HGF := Lib.hid hgf
  have hlb := hl.lb
  have hsl := hkm.lt
  have HO : Hid (origD d.recs f = ((recsD d.recs f).isEmpty || (recsD d.recs f).any fun r => r.how == 4)) := rfl
  rw [HO.out]
  generalize hQ : recsD d.recs f = q at *
  have HH := Lib.hid (fun w h => has_any q A c w h (by omega))
  clear hl hkm hgf hkg hfar hQ HO
  obtain ⟨p, n⟩ := f
  unfold fileV
  dsimp only
  go_enter Tryz.func25, Tryz.ntmps25
  go_upto_region 1 with fail
  generalize hw1 : World.alloc _ (.cells #[.string p, .int .i64 n] 47) = w1
  have HB1 : Hid (Below w.heap.size w w1) := by
    show Below _ _ _
    rw [← hw1]
    (repeat (first | (with_reducible exact Below.refl _ _) | (with_reducible assumption) | (with_reducible refine Below.setCell ?_ ?_ _; rotate_left; focus (first | exact Nat.le_refl _ | (dsimp only; omega))) | (with_reducible refine Below.drew ?_) | (with_reducible refine below_drewN ?_ _) | (with_reducible refine Below.alloc ?_ ?_ _; rotate_left; focus (first | exact Nat.le_refl _ | (simp; done) | (simp; omega)))))
  have HM1 : Hid (Blk w.heap.size 47 [.string p, .int .i64 n] w1) := hw1 ▸ Blk.new w 47 _
  clear hw1
  have hz1 := HB1.out.size
  have lt1 := HM1.out.lt
  have HL1 := Lib.hid (HL.out.below HB1.out)
  have HKM1 := Lib.hid (HKM.out.below HB1.out hsl)
  have HI1 := Lib.hid (HI.out.below HB1.out)
  have hS : Below w1.heap.size w1 w1.drew := (Below.refl _ _).drew
  have LK : ∀ x, Below w1.heap.size w1 x → (Instr.lookup 72 (.map (some (s + 2))) (.agg #[.string p, .int .i64 n]) false).run Tryz.prog x = .ok (.slice A q.length c) x := fun x hx => by
    rw [← HGF.out]
    exact (HKM1.out.below hx (by omega)).run_get Tryz.underlying72 (zeroRecs _) (x := (p, n)) hf false
  (refine wp_region_s (S := Below w1.heap.size w1) (by kernel_rfl) (by kernel_rfl) hS ?_; have hN : Nonempty (Held (Below w1.heap.size w1)) := ⟨⟨_, hS⟩⟩; (obtain ⟨q0, q1⟩ := fun_and2 (fun y : Held (Below w1.heap.size w1) => (HM1.out.below y.ok).c2); have l0 : ∀ y : Held (Below w1.heap.size w1), y.w.cell? ⟨s + 6, 2, none⟩ = some (.map (some (s + 2))) := fun y => (HL1.out.below y.ok).blk.cell 2; have lk := fun y : Held (Below w1.heap.size w1) => LK y.w y.ok; clear LK); (repeat (go_big_quiet_step (fail))); refine wpQuiet_nil ?_; rintro x ⟨⟨_, hx⟩, rfl⟩; clear hN)
  clear q0 q1 l0 lk
  have HIx := Lib.hid (HI1.out.below hx)
  have HBx := Lib.hid (HB1.out.trans (hx.mono hz1))
  clear hx
  cases q with
  | nil =>
    go_wp2_with fail
    go_ret
    exact ⟨rfl, HBx.out⟩
  | cons r q =>
    have hne : ((q.length : Int) + 1 = 0) = False := by
      apply propext
      constructor
      · intro h; omega
      · exact False.elim
    go_wp2_with fail
    refine (HH.out _ HIx.out).mono ?_
    rintro e w2 ⟨rfl, hb2⟩
    have HB2 := Lib.hid (HBx.out.trans (hb2.mono HBx.out.size))
    clear hb2
    go_wp2_with fail
    go_ret
    exact ⟨rfl, HB2.out⟩
end Go.Proofs.YthonhikkoabhlaaGreatDoor
