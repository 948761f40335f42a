/-
  The walks of credit.Original, Carried, Contribution, Credited (printed by mkcomp.py).
-/
import Derived.Test.YthonhikkoabhlaaGreatDoorCrU
import Derived.Test.YthonhikkoabhlaaGreatDoorCrD
namespace Go.Proofs.YthonhikkoabhlaaGreatDoor
open Go.RowKit

def errC (d : Dep) (f : Fil) : Int := if (memD d.revs f).isSome = true then 0 else 140
theorem mem_okV {d : Dep} (h : CrD d) {f : Fil} (hm : (memD d.revs f).isSome = true) : okV f = true := by
  obtain ⟨v, hv⟩ := Option.isSome_iff_exists.1 hm
  obtain ⟨h1, _, h3⟩ := mem_some hv
  have h4 := h.dep.path v h1
  unfold okV
  rw [← h3]
  simp [Rev.fil, h4.1, h4.2]
theorem nodup_le : ∀ {L M : List Fil}, L.Nodup → (∀ x ∈ L, x ∈ M) → L.length ≤ M.length
  | [], _, _, _ => Nat.zero_le _
  | x :: r, M, hn, hs => by
    rw [List.nodup_cons] at hn
    have hx := hs x (List.mem_cons_self ..)
    have h1 := nodup_le (M := M.erase x) hn.2 fun y hy => (List.mem_erase_of_ne (fun e => hn.1 (by rw [← e]; exact hy))).2 (hs y (List.mem_cons_of_mem _ hy))
    have h2 := List.length_erase_of_mem hx
    have h3 : 0 < M.length := List.length_pos_of_mem hx
    rw [List.length_cons]
    omega
theorem mem_few {d : Dep} (h : CrD d) {S : Fil → Prop} (hS : ∀ f, S f → (memD d.revs f).isSome = true) (L : List Fil) (hn : L.Nodup) (hL : ∀ f ∈ L, S f) : L.length ≤ 512 := by
  have h1 : ∀ f ∈ L, f ∈ d.revs.map Rev.fil := fun f hf => by
    obtain ⟨v, hv⟩ := Option.isSome_iff_exists.1 (hS f (hL f hf))
    obtain ⟨h2, _, h3⟩ := mem_some hv
    exact List.mem_map.2 ⟨v, h2, h3⟩
  have h2 := nodup_le hn h1
  rw [List.length_map] at h2
  exact Nat.le_trans h2 h.dep.few
/-- What the three answer: a list in order, and the error. -/
def CompRet (d : Dep) (f : Fil) (S : Fil → Prop) (w : World) (e : Ending) (w' : World) : Prop :=
  ∃ (L : List Fil) (A : Option Addr) (c : Nat), e = .returned (.tuple #[.slice A L.length c, .int .i64 (errC d f)]) ∧ filK.In A L w' ∧ SrtF L ∧ (∀ g, g ∈ L ↔ S g) ∧ Below w.heap.size w w'

set_option maxRecDepth 100000 in
set_option maxHeartbeats 6400000 in
theorem credit_comp (d : Dep) (A B : Option Addr) (ca cb : Nat) (p : ByteArray) (n : Int) (F : FuncId) (S : Fil → Prop) (w : World) (hc : CrD d) (hA : revK.In A d.revs w) (hB : rcdK.In B d.recs w) (hv : FOk (p, n))
    (hen : ∀ args w, (callFunc F args).run Tryz.prog w = .ok (.enter F args) w)
    (hF : (memD d.revs (p, n)).isSome = true → ∀ s w, Led d s w → Memo d s (fun _ => False) (fun _ => False) (fun _ => False) w → Calls Tryz.prog F #[.pointer (some ⟨s + 6, 0, none⟩), .agg #[.string p, .int .i64 n]] w (SetRet d s S (fun _ => False) (fun _ => False) (fun _ => False) w))
    (hS : ∀ g, S g → (memD d.revs g).isSome = true) (hno : memD d.revs (p, n) = none → ∀ g, ¬ S g) :
    Calls Tryz.prog 17 #[.agg #[.slice A d.revs.length ca, .slice B d.recs.length cb], .string p, .int .i64 n, .func (.func F) #[] #[]] w (CompRet d (p, n) S w) := by
  have HF := Lib.hid hF
  have HSM := Lib.hid hS
  have HNO := Lib.hid hno
  have hfew := Lib.hid (mem_few hc hS)
  have hokv := Lib.hid (fun g h => mem_okV hc (hS g h))
  clear hF hS hno
  have HA := Lib.hid hA
  have HB := Lib.hid hB
  have HC := Lib.hid hc
  have HNL := Lib.hid (fun w h1 h2 => newLedger_any d A B ca cb w h1 h2 hc.dep.few hc.dep.fewr hc.hist.uniq (fun v hv => fok_of (hc.rev hv)) (fun r hr => hc.fok (hc.hist.goes r hr)))
  have HVO := Lib.hid hv
  clear hA hB hc
  go_enter Tryz.func17, Tryz.ntmps17
  go_upto_region 1 with fail
  have hb1 := (Below.refl w.heap.size w).alloc (Nat.le_refl _) (.cells #[.slice A d.revs.length ca, .slice B d.recs.length cb] 28)
  have HM1 := Lib.hid (Blk.new w 28 [.slice A d.revs.length ca, .slice B d.recs.length cb])
  have HB1 := Lib.hid hb1
  have HA1 := Lib.hid (HA.out.below hb1)
  have HB1' := Lib.hid (HB.out.below hb1)
  clear hb1 HA HB
  generalize World.alloc w _ = w1 at *
  obtain ⟨d0, d1⟩ := HM1.out.c2
  go_wp2_with fail
  refine (HNL.out w1 HA1.out HB1'.out).mono ?_
  rintro e w2 ⟨rfl, hl2, hm2, hb2⟩
  have hws1 : w.heap.size ≤ w1.heap.size + 1 := Nat.le_succ_of_le HB1.out.size
  have HSL := Lib.hid hws1
  clear hws1
  generalize w1.heap.size + 1 = s at *
  have HL2 := Lib.hid hl2
  have HE2 := Lib.hid hm2
  have HB2 := Lib.hid (HB1.out.trans (hb2.mono HB1.out.size))
  clear hl2 hm2 hb2 d0 d1 HA1 HB1' HB1 HM1 HNL
  go_upto_region 3 with fail
  have hb3 := (Below.refl w2.heap.size w2).alloc (Nat.le_refl _) (.cells #[.string p, .int .i64 n] 47)
  have HM3 := Lib.hid (Blk.new w2 47 [.string p, .int .i64 n])
  have HL3 := Lib.hid (HL2.out.below hb3)
  have HE3 := Lib.hid (HE2.out.below hb3)
  have HB3 := Lib.hid (HB2.out.trans (hb3.mono HB2.out.size))
  clear hb3 HL2 HE2 HB2
  generalize World.alloc w2 _ = w3 at *
  have hlb3 := HL3.out.lb
  have lt3 := HM3.out.lt
  obtain ⟨LM, hkm, hkg⟩ := HL3.out.mem
  have hsl3 := hkm.lt
  have HKM := Lib.hid hkm
  obtain ⟨om, hom⟩ : ∃ om, memD d.revs (p, n) = om := ⟨_, rfl⟩
  obtain ⟨rv, hrv⟩ : ∃ rv, om.getD zeroRev = rv := ⟨_, rfl⟩
  have HGV : Hid ((kget LM (p, n)).getD zeroRev.val = rv.val ∧ (kget LM (p, n)).isSome = om.isSome) := by
    show _ ∧ _
    rw [hkg (p, n), hom, ← hrv]
    cases om <;> exact ⟨rfl, rfl⟩
  have HOM := Lib.hid hom
  clear hkm hkg hrv hom
  obtain ⟨xp, xn, xc, xa, ⟨xb, xk, xe, xx⟩, ⟨xs, xz⟩, xf, xm⟩ := rv
  have HUV := Lib.hid (show (⟨xp, xn, xc, xa, ⟨xb, xk, xe, xx⟩, ⟨xs, xz⟩, xf, xm⟩ : Rev).val = .agg #[.string xp, .int .i64 xn, .int .i64 xc, .int .i64 xa, .int .i64 xb, .bool xk, .bool xe, .bool xx, .int .u64 xs, .int .i64 xz, .string xf, .int .i64 xm] from rfl)
  have hS : Below w3.heap.size w3 w3.drew := (Below.refl _ _).drew
  (refine wp_region_mixz (S := Below w3.heap.size w3) [] 11 [([0, 1, 2, 3, 4, 5, 6, 7, 8], 9), ([], 10)] (by kernel_rfl) (by kernel_rfl) (by intro c a d v w h; cases d <;> exact h) hS ?_; have hN : Nonempty (Held (Below w3.heap.size w3)) := ⟨⟨_, hS⟩⟩)
  obtain ⟨q0, q1⟩ := fun_and2 (fun y : Held (Below w3.heap.size w3) => (HM3.out.below y.ok).c2)
  have l0 : ∀ y : Held (Below w3.heap.size w3), y.w.cell? ⟨s + 6, 0, none⟩ = some (.map (some s)) := fun y => (HL3.out.below y.ok).blk.cell 0
  have lk : ∀ y : Held (Below w3.heap.size w3), (Instr.lookup 66 (.map (some s)) (.agg #[.string p, .int .i64 n]) true).run Tryz.prog y.w = .ok (.tuple #[.agg #[.string xp, .int .i64 xn, .int .i64 xc, .int .i64 xa, .int .i64 xb, .bool xk, .bool xe, .bool xx, .int .u64 xs, .int .i64 xz, .string xf, .int .i64 xm], .bool om.isSome]) y.w := fun y => by
    rw [← HUV.out, ← HGV.out.1, ← HGV.out.2]
    exact (HKM.out.below y.ok (by omega)).run_get Tryz.underlying66 (zeroRevV _) (x := (p, n)) HVO.out true
  (unfold wpMixZ wpRd; (repeat (first | simp only [List.filterMap_cons] | simp only [List.filterMap_nil] | simp only [List.getElem?_toArray] | simp only [List.getElem?_cons_zero] | simp only [List.getElem?_cons_succ])); (try dsimp only); change wpQuiet _ _ _ _ (_ :: _ :: _ :: _ :: _ :: _ :: _ :: _ :: _ :: []) _; (repeat (go_big_quiet_step (fail))); refine wpQuiet_nil ?_; (try dsimp only))
  clear q0 q1 l0 lk
  go_wp2_with fail
  have hS2 : Below w3.heap.size w3 (w3.alloc (.cells (#[.string ⟨#[]⟩, .int .i64 0, .int .i64 0, .int .i64 0, .int .i64 0, .bool false, .bool false, .bool false, .int .u64 0, .int .i64 0, .string ⟨#[]⟩, .int .i64 0] : Array Value) 43)).drew := ((Below.refl _ _).alloc (Nat.le_refl _) _).drew
  have KN := Lib.hid (Blk.new w3 43 [.string ⟨#[]⟩, .int .i64 0, .int .i64 0, .int .i64 0, .int .i64 0, .bool false, .bool false, .bool false, .int .u64 0, .int .i64 0, .string ⟨#[]⟩, .int .i64 0]).drew
  refine ⟨hS2, ?_⟩
  generalize World.drew (World.alloc w3 _) = w4 at *
  (unfold wpMixZ wpRd; (repeat (first | simp only [List.filterMap_cons] | simp only [List.filterMap_nil] | simp only [List.getElem?_toArray] | simp only [List.getElem?_cons_zero] | simp only [List.getElem?_cons_succ])); (try dsimp only); change wpQuiet _ _ _ _ ([]) _; (repeat (go_big_quiet_step (fail))); refine wpQuiet_nil ?_; (try dsimp only))
  (obtain ⟨f0, f1, f2, f3, f4, f5, f6, f7, f8, f9, f10, f11⟩ := (KN.out).f12; obtain ⟨z0, z1, z2, z3, z4, z5, z6, z7, z8, z9, z10, z11⟩ := (KN.out).c12)
  have hlu := KN.out.lt
  go_wp2_with fail
  have HB13 := Lib.hid (below_put12 hS2 (Nat.le_refl _) (.string xp) (.int .i64 xn) (.int .i64 xc) (.int .i64 xa) (.int .i64 xb) (.bool xk) (.bool xe) (.bool xx) (.int .u64 xs) (.int .i64 xz) (.string xf) (.int .i64 xm))
  refine ⟨HB13.out, ?_⟩
  clear f0 f1 f2 f3 f4 f5 f6 f7 f8 f9 f10 f11 z0 z1 z2 z3 z4 z5 z6 z7 z8 z9 z10 z11 hS hS2 KN hlu
  (generalize World.setCell (World.setCell (World.setCell (World.setCell (World.setCell (World.setCell (World.setCell (World.setCell (World.setCell (World.setCell (World.setCell (World.setCell _ _ _) _ _) _ _) _ _) _ _) _ _) _ _) _ _) _ _) _ _) _ _) _ _ = w6 at *)
  (unfold wpMixZ wpRd; (repeat (first | simp only [List.filterMap_cons] | simp only [List.filterMap_nil] | simp only [List.getElem?_toArray] | simp only [List.getElem?_cons_zero] | simp only [List.getElem?_cons_succ])); (try dsimp only); change wpQuiet _ _ _ _ ([]) _; (repeat (go_big_quiet_step (fail))); refine wpQuiet_nil ?_; (try dsimp only))
  have HB6 := Lib.hid (HB3.out.trans (HB13.out.mono HB3.out.size))
  have HM6 := Lib.hid (HM3.out.below HB13.out)
  have HL6 := Lib.hid (HL3.out.below HB13.out)
  have HE6 := Lib.hid (HE3.out.below HB13.out)
  clear HB13 HB3 HM3 HL3 HE3 HKM HGV
  obtain ⟨a0, a1⟩ := HM6.out.c2
  cases om with
  | none =>
    go_wp2_with fail
    go_ret2
    exact ⟨[], none, 0, by unfold errC; rw [HOM.out]; rfl, RowK.In.nil _ _, List.Pairwise.nil, fun g => ⟨fun h => by simp at h, fun h => absurd h (HNO.out HOM.out g)⟩, HB6.out⟩
  | some v =>
    have hms : (memD d.revs (p, n)).isSome = true := by rw [HOM.out]; rfl
    have HCA := Lib.hid (HF.out hms s w6 HL6.out HE6.out)
    have HER : Hid (errC d (p, n) = 0) := by show _ = _; unfold errC; rw [if_pos hms]
    clear hms
    go_wp2_with fail
    refine HCA.out.mono ?_
    rintro e w7 ⟨c, rfl, hc7, hcx, hcs, hme7, hkp7⟩
    have HB7 := Lib.hid (HB6.out.trans ((hkp7.below (B := w.heap.size) (fun b hb h => by have := h.1; have := HSL.out; omega) HB6.out.size) : Below w.heap.size w6 w7))
    have HCS := Lib.hid (list_any c S w7 hcs hokv.out hfew.out)
    clear hc7 hcx hcs hme7 hkp7 HL6 HE6 HM6 HCA a0 a1
    go_wp2_with fail
    refine HCS.out.mono ?_
    rintro e w8 ⟨L, A8, c8, rfl, hi8, hs8, hm8, hb8⟩
    have HE8 : Hid (filK.In A8 L w8 ∧ SrtF L ∧ (∀ g, g ∈ L ↔ S g) ∧ Below w.heap.size w w8) := ⟨hi8, hs8, hm8, HB7.out.trans (hb8.mono HB7.out.size)⟩
    clear hi8 hs8 hm8 hb8
    go_wp2_with fail
    go_ret2
    exact ⟨L, A8, c8, by rw [HER.out]; rfl, HE8.out.1, HE8.out.2.1, HE8.out.2.2.1, HE8.out.2.2.2⟩

def origM (d : Dep) (f : Fil) : Bool := (memD d.revs f).isSome && origD d.recs f
set_option maxRecDepth 100000 in
set_option maxHeartbeats 6400000 in
theorem porig_any (d : Dep) (A B : Option Addr) (ca cb : Nat) (p : ByteArray) (n : Int) (w : World) (hc : CrD d) (hA : revK.In A d.revs w) (hB : rcdK.In B d.recs w) (hv : FOk (p, n)) :
    Calls Tryz.prog 15 #[.agg #[.slice A d.revs.length ca, .slice B d.recs.length cb], .string p, .int .i64 n] w fun e w' => e = .returned (.tuple #[.bool (origM d (p, n)), .int .i64 (errC d (p, n))]) ∧ Below w.heap.size w w' := by
  have HOR := Lib.hid (fun s w h => original_any d s (p, n) w h hv hc.dep.fewr)
  rw [show fileV (p, n) = .agg #[.string p, .int .i64 n] from rfl] at HOR
  have HA := Lib.hid hA
  have HB := Lib.hid hB
  have HC := Lib.hid hc
  have HNL := Lib.hid (fun w h1 h2 => newLedger_any d A B ca cb w h1 h2 hc.dep.few hc.dep.fewr hc.hist.uniq (fun v hv => fok_of (hc.rev hv)) (fun r hr => hc.fok (hc.hist.goes r hr)))
  have HVO := Lib.hid hv
  clear hA hB hc
  go_enter Tryz.func15, Tryz.ntmps15
  go_upto_region 1 with fail
  have hb1 := (Below.refl w.heap.size w).alloc (Nat.le_refl _) (.cells #[.slice A d.revs.length ca, .slice B d.recs.length cb] 28)
  have HM1 := Lib.hid (Blk.new w 28 [.slice A d.revs.length ca, .slice B d.recs.length cb])
  have HB1 := Lib.hid hb1
  have HA1 := Lib.hid (HA.out.below hb1)
  have HB1' := Lib.hid (HB.out.below hb1)
  clear hb1 HA HB
  generalize World.alloc w _ = w1 at *
  obtain ⟨d0, d1⟩ := HM1.out.c2
  go_wp2_with fail
  refine (HNL.out w1 HA1.out HB1'.out).mono ?_
  rintro e w2 ⟨rfl, hl2, hm2, hb2⟩
  have hws1 : w.heap.size ≤ w1.heap.size + 1 := Nat.le_succ_of_le HB1.out.size
  have HSL := Lib.hid hws1
  clear hws1
  generalize w1.heap.size + 1 = s at *
  have HL2 := Lib.hid hl2
  have HE2 := Lib.hid hm2
  have HB2 := Lib.hid (HB1.out.trans (hb2.mono HB1.out.size))
  clear hl2 hm2 hb2 d0 d1 HA1 HB1' HB1 HM1 HNL
  go_upto_region 3 with fail
  have hb3 := (Below.refl w2.heap.size w2).alloc (Nat.le_refl _) (.cells #[.string p, .int .i64 n] 47)
  have HM3 := Lib.hid (Blk.new w2 47 [.string p, .int .i64 n])
  have HL3 := Lib.hid (HL2.out.below hb3)
  have HE3 := Lib.hid (HE2.out.below hb3)
  have HB3 := Lib.hid (HB2.out.trans (hb3.mono HB2.out.size))
  clear hb3 HL2 HE2 HB2
  generalize World.alloc w2 _ = w3 at *
  have hlb3 := HL3.out.lb
  have lt3 := HM3.out.lt
  obtain ⟨LM, hkm, hkg⟩ := HL3.out.mem
  have hsl3 := hkm.lt
  have HKM := Lib.hid hkm
  obtain ⟨om, hom⟩ : ∃ om, memD d.revs (p, n) = om := ⟨_, rfl⟩
  obtain ⟨rv, hrv⟩ : ∃ rv, om.getD zeroRev = rv := ⟨_, rfl⟩
  have HGV : Hid ((kget LM (p, n)).getD zeroRev.val = rv.val ∧ (kget LM (p, n)).isSome = om.isSome) := by
    show _ ∧ _
    rw [hkg (p, n), hom, ← hrv]
    cases om <;> exact ⟨rfl, rfl⟩
  have HOM := Lib.hid hom
  clear hkm hkg hrv hom
  obtain ⟨xp, xn, xc, xa, ⟨xb, xk, xe, xx⟩, ⟨xs, xz⟩, xf, xm⟩ := rv
  have HUV := Lib.hid (show (⟨xp, xn, xc, xa, ⟨xb, xk, xe, xx⟩, ⟨xs, xz⟩, xf, xm⟩ : Rev).val = .agg #[.string xp, .int .i64 xn, .int .i64 xc, .int .i64 xa, .int .i64 xb, .bool xk, .bool xe, .bool xx, .int .u64 xs, .int .i64 xz, .string xf, .int .i64 xm] from rfl)
  have hS : Below w3.heap.size w3 w3.drew := (Below.refl _ _).drew
  (refine wp_region_mixz (S := Below w3.heap.size w3) [] 11 [([0, 1, 2, 3, 4, 5, 6, 7, 8], 9), ([], 10)] (by kernel_rfl) (by kernel_rfl) (by intro c a d v w h; cases d <;> exact h) hS ?_; have hN : Nonempty (Held (Below w3.heap.size w3)) := ⟨⟨_, hS⟩⟩)
  obtain ⟨q0, q1⟩ := fun_and2 (fun y : Held (Below w3.heap.size w3) => (HM3.out.below y.ok).c2)
  have l0 : ∀ y : Held (Below w3.heap.size w3), y.w.cell? ⟨s + 6, 0, none⟩ = some (.map (some s)) := fun y => (HL3.out.below y.ok).blk.cell 0
  have lk : ∀ y : Held (Below w3.heap.size w3), (Instr.lookup 66 (.map (some s)) (.agg #[.string p, .int .i64 n]) true).run Tryz.prog y.w = .ok (.tuple #[.agg #[.string xp, .int .i64 xn, .int .i64 xc, .int .i64 xa, .int .i64 xb, .bool xk, .bool xe, .bool xx, .int .u64 xs, .int .i64 xz, .string xf, .int .i64 xm], .bool om.isSome]) y.w := fun y => by
    rw [← HUV.out, ← HGV.out.1, ← HGV.out.2]
    exact (HKM.out.below y.ok (by omega)).run_get Tryz.underlying66 (zeroRevV _) (x := (p, n)) HVO.out true
  (unfold wpMixZ wpRd; (repeat (first | simp only [List.filterMap_cons] | simp only [List.filterMap_nil] | simp only [List.getElem?_toArray] | simp only [List.getElem?_cons_zero] | simp only [List.getElem?_cons_succ])); (try dsimp only); change wpQuiet _ _ _ _ (_ :: _ :: _ :: _ :: _ :: _ :: _ :: _ :: _ :: []) _; (repeat (go_big_quiet_step (fail))); refine wpQuiet_nil ?_; (try dsimp only))
  clear q0 q1 l0 lk
  go_wp2_with fail
  have hS2 : Below w3.heap.size w3 (w3.alloc (.cells (#[.string ⟨#[]⟩, .int .i64 0, .int .i64 0, .int .i64 0, .int .i64 0, .bool false, .bool false, .bool false, .int .u64 0, .int .i64 0, .string ⟨#[]⟩, .int .i64 0] : Array Value) 43)).drew := ((Below.refl _ _).alloc (Nat.le_refl _) _).drew
  have KN := Lib.hid (Blk.new w3 43 [.string ⟨#[]⟩, .int .i64 0, .int .i64 0, .int .i64 0, .int .i64 0, .bool false, .bool false, .bool false, .int .u64 0, .int .i64 0, .string ⟨#[]⟩, .int .i64 0]).drew
  refine ⟨hS2, ?_⟩
  generalize World.drew (World.alloc w3 _) = w4 at *
  (unfold wpMixZ wpRd; (repeat (first | simp only [List.filterMap_cons] | simp only [List.filterMap_nil] | simp only [List.getElem?_toArray] | simp only [List.getElem?_cons_zero] | simp only [List.getElem?_cons_succ])); (try dsimp only); change wpQuiet _ _ _ _ ([]) _; (repeat (go_big_quiet_step (fail))); refine wpQuiet_nil ?_; (try dsimp only))
  (obtain ⟨f0, f1, f2, f3, f4, f5, f6, f7, f8, f9, f10, f11⟩ := (KN.out).f12; obtain ⟨z0, z1, z2, z3, z4, z5, z6, z7, z8, z9, z10, z11⟩ := (KN.out).c12)
  have hlu := KN.out.lt
  go_wp2_with fail
  have HB13 := Lib.hid (below_put12 hS2 (Nat.le_refl _) (.string xp) (.int .i64 xn) (.int .i64 xc) (.int .i64 xa) (.int .i64 xb) (.bool xk) (.bool xe) (.bool xx) (.int .u64 xs) (.int .i64 xz) (.string xf) (.int .i64 xm))
  refine ⟨HB13.out, ?_⟩
  clear f0 f1 f2 f3 f4 f5 f6 f7 f8 f9 f10 f11 z0 z1 z2 z3 z4 z5 z6 z7 z8 z9 z10 z11 hS hS2 KN hlu
  (generalize World.setCell (World.setCell (World.setCell (World.setCell (World.setCell (World.setCell (World.setCell (World.setCell (World.setCell (World.setCell (World.setCell (World.setCell _ _ _) _ _) _ _) _ _) _ _) _ _) _ _) _ _) _ _) _ _) _ _) _ _ = w6 at *)
  (unfold wpMixZ wpRd; (repeat (first | simp only [List.filterMap_cons] | simp only [List.filterMap_nil] | simp only [List.getElem?_toArray] | simp only [List.getElem?_cons_zero] | simp only [List.getElem?_cons_succ])); (try dsimp only); change wpQuiet _ _ _ _ ([]) _; (repeat (go_big_quiet_step (fail))); refine wpQuiet_nil ?_; (try dsimp only))
  have HB6 := Lib.hid (HB3.out.trans (HB13.out.mono HB3.out.size))
  have HM6 := Lib.hid (HM3.out.below HB13.out)
  have HL6 := Lib.hid (HL3.out.below HB13.out)
  have HE6 := Lib.hid (HE3.out.below HB13.out)
  clear HB13 HB3 HM3 HL3 HE3 HKM HGV
  obtain ⟨a0, a1⟩ := HM6.out.c2
  cases om with
  | none =>
    go_wp2_with fail
    go_ret2
    exact ⟨by unfold errC origM; rw [HOM.out]; rfl, HB6.out⟩
  | some v =>
    have HER : Hid (errC d (p, n) = 0 ∧ origM d (p, n) = origD d.recs (p, n)) := by
      show _ ∧ _
      unfold errC origM
      rw [HOM.out]
      exact ⟨rfl, rfl⟩
    have HCA := Lib.hid (HOR.out s w6 HL6.out)
    clear HL6 HE6 HOR
    go_wp2_with fail
    refine HCA.out.mono ?_
    rintro e w7 ⟨rfl, hb7⟩
    have HB7 := Lib.hid (HB6.out.trans (hb7.mono HB6.out.size))
    clear hb7
    go_wp2_with fail
    go_ret2
    exact ⟨by rw [HER.out.1, HER.out.2]; rfl, HB7.out⟩

set_option maxRecDepth 100000 in
set_option maxHeartbeats 3200000 in
theorem pcar_any (d : Dep) (A B : Option Addr) (ca cb : Nat) (p : ByteArray) (n : Int) (w : World) (hc : CrD d) (hA : revK.In A d.revs w) (hB : rcdK.In B d.recs w) (hv : FOk (p, n)) :
    Calls Tryz.prog 8 #[.agg #[.slice A d.revs.length ca, .slice B d.recs.length cb], .string p, .int .i64 n] w (CompRet d (p, n) (tabD d (p, n)).car w) := by
  have eg : ∀ args w, (callFunc 18 args).run Tryz.prog w = .ok (.enter 18 args) w := enters_of Tryz.func18 (by kernel_rfl) rfl
  have hF : (memD d.revs (p, n)).isSome = true → ∀ s w, Led d s w → Memo d s (fun _ => False) (fun _ => False) (fun _ => False) w → Calls Tryz.prog 18 #[.pointer (some ⟨s + 6, 0, none⟩), .agg #[.string p, .int .i64 n]] w (SetRet d s (tabD d (p, n)).car (fun _ => False) (fun _ => False) (fun _ => False) w) :=
    fun hm s w hl hme => car_all d s hc (rkD d.revs (p, n) + 1) (p, n) hm (Nat.lt_succ_self _) w _ _ _ hl hme (fun f h => h.elim) (fun b h => h.elim)
  have hS : ∀ g, (tabD d (p, n)).car g → (memD d.revs g).isSome = true := fun g hg => (tab_mem hc.hist _ (p, n) (Nat.le_refl _) g (.inl hg)).1
  have hno : memD d.revs (p, n) = none → ∀ g, ¬ (tabD d (p, n)).car g := fun hm g hg => by rw [tab_out hm] at hg; exact hg
  have HCC := Lib.hid (fun w h1 h2 => credit_comp d A B ca cb p n 18 (tabD d (p, n)).car w hc h1 h2 hv eg hF hS hno)
  have HA := Lib.hid hA
  have HB := Lib.hid hB
  clear eg hF hS hno hA hB hc hv
  go_enter Tryz.func8, Tryz.ntmps8
  have hb1 := (Below.refl w.heap.size w).alloc (Nat.le_refl _) (.cells #[.slice A d.revs.length ca, .slice B d.recs.length cb] 28)
  have HB1 := Lib.hid hb1
  have HA1 := Lib.hid (HA.out.below hb1)
  have HB1' := Lib.hid (HB.out.below hb1)
  have HM1 := Lib.hid (Blk.new w 28 [.slice A d.revs.length ca, .slice B d.recs.length cb])
  clear hb1
  go_upto_region 1 with fail
  generalize World.alloc w _ = w1 at *
  obtain ⟨d0, d1⟩ := HM1.out.c2
  go_wp2_with fail
  refine (HCC.out w1 HA1.out HB1'.out).mono ?_
  rintro e w2 ⟨L, A2, c2, rfl, hi, hs, hm, hb⟩
  have HE : Hid (filK.In A2 L w2 ∧ SrtF L ∧ (∀ g, g ∈ L ↔ (tabD d (p, n)).car g) ∧ Below w.heap.size w w2) := ⟨hi, hs, hm, HB1.out.trans (hb.mono HB1.out.size)⟩
  clear hi hs hm hb
  go_wp2_with fail
  go_ret2
  exact ⟨L, A2, c2, rfl, HE.out.1, HE.out.2.1, HE.out.2.2.1, HE.out.2.2.2⟩

set_option maxRecDepth 100000 in
set_option maxHeartbeats 3200000 in
theorem pcon_any (d : Dep) (A B : Option Addr) (ca cb : Nat) (p : ByteArray) (n : Int) (w : World) (hc : CrD d) (hA : revK.In A d.revs w) (hB : rcdK.In B d.recs w) (hv : FOk (p, n)) :
    Calls Tryz.prog 9 #[.agg #[.slice A d.revs.length ca, .slice B d.recs.length cb], .string p, .int .i64 n] w (CompRet d (p, n) (tabD d (p, n)).con w) := by
  have eg : ∀ args w, (callFunc 19 args).run Tryz.prog w = .ok (.enter 19 args) w := enters_of Tryz.func19 (by kernel_rfl) rfl
  have hF : (memD d.revs (p, n)).isSome = true → ∀ s w, Led d s w → Memo d s (fun _ => False) (fun _ => False) (fun _ => False) w → Calls Tryz.prog 19 #[.pointer (some ⟨s + 6, 0, none⟩), .agg #[.string p, .int .i64 n]] w (SetRet d s (tabD d (p, n)).con (fun _ => False) (fun _ => False) (fun _ => False) w) :=
    fun hm s w hl hme => con_all d s hc (rkD d.revs (p, n) + 1) (p, n) hm (Nat.lt_succ_self _) w _ _ _ hl hme (fun f h => h.elim) (fun b h => h.elim)
  have hS : ∀ g, (tabD d (p, n)).con g → (memD d.revs g).isSome = true := fun g hg => (tab_mem hc.hist _ (p, n) (Nat.le_refl _) g (.inr (.inl hg))).1
  have hno : memD d.revs (p, n) = none → ∀ g, ¬ (tabD d (p, n)).con g := fun hm g hg => by rw [tab_out hm] at hg; exact hg
  have HCC := Lib.hid (fun w h1 h2 => credit_comp d A B ca cb p n 19 (tabD d (p, n)).con w hc h1 h2 hv eg hF hS hno)
  have HA := Lib.hid hA
  have HB := Lib.hid hB
  clear eg hF hS hno hA hB hc hv
  go_enter Tryz.func9, Tryz.ntmps9
  have hb1 := (Below.refl w.heap.size w).alloc (Nat.le_refl _) (.cells #[.slice A d.revs.length ca, .slice B d.recs.length cb] 28)
  have HB1 := Lib.hid hb1
  have HA1 := Lib.hid (HA.out.below hb1)
  have HB1' := Lib.hid (HB.out.below hb1)
  have HM1 := Lib.hid (Blk.new w 28 [.slice A d.revs.length ca, .slice B d.recs.length cb])
  clear hb1
  go_upto_region 1 with fail
  generalize World.alloc w _ = w1 at *
  obtain ⟨d0, d1⟩ := HM1.out.c2
  go_wp2_with fail
  refine (HCC.out w1 HA1.out HB1'.out).mono ?_
  rintro e w2 ⟨L, A2, c2, rfl, hi, hs, hm, hb⟩
  have HE : Hid (filK.In A2 L w2 ∧ SrtF L ∧ (∀ g, g ∈ L ↔ (tabD d (p, n)).con g) ∧ Below w.heap.size w w2) := ⟨hi, hs, hm, HB1.out.trans (hb.mono HB1.out.size)⟩
  clear hi hs hm hb
  go_wp2_with fail
  go_ret2
  exact ⟨L, A2, c2, rfl, HE.out.1, HE.out.2.1, HE.out.2.2.1, HE.out.2.2.2⟩

set_option maxRecDepth 100000 in
set_option maxHeartbeats 3200000 in
theorem pcre_any (d : Dep) (A B : Option Addr) (ca cb : Nat) (p : ByteArray) (n : Int) (w : World) (hc : CrD d) (hA : revK.In A d.revs w) (hB : rcdK.In B d.recs w) (hv : FOk (p, n)) :
    Calls Tryz.prog 10 #[.agg #[.slice A d.revs.length ca, .slice B d.recs.length cb], .string p, .int .i64 n] w (CompRet d (p, n) (tabD d (p, n)).cre w) := by
  have eg : ∀ args w, (callFunc 20 args).run Tryz.prog w = .ok (.enter 20 args) w := enters_of Tryz.func20 (by kernel_rfl) rfl
  have hF : (memD d.revs (p, n)).isSome = true → ∀ s w, Led d s w → Memo d s (fun _ => False) (fun _ => False) (fun _ => False) w → Calls Tryz.prog 20 #[.pointer (some ⟨s + 6, 0, none⟩), .agg #[.string p, .int .i64 n]] w (SetRet d s (tabD d (p, n)).cre (fun _ => False) (fun _ => False) (fun _ => False) w) :=
    fun hm s w hl hme => cre_all d s hc (rkD d.revs (p, n) + 1) (p, n) hm (Nat.lt_succ_self _) w _ _ _ hl hme (fun f h => h.elim) (fun f h => h.elim) (fun b h => h.elim)
  have hS : ∀ g, (tabD d (p, n)).cre g → (memD d.revs g).isSome = true := fun g hg => (tab_mem hc.hist _ (p, n) (Nat.le_refl _) g (.inr (.inr hg))).1
  have hno : memD d.revs (p, n) = none → ∀ g, ¬ (tabD d (p, n)).cre g := fun hm g hg => by rw [tab_out hm] at hg; exact hg
  have HCC := Lib.hid (fun w h1 h2 => credit_comp d A B ca cb p n 20 (tabD d (p, n)).cre w hc h1 h2 hv eg hF hS hno)
  have HA := Lib.hid hA
  have HB := Lib.hid hB
  clear eg hF hS hno hA hB hc hv
  go_enter Tryz.func10, Tryz.ntmps10
  have hb1 := (Below.refl w.heap.size w).alloc (Nat.le_refl _) (.cells #[.slice A d.revs.length ca, .slice B d.recs.length cb] 28)
  have HB1 := Lib.hid hb1
  have HA1 := Lib.hid (HA.out.below hb1)
  have HB1' := Lib.hid (HB.out.below hb1)
  have HM1 := Lib.hid (Blk.new w 28 [.slice A d.revs.length ca, .slice B d.recs.length cb])
  clear hb1
  go_upto_region 1 with fail
  generalize World.alloc w _ = w1 at *
  obtain ⟨d0, d1⟩ := HM1.out.c2
  go_wp2_with fail
  refine (HCC.out w1 HA1.out HB1'.out).mono ?_
  rintro e w2 ⟨L, A2, c2, rfl, hi, hs, hm, hb⟩
  have HE : Hid (filK.In A2 L w2 ∧ SrtF L ∧ (∀ g, g ∈ L ↔ (tabD d (p, n)).cre g) ∧ Below w.heap.size w w2) := ⟨hi, hs, hm, HB1.out.trans (hb.mono HB1.out.size)⟩
  clear hi hs hm hb
  go_wp2_with fail
  go_ret2
  exact ⟨L, A2, c2, rfl, HE.out.1, HE.out.2.1, HE.out.2.2.1, HE.out.2.2.2⟩
end Go.Proofs.YthonhikkoabhlaaGreatDoor
