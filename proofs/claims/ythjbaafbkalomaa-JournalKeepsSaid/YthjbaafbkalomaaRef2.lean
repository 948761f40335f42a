/-
  The reference's functions on a journal.
-/
import Derived.Test.YthjbaafbkalomaaLook
namespace Go.Proofs.Ythjbaafbkalomaa
open Go.RowKit

theorem RecsR.take {g : Gh} {w : World} : ∀ {vs : List Value} {rs : List (List UInt8)}, RecsR g w vs rs → ∀ k, RecsR g w (vs.take k) (rs.take k)
  | [], [], _, k => by simp [RecsR]
  | _ :: _, _ :: _, _, 0 => by simp [RecsR]
  | _ :: _, _ :: _, ⟨h1, h2⟩, k + 1 => ⟨h1, RecsR.take h2 k⟩
theorem Ext.set3n {M : Nat → Prop} {g gr : Gh} {w x : World} {b : Nat} (h : Ext M g w gr x) (hb : w.heap.size ≤ b) (hF : gr.F b = 0) (u v y : Value) : Ext M g w gr (((x.setCell ⟨b, 0, none⟩ u).setCell ⟨b, 1, none⟩ v).setCell ⟨b, 2, none⟩ y) :=
  ((h.setCell (fun h => absurd h (Nat.not_lt.2 hb)) hF u).setCell (fun h => absurd h (Nat.not_lt.2 hb)) hF v).setCell (fun h => absurd h (Nat.not_lt.2 hb)) hF y

set_option maxRecDepth 100000 in
theorem rend_any (g : Gh) (w : World) (s : Int) (A1 A2 : Option Addr) (n1 c1 n2 c2 : Nat) (h0 : 0 ≤ s) (h1 : s ≤ 4611686018427387904) (h2 : n1 ≤ 1000000) :
    Calls Try.prog 35 #[.agg #[.int .i64 s, .slice A1 n1 c1, .slice A2 n2 c2]] w fun e w' => e = .returned (.int .i64 (s + n1)) ∧ SameP g w w' := by
  have hx := Ext.box (fun _ => False) g w (.cells #[.int .i64 s, .slice A1 n1 c1, .slice A2 n2 c2] 35)
  have HX := Lib.hid hx
  clear hx
  go_enter Try.func35, Try.ntmps35
  go_wp2_with fail
  go_ret
  exact ⟨rfl, _, HX.out⟩

def RefR.cut (R : RefR) (p : Int) : RefR := if p < R.start ∨ R.start + R.recs.length < p then R else ⟨p, R.recs.drop (p - R.start).toNat, R.pend⟩
def RefR.cutI (R : RefR) (p : Int) : Int := if p < R.start ∨ R.start + R.recs.length < p then 312 else 0
theorem RecsAt.drop {g : Gh} {w : World} {A : Option Addr} {c : Nat} {rs : List (List UInt8)} (h : RecsAt g w A c rs) {k : Nat} (hk : k ≤ rs.length) : RecsAt g w (cutA 1 A c k) (c - k) (rs.drop k) := by
  obtain ⟨vs, h1, h2⟩ := h.ex
  have := h.le
  have := h.mx
  refine ⟨⟨vs.drop k, by rw [List.length_drop]; exact h1.drop hk h.le, h2.drop k⟩, by rw [List.length_drop]; omega, by omega, fun e => ?_⟩
  have := h.nz (cutA_isNone e)
  rw [List.length_drop]; omega
theorem RecsAt.take {g : Gh} {w : World} {A : Option Addr} {c : Nat} {rs : List (List UInt8)} (h : RecsAt g w A c rs) {k : Nat} (hk : k ≤ rs.length) : RecsAt g w A c (rs.take k) := by
  obtain ⟨vs, q1, q2⟩ := h.ex
  have q3 := q1.cut (l := 0) (k := k) (m := rs.length) (by omega) (by omega)
  rw [cutA_zero] at q3
  simp only [List.drop_zero, Nat.mul_one] at q3
  have hlen : (rs.take k).length = k := by rw [List.length_take]; omega
  have := h.le
  refine ⟨⟨vs.take k, by rw [hlen]; exact q3, RecsR.take q2 k⟩, by omega, h.mx, fun e => by have := h.nz e; omega⟩
/-- What a function that returns a reference's journal and a code leaves. -/
def RefP (g : Gh) (w : World) (R : RefR) (i : Int) (e : Ending) (w' : World) : Prop := ∃ v g', e = .returned (.tuple #[v, .int .i64 i]) ∧ Ext (fun _ => False) g w g' w' ∧ RefAt g' w' v R

set_option maxRecDepth 100000 in
set_option maxHeartbeats 1600000 in
theorem rcut_any (g : Gh) (w : World) (v : Value) (R : RefR) (h : RefAt g w v R) (p : Int) (h0 : 0 ≤ R.start) (h1 : R.start ≤ 4611686018427387904) (h2 : R.recs.length ≤ 1000000) :
    Calls Try.prog 12 #[v, .int .i64 p] w (RefP g w (R.cut p) (R.cutI p)) := by
  have HH := Lib.hid h
  obtain ⟨A1, c1, A2, c2, rfl, hr1, hr2⟩ := h
  have HXA := Lib.hid (Ext.two g w (.cells #[.int .i64 R.start, .slice A1 R.recs.length c1, .slice A2 R.pend.length c2] 35) (.cells #[.int .i64 R.start, .slice A1 R.recs.length c1, .slice A2 R.pend.length c2] 35))
  have hxb := Ext.two g w (.cells #[.int .i64 R.start, .slice A1 R.recs.length c1, .slice A2 R.pend.length c2] 35) (.cells #[.int .i64 0, .slice none 0 0, .slice none 0 0] 35)
  have HXB := Lib.hid hxb
  have hb1 : Blk w.heap.size 35 [.int .i64 R.start, .slice A1 R.recs.length c1, .slice A2 R.pend.length c2] ((w.alloc (.cells #[.int .i64 R.start, .slice A1 R.recs.length c1, .slice A2 R.pend.length c2] 35)).alloc (.cells #[.int .i64 0, .slice none 0 0, .slice none 0 0] 35)) := (Blk.new w 35 [.int .i64 R.start, .slice A1 R.recs.length c1, .slice A2 R.pend.length c2]).alloc _
  have hb2 : Blk (w.heap.size + 1) 35 [.int .i64 0, .slice none 0 0, .slice none 0 0] ((w.alloc (.cells #[.int .i64 R.start, .slice A1 R.recs.length c1, .slice A2 R.pend.length c2] 35)).alloc (.cells #[.int .i64 0, .slice none 0 0, .slice none 0 0] 35)) := by
    have := Blk.new (w.alloc (.cells #[.int .i64 R.start, .slice A1 R.recs.length c1, .slice A2 R.pend.length c2] 35)) 35 [.int .i64 0, .slice none 0 0, .slice none 0 0]
    simpa using this
  have HB1 := Lib.hid hb1
  have HB2 := Lib.hid hb2
  have hO : ((g.box w.heap.size).box (w.heap.size + 1)).O (w.heap.size + 1) = w.heap.size + 1 := by simp [Gh.box]
  have hF : ((g.box w.heap.size).box (w.heap.size + 1)).F (w.heap.size + 1) = 0 := by simp [Gh.box]
  clear hxb hb1 hb2
  by_cases hp : p < R.start
  · have HE : Hid (R.cut p = R ∧ R.cutI p = 312) := by simp [Hid, RefR.cut, RefR.cutI, hp]
    rw [HE.out.1, HE.out.2]
    clear hr1 hr2 HB1 HB2 HXB hO hF
    go_enter Try.func12, Try.ntmps12
    go_wp2_with fail
    refine bodyPost_ret (v := .tuple #[.agg #[.int .i64 R.start, .slice A1 R.recs.length c1, .slice A2 R.pend.length c2], .int .i64 312]) (by simp [results, Try.results12, go_sem]) rfl ?_
    exact ⟨_, _, rfl, HXA.out, HH.out.ext HXA.out⟩
  by_cases hp2 : R.start + R.recs.length < p
  · have HE : Hid (R.cut p = R ∧ R.cutI p = 312) := by simp [Hid, RefR.cut, RefR.cutI, hp2]
    rw [HE.out.1, HE.out.2]
    clear hr1 hr2
    go_enter Try.func12, Try.ntmps12
    go_wp2_with fail
    refine (rend_any ((g.box w.heap.size).box (w.heap.size + 1)) _ _ _ _ _ _ _ _ h0 h1 h2).mono ?_
    rintro e w3 ⟨rfl, g3, hx3⟩
    have HX3 := Lib.hid (HXB.out.trans hx3)
    have HB13 := Lib.hid (HB1.out.ext hx3 (fun h => h))
    have HB23 := Lib.hid (HB2.out.ext hx3 (fun h => h))
    have hO3 := (hx3.own _ HB2.out.lt).trans hO
    have hF3 := hx3.zero _ HB2.out.lt hF
    have a0 : w3.cell? ⟨w.heap.size, 0, none⟩ = some (.int .i64 R.start) := HB13.out.cell 0
    have a1 : w3.cell? ⟨w.heap.size, 1, none⟩ = some (.slice A1 R.recs.length c1) := HB13.out.cell 1
    have a2 : w3.cell? ⟨w.heap.size, 2, none⟩ = some (.slice A2 R.pend.length c2) := HB13.out.cell 2
    have r0 : w3.cell? ⟨w.heap.size + 1, 0, none⟩ = some (.int .i64 0) := HB23.out.cell 0
    have r1 : w3.cell? ⟨w.heap.size + 1, 1, none⟩ = some (.slice none 0 0) := HB23.out.cell 1
    have r2 : w3.cell? ⟨w.heap.size + 1, 2, none⟩ = some (.slice none 0 0) := HB23.out.cell 2
    have z := HB23.out.fz
    clear hx3
    go_wp2_with fail
    refine bodyPost_ret (v := .tuple #[.agg #[.int .i64 R.start, .slice A1 R.recs.length c1, .slice A2 R.pend.length c2], .int .i64 312]) (by simp [results, Try.results12, go_sem, r0, r1, r2]) rfl ?_
    have hxs := HX3.out.set3n (b := w.heap.size + 1) (by omega) hF3 (.int .i64 R.start) (.slice A1 R.recs.length c1) (.slice A2 R.pend.length c2)
    exact ⟨_, _, rfl, hxs, HH.out.ext hxs⟩
  have HE : Hid (R.cut p = ⟨p, R.recs.drop (p - R.start).toNat, R.pend⟩ ∧ R.cutI p = 0) := by simp [Hid, RefR.cut, RefR.cutI, hp, hp2]
  obtain ⟨k, hk⟩ : ∃ k : Nat, p - R.start = k := ⟨(p - R.start).toNat, by omega⟩
  obtain ⟨i0, hi0, hz0, hz1, hz2⟩ := info_parts Try.infoBytes
  have hkn : k ≤ R.recs.length := by omega
  have hcl := run_cut_l (P := Try.prog) Try.underlying33 hi0 A1 R.recs.length c1 k hkn
  rw [hz1] at hcl
  have HR1 := Lib.hid (hr1.drop hkn)
  have HR2 := Lib.hid hr2
  rw [HE.out.1, HE.out.2]
  have hk' : (p - R.start).toNat = k := by omega
  rw [hk']
  clear hr1 hr2 HE hk'
  go_enter Try.func12, Try.ntmps12
  go_wp2_with fail
  refine (rend_any ((g.box w.heap.size).box (w.heap.size + 1)) _ _ _ _ _ _ _ _ h0 h1 h2).mono ?_
  rintro e w3 ⟨rfl, g3, hx3⟩
  have HX3 := Lib.hid (HXB.out.trans hx3)
  have HB13 := Lib.hid (HB1.out.ext hx3 (fun h => h))
  have HB23 := Lib.hid (HB2.out.ext hx3 (fun h => h))
  have hO3 := (hx3.own _ HB2.out.lt).trans hO
  have hF3 := hx3.zero _ HB2.out.lt hF
  have a0 : w3.cell? ⟨w.heap.size, 0, none⟩ = some (.int .i64 R.start) := HB13.out.cell 0
  have a1 : w3.cell? ⟨w.heap.size, 1, none⟩ = some (.slice A1 R.recs.length c1) := HB13.out.cell 1
  have a2 : w3.cell? ⟨w.heap.size, 2, none⟩ = some (.slice A2 R.pend.length c2) := HB13.out.cell 2
  have r0 : w3.cell? ⟨w.heap.size + 1, 0, none⟩ = some (.int .i64 0) := HB23.out.cell 0
  have r1 : w3.cell? ⟨w.heap.size + 1, 1, none⟩ = some (.slice none 0 0) := HB23.out.cell 1
  have r2 : w3.cell? ⟨w.heap.size + 1, 2, none⟩ = some (.slice none 0 0) := HB23.out.cell 2
  have z := HB23.out.fz
  clear hx3
  go_wp2_with fail
  have hS : (fun x => Blk w.heap.size 35 [.int .i64 R.start, .slice A1 R.recs.length c1, .slice A2 R.pend.length c2] x) w3.drew := HB13.out
  (refine wp_region_mixz (S := fun x => Blk w.heap.size 35 [.int .i64 R.start, .slice A1 R.recs.length c1, .slice A2 R.pend.length c2] x) [] 12 [([0, 1, 2, 3, 4, 5, 6, 7, 8, 9, 10], 11)] (by kernel_rfl) (by kernel_rfl) (by intro c a d v w h; cases d <;> exact h) hS ?_; have hN : Nonempty (Held (fun x => Blk w.heap.size 35 [.int .i64 R.start, .slice A1 R.recs.length c1, .slice A2 R.pend.length c2] x)) := ⟨⟨_, hS⟩⟩)
  have q0 : ∀ y : Held (fun x => Blk w.heap.size 35 [.int .i64 R.start, .slice A1 R.recs.length c1, .slice A2 R.pend.length c2] x), y.w.cell? ⟨w.heap.size, 0, none⟩ = some (.int .i64 R.start) := fun y => y.ok.cell 0
  have q1 : ∀ y : Held (fun x => Blk w.heap.size 35 [.int .i64 R.start, .slice A1 R.recs.length c1, .slice A2 R.pend.length c2] x), y.w.cell? ⟨w.heap.size, 1, none⟩ = some (.slice A1 R.recs.length c1) := fun y => y.ok.cell 1
  have q2 : ∀ y : Held (fun x => Blk w.heap.size 35 [.int .i64 R.start, .slice A1 R.recs.length c1, .slice A2 R.pend.length c2] x), y.w.cell? ⟨w.heap.size, 2, none⟩ = some (.slice A2 R.pend.length c2) := fun y => y.ok.cell 2
  (unfold wpMixZ wpRd; (repeat (first | simp only [List.filterMap_cons] | simp only [List.filterMap_nil] | simp only [List.getElem?_toArray] | simp only [List.getElem?_cons_zero] | simp only [List.getElem?_cons_succ])); (try dsimp only); change wpQuiet _ _ _ _ (_ :: _ :: _ :: _ :: _ :: _ :: _ :: _ :: _ :: _ :: _ :: []) _; (repeat (go_big_quiet_step (fail))); refine wpQuiet_nil ?_; (try dsimp only))
  clear q0 q1 q2
  go_wp2_with fail
  refine ⟨Blk.far (Blk.far (Blk.far hS (show w.heap.size ≠ w.heap.size + 1 by omega) _) (show w.heap.size ≠ w.heap.size + 1 by omega) _) (show w.heap.size ≠ w.heap.size + 1 by omega) _, ?_⟩
  (unfold wpMixZ wpRd; (repeat (first | simp only [List.filterMap_cons] | simp only [List.filterMap_nil] | simp only [List.getElem?_toArray] | simp only [List.getElem?_cons_zero] | simp only [List.getElem?_cons_succ])); (try dsimp only); change wpQuiet _ _ _ _ ([]) _; (repeat (go_big_quiet_step (fail))); refine wpQuiet_nil ?_; (try dsimp only))
  clear hN
  go_wp2_with fail
  refine bodyPost_ret (v := .tuple #[.agg #[.int .i64 p, .slice (cutA 1 A1 c1 k) (R.recs.length - k) (c1 - k), .slice A2 R.pend.length c2], .int .i64 0]) (by simp [results, Try.results12, go_sem, r0, r1, r2]) rfl ?_
  have hxs := (HX3.out.drew).set3n (b := w.heap.size + 1) (by omega) hF3 (.int .i64 p) (.slice (cutA 1 A1 c1 k) (R.recs.length - k) (c1 - k)) (.slice A2 R.pend.length c2)
  refine ⟨_, _, rfl, hxs, cutA 1 A1 c1 k, c1 - k, A2, c2, ?_, HR1.out.ext hxs, HR2.out.ext hxs⟩
  simp only [List.length_drop]

theorem RecsAt.src {g : Gh} {w : World} {A : Option Addr} {c : Nat} {rs : List (List UInt8)} (h : RecsAt g w A c rs) : ∃ vs, RecsR g w vs rs ∧ ∀ (M : Nat → Prop) (g' : Gh) (w' : World), Ext M g w g' w' → Src Try.prog 1 33 (.slice A rs.length c) rs.length vs w' := by
  obtain ⟨vs, h1, h2⟩ := h.ex
  exact ⟨vs, h2, fun M g' w' hx => (h1.ext hx).src Try.underlying33 c h2.one h.nz⟩

set_option maxRecDepth 100000 in
set_option maxHeartbeats 1600000 in
theorem rcommit_any (g : Gh) (w : World) (v : Value) (R : RefR) (h : RefAt g w v R) (h1 : R.recs.length ≤ 1000000) (h2 : R.pend.length ≤ 1000000) (k : Nat) (hk : k ≤ R.pend.length) :
    Calls Try.prog 15 #[v, .int .i64 k] w fun e w' => ∃ v' g', e = .returned v' ∧ Ext (fun _ => False) g w g' w' ∧ RefAt g' w' v' ⟨R.start, R.recs ++ R.pend.take k, []⟩ := by
  obtain ⟨A1, c1, A2, c2, rfl, hr1, hr2⟩ := h
  have hx := Ext.two g w (.cells #[.int .i64 R.start, .slice A1 R.recs.length c1, .slice A2 R.pend.length c2] 35) (.cells #[.int .i64 0, .slice none 0 0, .slice none 0 0] 35)
  have hb1 : Blk w.heap.size 35 [.int .i64 R.start, .slice A1 R.recs.length c1, .slice A2 R.pend.length c2] ((w.alloc (.cells #[.int .i64 R.start, .slice A1 R.recs.length c1, .slice A2 R.pend.length c2] 35)).alloc (.cells #[.int .i64 0, .slice none 0 0, .slice none 0 0] 35)) := (Blk.new w 35 [.int .i64 R.start, .slice A1 R.recs.length c1, .slice A2 R.pend.length c2]).alloc _
  have hb2 : Blk (w.heap.size + 1) 35 [.int .i64 0, .slice none 0 0, .slice none 0 0] ((w.alloc (.cells #[.int .i64 R.start, .slice A1 R.recs.length c1, .slice A2 R.pend.length c2] 35)).alloc (.cells #[.int .i64 0, .slice none 0 0, .slice none 0 0] 35)) := by
    have := Blk.new (w.alloc (.cells #[.int .i64 R.start, .slice A1 R.recs.length c1, .slice A2 R.pend.length c2] 35)) 35 [.int .i64 0, .slice none 0 0, .slice none 0 0]
    simpa using this
  obtain ⟨o, ho⟩ := owner_new ((g.box w.heap.size).box (w.heap.size + 1)) (w.heap.size + 1 + 1)
  have hO1 : ((g.box w.heap.size).box (w.heap.size + 1)).O w.heap.size = w.heap.size := by simp [Gh.box]
  have hO2 : ((g.box w.heap.size).box (w.heap.size + 1)).O (w.heap.size + 1) = w.heap.size + 1 := by simp [Gh.box]
  have hF1 : ((g.box w.heap.size).box (w.heap.size + 1)).F w.heap.size = 0 := by simp [Gh.box]
  have hF2 : ((g.box w.heap.size).box (w.heap.size + 1)).F (w.heap.size + 1) = 0 := by simp [Gh.box]
  have ho1 : o ≠ w.heap.size := fun e => ho w.heap.size (by omega) (by rw [hO1, e])
  have ho2 : o ≠ w.heap.size + 1 := fun e => ho (w.heap.size + 1) (by omega) (by rw [hO2, e])
  have HO : Hid (∀ b, b < w.heap.size → g.O b ≠ o) := by
    intro b hb e
    exact ho b (by omega) (by rw [← e]; simp only [Gh.box]; rw [if_neg (by omega), if_neg (by omega)])
  obtain ⟨i0, hi0, hz0, hz1, hz2⟩ := info_parts Try.infoBytes
  have hxd := hx.drew
  obtain ⟨vs1, hv1, hs1⟩ := hr1.src
  obtain ⟨vs2, hv2, hs2⟩ := (hr2.take hk).src
  have hlen : (R.pend.take k).length = k := by rw [List.length_take]; omega
  rw [hlen] at hs2
  have hch := run_cut_h (P := Try.prog) Try.underlying33 hi0 A2 R.pend.length c2 k (Nat.le_trans hk hr2.le)
  have HS1 := Lib.hid (hs1 _ _ _ hxd)
  have HS2 := Lib.hid hs2
  have HV1 := Lib.hid hv1
  have HV2 := Lib.hid hv2
  have HX := Lib.hid hxd
  have HLEN := Lib.hid hlen
  have hS : (fun x => Blk w.heap.size 35 [.int .i64 R.start, .slice A1 R.recs.length c1, .slice A2 R.pend.length c2] x ∧ Blk (w.heap.size + 1) 35 [.int .i64 0, .slice none 0 0, .slice none 0 0] x) ((w.alloc (.cells #[.int .i64 R.start, .slice A1 R.recs.length c1, .slice A2 R.pend.length c2] 35)).alloc (.cells #[.int .i64 0, .slice none 0 0, .slice none 0 0] 35)).drew := ⟨hb1, hb2⟩
  clear hr1 hr2 hv1 hs1 hv2 hs2 ho hx hxd hb1 hb2 hlen
  generalize (g.box w.heap.size).box (w.heap.size + 1) = g2 at *
  go_enter Try.func15, Try.ntmps15
  go_wp2_with fail
  (refine wp_region_mixz (S := fun x => Blk w.heap.size 35 [.int .i64 R.start, .slice A1 R.recs.length c1, .slice A2 R.pend.length c2] x ∧ Blk (w.heap.size + 1) 35 [.int .i64 0, .slice none 0 0, .slice none 0 0] x) [10] 11 [([0, 1, 2, 3, 5, 6, 7, 8], 4), ([], 9)] (by kernel_rfl) (by kernel_rfl) (by intro c a d v w h; cases d <;> exact h) hS ?_; have hN : Nonempty (Held (fun x => Blk w.heap.size 35 [.int .i64 R.start, .slice A1 R.recs.length c1, .slice A2 R.pend.length c2] x ∧ Blk (w.heap.size + 1) 35 [.int .i64 0, .slice none 0 0, .slice none 0 0] x)) := ⟨⟨_, hS⟩⟩)
  have q0 : ∀ y : Held (fun x => Blk w.heap.size 35 [.int .i64 R.start, .slice A1 R.recs.length c1, .slice A2 R.pend.length c2] x ∧ Blk (w.heap.size + 1) 35 [.int .i64 0, .slice none 0 0, .slice none 0 0] x), y.w.cell? ⟨w.heap.size, 0, none⟩ = some (.int .i64 R.start) := fun y => y.ok.1.cell 0
  have q1 : ∀ y : Held (fun x => Blk w.heap.size 35 [.int .i64 R.start, .slice A1 R.recs.length c1, .slice A2 R.pend.length c2] x ∧ Blk (w.heap.size + 1) 35 [.int .i64 0, .slice none 0 0, .slice none 0 0] x), y.w.cell? ⟨w.heap.size, 1, none⟩ = some (.slice A1 R.recs.length c1) := fun y => y.ok.1.cell 1
  have q2 : ∀ y : Held (fun x => Blk w.heap.size 35 [.int .i64 R.start, .slice A1 R.recs.length c1, .slice A2 R.pend.length c2] x ∧ Blk (w.heap.size + 1) 35 [.int .i64 0, .slice none 0 0, .slice none 0 0] x), y.w.cell? ⟨w.heap.size, 2, none⟩ = some (.slice A2 R.pend.length c2) := fun y => y.ok.1.cell 2
  (unfold wpMixZ wpRd; (repeat (first | simp only [List.filterMap_cons] | simp only [List.filterMap_nil] | simp only [List.getElem?_toArray] | simp only [List.getElem?_cons_zero] | simp only [List.getElem?_cons_succ])); (try dsimp only); change wpQuiet _ _ _ _ (_ :: _ :: _ :: _ :: _ :: _ :: _ :: _ :: []) _; (repeat (go_big_quiet_step (fail))); refine wpQuiet_nil ?_; (try dsimp only))
  refine wpList_append_app rfl _ _ _ _ rfl 37 i0 (.slice none 0 0) 1 24 Try.underlying33 hi0 hz0 hz1 hz2 rfl (by decide) rfl (App.nil 37 1 o g2 _) rfl HS1.out (by unfold maxLen; omega) (by omega) ?_
  intro A3 c3 w3 g3 hx3 ha3 _
  simp only [Nat.zero_add, List.nil_append] at ha3
  rw [Nat.zero_add]
  have hS3 : (fun x => Blk w.heap.size 35 [.int .i64 R.start, .slice A1 R.recs.length c1, .slice A2 R.pend.length c2] x ∧ Blk (w.heap.size + 1) 35 [.int .i64 0, .slice none 0 0, .slice none 0 0] x) w3 := ⟨hS.1.ext hx3 (by rw [hO1]; exact fun e => ho1 e.symm), hS.2.ext hx3 (by rw [hO2]; exact fun e => ho2 e.symm)⟩
  have HX3 := Lib.hid ((HX.out.imp (fun _ h => h.elim)).trans hx3)
  have HA3 := Lib.hid ha3
  have HS23 := Lib.hid (HS2.out _ _ _ HX3.out)
  have hO13 := (hx3.own _ hS.1.lt).trans hO1
  have hO23 := (hx3.own _ hS.2.lt).trans hO2
  have hF23 := hx3.zero _ hS.2.lt hF2
  clear hx3 ha3
  refine ⟨hS3, ?_⟩
  (unfold wpMixZ wpRd; (repeat (first | simp only [List.filterMap_cons] | simp only [List.filterMap_nil] | simp only [List.getElem?_toArray] | simp only [List.getElem?_cons_zero] | simp only [List.getElem?_cons_succ])); (try dsimp only); change wpQuiet _ _ _ _ ([]) _; (repeat (go_big_quiet_step (fail))); refine wpQuiet_nil ?_; (try dsimp only))
  refine wpList_append_app rfl _ _ _ _ rfl 37 i0 (.slice none 0 0) 1 24 Try.underlying33 hi0 hz0 hz1 hz2 rfl (by decide) rfl HA3.out rfl HS23.out (by unfold maxLen; omega) (by omega) ?_
  intro A4 c4 w4 g4 hx4 ha4 _
  have hS4 : (fun x => Blk w.heap.size 35 [.int .i64 R.start, .slice A1 R.recs.length c1, .slice A2 R.pend.length c2] x ∧ Blk (w.heap.size + 1) 35 [.int .i64 0, .slice none 0 0, .slice none 0 0] x) w4 := ⟨hS3.1.ext hx4 (by rw [hO13]; exact fun e => ho1 e.symm), hS3.2.ext hx4 (by rw [hO23]; exact fun e => ho2 e.symm)⟩
  have HX4 := Lib.hid (HX3.out.trans hx4)
  have HA4 := Lib.hid ha4
  have hF24 := hx4.zero _ hS3.2.lt hF23
  have hO24 := (hx4.own _ hS3.2.lt).trans hO23
  clear hx4 ha4 q0 q1 q2
  refine ⟨hS4, ?_⟩
  have r0 : w4.cell? ⟨w.heap.size + 1, 0, none⟩ = some (.int .i64 0) := hS4.2.cell 0
  have r1 : w4.cell? ⟨w.heap.size + 1, 1, none⟩ = some (.slice none 0 0) := hS4.2.cell 1
  have r2 : w4.cell? ⟨w.heap.size + 1, 2, none⟩ = some (.slice none 0 0) := hS4.2.cell 2
  have z := hS4.2.fz
  go_frame
  (unfold wpMixZ wpRd; (repeat (first | simp only [List.filterMap_cons] | simp only [List.filterMap_nil] | simp only [List.getElem?_toArray] | simp only [List.getElem?_cons_zero] | simp only [List.getElem?_cons_succ])); (try dsimp only); change wpQuiet _ _ _ _ (_ :: []) _; (repeat (go_big_quiet_step (fail))); refine wpQuiet_nil ?_; (try dsimp only))
  clear hN
  go_wp2_with fail
  refine bodyPost_ret (v := .agg #[.int .i64 R.start, .slice A4 (R.recs.length + k) c4, .slice none 0 0]) (by simp [results, Try.results15, go_sem, r0, r1, r2]) rfl ?_
  have hxs := (HX4.out).set3n (b := w.heap.size + 1) (by omega) hF24 (.int .i64 R.start) (.slice A4 (R.recs.length + k) c4) (.slice none 0 0)
  have hxt : Ext (· = w.heap.size + 1) g4 w4 g4 (((w4.setCell ⟨w.heap.size + 1, 0, none⟩ (.int .i64 R.start)).setCell ⟨w.heap.size + 1, 1, none⟩ (.slice A4 (R.recs.length + k) c4)).setCell ⟨w.heap.size + 1, 2, none⟩ (.slice none 0 0)) :=
    (((Ext.refl _ _ _).setCell (fun _ => hO24) hF24 _).setCell (fun _ => hO24) hF24 _).setCell (fun _ => hO24) hF24 _
  refine ⟨_, rfl, _, hxs.more (fun b hb e => absurd e (HO.out b hb)), A4, c4, none, 0, ?_, ?_, RecsAt.nil _ _⟩
  · simp only [List.length_append, HLEN.out, List.length_nil]
  · refine (RecsAt.ofApp HA4.out (by rw [List.length_append, HLEN.out]) ?_).ext hxt
    exact (HV1.out.append HV2.out).ext HX4.out

end Go.Proofs.Ythjbaafbkalomaa
