/-
  The walks of changelist.copied, with and into (no records).
-/
import Derived.Test.YtocffknoeknabaaGreatDoorClA
import Derived.Test.YtocffknoeknabaaGreatDoorClI
import Derived.Test.YtocffknoeknabaaGreatDoorCgB
import Derived.Deep.CutRange
import Derived.Deep.CutBlock
namespace Go.Proofs.YtocffknoeknabaaGreatDoor
open Go.RowKit

theorem ownsRow_le {w : World} {base base' size n : Nat} {e : TypeId} {v : Value} {xs : List Value} (h : w.ownsRow base' e size v n xs) (hb : base ≤ base') : w.ownsRow base e size v n xs := by
  refine ⟨h.1, ?_⟩
  rcases h.2 with h2 | ⟨g, cap, cur, h3, h4, h5⟩
  · exact .inl h2
  · exact .inr ⟨g, cap, cur, h3, Nat.le_trans hb h4, h5⟩
theorem own_slice {w : World} {base size n : Nat} {e : TypeId} {v : Value} {xs : List Value} (h : w.ownsRow base e size v n xs) : ∃ A c, v = .slice A n c := by
  rcases ownsRow_cases h with ⟨rfl, rfl⟩ | ⟨g, cp, rfl, _⟩
  · exact ⟨_, _, rfl⟩
  · exact ⟨_, _, rfl⟩
theorem own_set_below {w : World} {base size n : Nat} {e : TypeId} {v : Value} {xs : List Value} (h : w.ownsRow base e size v n xs) {p : Addr} (hp : p.block < base) (u : Value) : (w.setCell p u).ownsRow base e size v n xs :=
  h.kept ⟨rfl, rfl, rfl, by simp [World.setCell], fun k _ hk => Below.heap_setCell _ _ _ _ (fun e => hk (by rw [e]))⟩ (.inr fun e => by have := (h.lt _ e).1; omega)
/-- A pending comes back whose edits lie in a row of the call's own. -/
def CopRet (p : Pnd) (w : World) (e : Ending) (w' : World) : Prop := ∃ E ec R rc, e = .returned (pndV p E ec R rc) ∧ w'.ownsRow w.heap.size 44 12 (.slice E p.edits.length ec) p.edits.length (edtK.flat p.edits) ∧ Below w.heap.size w w'
/-- .. and its records, none, in one of their own, behind it. -/
def CopRetO (p : Pnd) (w : World) (e : Ending) (w' : World) : Prop := ∃ E ec R rc m, e = .returned (pndV p E ec R rc) ∧ w'.ownsRow w.heap.size 44 12 (.slice E p.edits.length ec) p.edits.length (edtK.flat p.edits) ∧ (w.heap.size ≤ m ∧ (∀ b off, E = some ⟨b, off, none⟩ → b < m) ∧ w'.ownsRow m 55 6 (.slice R 0 rc) 0 []) ∧ Below w.heap.size w w'
set_option maxRecDepth 100000 in
set_option maxHeartbeats 3200000 in
theorem copied_own (p : Pnd) (E R : Option Addr) (ec rc : Nat) (w : World) (hE : edtK.In E p.edits w) (hn : p.edits.length ≤ 100000) :
    Calls Tryz.prog 32 #[pndV p E ec R rc] w (CopRetO p w) := by
  have HE := Lib.hid hE
  have HCE := Lib.hid (fun w h => cloneE_any p.edits E ec w h hn)
  have HCC := Lib.hid (fun w => cloneC0_own R rc w)
  clear hE
  obtain ⟨pn, pc, pt, ps, V⟩ := p
  unfold pndV pndC
  dsimp only at HE HCE hn ⊢
  go_enter Tryz.func32, Tryz.ntmps32
  go_upto_region 1 with fail
  generalize hw1 : World.alloc _ (.cells #[.int .i64 0, .string ⟨#[]⟩, .string ⟨#[]⟩, .bool false, .slice none 0 0, .slice none 0 0] 41) = w1
  have HK0 : Hid (Blk w.heap.size 41 [.int .i64 pn, .string pc, .string pt, .bool ps, .slice E V.length ec, .slice R 0 rc] w1) := by
    show Blk _ _ _ _
    rw [← hw1]
    exact (Blk.new _ _ _).alloc _
  have HK1 : Hid (Blk (w.heap.size + 1) 41 [.int .i64 0, .string ⟨#[]⟩, .string ⟨#[]⟩, .bool false, .slice none 0 0, .slice none 0 0] w1) := by
    show Blk _ _ _ _
    rw [← hw1]
    exact Blk.new1 _ _ _ _
  have HB1 : Hid (Below w.heap.size w w1) := by
    show Below _ _ _
    rw [← hw1]
    (repeat (first | (with_reducible exact Below.refl _ _) | (with_reducible assumption) | (with_reducible refine Below.setCell ?_ ?_ _; rotate_left; focus (first | exact Nat.le_refl _ | (dsimp only; omega))) | (with_reducible refine Below.drew ?_) | (with_reducible refine below_drewN ?_ _) | (with_reducible refine Below.alloc ?_ ?_ _; rotate_left; focus (first | exact Nat.le_refl _ | (simp; done) | (simp; omega)))))
  clear hw1
  have hS : w1.drew.cell? ⟨w.heap.size, 5, none⟩ = some (.slice R 0 rc) := HK0.out.cell 5
  have k4 : w1.drew.cell? ⟨w.heap.size, 4, none⟩ = some (.slice E V.length ec) := HK0.out.cell 4
  (refine wp_region_mixz (S := (fun x : World => x.cell? ⟨w.heap.size, 5, none⟩ = some (.slice R 0 rc))) [8] 9 [([0, 3, 4], 1), ([], 2), ([6], 5), ([], 7)] (by kernel_rfl) (by kernel_rfl) (by intro c a d v w h; cases d <;> exact h) hS ?_; have hN : Nonempty (Held ((fun x : World => x.cell? ⟨w.heap.size, 5, none⟩ = some (.slice R 0 rc)))) := ⟨⟨_, hS⟩⟩)
  have r5 := fun y : Held (fun x : World => x.cell? ⟨w.heap.size, 5, none⟩ = some (.slice R 0 rc)) => y.ok
  (unfold wpMixZ wpRd; (repeat (first | simp only [List.filterMap_cons] | simp only [List.filterMap_nil] | simp only [List.getElem?_toArray] | simp only [List.getElem?_cons_zero] | simp only [List.getElem?_cons_succ])); (try dsimp only); change wpQuiet _ _ _ _ (_ :: _ :: _ :: []) _; (repeat (go_big_quiet_step (fail))); refine wpQuiet_nil ?_; (try dsimp only))
  clear r5
  go_wp2_with fail
  refine ⟨hS, ?_⟩
  (unfold wpMixZ wpRd; (repeat (first | simp only [List.filterMap_cons] | simp only [List.filterMap_nil] | simp only [List.getElem?_toArray] | simp only [List.getElem?_cons_zero] | simp only [List.getElem?_cons_succ])); (try dsimp only); change wpQuiet _ _ _ _ ([]) _; (repeat (go_big_quiet_step (fail))); refine wpQuiet_nil ?_; (try dsimp only))
  go_wp2_with fail
  refine (HCE.out _ (HE.out.below HB1.out.drew)).mono ?_
  rintro e w2 ⟨v2, rfl, ho2, hb2⟩
  obtain ⟨A2, c2, rfl⟩ := own_slice ho2
  have hz2 := hb2.size
  have HO2 := Lib.hid ho2
  have HK02 := Lib.hid (HK0.out.drew.below hb2)
  have HK12 := Lib.hid (HK1.out.drew.below hb2)
  have HB2 := Lib.hid (HB1.out.drew.trans (hb2.mono HB1.out.drew.size))
  have hzz : w.heap.size + 1 < w1.drew.heap.size := HK1.out.lt
  clear hb2 ho2 hS k4 HK0 HK1
  go_wp2_with fail
  refine ⟨HK02.out.cell 5, ?_⟩
  (unfold wpMixZ wpRd; (repeat (first | simp only [List.filterMap_cons] | simp only [List.filterMap_nil] | simp only [List.getElem?_toArray] | simp only [List.getElem?_cons_zero] | simp only [List.getElem?_cons_succ])); (try dsimp only); change wpQuiet _ _ _ _ (_ :: []) _; (repeat (go_big_quiet_step (fail))); refine wpQuiet_nil ?_; (try dsimp only))
  go_wp2_with fail
  refine (HCC.out _).mono ?_
  rintro e w3 ⟨A3, c3, rfl, ho3, hb3⟩
  have HR3 := Lib.hid ho3
  have HEL : Hid (∀ b off, A2 = some ⟨b, off, none⟩ → b < w2.heap.size) := fun b off e => (HO2.out.lt b (by rw [e]; rfl)).2
  have hm2 : w.heap.size + 1 < w2.heap.size := by have := HB1.out.size; omega
  clear ho3
  have hz3 := hb3.size
  have HO3 := Lib.hid (ownsRow_below HO2.out hb3)
  have HK03 := Lib.hid (HK02.out.below hb3)
  have HK13 := Lib.hid (HK12.out.below hb3)
  have HB3 := Lib.hid (HB2.out.trans (hb3.mono HB2.out.size))
  clear hb3 HO2 HK02 HK12 HB2
  go_wp2_with fail
  refine ⟨HK03.out.cell 5, ?_⟩
  (unfold wpMixZ wpRd; (repeat (first | simp only [List.filterMap_cons] | simp only [List.filterMap_nil] | simp only [List.getElem?_toArray] | simp only [List.getElem?_cons_zero] | simp only [List.getElem?_cons_succ])); (try dsimp only); change wpQuiet _ _ _ _ ([]) _; (repeat (go_big_quiet_step (fail))); refine wpQuiet_nil ?_; (try dsimp only))
  have k4 := HK03.out.cell 4
  have f4 := HK03.out.fz 4
  go_wp2_with fail
  have HK04 := Lib.hid (HK03.out.set 4 (.slice A2 V.length c2))
  clear k4 f4
  refine ⟨HK04.out.cell 5, ?_⟩
  (unfold wpMixZ wpRd; (repeat (first | simp only [List.filterMap_cons] | simp only [List.filterMap_nil] | simp only [List.getElem?_toArray] | simp only [List.getElem?_cons_zero] | simp only [List.getElem?_cons_succ])); (try dsimp only); change wpQuiet _ _ _ _ (_ :: []) _; (repeat (go_big_quiet_step (fail))); refine wpQuiet_nil ?_; (try dsimp only))
  obtain ⟨k0, k1, k2, k3, k4, k5⟩ := HK04.out.c6
  obtain ⟨j0, j1, j2, j3, j4, j5⟩ := (HK13.out.far (p := ⟨w.heap.size, 4, none⟩) (by dsimp only; omega) (.slice A2 V.length c2)).c6
  have f5 := HK04.out.fz 5
  have g0 := (HK13.out.far (p := ⟨w.heap.size, 4, none⟩) (by dsimp only; omega) (.slice A2 V.length c2)).fz 0
  have g1 := (HK13.out.far (p := ⟨w.heap.size, 4, none⟩) (by dsimp only; omega) (.slice A2 V.length c2)).fz 1
  have g2 := (HK13.out.far (p := ⟨w.heap.size, 4, none⟩) (by dsimp only; omega) (.slice A2 V.length c2)).fz 2
  have g3 := (HK13.out.far (p := ⟨w.heap.size, 4, none⟩) (by dsimp only; omega) (.slice A2 V.length c2)).fz 3
  have g4 := (HK13.out.far (p := ⟨w.heap.size, 4, none⟩) (by dsimp only; omega) (.slice A2 V.length c2)).fz 4
  have g5 := (HK13.out.far (p := ⟨w.heap.size, 4, none⟩) (by dsimp only; omega) (.slice A2 V.length c2)).fz 5
  have HR4 := Lib.hid (own_set_below HR3.out (p := ⟨w.heap.size, 4, none⟩) (by dsimp only; omega) (.slice A2 V.length c2))
  have HO4 := Lib.hid (own_set_below HO3.out (p := ⟨w.heap.size, 4, none⟩) (by dsimp only; omega) (.slice A2 V.length c2))
  have HB4 := Lib.hid (HB3.out.setCell (p := ⟨w.heap.size, 4, none⟩) (by dsimp only; omega) (.slice A2 V.length c2))
  generalize w3.setCell ⟨w.heap.size, 4, none⟩ (.slice A2 V.length c2) = w4 at *
  have hlb : w.heap.size + 1 < w4.heap.size := (block_lt_of_cell j0 : _)
  go_wp2_with fail
  refine bodyPost_ret (v := pndV ⟨pn, pc, pt, ps, V⟩ A2 c2 A3 c3) (by simp [results, Tryz.results32, go_sem, j0, j1, j2, j3, j4, j5]; rfl) rfl ⟨A2, c2, A3, c3, w2.heap.size, rfl, ?_, ⟨by omega, HEL.out, ?_⟩, ?_⟩
  · have HO5 := HO4.out
    refine ownsRow_le (base' := w1.drew.heap.size) ?_ HB1.out.size
    (repeat (first | (with_reducible exact HO5) | (with_reducible refine own_set_below ?_ ?_ _; rotate_left; focus (dsimp only; omega))))
  · have HO5 := HR4.out
    (repeat (first | (with_reducible exact HO5) | (with_reducible refine own_set_below ?_ ?_ _; rotate_left; focus (dsimp only; omega))))
  · have HB1 := HB4.out
    (repeat (first | (with_reducible exact Below.refl _ _) | (with_reducible assumption) | (with_reducible refine Below.setCell ?_ ?_ _; rotate_left; focus (first | exact Nat.le_refl _ | (dsimp only; omega) | (simp; omega))) | (with_reducible refine Below.drew ?_) | (with_reducible refine below_drewN ?_ _) | (with_reducible refine Below.alloc ?_ ?_ _; rotate_left; focus (first | exact Nat.le_refl _ | omega | (simp; done) | (simp; omega))) | (with_reducible refine Below.trans ?_ (HB1.mono ?_); rotate_left; focus (first | exact Nat.le_refl _ | omega | (simp; done) | (simp; omega)))))
theorem copied_any (p : Pnd) (E R : Option Addr) (ec rc : Nat) (w : World) (hE : edtK.In E p.edits w) (hn : p.edits.length ≤ 100000) :
    Calls Tryz.prog 32 #[pndV p E ec R rc] w (CopRet p w) := (copied_own p E R ec rc w hE hn).mono fun _ _ ⟨E', ec', R', rc', _, h1, h2, _, h4⟩ => ⟨E', ec', R', rc', h1, h2, h4⟩
theorem insP {V : List Edt} {x : Edt} (hx : validB x.path.data.toList = true) : V.take (posP V x.path) ++ x :: V.drop (posP V x.path) = insE V x := by
  have e : posP V x.path = posE V x.path := by unfold posP; rw [if_pos hx]
  rw [e]
  rfl
set_option maxRecDepth 100000 in
set_option maxHeartbeats 3200000 in
theorem with_anyW (V : List Edt) (x : Edt) (A : Option Addr) (c : Nat) (w : World) (hA : edtK.In A V w) (hV : EPl V) (hx : validB x.path.data.toList = true ∧ x.path.size ≤ 4294967281) :
    Calls Tryz.prog 33 #[.slice A V.length c, x.val] w (RetOwn w.heap.size (insE V x) w) := by
  have HA := Lib.hid hA
  have hu := hx
  have hl := hV.len
  have HP := Lib.hid (fun w h => place_any V x.path A c w hV (by omega) h)
  have HCE := Lib.hid (fun w h => cloneE_any V A c w h (by omega))
  have HIN := Lib.hid (fun v base vb w h1 h2 h3 h4 => insE_any V base (posP V x.path) vb x w h1 (by omega) h2 v h3 (posP_le _ _) h4)
  rw [insP hx.1] at HIN
  have hle := posP_le V x.path
  clear hA hV hx hu
  generalize posP V x.path = k at *
  generalize hasE V x.path = hh at *
  generalize hL : insE V x = L at *
  clear hL
  obtain ⟨x0, hx0⟩ : ∃ x0, x0 = x := ⟨x, rfl⟩
  rw [← hx0] at HIN
  obtain ⟨xp, xa, ⟨tb, tk, te, tx⟩, ⟨cs, cz⟩, xb, xs, xm, xf⟩ := x
  unfold Edt.val Edt.cells
  dsimp only at HP ⊢
  have HXC : Hid (x0.cells = [.string xp, .int .i64 xa, .int .i64 tb, .bool tk, .bool te, .bool tx, .int .u64 cs, .int .i64 cz, .int .i64 xb, .string xs, .int .i64 xm, .int .i64 xf]) := by rw [hx0]; rfl
  clear hx0
  go_enter Tryz.func33, Tryz.ntmps33
  go_wp2_with fail
  refine (HP.out _ (HA.out.below (by (repeat (first | (with_reducible exact Below.refl _ _) | (with_reducible assumption) | (with_reducible refine Below.setCell ?_ ?_ _; rotate_left; focus (first | exact Nat.le_refl _ | (dsimp only; omega))) | (with_reducible refine Below.drew ?_) | (with_reducible refine below_drewN ?_ _) | (with_reducible refine Below.alloc ?_ ?_ _; rotate_left; focus (first | exact Nat.le_refl _ | (simp; done) | (simp; omega)))))))).mono ?_
  rintro e w1 ⟨rfl, hb1⟩
  have hz1 := hb1.size
  simp at hz1
  have HK1 : Hid (Blk w.heap.size 44 [.string xp, .int .i64 xa, .int .i64 tb, .bool tk, .bool te, .bool tx, .int .u64 cs, .int .i64 cz, .int .i64 xb, .string xs, .int .i64 xm, .int .i64 xf] w1) := (Blk.new _ _ _).below hb1
  have HB1 : Hid (Below w.heap.size w w1) := by
    have HB1 := hb1
    show Below _ _ _
    (repeat (first | (with_reducible exact Below.refl _ _) | (with_reducible assumption) | (with_reducible refine Below.setCell ?_ ?_ _; rotate_left; focus (first | exact Nat.le_refl _ | (dsimp only; omega) | (simp; omega))) | (with_reducible refine Below.drew ?_) | (with_reducible refine below_drewN ?_ _) | (with_reducible refine Below.alloc ?_ ?_ _; rotate_left; focus (first | exact Nat.le_refl _ | omega | (simp; done) | (simp; omega))) | (with_reducible refine Below.trans ?_ (HB1.mono ?_); rotate_left; focus (first | exact Nat.le_refl _ | omega | (simp; done) | (simp; omega)))))
  clear hb1
  go_wp2_with fail
  have hS : Blk w.heap.size 44 [.string xp, .int .i64 xa, .int .i64 tb, .bool tk, .bool te, .bool tx, .int .u64 cs, .int .i64 cz, .int .i64 xb, .string xs, .int .i64 xm, .int .i64 xf] w1.drew := HK1.out
  have HA1 : Hid (edtK.In A V w1.drew) := HA.out.below HB1.out.drew
  have HB1d : Hid (Below w.heap.size w w1.drew) := HB1.out.drew
  have hz1d : w.heap.size + 1 ≤ w1.drew.heap.size := hz1
  (refine wp_region_mixf (S := Blk w.heap.size 44 [.string xp, .int .i64 xa, .int .i64 tb, .bool tk, .bool te, .bool tx, .int .u64 cs, .int .i64 cz, .int .i64 xb, .string xs, .int .i64 xm, .int .i64 xf]) [6] [] [] 5 4 [([0, 2, 3], 1)] (by kernel_rfl) (by kernel_rfl) (by intro c a d v w h; cases d <;> exact h) hS ?_; have hN : Nonempty (Held (Blk w.heap.size 44 [.string xp, .int .i64 xa, .int .i64 tb, .bool tk, .bool te, .bool tx, .int .u64 cs, .int .i64 cz, .int .i64 xb, .string xs, .int .i64 xm, .int .i64 xf])) := ⟨⟨_, hS⟩⟩)
  obtain ⟨q0, q1, q2, q3, q4, q5, q6, q7, q8, q9, q10, q11⟩ := fun_and12 (fun y : Held (Blk w.heap.size 44 [.string xp, .int .i64 xa, .int .i64 tb, .bool tk, .bool te, .bool tx, .int .u64 cs, .int .i64 cz, .int .i64 xb, .string xs, .int .i64 xm, .int .i64 xf]) => y.ok.c12)
  (unfold wpMixF wpRd; (repeat (first | simp only [List.filterMap_cons] | simp only [List.filterMap_nil] | simp only [List.getElem?_toArray] | simp only [List.getElem?_cons_zero] | simp only [List.getElem?_cons_succ])); (try dsimp only); change wpQuiet _ _ _ _ (_ :: _ :: _ :: []) _; (repeat (go_big_quiet_step (fail))); refine wpQuiet_nil ?_; (try dsimp only))
  clear q0 q1 q2 q3 q4 q5 q6 q7 q8 q9 q10 q11
  generalize hwd : w1.drew = w2 at *
  clear hwd HK1 HB1 hz1 w1 HA HP
  refine ⟨?_, ?_⟩
  · (unfold wpAct; (repeat (first | simp only [List.getElem?_toArray] | simp only [List.getElem?_cons_zero] | simp only [List.getElem?_cons_succ])); (try dsimp only))
    go_wp2_with fail
    refine (HCE.out _ HA1.out).mono ?_
    rintro e w3 ⟨v3, rfl, ho3, hb3⟩
    have HO3 := Lib.hid ho3
    have HB3 := Lib.hid (HB1d.out.trans (hb3.mono HB1d.out.size))
    have hS3 := hS.below hb3
    have hz3 := hb3.size
    clear hb3 ho3 hS
    go_wp2_with fail
    refine ⟨hS3, ?_⟩
    (unfold wpMixF wpRd; (repeat (first | simp only [List.filterMap_cons] | simp only [List.filterMap_nil] | simp only [List.getElem?_toArray] | simp only [List.getElem?_cons_zero] | simp only [List.getElem?_cons_succ])); (try dsimp only); change wpQuiet _ _ _ _ ([]) _; (repeat (go_big_quiet_step (fail))); refine wpQuiet_nil ?_; (try dsimp only))
    (unfold wpAct; (repeat (first | simp only [List.getElem?_toArray] | simp only [List.getElem?_cons_zero] | simp only [List.getElem?_cons_succ])); (try dsimp only))
    go_wp2_with fail
    rw [← HXC.out]
    have HH4 : Hid ((w3.alloc (.cells x0.cells.toArray 44)).heap[w3.heap.size]? = some (.cells x0.cells.toArray 44 (0, 0))) := heap_alloc_new w3 _
    have hS4 := hS3.alloc (.cells x0.cells.toArray 44)
    have HO4 := Lib.hid (HO3.out.alloc (.cells x0.cells.toArray 44))
    have HB4 := Lib.hid (HB3.out.alloc (by omega) (.cells x0.cells.toArray 44))
    have HNE : Hid (∀ k, v3.ownBlock = some k → k ≠ w3.heap.size) := fun k hk => by have := (HO3.out.lt k hk).2; omega
    generalize hw4 : w3.alloc (.cells x0.cells.toArray 44) = w4 at *
    have hz4 : w3.heap.size ≤ w4.heap.size := by rw [← hw4]; simp
    clear hw4 hS3 HO3 HB3
    rw [← HXC.out] at hS4
    refine ⟨hS4, ?_⟩
    (unfold wpMix wpRd; (repeat (first | simp only [List.filterMap_cons] | simp only [List.filterMap_nil] | simp only [List.getElem?_toArray] | simp only [List.getElem?_cons_zero] | simp only [List.getElem?_cons_succ])); (try dsimp only); change wpQuiet _ _ _ _ ([]) _; (repeat (go_big_quiet_step (fail))); refine wpQuiet_nil ?_; (try dsimp only))
    ((repeat (first | simp only [List.getElem?_toArray] | simp only [List.getElem?_cons_zero] | simp only [List.getElem?_cons_succ])); (try dsimp only))
    go_wp2_with fail
    refine (HIN.out v3 w2.heap.size w3.heap.size w4 (by omega) HH4.out HO4.out HNE.out).mono ?_
    rintro e w5 ⟨v5, rfl, ho5, hb5⟩
    have HO5 := Lib.hid (ownsRow_le ho5 HB1d.out.size)
    have HB5 := Lib.hid (HB4.out.trans (hb5.mono HB1d.out.size))
    have hS5 := hS4.of (hb5.block _ (by omega))
    clear ho5 hb5
    go_wp2_with fail
    refine ⟨hS5, ?_⟩
    (unfold wpMix wpRd; (repeat (first | simp only [List.filterMap_cons] | simp only [List.filterMap_nil] | simp only [List.getElem?_toArray] | simp only [List.getElem?_cons_zero] | simp only [List.getElem?_cons_succ])); (try dsimp only); change wpQuiet _ _ _ _ (_ :: []) _; (repeat (go_big_quiet_step (fail))); refine wpQuiet_nil ?_; (try dsimp only))
    go_wp2_with fail
    go_ret
    exact ⟨v5, rfl, HO5.out, HB5.out⟩
  · (unfold wpAct; (repeat (first | simp only [List.getElem?_toArray] | simp only [List.getElem?_cons_zero] | simp only [List.getElem?_cons_succ])); (try dsimp only))
    go_wp2_with fail
    rw [← HXC.out]
    have HH3 : Hid ((w2.alloc (.cells x0.cells.toArray 44)).heap[w2.heap.size]? = some (.cells x0.cells.toArray 44 (0, 0))) := heap_alloc_new w2 _
    have hS3 := hS.alloc (.cells x0.cells.toArray 44)
    have HA3 : Hid (edtK.In A V (w2.alloc (.cells x0.cells.toArray 44))) := HA1.out.below ((Below.refl _ _).alloc (Nat.le_refl _) _)
    have HB3 := Lib.hid (HB1d.out.alloc (by omega) (.cells x0.cells.toArray 44))
    have hz3 : (w2.alloc (.cells x0.cells.toArray 44)).heap.size = w2.heap.size + 1 := by simp
    generalize hw3 : w2.alloc (.cells x0.cells.toArray 44) = w3 at *
    clear hw3
    rw [← HXC.out] at hS3
    refine ⟨hS3, ?_⟩
    (unfold wpMix wpRd; (repeat (first | simp only [List.filterMap_cons] | simp only [List.filterMap_nil] | simp only [List.getElem?_toArray] | simp only [List.getElem?_cons_zero] | simp only [List.getElem?_cons_succ])); (try dsimp only); change wpQuiet _ _ _ _ ([]) _; (repeat (go_big_quiet_step (fail))); refine wpQuiet_nil ?_; (try dsimp only))
    ((repeat (first | simp only [List.getElem?_toArray] | simp only [List.getElem?_cons_zero] | simp only [List.getElem?_cons_succ])); (try dsimp only))
    go_wp2_with fail
    refine (HCE.out _ HA3.out).mono ?_
    rintro e w4 ⟨v4, rfl, ho4, hb4⟩
    have HO4 := Lib.hid ho4
    have HB4 := Lib.hid (HB3.out.trans (hb4.mono HB3.out.size))
    have hS4 := hS3.below hb4
    have HH4 : Hid (w4.heap[w2.heap.size]? = some (.cells x0.cells.toArray 44 (0, 0))) := (hb4.block _ (by omega)).trans HH3.out
    have HNE : Hid (∀ k, v4.ownBlock = some k → k ≠ w2.heap.size) := fun k hk => by have := (HO4.out.lt k hk).1; omega
    have hz4 := hb4.size
    clear hb4 ho4 hS3
    go_wp2_with fail
    refine ⟨hS4, ?_⟩
    (unfold wpMix wpRd; (repeat (first | simp only [List.filterMap_cons] | simp only [List.filterMap_nil] | simp only [List.getElem?_toArray] | simp only [List.getElem?_cons_zero] | simp only [List.getElem?_cons_succ])); (try dsimp only); change wpQuiet _ _ _ _ ([]) _; (repeat (go_big_quiet_step (fail))); refine wpQuiet_nil ?_; (try dsimp only))
    ((repeat (first | simp only [List.getElem?_toArray] | simp only [List.getElem?_cons_zero] | simp only [List.getElem?_cons_succ])); (try dsimp only))
    go_wp2_with fail
    refine (HIN.out v4 w3.heap.size w2.heap.size w4 (by omega) HH4.out HO4.out HNE.out).mono ?_
    rintro e w5 ⟨v5, rfl, ho5, hb5⟩
    have HO5 := Lib.hid (ownsRow_le ho5 (show w.heap.size ≤ w3.heap.size by omega))
    have HB5 := Lib.hid (HB4.out.trans (hb5.mono (show w.heap.size ≤ w3.heap.size by omega)))
    have hS5 := hS4.of (hb5.block _ (by omega))
    clear ho5 hb5
    go_wp2_with fail
    refine ⟨hS5, ?_⟩
    (unfold wpMix wpRd; (repeat (first | simp only [List.filterMap_cons] | simp only [List.filterMap_nil] | simp only [List.getElem?_toArray] | simp only [List.getElem?_cons_zero] | simp only [List.getElem?_cons_succ])); (try dsimp only); change wpQuiet _ _ _ _ (_ :: []) _; (repeat (go_big_quiet_step (fail))); refine wpQuiet_nil ?_; (try dsimp only))
    go_wp2_with fail
    go_ret
    exact ⟨v5, rfl, HO5.out, HB5.out⟩
set_option maxHeartbeats 800000 in
theorem into0_any (p : Pnd) (x : Edt) (E R : Option Addr) (ec rc : Nat) (w : World) :
    Calls Tryz.prog 76 #[pndV p E ec R rc, x.val] w fun e w' => e = .returned (.slice none 0 0) ∧ Below w.heap.size w w' := by
  obtain ⟨xp, xa, ⟨tb, tk, te, tx⟩, ⟨cs, cz⟩, xb, xs, xm, xf⟩ := x
  unfold pndV pndC Edt.val Edt.cells
  dsimp only
  go_enter Tryz.func76, Tryz.ntmps76
  go_wp2_with fail
  go_loopw [5, 11] (fun s i wr => s = .slice none 0 0 ∧ i = .int .i64 0 ∧ Below w.heap.size w wr) (fun _ _ _ => 0)
  case atStart => exact ⟨rfl, rfl, by (repeat (first | (with_reducible exact Below.refl _ _) | (with_reducible assumption) | (with_reducible refine Below.setCell ?_ ?_ _; rotate_left; focus (first | exact Nat.le_refl _ | (dsimp only; omega))) | (with_reducible refine Below.drew ?_) | (with_reducible refine below_drewN ?_ _) | (with_reducible refine Below.alloc ?_ ?_ _; rotate_left; focus (first | exact Nat.le_refl _ | (simp; done) | (simp; omega)))))⟩
  case round =>
    obtain ⟨rfl, rfl, hB⟩ := hrel
    have HB := Lib.hid hB
    clear hB
    go_wp2_with fail
    go_ret
    exact ⟨rfl, HB.out⟩
theorem with_any (V : List Edt) (x : Edt) (A : Option Addr) (c : Nat) (w : World) (hA : edtK.In A V w) (hV : EPl V) (hx : useB x.path = true) :
    Calls Tryz.prog 33 #[.slice A V.length c, x.val] w (RetOwn w.heap.size (insE V x) w) := with_anyW V x A c w hA hV (use_wide hx)
end Go.Proofs.YtocffknoeknabaaGreatDoor
