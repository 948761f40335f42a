/-
  Append of the journal.
-/
import Derived.Test.YthjbaafbkalomaaCarry
namespace Go.Proofs.Ythjbaafbkalomaa
open Go.RowKit

def jappI (J : Jrn) (r : List UInt8) : Int := if J.dead then 313 else if 65536 < r.length then 310 else if 4096 ≤ J.recs.length + J.pend.length then 311 else if 1048576 < J.bytes + r.length then 311 else 0
def jappJ (J : Jrn) (r : List UInt8) : Jrn := if jappI J r = 0 then { J with pend := J.pend ++ [r], bytes := J.bytes + r.length } else J
def JP (j d : Nat) (g : Gh) (w : World) (J : Jrn) (w' : World) : Prop := ∃ g', Ext (· = j) g w g' w' ∧ JAt g' w' j d J
theorem JP.drew {j d : Nat} {g : Gh} {w : World} {J : Jrn} (h : JAt g w j d J) (n : Nat) : JP j d g w J (w.drewN n) := ⟨g, (Ext.refl _ _ _).drewN n, h.ext (M := fun _ => False) ((Ext.refl _ _ _).drewN n) (fun h => h)⟩

/-- The pending records grow. -/
theorem JIn.pushed {g g3 : Gh} {w w3 : World} {j : Nat} {A1 A2 A3 : Option Addr} {c1 c2 c3 m : Nat} {v1 v2 nv : List Value} {J : Jrn} {rs : List (List UInt8)} (h : JIn g w j A1 c1 v1 A2 c2 v2 J) (hj : j < w.heap.size) (hx : Ext (· = j) g w g3 w3) (ha : App 37 1 j g3 w3 A3 (J.pend.length + m) c3 (v2 ++ nv)) (hl : Lies g w A2 J.pend.length c2 g3 w3 A3 c3) (hq : RecsR g w nv rs) (hm : rs.length = m) (b : Int) :
    JIn g3 w3 j A1 c1 v1 A3 c3 (v2 ++ nv) { J with pend := J.pend ++ rs, bytes := b } ∧ w3.heap[j]? = w.heap[j]? := by
  have hjf := hl.far j hj (fun hlt off he => h.r2.not_self h.F (by decide) hlt he rfl)
  refine ⟨⟨h.r1.ext' hx (fun b off hA hb hlt => hl.far b hb (fun hlt2 off2 he => h.ne hlt hlt2 _ _ _ _ hA he rfl)), h.q1.ext hx, ?_, (h.q2.append hq).ext hx, ?_, (hx.own j hj).trans h.O, hjf.2.trans h.F⟩, hjf.1⟩
  · rw [List.length_append, hm]; exact ha
  · intro h1 h2 b off b' off' e1 e2 e
    dsimp only at h2
    rw [List.length_append, hm] at h2
    rcases hl.at_ with ⟨e3, e4⟩ | ⟨b2, e3, e4, _⟩
    · exact h.ne h1 (by omega) _ _ _ _ e1 (e3 ▸ e2) e
    · rw [e3] at e2; injection e2 with e2; injection e2 with e2 _
      obtain ⟨_, b3, cs, f1, _, _, f4, _⟩ := h.r1.sp h1
      rw [e1] at f1; injection f1 with f1; injection f1 with f1 _
      have := block_lt f4
      omega

set_option maxRecDepth 100000 in
set_option maxHeartbeats 1600000 in
theorem japp_any (j d : Nat) (g : Gh) (w : World) (J : Jrn) (hJ : JAt g w j d J) (A : Option Addr) (c : Nat) (r : List UInt8) (hr : BytesAt g w (.slice A r.length c) r) (hrl : r.length ≤ 100000000) (hb0 : 0 ≤ J.bytes) (hb1 : J.bytes ≤ 1000000000) (hn1 : J.recs.length ≤ 1000000) (hn2 : J.pend.length ≤ 1000000) :
    Calls Try.prog 9 #[.pointer (some ⟨j, 0, none⟩), .slice A r.length c] w fun e w' => e = .returned (.int .i64 (jappI J r)) ∧ JP j d g w (jappJ J r) w' := by
  obtain ⟨A1, c1, v1, A2, c2, v2, hb, hi⟩ := hJ
  have HJ : Hid (JAt g w j d J) := ⟨A1, c1, v1, A2, c2, v2, hb, hi⟩
  have c7 : w.cell? ⟨j, 7, none⟩ = some (.bool J.dead) := hb.cell 7
  have c3 : w.cell? ⟨j, 3, none⟩ = some (.slice A1 J.recs.length c1) := hb.cell 3
  have c4 : w.cell? ⟨j, 4, none⟩ = some (.slice A2 J.pend.length c2) := hb.cell 4
  have c5 : w.cell? ⟨j, 5, none⟩ = some (.int .i64 J.bytes) := hb.cell 5
  have HB := Lib.hid hb
  have HI := Lib.hid hi
  have HR := Lib.hid hr
  clear hb hi hr
  obtain ⟨i0, hi0, hz0, hz1, hz2⟩ := info_parts Try.infoBytes
  have hS : (fun x => ∃ n, x = w.drewN n) w.drew := ⟨1, rfl⟩
  by_cases h1 : J.dead = true
  · have HE : Hid (jappI J r = 313) := by simp [Hid, jappI, h1]
    have HJJ : Hid (jappJ J r = J) := by simp [Hid, jappJ, HE.out]
    rw [h1] at c7
    go_enter Try.func9, Try.ntmps9
    go_wp2_with fail
    go_ret
    exact ⟨ret_int HE.out.symm, by rw [HJJ.out]; exact JP.drew HJ.out 0⟩
  have h1 : J.dead = false := by simpa using h1
  rw [h1] at c7
  by_cases h2 : 65536 < r.length
  · have HE : Hid (jappI J r = 310) := by simp [Hid, jappI, h1, h2]
    have HJJ : Hid (jappJ J r = J) := by simp [Hid, jappJ, HE.out]
    go_enter Try.func9, Try.ntmps9
    go_wp2_with fail
    go_ret
    exact ⟨ret_int HE.out.symm, by rw [HJJ.out]; exact JP.drew HJ.out 0⟩
  by_cases h3 : 4096 ≤ J.recs.length + J.pend.length
  · have h3' : decide ((4096 : Int) ≤ (J.recs.length : Int) + (J.pend.length : Int)) = true := by simp; omega
    have HE : Hid (jappI J r = 311) := by simp [Hid, jappI, h1, h2, h3]
    have HJJ : Hid (jappJ J r = J) := by simp [Hid, jappJ, HE.out]
    go_enter Try.func9, Try.ntmps9
    go_wp2_with fail
    (refine wp_region_s (S := fun x => ∃ n, x = w.drewN n) (by kernel_rfl) (by kernel_rfl) hS ?_; have hN : Nonempty (Held (fun x => ∃ n, x = w.drewN n)) := ⟨⟨_, hS⟩⟩; (have r3 : ∀ y : Held (fun x => ∃ n, x = w.drewN n), y.w.cell? ⟨j, 3, none⟩ = some (.slice A1 J.recs.length c1) := fun y => (by obtain ⟨n, hn⟩ := y.ok; rw [hn]; exact c3); have r4 : ∀ y : Held (fun x => ∃ n, x = w.drewN n), y.w.cell? ⟨j, 4, none⟩ = some (.slice A2 J.pend.length c2) := fun y => (by obtain ⟨n, hn⟩ := y.ok; rw [hn]; exact c4); have r5 : ∀ y : Held (fun x => ∃ n, x = w.drewN n), y.w.cell? ⟨j, 5, none⟩ = some (.int .i64 J.bytes) := fun y => (by obtain ⟨n, hn⟩ := y.ok; rw [hn]; exact c5)); (repeat (go_big_quiet_step (fail))); refine wpQuiet_nil ?_; rintro _ ⟨⟨x, hx⟩, rfl⟩; clear hN)
    clear r3 r4 r5
    obtain ⟨nq, rfl⟩ := hx
    go_wp2_with fail
    go_ret
    exact ⟨ret_int HE.out.symm, by rw [HJJ.out]; exact JP.drew HJ.out nq⟩
  have h3' : decide ((4096 : Int) ≤ (J.recs.length : Int) + (J.pend.length : Int)) = false := by simp; omega
  by_cases h4 : 1048576 < J.bytes + r.length
  · have HE : Hid (jappI J r = 311) := by simp [Hid, jappI, h1, h2, h3, h4]
    have HJJ : Hid (jappJ J r = J) := by simp [Hid, jappJ, HE.out]
    go_enter Try.func9, Try.ntmps9
    go_wp2_with fail
    (refine wp_region_s (S := fun x => ∃ n, x = w.drewN n) (by kernel_rfl) (by kernel_rfl) hS ?_; have hN : Nonempty (Held (fun x => ∃ n, x = w.drewN n)) := ⟨⟨_, hS⟩⟩; (have r3 : ∀ y : Held (fun x => ∃ n, x = w.drewN n), y.w.cell? ⟨j, 3, none⟩ = some (.slice A1 J.recs.length c1) := fun y => (by obtain ⟨n, hn⟩ := y.ok; rw [hn]; exact c3); have r4 : ∀ y : Held (fun x => ∃ n, x = w.drewN n), y.w.cell? ⟨j, 4, none⟩ = some (.slice A2 J.pend.length c2) := fun y => (by obtain ⟨n, hn⟩ := y.ok; rw [hn]; exact c4); have r5 : ∀ y : Held (fun x => ∃ n, x = w.drewN n), y.w.cell? ⟨j, 5, none⟩ = some (.int .i64 J.bytes) := fun y => (by obtain ⟨n, hn⟩ := y.ok; rw [hn]; exact c5)); (repeat (go_big_quiet_step (fail))); refine wpQuiet_nil ?_; rintro _ ⟨⟨x, hx⟩, rfl⟩; clear hN)
    clear r3 r4 r5
    obtain ⟨nq, rfl⟩ := hx
    go_wp2_with fail
    go_ret
    exact ⟨ret_int HE.out.symm, by rw [HJJ.out]; exact JP.drew HJ.out nq⟩
  have HE : Hid (jappI J r = 0) := by simp [Hid, jappI, h1, h2, h3, h4]
  have HJJ : Hid (jappJ J r = { J with pend := J.pend ++ [r], bytes := J.bytes + r.length }) := by simp [Hid, jappJ, HE.out]
  go_enter Try.func9, Try.ntmps9
  go_wp2_with fail
  (refine wp_region_s (S := fun x => ∃ n, x = w.drewN n) (by kernel_rfl) (by kernel_rfl) hS ?_; have hN : Nonempty (Held (fun x => ∃ n, x = w.drewN n)) := ⟨⟨_, hS⟩⟩; (have r3 : ∀ y : Held (fun x => ∃ n, x = w.drewN n), y.w.cell? ⟨j, 3, none⟩ = some (.slice A1 J.recs.length c1) := fun y => (by obtain ⟨n, hn⟩ := y.ok; rw [hn]; exact c3); have r4 : ∀ y : Held (fun x => ∃ n, x = w.drewN n), y.w.cell? ⟨j, 4, none⟩ = some (.slice A2 J.pend.length c2) := fun y => (by obtain ⟨n, hn⟩ := y.ok; rw [hn]; exact c4); have r5 : ∀ y : Held (fun x => ∃ n, x = w.drewN n), y.w.cell? ⟨j, 5, none⟩ = some (.int .i64 J.bytes) := fun y => (by obtain ⟨n, hn⟩ := y.ok; rw [hn]; exact c5)); (repeat (go_big_quiet_step (fail))); refine wpQuiet_nil ?_; rintro _ ⟨⟨x, hx⟩, rfl⟩; clear hN)
  clear r3 r4 r5
  obtain ⟨nq, rfl⟩ := hx
  go_wp2_with fail
  have hSB : Blk j 66 (jCs d A1 c1 A2 c2 J) (w.drewN nq).drew := HB.out
  clear hS
  have hS := hSB
  have hxq : Ext (fun _ => False) g w g (w.drewN nq).drew := ((Ext.refl _ _ _).drewN nq).drew
  obtain ⟨_, hrz, hrr⟩ := (HR.out.ext hxq).rd
  have HRR := Lib.hid hrr
  have HRZ := Lib.hid hrz
  have HXQ := Lib.hid hxq
  clear hrr hrz hxq c3 c4 c5 c7 h1 h3' hSB
  (refine wp_region_mixz (S := Blk j 66 (jCs d A1 c1 A2 c2 J)) [9, 10] 11 [([0, 1, 2, 3, 4, 5], 6), ([], 7), ([], 8)] (by kernel_rfl) (by kernel_rfl) (by intro c a d v w h; cases d <;> exact h) hS ?_; have hN : Nonempty (Held (Blk j 66 (jCs d A1 c1 A2 c2 J))) := ⟨⟨_, hS⟩⟩)
  have r4 : ∀ y : Held (Blk j 66 (jCs d A1 c1 A2 c2 J)), y.w.cell? ⟨j, 4, none⟩ = some (.slice A2 J.pend.length c2) := fun y => y.ok.cell 4
  (unfold wpMixZ wpRd; (repeat (first | simp only [List.filterMap_cons] | simp only [List.filterMap_nil] | simp only [List.getElem?_toArray] | simp only [List.getElem?_cons_zero] | simp only [List.getElem?_cons_succ])); (try dsimp only); change wpQuiet _ _ _ _ (_ :: _ :: _ :: _ :: _ :: _ :: []) _; (repeat (go_big_quiet_step (fail))); refine wpQuiet_nil ?_; (try dsimp only))
  clear r4
  go_wp2_with fail
  refine (cloneB_any j g A r.length c (bv r) _ HRR.out HRZ.out (bv_one r) (by omega)).mono ?_
  rintro e w2 ⟨A', cap', g2, rfl, hb2, hF2, hO2, ha2, _, _⟩
  have hx2 : Ext (fun _ => False) g _ g2 w2 := (Ext.of_below (fun _ => False) g hb2).up hF2 hO2
  have hxx := HXQ.out.trans hx2
  have hS2 := hS.below hb2
  have hbat := BytesAt.of_new ha2
  have hal : Ext (fun _ => False) g2 w2 g2 (w2.alloc (.cells #[.slice A' r.length cap'] 37)) := (Ext.refl _ _ _).alloc _
  have HX3 := Lib.hid (hxx.trans hal)
  have HI3 := Lib.hid ((HI.out.ext hxx (fun h => h) HB.out.lt).ext hal (fun h => h) hS2.lt)
  have HB3 := Lib.hid (hbat.ext hal)
  have HSRC : Hid (Src Try.prog 1 33 (.slice (some ⟨w2.heap.size, 0, none⟩) 1 1) 1 [.slice A' r.length cap'] (w2.alloc (.cells #[.slice A' r.length cap'] 37))) :=
    Src.ofSlice _ Try.underlying33 _ 1 1 _ rfl (fun j u hu => by
      have hh : (w2.alloc (.cells #[.slice A' r.length cap'] 37)).heap[w2.heap.size]? = some (.cells #[.slice A' r.length cap'] 37 (0, 0)) := heap_alloc_new w2 _
      rw [add_lit, Nat.zero_add, cell_at hh]
      simpa using hu) (by simp [Value.oneCell'])
  have HS3 : Hid (Blk j 66 (jCs d A1 c1 A2 c2 J) (w2.alloc (.cells #[.slice A' r.length cap'] 37))) := hS2.alloc _
  clear hx2 hxx hF2 hO2 ha2 hb2 hbat hal hS
  go_wp2_with fail
  refine ⟨hS2, ?_⟩
  (unfold wpMixZ wpRd; (repeat (first | simp only [List.filterMap_cons] | simp only [List.filterMap_nil] | simp only [List.getElem?_toArray] | simp only [List.getElem?_cons_zero] | simp only [List.getElem?_cons_succ])); (try dsimp only); change wpQuiet _ _ _ _ ([]) _; (repeat (go_big_quiet_step (fail))); refine wpQuiet_nil ?_; (try dsimp only))
  go_wp2_with fail
  refine ⟨HS3.out, ?_⟩
  (unfold wpMixZ wpRd; (repeat (first | simp only [List.filterMap_cons] | simp only [List.filterMap_nil] | simp only [List.getElem?_toArray] | simp only [List.getElem?_cons_zero] | simp only [List.getElem?_cons_succ])); (try dsimp only); change wpQuiet _ _ _ _ ([]) _; (repeat (go_big_quiet_step (fail))); refine wpQuiet_nil ?_; (try dsimp only))
  refine wpList_append_app rfl _ _ _ _ rfl 37 i0 (.slice none 0 0) 1 24 Try.underlying33 hi0 hz0 hz1 hz2 rfl (by decide) rfl HI3.out.r2 rfl HSRC.out (by unfold maxLen; omega) (by omega) ?_
  intro A3 c3 w3 g3 hx3 ha3 hl3
  obtain ⟨hi3, hb3⟩ := HI3.out.pushed HS3.out.lt hx3 ha3 hl3 (rs := [r]) ⟨HB3.out, trivial⟩ rfl (J.bytes + r.length)
  have hS4 : Blk j 66 (jCs d A1 c1 A2 c2 J) w3 := HS3.out.of hb3
  have HI4 := Lib.hid hi3
  have HX4 := Lib.hid ((HX3.out.imp (fun _ h => h.elim)).trans hx3)
  have HS4 := Lib.hid hS4
  clear hx3 ha3 hl3 hi3 hb3 HI3
  refine ⟨hS4, ?_⟩
  have c4 : w3.cell? ⟨j, 4, none⟩ = some (.slice A2 J.pend.length c2) := hS4.cell 4
  have z4 := hS4.fz
  have c5 : w3.cell? ⟨j, 5, none⟩ = some (.int .i64 J.bytes) := hS4.cell 5
  clear hS4
  go_frame
  (unfold wpMixZ wpRd; (repeat (first | simp only [List.filterMap_cons] | simp only [List.filterMap_nil] | simp only [List.getElem?_toArray] | simp only [List.getElem?_cons_zero] | simp only [List.getElem?_cons_succ])); (try dsimp only); change wpQuiet _ _ _ _ (_ :: _ :: []) _; (repeat (go_big_quiet_step (fail))); refine wpQuiet_nil ?_; (try dsimp only))
  clear hN
  go_wp2_with fail
  go_ret
  refine ⟨ret_int HE.out.symm, ?_⟩
  rw [HJJ.out]
  obtain ⟨hx5, hi5⟩ := HI4.out.self (grownBy_setCell w3 ⟨j, 4, none⟩ (.slice A3 (J.pend.length + 1) c3))
  obtain ⟨hx6, hi6⟩ := hi5.self (grownBy_setCell _ ⟨j, 5, none⟩ (.int .i64 (J.bytes + r.length)))
  refine ⟨g3, (HX4.out.trans hx5).trans hx6, A1, c1, v1, A3, c3, _, ?_, hi6⟩
  have := (HS4.out.set 4 (.slice A3 (J.pend.length + 1) c3)).set 5 (.int .i64 (J.bytes + r.length))
  simpa [jCs] using this

end Go.Proofs.Ythjbaafbkalomaa
