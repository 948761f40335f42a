/-
  A slot is written; newest where the device is down.
-/
import Derived.Test.YtcjkllmellampaaDoorCkS
namespace Go.Proofs.YtcjkllmellampaaDoor
open Go.RowKit

set_option maxRecDepth 100000 in
set_option maxHeartbeats 6400000 in
theorem newest_down (s d : Nat) (g : Gh) (w : World) (D : Dev) (name : ByteArray) (hD : DevAt g w d D) (hdn : D.down = true) (hnm : nmB false 40 name = true)
    (hB : Blk s 83 (sCs d name 0 none none (.slice none 0 0) (.slice none 0 0)) w) (hO : g.O s = s) (hF : g.F s = 0) :
    Calls Tryd.prog 38 #[.pointer (some ⟨s, 0, none⟩)] w fun e w' => ∃ g', e = .returned (.tuple #[.agg #[.bool false, .int .i64 0, .int .i64 0], .int .i64 0]) ∧ Ext (· = s) g w g' w' ∧ Blk s 83 (sCs d name 303 none none (.slice none 0 0) (.slice none 0 0)) w' := by
  have hns := nm_size hnm
  have hxb : Ext (fun _ => False) g w (g.box w.heap.size) (w.alloc (.cells #[.bool false, .int .i64 0, .int .i64 0] 79)) := Ext.box _ g w _
  have hBS : Blk s 83 (sCs d name 0 none none (.slice none 0 0) (.slice none 0 0)) (w.alloc (.cells #[.bool false, .int .i64 0, .int .i64 0] 79)) := hB.alloc _
  have HZS : Hid (Blk w.heap.size 79 [.bool false, .int .i64 0, .int .i64 0] (w.alloc (.cells #[.bool false, .int .i64 0, .int .i64 0] 79))) := Blk.new w 79 [.bool false, .int .i64 0, .int .i64 0]
  have hFS : (g.box w.heap.size).F w.heap.size = 0 := g.box_F _
  have HDB := Lib.hid (hD.ext hxb (fun h => h))
  have HXB := Lib.hid hxb
  have hsl := hB.lt
  have hOS := (hxb.own s hsl).trans hO
  have hFS' := hxb.zero s hsl hF
  have HB := Lib.hid hBS
  clear hB hxb hBS
  generalize g.box w.heap.size = gb at *
  have hS : Blk s 83 (sCs d name 0 none none (.slice none 0 0) (.slice none 0 0)) (w.alloc (.cells #[.bool false, .int .i64 0, .int .i64 0] 79)).drew := HB.out
  have q1 : (w.alloc (.cells #[.bool false, .int .i64 0, .int .i64 0] 79)).drew.cell? ⟨s, 1, none⟩ = some (.string name) := HB.out.cell 1
  go_enter Tryd.func38, Tryd.ntmps38
  go_wp2_with fail
  refine wp_loop_rounds 1 ?_
  rw [rounds_succ]
  go_wp2_with fail
  (refine wp_region_mix (S := Blk s 83 (sCs d name 0 none none (.slice none 0 0) (.slice none 0 0))) [8, 9, 10, 11, 12] [([0, 1, 2, 3, 4, 5], 6), ([], 7)] (by kernel_rfl) (by kernel_rfl) (by intro c a d v w h; cases d <;> exact h) hS ?_; have hN : Nonempty (Held (Blk s 83 (sCs d name 0 none none (.slice none 0 0) (.slice none 0 0)))) := ⟨⟨_, hS⟩⟩)
  have r0 : ∀ y : Held (Blk s 83 (sCs d name 0 none none (.slice none 0 0) (.slice none 0 0))), y.w.cell? ⟨s, 0, none⟩ = some (.pointer (some ⟨d, 0, none⟩)) := fun y => y.ok.cell 0
  (unfold wpMix wpRd; (repeat (first | simp only [List.filterMap_cons] | simp only [List.filterMap_nil] | simp only [List.getElem?_toArray] | simp only [List.getElem?_cons_zero] | simp only [List.getElem?_cons_succ])); (try dsimp only); change wpQuiet _ _ _ _ (_ :: _ :: _ :: _ :: _ :: _ :: []) _; (repeat (go_big_quiet_step (fail))); refine wpQuiet_nil ?_; (try dsimp only))
  go_wp2_with fail
  refine (file_any s 0 _ name (by omega) q1 hns).mono ?_
  rintro e w2 ⟨rfl, n, rfl⟩
  have hS2 : Blk s 83 (sCs d name 0 none none (.slice none 0 0) (.slice none 0 0)) ((w.alloc (.cells #[.bool false, .int .i64 0, .int .i64 0] 79)).drewN (1 + n)) := hS
  have hxn : Ext (fun _ => False) gb (w.alloc (.cells #[.bool false, .int .i64 0, .int .i64 0] 79)) gb ((w.alloc (.cells #[.bool false, .int .i64 0, .int .i64 0] 79)).drewN (1 + n)) := (Ext.refl _ _ _).drewN _
  have HD2 := Lib.hid (HDB.out.ext hxn (fun h => h))
  go_wp2_with fail
  refine ⟨hS2, ?_⟩
  (unfold wpMix wpRd; (repeat (first | simp only [List.filterMap_cons] | simp only [List.filterMap_nil] | simp only [List.getElem?_toArray] | simp only [List.getElem?_cons_zero] | simp only [List.getElem?_cons_succ])); (try dsimp only); change wpQuiet _ _ _ _ ([]) _; (repeat (go_big_quiet_step (fail))); refine wpQuiet_nil ?_; (try dsimp only))
  go_wp2_with fail
  refine (read_down d gb _ D HD2.out (slotN name 0) (slotN_ok hnm 0) hdn).mono ?_
  rintro e w3 ⟨A, cap, g3, hx3, rfl⟩
  have hS3 : Blk s 83 (sCs d name 0 none none (.slice none 0 0) (.slice none 0 0)) w3 := hS2.ext hx3 (fun h => h)
  have HX3 := Lib.hid (HXB.out.trans (hxn.trans hx3))
  have hz3 := (HZS.out.ext hxn (fun h => h)).ext hx3 (fun h => h)
  have HZ3 := Lib.hid hz3
  have hF3 := (hxn.trans hx3).zero _ HZS.out.lt hFS
  have hO3 : g3.O s = s := ((hxn.trans hx3).own s HB.out.lt).trans hOS
  have hFs3 : g3.F s = 0 := (hxn.trans hx3).zero s HB.out.lt hFS'
  have z := hS3.fz
  have zz := hz3.fz
  have q2 : w3.cell? ⟨s, 2, none⟩ = some (.int .i64 0) := hS3.cell 2
  have c0 : w3.cell? ⟨w.heap.size, 0, none⟩ = some (.bool false) := hz3.cell 0
  have c1 : w3.cell? ⟨w.heap.size, 1, none⟩ = some (.int .i64 0) := hz3.cell 1
  have c2 : w3.cell? ⟨w.heap.size, 2, none⟩ = some (.int .i64 0) := hz3.cell 2
  have hne : s ≠ w.heap.size := by omega
  have hne' : w.heap.size ≠ s := by omega
  clear hx3 hxn hz3
  go_wp2_with fail
  refine ⟨hS3, ?_⟩
  (unfold wpMix wpRd; (repeat (first | simp only [List.filterMap_cons] | simp only [List.filterMap_nil] | simp only [List.getElem?_toArray] | simp only [List.getElem?_cons_zero] | simp only [List.getElem?_cons_succ])); (try dsimp only); change wpQuiet _ _ _ _ (_ :: _ :: _ :: _ :: _ :: []) _; (repeat (go_big_quiet_step (fail))); refine wpQuiet_nil ?_; (try dsimp only))
  clear hN r0
  go_wp2_with fail
  refine bodyPost_ret (v := .tuple #[.agg #[.bool false, .int .i64 0, .int .i64 0], .int .i64 0]) (by simp [results, Tryd.results38, go_sem, c0, c1, c2, hne, hne']) rfl ?_
  have hx4 := (HX3.out.imp (fun o (h : False) => (h.elim : o = s))).setCell (p := ⟨s, 2, none⟩) (fun h => (HX3.out.own s h).symm.trans hO3) hFs3 (.int .i64 303)
  refine ⟨g3, rfl, Ext.put3 hx4 (Nat.le_refl _) hF3 _ _ _, ?_⟩
  have hb4 := hS3.set 2 (.int .i64 303)
  exact ((Blk.far (p := ⟨w.heap.size, 0, none⟩) (by simpa [sCs] using hb4) hne _).far (p := ⟨w.heap.size, 1, none⟩) hne _).far (p := ⟨w.heap.size, 2, none⟩) hne _

/-- What write does to the device, and the error that it leaves. -/
noncomputable def svOp (name : ByteArray) (i : Nat) (c : Ck) : POp := ⟨0, slotN name i, ⟨#[]⟩, encC c, true⟩
noncomputable def svI (D : Dev) (o : POp) : Int := if actI D = 0 then syncI (actD D o) else actI D
noncomputable def svD (D : Dev) (o : POp) : Dev := if actI D = 0 then syncD (actD D o) else actD D o
theorem actI_two (D : Dev) : actI D = 0 ∨ actI D = 303 := by unfold actI doI; split <;> (try split) <;> simp
def WriteP (s d : Nat) (name : ByteArray) (g : Gh) (w : World) (o0 o1 : Option Ck) (x0 x1 : Value) (E : Int) (D' : Dev) (w' : World) : Prop :=
  ∃ g', Ext (fun o => o = s ∨ o = d) g w g' w' ∧ Blk s 83 (sCs d name E o0 o1 x0 x1) w' ∧ DevAt g' w' d D'

set_option maxRecDepth 100000 in
set_option maxHeartbeats 6400000 in
theorem cwrite_any (s d : Nat) (g : Gh) (w : World) (D : Dev) (name : ByteArray) (hD : DevAt g w d D) (hnm : nmB false 40 name = true) (o0 o1 : Option Ck) (x0 x1 : Value) (i : Nat) (hi : i < 2) (c : Ck) (hc : CkOk c) (A : Option Addr) (cap : Nat) (hr : BytesAt g w (.slice A c.st.length cap) c.st)
    (hB : Blk s 83 (sCs d name 0 o0 o1 x0 x1) w) (hO : g.O s = s) (hF : g.F s = 0) (hsd : s ≠ d) (hn : D.now.n < 256) (hpl : D.pend.length ≤ 999999) :
    Calls Tryd.prog 39 #[.pointer (some ⟨s, 0, none⟩), .int .i64 (i : Nat), .agg #[.bool true, .int .i64 c.seq, .int .i64 c.pos], .slice A c.st.length cap] w fun e w' => e = .returned (.tuple #[]) ∧ WriteP s d name g w o0 o1 x0 x1 (svI D (svOp name i c)) (svD D (svOp name i c)) w' := by
  have hns := nm_size hnm
  have hxb : Ext (fun _ => False) g w (g.box w.heap.size) (w.alloc (.cells #[.bool true, .int .i64 c.seq, .int .i64 c.pos] 79)) := Ext.box _ g w _
  have hZ : Blk w.heap.size 79 [.bool true, .int .i64 c.seq, .int .i64 c.pos] (w.alloc (.cells #[.bool true, .int .i64 c.seq, .int .i64 c.pos] 79)) := Blk.new w 79 _
  have hbb : Blk s 83 (sCs d name 0 o0 o1 x0 x1) (w.alloc (.cells #[.bool true, .int .i64 c.seq, .int .i64 c.pos] 79)) := hB.alloc _
  have HD := Lib.hid (hD.ext hxb (fun h => h))
  have HR := Lib.hid (hr.ext hxb)
  have hsl := hB.lt
  have hO1 := (hxb.own s hsl).trans hO
  have hF1 := hxb.zero s hsl hF
  have HXB := Lib.hid hxb
  have HZ := Lib.hid hZ
  have HB := Lib.hid hbb
  have hS : (fun x : World => Blk s 83 (sCs d name 0 o0 o1 x0 x1) x ∧ Blk w.heap.size 79 [.bool true, .int .i64 c.seq, .int .i64 c.pos] x) (w.alloc (.cells #[.bool true, .int .i64 c.seq, .int .i64 c.pos] 79)).drew := ⟨hbb, hZ⟩
  have q1 : (w.alloc (.cells #[.bool true, .int .i64 c.seq, .int .i64 c.pos] 79)).drew.cell? ⟨s, 1, none⟩ = some (.string name) := hbb.cell 1
  have hDl := hD.lt
  clear hbb hZ hxb hB hr hD
  have hOz : (g.box w.heap.size).O w.heap.size = w.heap.size := g.box_O _
  have hdl := hDl
  generalize g.box w.heap.size = gb at *
  generalize hw1 : w.alloc (.cells #[.bool true, .int .i64 c.seq, .int .i64 c.pos] 79) = w1 at *
  go_enter Tryd.func39, Tryd.ntmps39
  go_wp2_with fail
  (refine wp_region_mixz (S := (fun x : World => Blk s 83 (sCs d name 0 o0 o1 x0 x1) x ∧ Blk w.heap.size 79 [.bool true, .int .i64 c.seq, .int .i64 c.pos] x)) [12, 13] 14 [([0, 1, 2, 3, 4, 5, 6, 8, 9], 7), ([], 10), ([], 11)] (by kernel_rfl) (by kernel_rfl) (by intro c a d v w h; cases d <;> exact h) hS ?_; have hN : Nonempty (Held ((fun x : World => Blk s 83 (sCs d name 0 o0 o1 x0 x1) x ∧ Blk w.heap.size 79 [.bool true, .int .i64 c.seq, .int .i64 c.pos] x))) := ⟨⟨_, hS⟩⟩)
  have r0 : ∀ y : Held ((fun x : World => Blk s 83 (sCs d name 0 o0 o1 x0 x1) x ∧ Blk w.heap.size 79 [.bool true, .int .i64 c.seq, .int .i64 c.pos] x)), y.w.cell? ⟨s, 0, none⟩ = some (.pointer (some ⟨d, 0, none⟩)) := fun y => y.ok.1.cell 0
  have t0 : ∀ y : Held ((fun x : World => Blk s 83 (sCs d name 0 o0 o1 x0 x1) x ∧ Blk w.heap.size 79 [.bool true, .int .i64 c.seq, .int .i64 c.pos] x)), y.w.cell? ⟨w.heap.size, 0, none⟩ = some (.bool true) := fun y => y.ok.2.cell 0
  have t1 : ∀ y : Held ((fun x : World => Blk s 83 (sCs d name 0 o0 o1 x0 x1) x ∧ Blk w.heap.size 79 [.bool true, .int .i64 c.seq, .int .i64 c.pos] x)), y.w.cell? ⟨w.heap.size, 1, none⟩ = some (.int .i64 c.seq) := fun y => y.ok.2.cell 1
  have t2 : ∀ y : Held ((fun x : World => Blk s 83 (sCs d name 0 o0 o1 x0 x1) x ∧ Blk w.heap.size 79 [.bool true, .int .i64 c.seq, .int .i64 c.pos] x)), y.w.cell? ⟨w.heap.size, 2, none⟩ = some (.int .i64 c.pos) := fun y => y.ok.2.cell 2
  (unfold wpMixZ wpRd; (repeat (first | simp only [List.filterMap_cons] | simp only [List.filterMap_nil] | simp only [List.getElem?_toArray] | simp only [List.getElem?_cons_zero] | simp only [List.getElem?_cons_succ])); (try dsimp only); change wpQuiet _ _ _ _ (_ :: _ :: _ :: _ :: _ :: _ :: _ :: _ :: _ :: []) _; (repeat (go_big_quiet_step (fail))); refine wpQuiet_nil ?_; (try dsimp only))
  clear r0 t0 t1 t2
  go_wp2_with fail
  refine (file_any s i _ name hi q1 hns).mono ?_
  rintro e w2 ⟨rfl, n, rfl⟩
  have hS2 : (fun x : World => Blk s 83 (sCs d name 0 o0 o1 x0 x1) x ∧ Blk w.heap.size 79 [.bool true, .int .i64 c.seq, .int .i64 c.pos] x) (w1.drewN (1 + n)) := hS
  have hxn : Ext (fun _ => False) gb w1 gb (w1.drewN (1 + n)) := (Ext.refl _ _ _).drewN _
  go_wp2_with fail
  refine ⟨hS2, ?_⟩
  (unfold wpMixZ wpRd; (repeat (first | simp only [List.filterMap_cons] | simp only [List.filterMap_nil] | simp only [List.getElem?_toArray] | simp only [List.getElem?_cons_zero] | simp only [List.getElem?_cons_succ])); (try dsimp only); change wpQuiet _ _ _ _ ([]) _; (repeat (go_big_quiet_step (fail))); refine wpQuiet_nil ?_; (try dsimp only))
  go_wp2_with fail
  refine (encode_any gb (w1.drewN (1 + n)) c hc A cap (HR.out.ext hxn)).mono ?_
  rintro e w3 ⟨A3, cap3, g3, rfl, hx3, hb3⟩
  have hS3 : (fun x : World => Blk s 83 (sCs d name 0 o0 o1 x0 x1) x ∧ Blk w.heap.size 79 [.bool true, .int .i64 c.seq, .int .i64 c.pos] x) w3 := ⟨hS2.1.ext hx3 (fun h => h), hS2.2.ext hx3 (fun h => h)⟩
  have HX3 := Lib.hid (HXB.out.trans (hxn.trans hx3))
  have HD3 := Lib.hid ((HD.out.ext hxn (fun h => h)).ext hx3 (fun h => h))
  have HB3 := Lib.hid hb3
  have hO3 : g3.O s = s := ((hxn.trans hx3).own s HB.out.lt).trans hO1
  have hF3 : g3.F s = 0 := (hxn.trans hx3).zero s HB.out.lt hF1
  have hOz3 : g3.O w.heap.size = w.heap.size := ((hxn.trans hx3).own _ HZ.out.lt).trans hOz
  have hel := encC_len hc
  clear hx3 hxn hb3 HD HR HXB q1
  go_wp2_with fail
  refine ⟨hS3, ?_⟩
  (unfold wpMixZ wpRd; (repeat (first | simp only [List.filterMap_cons] | simp only [List.filterMap_nil] | simp only [List.getElem?_toArray] | simp only [List.getElem?_cons_zero] | simp only [List.getElem?_cons_succ])); (try dsimp only); change wpQuiet _ _ _ _ ([]) _; (repeat (go_big_quiet_step (fail))); refine wpQuiet_nil ?_; (try dsimp only))
  go_wp2_with fail
  refine (dcreate_any d g3 w3 D HD3.out (slotN name i) A3 cap3 (encC c) HB3.out (slotN_ok hnm i) (by omega) hn (by omega)).mono ?_
  rintro e w4 ⟨rfl, g4, hx4, hD4⟩
  have hS4 : (fun x : World => Blk s 83 (sCs d name 0 o0 o1 x0 x1) x ∧ Blk w.heap.size 79 [.bool true, .int .i64 c.seq, .int .i64 c.pos] x) w4 := ⟨hS3.1.ext hx4 (by rw [hO3]; exact hsd), hS3.2.ext hx4 (by rw [hOz3]; omega)⟩
  have HX4 := Lib.hid ((HX3.out.imp (fun o (h : False) => (h.elim : o = s ∨ o = d))).trans (hx4.imp (fun _ h => Or.inr h)))
  have hO4 : g4.O s = s := (hx4.own s hS3.1.lt).trans hO3
  have hF4 : g4.F s = 0 := hx4.zero s hS3.1.lt hF3
  change DevAt g4 w4 d (actD D (svOp name i c)) at hD4
  have hpl4 : (actD D (svOp name i c)).pend.length ≤ 1000000 := by
    have hb := burn_now D
    unfold actD doD
    split
    · omega
    · split
      · rw [hb.2.1]; omega
      · simp; omega
  have HD4 := Lib.hid hD4
  have z := hS4.1.fz
  have q2 : w4.cell? ⟨s, 2, none⟩ = some (.int .i64 0) := hS4.1.cell 2
  have q0 : w4.cell? ⟨s, 0, none⟩ = some (.pointer (some ⟨d, 0, none⟩)) := hS4.1.cell 0
  clear hx4 hD4 HX3 HD3 HB3 hel
  go_wp2_with fail
  refine ⟨hS4, ?_⟩
  (unfold wpMixZ wpRd; (repeat (first | simp only [List.filterMap_cons] | simp only [List.filterMap_nil] | simp only [List.getElem?_toArray] | simp only [List.getElem?_cons_zero] | simp only [List.getElem?_cons_succ])); (try dsimp only); change wpQuiet _ _ _ _ (_ :: _ :: []) _; (repeat (go_big_quiet_step (fail))); refine wpQuiet_nil ?_; (try dsimp only))
  clear hN
  have HSV : Hid (∀ E, Blk s 83 (sCs d name E o0 o1 x0 x1) (w4.setCell ⟨s, 2, none⟩ (.int .i64 E)) ∧ Ext (fun o => o = s ∨ o = d) g w g4 (w4.setCell ⟨s, 2, none⟩ (.int .i64 E)) ∧ DevAt g4 (w4.setCell ⟨s, 2, none⟩ (.int .i64 E)) d (actD D (svOp name i c))) := fun E => by
    have hy := (Ext.refl (· = s) g4 w4).setCell (p := ⟨s, 2, none⟩) (fun _ => hO4) hF4 (.int .i64 E)
    refine ⟨?_, HX4.out.trans (hy.imp (fun _ h => Or.inl h)), HD4.out.ext hy (fun h => hsd h.symm)⟩
    have hb5 := hS4.1.set 2 (.int .i64 E)
    simpa [sCs] using hb5
  rcases actI_two D with ha | ha
  · have HV : Hid (svI D (svOp name i c) = syncI (actD D (svOp name i c)) ∧ svD D (svOp name i c) = syncD (actD D (svOp name i c))) := by
      show _ ∧ _
      unfold svI svD
      rw [if_pos ha, if_pos ha]
      exact ⟨rfl, rfl⟩
    rw [ha]
    obtain ⟨hb5, hx5, hd5⟩ := HSV.out 0
    have HB5 := Lib.hid hb5
    have HX5 := Lib.hid hx5
    have HD5 := Lib.hid hd5
    clear hb5 hx5 hd5 HSV
    go_wp2_with fail
    refine (sync_any d g4 _ _ HD5.out hpl4).mono ?_
    rintro e w6 ⟨rfl, g6, hx6, hD6⟩
    have hB6 := HB5.out.ext hx6 (by rw [hO4]; exact hsd)
    have hO6 : g6.O s = s := (hx6.own s HB5.out.lt).trans hO4
    have hF6 : g6.F s = 0 := hx6.zero s HB5.out.lt hF4
    have z6 := hB6.fz
    have q6 : w6.cell? ⟨s, 2, none⟩ = some (.int .i64 0) := hB6.cell 2
    have HX6 := Lib.hid (HX5.out.trans (hx6.imp (fun _ h => Or.inr h)))
    have HD6 := Lib.hid hD6
    have HB6 := Lib.hid hB6
    clear hx6 hD6 hB6 q2 q0 z
    generalize hE6 : syncI (actD D (svOp name i c)) = E6 at *
    go_wp2_with fail
    go_end0
    rw [HV.out.1, HV.out.2]
    refine ⟨rfl, g6, ?_, ?_, ?_⟩
    · exact HX6.out.trans (((Ext.refl (· = s) g6 w6).setCell (p := ⟨s, 2, none⟩) (fun _ => hO6) hF6 _).imp (fun _ h => Or.inl h))
    · have hb7 := HB6.out.set 2 (.int .i64 E6)
      simpa [sCs] using hb7
    · exact HD6.out.ext ((Ext.refl (· = s) g6 w6).setCell (p := ⟨s, 2, none⟩) (fun _ => hO6) hF6 _) (fun h => hsd h.symm)
  · have HV : Hid (svI D (svOp name i c) = 303 ∧ svD D (svOp name i c) = actD D (svOp name i c)) := by
      show _ ∧ _
      unfold svI svD
      rw [if_neg (by omega), if_neg (by omega)]
      exact ⟨ha, rfl⟩
    rw [ha]
    obtain ⟨hb5, hx5, hd5⟩ := HSV.out 303
    have HB5 := Lib.hid hb5
    have HX5 := Lib.hid hx5
    have HD5 := Lib.hid hd5
    clear hb5 hx5 hd5 HSV
    go_wp2_with fail
    go_end0
    rw [HV.out.1, HV.out.2]
    exact ⟨rfl, g4, HX5.out, HB5.out, HD5.out⟩

end Go.Proofs.YtcjkllmellampaaDoor
