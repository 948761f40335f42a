/-
  Cut where nothing is cut.
-/
import Derived.Test.YthjbaafbkalomaaCut
namespace Go.Proofs.Ythjbaafbkalomaa
open Go.RowKit

/-- Nothing happened to what there was. -/
def SameP (g : Gh) (w w' : World) : Prop := ∃ g', Ext (fun _ => False) g w g' w'
set_option maxRecDepth 100000 in
set_option maxHeartbeats 1600000 in
theorem cut_dead (j d : Nat) (g : Gh) (w : World) (J : Jrn) (hJ : JAt g w j d J) (p : Int) (hd : J.dead = true)  :
    Calls Try.prog 13 #[.pointer (some ⟨j, 0, none⟩), .int .i64 p] w fun e w' => e = .returned (.int .i64 313) ∧ SameP g w w' := by
  have hxb := Ext.box2 (fun _ => False) g w (.cells #[.pointer (some ⟨j, 0, none⟩)] 28) (.cells #[.int .i64 p] 3)
  have hJ2 := hJ.ext hxb (fun h => h)
  have HX := Lib.hid hxb
  have HJ := Lib.hid hJ2
  have b1 : ((w.alloc (.cells #[.pointer (some ⟨j, 0, none⟩)] 28)).alloc (.cells #[.int .i64 p] 3)).cell? ⟨w.heap.size, 0, none⟩ = some (.pointer (some ⟨j, 0, none⟩)) := ((Blk.new w 28 [.pointer (some ⟨j, 0, none⟩)]).alloc _).cell 0
  have b2 : ((w.alloc (.cells #[.pointer (some ⟨j, 0, none⟩)] 28)).alloc (.cells #[.int .i64 p] 3)).cell? ⟨w.heap.size + 1, 0, none⟩ = some (.int .i64 p) := by
    have := Blk.new (w.alloc (.cells #[.pointer (some ⟨j, 0, none⟩)] 28)) 3 [.int .i64 p]
    have h := (show Blk (w.heap.size + 1) 3 [.int .i64 p] ((w.alloc (.cells #[.pointer (some ⟨j, 0, none⟩)] 28)).alloc (.cells #[.int .i64 p] 3)) by simpa using this)
    exact h.cell 0
  obtain ⟨A1, c1, v1, A2, c2, v2, hb, hi⟩ := hJ2
  have c7 : ((w.alloc (.cells #[.pointer (some ⟨j, 0, none⟩)] 28)).alloc (.cells #[.int .i64 p] 3)).cell? ⟨j, 7, none⟩ = some (.bool true) := by rw [← hd]; exact hb.cell 7
  have c2' : ((w.alloc (.cells #[.pointer (some ⟨j, 0, none⟩)] 28)).alloc (.cells #[.int .i64 p] 3)).cell? ⟨j, 2, none⟩ = some (.int .i64 J.start) := hb.cell 2
  clear hb hi hxb
  have hS : (fun x => ∃ n, x = ((w.alloc (.cells #[.pointer (some ⟨j, 0, none⟩)] 28)).alloc (.cells #[.int .i64 p] 3)).drewN n) ((w.alloc (.cells #[.pointer (some ⟨j, 0, none⟩)] 28)).alloc (.cells #[.int .i64 p] 3)).drew := ⟨1, rfl⟩
  go_enter Try.func13, Try.ntmps13
  go_wp2_with fail
  go_ret
  exact ⟨rfl, _, HX.out⟩
set_option maxRecDepth 100000 in
set_option maxHeartbeats 1600000 in
theorem cut_low (j d : Nat) (g : Gh) (w : World) (J : Jrn) (hJ : JAt g w j d J) (p : Int) (hd : J.dead = false) (_h0 : 0 ≤ J.start) (_h1 : J.start ≤ 4611686018427387904) (_hn2 : J.recs.length ≤ 1000000) (hp : p < J.start) :
    Calls Try.prog 13 #[.pointer (some ⟨j, 0, none⟩), .int .i64 p] w fun e w' => e = .returned (.int .i64 312) ∧ SameP g w w' := by
  have hxb := Ext.box2 (fun _ => False) g w (.cells #[.pointer (some ⟨j, 0, none⟩)] 28) (.cells #[.int .i64 p] 3)
  have hJ2 := hJ.ext hxb (fun h => h)
  have HX := Lib.hid hxb
  have HJ := Lib.hid hJ2
  have b1 : ((w.alloc (.cells #[.pointer (some ⟨j, 0, none⟩)] 28)).alloc (.cells #[.int .i64 p] 3)).cell? ⟨w.heap.size, 0, none⟩ = some (.pointer (some ⟨j, 0, none⟩)) := ((Blk.new w 28 [.pointer (some ⟨j, 0, none⟩)]).alloc _).cell 0
  have b2 : ((w.alloc (.cells #[.pointer (some ⟨j, 0, none⟩)] 28)).alloc (.cells #[.int .i64 p] 3)).cell? ⟨w.heap.size + 1, 0, none⟩ = some (.int .i64 p) := by
    have := Blk.new (w.alloc (.cells #[.pointer (some ⟨j, 0, none⟩)] 28)) 3 [.int .i64 p]
    have h := (show Blk (w.heap.size + 1) 3 [.int .i64 p] ((w.alloc (.cells #[.pointer (some ⟨j, 0, none⟩)] 28)).alloc (.cells #[.int .i64 p] 3)) by simpa using this)
    exact h.cell 0
  obtain ⟨A1, c1, v1, A2, c2, v2, hb, hi⟩ := hJ2
  have c7 : ((w.alloc (.cells #[.pointer (some ⟨j, 0, none⟩)] 28)).alloc (.cells #[.int .i64 p] 3)).cell? ⟨j, 7, none⟩ = some (.bool false) := by rw [← hd]; exact hb.cell 7
  have c2' : ((w.alloc (.cells #[.pointer (some ⟨j, 0, none⟩)] 28)).alloc (.cells #[.int .i64 p] 3)).cell? ⟨j, 2, none⟩ = some (.int .i64 J.start) := hb.cell 2
  clear hb hi hxb
  have hS : (fun x => ∃ n, x = ((w.alloc (.cells #[.pointer (some ⟨j, 0, none⟩)] 28)).alloc (.cells #[.int .i64 p] 3)).drewN n) ((w.alloc (.cells #[.pointer (some ⟨j, 0, none⟩)] 28)).alloc (.cells #[.int .i64 p] 3)).drew := ⟨1, rfl⟩
  go_enter Try.func13, Try.ntmps13
  have hps : decide (p < J.start) = true := by simp; omega
  go_wp2_with fail
  (refine wp_region_s (S := fun x => ∃ n, x = ((w.alloc (.cells #[.pointer (some ⟨j, 0, none⟩)] 28)).alloc (.cells #[.int .i64 p] 3)).drewN n) (by kernel_rfl) (by kernel_rfl) hS ?_; have hN : Nonempty (Held (fun x => ∃ n, x = ((w.alloc (.cells #[.pointer (some ⟨j, 0, none⟩)] 28)).alloc (.cells #[.int .i64 p] 3)).drewN n)) := ⟨⟨_, hS⟩⟩; (have r2 : ∀ y : Held (fun x => ∃ n, x = ((w.alloc (.cells #[.pointer (some ⟨j, 0, none⟩)] 28)).alloc (.cells #[.int .i64 p] 3)).drewN n), y.w.cell? ⟨j, 2, none⟩ = some (.int .i64 J.start) := fun y => (by obtain ⟨n, hn⟩ := y.ok; rw [hn]; exact c2'); have rb1 : ∀ y : Held (fun x => ∃ n, x = ((w.alloc (.cells #[.pointer (some ⟨j, 0, none⟩)] 28)).alloc (.cells #[.int .i64 p] 3)).drewN n), y.w.cell? ⟨w.heap.size, 0, none⟩ = some (.pointer (some ⟨j, 0, none⟩)) := fun y => (by obtain ⟨n, hn⟩ := y.ok; rw [hn]; exact b1); have rb2 : ∀ y : Held (fun x => ∃ n, x = ((w.alloc (.cells #[.pointer (some ⟨j, 0, none⟩)] 28)).alloc (.cells #[.int .i64 p] 3)).drewN n), y.w.cell? ⟨w.heap.size + 1, 0, none⟩ = some (.int .i64 p) := fun y => (by obtain ⟨n, hn⟩ := y.ok; rw [hn]; exact b2)); (repeat (go_big_quiet_step ((go_at_call 30; exact end_held HJ.out h0 h1 hn2 _)))); refine wpQuiet_nil ?_; rintro _ ⟨⟨x, hx⟩, rfl⟩; clear hN)
  clear r2 rb1 rb2
  obtain ⟨nq, rfl⟩ := hx
  go_wp2_with fail
  go_ret
  exact ⟨rfl, _, HX.out.drewN _⟩
set_option maxRecDepth 100000 in
set_option maxHeartbeats 1600000 in
theorem cut_high (j d : Nat) (g : Gh) (w : World) (J : Jrn) (hJ : JAt g w j d J) (p : Int) (hd : J.dead = false) (h0 : 0 ≤ J.start) (h1 : J.start ≤ 4611686018427387904) (hn2 : J.recs.length ≤ 1000000) (hp : J.start + J.recs.length < p) :
    Calls Try.prog 13 #[.pointer (some ⟨j, 0, none⟩), .int .i64 p] w fun e w' => e = .returned (.int .i64 312) ∧ SameP g w w' := by
  have hxb := Ext.box2 (fun _ => False) g w (.cells #[.pointer (some ⟨j, 0, none⟩)] 28) (.cells #[.int .i64 p] 3)
  have hJ2 := hJ.ext hxb (fun h => h)
  have HX := Lib.hid hxb
  have HJ := Lib.hid hJ2
  have b1 : ((w.alloc (.cells #[.pointer (some ⟨j, 0, none⟩)] 28)).alloc (.cells #[.int .i64 p] 3)).cell? ⟨w.heap.size, 0, none⟩ = some (.pointer (some ⟨j, 0, none⟩)) := ((Blk.new w 28 [.pointer (some ⟨j, 0, none⟩)]).alloc _).cell 0
  have b2 : ((w.alloc (.cells #[.pointer (some ⟨j, 0, none⟩)] 28)).alloc (.cells #[.int .i64 p] 3)).cell? ⟨w.heap.size + 1, 0, none⟩ = some (.int .i64 p) := by
    have := Blk.new (w.alloc (.cells #[.pointer (some ⟨j, 0, none⟩)] 28)) 3 [.int .i64 p]
    have h := (show Blk (w.heap.size + 1) 3 [.int .i64 p] ((w.alloc (.cells #[.pointer (some ⟨j, 0, none⟩)] 28)).alloc (.cells #[.int .i64 p] 3)) by simpa using this)
    exact h.cell 0
  obtain ⟨A1, c1, v1, A2, c2, v2, hb, hi⟩ := hJ2
  have c7 : ((w.alloc (.cells #[.pointer (some ⟨j, 0, none⟩)] 28)).alloc (.cells #[.int .i64 p] 3)).cell? ⟨j, 7, none⟩ = some (.bool false) := by rw [← hd]; exact hb.cell 7
  have c2' : ((w.alloc (.cells #[.pointer (some ⟨j, 0, none⟩)] 28)).alloc (.cells #[.int .i64 p] 3)).cell? ⟨j, 2, none⟩ = some (.int .i64 J.start) := hb.cell 2
  clear hb hi hxb
  have hS : (fun x => ∃ n, x = ((w.alloc (.cells #[.pointer (some ⟨j, 0, none⟩)] 28)).alloc (.cells #[.int .i64 p] 3)).drewN n) ((w.alloc (.cells #[.pointer (some ⟨j, 0, none⟩)] 28)).alloc (.cells #[.int .i64 p] 3)).drew := ⟨1, rfl⟩
  go_enter Try.func13, Try.ntmps13
  have hps : decide (p < J.start) = false := by simp; omega
  go_wp2_with fail
  (refine wp_region_s (S := fun x => ∃ n, x = ((w.alloc (.cells #[.pointer (some ⟨j, 0, none⟩)] 28)).alloc (.cells #[.int .i64 p] 3)).drewN n) (by kernel_rfl) (by kernel_rfl) hS ?_; have hN : Nonempty (Held (fun x => ∃ n, x = ((w.alloc (.cells #[.pointer (some ⟨j, 0, none⟩)] 28)).alloc (.cells #[.int .i64 p] 3)).drewN n)) := ⟨⟨_, hS⟩⟩; (have r2 : ∀ y : Held (fun x => ∃ n, x = ((w.alloc (.cells #[.pointer (some ⟨j, 0, none⟩)] 28)).alloc (.cells #[.int .i64 p] 3)).drewN n), y.w.cell? ⟨j, 2, none⟩ = some (.int .i64 J.start) := fun y => (by obtain ⟨n, hn⟩ := y.ok; rw [hn]; exact c2'); have rb1 : ∀ y : Held (fun x => ∃ n, x = ((w.alloc (.cells #[.pointer (some ⟨j, 0, none⟩)] 28)).alloc (.cells #[.int .i64 p] 3)).drewN n), y.w.cell? ⟨w.heap.size, 0, none⟩ = some (.pointer (some ⟨j, 0, none⟩)) := fun y => (by obtain ⟨n, hn⟩ := y.ok; rw [hn]; exact b1); have rb2 : ∀ y : Held (fun x => ∃ n, x = ((w.alloc (.cells #[.pointer (some ⟨j, 0, none⟩)] 28)).alloc (.cells #[.int .i64 p] 3)).drewN n), y.w.cell? ⟨w.heap.size + 1, 0, none⟩ = some (.int .i64 p) := fun y => (by obtain ⟨n, hn⟩ := y.ok; rw [hn]; exact b2)); (repeat (go_big_quiet_step ((go_at_call 30; exact end_held HJ.out h0 h1 hn2 _)))); refine wpQuiet_nil ?_; rintro _ ⟨⟨x, hx⟩, rfl⟩; clear hN)
  clear r2 rb1 rb2
  obtain ⟨nq, rfl⟩ := hx
  go_wp2_with fail
  go_ret
  exact ⟨rfl, _, HX.out.drewN _⟩
set_option maxRecDepth 100000 in
set_option maxHeartbeats 1600000 in
theorem cut_same (j d : Nat) (g : Gh) (w : World) (J : Jrn) (hJ : JAt g w j d J) (p : Int) (hd : J.dead = false) (h0 : 0 ≤ J.start) (h1 : J.start ≤ 4611686018427387904) (hn2 : J.recs.length ≤ 1000000) (hp : p = J.start) :
    Calls Try.prog 13 #[.pointer (some ⟨j, 0, none⟩), .int .i64 p] w fun e w' => e = .returned (.int .i64 0) ∧ SameP g w w' := by
  have hxb := Ext.box2 (fun _ => False) g w (.cells #[.pointer (some ⟨j, 0, none⟩)] 28) (.cells #[.int .i64 p] 3)
  have hJ2 := hJ.ext hxb (fun h => h)
  have HX := Lib.hid hxb
  have HJ := Lib.hid hJ2
  have b1 : ((w.alloc (.cells #[.pointer (some ⟨j, 0, none⟩)] 28)).alloc (.cells #[.int .i64 p] 3)).cell? ⟨w.heap.size, 0, none⟩ = some (.pointer (some ⟨j, 0, none⟩)) := ((Blk.new w 28 [.pointer (some ⟨j, 0, none⟩)]).alloc _).cell 0
  have b2 : ((w.alloc (.cells #[.pointer (some ⟨j, 0, none⟩)] 28)).alloc (.cells #[.int .i64 p] 3)).cell? ⟨w.heap.size + 1, 0, none⟩ = some (.int .i64 p) := by
    have := Blk.new (w.alloc (.cells #[.pointer (some ⟨j, 0, none⟩)] 28)) 3 [.int .i64 p]
    have h := (show Blk (w.heap.size + 1) 3 [.int .i64 p] ((w.alloc (.cells #[.pointer (some ⟨j, 0, none⟩)] 28)).alloc (.cells #[.int .i64 p] 3)) by simpa using this)
    exact h.cell 0
  obtain ⟨A1, c1, v1, A2, c2, v2, hb, hi⟩ := hJ2
  have c7 : ((w.alloc (.cells #[.pointer (some ⟨j, 0, none⟩)] 28)).alloc (.cells #[.int .i64 p] 3)).cell? ⟨j, 7, none⟩ = some (.bool false) := by rw [← hd]; exact hb.cell 7
  have c2' : ((w.alloc (.cells #[.pointer (some ⟨j, 0, none⟩)] 28)).alloc (.cells #[.int .i64 p] 3)).cell? ⟨j, 2, none⟩ = some (.int .i64 J.start) := hb.cell 2
  clear hb hi hxb
  have hS : (fun x => ∃ n, x = ((w.alloc (.cells #[.pointer (some ⟨j, 0, none⟩)] 28)).alloc (.cells #[.int .i64 p] 3)).drewN n) ((w.alloc (.cells #[.pointer (some ⟨j, 0, none⟩)] 28)).alloc (.cells #[.int .i64 p] 3)).drew := ⟨1, rfl⟩
  go_enter Try.func13, Try.ntmps13
  have hps : decide (p < J.start) = false := by simp; omega
  have hpe : (p == J.start) = true := beq_iff_eq.2 (by omega)
  have hph : decide (J.start + ↑J.recs.length < p) = false := by simp; omega
  clear hp
  go_wp2_with fail
  (refine wp_region_s (S := fun x => ∃ n, x = ((w.alloc (.cells #[.pointer (some ⟨j, 0, none⟩)] 28)).alloc (.cells #[.int .i64 p] 3)).drewN n) (by kernel_rfl) (by kernel_rfl) hS ?_; have hN : Nonempty (Held (fun x => ∃ n, x = ((w.alloc (.cells #[.pointer (some ⟨j, 0, none⟩)] 28)).alloc (.cells #[.int .i64 p] 3)).drewN n)) := ⟨⟨_, hS⟩⟩; (have r2 : ∀ y : Held (fun x => ∃ n, x = ((w.alloc (.cells #[.pointer (some ⟨j, 0, none⟩)] 28)).alloc (.cells #[.int .i64 p] 3)).drewN n), y.w.cell? ⟨j, 2, none⟩ = some (.int .i64 J.start) := fun y => (by obtain ⟨n, hn⟩ := y.ok; rw [hn]; exact c2'); have rb1 : ∀ y : Held (fun x => ∃ n, x = ((w.alloc (.cells #[.pointer (some ⟨j, 0, none⟩)] 28)).alloc (.cells #[.int .i64 p] 3)).drewN n), y.w.cell? ⟨w.heap.size, 0, none⟩ = some (.pointer (some ⟨j, 0, none⟩)) := fun y => (by obtain ⟨n, hn⟩ := y.ok; rw [hn]; exact b1); have rb2 : ∀ y : Held (fun x => ∃ n, x = ((w.alloc (.cells #[.pointer (some ⟨j, 0, none⟩)] 28)).alloc (.cells #[.int .i64 p] 3)).drewN n), y.w.cell? ⟨w.heap.size + 1, 0, none⟩ = some (.int .i64 p) := fun y => (by obtain ⟨n, hn⟩ := y.ok; rw [hn]; exact b2)); (repeat (go_big_quiet_step ((go_at_call 30; exact end_held HJ.out h0 h1 hn2 _)))); refine wpQuiet_nil ?_; rintro _ ⟨⟨x, hx⟩, rfl⟩; clear hN)
  clear r2 rb1 rb2
  obtain ⟨nq, rfl⟩ := hx
  go_wp2_with fail
  clear hS
  have hS : (fun x => ∃ n, x = ((w.alloc (.cells #[.pointer (some ⟨j, 0, none⟩)] 28)).alloc (.cells #[.int .i64 p] 3)).drewN n) (((w.alloc (.cells #[.pointer (some ⟨j, 0, none⟩)] 28)).alloc (.cells #[.int .i64 p] 3)).drewN nq).drew := ⟨nq + 1, by simp [World.drewN, World.drew]; try omega⟩
  (refine wp_region_s (S := fun x => ∃ n, x = ((w.alloc (.cells #[.pointer (some ⟨j, 0, none⟩)] 28)).alloc (.cells #[.int .i64 p] 3)).drewN n) (by kernel_rfl) (by kernel_rfl) hS ?_; have hN : Nonempty (Held (fun x => ∃ n, x = ((w.alloc (.cells #[.pointer (some ⟨j, 0, none⟩)] 28)).alloc (.cells #[.int .i64 p] 3)).drewN n)) := ⟨⟨_, hS⟩⟩; (have r2 : ∀ y : Held (fun x => ∃ n, x = ((w.alloc (.cells #[.pointer (some ⟨j, 0, none⟩)] 28)).alloc (.cells #[.int .i64 p] 3)).drewN n), y.w.cell? ⟨j, 2, none⟩ = some (.int .i64 J.start) := fun y => (by obtain ⟨n, hn⟩ := y.ok; rw [hn]; exact c2'); have rb1 : ∀ y : Held (fun x => ∃ n, x = ((w.alloc (.cells #[.pointer (some ⟨j, 0, none⟩)] 28)).alloc (.cells #[.int .i64 p] 3)).drewN n), y.w.cell? ⟨w.heap.size, 0, none⟩ = some (.pointer (some ⟨j, 0, none⟩)) := fun y => (by obtain ⟨n, hn⟩ := y.ok; rw [hn]; exact b1); have rb2 : ∀ y : Held (fun x => ∃ n, x = ((w.alloc (.cells #[.pointer (some ⟨j, 0, none⟩)] 28)).alloc (.cells #[.int .i64 p] 3)).drewN n), y.w.cell? ⟨w.heap.size + 1, 0, none⟩ = some (.int .i64 p) := fun y => (by obtain ⟨n, hn⟩ := y.ok; rw [hn]; exact b2)); (repeat (go_big_quiet_step ((go_at_call 30; exact end_held HJ.out h0 h1 hn2 _)))); refine wpQuiet_nil ?_; rintro _ ⟨⟨x, hx⟩, rfl⟩; clear hN)
  clear r2 rb1 rb2
  obtain ⟨nq, rfl⟩ := hx
  go_wp2_with fail
  go_ret
  exact ⟨rfl, _, HX.out.drewN _⟩

end Go.Proofs.Ythjbaafbkalomaa
