/-
  Cut.
-/
import Derived.Test.YthjbaafbkalomaaCut1
namespace Go.Proofs.Ythjbaafbkalomaa
open Go.RowKit

theorem Ext.box2 (M : Nat → Prop) (g : Gh) (w : World) (o1 o2 : Obj) : Ext M g w ((g.box w.heap.size).box (w.heap.size + 1)) ((w.alloc o1).alloc o2) := by
  have h := Ext.box M (g.box w.heap.size) (w.alloc o1) o2
  rw [show (w.alloc o1).heap.size = w.heap.size + 1 from by simp] at h
  exact (Ext.box M g w o1).trans h
theorem end_held {g : Gh} {W : World} {j d : Nat} {J : Jrn} (hJ : JAt g W j d J) (h0 : 0 ≤ J.start) (h1 : J.start ≤ 4611686018427387904) (h2 : J.recs.length ≤ 1000000) (y : Held (fun x => ∃ n, x = W.drewN n)) :
    Calls Try.prog 30 #[.pointer (some ⟨j, 0, none⟩)] y.w fun e w'' => e = .returned (.int .i64 (J.start + J.recs.length)) ∧ ∃ z : Held (fun x => ∃ n, x = W.drewN n), w'' = z.w := by
  obtain ⟨yw, n, rfl⟩ := y
  refine (jend_any j d g _ J (hJ.ext (M := fun _ => False) ((Ext.refl _ _ _).drewN n) (fun h => h)) h0 h1 h2).mono ?_
  rintro e w' ⟨rfl, m, rfl⟩
  exact ⟨rfl, ⟨(W.drewN n).drewN m, n + m, by simp [World.drewN, Nat.add_assoc]⟩, rfl⟩

noncomputable def cutS (J : Jrn) (j d p k : Nat) : List CStep := [sCut J 0 0 0 p (J.recs.drop k), sRep J j, sSync d]
def cutJ (J : Jrn) (p k : Nat) (i : Int) : Jrn := if i = 0 then { J with start := p, recs := J.recs.drop k, bytes := J.bytes - lens (J.recs.take k), whole := true } else carryJ i J
theorem cutS_I (J : Jrn) (j d p k x y z : Nat) (D : Dev) : carryI [sCut J x y z p (J.recs.drop k), sRep J j, sSync d] D = carryI (cutS J j d p k) D := rfl
theorem cutS_D (J : Jrn) (j d p k x y z : Nat) (D : Dev) : carryD [sCut J x y z p (J.recs.drop k), sRep J j, sSync d] D = carryD (cutS J j d p k) D := rfl

set_option maxRecDepth 100000 in
set_option maxHeartbeats 1600000 in
theorem cut_t (j d : Nat) (g : Gh) (w : World) (J : Jrn) (D : Dev) (hJ : JAt g w j d J) (hD : DevAt g w d D) (p : Nat) (hd : J.dead = false) (hok : JOk J) (hp : J.start < p) (hp2 : (p : Int) ≤ J.start + J.recs.length) (h0 : 0 ≤ J.start) (h1 : J.start ≤ 4611686018427387904) (hn2 : J.recs.length ≤ 1000000) (hby : lens J.recs ≤ J.bytes) (hby1 : J.bytes ≤ 1000000000) (hpre : ∀ k x y z : Nat, (p : Int) - J.start = (k : Int) → carryPre [sCut J x y z p (J.recs.drop k), sRep J j, sSync d] D) :
    Calls Try.prog 13 #[.pointer (some ⟨j, 0, none⟩), .int .i64 (p : Int)] w fun e w' => ∃ k : Nat, (p : Int) - J.start = (k : Int) ∧ e = .returned (.int .i64 (carryI (cutS J j d p k) D)) ∧ BothP j d g w (cutJ J p k (carryI (cutS J j d p k) D)) (carryD (cutS J j d p k) D) w' := by
  have hxb := Ext.box2 (fun _ => False) g w (.cells #[.pointer (some ⟨j, 0, none⟩)] 28) (.cells #[.int .i64 p] 3)
  have hJ2 := hJ.ext hxb (fun h => h)
  have hD2 := hD.ext hxb (fun h => h)
  have HX := Lib.hid hxb
  have hB1 : Blk w.heap.size 28 [.pointer (some ⟨j, 0, none⟩)] ((w.alloc (.cells #[.pointer (some ⟨j, 0, none⟩)] 28)).alloc (.cells #[.int .i64 p] 3)) := (Blk.new w 28 [.pointer (some ⟨j, 0, none⟩)]).alloc _
  have hB2 : Blk (w.heap.size + 1) 3 [.int .i64 p] ((w.alloc (.cells #[.pointer (some ⟨j, 0, none⟩)] 28)).alloc (.cells #[.int .i64 p] 3)) := by
    have := Blk.new (w.alloc (.cells #[.pointer (some ⟨j, 0, none⟩)] 28)) 3 [.int .i64 p]
    simpa using this
  generalize hg2 : (g.box w.heap.size).box (w.heap.size + 1) = g2 at *
  obtain ⟨i0, hi0, hz0, hz1, hz2⟩ := info_parts Try.infoBytes
  have HJ := Lib.hid hJ2
  obtain ⟨A1, c1, v1, A2, c2, v2, hb, hi⟩ := hJ2
  have c7 : ((w.alloc (.cells #[.pointer (some ⟨j, 0, none⟩)] 28)).alloc (.cells #[.int .i64 p] 3)).cell? ⟨j, 7, none⟩ = some (.bool false) := by rw [← hd]; exact hb.cell 7
  have c2' : ((w.alloc (.cells #[.pointer (some ⟨j, 0, none⟩)] 28)).alloc (.cells #[.int .i64 p] 3)).cell? ⟨j, 2, none⟩ = some (.int .i64 J.start) := hb.cell 2
  have c3' : ((w.alloc (.cells #[.pointer (some ⟨j, 0, none⟩)] 28)).alloc (.cells #[.int .i64 p] 3)).cell? ⟨j, 3, none⟩ = some (.slice A1 J.recs.length c1) := hb.cell 3
  have b1 : ((w.alloc (.cells #[.pointer (some ⟨j, 0, none⟩)] 28)).alloc (.cells #[.int .i64 p] 3)).cell? ⟨w.heap.size, 0, none⟩ = some (.pointer (some ⟨j, 0, none⟩)) := hB1.cell 0
  have b2 : ((w.alloc (.cells #[.pointer (some ⟨j, 0, none⟩)] 28)).alloc (.cells #[.int .i64 p] 3)).cell? ⟨w.heap.size + 1, 0, none⟩ = some (.int .i64 p) := hB2.cell 0
  have hS : (fun x => ∃ n, x = ((w.alloc (.cells #[.pointer (some ⟨j, 0, none⟩)] 28)).alloc (.cells #[.int .i64 p] 3)).drewN n) ((w.alloc (.cells #[.pointer (some ⟨j, 0, none⟩)] 28)).alloc (.cells #[.int .i64 p] 3)).drew := ⟨1, rfl⟩
  have hps : decide ((p : Int) < J.start) = false := by simp; omega
  go_enter Try.func13, Try.ntmps13
  go_wp2_with fail
  (refine wp_region_s (S := fun x => ∃ n, x = ((w.alloc (.cells #[.pointer (some ⟨j, 0, none⟩)] 28)).alloc (.cells #[.int .i64 p] 3)).drewN n) (by kernel_rfl) (by kernel_rfl) hS ?_; have hN : Nonempty (Held (fun x => ∃ n, x = ((w.alloc (.cells #[.pointer (some ⟨j, 0, none⟩)] 28)).alloc (.cells #[.int .i64 p] 3)).drewN n)) := ⟨⟨_, hS⟩⟩; (have r2 : ∀ y : Held (fun x => ∃ n, x = ((w.alloc (.cells #[.pointer (some ⟨j, 0, none⟩)] 28)).alloc (.cells #[.int .i64 p] 3)).drewN n), y.w.cell? ⟨j, 2, none⟩ = some (.int .i64 J.start) := fun y => (by obtain ⟨n, hn⟩ := y.ok; rw [hn]; exact c2'); have rb1 : ∀ y : Held (fun x => ∃ n, x = ((w.alloc (.cells #[.pointer (some ⟨j, 0, none⟩)] 28)).alloc (.cells #[.int .i64 p] 3)).drewN n), y.w.cell? ⟨w.heap.size, 0, none⟩ = some (.pointer (some ⟨j, 0, none⟩)) := fun y => (by obtain ⟨n, hn⟩ := y.ok; rw [hn]; exact b1); have rb2 : ∀ y : Held (fun x => ∃ n, x = ((w.alloc (.cells #[.pointer (some ⟨j, 0, none⟩)] 28)).alloc (.cells #[.int .i64 p] 3)).drewN n), y.w.cell? ⟨w.heap.size + 1, 0, none⟩ = some (.int .i64 p) := fun y => (by obtain ⟨n, hn⟩ := y.ok; rw [hn]; exact b2)); (repeat (go_big_quiet_step ((go_at_call 30; exact end_held HJ.out h0 h1 hn2 _)))); refine wpQuiet_nil ?_; rintro _ ⟨⟨x, hx⟩, rfl⟩; clear hN)
  clear r2 rb1 rb2
  obtain ⟨nq, rfl⟩ := hx
  go_wp2_with fail
  clear hS
  have hS : (fun x => ∃ n, x = ((w.alloc (.cells #[.pointer (some ⟨j, 0, none⟩)] 28)).alloc (.cells #[.int .i64 p] 3)).drewN n) (((w.alloc (.cells #[.pointer (some ⟨j, 0, none⟩)] 28)).alloc (.cells #[.int .i64 p] 3)).drewN nq).drew := ⟨nq + 1, by simp [World.drewN, World.drew]; try omega⟩
  have hpe : ((p : Int) == J.start) = false := beq_eq_false_iff_ne.2 (by omega)
  (refine wp_region_s (S := fun x => ∃ n, x = ((w.alloc (.cells #[.pointer (some ⟨j, 0, none⟩)] 28)).alloc (.cells #[.int .i64 p] 3)).drewN n) (by kernel_rfl) (by kernel_rfl) hS ?_; have hN : Nonempty (Held (fun x => ∃ n, x = ((w.alloc (.cells #[.pointer (some ⟨j, 0, none⟩)] 28)).alloc (.cells #[.int .i64 p] 3)).drewN n)) := ⟨⟨_, hS⟩⟩; (have r2 : ∀ y : Held (fun x => ∃ n, x = ((w.alloc (.cells #[.pointer (some ⟨j, 0, none⟩)] 28)).alloc (.cells #[.int .i64 p] 3)).drewN n), y.w.cell? ⟨j, 2, none⟩ = some (.int .i64 J.start) := fun y => (by obtain ⟨n, hn⟩ := y.ok; rw [hn]; exact c2'); have rb1 : ∀ y : Held (fun x => ∃ n, x = ((w.alloc (.cells #[.pointer (some ⟨j, 0, none⟩)] 28)).alloc (.cells #[.int .i64 p] 3)).drewN n), y.w.cell? ⟨w.heap.size, 0, none⟩ = some (.pointer (some ⟨j, 0, none⟩)) := fun y => (by obtain ⟨n, hn⟩ := y.ok; rw [hn]; exact b1); have rb2 : ∀ y : Held (fun x => ∃ n, x = ((w.alloc (.cells #[.pointer (some ⟨j, 0, none⟩)] 28)).alloc (.cells #[.int .i64 p] 3)).drewN n), y.w.cell? ⟨w.heap.size + 1, 0, none⟩ = some (.int .i64 p) := fun y => (by obtain ⟨n, hn⟩ := y.ok; rw [hn]; exact b2)); (repeat (go_big_quiet_step ((go_at_call 30; exact end_held HJ.out h0 h1 hn2 _)))); refine wpQuiet_nil ?_; rintro _ ⟨⟨x, hx⟩, rfl⟩; clear hN)
  clear r2 rb1 rb2
  obtain ⟨nq, rfl⟩ := hx
  go_wp2_with fail
  clear hS
  have hS : (fun x => Blk j 66 (jCs d A1 c1 A2 c2 J) x ∧ Blk w.heap.size 28 [.pointer (some ⟨j, 0, none⟩)] x ∧ Blk (w.heap.size + 1) 3 [.int .i64 p] x) (((w.alloc (.cells #[.pointer (some ⟨j, 0, none⟩)] 28)).alloc (.cells #[.int .i64 p] 3)).drewN nq).drew := ⟨hb, hB1, hB2⟩
  obtain ⟨k, hk⟩ : ∃ k : Nat, (p : Int) - J.start = (k : Int) := ⟨((p : Int) - J.start).toNat, by omega⟩
  have hkn : k ≤ J.recs.length := by omega
  have hcl := run_cut_l (P := Try.prog) Try.underlying33 hi0 A1 J.recs.length c1 k hkn
  have hch := run_cut_h (P := Try.prog) Try.underlying33 hi0 A1 J.recs.length c1 k (Nat.le_trans hkn hi.r1.le)
  rw [hz1] at hcl
  (refine wp_region_mixz (S := fun x => Blk j 66 (jCs d A1 c1 A2 c2 J) x ∧ Blk w.heap.size 28 [.pointer (some ⟨j, 0, none⟩)] x ∧ Blk (w.heap.size + 1) 3 [.int .i64 p] x) [23] 24 [([0, 1, 2, 3, 4, 5, 6, 7, 8, 9, 10, 11, 12, 13, 14, 15, 16, 17, 18, 19, 20, 21], 22)] (by kernel_rfl) (by kernel_rfl) (by intro c a d v w h; cases d <;> exact h) hS ?_; have hN : Nonempty (Held (fun x => Blk j 66 (jCs d A1 c1 A2 c2 J) x ∧ Blk w.heap.size 28 [.pointer (some ⟨j, 0, none⟩)] x ∧ Blk (w.heap.size + 1) 3 [.int .i64 p] x)) := ⟨⟨_, hS⟩⟩)
  have r2 : ∀ y : Held (fun x => Blk j 66 (jCs d A1 c1 A2 c2 J) x ∧ Blk w.heap.size 28 [.pointer (some ⟨j, 0, none⟩)] x ∧ Blk (w.heap.size + 1) 3 [.int .i64 p] x), y.w.cell? ⟨j, 2, none⟩ = some (.int .i64 J.start) := fun y => y.ok.1.cell 2
  have r3 : ∀ y : Held (fun x => Blk j 66 (jCs d A1 c1 A2 c2 J) x ∧ Blk w.heap.size 28 [.pointer (some ⟨j, 0, none⟩)] x ∧ Blk (w.heap.size + 1) 3 [.int .i64 p] x), y.w.cell? ⟨j, 3, none⟩ = some (.slice A1 J.recs.length c1) := fun y => y.ok.1.cell 3
  have rb1 : ∀ y : Held (fun x => Blk j 66 (jCs d A1 c1 A2 c2 J) x ∧ Blk w.heap.size 28 [.pointer (some ⟨j, 0, none⟩)] x ∧ Blk (w.heap.size + 1) 3 [.int .i64 p] x), y.w.cell? ⟨w.heap.size, 0, none⟩ = some (.pointer (some ⟨j, 0, none⟩)) := fun y => y.ok.2.1.cell 0
  have rb2 : ∀ y : Held (fun x => Blk j 66 (jCs d A1 c1 A2 c2 J) x ∧ Blk w.heap.size 28 [.pointer (some ⟨j, 0, none⟩)] x ∧ Blk (w.heap.size + 1) 3 [.int .i64 p] x), y.w.cell? ⟨w.heap.size + 1, 0, none⟩ = some (.int .i64 p) := fun y => y.ok.2.2.cell 0
  (unfold wpMixZ wpRd; (repeat (first | simp only [List.filterMap_cons] | simp only [List.filterMap_nil] | simp only [List.getElem?_toArray] | simp only [List.getElem?_cons_zero] | simp only [List.getElem?_cons_succ])); (try dsimp only); change wpQuiet _ _ _ _ (_ :: _ :: _ :: _ :: _ :: _ :: _ :: _ :: _ :: _ :: _ :: _ :: _ :: _ :: _ :: _ :: _ :: _ :: _ :: _ :: _ :: _ :: []) _; (repeat (go_big_quiet_step (fail))); refine wpQuiet_nil ?_; (try dsimp only))
  clear r2 r3 rb1 rb2
  go_wp2_with fail
  refine ⟨⟨hS.1.alloc _, hS.2.1.alloc _, hS.2.2.alloc _⟩, ?_⟩
  (unfold wpMixZ wpRd; (repeat (first | simp only [List.filterMap_cons] | simp only [List.filterMap_nil] | simp only [List.getElem?_toArray] | simp only [List.getElem?_cons_zero] | simp only [List.getElem?_cons_succ])); (try dsimp only); change wpQuiet _ _ _ _ (_ :: []) _; (repeat (go_big_quiet_step (fail))); refine wpQuiet_nil ?_; (try dsimp only))
  clear hN
  go_wp2_with fail
  have HCI : Hid (∃ g3, Ext (fun _ => False) g w g3 ((((w.alloc (.cells #[.pointer (some ⟨j, 0, none⟩)] 28)).alloc (.cells #[.int .i64 p] 3)).drewN (nq + 1)).alloc (.cells #[.slice (cutA 1 A1 c1 k) (J.recs.length - k) (c1 - k)] 33)) ∧ CutIn j d w.heap.size (w.heap.size + 1) (w.heap.size + 1 + 1) J p (cutA 1 A1 c1 k) (c1 - k) (v1.drop k) (J.recs.drop k) g3 ((((w.alloc (.cells #[.pointer (some ⟨j, 0, none⟩)] 28)).alloc (.cells #[.int .i64 p] 3)).drewN (nq + 1)).alloc (.cells #[.slice (cutA 1 A1 c1 k) (J.recs.length - k) (c1 - k)] 33)) ∧ DevAt g3 ((((w.alloc (.cells #[.pointer (some ⟨j, 0, none⟩)] 28)).alloc (.cells #[.int .i64 p] 3)).drewN (nq + 1)).alloc (.cells #[.slice (cutA 1 A1 c1 k) (J.recs.length - k) (c1 - k)] 33)) d D ∧ g3.O w.heap.size = w.heap.size ∧ g3.O (w.heap.size + 1) = w.heap.size + 1 ∧ g3.O (w.heap.size + 1 + 1) = w.heap.size + 1 + 1 ∧ Rd 1 g3 ((((w.alloc (.cells #[.pointer (some ⟨j, 0, none⟩)] 28)).alloc (.cells #[.int .i64 p] 3)).drewN (nq + 1)).alloc (.cells #[.slice (cutA 1 A1 c1 k) (J.recs.length - k) (c1 - k)] 33)) A1 J.recs.length v1 ∧ RecsR g3 ((((w.alloc (.cells #[.pointer (some ⟨j, 0, none⟩)] 28)).alloc (.cells #[.int .i64 p] 3)).drewN (nq + 1)).alloc (.cells #[.slice (cutA 1 A1 c1 k) (J.recs.length - k) (c1 - k)] 33)) v1 J.recs) := by
    have hdl : d < w.heap.size := hD.lt
    have hq : Ext (fun _ => False) g2 ((w.alloc (.cells #[.pointer (some ⟨j, 0, none⟩)] 28)).alloc (.cells #[.int .i64 p] 3)) g2 (((w.alloc (.cells #[.pointer (some ⟨j, 0, none⟩)] 28)).alloc (.cells #[.int .i64 p] 3)).drewN (nq + 1)) := (Ext.refl _ _ _).drewN _
    have hq2 := Ext.box (fun _ => False) g2 (((w.alloc (.cells #[.pointer (some ⟨j, 0, none⟩)] 28)).alloc (.cells #[.int .i64 p] 3)).drewN (nq + 1)) (.cells #[.slice (cutA 1 A1 c1 k) (J.recs.length - k) (c1 - k)] 33)
    have hsz : (((w.alloc (.cells #[.pointer (some ⟨j, 0, none⟩)] 28)).alloc (.cells #[.int .i64 p] 3)).drewN (nq + 1)).heap.size = w.heap.size + 1 + 1 := by simp [World.drewN]
    have hnew : Blk (w.heap.size + 1 + 1) 33 [.slice (cutA 1 A1 c1 k) (J.recs.length - k) (c1 - k)] ((((w.alloc (.cells #[.pointer (some ⟨j, 0, none⟩)] 28)).alloc (.cells #[.int .i64 p] 3)).drewN (nq + 1)).alloc (.cells #[.slice (cutA 1 A1 c1 k) (J.recs.length - k) (c1 - k)] 33)) := by
      have := Blk.new (((w.alloc (.cells #[.pointer (some ⟨j, 0, none⟩)] 28)).alloc (.cells #[.int .i64 p] 3)).drewN (nq + 1)) 33 [.slice (cutA 1 A1 c1 k) (J.recs.length - k) (c1 - k)]
      rw [hsz] at this
      exact this
    rw [hsz] at hq2
    have hq3 := hq.trans hq2
    refine ⟨g2.box (w.heap.size + 1 + 1), HX.out.trans hq3, ⟨HJ.out.ext hq3 (fun h => h), hB1.ext hq3 (fun h => h), hB2.ext hq3 (fun h => h), by rw [List.length_drop]; exact hnew, ?_, ?_, ?_, ?_, ?_⟩, hD2.ext hq3 (fun h => h), by rw [hq3.own _ hB1.lt, ← hg2]; simp [Gh.box], by rw [hq3.own _ hB2.lt, ← hg2]; simp [Gh.box], by simp [Gh.box], hi.r1.rd.ext hq3, hi.q1.ext hq3⟩
    · rw [hq3.own _ hB1.lt, ← hg2]; simp [Gh.box]; omega
    · rw [hq3.own _ hB2.lt, ← hg2]; simp [Gh.box]; omega
    · simp [Gh.box]; omega
    · rw [List.length_drop]; exact (hi.r1.rd.ext hq3).drop hkn hi.r1.le
    · exact (hi.q1.ext hq3).drop k
  clear hS hcl hch hb hi hB1 hB2 c7 c2' c3' b1 b2
  obtain ⟨g3, hx3, hci, hd3, o1, o2, o3, hr3, hq3⟩ := HCI.out
  clear HCI HX HJ hps hpe hxb hD2
  have HX3 := Lib.hid hx3
  have HCI3 := Lib.hid hci
  have HD3 := Lib.hid hd3
  have HR3 := Lib.hid hr3
  have HQ3 := Lib.hid hq3
  clear hx3 hci hd3 hr3 hq3
  generalize hw3 : ((((w.alloc (.cells #[.pointer (some ⟨j, 0, none⟩)] 28)).alloc (.cells #[.int .i64 p] 3)).drewN (nq + 1)).alloc (.cells #[.slice (cutA 1 A1 c1 k) (J.recs.length - k) (c1 - k)] 33)) = w3 at *
  clear hw3
  have hrd := calls_rd g3 w3 46 [sCut J w.heap.size (w.heap.size + 1) (w.heap.size + 1 + 1) p (J.recs.drop k), sRep J j, sSync d] (by unfold maxLen; simp)
  have hxl := Ext.lit (fun _ => False) g3 w3 (.cells ([sCut J w.heap.size (w.heap.size + 1) (w.heap.size + 1 + 1) p (J.recs.drop k), sRep J j, sSync d].map CStep.v).toArray 46) 3
  simp only [List.length_cons, List.length_nil, Nat.zero_add, Nat.reduceAdd] at hrd
  have hne := hJ.ne_dev hD
  have hx4 : Ext (fun _ => False) g3 w3 (g3.lit w3.heap.size 3) (w3.alloc (.cells ([sCut J w.heap.size (w.heap.size + 1) (w.heap.size + 1 + 1) p (J.recs.drop k), sRep J j, sSync d].map CStep.v).toArray 46)).drew := hxl.drew
  have HCI4 := Lib.hid (HCI3.out.ext (hx4.imp (fun _ h => h.elim)) hne)
  have HD4 := Lib.hid (HD3.out.ext hx4 (fun h => h))
  have HRD4 := Lib.hid (hrd.ext (M := fun _ => False) (Ext.refl _ _ _).drew)
  have HX4 := Lib.hid (HX3.out.trans hx4)
  have HR4 := Lib.hid (HR3.out.ext hx4)
  have HQ4 := Lib.hid (HQ3.out.ext hx4)
  have HOK := Lib.hid hok
  have o1' : (g3.lit w3.heap.size 3).O w.heap.size = w.heap.size := o1
  have o2' : (g3.lit w3.heap.size 3).O (w.heap.size + 1) = w.heap.size + 1 := o2
  have o3' : (g3.lit w3.heap.size 3).O (w.heap.size + 1 + 1) = w.heap.size + 1 + 1 := o3
  have HS4 : Hid ((fun x => x.cell? ⟨j, 0, none⟩ = some (.pointer (some ⟨d, 0, none⟩)) ∧ Blk w.heap.size 28 [.pointer (some ⟨j, 0, none⟩)] x) (w3.alloc (.cells ([sCut J w.heap.size (w.heap.size + 1) (w.heap.size + 1 + 1) p (J.recs.drop k), sRep J j, sSync d].map CStep.v).toArray 46)).drew) := by
    obtain ⟨B1, e1, u1, B2, e2, u2, hb, hi⟩ := HCI4.out.jat
    exact ⟨hb.cell 0, HCI4.out.bx⟩
  generalize g3.lit w3.heap.size 3 = g4 at *
  clear hrd hxl hx4
  have hS : (fun x => x.cell? ⟨j, 0, none⟩ = some (.pointer (some ⟨d, 0, none⟩)) ∧ Blk w.heap.size 28 [.pointer (some ⟨j, 0, none⟩)] x) w3.drew := by
    obtain ⟨B1, e1, u1, B2, e2, u2, hb, hi⟩ := HCI3.out.jat
    exact ⟨hb.cell 0, HCI3.out.bx⟩
  (refine wp_region_mix (S := fun x => x.cell? ⟨j, 0, none⟩ = some (.pointer (some ⟨d, 0, none⟩)) ∧ Blk w.heap.size 28 [.pointer (some ⟨j, 0, none⟩)] x) [11] [([0, 1, 2, 3, 4, 5, 6, 7, 8], 9), ([], 10)] (by kernel_rfl) (by kernel_rfl) (by intro c a d v w h; cases d <;> exact h) hS ?_; have hN : Nonempty (Held (fun x => x.cell? ⟨j, 0, none⟩ = some (.pointer (some ⟨d, 0, none⟩)) ∧ Blk w.heap.size 28 [.pointer (some ⟨j, 0, none⟩)] x)) := ⟨⟨_, hS⟩⟩)
  have r0 : ∀ y : Held (fun x => x.cell? ⟨j, 0, none⟩ = some (.pointer (some ⟨d, 0, none⟩)) ∧ Blk w.heap.size 28 [.pointer (some ⟨j, 0, none⟩)] x), y.w.cell? ⟨j, 0, none⟩ = some (.pointer (some ⟨d, 0, none⟩)) := fun y => y.ok.1
  have rb1 : ∀ y : Held (fun x => x.cell? ⟨j, 0, none⟩ = some (.pointer (some ⟨d, 0, none⟩)) ∧ Blk w.heap.size 28 [.pointer (some ⟨j, 0, none⟩)] x), y.w.cell? ⟨w.heap.size, 0, none⟩ = some (.pointer (some ⟨j, 0, none⟩)) := fun y => y.ok.2.cell 0
  (unfold wpMix wpRd; (repeat (first | simp only [List.filterMap_cons] | simp only [List.filterMap_nil] | simp only [List.getElem?_toArray] | simp only [List.getElem?_cons_zero] | simp only [List.getElem?_cons_succ])); (try dsimp only); change wpQuiet _ _ _ _ (_ :: _ :: _ :: _ :: _ :: _ :: _ :: _ :: _ :: []) _; (repeat (go_big_quiet_step (fail))); refine wpQuiet_nil ?_; (try dsimp only))
  clear r0 rb1
  go_wp2_with fail
  refine ⟨HS4.out, ?_⟩
  (unfold wpMix wpRd; (repeat (first | simp only [List.filterMap_cons] | simp only [List.filterMap_nil] | simp only [List.getElem?_toArray] | simp only [List.getElem?_cons_zero] | simp only [List.getElem?_cons_succ])); (try dsimp only); change wpQuiet _ _ _ _ ([]) _; (repeat (go_big_quiet_step (fail))); refine wpQuiet_nil ?_; (try dsimp only))
  go_wp2_with fail
  refine (carry_any (CutIn j d w.heap.size (w.heap.size + 1) (w.heap.size + 1 + 1) J p (cutA 1 A1 c1 k) (c1 - k) (v1.drop k) (J.recs.drop k)) j d g4 _ J D HCI4.out.jat HD4.out HCI4.out (fun g w g' w' h hx => h.ext hx hne) _ 3 [sCut J w.heap.size (w.heap.size + 1) (w.heap.size + 1 + 1) p (J.recs.drop k), sRep J j, sSync d] HRD4.out (by
    simp only [List.mem_cons, List.not_mem_nil, or_false, forall_eq_or_imp, forall_eq]
    exact ⟨sCut_ok HOK.out j d _ _ _ p _ _ _ _ (by omega) (fun r hr => HOK.out.rl r (List.mem_append_left _ (List.mem_of_mem_drop hr))) (by rw [List.length_drop]; omega), sRep_ok' HOK.out j d _ (fun g w h => h.jat), sSync_ok _ d⟩) (hpre k _ _ _ hk) (by simp)).mono ?_
  rintro e w5 ⟨rfl, hP⟩
  obtain ⟨g5, hx5, hJ5, hD5⟩ := hP
  have hjl := hJ.lt
  have hdl := hD.lt
  have hS5 : (fun x => x.cell? ⟨j, 0, none⟩ = some (.pointer (some ⟨d, 0, none⟩)) ∧ Blk w.heap.size 28 [.pointer (some ⟨j, 0, none⟩)] x) w5 := by
    refine ⟨?_, HCI4.out.bx.ext hx5 (by rw [o1']; omega)⟩
    obtain ⟨B1, e1, u1, B2, e2, u2, hb, hi⟩ := hJ5
    exact hb.cell 0
  have HY5 : Hid (Blk (w.heap.size + 1) 3 [.int .i64 p] w5) := HCI4.out.by'.ext hx5 (by rw [o2']; omega)
  have HZ5 : Hid (Blk (w.heap.size + 1 + 1) 33 [.slice (cutA 1 A1 c1 k) (J.recs.drop k).length (c1 - k)] w5) := HCI4.out.bz.ext hx5 (by rw [o3']; omega)
  have HR5 := Lib.hid (HR4.out.ext hx5)
  have HQ5 := Lib.hid (HQ4.out.ext hx5)
  have HKR5 := Lib.hid (HCI4.out.rd.ext hx5)
  have HKQ5 := Lib.hid (HCI4.out.rr.ext hx5)
  have HX5 := Lib.hid ((HX4.out.imp (fun _ h => h.elim)).trans hx5)
  have HJ5 := Lib.hid hJ5
  have HD5 := Lib.hid hD5
  have p1 : g5.O w.heap.size = w.heap.size := (hx5.own _ HCI4.out.bx.lt).trans o1'
  have p2 : g5.O (w.heap.size + 1) = w.heap.size + 1 := (hx5.own _ HCI4.out.by'.lt).trans o2'
  have p3 : g5.O (w.heap.size + 1 + 1) = w.heap.size + 1 + 1 := (hx5.own _ HCI4.out.bz.lt).trans o3'
  clear hx5 hJ5 hD5 HCI4 HR4 HQ4 HX4 HRD4 HD4 HS4 hS o1' o2' o3' o1 o2 o3 HCI3 HD3 HR3 HQ3 HX3
  rw [cutS_I] at HJ5
  rw [cutS_I]
  rw [cutS_D] at HD5
  have HE : Hid (∃ i, carryI (cutS J j d p k) D = i) := ⟨_, rfl⟩
  have HE2 : Hid (∃ i, carryD (cutS J j d p k) D = i) := ⟨_, rfl⟩
  obtain ⟨ci, hci⟩ := HE.out
  obtain ⟨cd, hcd⟩ := HE2.out
  have HCI := Lib.hid hci
  have HCD := Lib.hid hcd
  rw [hci] at HJ5
  rw [hci]
  rw [hcd] at HD5
  clear hci hcd HE HE2
  go_wp2_with fail
  refine ⟨hS5, ?_⟩
  (unfold wpMix wpRd; (repeat (first | simp only [List.filterMap_cons] | simp only [List.filterMap_nil] | simp only [List.getElem?_toArray] | simp only [List.getElem?_cons_zero] | simp only [List.getElem?_cons_succ])); (try dsimp only); change wpQuiet _ _ _ _ (_ :: []) _; (repeat (go_big_quiet_step (fail))); refine wpQuiet_nil ?_; (try dsimp only))
  by_cases hc : ci = 0
  · subst hc
    go_wp2_with fail
    have hJ5 : JAt g5 w5 j d J := HJ5.out
    obtain ⟨B1, e1, u1, B2, e2, u2, hb5, hi5⟩ := hJ5
    have HB5 := Lib.hid hb5
    have HI5 := Lib.hid hi5
    have HX5' := Lib.hid hS5.2
    clear hb5 hi5 hS5
    go_loopw [72] (fun i wr => ∃ n : Nat, n ≤ k ∧ i = .int .i64 n ∧ Ext (· = j) g5 w5 g5 wr ∧ JIn g5 wr j B1 e1 u1 B2 e2 u2 J ∧ Blk j 66 (jCs d B1 e1 B2 e2 { J with bytes := J.bytes - lens (J.recs.take n) }) wr) (fun i _ => k - (intOf i).toNat)
    case atStart => exact ⟨0, Nat.zero_le _, rfl, Ext.refl _ _ _, HI5.out, by simpa [lens] using HB5.out⟩
    case round =>
      obtain ⟨n, hn, rfl, hx, hi, hb⟩ := hrel
      have HX6 := Lib.hid hx
      have HI6 := Lib.hid hi
      have HB6 := Lib.hid hb
      have HBX6 := Lib.hid (HX5'.out.ext hx (by rw [p1]; omega))
      have HBY6 := Lib.hid (HY5.out.ext hx (by rw [p2]; omega))
      have HBZ6 := Lib.hid (HZ5.out.ext hx (by rw [p3]; omega))
      have HR6 := Lib.hid (HR5.out.ext hx)
      have HQ6 := Lib.hid (HQ5.out.ext hx)
      have qx : wr.cell? ⟨w.heap.size, 0, none⟩ = some (.pointer (some ⟨j, 0, none⟩)) := HBX6.out.cell 0
      have q5 : wr.cell? ⟨j, 5, none⟩ = some (.int .i64 (J.bytes - lens (J.recs.take n))) := hb.cell 5
      have z := hb.fz
      have hlt0 := lens_take J.recs n
      have hlt1 := lens_take J.recs (n + 1)
      clear hx hi hb
      by_cases hlt : n < k
      · have hlt' : n < J.recs.length := by omega
        obtain ⟨v, hv, hbv⟩ := HQ6.out.get hlt'
        obtain ⟨b, off, rfl, _, _, hc⟩ := HR6.out.at_ (by omega)
        have hcell := hc n _ hv
        obtain ⟨Ar, cr, rfl, _⟩ := hbv.ex
        have hsn := lens_snoc hlt'
        clear hc hv hbv
        generalize (J.recs[n]).length = rl at *
        generalize hL1 : lens (J.recs.take (n + 1)) = L1 at *
        generalize hL0 : lens (J.recs.take n) = L0 at *
        go_wp2_with fail
        go_round
        case rel =>
          obtain ⟨hx5, hi5⟩ := HI6.out.self (grownBy_setCell wr ⟨j, 5, none⟩ (.int .i64 (J.bytes - L0 - rl)))
          refine ⟨n + 1, by omega, by go_num, HX6.out.trans hx5, hi5, ?_⟩
          have := HB6.out.set 5 (.int .i64 (J.bytes - L0 - rl))
          have e : J.bytes - (L1 : Int) = J.bytes - L0 - rl := by omega
          rw [hL1, e]
          simpa [jCs] using this
        case measure => simp [intOf]; omega
      · obtain rfl : n = k := by omega
        go_wp2_with fail
        have hxd : Ext (fun _ => False) g5 wr g5 wr.drew := (Ext.refl _ _ _).drew
        have HKR6 := Lib.hid ((HKR5.out.ext HX6.out).ext hxd)
        have HKQ6 := Lib.hid ((HKQ5.out.ext HX6.out).ext hxd)
        have HI7 := Lib.hid (HI6.out.ext hxd (fun h => h) HB6.out.lt)
        have HXX := Lib.hid (hxd.imp (M' := (· = j)) (fun _ h => h.elim))
        have HZZ : Hid (cutA 1 A1 c1 n = none → (J.recs.drop n).length = 0) := fun h => by
          rcases Nat.eq_zero_or_pos (J.recs.drop n).length with h' | h'
          · exact h'
          · obtain ⟨b, off, hA, _⟩ := HKR6.out.at_ h'
            rw [h] at hA; cases hA
        rw [List.length_drop] at HBZ6
        have hS : (fun x => Blk w.heap.size 28 [.pointer (some ⟨j, 0, none⟩)] x ∧ Blk (w.heap.size + 1) 3 [.int .i64 p] x ∧ Blk (w.heap.size + 1 + 1) 33 [.slice (cutA 1 A1 c1 n) (J.recs.length - n) (c1 - n)] x) wr.drew := ⟨HBX6.out, HBY6.out, HBZ6.out⟩
        have HSB := Lib.hid HB6.out
        clear hxd HKR5 HKQ5 qx q5 z hlt0 hlt1
        (refine wp_region_mix (S := fun x => Blk w.heap.size 28 [.pointer (some ⟨j, 0, none⟩)] x ∧ Blk (w.heap.size + 1) 3 [.int .i64 p] x ∧ Blk (w.heap.size + 1 + 1) 33 [.slice (cutA 1 A1 c1 n) (J.recs.length - n) (c1 - n)] x) [] [([0, 1, 2, 3, 4], 5), ([6, 7], 8), ([9, 10], 11), ([12, 13], 14)] (by kernel_rfl) (by kernel_rfl) (by intro c a d v w h; cases d <;> exact h) hS ?_; have hN : Nonempty (Held (fun x => Blk w.heap.size 28 [.pointer (some ⟨j, 0, none⟩)] x ∧ Blk (w.heap.size + 1) 3 [.int .i64 p] x ∧ Blk (w.heap.size + 1 + 1) 33 [.slice (cutA 1 A1 c1 n) (J.recs.length - n) (c1 - n)] x)) := ⟨⟨_, hS⟩⟩)
        have rx : ∀ y : Held (fun x => Blk w.heap.size 28 [.pointer (some ⟨j, 0, none⟩)] x ∧ Blk (w.heap.size + 1) 3 [.int .i64 p] x ∧ Blk (w.heap.size + 1 + 1) 33 [.slice (cutA 1 A1 c1 n) (J.recs.length - n) (c1 - n)] x), y.w.cell? ⟨w.heap.size, 0, none⟩ = some (.pointer (some ⟨j, 0, none⟩)) := fun y => y.ok.1.cell 0
        have ry : ∀ y : Held (fun x => Blk w.heap.size 28 [.pointer (some ⟨j, 0, none⟩)] x ∧ Blk (w.heap.size + 1) 3 [.int .i64 p] x ∧ Blk (w.heap.size + 1 + 1) 33 [.slice (cutA 1 A1 c1 n) (J.recs.length - n) (c1 - n)] x), y.w.cell? ⟨w.heap.size + 1, 0, none⟩ = some (.int .i64 p) := fun y => y.ok.2.1.cell 0
        have rz : ∀ y : Held (fun x => Blk w.heap.size 28 [.pointer (some ⟨j, 0, none⟩)] x ∧ Blk (w.heap.size + 1) 3 [.int .i64 p] x ∧ Blk (w.heap.size + 1 + 1) 33 [.slice (cutA 1 A1 c1 n) (J.recs.length - n) (c1 - n)] x), y.w.cell? ⟨w.heap.size + 1 + 1, 0, none⟩ = some (.slice (cutA 1 A1 c1 n) (J.recs.length - n) (c1 - n)) := fun y => y.ok.2.2.cell 0
        (unfold wpMix wpRd; (repeat (first | simp only [List.filterMap_cons] | simp only [List.filterMap_nil] | simp only [List.getElem?_toArray] | simp only [List.getElem?_cons_zero] | simp only [List.getElem?_cons_succ])); (try dsimp only); change wpQuiet _ _ _ _ (_ :: _ :: _ :: _ :: _ :: []) _; (repeat (go_big_quiet_step (fail))); refine wpQuiet_nil ?_; (try dsimp only))
        clear rx ry rz
        go_wp2_with fail
        (try rw [← List.length_drop])
        refine (cloneR_any j g5 (cutA 1 A1 c1 n) (J.recs.drop n).length (c1 - n) (v1.drop n) _ HKR6.out HZZ.out HKQ6.out.one (by rw [List.length_drop]; omega)).mono ?_
        rintro e w6 ⟨A', cap', g6, rfl, hb2, hF2, hO2, ha2, _, hnew⟩
        have hS6 : (fun x => Blk w.heap.size 28 [.pointer (some ⟨j, 0, none⟩)] x ∧ Blk (w.heap.size + 1) 3 [.int .i64 p] x ∧ Blk (w.heap.size + 1 + 1) 33 [.slice (cutA 1 A1 c1 n) (J.recs.length - n) (c1 - n)] x) w6 := ⟨hS.1.below hb2, hS.2.1.below hb2, hS.2.2.below hb2⟩
        have hB6 := (show Blk j 66 (jCs d B1 e1 B2 e2 { J with bytes := J.bytes - lens (J.recs.take n) }) wr.drew from HSB.out).below hb2
        have q2 : w6.cell? ⟨j, 2, none⟩ = some (.int .i64 J.start) := hB6.cell 2
        have q3 : w6.cell? ⟨j, 3, none⟩ = some (.slice B1 J.recs.length e1) := hB6.cell 3
        have q6 : w6.cell? ⟨j, 6, none⟩ = some (.bool J.whole) := hB6.cell 6
        have z6 := hB6.fz
        go_wp2_with fail
        refine ⟨hS6, ?_⟩
        (unfold wpMix wpRd; (repeat (first | simp only [List.filterMap_cons] | simp only [List.filterMap_nil] | simp only [List.getElem?_toArray] | simp only [List.getElem?_cons_zero] | simp only [List.getElem?_cons_succ])); (try dsimp only); change wpQuiet _ _ _ _ (_ :: _ :: []) _; (repeat (go_big_quiet_step (fail))); refine wpQuiet_nil ?_; (try dsimp only))
        go_wp2_with fail
        refine ⟨⟨hS6.1.far (show w.heap.size ≠ j by omega) _, hS6.2.1.far (show w.heap.size + 1 ≠ j by omega) _, hS6.2.2.far (show w.heap.size + 1 + 1 ≠ j by omega) _⟩, ?_⟩
        (unfold wpMix wpRd; (repeat (first | simp only [List.filterMap_cons] | simp only [List.filterMap_nil] | simp only [List.getElem?_toArray] | simp only [List.getElem?_cons_zero] | simp only [List.getElem?_cons_succ])); (try dsimp only); change wpQuiet _ _ _ _ (_ :: _ :: []) _; (repeat (go_big_quiet_step (fail))); refine wpQuiet_nil ?_; (try dsimp only))
        go_wp2_with fail
        refine ⟨⟨Blk.far (Blk.far (hS6.1) (show w.heap.size ≠ j by omega) _) (show w.heap.size ≠ j by omega) _, Blk.far (Blk.far (hS6.2.1) (show w.heap.size + 1 ≠ j by omega) _) (show w.heap.size + 1 ≠ j by omega) _, Blk.far (Blk.far (hS6.2.2) (show w.heap.size + 1 + 1 ≠ j by omega) _) (show w.heap.size + 1 + 1 ≠ j by omega) _⟩, ?_⟩
        (unfold wpMix wpRd; (repeat (first | simp only [List.filterMap_cons] | simp only [List.filterMap_nil] | simp only [List.getElem?_toArray] | simp only [List.getElem?_cons_zero] | simp only [List.getElem?_cons_succ])); (try dsimp only); change wpQuiet _ _ _ _ (_ :: _ :: []) _; (repeat (go_big_quiet_step (fail))); refine wpQuiet_nil ?_; (try dsimp only))
        go_wp2_with fail
        refine ⟨⟨Blk.far (Blk.far (Blk.far (hS6.1) (show w.heap.size ≠ j by omega) _) (show w.heap.size ≠ j by omega) _) (show w.heap.size ≠ j by omega) _, Blk.far (Blk.far (Blk.far (hS6.2.1) (show w.heap.size + 1 ≠ j by omega) _) (show w.heap.size + 1 ≠ j by omega) _) (show w.heap.size + 1 ≠ j by omega) _, Blk.far (Blk.far (Blk.far (hS6.2.2) (show w.heap.size + 1 + 1 ≠ j by omega) _) (show w.heap.size + 1 + 1 ≠ j by omega) _) (show w.heap.size + 1 + 1 ≠ j by omega) _⟩, ?_⟩
        (unfold wpMix wpRd; (repeat (first | simp only [List.filterMap_cons] | simp only [List.filterMap_nil] | simp only [List.getElem?_toArray] | simp only [List.getElem?_cons_zero] | simp only [List.getElem?_cons_succ])); (try dsimp only); change wpQuiet _ _ _ _ ([]) _; (repeat (go_big_quiet_step (fail))); refine wpQuiet_nil ?_; (try dsimp only))
        clear hN
        go_wp2_with fail
        go_ret
        refine ⟨n, hk, by rw [HCI.out]; rfl, ?_⟩
        rw [HCI.out, HCD.out]
        unfold cutJ
        rw [if_pos rfl]
        have hx6 : Ext (fun _ => False) g5 wr.drew g6 w6 := (Ext.of_below (fun _ => False) g5 hb2).up hF2 hO2
        have hi6 := HI7.out.cutOff (by exact HB6.out.lt) hx6 ha2 HKQ6.out hnew p (J.bytes - lens (J.recs.take n)) true
        obtain ⟨y1, hi7⟩ := hi6.self (grownBy_setCell w6 ⟨j, 2, none⟩ (.int .i64 p))
        obtain ⟨y2, hi8⟩ := hi7.self (grownBy_setCell _ ⟨j, 3, none⟩ (.slice A' (J.recs.length - n) cap'))
        obtain ⟨y3, hi9⟩ := hi8.self (grownBy_setCell _ ⟨j, 6, none⟩ (.bool true))
        have y := (((HX6.out.trans HXX.out).trans (hx6.imp (fun _ h => h.elim))).trans y1).trans (y2.trans y3)
        refine ⟨g6, HX5.out.trans (y.imp (fun _ h => .inr h)), ⟨A', cap', _, B2, e2, u2, ?_, hi9⟩, HD5.out.ext y (fun e => hne e.symm)⟩
        have := ((hB6.set 2 (.int .i64 p)).set 3 (.slice A' (J.recs.length - n) cap')).set 6 (.bool true)
        simpa [jCs] using this
  · go_wp2_with fail
    go_ret
    refine ⟨k, hk, by rw [HCI.out]; rfl, ?_⟩
    rw [HCI.out, HCD.out]
    unfold cutJ
    rw [if_neg hc]
    exact ⟨g5, HX5.out, HJ5.out, HD5.out⟩

end Go.Proofs.Ythjbaafbkalomaa
