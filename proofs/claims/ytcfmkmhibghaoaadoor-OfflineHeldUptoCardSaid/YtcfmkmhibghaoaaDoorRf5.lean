/-
  The reference's table of leases: Do makes the call that an operation names.
-/
import Derived.Test.YtcfmkmhibghaoaaDoorRf4
namespace Go.Proofs.YtcfmkmhibghaoaaDoor
open Go.RowKit

theorem use_is (p : ByteArray) : isPathB p = useB p := rfl
theorem racq_any (r lb : Nat) (R : RTab) (p hd : ByteArray) (n : Int) (w : World) (h : RAt r lb R w) (H : AcqH R p hd w) :
    Calls Tryd.prog 25 #[.pointer (some ⟨r, 0, none⟩), .string p, .string hd, .int .i64 n] w (RLeaseP r lb w (racq R p hd n)) := by
  unfold racq
  rw [use_is]
  cases hu : useB p
  · exact racq_path r lb R p hd n w h H hu
  rw [if_neg (by simp)]
  cases hm : isNameB hd
  · exact racq_name r lb R p hd n w h H hu hm
  rw [if_neg (by simp)]
  cases ht : isTermB n
  · exact racq_term r lb R p hd n w h H hu hm ht
  rw [if_neg (by simp)]
  cases hc : rcur p R.log with
  | none =>
    rw [rlk_none.2 hc]
    by_cases hf : 64 ≤ (curs R.log).length
    · simp only [hf, if_true]
      exact racq_full r lb R p hd n w h H hu hm ht hc hf
    · simp only [hf, if_false]
      exact racq_new r lb R p hd n w h H hu hm ht hc (by omega)
  | some i =>
    obtain ⟨x, cap, hx, _⟩ := h.cur hc
    rw [hx]
    dsimp only
    cases hv : hNow R.clk x.since x.til
    · rw [if_neg (by simp)]
      by_cases hf : 1073741824 ≤ x.fence
      · simp only [hf, if_true]
        exact racq_limit r lb R p hd n w h H hu hm ht hc hx hv hf
      · simp only [hf, if_false]
        exact racq_next r lb R p hd n w h H hu hm ht hc hx hv (by omega)
    · rw [if_pos rfl]
      exact racq_held r lb R p hd n w h H hu hm ht hc hx hv
theorem AcqH.of_g0 {R : RTab} {p hd : ByteArray} {w w' : World} (H : AcqH R p hd w) (hg : G0 w') : AcqH R p hd w' := ⟨H.g0, H.g1, H.f0, H.ps, H.ln, H.p0, H.h0, hg⟩
theorem AcqH.below {R : RTab} {p hd : ByteArray} {w w' : World} (H : AcqH R p hd w) (hb : Below w.heap.size w w') : AcqH R p hd w' := ⟨H.g0, H.g1, H.f0, H.ps, H.ln, H.p0, H.h0, H.mx.below hb⟩

set_option maxRecDepth 100000 in
set_option maxHeartbeats 800000 in
theorem rdo_acq (r lb : Nat) (R : RTab) (f n : Int) (p h : ByteArray) (w : World) (hT : RAt r lb R w) (H : AcqH R p h w) (res : RTab × Lease × Int) (hr : racq R p h n = res) :
    Calls Tryd.prog 11 #[.pointer (some ⟨r, 0, none⟩), .agg #[.int .i64 1, .string p, .string h, .int .i64 f, .int .i64 n]] w (RLeaseP r lb w res) := by
  have hb2 : Below w.heap.size w ((w.alloc (.cells #[.int .i64 1, .string p, .string h, .int .i64 f, .int .i64 n] 50)).alloc (.cells #[.string ⟨#[]⟩, .string ⟨#[]⟩, .int .i64 0, .int .i64 0, .int .i64 0] 26)) := ((Below.refl _ _).alloc (Nat.le_refl _) _).alloc (by simp) _
  have hT1 := hT.below hb2
  have H1 := H.below hb2
  have k1 := (Box5.new1 w (.cells #[.int .i64 1, .string p, .string h, .int .i64 f, .int .i64 n] 50) (.string ⟨#[]⟩) (.string ⟨#[]⟩) (.int .i64 0) (.int .i64 0) (.int .i64 0) 26).cell5
  have l1 := hT.rlt
  have l2 := hT.lt
  have o1 : Only r lb w ((w.alloc (.cells #[.int .i64 1, .string p, .string h, .int .i64 f, .int .i64 n] 50)).alloc (.cells #[.string ⟨#[]⟩, .string ⟨#[]⟩, .int .i64 0, .int .i64 0, .int .i64 0] 26)) := Only.of_below hb2
  have HR := Lib.hid hr
  clear hr hb2
  go_enter Tryd.func11, Tryd.ntmps11
  go_wp2_with fail
  refine (racq_any r lb R p h n _ hT1 H1).mono ?_
  rw [HR.out]
  obtain ⟨R', ⟨lp, lh, lf, ls, lu⟩, er⟩ := res
  rintro e w1 ⟨lb', rfl, hT2, hO, hor⟩
  dsimp only [Lease.val] at hT2 ⊢
  have k2 := k1.only hO (by omega) (by omega)
  have o2 := o1.trans hO
  have hlw : lb' ≠ w.heap.size + 1 := by
    rcases hor with h | h
    · omega
    · simp at h; omega
  have hl0 : lb' = lb ∨ w.heap.size ≤ lb' := hor.imp id (fun h => by simp at h; omega)
  have hrw : r ≠ w.heap.size + 1 := by omega
  (have k2' := k2; obtain ⟨d0, d1, d2, d3, d4, lt_k2, fz_k2⟩ := k2')
  clear hor
  go_wp2_with fail
  refine bodyPost_ret (v := .tuple #[.agg #[.string lp, .string lh, .int .i64 lf, .int .i64 ls, .int .i64 lu], .int .i64 er]) (by simp [results, Tryd.results11, go_sem, d0, d1, d2, d3, d4]) rfl ⟨lb', rfl, ?_, ?_, hl0⟩
  · exact ((((hT2.far hrw hlw _).far hrw hlw _).far hrw hlw _).far hrw hlw _).far hrw hlw _
  · exact ((((o2.far (by dsimp only; omega) _).far (by dsimp only; omega) _).far (by dsimp only; omega) _).far (by dsimp only; omega) _).far (by dsimp only; omega) _

set_option maxRecDepth 100000 in
set_option maxHeartbeats 800000 in
theorem rdo_ren (r lb : Nat) (R : RTab) (f n : Int) (p h : ByteArray) (w : World) (hT : RAt r lb R w) (H : AcqH R p h w) (res : RTab × Lease × Int) (hr : rren R p h f n = res) :
    Calls Tryd.prog 11 #[.pointer (some ⟨r, 0, none⟩), .agg #[.int .i64 2, .string p, .string h, .int .i64 f, .int .i64 n]] w (RLeaseP r lb w res) := by
  have hb2 : Below w.heap.size w ((w.alloc (.cells #[.int .i64 2, .string p, .string h, .int .i64 f, .int .i64 n] 50)).alloc (.cells #[.string ⟨#[]⟩, .string ⟨#[]⟩, .int .i64 0, .int .i64 0, .int .i64 0] 26)) := ((Below.refl _ _).alloc (Nat.le_refl _) _).alloc (by simp) _
  have hT1 := hT.below hb2
  have H1 := H.below hb2
  have k1 := (Box5.new1 w (.cells #[.int .i64 2, .string p, .string h, .int .i64 f, .int .i64 n] 50) (.string ⟨#[]⟩) (.string ⟨#[]⟩) (.int .i64 0) (.int .i64 0) (.int .i64 0) 26).cell5
  have l1 := hT.rlt
  have l2 := hT.lt
  have o1 : Only r lb w ((w.alloc (.cells #[.int .i64 2, .string p, .string h, .int .i64 f, .int .i64 n] 50)).alloc (.cells #[.string ⟨#[]⟩, .string ⟨#[]⟩, .int .i64 0, .int .i64 0, .int .i64 0] 26)) := Only.of_below hb2
  have HR := Lib.hid hr
  clear hr hb2
  go_enter Tryd.func11, Tryd.ntmps11
  go_wp2_with fail
  refine (rren_any r lb R p h f n _ hT1 H1.g0 H1.g1).mono ?_
  rw [HR.out]
  obtain ⟨R', ⟨lp, lh, lf, ls, lu⟩, er⟩ := res
  rintro e w1 ⟨lb', rfl, hT2, hO, hor⟩
  dsimp only [Lease.val] at hT2 ⊢
  have k2 := k1.only hO (by omega) (by omega)
  have o2 := o1.trans hO
  have hlw : lb' ≠ w.heap.size + 1 := by
    rcases hor with h | h
    · omega
    · simp at h; omega
  have hl0 : lb' = lb ∨ w.heap.size ≤ lb' := hor.imp id (fun h => by simp at h; omega)
  have hrw : r ≠ w.heap.size + 1 := by omega
  (have k2' := k2; obtain ⟨d0, d1, d2, d3, d4, lt_k2, fz_k2⟩ := k2')
  clear hor
  go_wp2_with fail
  refine bodyPost_ret (v := .tuple #[.agg #[.string lp, .string lh, .int .i64 lf, .int .i64 ls, .int .i64 lu], .int .i64 er]) (by simp [results, Tryd.results11, go_sem, d0, d1, d2, d3, d4]) rfl ⟨lb', rfl, ?_, ?_, hl0⟩
  · exact ((((hT2.far hrw hlw _).far hrw hlw _).far hrw hlw _).far hrw hlw _).far hrw hlw _
  · exact ((((o2.far (by dsimp only; omega) _).far (by dsimp only; omega) _).far (by dsimp only; omega) _).far (by dsimp only; omega) _).far (by dsimp only; omega) _

set_option maxRecDepth 100000 in
set_option maxHeartbeats 800000 in
theorem rdo_rel (r lb : Nat) (R : RTab) (f n : Int) (p h : ByteArray) (w : World) (hT : RAt r lb R w) (H : AcqH R p h w) (res : RTab × Lease × Int) (q : RTab × Int) (hr : rrel R p h f = q) (hq : res = (q.1, zeroL, q.2)) :
    Calls Tryd.prog 11 #[.pointer (some ⟨r, 0, none⟩), .agg #[.int .i64 3, .string p, .string h, .int .i64 f, .int .i64 n]] w (RLeaseP r lb w res) := by
  have hb2 : Below w.heap.size w ((w.alloc (.cells #[.int .i64 3, .string p, .string h, .int .i64 f, .int .i64 n] 50)).alloc (.cells #[.string ⟨#[]⟩, .string ⟨#[]⟩, .int .i64 0, .int .i64 0, .int .i64 0] 26)) := ((Below.refl _ _).alloc (Nat.le_refl _) _).alloc (by simp) _
  have hT1 := hT.below hb2
  have H1 := H.below hb2
  have k1 := (Box5.new1 w (.cells #[.int .i64 3, .string p, .string h, .int .i64 f, .int .i64 n] 50) (.string ⟨#[]⟩) (.string ⟨#[]⟩) (.int .i64 0) (.int .i64 0) (.int .i64 0) 26).cell5
  have l1 := hT.rlt
  have l2 := hT.lt
  have o1 : Only r lb w ((w.alloc (.cells #[.int .i64 3, .string p, .string h, .int .i64 f, .int .i64 n] 50)).alloc (.cells #[.string ⟨#[]⟩, .string ⟨#[]⟩, .int .i64 0, .int .i64 0, .int .i64 0] 26)) := Only.of_below hb2
  have HR := Lib.hid hr
  clear hr hb2
  subst hq
  go_enter Tryd.func11, Tryd.ntmps11
  go_wp2_with fail
  refine (rrel_any r lb R p h f _ hT1).mono ?_
  rw [HR.out]
  obtain ⟨R', er⟩ := q
  rintro e w1 ⟨rfl, hT2, hO⟩
  obtain ⟨lb', hlb⟩ : ∃ lb', lb' = lb := ⟨_, rfl⟩
  rw [← hlb] at hT2
  have hor : lb' = lb ∨ ((w.alloc (.cells #[.int .i64 3, .string p, .string h, .int .i64 f, .int .i64 n] 50)).alloc (.cells #[.string ⟨#[]⟩, .string ⟨#[]⟩, .int .i64 0, .int .i64 0, .int .i64 0] 26)).heap.size ≤ lb' := .inl hlb
  clear hlb
  dsimp only at hT2 ⊢
  have k2 := k1.only hO (by omega) (by omega)
  have o2 := o1.trans hO
  have hlw : lb' ≠ w.heap.size + 1 := by
    rcases hor with h | h
    · omega
    · simp at h; omega
  have hl0 : lb' = lb ∨ w.heap.size ≤ lb' := hor.imp id (fun h => by simp at h; omega)
  have hrw : r ≠ w.heap.size + 1 := by omega
  (have k2' := k2; obtain ⟨d0, d1, d2, d3, d4, lt_k2, fz_k2⟩ := k2')
  clear hor
  go_wp2_with fail
  refine bodyPost_ret (v := .tuple #[.agg #[.string ⟨#[]⟩, .string ⟨#[]⟩, .int .i64 0, .int .i64 0, .int .i64 0], .int .i64 er]) (by simp [results, Tryd.results11, go_sem, d0, d1, d2, d3, d4]) rfl ⟨lb', rfl, ?_, ?_, hl0⟩
  · exact ((((hT2.far hrw hlw _).far hrw hlw _).far hrw hlw _).far hrw hlw _).far hrw hlw _
  · exact ((((o2.far (by dsimp only; omega) _).far (by dsimp only; omega) _).far (by dsimp only; omega) _).far (by dsimp only; omega) _).far (by dsimp only; omega) _

set_option maxRecDepth 100000 in
set_option maxHeartbeats 800000 in
theorem rdo_brk (r lb : Nat) (R : RTab) (f n : Int) (p h : ByteArray) (w : World) (hT : RAt r lb R w) (H : AcqH R p h w) (res : RTab × Lease × Int) (q : RTab × Int) (hr : rbrk R p = q) (hq : res = (q.1, zeroL, q.2)) :
    Calls Tryd.prog 11 #[.pointer (some ⟨r, 0, none⟩), .agg #[.int .i64 4, .string p, .string h, .int .i64 f, .int .i64 n]] w (RLeaseP r lb w res) := by
  have hb2 : Below w.heap.size w ((w.alloc (.cells #[.int .i64 4, .string p, .string h, .int .i64 f, .int .i64 n] 50)).alloc (.cells #[.string ⟨#[]⟩, .string ⟨#[]⟩, .int .i64 0, .int .i64 0, .int .i64 0] 26)) := ((Below.refl _ _).alloc (Nat.le_refl _) _).alloc (by simp) _
  have hT1 := hT.below hb2
  have H1 := H.below hb2
  have k1 := (Box5.new1 w (.cells #[.int .i64 4, .string p, .string h, .int .i64 f, .int .i64 n] 50) (.string ⟨#[]⟩) (.string ⟨#[]⟩) (.int .i64 0) (.int .i64 0) (.int .i64 0) 26).cell5
  have l1 := hT.rlt
  have l2 := hT.lt
  have o1 : Only r lb w ((w.alloc (.cells #[.int .i64 4, .string p, .string h, .int .i64 f, .int .i64 n] 50)).alloc (.cells #[.string ⟨#[]⟩, .string ⟨#[]⟩, .int .i64 0, .int .i64 0, .int .i64 0] 26)) := Only.of_below hb2
  have HR := Lib.hid hr
  clear hr hb2
  subst hq
  go_enter Tryd.func11, Tryd.ntmps11
  go_wp2_with fail
  refine (rbrk_any r lb R p _ hT1).mono ?_
  rw [HR.out]
  obtain ⟨R', er⟩ := q
  rintro e w1 ⟨rfl, hT2, hO⟩
  obtain ⟨lb', hlb⟩ : ∃ lb', lb' = lb := ⟨_, rfl⟩
  rw [← hlb] at hT2
  have hor : lb' = lb ∨ ((w.alloc (.cells #[.int .i64 4, .string p, .string h, .int .i64 f, .int .i64 n] 50)).alloc (.cells #[.string ⟨#[]⟩, .string ⟨#[]⟩, .int .i64 0, .int .i64 0, .int .i64 0] 26)).heap.size ≤ lb' := .inl hlb
  clear hlb
  dsimp only at hT2 ⊢
  have k2 := k1.only hO (by omega) (by omega)
  have o2 := o1.trans hO
  have hlw : lb' ≠ w.heap.size + 1 := by
    rcases hor with h | h
    · omega
    · simp at h; omega
  have hl0 : lb' = lb ∨ w.heap.size ≤ lb' := hor.imp id (fun h => by simp at h; omega)
  have hrw : r ≠ w.heap.size + 1 := by omega
  (have k2' := k2; obtain ⟨d0, d1, d2, d3, d4, lt_k2, fz_k2⟩ := k2')
  clear hor
  go_wp2_with fail
  refine bodyPost_ret (v := .tuple #[.agg #[.string ⟨#[]⟩, .string ⟨#[]⟩, .int .i64 0, .int .i64 0, .int .i64 0], .int .i64 er]) (by simp [results, Tryd.results11, go_sem, d0, d1, d2, d3, d4]) rfl ⟨lb', rfl, ?_, ?_, hl0⟩
  · exact ((((hT2.far hrw hlw _).far hrw hlw _).far hrw hlw _).far hrw hlw _).far hrw hlw _
  · exact ((((o2.far (by dsimp only; omega) _).far (by dsimp only; omega) _).far (by dsimp only; omega) _).far (by dsimp only; omega) _).far (by dsimp only; omega) _

set_option maxRecDepth 100000 in
set_option maxHeartbeats 800000 in
theorem rdo_adv (r lb : Nat) (R : RTab) (kd : Int) (f n : Int) (p h : ByteArray) (w : World) (hT : RAt r lb R w) (H : AcqH R p h w) (n1 : (kd == 1) = false) (n2 : (kd == 2) = false) (n3 : (kd == 3) = false) (n4 : (kd == 4) = false) (res : RTab × Lease × Int) (q : RTab × Int) (hr : radv R n = q) (hq : res = (q.1, zeroL, q.2)) :
    Calls Tryd.prog 11 #[.pointer (some ⟨r, 0, none⟩), .agg #[.int .i64 kd, .string p, .string h, .int .i64 f, .int .i64 n]] w (RLeaseP r lb w res) := by
  have hb2 : Below w.heap.size w ((w.alloc (.cells #[.int .i64 kd, .string p, .string h, .int .i64 f, .int .i64 n] 50)).alloc (.cells #[.string ⟨#[]⟩, .string ⟨#[]⟩, .int .i64 0, .int .i64 0, .int .i64 0] 26)) := ((Below.refl _ _).alloc (Nat.le_refl _) _).alloc (by simp) _
  have hT1 := hT.below hb2
  have H1 := H.below hb2
  have k1 := (Box5.new1 w (.cells #[.int .i64 kd, .string p, .string h, .int .i64 f, .int .i64 n] 50) (.string ⟨#[]⟩) (.string ⟨#[]⟩) (.int .i64 0) (.int .i64 0) (.int .i64 0) 26).cell5
  have l1 := hT.rlt
  have l2 := hT.lt
  have o1 : Only r lb w ((w.alloc (.cells #[.int .i64 kd, .string p, .string h, .int .i64 f, .int .i64 n] 50)).alloc (.cells #[.string ⟨#[]⟩, .string ⟨#[]⟩, .int .i64 0, .int .i64 0, .int .i64 0] 26)) := Only.of_below hb2
  have HR := Lib.hid hr
  clear hr hb2
  subst hq
  go_enter Tryd.func11, Tryd.ntmps11
  go_wp2_with fail
  refine (radv_any r lb R n _ hT1 H1.g0 H1.g1).mono ?_
  rw [HR.out]
  obtain ⟨R', er⟩ := q
  rintro e w1 ⟨rfl, hT2, hO⟩
  obtain ⟨lb', hlb⟩ : ∃ lb', lb' = lb := ⟨_, rfl⟩
  rw [← hlb] at hT2
  have hor : lb' = lb ∨ ((w.alloc (.cells #[.int .i64 kd, .string p, .string h, .int .i64 f, .int .i64 n] 50)).alloc (.cells #[.string ⟨#[]⟩, .string ⟨#[]⟩, .int .i64 0, .int .i64 0, .int .i64 0] 26)).heap.size ≤ lb' := .inl hlb
  clear hlb
  dsimp only at hT2 ⊢
  have k2 := k1.only hO (by omega) (by omega)
  have o2 := o1.trans hO
  have hlw : lb' ≠ w.heap.size + 1 := by
    rcases hor with h | h
    · omega
    · simp at h; omega
  have hl0 : lb' = lb ∨ w.heap.size ≤ lb' := hor.imp id (fun h => by simp at h; omega)
  have hrw : r ≠ w.heap.size + 1 := by omega
  (have k2' := k2; obtain ⟨d0, d1, d2, d3, d4, lt_k2, fz_k2⟩ := k2')
  clear hor
  go_wp2_with fail
  refine bodyPost_ret (v := .tuple #[.agg #[.string ⟨#[]⟩, .string ⟨#[]⟩, .int .i64 0, .int .i64 0, .int .i64 0], .int .i64 er]) (by simp [results, Tryd.results11, go_sem, d0, d1, d2, d3, d4]) rfl ⟨lb', rfl, ?_, ?_, hl0⟩
  · exact ((((hT2.far hrw hlw _).far hrw hlw _).far hrw hlw _).far hrw hlw _).far hrw hlw _
  · exact ((((o2.far (by dsimp only; omega) _).far (by dsimp only; omega) _).far (by dsimp only; omega) _).far (by dsimp only; omega) _).far (by dsimp only; omega) _

theorem rdo_any (r lb : Nat) (R : RTab) (kd f n : Int) (p h : ByteArray) (w : World) (hT : RAt r lb R w) (H : AcqH R p h w) :
    Calls Tryd.prog 11 #[.pointer (some ⟨r, 0, none⟩), .agg #[.int .i64 kd, .string p, .string h, .int .i64 f, .int .i64 n]] w (RLeaseP r lb w (rdo R ⟨kd, p, h, f, n⟩)) := by
  by_cases h1 : kd = 1
  · subst h1
    exact rdo_acq r lb R f n p h w hT H _ (by simp [rdo])
  by_cases h2 : kd = 2
  · subst h2
    exact rdo_ren r lb R f n p h w hT H _ (by simp [rdo])
  by_cases h3 : kd = 3
  · subst h3
    exact rdo_rel r lb R f n p h w hT H _ _ rfl (by simp [rdo])
  by_cases h4 : kd = 4
  · subst h4
    exact rdo_brk r lb R f n p h w hT H _ _ rfl (by simp [rdo])
  · exact rdo_adv r lb R kd f n p h w hT H (by simpa using h1) (by simpa using h2) (by simpa using h3) (by simpa using h4) _ _ rfl (by simp [rdo, h1, h2, h3, h4])

end Go.Proofs.YtcfmkmhibghaoaaDoor
