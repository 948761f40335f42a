/-
  The walk of 'do': it makes the call that an operation names.
-/
import Derived.Test.YtphoodnclmplhaaDoorTab
namespace Go.Proofs.YtphoodnclmplhaaDoor
open Go.RowKit

set_option maxRecDepth 100000 in
set_option maxHeartbeats 800000 in
theorem do_acq (b m : Nat) (T : Tab) (f n : Int) (p h : ByteArray) (w : World) (hT : TabT b m T w) (ok : TabOk T) (r : Tab × Lease × Int) (hr : acqT T p h n = r) :
    Calls Tryd.prog 10 #[.pointer (some ⟨b, 0, none⟩), .agg #[.int .i64 1, .string p, .string h, .int .i64 f, .int .i64 n]] w (LeasePost b m w r) := by
  have hT1 := (TabAt.alloc hT (.cells #[.int .i64 1, .string p, .string h, .int .i64 f, .int .i64 n] 32)).alloc (.cells #[.string ⟨#[]⟩, .string ⟨#[]⟩, .int .i64 0, .int .i64 0, .int .i64 0] 34)
  have k1 := (Box5.new1 w (.cells #[.int .i64 1, .string p, .string h, .int .i64 f, .int .i64 n] 32) (.string ⟨#[]⟩) (.string ⟨#[]⟩) (.int .i64 0) (.int .i64 0) (.int .i64 0) 34).cell5
  have l1 := TabAt.lt hT
  have l2 := (TabAt.mp hT).lt
  have o1 : Only b m w ((w.alloc (.cells #[.int .i64 1, .string p, .string h, .int .i64 f, .int .i64 n] 32)).alloc (.cells #[.string ⟨#[]⟩, .string ⟨#[]⟩, .int .i64 0, .int .i64 0, .int .i64 0] 34)) := ((Only.refl b m w).alloc _).alloc _
  have HR := Lib.hid hr
  clear hr
  go_enter Tryd.func10, Tryd.ntmps10
  go_wp2_with fail
  refine (acq_post b m T p h n _ hT1 ok).mono ?_
  rw [HR.out]
  obtain ⟨T', ⟨lp, lh, lf, ls, lu⟩, er⟩ := r
  rintro e w1 ⟨rfl, hT2, hO⟩
  dsimp only [Lease.val] at hT2 ⊢
  have k2 := k1.only hO (by omega) (by omega)
  have o2 := o1.trans hO
  (have k2' := k2; obtain ⟨d0, d1, d2, d3, d4, lt_k2, fz_k2⟩ := k2')
  go_wp2_with fail
  refine bodyPost_ret (v := .tuple #[.agg #[.string lp, .string lh, .int .i64 lf, .int .i64 ls, .int .i64 lu], .int .i64 er]) (by simp [results, Tryd.results10, go_sem, d0, d1, d2, d3, d4]) rfl ⟨rfl, ?_, ?_⟩
  · exact ((((hT2.far (by dsimp only; omega) (by dsimp only; omega) _).far (by dsimp only; omega) (by dsimp only; omega) _).far (by dsimp only; omega) (by dsimp only; omega) _).far (by dsimp only; omega) (by dsimp only; omega) _).far (by dsimp only; omega) (by dsimp only; omega) _
  · exact ((((o2.far (by dsimp only; omega) _).far (by dsimp only; omega) _).far (by dsimp only; omega) _).far (by dsimp only; omega) _).far (by dsimp only; omega) _

set_option maxRecDepth 100000 in
set_option maxHeartbeats 800000 in
theorem do_ren (b m : Nat) (T : Tab) (f n : Int) (p h : ByteArray) (w : World) (hT : TabT b m T w) (ok : TabOk T) (r : Tab × Lease × Int) (hr : renT T p h f n = r) :
    Calls Tryd.prog 10 #[.pointer (some ⟨b, 0, none⟩), .agg #[.int .i64 2, .string p, .string h, .int .i64 f, .int .i64 n]] w (LeasePost b m w r) := by
  have hT1 := (TabAt.alloc hT (.cells #[.int .i64 2, .string p, .string h, .int .i64 f, .int .i64 n] 32)).alloc (.cells #[.string ⟨#[]⟩, .string ⟨#[]⟩, .int .i64 0, .int .i64 0, .int .i64 0] 34)
  have k1 := (Box5.new1 w (.cells #[.int .i64 2, .string p, .string h, .int .i64 f, .int .i64 n] 32) (.string ⟨#[]⟩) (.string ⟨#[]⟩) (.int .i64 0) (.int .i64 0) (.int .i64 0) 34).cell5
  have l1 := TabAt.lt hT
  have l2 := (TabAt.mp hT).lt
  have o1 : Only b m w ((w.alloc (.cells #[.int .i64 2, .string p, .string h, .int .i64 f, .int .i64 n] 32)).alloc (.cells #[.string ⟨#[]⟩, .string ⟨#[]⟩, .int .i64 0, .int .i64 0, .int .i64 0] 34)) := ((Only.refl b m w).alloc _).alloc _
  have HR := Lib.hid hr
  clear hr
  go_enter Tryd.func10, Tryd.ntmps10
  go_wp2_with fail
  refine (ren_post b m T p h f n _ hT1 ok).mono ?_
  rw [HR.out]
  obtain ⟨T', ⟨lp, lh, lf, ls, lu⟩, er⟩ := r
  rintro e w1 ⟨rfl, hT2, hO⟩
  dsimp only [Lease.val] at hT2 ⊢
  have k2 := k1.only hO (by omega) (by omega)
  have o2 := o1.trans hO
  (have k2' := k2; obtain ⟨d0, d1, d2, d3, d4, lt_k2, fz_k2⟩ := k2')
  go_wp2_with fail
  refine bodyPost_ret (v := .tuple #[.agg #[.string lp, .string lh, .int .i64 lf, .int .i64 ls, .int .i64 lu], .int .i64 er]) (by simp [results, Tryd.results10, go_sem, d0, d1, d2, d3, d4]) rfl ⟨rfl, ?_, ?_⟩
  · exact ((((hT2.far (by dsimp only; omega) (by dsimp only; omega) _).far (by dsimp only; omega) (by dsimp only; omega) _).far (by dsimp only; omega) (by dsimp only; omega) _).far (by dsimp only; omega) (by dsimp only; omega) _).far (by dsimp only; omega) (by dsimp only; omega) _
  · exact ((((o2.far (by dsimp only; omega) _).far (by dsimp only; omega) _).far (by dsimp only; omega) _).far (by dsimp only; omega) _).far (by dsimp only; omega) _

set_option maxRecDepth 100000 in
set_option maxHeartbeats 800000 in
theorem do_rel (b m : Nat) (T : Tab) (f n : Int) (p h : ByteArray) (w : World) (hT : TabT b m T w) (_ok : TabOk T) (r : Tab × Lease × Int) (q : Tab × Int) (hr : relT T p h f = q) (hq : r = (q.1, zeroL, q.2)) :
    Calls Tryd.prog 10 #[.pointer (some ⟨b, 0, none⟩), .agg #[.int .i64 3, .string p, .string h, .int .i64 f, .int .i64 n]] w (LeasePost b m w r) := by
  have hT1 := (TabAt.alloc hT (.cells #[.int .i64 3, .string p, .string h, .int .i64 f, .int .i64 n] 32)).alloc (.cells #[.string ⟨#[]⟩, .string ⟨#[]⟩, .int .i64 0, .int .i64 0, .int .i64 0] 34)
  have k1 := (Box5.new1 w (.cells #[.int .i64 3, .string p, .string h, .int .i64 f, .int .i64 n] 32) (.string ⟨#[]⟩) (.string ⟨#[]⟩) (.int .i64 0) (.int .i64 0) (.int .i64 0) 34).cell5
  have l1 := TabAt.lt hT
  have l2 := (TabAt.mp hT).lt
  have o1 : Only b m w ((w.alloc (.cells #[.int .i64 3, .string p, .string h, .int .i64 f, .int .i64 n] 32)).alloc (.cells #[.string ⟨#[]⟩, .string ⟨#[]⟩, .int .i64 0, .int .i64 0, .int .i64 0] 34)) := ((Only.refl b m w).alloc _).alloc _
  have HR := Lib.hid hr
  clear hr
  subst hq
  go_enter Tryd.func10, Tryd.ntmps10
  go_wp2_with fail
  refine (rel_post b m T p h f _ hT1).mono ?_
  rw [HR.out]
  obtain ⟨T', er⟩ := q
  rintro e w1 ⟨rfl, hT2, hO⟩
  dsimp only at hT2 ⊢
  have k2 := k1.only hO (by omega) (by omega)
  have o2 := o1.trans hO
  (have k2' := k2; obtain ⟨d0, d1, d2, d3, d4, lt_k2, fz_k2⟩ := k2')
  go_wp2_with fail
  refine bodyPost_ret (v := .tuple #[.agg #[.string ⟨#[]⟩, .string ⟨#[]⟩, .int .i64 0, .int .i64 0, .int .i64 0], .int .i64 er]) (by simp [results, Tryd.results10, go_sem, d0, d1, d2, d3, d4]) rfl ⟨rfl, ?_, ?_⟩
  · exact ((((hT2.far (by dsimp only; omega) (by dsimp only; omega) _).far (by dsimp only; omega) (by dsimp only; omega) _).far (by dsimp only; omega) (by dsimp only; omega) _).far (by dsimp only; omega) (by dsimp only; omega) _).far (by dsimp only; omega) (by dsimp only; omega) _
  · exact ((((o2.far (by dsimp only; omega) _).far (by dsimp only; omega) _).far (by dsimp only; omega) _).far (by dsimp only; omega) _).far (by dsimp only; omega) _

set_option maxRecDepth 100000 in
set_option maxHeartbeats 800000 in
theorem do_brk (b m : Nat) (T : Tab) (f n : Int) (p h : ByteArray) (w : World) (hT : TabT b m T w) (_ok : TabOk T) (r : Tab × Lease × Int) (q : Tab × Int) (hr : brkT T p = q) (hq : r = (q.1, zeroL, q.2)) :
    Calls Tryd.prog 10 #[.pointer (some ⟨b, 0, none⟩), .agg #[.int .i64 4, .string p, .string h, .int .i64 f, .int .i64 n]] w (LeasePost b m w r) := by
  have hT1 := (TabAt.alloc hT (.cells #[.int .i64 4, .string p, .string h, .int .i64 f, .int .i64 n] 32)).alloc (.cells #[.string ⟨#[]⟩, .string ⟨#[]⟩, .int .i64 0, .int .i64 0, .int .i64 0] 34)
  have k1 := (Box5.new1 w (.cells #[.int .i64 4, .string p, .string h, .int .i64 f, .int .i64 n] 32) (.string ⟨#[]⟩) (.string ⟨#[]⟩) (.int .i64 0) (.int .i64 0) (.int .i64 0) 34).cell5
  have l1 := TabAt.lt hT
  have l2 := (TabAt.mp hT).lt
  have o1 : Only b m w ((w.alloc (.cells #[.int .i64 4, .string p, .string h, .int .i64 f, .int .i64 n] 32)).alloc (.cells #[.string ⟨#[]⟩, .string ⟨#[]⟩, .int .i64 0, .int .i64 0, .int .i64 0] 34)) := ((Only.refl b m w).alloc _).alloc _
  have HR := Lib.hid hr
  clear hr
  subst hq
  go_enter Tryd.func10, Tryd.ntmps10
  go_wp2_with fail
  refine (brk_post b m T p _ hT1).mono ?_
  rw [HR.out]
  obtain ⟨T', er⟩ := q
  rintro e w1 ⟨rfl, hT2, hO⟩
  dsimp only at hT2 ⊢
  have k2 := k1.only hO (by omega) (by omega)
  have o2 := o1.trans hO
  (have k2' := k2; obtain ⟨d0, d1, d2, d3, d4, lt_k2, fz_k2⟩ := k2')
  go_wp2_with fail
  refine bodyPost_ret (v := .tuple #[.agg #[.string ⟨#[]⟩, .string ⟨#[]⟩, .int .i64 0, .int .i64 0, .int .i64 0], .int .i64 er]) (by simp [results, Tryd.results10, go_sem, d0, d1, d2, d3, d4]) rfl ⟨rfl, ?_, ?_⟩
  · exact ((((hT2.far (by dsimp only; omega) (by dsimp only; omega) _).far (by dsimp only; omega) (by dsimp only; omega) _).far (by dsimp only; omega) (by dsimp only; omega) _).far (by dsimp only; omega) (by dsimp only; omega) _).far (by dsimp only; omega) (by dsimp only; omega) _
  · exact ((((o2.far (by dsimp only; omega) _).far (by dsimp only; omega) _).far (by dsimp only; omega) _).far (by dsimp only; omega) _).far (by dsimp only; omega) _

set_option maxRecDepth 100000 in
set_option maxHeartbeats 800000 in
theorem do_adv (b m : Nat) (T : Tab) (kd f n : Int) (p h : ByteArray) (w : World) (hT : TabT b m T w) (ok : TabOk T) (n1 : (kd == 1) = false) (n2 : (kd == 2) = false) (n3 : (kd == 3) = false) (n4 : (kd == 4) = false) (r : Tab × Lease × Int) (q : Tab × Int) (hr : advT T n = q) (hq : r = (q.1, zeroL, q.2)) :
    Calls Tryd.prog 10 #[.pointer (some ⟨b, 0, none⟩), .agg #[.int .i64 kd, .string p, .string h, .int .i64 f, .int .i64 n]] w (LeasePost b m w r) := by
  have hT1 := (TabAt.alloc hT (.cells #[.int .i64 kd, .string p, .string h, .int .i64 f, .int .i64 n] 32)).alloc (.cells #[.string ⟨#[]⟩, .string ⟨#[]⟩, .int .i64 0, .int .i64 0, .int .i64 0] 34)
  have k1 := (Box5.new1 w (.cells #[.int .i64 kd, .string p, .string h, .int .i64 f, .int .i64 n] 32) (.string ⟨#[]⟩) (.string ⟨#[]⟩) (.int .i64 0) (.int .i64 0) (.int .i64 0) 34).cell5
  have l1 := TabAt.lt hT
  have l2 := (TabAt.mp hT).lt
  have o1 : Only b m w ((w.alloc (.cells #[.int .i64 kd, .string p, .string h, .int .i64 f, .int .i64 n] 32)).alloc (.cells #[.string ⟨#[]⟩, .string ⟨#[]⟩, .int .i64 0, .int .i64 0, .int .i64 0] 34)) := ((Only.refl b m w).alloc _).alloc _
  have HR := Lib.hid hr
  clear hr
  subst hq
  go_enter Tryd.func10, Tryd.ntmps10
  go_wp2_with fail
  refine (adv_post b m T n _ hT1 ok).mono ?_
  rw [HR.out]
  obtain ⟨T', er⟩ := q
  rintro e w1 ⟨rfl, hT2, hO⟩
  dsimp only at hT2 ⊢
  have k2 := k1.only hO (by omega) (by omega)
  have o2 := o1.trans hO
  (have k2' := k2; obtain ⟨d0, d1, d2, d3, d4, lt_k2, fz_k2⟩ := k2')
  go_wp2_with fail
  refine bodyPost_ret (v := .tuple #[.agg #[.string ⟨#[]⟩, .string ⟨#[]⟩, .int .i64 0, .int .i64 0, .int .i64 0], .int .i64 er]) (by simp [results, Tryd.results10, go_sem, d0, d1, d2, d3, d4]) rfl ⟨rfl, ?_, ?_⟩
  · exact ((((hT2.far (by dsimp only; omega) (by dsimp only; omega) _).far (by dsimp only; omega) (by dsimp only; omega) _).far (by dsimp only; omega) (by dsimp only; omega) _).far (by dsimp only; omega) (by dsimp only; omega) _).far (by dsimp only; omega) (by dsimp only; omega) _
  · exact ((((o2.far (by dsimp only; omega) _).far (by dsimp only; omega) _).far (by dsimp only; omega) _).far (by dsimp only; omega) _).far (by dsimp only; omega) _

theorem do_post (b m : Nat) (T : Tab) (kd f n : Int) (p h : ByteArray) (w : World) (hT : TabT b m T w) (ok : TabOk T) :
    Calls Tryd.prog 10 #[.pointer (some ⟨b, 0, none⟩), .agg #[.int .i64 kd, .string p, .string h, .int .i64 f, .int .i64 n]] w (LeasePost b m w (doT T ⟨kd, p, h, f, n⟩)) := by
  by_cases h1 : kd = 1
  · subst h1
    exact do_acq b m T f n p h w hT ok _ (by simp [doT])
  by_cases h2 : kd = 2
  · subst h2
    exact do_ren b m T f n p h w hT ok _ (by simp [doT])
  by_cases h3 : kd = 3
  · subst h3
    exact do_rel b m T f n p h w hT ok _ _ rfl (by simp [doT])
  by_cases h4 : kd = 4
  · subst h4
    exact do_brk b m T f n p h w hT ok _ _ rfl (by simp [doT])
  · exact do_adv b m T kd f n p h w hT ok (by simpa using h1) (by simpa using h2) (by simpa using h3) (by simpa using h4) _ _ rfl (by simp [doT, h1, h2, h3, h4])

end Go.Proofs.YtphoodnclmplhaaDoor
