/-
  The walks of the reference's Last, Gone, Live, Get.
-/
import Derived.Test.YtocffknoeknabaaGreatDoorDpL
namespace Go.Proofs.YtocffknoeknabaaGreatDoor
open Go.RowKit

def lastR (d : List Rev) (p : ByteArray) : Rev := (lastD d p).getD zeroRev
set_option maxRecDepth 100000 in
set_option maxHeartbeats 3200000 in
theorem rlast_any (d : List Rev) (p : ByteArray) (A B : Option Addr) (ca nb cb : Nat) (w : World) (h : revK.In A d w) (hn : d.length ≤ 1000000) :
    Calls Tryz.prog 42 #[.agg #[.slice A d.length ca, .slice B nb cb], .string p] w fun e w' => e = .returned (.tuple #[(lastR d p).val, .bool (lastD d p).isSome]) ∧ Below w.heap.size w w' := by
  have HI := Lib.hid h
  clear h
  go_enter Tryz.func42, Tryz.ntmps42
  go_wp2_with fail
  refine (rlog_any d p A B ca nb cb _ (HI.out.below (by (repeat (first | (with_reducible exact Below.refl _ _) | (with_reducible assumption) | (with_reducible refine Below.setCell ?_ ?_ _; rotate_left; focus (first | exact Nat.le_refl _ | (dsimp only; omega))) | (with_reducible refine Below.drew ?_) | (with_reducible refine below_drewN ?_ _) | (with_reducible refine Below.alloc ?_ ?_ _; rotate_left; focus (first | exact Nat.le_refl _ | (simp; done) | (simp; omega))))))) hn).mono ?_
  rintro e w1 ⟨A1, c1, rfl, hI1, hB1⟩
  have hz1 := hB1.size
  simp at hz1
  obtain ⟨hc, hf⟩ := bcell hB1
  have HI1 := Lib.hid hI1
  have HB1 := Lib.hid hB1
  have hln := log_len d p
  clear hI1 hB1
  by_cases h0 : (logD d p).length = 0
  · have h1 := List.eq_nil_of_length_eq_zero h0
    have HR : Hid (lastR d p = zeroRev ∧ (lastD d p).isSome = false) := by
      show _ ∧ _
      unfold lastR lastD
      rw [h1]
      exact ⟨rfl, rfl⟩
    have H1 := Lib.hid h1
    rw [h1]
    clear h1 h0
    go_wp2_with fail
    refine bodyPost_ret (v := .tuple #[zeroRev.val, .bool false]) (by simp [results, Tryz.results42, go_sem, hc]; rfl) rfl ⟨by rw [HR.out.1, HR.out.2], ?_⟩
    have HB1 := HB1.out
    (repeat (first | (with_reducible exact Below.refl _ _) | (with_reducible assumption) | (with_reducible refine Below.setCell ?_ ?_ _; rotate_left; focus (first | exact Nat.le_refl _ | (dsimp only; omega) | (simp; omega))) | (with_reducible refine Below.drew ?_) | (with_reducible refine below_drewN ?_ _) | (with_reducible refine Below.alloc ?_ ?_ _; rotate_left; focus (first | exact Nat.le_refl _ | omega | (simp; done) | (simp; omega))) | (with_reducible refine Below.trans ?_ (HB1.mono ?_); rotate_left; focus (first | exact Nat.le_refl _ | omega | (simp; done) | (simp; omega)))))
  · have h1 : 0 < (logD d p).length := by omega
    have hlt : (logD d p).length - 1 < (logD d p).length := by omega
    have hg := List.getElem?_eq_getElem hlt
    have HR : Hid (lastR d p = (logD d p)[(logD d p).length - 1] ∧ (lastD d p).isSome = true) := by
      show _ ∧ _
      unfold lastR lastD
      rw [List.getLast?_eq_getElem?, hg]
      exact ⟨rfl, rfl⟩
    generalize hq : (logD d p)[(logD d p).length - 1] = v at *
    obtain ⟨b, off, rfl, hbl, hat⟩ := HI1.out h1
    (have hcv := fun j (u : Value) (hj : (v).cells[j]? = some u) => ((hat).get hg hj); have c0 := hcv 0 _ rfl; have c1 := hcv 1 _ rfl; have c2 := hcv 2 _ rfl; have c3 := hcv 3 _ rfl; have c4 := hcv 4 _ rfl; have c5 := hcv 5 _ rfl; have c6 := hcv 6 _ rfl; have c7 := hcv 7 _ rfl; have c8 := hcv 8 _ rfl; have c9 := hcv 9 _ rfl; have c10 := hcv 10 _ rfl; have c11 := hcv 11 _ rfl; have e12 : revK.n = 12 := rfl; simp only [e12, Nat.add_zero] at c0 c1 c2 c3 c4 c5 c6 c7 c8 c9 c10 c11; clear hcv e12)
    have h1' : ((logD d p).length : Int) ≠ 0 := by omega
    clear hg hat hq
    go_wp2_with fail
    refine bodyPost_ret (v := .tuple #[v.val, .bool true]) (by simp [results, Tryz.results42, go_sem, hc]; rfl) rfl ⟨by rw [HR.out.1, HR.out.2], ?_⟩
    have HB1 := HB1.out
    (repeat (first | (with_reducible exact Below.refl _ _) | (with_reducible assumption) | (with_reducible refine Below.setCell ?_ ?_ _; rotate_left; focus (first | exact Nat.le_refl _ | (dsimp only; omega) | (simp; omega))) | (with_reducible refine Below.drew ?_) | (with_reducible refine below_drewN ?_ _) | (with_reducible refine Below.alloc ?_ ?_ _; rotate_left; focus (first | exact Nat.le_refl _ | omega | (simp; done) | (simp; omega))) | (with_reducible refine Below.trans ?_ (HB1.mono ?_); rotate_left; focus (first | exact Nat.le_refl _ | omega | (simp; done) | (simp; omega)))))

def goneR (v : Rev) : Bool := goneA v.act
set_option maxHeartbeats 800000 in
theorem rgone_any (v : Rev) (w : World) : Calls Tryz.prog 101 #[v.val] w fun e w' => e = .returned (.bool (goneR v)) ∧ Below w.heap.size w w' := by
  (obtain ⟨vp, vn, vc, va, ⟨tb, tk, te, tx⟩, ⟨cs, cz⟩, vs, vm⟩ := v)
  unfold Rev.val Rev.cells goneR goneA
  dsimp only
  cases h3 : (va == 3)
  all_goals cases h5 : (va == 5)
  all_goals
    go_enter Tryz.func101, Tryz.ntmps101
    go_wp2_with fail
    go_ret
    exact ⟨rfl, by (repeat (first | (with_reducible exact Below.refl _ _) | (with_reducible assumption) | (with_reducible refine Below.setCell ?_ ?_ _; rotate_left; focus (first | exact Nat.le_refl _ | (dsimp only; omega))) | (with_reducible refine Below.drew ?_) | (with_reducible refine below_drewN ?_ _) | (with_reducible refine Below.alloc ?_ ?_ _; rotate_left; focus (first | exact Nat.le_refl _ | (simp; done) | (simp; omega)))))⟩

def liveD (d : List Rev) (p : ByteArray) : Bool := (lastD d p).any fun v => !goneR v
theorem lastN_is (d : List Rev) (p : ByteArray) : lastN d p = (lastR d p).num := by
  unfold lastN lastR
  cases lastD d p <;> rfl
theorem live_is (d : List Rev) (p : ByteArray) : liveD d p = ((lastD d p).isSome && !goneR (lastR d p)) := by
  unfold liveD lastR
  cases lastD d p <;> simp
set_option maxRecDepth 100000 in
set_option maxHeartbeats 3200000 in
theorem rlive_any (d : List Rev) (p : ByteArray) (A B : Option Addr) (ca nb cb : Nat) (w : World) (h : revK.In A d w) (hn : d.length ≤ 1000000) :
    Calls Tryz.prog 49 #[.agg #[.slice A d.length ca, .slice B nb cb], .string p] w fun e w' => e = .returned (.tuple #[.bool (liveD d p), .int .i64 (lastN d p)]) ∧ Below w.heap.size w w' := by
  have HI := Lib.hid h
  have HL := Lib.hid (fun w h => rlast_any d p A B ca nb cb w h hn)
  rw [lastN_is, live_is]
  clear h
  generalize lastR d p = v at *
  generalize (lastD d p).isSome = ok at *
  have HG := Lib.hid (rgone_any v)
  generalize goneR v = gv at *
  (obtain ⟨vp, vn, vc, va, ⟨tb, tk, te, tx⟩, ⟨cs, cz⟩, vs, vm⟩ := v)
  unfold Rev.val Rev.cells at HL HG
  dsimp only at HL HG ⊢
  cases ok
  all_goals
    go_enter Tryz.func49, Tryz.ntmps49
    go_wp2_with fail
    refine (HL.out _ (HI.out.below (by (repeat (first | (with_reducible exact Below.refl _ _) | (with_reducible assumption) | (with_reducible refine Below.setCell ?_ ?_ _; rotate_left; focus (first | exact Nat.le_refl _ | (dsimp only; omega))) | (with_reducible refine Below.drew ?_) | (with_reducible refine below_drewN ?_ _) | (with_reducible refine Below.alloc ?_ ?_ _; rotate_left; focus (first | exact Nat.le_refl _ | (simp; done) | (simp; omega)))))))).mono ?_
    rintro e w1 ⟨rfl, hB1⟩
    have HB1 := Lib.hid hB1
    have hz1 := hB1.size
    simp at hz1
    clear hB1
    go_wp2_with fail
    generalize hw2 : World.alloc w1 (.cells (#[.string vp, .int .i64 vn, .int .i64 vc, .int .i64 va, .int .i64 tb, .bool tk, .bool te, .bool tx, .int .u64 cs, .int .i64 cz, .string vs, .int .i64 vm]) 74) = w2
    have K : Blk w1.heap.size 74 ([.string vp, .int .i64 vn, .int .i64 vc, .int .i64 va, .int .i64 tb, .bool tk, .bool te, .bool tx, .int .u64 cs, .int .i64 cz, .string vs, .int .i64 vm]) w2 := hw2 ▸ Blk.new w1 74 _
    have H2 : Below w.heap.size w w2 := by
      have HB1 := HB1.out
      rw [← hw2]
      (repeat (first | (with_reducible exact Below.refl _ _) | (with_reducible assumption) | (with_reducible refine Below.setCell ?_ ?_ _; rotate_left; focus (first | exact Nat.le_refl _ | (dsimp only; omega) | (simp; omega))) | (with_reducible refine Below.drew ?_) | (with_reducible refine below_drewN ?_ _) | (with_reducible refine Below.alloc ?_ ?_ _; rotate_left; focus (first | exact Nat.le_refl _ | omega | (simp; done) | (simp; omega))) | (with_reducible refine Below.trans ?_ (HB1.mono ?_); rotate_left; focus (first | exact Nat.le_refl _ | omega | (simp; done) | (simp; omega)))))
    have HH2 := Lib.hid H2
    have KK := Lib.hid K
    clear hw2 K H2
    have hS : Below w2.heap.size w2 w2.drew := (Below.refl _ _).drew
    (refine wp_region_s (S := Below w2.heap.size w2) (by kernel_rfl) (by kernel_rfl) hS ?_; have hN : Nonempty (Held (Below w2.heap.size w2)) := ⟨⟨_, hS⟩⟩; (obtain ⟨q0, q1, q2, q3, q4, q5, q6, q7, q8, q9, q10, q11⟩ := fun_and12 (fun y : Held (Below w2.heap.size w2) => (KK.out.below y.ok).c12)); (repeat (go_big_quiet_step ((go_at_call 101; exact held_keep (HG.out _))))); refine wpQuiet_nil ?_; rintro x ⟨⟨_, hx⟩, rfl⟩; clear hN)
    clear q0 q1 q2 q3 q4 q5 q6 q7 q8 q9 q10 q11
    go_wp2_with fail
    go_ret2
    exact ⟨by simp, HH2.out.trans (hx.mono HH2.out.size)⟩
end Go.Proofs.YtocffknoeknabaaGreatDoor
