/-
  The journal's functions while the power does not fail.
-/
import Derived.Test.YthjbaafbkalomaaGood
namespace Go.Proofs.Ythjbaafbkalomaa
open Go.RowKit

theorem BothP.ofJ {j d : Nat} {g : Gh} {w w' : World} {J J' : Jrn} {D : Dev} (hJ : JAt g w j d J) (hD : DevAt g w d D) (h : JP j d g w J' w') : BothP j d g w J' D w' := by
  obtain ⟨g', hx, hj⟩ := h
  exact ⟨g', hx.imp (fun _ h => .inr h), hj, hD.ext hx (fun e => hJ.ne_dev hD e.symm)⟩
theorem BothP.ofSame {j d : Nat} {g : Gh} {w w' : World} {J : Jrn} {D : Dev} (hJ : JAt g w j d J) (hD : DevAt g w d D) (h : SameP g w w') : BothP j d g w J D w' := by
  obtain ⟨g', hx⟩ := h
  exact ⟨g', hx.imp (fun _ h => h.elim), hJ.ext hx (fun h => h), hD.ext hx (fun h => h)⟩

theorem gappend (j d : Nat) (g : Gh) (w : World) (J : Jrn) (D : Dev) (c m : Nat) (hJ : JAt g w j d J) (hD : DevAt g w d D) (hG : Good J D c m) (_hm : m ≤ 4611686018427387904) (_hc : c ≤ 200) (A : Option Addr) (cp : Nat) (r : List UInt8) (hr : BytesAt g w (.slice A r.length cp) r) (hrl : r.length ≤ 100000000) :
    Calls Try.prog 9 #[.pointer (some ⟨j, 0, none⟩), .slice A r.length cp] w fun e w' => e = .returned (.int .i64 (jappI J r)) ∧ BothP j d g w (jappJ J r) D w' := by
  have h1 := hG.bx
  have h2 := hG.by'
  have h3 := hG.cnt
  refine (japp_any j d g w J hJ A cp r hr hrl (by omega) (by omega) (by omega) (by omega)).mono ?_
  rintro e w' ⟨h, hP⟩
  exact ⟨h, BothP.ofJ hJ hD hP⟩

section
variable (j d : Nat) (g : Gh) (w : World) (J : Jrn) (D : Dev) (c m : Nat) (hJ : JAt g w j d J) (hD : DevAt g w d D) (hG : Good J D c m) (hm : m ≤ 4611686018427387904) (hc : c ≤ 200)
include hJ hD hG hm hc

def comR (J : Jrn) : Jrn := { J with recs := J.recs ++ J.pend, pend := [], whole := J.whole || !J.pend.isEmpty }
theorem gcommit : Calls Try.prog 14 #[.pointer (some ⟨j, 0, none⟩)] w fun e w' => e = .returned (.int .i64 0) ∧ ∃ D', BothP j d g w (comR J) D' w' ∧ Good (comR J) D' c m ∧ ∀ q, q ≠ J.file → q ≠ J.fresh → D'.now.m q = D.now.m q := by
  obtain ⟨h1, h2, h3, h4, h5⟩ := hG.commit hm hc j d
  refine (commit_any j d g w J D hJ hD (hG.jok hm) h1).mono ?_
  rintro e w' ⟨h, hP⟩
  rw [h2] at h
  rw [h3] at hP
  exact ⟨h, comD J j d D, hP, h4, h5⟩

def cutI (J : Jrn) (p : Int) : Int := if p < J.start ∨ J.start + J.recs.length < p then 312 else 0
def cutR (J : Jrn) (p : Int) : Jrn := if p ≤ J.start ∨ J.start + J.recs.length < p then J else { J with start := p, recs := J.recs.drop (p - J.start).toNat, bytes := J.bytes - lens (J.recs.take (p - J.start).toNat), whole := true }
theorem gcut (p : Int) : Calls Try.prog 13 #[.pointer (some ⟨j, 0, none⟩), .int .i64 p] w fun e w' => e = .returned (.int .i64 (cutI J p)) ∧ ∃ D', BothP j d g w (cutR J p) D' w' ∧ Good (cutR J p) D' c m ∧ ∀ q, q ≠ J.file → q ≠ J.fresh → D'.now.m q = D.now.m q := by
  have k1 := hG.st0
  have k2 := hG.st1
  have k3 := hG.cnt
  have k4 := hG.by'
  have k5 := hG.bx
  by_cases h1 : p < J.start
  · have e1 : cutI J p = 312 := by simp [cutI, h1]
    have e2 : cutR J p = J := by unfold cutR; rw [if_pos (.inl (by omega))]
    rw [e1, e2]
    refine (cut_low j d g w J hJ p hG.dead k1 (by omega) (by omega) h1).mono ?_
    rintro e w' ⟨h, hP⟩
    exact ⟨h, D, BothP.ofSame hJ hD hP, hG, fun _ _ _ => rfl⟩
  by_cases h2 : J.start + J.recs.length < p
  · have e1 : cutI J p = 312 := by simp [cutI, h2]
    have e2 : cutR J p = J := by unfold cutR; rw [if_pos (.inr h2)]
    rw [e1, e2]
    refine (cut_high j d g w J hJ p hG.dead k1 (by omega) (by omega) h2).mono ?_
    rintro e w' ⟨h, hP⟩
    exact ⟨h, D, BothP.ofSame hJ hD hP, hG, fun _ _ _ => rfl⟩
  have e1 : cutI J p = 0 := by simp [cutI, h1, h2]
  rw [e1]
  by_cases h3 : p = J.start
  · have e2 : cutR J p = J := by unfold cutR; rw [if_pos (.inl (by omega))]
    rw [e2]
    refine (cut_same j d g w J hJ p hG.dead k1 (by omega) (by omega) h3).mono ?_
    rintro e w' ⟨h, hP⟩
    exact ⟨h, D, BothP.ofSame hJ hD hP, hG, fun _ _ _ => rfl⟩
  obtain ⟨n, rfl⟩ : ∃ n : Nat, p = n := ⟨p.toNat, by omega⟩
  have hk : (n : Int) - J.start = (((n : Int) - J.start).toNat : Nat) := by omega
  have e2 : cutR J n = cutJ J n ((n : Int) - J.start).toNat 0 := by
    unfold cutR cutJ
    rw [if_neg (by omega), if_pos rfl]
  obtain ⟨q1, q2, q3, q4⟩ := hG.cut hm hc j d n _ (by omega) hk (by omega)
  refine (cut_t j d g w J D hJ hD n hG.dead (hG.jok hm) (by omega) (by omega) k1 (by omega) (by omega) (by omega) (by omega) (fun k x y z hk' => ?_)).mono ?_
  · obtain rfl : ((n : Int) - J.start).toNat = k := by omega
    exact q1 x y z
  · rintro e w' ⟨k, hk', he, hP⟩
    obtain rfl : ((n : Int) - J.start).toNat = k := by omega
    rw [q2] at he hP
    rw [e2]
    exact ⟨he, _, hP, q3, q4⟩

end

def disR (J : Jrn) : Jrn := { J with pend := [], bytes := lens J.recs }
theorem gnew (g : Gh) (w : World) : Calls Try.prog 4 #[] w fun e w' => ∃ d g', e = .returned (.pointer (some ⟨d, 0, none⟩)) ∧ w.heap.size ≤ d ∧ Ext (fun _ => False) g w g' w' ∧ DevAt g' w' d dev0 := by
  refine (new_any g w).mono ?_
  rintro e w' ⟨d, g', h1, h2, h3, h4, h5, h6⟩
  exact ⟨d, g', h1, h2, (Ext.of_below (fun _ => False) g h3).up h4 h5, h6⟩

end Go.Proofs.Ythjbaafbkalomaa
