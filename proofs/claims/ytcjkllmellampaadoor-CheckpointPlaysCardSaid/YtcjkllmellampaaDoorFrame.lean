/-
  The frame of a record.
-/
import Derived.Test.YtcjkllmellampaaDoorJrn
namespace Go.Proofs.YtcjkllmellampaaDoor
open Go.RowKit

noncomputable def frameB (r : List UInt8) : List UInt8 := encU r.length ++ encU (sumF r).toNat ++ r
theorem frameB_len (r : List UInt8) (h : r.length ≤ 65536) : (frameB r).length ≤ r.length + 20 := by
  have p10 : (128 : Nat) ^ 10 = 1180591620717411303424 := by decide
  have h1 := encU_len r.length 10 (by omega) (by omega)
  have h2 := encU_len (sumF r).toNat 10 (by have := sumF_bd r; omega) (by omega)
  unfold frameB
  simp only [List.length_append]
  omega

/-- A slice of bytes appended to by o. -/
def ByteP (o : Nat) (g : Gh) (w : World) (l : List UInt8) (e : Ending) (w' : World) : Prop :=
  ∃ A cap g', e = .returned (.slice A l.length cap) ∧ Ext (· = o) g w g' w' ∧ App 5 1 o g' w' A l.length cap (bv l)

set_option maxRecDepth 100000 in
set_option maxHeartbeats 1600000 in
theorem frame_any (o : Nat) (g : Gh) (w : World) (A : Option Addr) (cap : Nat) (l : List UInt8) (ha : App 5 1 o g w A l.length cap (bv l)) (A2 : Option Addr) (c2 : Nat) (r : List UInt8) (hr : BytesAt g w (.slice A2 r.length c2) r) (hrl : r.length ≤ 65536) (hll : l.length ≤ 100000000) :
    Calls Tryd.prog 61 #[.slice A l.length cap, .slice A2 r.length c2] w (ByteP o g w (l ++ frameB r)) := by
  obtain ⟨i0, hi, hz0, hz1, hz2⟩ := info_parts Tryd.infoU8
  obtain ⟨_, hrz, hrr⟩ := hr.rd
  have HA := Lib.hid ha
  have HRR := Lib.hid hrr
  have HRZ := Lib.hid hrz
  have hsb := sumF_bd r
  obtain ⟨sn, hsn⟩ : ∃ sn : Nat, sumF r = (sn : Int) := ⟨(sumF r).toNat, by omega⟩
  have hsn2 : sn < 18446744073709551616 := by omega
  have HFB : Hid (frameB r = encU r.length ++ encU sn ++ r) := by show _ = _; unfold frameB; rw [hsn]; simp
  have HSUM : Hid (∀ W (hr : Rd 1 g W A2 r.length (bv r)) (g' : Gh), True) := fun _ _ _ => trivial
  have p10 : (128 : Nat) ^ 10 = 1180591620717411303424 := by decide
  have e1 := encU_len r.length 10 (by omega) (by omega)
  have e2 := encU_len sn 10 (by omega) (by omega)
  clear ha hr hrr hrz HSUM p10 hsb
  have HSN := Lib.hid hsn
  clear hsn
  go_enter Tryd.func61, Tryd.ntmps61
  go_wp2_with fail
  refine (putUint_any (w.heap.size + 7) g none 0 0 [] r.length _ (Rd.nil _ _ _ _) (fun _ => rfl) (by simp) (by omega) (by omega)).mono ?_
  rintro e w1 ⟨A3, c3, g1, rfl, hb1, hF1, hO1, ha1, _⟩
  simp only [Nat.zero_add, List.nil_append] at ha1
  have hx1 : Ext (fun _ => False) g w g1 w1 := (Ext.of_below (fun _ => False) g hb1).up hF1 hO1
  have hr1 := HRR.out.ext hx1
  have HA1 := Lib.hid (HA.out.ext hx1 (fun h => h))
  have HX1 := Lib.hid hx1
  have HP1 := Lib.hid ha1
  have HR1 := Lib.hid hr1
  clear hb1 hF1 hO1 ha1 hx1 hr1
  go_wp2_with fail
  refine (sum_any g1 A2 c2 r _ HR1.out (by omega)).mono ?_
  rw [HSN.out]
  rintro e w2 ⟨rfl, rfl⟩
  go_wp2_with fail
  refine (putUint_any (w.heap.size + 7) g1 A3 (encU r.length).length c3 (bv (encU r.length)) sn _ HP1.out.rd (fun h => (HP1.out.nz h).1) (by simp [bv, u8v, Value.oneCell']) (by omega) hsn2).mono ?_
  rintro e w3 ⟨A4, c4, g3, rfl, hb3, hF3, hO3, ha3, _⟩
  have hx3 : Ext (fun _ => False) g1 w1 g3 w3 := (Ext.of_below (fun _ => False) g1 hb3).up hF3 hO3
  have HA3 := Lib.hid (HA1.out.ext hx3 (fun h => h))
  have HX3 := Lib.hid (HX1.out.trans hx3)
  have hP3 : Rd 1 g3 w3 A4 ((encU r.length).length + (encU sn).length) (bv (encU r.length) ++ bv (encU sn)) := ha3.rd
  have HS3 := Lib.hid (hP3.src (P := Tryd.prog) Tryd.underlying32 c4 (by rw [← bv_append]; exact bv_one _) (fun h => (ha3.nz h).1))
  have HR3 := Lib.hid (HR1.out.ext hx3)
  clear hb3 hF3 hO3 ha3 hx3 hP3 HA1 HX1 HP1 HR1
  go_wp2_with (at_builtin; first | (refine wpList_append_app rfl _ _ _ _ rfl 5 i0 (.int .u8 0) 1 1 Tryd.underlying32 hi hz0 hz1 hz2 rfl (by decide) rfl HA3.out rfl HS3.out (by unfold maxLen; omega) (by omega) ?_; intro A5 c5 w5 g5 hx5 ha5 _; have HA5 := Lib.hid ha5; have HX5 := Lib.hid ((HX3.out.imp (fun _ h => h.elim)).trans hx5); have HS5 := Lib.hid ((HR3.out.ext hx5).src (P := Tryd.prog) Tryd.underlying32 c2 (bv_one _) HRZ.out); clear hx5 ha5 HA3 HX3 HS3 HR3) | (refine wpList_append_app rfl _ _ _ _ rfl 5 i0 (.int .u8 0) 1 1 Tryd.underlying32 hi hz0 hz1 hz2 rfl (by decide) rfl HA5.out rfl HS5.out (by unfold maxLen; omega) (by omega) ?_; intro A6 c6 w6 g6 hx6 ha6 _))
  go_ret
  have hle : (l ++ frameB r).length = l.length + ((encU r.length).length + (encU sn).length) + r.length := by rw [HFB.out]; simp; omega
  have hbe : bv (l ++ frameB r) = bv l ++ (bv (encU r.length) ++ bv (encU sn)) ++ bv r := by rw [HFB.out]; simp [bv]
  exact ⟨A6, c6, g6, by rw [hle]; rfl, HX5.out.trans hx6, by rw [hle, hbe]; exact ha6⟩

end Go.Proofs.YtcjkllmellampaaDoor
