/-
  The frame of a record.
  extend: the frames of the pending records are added to the file.
-/
import Derived.Test.YthjbaafbkalomaaJrn
namespace Go.Proofs.Ythjbaafbkalomaa
section
open Go.RowKit

noncomputable def frameB (r : List UInt8) : List UInt8 := encU r.length ++ encU (sumF r).toNat ++ r
theorem frameB_len (r : List UInt8) (h : r.length ≤ 65536) : (frameB r).length ≤ r.length + 20 := by
  have p10 : (128 : Nat) ^ 10 = 1180591620717411303424 := by decide
  have h1 := encU_len r.length 10 (by omega) (by omega)
  have h2 := encU_len (sumF r).toNat 10 (by have := sumF_bd r; omega) (by omega)
  unfold frameB
  simp only [List.length_append]
  omega

/-- A slice of bytes appended to by o. -/
def ByteP (o : Nat) (g : Gh) (w : World) (l : List UInt8) (e : Ending) (w' : World) : Prop :=
  ∃ A cap g', e = .returned (.slice A l.length cap) ∧ Ext (· = o) g w g' w' ∧ App 5 1 o g' w' A l.length cap (bv l)

set_option maxRecDepth 100000 in
set_option maxHeartbeats 1600000 in
theorem frame_any (o : Nat) (g : Gh) (w : World) (A : Option Addr) (cap : Nat) (l : List UInt8) (ha : App 5 1 o g w A l.length cap (bv l)) (A2 : Option Addr) (c2 : Nat) (r : List UInt8) (hr : BytesAt g w (.slice A2 r.length c2) r) (hrl : r.length ≤ 65536) (hll : l.length ≤ 100000000) :
    Calls Try.prog 50 #[.slice A l.length cap, .slice A2 r.length c2] w (ByteP o g w (l ++ frameB r)) := by
  obtain ⟨i0, hi, hz0, hz1, hz2⟩ := info_parts Try.infoU8
  obtain ⟨_, hrz, hrr⟩ := hr.rd
  have HA := Lib.hid ha
  have HRR := Lib.hid hrr
  have HRZ := Lib.hid hrz
  have hsb := sumF_bd r
  obtain ⟨sn, hsn⟩ : ∃ sn : Nat, sumF r = (sn : Int) := ⟨(sumF r).toNat, by omega⟩
  have hsn2 : sn < 18446744073709551616 := by omega
  have HFB : Hid (frameB r = encU r.length ++ encU sn ++ r) := by show _ = _; unfold frameB; rw [hsn]; simp
  have HSUM : Hid (∀ W (hr : Rd 1 g W A2 r.length (bv r)) (g' : Gh), True) := fun _ _ _ => trivial
  have p10 : (128 : Nat) ^ 10 = 1180591620717411303424 := by decide
  have e1 := encU_len r.length 10 (by omega) (by omega)
  have e2 := encU_len sn 10 (by omega) (by omega)
  clear ha hr hrr hrz HSUM p10 hsb
  have HSN := Lib.hid hsn
  clear hsn
  go_enter Try.func50, Try.ntmps50
  go_wp2_with fail
  refine (putUint_any (w.heap.size + 7) g none 0 0 [] r.length _ (Rd.nil _ _ _ _) (fun _ => rfl) (by simp) (by omega) (by omega)).mono ?_
  rintro e w1 ⟨A3, c3, g1, rfl, hb1, hF1, hO1, ha1, _⟩
  simp only [Nat.zero_add, List.nil_append] at ha1
  have hx1 : Ext (fun _ => False) g w g1 w1 := (Ext.of_below (fun _ => False) g hb1).up hF1 hO1
  have hr1 := HRR.out.ext hx1
  have HA1 := Lib.hid (HA.out.ext hx1 (fun h => h))
  have HX1 := Lib.hid hx1
  have HP1 := Lib.hid ha1
  have HR1 := Lib.hid hr1
  clear hb1 hF1 hO1 ha1 hx1 hr1
  go_wp2_with fail
  refine (sum_any g1 A2 c2 r _ HR1.out (by omega)).mono ?_
  rw [HSN.out]
  rintro e w2 ⟨rfl, rfl⟩
  go_wp2_with fail
  refine (putUint_any (w.heap.size + 7) g1 A3 (encU r.length).length c3 (bv (encU r.length)) sn _ HP1.out.rd (fun h => (HP1.out.nz h).1) (by simp [bv, u8v, Value.oneCell']) (by omega) hsn2).mono ?_
  rintro e w3 ⟨A4, c4, g3, rfl, hb3, hF3, hO3, ha3, _⟩
  have hx3 : Ext (fun _ => False) g1 w1 g3 w3 := (Ext.of_below (fun _ => False) g1 hb3).up hF3 hO3
  have HA3 := Lib.hid (HA1.out.ext hx3 (fun h => h))
  have HX3 := Lib.hid (HX1.out.trans hx3)
  have hP3 : Rd 1 g3 w3 A4 ((encU r.length).length + (encU sn).length) (bv (encU r.length) ++ bv (encU sn)) := ha3.rd
  have HS3 := Lib.hid (hP3.src (P := Try.prog) Try.underlying37 c4 (by rw [← bv_append]; exact bv_one _) (fun h => (ha3.nz h).1))
  have HR3 := Lib.hid (HR1.out.ext hx3)
  clear hb3 hF3 hO3 ha3 hx3 hP3 HA1 HX1 HP1 HR1
  go_wp2_with (at_builtin; first | (refine wpList_append_app rfl _ _ _ _ rfl 5 i0 (.int .u8 0) 1 1 Try.underlying37 hi hz0 hz1 hz2 rfl (by decide) rfl HA3.out rfl HS3.out (by unfold maxLen; omega) (by omega) ?_; intro A5 c5 w5 g5 hx5 ha5 _; have HA5 := Lib.hid ha5; have HX5 := Lib.hid ((HX3.out.imp (fun _ h => h.elim)).trans hx5); have HS5 := Lib.hid ((HR3.out.ext hx5).src (P := Try.prog) Try.underlying37 c2 (bv_one _) HRZ.out); clear hx5 ha5 HA3 HX3 HS3 HR3) | (refine wpList_append_app rfl _ _ _ _ rfl 5 i0 (.int .u8 0) 1 1 Try.underlying37 hi hz0 hz1 hz2 rfl (by decide) rfl HA5.out rfl HS5.out (by unfold maxLen; omega) (by omega) ?_; intro A6 c6 w6 g6 hx6 ha6 _))
  go_ret
  have hle : (l ++ frameB r).length = l.length + ((encU r.length).length + (encU sn).length) + r.length := by rw [HFB.out]; simp; omega
  have hbe : bv (l ++ frameB r) = bv l ++ (bv (encU r.length) ++ bv (encU sn)) ++ bv r := by rw [HFB.out]; simp [bv]
  exact ⟨A6, c6, g6, by rw [hle]; rfl, HX5.out.trans hx6, by rw [hle, hbe]; exact ha6⟩
end

section
open Go.RowKit

theorem owner_new (g : Gh) (n : Nat) : ∃ o, ∀ b, b < n → g.O b ≠ o := by
  have h : ∃ m, ∀ b, b < n → g.O b < m := by
    induction n with
    | zero => exact ⟨0, fun b hb => by omega⟩
    | succ n ih =>
      obtain ⟨m, hm⟩ := ih
      refine ⟨max m (g.O n + 1), fun b hb => ?_⟩
      by_cases h : b = n
      · subst h; omega
      · have := hm b (by omega); omega
  obtain ⟨m, hm⟩ := h
  exact ⟨m, fun b hb e => by have := hm b hb; omega⟩

theorem JAt.ne_dev {g : Gh} {w : World} {j d d' : Nat} {J : Jrn} {D : Dev} (hJ : JAt g w j d' J) (hD : DevAt g w d D) : j ≠ d := fun e => by
  obtain ⟨A1, c1, v1, A2, c2, v2, hb, _⟩ := hJ
  obtain ⟨km, nm, A, cap, xs, hb', _⟩ := hD
  rw [e] at hb
  have := Eq.trans (Eq.symm hb) hb'
  injection this with this
  injection this with _ h
  exact absurd h (by decide)

noncomputable def framesB : List (List UInt8) → List UInt8
  | [] => []
  | r :: rs => frameB r ++ framesB rs
theorem framesB_append (a b : List (List UInt8)) : framesB (a ++ b) = framesB a ++ framesB b := by
  induction a with
  | nil => rfl
  | cons r rs ih => simp [framesB, ih]
theorem framesB_snoc {l : List (List UInt8)} {k : Nat} (h : k < l.length) : framesB (l.take (k + 1)) = framesB (l.take k) ++ frameB l[k] := by
  rw [List.take_add_one, framesB_append, List.getElem?_eq_getElem h]
  simp [framesB]
theorem framesB_take (l : List (List UInt8)) (k : Nat) : (framesB (l.take k)).length ≤ (framesB l).length := by
  have h := framesB_append (l.take k) (l.drop k)
  rw [List.take_append_drop] at h
  rw [h, List.length_append]
  omega

set_option maxRecDepth 100000 in
set_option maxHeartbeats 1600000 in
theorem extend_any (j d : Nat) (g : Gh) (w : World) (J : Jrn) (D : Dev) (hJ : JAt g w j d J) (hD : DevAt g w d D) (l0 : List UInt8) (hn : J.name.size ≤ 40) (hnm : namesOk [J.name ++ ⟨#[46, 108, 111, 103]⟩] = true) (hl0 : D.now.m (J.name ++ ⟨#[46, 108, 111, 103]⟩) = some l0) (hrl : ∀ r ∈ J.pend, r.length ≤ 65536) (hl : l0.length + (framesB J.pend).length ≤ 4194304) (hpl : D.pend.length ≤ 1000000) (hcl : J.pend.length ≤ 1000000) :
    Calls Try.prog 42 #[.pointer (some ⟨j, 0, none⟩)] w fun e w' => e = .returned (.int .i64 (actI D)) ∧ DevP d g w (actD D ⟨1, J.name ++ ⟨#[46, 108, 111, 103]⟩, ⟨#[]⟩, framesB J.pend, true⟩) w' := by
  have hJ0 := hJ
  obtain ⟨A1, c1, v1, A2, c2, v2, hb, hi⟩ := hJ
  have c4 : w.cell? ⟨j, 4, none⟩ = some (.slice A2 J.pend.length c2) := hb.cell 4
  have HI2 := Lib.hid hi.r2.rd
  have HQ2 := Lib.hid hi.q2
  have HJ := Lib.hid hJ0
  have HD := Lib.hid hD
  have HL0 := Lib.hid hl0
  have HRL := Lib.hid hrl
  clear hb hi hJ0 hD hl0 hrl
  go_enter Try.func42, Try.ntmps42
  go_wp2_with fail
  obtain ⟨o, ho⟩ := owner_new g w.heap.size
  have hod : o ≠ d := fun e => by
    obtain ⟨km, nm, A, cap, xs, hbd, hdi⟩ := HD.out
    exact ho d hbd.lt (by rw [hdi.O, e])
  have hoj : o ≠ j := fun e => by
    obtain ⟨A1, c1, v1, A2, c2, v2, hbd, hdi⟩ := HJ.out
    exact ho j hbd.lt (by rw [hdi.O, e])
  have HO := Lib.hid ho
  clear ho
  go_loopw [3, 11] (fun b i wr => ∃ (k : Nat) (A : Option Addr) (cap : Nat) (gr : Gh), k ≤ J.pend.length ∧ i = .int .i64 k ∧ b = .slice A (framesB (J.pend.take k)).length cap ∧ Ext (· = o) g w gr wr ∧ App 5 1 o gr wr A (framesB (J.pend.take k)).length cap (bv (framesB (J.pend.take k)))) (fun _ i _ => J.pend.length - (intOf i).toNat)
  case atStart => exact ⟨0, none, 0, g, Nat.zero_le _, rfl, rfl, Ext.refl _ _ _, ⟨Rd.nil _ _ _ _, Nat.le_refl _, Nat.zero_le _, fun _ => ⟨rfl, rfl⟩, fun h => absurd h (Nat.lt_irrefl _)⟩⟩
  case round =>
    obtain ⟨k, A, cap, gr, hk, rfl, rfl, hx, ha⟩ := hrel
    have hft := framesB_take J.pend k
    have HX := Lib.hid hx
    have HA := Lib.hid ha
    clear hx ha
    by_cases hlt : k < J.pend.length
    · obtain ⟨v, hv, hbv⟩ := HQ2.out.get hlt
      obtain ⟨b, off, rfl, _, _, hc⟩ := HI2.out.at_ (by omega)
      have hfz := HI2.out.ext HX.out
      obtain ⟨b', off', hbb, _, _, hc'⟩ := hfz.at_ (by omega)
      injection hbb with hbb; injection hbb with h1 h2
      subst h1 h2
      have hcell := hc' k _ hv
      obtain ⟨Ar, cr, rfl, _⟩ := hbv.ex
      have HBV := Lib.hid (hbv.ext HX.out)
      have hrk := HRL.out J.pend[k] (List.getElem_mem hlt)
      have HFS := Lib.hid (framesB_snoc hlt)
      clear hc hc' hfz hv hbv
      generalize hP : J.pend[k] = r at *
      clear hP
      go_wp2_with fail
      refine (frame_any o gr wr A cap (framesB (J.pend.take k)) HA.out Ar cr r HBV.out (by omega) (by omega)).mono ?_
      rintro e w2 ⟨A3, c3, g3, rfl, hx3, ha3⟩
      rw [← HFS.out] at ha3
      rw [← HFS.out]
      go_wp2_with fail
      go_round
      case rel => exact ⟨k + 1, A3, c3, g3, by omega, by go_num, rfl, HX.out.trans hx3, ha3⟩
      case measure => simp [intOf]; omega
    · obtain rfl : k = J.pend.length := by omega
      rw [List.take_length] at HA
      clear HI2 HQ2 HRL
      have HBB : Hid (BytesAt gr wr (.slice A (framesB J.pend).length cap) (framesB J.pend)) := BytesAt.of_new HA.out
      have HX0 : Hid (Ext (fun _ => False) g w gr wr) := HX.out.more (fun b hb e => absurd e (HO.out b hb))
      have HJ1 := Lib.hid (HJ.out.ext HX0.out (fun h => h))
      have HD1 := Lib.hid (HD.out.ext HX0.out (fun h => h))
      obtain ⟨A1', c1', v1', A2', c2', v2', hbj, hij⟩ := HJ1.out
      have hS : Blk j 66 (jCs d A1' c1' A2' c2' J) wr.drew := hbj
      have hxd : Ext (fun _ => False) gr wr gr wr.drew := (Ext.refl _ _ _).drew
      have HJ2 := Lib.hid (HJ1.out.ext hxd (fun h => h))
      have HD2 := Lib.hid (HD1.out.ext hxd (fun h => h))
      have HB2 := Lib.hid (HBB.out.ext hxd)
      have HX2 := Lib.hid (HX0.out.trans hxd)
      have hfl : (framesB (J.pend.take J.pend.length)) = framesB J.pend := by rw [List.take_length]
      clear hij hbj hxd HA HX HJ1 HD1 HBB HX0 hft
      go_wp2_with fail
      rw [hfl]
      (refine wp_region_mix (S := Blk j 66 (jCs d A1' c1' A2' c2' J)) [8] [([0, 1, 2, 3, 4, 6], 5), ([], 7)] (by kernel_rfl) (by kernel_rfl) (by intro c a d v w h; cases d <;> exact h) hS ?_; have hN : Nonempty (Held (Blk j 66 (jCs d A1' c1' A2' c2' J))) := ⟨⟨_, hS⟩⟩)
      have r0 : ∀ y : Held (Blk j 66 (jCs d A1' c1' A2' c2' J)), y.w.cell? ⟨j, 0, none⟩ = some (.pointer (some ⟨d, 0, none⟩)) := fun y => y.ok.cell 0
      (unfold wpMix wpRd; (repeat (first | simp only [List.filterMap_cons] | simp only [List.filterMap_nil] | simp only [List.getElem?_toArray] | simp only [List.getElem?_cons_zero] | simp only [List.getElem?_cons_succ])); (try dsimp only); change wpQuiet _ _ _ _ (_ :: _ :: _ :: _ :: _ :: _ :: []) _; (repeat (go_big_quiet_step (fail))); refine wpQuiet_nil ?_; (try dsimp only))
      go_wp2_with fail
      refine (jfile_any j d gr wr.drew J HJ2.out hn).mono ?_
      rintro e w2 ⟨rfl, rfl⟩
      go_wp2_with fail
      refine ⟨hS, ?_⟩
      (unfold wpMix wpRd; (repeat (first | simp only [List.filterMap_cons] | simp only [List.filterMap_nil] | simp only [List.getElem?_toArray] | simp only [List.getElem?_cons_zero] | simp only [List.getElem?_cons_succ])); (try dsimp only); change wpQuiet _ _ _ _ ([]) _; (repeat (go_big_quiet_step (fail))); refine wpQuiet_nil ?_; (try dsimp only))
      go_wp2_with fail
      refine (dappend_any d gr wr.drew D HD2.out _ A cap (framesB J.pend) l0 HB2.out hnm HL0.out (by omega) hpl).mono ?_
      rintro e w3 ⟨rfl, hP⟩
      have hS3 : Blk j 66 (jCs d A1' c1' A2' c2' J) w3 := by
        obtain ⟨g3, hx3, _⟩ := hP
        obtain ⟨A1, c1, v1, A2, c2, v2, hb, hi⟩ := HJ2.out
        exact hS.ext hx3 (by rw [hi.O]; exact HJ2.out.ne_dev HD2.out)
      have HFIN := Lib.hid (hP.pre (HX2.out.imp (fun _ h => h.elim)))
      clear hP
      go_wp2_with fail
      refine ⟨hS3, ?_⟩
      (unfold wpMix wpRd; (repeat (first | simp only [List.filterMap_cons] | simp only [List.filterMap_nil] | simp only [List.getElem?_toArray] | simp only [List.getElem?_cons_zero] | simp only [List.getElem?_cons_succ])); (try dsimp only); change wpQuiet _ _ _ _ (_ :: []) _; (repeat (go_big_quiet_step (fail))); refine wpQuiet_nil ?_; (try dsimp only))
      go_wp2_with fail
      go_ret
      exact ⟨rfl, HFIN.out⟩
end

end Go.Proofs.Ythjbaafbkalomaa
