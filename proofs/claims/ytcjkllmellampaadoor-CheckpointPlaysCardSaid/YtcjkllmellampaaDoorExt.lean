/-
  extend: the frames of the pending records are added to the file.
-/
import Derived.Test.YtcjkllmellampaaDoorFrame
namespace Go.Proofs.YtcjkllmellampaaDoor
open Go.RowKit

theorem owner_new (g : Gh) (n : Nat) : ∃ o, ∀ b, b < n → g.O b ≠ o := by
  have h : ∃ m, ∀ b, b < n → g.O b < m := by
    induction n with
    | zero => exact ⟨0, fun b hb => by omega⟩
    | succ n ih =>
      obtain ⟨m, hm⟩ := ih
      refine ⟨max m (g.O n + 1), fun b hb => ?_⟩
      by_cases h : b = n
      · subst h; omega
      · have := hm b (by omega); omega
  obtain ⟨m, hm⟩ := h
  exact ⟨m, fun b hb e => by have := hm b hb; omega⟩

theorem JAt.ne_dev {g : Gh} {w : World} {j d d' : Nat} {J : Jrn} {D : Dev} (hJ : JAt g w j d' J) (hD : DevAt g w d D) : j ≠ d := fun e => by
  obtain ⟨A1, c1, v1, A2, c2, v2, hb, _⟩ := hJ
  obtain ⟨km, nm, A, cap, xs, hb', _⟩ := hD
  rw [e] at hb
  have := Eq.trans (Eq.symm hb) hb'
  injection this with this
  injection this with _ h
  exact absurd h (by decide)

noncomputable def framesB : List (List UInt8) → List UInt8
  | [] => []
  | r :: rs => frameB r ++ framesB rs
theorem framesB_append (a b : List (List UInt8)) : framesB (a ++ b) = framesB a ++ framesB b := by
  induction a with
  | nil => rfl
  | cons r rs ih => simp [framesB, ih]
theorem framesB_snoc {l : List (List UInt8)} {k : Nat} (h : k < l.length) : framesB (l.take (k + 1)) = framesB (l.take k) ++ frameB l[k] := by
  rw [List.take_add_one, framesB_append, List.getElem?_eq_getElem h]
  simp [framesB]
theorem framesB_take (l : List (List UInt8)) (k : Nat) : (framesB (l.take k)).length ≤ (framesB l).length := by
  have h := framesB_append (l.take k) (l.drop k)
  rw [List.take_append_drop] at h
  rw [h, List.length_append]
  omega

set_option maxRecDepth 100000 in
set_option maxHeartbeats 1600000 in
theorem extend_any (j d : Nat) (g : Gh) (w : World) (J : Jrn) (D : Dev) (hJ : JAt g w j d J) (hD : DevAt g w d D) (l0 : List UInt8) (hn : J.name.size ≤ 40) (hnm : namesOk [J.name ++ ⟨#[46, 108, 111, 103]⟩] = true) (hl0 : D.now.m (J.name ++ ⟨#[46, 108, 111, 103]⟩) = some l0) (hrl : ∀ r ∈ J.pend, r.length ≤ 65536) (hl : l0.length + (framesB J.pend).length ≤ 4194304) (hpl : D.pend.length ≤ 1000000) (hcl : J.pend.length ≤ 1000000) :
    Calls Tryd.prog 43 #[.pointer (some ⟨j, 0, none⟩)] w fun e w' => e = .returned (.int .i64 (actI D)) ∧ DevP d g w (actD D ⟨1, J.name ++ ⟨#[46, 108, 111, 103]⟩, ⟨#[]⟩, framesB J.pend, true⟩) w' := by
  have hJ0 := hJ
  obtain ⟨A1, c1, v1, A2, c2, v2, hb, hi⟩ := hJ
  have c4 : w.cell? ⟨j, 4, none⟩ = some (.slice A2 J.pend.length c2) := hb.cell 4
  have HI2 := Lib.hid hi.r2.rd
  have HQ2 := Lib.hid hi.q2
  have HJ := Lib.hid hJ0
  have HD := Lib.hid hD
  have HL0 := Lib.hid hl0
  have HRL := Lib.hid hrl
  clear hb hi hJ0 hD hl0 hrl
  go_enter Tryd.func43, Tryd.ntmps43
  go_wp2_with fail
  obtain ⟨o, ho⟩ := owner_new g w.heap.size
  have hod : o ≠ d := fun e => by
    obtain ⟨km, nm, A, cap, xs, hbd, hdi⟩ := HD.out
    exact ho d hbd.lt (by rw [hdi.O, e])
  have hoj : o ≠ j := fun e => by
    obtain ⟨A1, c1, v1, A2, c2, v2, hbd, hdi⟩ := HJ.out
    exact ho j hbd.lt (by rw [hdi.O, e])
  have HO := Lib.hid ho
  clear ho
  go_loopw [3, 11] (fun b i wr => ∃ (k : Nat) (A : Option Addr) (cap : Nat) (gr : Gh), k ≤ J.pend.length ∧ i = .int .i64 k ∧ b = .slice A (framesB (J.pend.take k)).length cap ∧ Ext (· = o) g w gr wr ∧ App 5 1 o gr wr A (framesB (J.pend.take k)).length cap (bv (framesB (J.pend.take k)))) (fun _ i _ => J.pend.length - (intOf i).toNat)
  case atStart => exact ⟨0, none, 0, g, Nat.zero_le _, rfl, rfl, Ext.refl _ _ _, ⟨Rd.nil _ _ _ _, Nat.le_refl _, Nat.zero_le _, fun _ => ⟨rfl, rfl⟩, fun h => absurd h (Nat.lt_irrefl _)⟩⟩
  case round =>
    obtain ⟨k, A, cap, gr, hk, rfl, rfl, hx, ha⟩ := hrel
    have hft := framesB_take J.pend k
    have HX := Lib.hid hx
    have HA := Lib.hid ha
    clear hx ha
    by_cases hlt : k < J.pend.length
    · obtain ⟨v, hv, hbv⟩ := HQ2.out.get hlt
      obtain ⟨b, off, rfl, _, _, hc⟩ := HI2.out.at_ (by omega)
      have hfz := HI2.out.ext HX.out
      obtain ⟨b', off', hbb, _, _, hc'⟩ := hfz.at_ (by omega)
      injection hbb with hbb; injection hbb with h1 h2
      subst h1 h2
      have hcell := hc' k _ hv
      obtain ⟨Ar, cr, rfl, _⟩ := hbv.ex
      have HBV := Lib.hid (hbv.ext HX.out)
      have hrk := HRL.out J.pend[k] (List.getElem_mem hlt)
      have HFS := Lib.hid (framesB_snoc hlt)
      clear hc hc' hfz hv hbv
      generalize hP : J.pend[k] = r at *
      clear hP
      go_wp2_with fail
      refine (frame_any o gr wr A cap (framesB (J.pend.take k)) HA.out Ar cr r HBV.out (by omega) (by omega)).mono ?_
      rintro e w2 ⟨A3, c3, g3, rfl, hx3, ha3⟩
      rw [← HFS.out] at ha3
      rw [← HFS.out]
      go_wp2_with fail
      go_round
      case rel => exact ⟨k + 1, A3, c3, g3, by omega, by go_num, rfl, HX.out.trans hx3, ha3⟩
      case measure => simp [intOf]; omega
    · obtain rfl : k = J.pend.length := by omega
      rw [List.take_length] at HA
      clear HI2 HQ2 HRL
      have HBB : Hid (BytesAt gr wr (.slice A (framesB J.pend).length cap) (framesB J.pend)) := BytesAt.of_new HA.out
      have HX0 : Hid (Ext (fun _ => False) g w gr wr) := HX.out.more (fun b hb e => absurd e (HO.out b hb))
      have HJ1 := Lib.hid (HJ.out.ext HX0.out (fun h => h))
      have HD1 := Lib.hid (HD.out.ext HX0.out (fun h => h))
      obtain ⟨A1', c1', v1', A2', c2', v2', hbj, hij⟩ := HJ1.out
      have hS : Blk j 89 (jCs d A1' c1' A2' c2' J) wr.drew := hbj
      have hxd : Ext (fun _ => False) gr wr gr wr.drew := (Ext.refl _ _ _).drew
      have HJ2 := Lib.hid (HJ1.out.ext hxd (fun h => h))
      have HD2 := Lib.hid (HD1.out.ext hxd (fun h => h))
      have HB2 := Lib.hid (HBB.out.ext hxd)
      have HX2 := Lib.hid (HX0.out.trans hxd)
      have hfl : (framesB (J.pend.take J.pend.length)) = framesB J.pend := by rw [List.take_length]
      clear hij hbj hxd HA HX HJ1 HD1 HBB HX0 hft
      go_wp2_with fail
      rw [hfl]
      (refine wp_region_mix (S := Blk j 89 (jCs d A1' c1' A2' c2' J)) [8] [([0, 1, 2, 3, 4, 6], 5), ([], 7)] (by kernel_rfl) (by kernel_rfl) (by intro c a d v w h; cases d <;> exact h) hS ?_; have hN : Nonempty (Held (Blk j 89 (jCs d A1' c1' A2' c2' J))) := ⟨⟨_, hS⟩⟩)
      have r0 : ∀ y : Held (Blk j 89 (jCs d A1' c1' A2' c2' J)), y.w.cell? ⟨j, 0, none⟩ = some (.pointer (some ⟨d, 0, none⟩)) := fun y => y.ok.cell 0
      (unfold wpMix wpRd; (repeat (first | simp only [List.filterMap_cons] | simp only [List.filterMap_nil] | simp only [List.getElem?_toArray] | simp only [List.getElem?_cons_zero] | simp only [List.getElem?_cons_succ])); (try dsimp only); change wpQuiet _ _ _ _ (_ :: _ :: _ :: _ :: _ :: _ :: []) _; (repeat (go_big_quiet_step (fail))); refine wpQuiet_nil ?_; (try dsimp only))
      go_wp2_with fail
      refine (jfile_any j d gr wr.drew J HJ2.out hn).mono ?_
      rintro e w2 ⟨rfl, rfl⟩
      go_wp2_with fail
      refine ⟨hS, ?_⟩
      (unfold wpMix wpRd; (repeat (first | simp only [List.filterMap_cons] | simp only [List.filterMap_nil] | simp only [List.getElem?_toArray] | simp only [List.getElem?_cons_zero] | simp only [List.getElem?_cons_succ])); (try dsimp only); change wpQuiet _ _ _ _ ([]) _; (repeat (go_big_quiet_step (fail))); refine wpQuiet_nil ?_; (try dsimp only))
      go_wp2_with fail
      refine (dappend_any d gr wr.drew D HD2.out _ A cap (framesB J.pend) l0 HB2.out hnm HL0.out (by omega) hpl).mono ?_
      rintro e w3 ⟨rfl, hP⟩
      have hS3 : Blk j 89 (jCs d A1' c1' A2' c2' J) w3 := by
        obtain ⟨g3, hx3, _⟩ := hP
        obtain ⟨A1, c1, v1, A2, c2, v2, hb, hi⟩ := HJ2.out
        exact hS.ext hx3 (by rw [hi.O]; exact HJ2.out.ne_dev HD2.out)
      have HFIN := Lib.hid (hP.pre (HX2.out.imp (fun _ h => h.elim)))
      clear hP
      go_wp2_with fail
      refine ⟨hS3, ?_⟩
      (unfold wpMix wpRd; (repeat (first | simp only [List.filterMap_cons] | simp only [List.filterMap_nil] | simp only [List.getElem?_toArray] | simp only [List.getElem?_cons_zero] | simp only [List.getElem?_cons_succ])); (try dsimp only); change wpQuiet _ _ _ _ (_ :: []) _; (repeat (go_big_quiet_step (fail))); refine wpQuiet_nil ?_; (try dsimp only))
      go_wp2_with fail
      go_ret
      exact ⟨rfl, HFIN.out⟩

end Go.Proofs.YtcjkllmellampaaDoor
