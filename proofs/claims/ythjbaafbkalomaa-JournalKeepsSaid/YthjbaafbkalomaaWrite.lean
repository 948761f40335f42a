/-
  write, rewrite, replace: the journal's file written anew.
-/
import Derived.Test.YthjbaafbkalomaaExt
import Derived.Lib.SlBytesConst
namespace Go.Proofs.Ythjbaafbkalomaa
open Go.RowKit

/-- A new block of literal cells. -/
def Gh.lit (g : Gh) (b n : Nat) : Gh := ⟨fun k => if k = b then n else g.F k, g.O⟩
theorem Ext.lit (M : Nat → Prop) (g : Gh) (w : World) (ob : Obj) (n : Nat) : Ext M g w (g.lit w.heap.size n) (w.alloc ob) :=
  ((Ext.refl M g w).alloc ob).up (fun b hb => by simp only [Gh.lit]; rw [if_neg (by omega)]) (fun b hb => rfl)
theorem App.lit (g : Gh) (w : World) (cs : List Value) (e : TypeId) (fr : Nat × Nat) (n o : Nat) (hn : cs.length = n) (hm : n ≤ maxLen) : App e 1 o (g.lit w.heap.size n) (w.alloc (.cells cs.toArray e fr)) (some ⟨w.heap.size, 0, none⟩) n n cs := by
  refine ⟨⟨by omega, fun _ => ⟨w.heap.size, 0, rfl, by simp [Gh.lit], by simp, fun j u hu => ?_⟩⟩, Nat.le_refl _, hm, (fun h => by cases h), fun h => absurd h (Nat.lt_irrefl _)⟩
  rw [cell_at (heap_alloc_new w _)]
  simpa using hu

noncomputable def fileB (start : Nat) (rs : List (List UInt8)) : List UInt8 := [83, 89, 74, 76] ++ encU start ++ framesB rs

theorem fileB_snoc (st : Nat) {l : List (List UInt8)} {k : Nat} (h : k < l.length) : fileB st (l.take (k + 1)) = fileB st (l.take k) ++ frameB l[k] := by
  unfold fileB
  rw [framesB_snoc h, ← List.append_assoc]
theorem fileB_take (st : Nat) (l : List (List UInt8)) (k : Nat) : (fileB st (l.take k)).length ≤ (fileB st l).length := by
  unfold fileB
  have := framesB_take l k
  simp only [List.length_append]
  omega

set_option maxRecDepth 100000 in
set_option maxHeartbeats 1600000 in
theorem write_any (j d : Nat) (g : Gh) (w : World) (J : Jrn) (D : Dev) (hJ : JAt g w j d J) (hD : DevAt g w d D) (st : Nat) (A2 : Option Addr) (c2 : Nat) (v2 : List Value) (rs : List (List UInt8)) (hr : Rd 1 g w A2 rs.length v2) (hq : RecsR g w v2 rs) (hn : J.name.size ≤ 40) (hnm : namesOk [J.name ++ ⟨#[46, 110, 101, 119]⟩] = true) (hst : st < 18446744073709551616) (hrl : ∀ r ∈ rs, r.length ≤ 65536) (hl : (fileB st rs).length ≤ 4194304) (hnn : D.now.n < 256) (hpl : D.pend.length ≤ 1000000) (hcl : rs.length ≤ 1000000) :
    Calls Try.prog 37 #[.pointer (some ⟨j, 0, none⟩), .int .i64 st, .slice A2 rs.length c2] w fun e w' => e = .returned (.int .i64 (actI D)) ∧ DevP d g w (actD D ⟨0, J.name ++ ⟨#[46, 110, 101, 119]⟩, ⟨#[]⟩, fileB st rs, true⟩) w' := by
  have HI2 := Lib.hid hr
  have HQ2 := Lib.hid hq
  have HJ := Lib.hid hJ
  have HD := Lib.hid hD
  have HRL := Lib.hid hrl
  clear hr hq hJ hD hrl
  obtain ⟨i0, hi, hz0, hz1, hz2⟩ := info_parts Try.infoU8
  have hcv := Lib.run_convert_bytes_const (P := Try.prog) w 37 5 #[.int .u8 83, .int .u8 89, .int .u8 74, .int .u8 76] 4 4 Try.underlying37 Try.underlying5
  obtain ⟨o, ho⟩ := owner_new g w.heap.size
  have hod : o ≠ d := fun e => ho d HD.out.lt (by rw [HD.out.owner, e])
  have HO := Lib.hid ho
  have hxl := Ext.lit (fun _ => False) g w (.cells ([.int .u8 83, .int .u8 89, .int .u8 74, .int .u8 76] : List Value).toArray 5 (4, 5)) 4
  have hal := App.lit g w [.int .u8 83, .int .u8 89, .int .u8 74, .int .u8 76] 5 (4, 5) 4 o rfl (by decide)
  have p10 : (128 : Nat) ^ 10 = 1180591620717411303424 := by decide
  have e1 := encU_len st 10 (by omega) (by omega)
  have hmark : ([.int .u8 83, .int .u8 89, .int .u8 74, .int .u8 76] : List Value) = bv [83, 89, 74, 76] := rfl
  have HMK := Lib.hid hmark
  have HXL := Lib.hid hxl
  have HAL := Lib.hid hal
  clear ho hxl hal p10 hmark
  generalize g.lit w.heap.size 4 = gl at *
  go_enter Try.func37, Try.ntmps37
  go_wp2_with fail
  refine (putUint_any (w.heap.size + 7) gl none 0 0 [] st _ (Rd.nil _ _ _ _) (fun _ => rfl) (by simp) (by omega) (by omega)).mono ?_
  rintro e w1 ⟨A3, c3, g1, rfl, hb1, hF1, hO1, ha1, _⟩
  simp only [Nat.zero_add, List.nil_append] at ha1
  have hx1 : Ext (fun _ => False) gl _ g1 w1 := (Ext.of_below (fun _ => False) gl hb1).up hF1 hO1
  have HA1 := Lib.hid (HAL.out.ext hx1 (fun h => h))
  have HX1 := Lib.hid (HXL.out.trans hx1)
  have HS1 := Lib.hid (ha1.rd.src (P := Try.prog) Try.underlying37 c3 (bv_one _) (fun h => (ha1.nz h).1))
  clear hb1 hF1 hO1 ha1 hx1 HXL HAL
  simp only [Nat.zero_add]
  go_wp2_with (at_builtin; refine wpList_append_app rfl _ _ _ _ rfl 5 i0 (.int .u8 0) 1 1 Try.underlying37 hi hz0 hz1 hz2 rfl (by decide) rfl HA1.out rfl HS1.out (by unfold maxLen; omega) (by omega) ?_; intro A5 c5 w5 g5 hx5 ha5 _)
  have hfl0 : (fileB st []).length = 4 + (encU st).length := by simp [fileB, framesB]; omega
  have hfb0 : bv (fileB st []) = [.int .u8 83, .int .u8 89, .int .u8 74, .int .u8 76] ++ bv (encU st) := by rw [HMK.out, ← bv_append]; simp [fileB, framesB]
  have HX5 := Lib.hid ((HX1.out.imp (fun _ h => h.elim)).trans hx5)
  have ha5' : App 5 1 o g5 w5 A5 (fileB st []).length c5 (bv (fileB st [])) := by rw [hfl0, hfb0]; exact ha5
  have HA5 := Lib.hid ha5'
  rw [← hfl0]
  clear hx5 ha5 ha5' HX1 HA1 HS1 hfb0 hfl0
  go_loopw [7, 18] (fun b i wr => ∃ (k : Nat) (A : Option Addr) (cap : Nat) (gr : Gh), k ≤ rs.length ∧ i = .int .i64 k ∧ b = .slice A (fileB st (rs.take k)).length cap ∧ Ext (· = o) g w gr wr ∧ App 5 1 o gr wr A (fileB st (rs.take k)).length cap (bv (fileB st (rs.take k)))) (fun _ i _ => rs.length - (intOf i).toNat)
  case atStart => exact ⟨0, A5, c5, g5, Nat.zero_le _, rfl, rfl, HX5.out, HA5.out⟩
  case round =>
    obtain ⟨k, A, cap, gr, hk, rfl, rfl, hx, ha⟩ := hrel
    have hft := fileB_take st rs k
    have HX := Lib.hid hx
    have HA := Lib.hid ha
    clear hx ha HX5 HA5
    by_cases hlt : k < rs.length
    · obtain ⟨v, hv, hbv⟩ := HQ2.out.get hlt
      obtain ⟨b, off, rfl, _, _, hc⟩ := HI2.out.at_ (by omega)
      have hfz := HI2.out.ext HX.out
      obtain ⟨b', off', hbb, _, _, hc'⟩ := hfz.at_ (by omega)
      injection hbb with hbb; injection hbb with h1 h2
      subst h1 h2
      have hcell := hc' k _ hv
      obtain ⟨Ar, cr, rfl, _⟩ := hbv.ex
      have HBV := Lib.hid (hbv.ext HX.out)
      have hrk := HRL.out rs[k] (List.getElem_mem hlt)
      have HFS := Lib.hid (fileB_snoc st hlt)
      clear hc hc' hfz hv hbv
      generalize hP : rs[k] = r at *
      clear hP
      go_wp2_with fail
      refine (frame_any o gr wr A cap (fileB st (rs.take k)) HA.out Ar cr r HBV.out (by omega) (by omega)).mono ?_
      rintro e w2 ⟨A3, c3, g3, rfl, hx3, ha3⟩
      rw [← HFS.out] at ha3
      rw [← HFS.out]
      go_wp2_with fail
      go_round
      case rel => exact ⟨k + 1, A3, c3, g3, by omega, by go_num, rfl, HX.out.trans hx3, ha3⟩
      case measure => simp [intOf]; omega
    · obtain rfl : k = rs.length := by omega
      rw [List.take_length] at HA
      clear HI2 HQ2 HRL
      have HBB : Hid (BytesAt gr wr (.slice A (fileB st rs).length cap) (fileB st rs)) := BytesAt.of_new HA.out
      have HX0 : Hid (Ext (fun _ => False) g w gr wr) := HX.out.more (fun b hb e => absurd e (HO.out b hb))
      have HJ1 := Lib.hid (HJ.out.ext HX0.out (fun h => h))
      have HD1 := Lib.hid (HD.out.ext HX0.out (fun h => h))
      obtain ⟨A1', c1', v1', A2', c2', v2', hbj, hij⟩ := HJ1.out
      have hS : Blk j 66 (jCs d A1' c1' A2' c2' J) wr.drew := hbj
      have hxd : Ext (fun _ => False) gr wr gr wr.drew := (Ext.refl _ _ _).drew
      have HJ2 := Lib.hid (HJ1.out.ext hxd (fun h => h))
      have HD2 := Lib.hid (HD1.out.ext hxd (fun h => h))
      have HB2 := Lib.hid (HBB.out.ext hxd)
      have HX2 := Lib.hid (HX0.out.trans hxd)
      have hfl : (fileB st (rs.take rs.length)) = fileB st rs := by rw [List.take_length]
      clear hij hbj hxd HA HX HJ1 HD1 HBB HX0 hft
      go_wp2_with fail
      rw [hfl]
      (refine wp_region_mix (S := Blk j 66 (jCs d A1' c1' A2' c2' J)) [8] [([0, 1, 2, 3, 4, 6], 5), ([], 7)] (by kernel_rfl) (by kernel_rfl) (by intro c a d v w h; cases d <;> exact h) hS ?_; have hN : Nonempty (Held (Blk j 66 (jCs d A1' c1' A2' c2' J))) := ⟨⟨_, hS⟩⟩)
      have r0 : ∀ y : Held (Blk j 66 (jCs d A1' c1' A2' c2' J)), y.w.cell? ⟨j, 0, none⟩ = some (.pointer (some ⟨d, 0, none⟩)) := fun y => y.ok.cell 0
      (unfold wpMix wpRd; (repeat (first | simp only [List.filterMap_cons] | simp only [List.filterMap_nil] | simp only [List.getElem?_toArray] | simp only [List.getElem?_cons_zero] | simp only [List.getElem?_cons_succ])); (try dsimp only); change wpQuiet _ _ _ _ (_ :: _ :: _ :: _ :: _ :: _ :: []) _; (repeat (go_big_quiet_step (fail))); refine wpQuiet_nil ?_; (try dsimp only))
      go_wp2_with fail
      refine (jfresh_any j d gr wr.drew J HJ2.out hn).mono ?_
      rintro e w2 ⟨rfl, rfl⟩
      go_wp2_with fail
      refine ⟨hS, ?_⟩
      (unfold wpMix wpRd; (repeat (first | simp only [List.filterMap_cons] | simp only [List.filterMap_nil] | simp only [List.getElem?_toArray] | simp only [List.getElem?_cons_zero] | simp only [List.getElem?_cons_succ])); (try dsimp only); change wpQuiet _ _ _ _ ([]) _; (repeat (go_big_quiet_step (fail))); refine wpQuiet_nil ?_; (try dsimp only))
      go_wp2_with fail
      refine (dcreate_any d gr wr.drew D HD2.out _ A cap (fileB st rs) HB2.out hnm (by omega) hnn hpl).mono ?_
      rintro e w3 ⟨rfl, hP⟩
      have hS3 : Blk j 66 (jCs d A1' c1' A2' c2' J) w3 := by
        obtain ⟨g3, hx3, _⟩ := hP
        obtain ⟨A1, c1, v1, A2, c2, v2, hb, hi⟩ := HJ2.out
        exact hS.ext hx3 (by rw [hi.O]; exact HJ2.out.ne_dev HD2.out)
      have HFIN := Lib.hid (hP.pre (HX2.out.imp (fun _ h => h.elim)))
      clear hP
      go_wp2_with fail
      refine ⟨hS3, ?_⟩
      (unfold wpMix wpRd; (repeat (first | simp only [List.filterMap_cons] | simp only [List.filterMap_nil] | simp only [List.getElem?_toArray] | simp only [List.getElem?_cons_zero] | simp only [List.getElem?_cons_succ])); (try dsimp only); change wpQuiet _ _ _ _ (_ :: []) _; (repeat (go_big_quiet_step (fail))); refine wpQuiet_nil ?_; (try dsimp only))
      go_wp2_with fail
      go_ret
      exact ⟨rfl, HFIN.out⟩

set_option maxRecDepth 100000 in
set_option maxHeartbeats 1600000 in
theorem replace_any (j d : Nat) (g : Gh) (w : World) (J : Jrn) (D : Dev) (hJ : JAt g w j d J) (hD : DevAt g w d D) (hn : J.name.size ≤ 40) (hnm : namesOk [J.name ++ ⟨#[46, 110, 101, 119]⟩, J.name ++ ⟨#[46, 108, 111, 103]⟩] = true) (hl0 : (D.now.m (J.name ++ ⟨#[46, 110, 101, 119]⟩)).isSome = true) (hpl : D.pend.length ≤ 1000000) :
    Calls Try.prog 39 #[.pointer (some ⟨j, 0, none⟩)] w fun e w' => e = .returned (.int .i64 (actI D)) ∧ DevP d g w (actD D ⟨2, J.name ++ ⟨#[46, 110, 101, 119]⟩, J.name ++ ⟨#[46, 108, 111, 103]⟩, [], false⟩) w' := by
  obtain ⟨A1', c1', v1', A2', c2', v2', hbj, hij⟩ := hJ
  have hS : Blk j 66 (jCs d A1' c1' A2' c2' J) w.drew := hbj
  have hxd : Ext (fun _ => False) g w g w.drew := (Ext.refl _ _ _).drew
  have HJ2 := Lib.hid (JAt.ext ⟨A1', c1', v1', A2', c2', v2', hbj, hij⟩ hxd (fun h => h))
  have HD2 := Lib.hid (hD.ext hxd (fun h => h))
  have HX2 := Lib.hid hxd
  have HL0 := Lib.hid hl0
  clear hij hbj hxd hD hl0
  go_enter Try.func39, Try.ntmps39
  go_wp2_with fail
  (refine wp_region_mix (S := Blk j 66 (jCs d A1' c1' A2' c2' J)) [9] [([0, 1, 2, 3, 4, 6], 5), ([], 7), ([], 8)] (by kernel_rfl) (by kernel_rfl) (by intro c a d v w h; cases d <;> exact h) hS ?_; have hN : Nonempty (Held (Blk j 66 (jCs d A1' c1' A2' c2' J))) := ⟨⟨_, hS⟩⟩)
  have r0 : ∀ y : Held (Blk j 66 (jCs d A1' c1' A2' c2' J)), y.w.cell? ⟨j, 0, none⟩ = some (.pointer (some ⟨d, 0, none⟩)) := fun y => y.ok.cell 0
  (unfold wpMix wpRd; (repeat (first | simp only [List.filterMap_cons] | simp only [List.filterMap_nil] | simp only [List.getElem?_toArray] | simp only [List.getElem?_cons_zero] | simp only [List.getElem?_cons_succ])); (try dsimp only); change wpQuiet _ _ _ _ (_ :: _ :: _ :: _ :: _ :: _ :: []) _; (repeat (go_big_quiet_step (fail))); refine wpQuiet_nil ?_; (try dsimp only))
  go_wp2_with fail
  refine (jfresh_any j d g w.drew J HJ2.out hn).mono ?_
  rintro e w2 ⟨rfl, rfl⟩
  go_wp2_with fail
  refine ⟨hS, ?_⟩
  (unfold wpMix wpRd; (repeat (first | simp only [List.filterMap_cons] | simp only [List.filterMap_nil] | simp only [List.getElem?_toArray] | simp only [List.getElem?_cons_zero] | simp only [List.getElem?_cons_succ])); (try dsimp only); change wpQuiet _ _ _ _ ([]) _; (repeat (go_big_quiet_step (fail))); refine wpQuiet_nil ?_; (try dsimp only))
  go_wp2_with fail
  refine (jfile_any j d g w.drew J HJ2.out hn).mono ?_
  rintro e w2 ⟨rfl, rfl⟩
  go_wp2_with fail
  refine ⟨hS, ?_⟩
  (unfold wpMix wpRd; (repeat (first | simp only [List.filterMap_cons] | simp only [List.filterMap_nil] | simp only [List.getElem?_toArray] | simp only [List.getElem?_cons_zero] | simp only [List.getElem?_cons_succ])); (try dsimp only); change wpQuiet _ _ _ _ ([]) _; (repeat (go_big_quiet_step (fail))); refine wpQuiet_nil ?_; (try dsimp only))
  go_wp2_with fail
  refine (drename_any d g w.drew D HD2.out _ _ hnm HL0.out hpl).mono ?_
  rintro e w3 ⟨rfl, hP⟩
  have hS3 : Blk j 66 (jCs d A1' c1' A2' c2' J) w3 := by
    obtain ⟨g3, hx3, _⟩ := hP
    obtain ⟨A1, c1, v1, A2, c2, v2, hb, hi⟩ := HJ2.out
    exact hS.ext hx3 (by rw [hi.O]; exact HJ2.out.ne_dev HD2.out)
  have HFIN := Lib.hid (hP.pre (HX2.out.imp (fun _ h => h.elim)))
  clear hP
  go_wp2_with fail
  refine ⟨hS3, ?_⟩
  (unfold wpMix wpRd; (repeat (first | simp only [List.filterMap_cons] | simp only [List.filterMap_nil] | simp only [List.getElem?_toArray] | simp only [List.getElem?_cons_zero] | simp only [List.getElem?_cons_succ])); (try dsimp only); change wpQuiet _ _ _ _ (_ :: []) _; (repeat (go_big_quiet_step (fail))); refine wpQuiet_nil ?_; (try dsimp only))
  go_wp2_with fail
  go_ret
  exact ⟨rfl, HFIN.out⟩

set_option maxRecDepth 100000 in
set_option maxHeartbeats 1600000 in
theorem rewrite_any (j d : Nat) (g : Gh) (w : World) (J : Jrn) (D : Dev) (hJ : JAt g w j d J) (hD : DevAt g w d D) (st : Nat) (hs : J.start = st) (hn : J.name.size ≤ 40) (hnm : namesOk [J.name ++ ⟨#[46, 110, 101, 119]⟩] = true) (hst : st < 9223372036854775808) (hrl : ∀ r ∈ J.recs ++ J.pend, r.length ≤ 65536) (hl : (fileB st (J.recs ++ J.pend)).length ≤ 4194304) (hnn : D.now.n < 256) (hpl : D.pend.length ≤ 1000000) (hcl : (J.recs ++ J.pend).length ≤ 1000000) :
    Calls Try.prog 43 #[.pointer (some ⟨j, 0, none⟩)] w fun e w' => e = .returned (.int .i64 (actI D)) ∧ DevP d g w (actD D ⟨0, J.name ++ ⟨#[46, 110, 101, 119]⟩, ⟨#[]⟩, fileB st (J.recs ++ J.pend), true⟩) w' := by
  obtain ⟨i0, hi0, hz0, hz1, hz2⟩ := info_parts Try.infoBytes
  obtain ⟨A1, c1, v1, A2, c2, v2, hb, hi⟩ := hJ
  have hS : Blk j 66 (jCs d A1 c1 A2 c2 J) w.drew := hb
  have c2' : w.cell? ⟨j, 2, none⟩ = some (.int .i64 J.start) := hb.cell 2
  obtain ⟨o, ho⟩ := owner_new g w.heap.size
  have hod : o ≠ d := fun e => ho d hD.lt (by rw [hD.owner, e])
  have hoj : o ≠ j := fun e => ho j hb.lt (by rw [hi.O, e])
  have HO := Lib.hid ho
  have hxl : Ext (fun _ => False) g w (g.lit w.heap.size 0) (w.alloc (.cells #[] 37)).drew := (Ext.lit (fun _ => False) g w (.cells #[] 37) 0).drew
  have hal : App 37 1 o (g.lit w.heap.size 0) (w.alloc (.cells #[] 37)).drew (some ⟨w.heap.size, 0, none⟩) 0 0 [] := (App.lit g w [] 37 (0, 0) 0 o rfl (by decide)).ext (M := fun _ => False) ((Ext.refl _ _ _).drew) (fun h => h)
  have hJ1 := JAt.ext ⟨A1, c1, v1, A2, c2, v2, hb, hi⟩ hxl (fun h => h)
  have hD1 := hD.ext hxl (fun h => h)
  have HS1 := Lib.hid ((hi.r1.rd.ext hxl).src (P := Try.prog) Try.underlying33 c1 hi.q1.one (fun h => (hi.r1.nz h).1))
  have HR2 := Lib.hid (hi.r2.rd.ext hxl)
  have HQ1 := Lib.hid (hi.q1.ext hxl)
  have HQ2 := Lib.hid (hi.q2.ext hxl)
  have HV2 : Hid (∀ u ∈ v2, u.oneCell' = true) := hi.q2.one
  have HZ2 : Hid (A2 = none → J.pend.length = 0) := fun h => (hi.r2.nz h).1
  have HXL := Lib.hid hxl
  have HAL := Lib.hid hal
  have HJ := Lib.hid hJ1
  have HD := Lib.hid hD1
  have HRL := Lib.hid hrl
  have HSA : Hid (Blk j 66 (jCs d A1 c1 A2 c2 J) (w.alloc (.cells #[] 37)).drew) := hb.alloc _
  have HOj : Hid ((g.lit w.heap.size 0).O j = j) := hi.O
  have hll : J.recs.length + J.pend.length ≤ 1000000 := by simpa using hcl
  clear ho hxl hal hJ1 hD1 hD hi hrl
  generalize g.lit w.heap.size 0 = gl at *
  go_enter Try.func43, Try.ntmps43
  go_wp2_with fail
  (refine wp_region_mix (S := Blk j 66 (jCs d A1 c1 A2 c2 J)) [11] [([1, 2, 3, 4, 6, 7, 8, 9], 0), ([], 5), ([], 10)] (by kernel_rfl) (by kernel_rfl) (by intro c a d v w h; cases d <;> exact h) hS ?_; have hN : Nonempty (Held (Blk j 66 (jCs d A1 c1 A2 c2 J))) := ⟨⟨_, hS⟩⟩)
  have r3 : ∀ y : Held (Blk j 66 (jCs d A1 c1 A2 c2 J)), y.w.cell? ⟨j, 3, none⟩ = some (.slice A1 J.recs.length c1) := fun y => y.ok.cell 3
  have r4 : ∀ y : Held (Blk j 66 (jCs d A1 c1 A2 c2 J)), y.w.cell? ⟨j, 4, none⟩ = some (.slice A2 J.pend.length c2) := fun y => y.ok.cell 4
  (unfold wpMix wpRd; (repeat (first | simp only [List.filterMap_cons] | simp only [List.filterMap_nil] | simp only [List.getElem?_toArray] | simp only [List.getElem?_cons_zero] | simp only [List.getElem?_cons_succ])); (try dsimp only); change wpQuiet _ _ _ _ (_ :: _ :: _ :: _ :: _ :: _ :: _ :: _ :: []) _; (repeat (go_big_quiet_step (fail))); refine wpQuiet_nil ?_; (try dsimp only))
  clear r3 r4
  go_wp2_with fail
  refine ⟨HSA.out, ?_⟩
  (unfold wpMix wpRd; (repeat (first | simp only [List.filterMap_cons] | simp only [List.filterMap_nil] | simp only [List.getElem?_toArray] | simp only [List.getElem?_cons_zero] | simp only [List.getElem?_cons_succ])); (try dsimp only); change wpQuiet _ _ _ _ ([]) _; (repeat (go_big_quiet_step (fail))); refine wpQuiet_nil ?_; (try dsimp only))
  refine wpList_append_app rfl _ _ _ _ rfl 37 i0 (.slice none 0 0) 1 24 Try.underlying33 hi0 hz0 hz1 hz2 rfl (by decide) rfl HAL.out rfl HS1.out (by unfold maxLen; omega) (by omega) ?_
  intro A3 c3 w3 g3 hx3 ha3 _
  have HA3 := Lib.hid ha3
  have HX3 := Lib.hid ((HXL.out.imp (fun _ h => h.elim)).trans hx3)
  have HS3 := Lib.hid ((HR2.out.ext hx3).src (P := Try.prog) Try.underlying33 c2 HV2.out HZ2.out)
  have hS3 : Blk j 66 (jCs d A1 c1 A2 c2 J) w3 := HSA.out.ext hx3 (by rw [HOj.out]; exact fun e => hoj e.symm)
  have HQ13 := Lib.hid (HQ1.out.ext hx3)
  have HQ23 := Lib.hid (HQ2.out.ext hx3)
  have HJ3 := Lib.hid (HJ.out.ext hx3 (fun e => hoj e.symm))
  have HD3 := Lib.hid (HD.out.ext hx3 (fun e => hod e.symm))
  have HOj3 : Hid (g3.O j = j) := (hx3.own j HSA.out.lt).trans HOj.out
  clear hx3 ha3 HXL HAL HS1 HR2 HQ1 HQ2 HJ HD HOj
  refine ⟨hS3, ?_⟩
  (unfold wpMix wpRd; (repeat (first | simp only [List.filterMap_cons] | simp only [List.filterMap_nil] | simp only [List.getElem?_toArray] | simp only [List.getElem?_cons_zero] | simp only [List.getElem?_cons_succ])); (try dsimp only); change wpQuiet _ _ _ _ ([]) _; (repeat (go_big_quiet_step (fail))); refine wpQuiet_nil ?_; (try dsimp only))
  refine wpList_append_app rfl _ _ _ _ rfl 37 i0 (.slice none 0 0) 1 24 Try.underlying33 hi0 hz0 hz1 hz2 rfl (by decide) rfl HA3.out rfl HS3.out (by unfold maxLen; omega) (by omega) ?_
  intro A4 c4 w4 g4 hx4 ha4 _
  have HA4 := Lib.hid ha4.rd
  have HX4 := Lib.hid (HX3.out.trans hx4)
  have hS4 : Blk j 66 (jCs d A1 c1 A2 c2 J) w4 := hS3.ext hx4 (by rw [HOj3.out]; exact fun e => hoj e.symm)
  have HQ4 := Lib.hid ((HQ13.out.append HQ23.out).ext hx4)
  have HJ4 := Lib.hid (HJ3.out.ext hx4 (fun e => hoj e.symm))
  have HD4 := Lib.hid (HD3.out.ext hx4 (fun e => hod e.symm))
  have c24 : w4.cell? ⟨j, 2, none⟩ = some (.int .i64 (st : Int)) := by rw [← hs]; exact hS4.cell 2
  have hlen : 0 + J.recs.length + J.pend.length = (J.recs ++ J.pend).length := by simp
  clear hx4 ha4 HX3 HA3 HS3 HQ13 HQ23 HJ3 HD3 HOj3
  refine ⟨hS4, ?_⟩
  go_frame
  (unfold wpMix wpRd; (repeat (first | simp only [List.filterMap_cons] | simp only [List.filterMap_nil] | simp only [List.getElem?_toArray] | simp only [List.getElem?_cons_zero] | simp only [List.getElem?_cons_succ])); (try dsimp only); change wpQuiet _ _ _ _ (_ :: []) _; (repeat (go_big_quiet_step (fail))); refine wpQuiet_nil ?_; (try dsimp only))
  rw [hlen] at HA4
  rw [hlen]
  go_wp2_with fail
  rw [← List.length_append]
  refine (write_any j d g4 w4 J D HJ4.out HD4.out st A4 c4 _ (J.recs ++ J.pend) HA4.out HQ4.out hn hnm (by omega) HRL.out hl hnn hpl hcl).mono ?_
  rintro e w5 ⟨rfl, hP⟩
  have HX0 : Hid (Ext (fun _ => False) g w g4 w4) := HX4.out.more (fun b hb e => absurd e (HO.out b hb))
  have HFIN := Lib.hid (hP.pre (HX0.out.imp (fun _ h => h.elim)))
  clear hP
  go_wp2_with fail
  go_ret
  exact ⟨rfl, HFIN.out⟩

end Go.Proofs.Ythjbaafbkalomaa
