/-
  The walk of the reference's edit.
-/
import Derived.Test.YtocffknoeknabaaGreatDoorDpB
import Derived.Deep.CutRange
namespace Go.Proofs.YtocffknoeknabaaGreatDoor
open Go.RowKit

/-- What an edit keeps that is not refused. -/
structure EditOk (d : List Rev) (E : List Edt) (i : Nat) (x : Edt) : Prop where
  valid : validB x.path.data.toList = true
  short : x.path.size ≤ 200
  order : ∀ y, 0 < i → E[i - 1]? = some y → ordH y.path x.path < 0
  act : 1 ≤ x.act ∧ x.act ≤ 5
  live : liveD d x.path = !(x.act == 1 || x.act == 4)
  base : x.base = lastN d x.path
  here : x.act = 4 → liveD d x.src = true ∧ lastN d x.src = x.srcn ∧ x.src ≠ x.path
  none : x.act ≠ 4 → x.src.size = 0 ∧ x.srcn = 0
  ty : tyOk x.ty = true
  size : 0 ≤ x.con.size
  gone : goneA x.act = true → x.ty = (lastR d x.path).ty ∧ x.con = zeroCon

theorem lastN_bound {d : List Rev} (h : OkR d) (p : ByteArray) : 0 ≤ lastN d p ∧ lastN d p ≤ 1000000 := by
  unfold lastN
  cases hl : lastD d p with
  | none => exact ⟨by decide, by decide⟩
  | some v =>
    have := h v (List.mem_filter.1 (List.mem_of_getLast? hl)).1
    dsimp only
    omega
theorem toList_nil {s : ByteArray} (h : s.toList = []) : s = ⟨#[]⟩ := by
  refine ba_data ?_
  rw [← toList_eq, h]
theorem fun_and5 {α : Type} {p0 p1 p2 p3 p4 : α → Prop} (h : ∀ y, p0 y ∧ p1 y ∧ p2 y ∧ p3 y ∧ p4 y) :
    (∀ y, p0 y) ∧ (∀ y, p1 y) ∧ (∀ y, p2 y) ∧ (∀ y, p3 y) ∧ ∀ y, p4 y :=
  ⟨fun y => (h y).1, fun y => (h y).2.1, fun y => (h y).2.2.1, fun y => (h y).2.2.2.1, fun y => (h y).2.2.2.2⟩
def EdM (W : Nat) (D : List Value) (C : List Value) (x : List Value) (w : World) : Prop :=
  Blk W 37 D w ∧ Blk (W + 1) 52 C w ∧ Blk (W + 1 + 1) 44 x w
theorem EdM.below {W : Nat} {D C x : List Value} {w w' : World} (h : EdM W D C x w) (hb : Below w.heap.size w w') : EdM W D C x w' :=
  ⟨h.1.below hb, h.2.1.below hb, h.2.2.below hb⟩

set_option maxRecDepth 100000 in
set_option maxHeartbeats 6400000 in
theorem redit_any (d : List Rev) (A B : Option Addr) (ca nb cb : Nat) (c : Chg) (E R : Option Addr) (ec rc : Nat) (i : Nat) (x : Edt) (w : World)
    (hd : revK.In A d w) (hn : d.length ≤ 1000000) (hk : OkR d) (hE : edtK.In E c.edits w) (hz : c.edits.length ≤ 1000000) (hi : c.edits[i]? = some x)
    (hs : ∀ y ∈ c.edits, y.path.size < 4294967281 ∧ y.src.size < 4294967281) (hg : G0 w) :
    Calls Tryz.prog 116 #[.agg #[.slice A d.length ca, .slice B nb cb], chgV c E ec R rc, .int .i64 i] w fun e w' => ∃ n : Int, e = .returned (.int .i64 n) ∧ (n = 0 → EditOk d c.edits i x) ∧ Below w.heap.size w w' := by
  have HI := Lib.hid hd
  have HIE := Lib.hid hE
  have HG := Lib.hid hg
  have HS := Lib.hid hs
  have HL1 := Lib.hid (fun w h => rlive_any d x.path A B ca nb cb w h hn)
  have HL2 := Lib.hid (fun w h => rlive_any d x.src A B ca nb cb w h hn)
  have HL3 := Lib.hid (fun w h => rlast_any d x.path A B ca nb cb w h hn)
  have HM := Lib.hid (fun w => rmade_any c x E R ec rc w)
  have HIE := Lib.hid hE
  have hil := (List.getElem?_eq_some_iff.1 hi).1
  have HX := Lib.hid hi
  clear hd hE hg hs hi
  obtain ⟨x0, hx0⟩ : ∃ x0, x0 = x := ⟨x, rfl⟩
  have HX0 := Lib.hid hx0
  rw [← hx0] at HX
  obtain ⟨b, off, rfl, hbl, hat⟩ := HIE.out (by omega)
  have hgx := HX.out
  rw [hx0] at hgx
  rw [← hx0]
  clear hx0
  have HTY : Hid (∀ w, Calls Tryz.prog 52 #[x.ty.val] w fun e w' => ∃ n : Int, e = .returned (.int .i64 n) ∧ (n = 0 ∧ tyOk x.ty = true ∨ n = 90) ∧ Below w.heap.size w w') := fun w => (rty_any x.ty w).mono fun e w' ⟨he, hb⟩ => ⟨tyErr x.ty, he, by
    unfold tyErr
    cases h : tyOk x.ty
    · right; rfl
    · left; exact ⟨rfl, rfl⟩, hb⟩
  have HP := Lib.hid (fun w hg => rpath_both x.path w (HS.out x (List.mem_of_getElem? hgx)).1 hg)
  obtain ⟨xp, xa, ⟨tb, tk, te, tx⟩, ⟨cs, cz⟩, xb, xs, xm, xf⟩ := x
  (have hcv := fun j (u : Value) (hj : ((Edt.mk xp xa ⟨tb, tk, te, tx⟩ ⟨cs, cz⟩ xb xs xm xf)).cells[j]? = some u) => ((hat).get hgx hj); have c0 := hcv 0 _ rfl; have c1 := hcv 1 _ rfl; have c2 := hcv 2 _ rfl; have c3 := hcv 3 _ rfl; have c4 := hcv 4 _ rfl; have c5 := hcv 5 _ rfl; have c6 := hcv 6 _ rfl; have c7 := hcv 7 _ rfl; have c8 := hcv 8 _ rfl; have c9 := hcv 9 _ rfl; have c10 := hcv 10 _ rfl; have c11 := hcv 11 _ rfl; have e12 : edtK.n = 12 := rfl; simp only [e12, Nat.add_zero] at c0 c1 c2 c3 c4 c5 c6 c7 c8 c9 c10 c11; clear hcv e12)
  have HAT := Lib.hid hat
  clear hat hgx
  unfold chgV
  unfold FTy.val FTy.cells at HTY
  unfold chgV Edt.val Edt.cells at HM
  dsimp only at HP HL1 HL2 HL3 HTY HM
  go_enter Tryz.func116, Tryz.ntmps116
  go_wp2_with fail
  refine (HP.out _ (HG.out.below (by (repeat (first | (with_reducible exact Below.refl _ _) | (with_reducible assumption) | (with_reducible refine Below.setCell ?_ ?_ _; rotate_left; focus (first | exact Nat.le_refl _ | (dsimp only; omega))) | (with_reducible refine Below.drew ?_) | (with_reducible refine below_drewN ?_ _) | (with_reducible refine Below.alloc ?_ ?_ _; rotate_left; focus (first | exact Nat.le_refl _ | (simp; done) | (simp; omega)))))))).mono ?_
  rintro e w1 ⟨PA, pn, pc, rfl, hB1⟩
  have hz1 := hB1.size
  simp at hz1
  have HM1 : Hid (EdM w.heap.size [.slice A d.length ca, .slice B nb cb] [.int .i64 c.num, .string c.client, .string c.text, .slice (some ⟨b, off, none⟩) c.edits.length ec, .slice R c.recs.length rc] [.string xp, .int .i64 xa, .int .i64 tb, .bool tk, .bool te, .bool tx, .int .u64 cs, .int .i64 cz, .int .i64 xb, .string xs, .int .i64 xm, .int .i64 xf] w1) := by
    refine EdM.below ?_ hB1
    refine ⟨?_, ?_, ?_⟩
    · (repeat (first | (with_reducible exact Blk.new _ _ _) | (with_reducible refine Blk.alloc ?_ _) | (with_reducible refine Blk.drew ?_) | (with_reducible refine Blk.far ?_ ?_ _; rotate_left; focus (dsimp only; omega))))
    · (repeat (first | (with_reducible exact Blk.new1 _ _ _ _) | (with_reducible refine Blk.alloc ?_ _) | (with_reducible refine Blk.drew ?_) | (with_reducible refine Blk.far ?_ ?_ _; rotate_left; focus (dsimp only; omega))))
    · exact Blk.new2 _ _ _ _ _
  have HB1 : Hid (Below w.heap.size w w1) := by
    have HB1 := hB1
    show Below _ _ _
    (repeat (first | (with_reducible exact Below.refl _ _) | (with_reducible assumption) | (with_reducible refine Below.setCell ?_ ?_ _; rotate_left; focus (first | exact Nat.le_refl _ | (dsimp only; omega) | (simp; omega))) | (with_reducible refine Below.drew ?_) | (with_reducible refine below_drewN ?_ _) | (with_reducible refine Below.alloc ?_ ?_ _; rotate_left; focus (first | exact Nat.le_refl _ | omega | (simp; done) | (simp; omega))) | (with_reducible refine Below.trans ?_ (HB1.mono ?_); rotate_left; focus (first | exact Nat.le_refl _ | omega | (simp; done) | (simp; omega)))))
  clear hB1 c0 c1 c2 c3 c4 c5 c6 c7 c8 c9 c10 c11
  (obtain ⟨d0, d1⟩ := (HM1).out.1.c2; obtain ⟨g0, g1, g2, g3, g4⟩ := (HM1).out.2.1.c5; obtain ⟨q0, q1, q2, q3, q4, q5, q6, q7, q8, q9, q10, q11⟩ := (HM1).out.2.2.c12)
  cases hv : validB xp.data.toList
  · go_wp2_with fail
    (go_ret; refine ⟨_, rfl, fun h => absurd h (by decide), ?_⟩; have HB1 := (HB1).out; (repeat (first | (with_reducible exact Below.refl _ _) | (with_reducible assumption) | (with_reducible refine Below.setCell ?_ ?_ _; rotate_left; focus (first | exact Nat.le_refl _ | (dsimp only; omega) | (simp; omega))) | (with_reducible refine Below.drew ?_) | (with_reducible refine below_drewN ?_ _) | (with_reducible refine Below.alloc ?_ ?_ _; rotate_left; focus (first | exact Nat.le_refl _ | omega | (simp; done) | (simp; omega))) | (with_reducible refine Below.trans ?_ (HB1.mono ?_); rotate_left; focus (first | exact Nat.le_refl _ | omega | (simp; done) | (simp; omega))))))
  by_cases hl : 200 < xp.size
  · go_wp2_with fail
    (go_ret; refine ⟨_, rfl, fun h => absurd h (by decide), ?_⟩; have HB1 := (HB1).out; (repeat (first | (with_reducible exact Below.refl _ _) | (with_reducible assumption) | (with_reducible refine Below.setCell ?_ ?_ _; rotate_left; focus (first | exact Nat.le_refl _ | (dsimp only; omega) | (simp; omega))) | (with_reducible refine Below.drew ?_) | (with_reducible refine below_drewN ?_ _) | (with_reducible refine Below.alloc ?_ ?_ _; rotate_left; focus (first | exact Nat.le_refl _ | omega | (simp; done) | (simp; omega))) | (with_reducible refine Below.trans ?_ (HB1.mono ?_); rotate_left; focus (first | exact Nat.le_refl _ | omega | (simp; done) | (simp; omega))))))
  have HV := Lib.hid hv
  have hS : Below w1.heap.size w1 w1.drew := (Below.refl _ _).drew
  go_upto_region 5 with fail
  go_cut [49] from 35 to 147 (fun v wx => ∃ bb : Bool, v = .bool bb ∧ (bb = false → ∀ y, 0 < i → c.edits[i - 1]? = some y → ordH y.path x0.path < 0) ∧ Below w1.heap.size w1 wx)
  case first =>
    rcases Nat.eq_zero_or_pos i with h0 | h0
    case inl =>
      subst h0
      have h0' : decide (((0 : Nat) : Int) > 0) = false := by decide
      (clear d0 d1 g0 g1 g2 g3 g4 q0 q1 q2 q3 q4 q5 q6 q7 q8 q9 q10 q11)
      (refine wp_region_s (S := Below w1.heap.size w1) (by kernel_rfl) (by kernel_rfl) hS ?_; have hN : Nonempty (Held (Below w1.heap.size w1)) := ⟨⟨_, hS⟩⟩; skip; (repeat (go_big_quiet_step (skip))); refine wpQuiet_nil ?_; rintro x ⟨⟨_, hx⟩, rfl⟩; clear hN)
      go_wp2_with fail
      go_meet
      case rel => exact ⟨false, rfl, fun _ y h => absurd h (by decide), hx⟩
    case inr =>
      have hj : i - 1 < c.edits.length := by omega
      have hgy := List.getElem?_eq_getElem hj
      generalize hq : c.edits[i - 1] = y at *
      have hat := HAT.out.below HB1.out hbl
      (have hcv := fun j (u : Value) (hj : (y).cells[j]? = some u) => ((hat).get hgy hj); have c0 := hcv 0 _ rfl; have c1 := hcv 1 _ rfl; have c2 := hcv 2 _ rfl; have c3 := hcv 3 _ rfl; have c4 := hcv 4 _ rfl; have c5 := hcv 5 _ rfl; have c6 := hcv 6 _ rfl; have c7 := hcv 7 _ rfl; have c8 := hcv 8 _ rfl; have c9 := hcv 9 _ rfl; have c10 := hcv 10 _ rfl; have c11 := hcv 11 _ rfl; have e12 : edtK.n = 12 := rfl; simp only [e12, Nat.add_zero] at c0 c1 c2 c3 c4 c5 c6 c7 c8 c9 c10 c11; clear hcv e12)
      have HO0 : Hid (∀ y', 0 < i → c.edits[i - 1]? = some y' → y' = y) := fun y' _ h => by rw [hgy] at h; injection h with h; exact h.symm
      have hsy := (HS.out y (List.mem_of_getElem? hgy)).1
      have hsx : xp.size < 4294967281 := by omega
      have HC := Lib.hid (fun w hg => rorder_any y.path xp w hsy hsx hg)
      have h0' : decide ((i : Int) > 0) = true := by rw [decide_eq_true_eq]; omega
      have KC := fun z : Held (Below w1.heap.size w1) => z.ok.cell (p := ⟨b, off + (i - 1) * 12, none⟩) (by dsimp only; omega)
      simp only [c0] at KC
      have HG1 := Lib.hid (HG.out.below HB1.out)
      clear c0 c1 c2 c3 c4 c5 c6 c7 c8 c9 c10 c11 hat hgy hq
      (clear d0 d1 g0 g1 g2 g3 g4 q0 q1 q2 q3 q4 q5 q6 q7 q8 q9 q10 q11)
      (refine wp_region_s (S := Below w1.heap.size w1) (by kernel_rfl) (by kernel_rfl) hS ?_; have hN : Nonempty (Held (Below w1.heap.size w1)) := ⟨⟨_, hS⟩⟩; (obtain ⟨rg0, rg1, rg2, rg3, rg4⟩ := fun_and5 (fun y : Held (Below w1.heap.size w1) => (HM1.out.below y.ok).2.1.c5); obtain ⟨q0, q1, q2, q3, q4, q5, q6, q7, q8, q9, q10, q11⟩ := fun_and12 (fun y : Held (Below w1.heap.size w1) => (HM1.out.below y.ok).2.2.c12)); (repeat (go_big_quiet_step ((go_at_call 54; exact held_keep (HC.out _ (HG1.out.below (Held.ok _))))))); refine wpQuiet_nil ?_; rintro x ⟨⟨_, hx⟩, rfl⟩; clear hN)
      have HX1 := Lib.hid hx
      by_cases ho : 0 ≤ ordH y.path xp
      · go_wp2_with fail
        go_meet
        case rel => exact ⟨true, by simp [ho], fun h => absurd h (by decide), HX1.out⟩
      · have ho' : ordH y.path xp < 0 := by omega
        go_wp2_with fail
        go_meet
        case rel =>
          refine ⟨false, by simp [ho'], fun _ y' h1 h2 => ?_, HX1.out⟩
          rw [HO0.out y' h1 h2, HX0.out]
          exact ho'
  case rest =>
    obtain ⟨bb, rfl, hO, hx⟩ := hcut
    have HO := Lib.hid hO
    have HM2 := Lib.hid (HM1.out.below hx)
    have HB2 := Lib.hid (HB1.out.trans (hx.mono HB1.out.size))
    have hz2 := hx.size
    clear HM1 HB1 hx hO
    (clear d0 d1 g0 g1 g2 g3 g4 q0 q1 q2 q3 q4 q5 q6 q7 q8 q9 q10 q11)
    (obtain ⟨d0, d1⟩ := (HM2).out.1.c2; obtain ⟨g0, g1, g2, g3, g4⟩ := (HM2).out.2.1.c5; obtain ⟨q0, q1, q2, q3, q4, q5, q6, q7, q8, q9, q10, q11⟩ := (HM2).out.2.2.c12)
    have hl2 : w.heap.size + 1 + 1 < wc.heap.size := by omega
    have hl2' : w.heap.size + 1 < wc.heap.size := by omega
    have hl2'' : w.heap.size < wc.heap.size := by omega
    cases bb
    case' true =>
      go_wp2_with fail
      (go_ret; refine ⟨_, rfl, fun h => absurd h (by decide), ?_⟩; have HB1 := (HB2).out; (repeat (first | (with_reducible exact Below.refl _ _) | (with_reducible assumption) | (with_reducible refine Below.setCell ?_ ?_ _; rotate_left; focus (first | exact Nat.le_refl _ | (dsimp only; omega) | (simp; omega))) | (with_reducible refine Below.drew ?_) | (with_reducible refine below_drewN ?_ _) | (with_reducible refine Below.alloc ?_ ?_ _; rotate_left; focus (first | exact Nat.le_refl _ | omega | (simp; done) | (simp; omega))) | (with_reducible refine Below.trans ?_ (HB1.mono ?_); rotate_left; focus (first | exact Nat.le_refl _ | omega | (simp; done) | (simp; omega))))))
    have HO := Lib.hid (HO.out rfl)
    go_wp2_with fail
    refine (HL1.out _ (HI.out.below HB2.out)).mono ?_
    rintro e w3 ⟨rfl, hB3⟩
    have HM3 := Lib.hid (HM2.out.below hB3)
    have HB3 := Lib.hid (HB2.out.trans (hB3.mono HB2.out.size))
    have hz3 := hB3.size
    clear HM2 HB2 hB3
    (clear d0 d1 g0 g1 g2 g3 g4 q0 q1 q2 q3 q4 q5 q6 q7 q8 q9 q10 q11)
    (obtain ⟨d0, d1⟩ := (HM3).out.1.c2; obtain ⟨g0, g1, g2, g3, g4⟩ := (HM3).out.2.1.c5; obtain ⟨q0, q1, q2, q3, q4, q5, q6, q7, q8, q9, q10, q11⟩ := (HM3).out.2.2.c12)
    have hl3 : w.heap.size + 1 + 1 < w3.heap.size := by omega
    have hl3' : w.heap.size + 1 < w3.heap.size := by omega
    have hl3'' : w.heap.size < w3.heap.size := by omega
    clear hl2 hl2' hl2''
    generalize hlv : liveD d xp = lv at *
    have HLV := Lib.hid hlv
    clear hlv
    go_upto_region 8 with fail
    go_cut [76] from 57 to 147 (fun v wx => ∃ bb : Bool, v = .bool bb ∧ (bb = false → (1 ≤ x0.act ∧ x0.act ≤ 5) ∧ liveD d x0.path = !(x0.act == 1 || x0.act == 4)) ∧ w3 = wx)
    case first =>
      have HX3 : Hid (x0.act = xa ∧ x0.path = xp) := by
        show _ ∧ _
        rw [HX0.out]
        exact ⟨rfl, rfl⟩
      have hx4 : xa = 4 ∨ xa = 1 ∨ ((xa == 1) = false ∧ (xa == 4) = false) := by
        by_cases h1 : xa = 1
        · exact .inr (.inl h1)
        · by_cases h4 : xa = 4
          · exact .inl h4
          · exact .inr (.inr ⟨by simpa using h1, by simpa using h4⟩)
      by_cases ha1 : xa < 1
      · go_wp2_with fail
        go_meet
        case rel => exact ⟨true, by simp, fun h => absurd h (by decide), rfl⟩
      by_cases ha5 : 5 < xa
      · go_wp2_with fail
        go_meet
        case rel => exact ⟨true, by simp, fun h => absurd h (by decide), rfl⟩
      have HAA : Hid (1 ≤ xa ∧ xa ≤ 5) := ⟨by omega, by omega⟩
      rcases hx4 with rfl | rfl | ⟨h31, h34⟩
      all_goals
        cases lv
        all_goals
          go_wp2_with fail
          all_goals go_meet
          case rel =>
            refine ⟨_, rfl, fun h => ⟨?_, ?_⟩, rfl⟩
            · rw [HX3.out.1]
              exact HAA.out
            · first
                | exact absurd h (by decide)
                | (rw [HX3.out.1, HX3.out.2, HLV.out]; rfl)
                | (rw [HX3.out.1, HX3.out.2, HLV.out, h31, h34]; rfl)
    case rest =>
      obtain ⟨bb, rfl, hA, rfl⟩ := hcut
      have HA := Lib.hid hA
      clear hA
      cases bb
      case' true =>
        go_wp2_with fail
        (go_ret; refine ⟨_, rfl, fun h => absurd h (by decide), ?_⟩; have HB1 := (HB3).out; (repeat (first | (with_reducible exact Below.refl _ _) | (with_reducible assumption) | (with_reducible refine Below.setCell ?_ ?_ _; rotate_left; focus (first | exact Nat.le_refl _ | (dsimp only; omega) | (simp; omega))) | (with_reducible refine Below.drew ?_) | (with_reducible refine below_drewN ?_ _) | (with_reducible refine Below.alloc ?_ ?_ _; rotate_left; focus (first | exact Nat.le_refl _ | omega | (simp; done) | (simp; omega))) | (with_reducible refine Below.trans ?_ (HB1.mono ?_); rotate_left; focus (first | exact Nat.le_refl _ | omega | (simp; done) | (simp; omega))))))
      have HA := Lib.hid (HA.out rfl)
      by_cases hb : ¬ xb = lastN d xp
      · go_wp2_with fail
        (all_goals first | (go_ret; refine ⟨_, rfl, fun h => absurd h (by decide), ?_⟩; have HB1 := (HB3).out; (repeat (first | (with_reducible exact Below.refl _ _) | (with_reducible assumption) | (with_reducible refine Below.setCell ?_ ?_ _; rotate_left; focus (first | exact Nat.le_refl _ | (dsimp only; omega) | (simp; omega))) | (with_reducible refine Below.drew ?_) | (with_reducible refine below_drewN ?_ _) | (with_reducible refine Below.alloc ?_ ?_ _; rotate_left; focus (first | exact Nat.le_refl _ | omega | (simp; done) | (simp; omega))) | (with_reducible refine Below.trans ?_ (HB1.mono ?_); rotate_left; focus (first | exact Nat.le_refl _ | omega | (simp; done) | (simp; omega))))); done) | (exfalso; omega) | (exfalso; simp_all; done))
      have hb' : xb = lastN d xp := Classical.not_not.1 hb
      have HBASE : Hid (x0.base = lastN d x0.path) := by
        show _ = _
        rw [HX0.out]
        exact hb'
      have HNB : Hid (-9223372036854775808 ≤ xb ∧ xb < 9223372036854775807) := by
        have := lastN_bound hk xp
        show _ ∧ _
        omega
      clear hb
      go_upto_if 83 with fail
      clear hb'
      go_cut [12, 13] from 81 to 147 (fun s12 s13 wx => ((x0.act = 4 → liveD d x0.src = true ∧ lastN d x0.src = x0.srcn ∧ x0.src ≠ x0.path) ∧ (x0.act ≠ 4 → x0.src.size = 0 ∧ x0.srcn = 0)) ∧ Below w3.heap.size w3 wx)
      case first =>
        by_cases h4 : xa = 4
        · subst h4
          go_wp2_with fail
          refine (HL2.out _ (HI.out.below HB3.out)).mono ?_
          rintro e w4 ⟨rfl, hB4⟩
          have HM4 := Lib.hid (HM3.out.below hB4)
          have HB34 := Lib.hid hB4
          have HB4 := Lib.hid (HB3.out.trans (hB4.mono HB3.out.size))
          have hz4 := hB4.size
          clear HM3 HB3 hB4
          (clear d0 d1 g0 g1 g2 g3 g4 q0 q1 q2 q3 q4 q5 q6 q7 q8 q9 q10 q11)
          (obtain ⟨d0, d1⟩ := (HM4).out.1.c2; obtain ⟨g0, g1, g2, g3, g4⟩ := (HM4).out.2.1.c5; obtain ⟨q0, q1, q2, q3, q4, q5, q6, q7, q8, q9, q10, q11⟩ := (HM4).out.2.2.c12)
          have hl4 : w.heap.size + 1 + 1 < w4.heap.size := by omega
          have hl4' : w.heap.size + 1 < w4.heap.size := by omega
          have hl4'' : w.heap.size < w4.heap.size := by omega
          clear hl3 hl3' hl3''
          generalize hls : liveD d xs = ls at *
          generalize hns : lastN d xs = ns at *
          have HLS := Lib.hid hls
          have HNS := Lib.hid hns
          clear hls hns
          cases ls
          case' false =>
            go_wp2_with fail
            (all_goals first | (go_ret; refine ⟨_, rfl, fun h => absurd h (by decide), ?_⟩; have HB1 := (HB4).out; (repeat (first | (with_reducible exact Below.refl _ _) | (with_reducible assumption) | (with_reducible refine Below.setCell ?_ ?_ _; rotate_left; focus (first | exact Nat.le_refl _ | (dsimp only; omega) | (simp; omega))) | (with_reducible refine Below.drew ?_) | (with_reducible refine below_drewN ?_ _) | (with_reducible refine Below.alloc ?_ ?_ _; rotate_left; focus (first | exact Nat.le_refl _ | omega | (simp; done) | (simp; omega))) | (with_reducible refine Below.trans ?_ (HB1.mono ?_); rotate_left; focus (first | exact Nat.le_refl _ | omega | (simp; done) | (simp; omega))))); done) | (exfalso; omega) | (exfalso; simp_all; done))
          by_cases hns : ¬ ns = xm
          · go_wp2_with fail
            (all_goals first | (go_ret; refine ⟨_, rfl, fun h => absurd h (by decide), ?_⟩; have HB1 := (HB4).out; (repeat (first | (with_reducible exact Below.refl _ _) | (with_reducible assumption) | (with_reducible refine Below.setCell ?_ ?_ _; rotate_left; focus (first | exact Nat.le_refl _ | (dsimp only; omega) | (simp; omega))) | (with_reducible refine Below.drew ?_) | (with_reducible refine below_drewN ?_ _) | (with_reducible refine Below.alloc ?_ ?_ _; rotate_left; focus (first | exact Nat.le_refl _ | omega | (simp; done) | (simp; omega))) | (with_reducible refine Below.trans ?_ (HB1.mono ?_); rotate_left; focus (first | exact Nat.le_refl _ | omega | (simp; done) | (simp; omega))))); done) | (exfalso; omega) | (exfalso; simp_all; done))
          have hns' := Classical.not_not.1 hns
          clear hns
          subst hns'
          by_cases hxp : xs = xp
          · subst hxp
            go_wp2_with fail
            (all_goals first | (go_ret; refine ⟨_, rfl, fun h => absurd h (by decide), ?_⟩; have HB1 := (HB4).out; (repeat (first | (with_reducible exact Below.refl _ _) | (with_reducible assumption) | (with_reducible refine Below.setCell ?_ ?_ _; rotate_left; focus (first | exact Nat.le_refl _ | (dsimp only; omega) | (simp; omega))) | (with_reducible refine Below.drew ?_) | (with_reducible refine below_drewN ?_ _) | (with_reducible refine Below.alloc ?_ ?_ _; rotate_left; focus (first | exact Nat.le_refl _ | omega | (simp; done) | (simp; omega))) | (with_reducible refine Below.trans ?_ (HB1.mono ?_); rotate_left; focus (first | exact Nat.le_refl _ | omega | (simp; done) | (simp; omega))))); done) | (exfalso; omega) | (exfalso; simp_all; done))
          have HF : Hid ((x0.act = 4 → liveD d x0.src = true ∧ lastN d x0.src = x0.srcn ∧ x0.src ≠ x0.path) ∧ (x0.act ≠ 4 → x0.src.size = 0 ∧ x0.srcn = 0)) := by
            show _ ∧ _
            rw [HX0.out]
            exact ⟨fun _ => ⟨HLS.out, HNS.out, hxp⟩, fun h => absurd rfl h⟩
          have exp : (xs.toList == xp.toList) = false := by
            rw [path_tl]
            cases h : (xs == xp)
            · rfl
            · exact absurd ((ba_beq _ _).1 h) hxp
          go_wp2_with fail
          go_meet
          case rel => exact ⟨HF.out, HB34.out⟩
        · have e34 : (xa == 4) = false := by simpa using h4
          by_cases hxs : ¬ xs.toList = []
          · go_wp2_with fail
            (all_goals first | (go_ret; refine ⟨_, rfl, fun h => absurd h (by decide), ?_⟩; have HB1 := (HB3).out; (repeat (first | (with_reducible exact Below.refl _ _) | (with_reducible assumption) | (with_reducible refine Below.setCell ?_ ?_ _; rotate_left; focus (first | exact Nat.le_refl _ | (dsimp only; omega) | (simp; omega))) | (with_reducible refine Below.drew ?_) | (with_reducible refine below_drewN ?_ _) | (with_reducible refine Below.alloc ?_ ?_ _; rotate_left; focus (first | exact Nat.le_refl _ | omega | (simp; done) | (simp; omega))) | (with_reducible refine Below.trans ?_ (HB1.mono ?_); rotate_left; focus (first | exact Nat.le_refl _ | omega | (simp; done) | (simp; omega))))); done) | (exfalso; omega) | (exfalso; simp_all; done))
          have hxs' : xs.toList = [] := Classical.not_not.1 hxs
          have hxz : xs = ⟨#[]⟩ := toList_nil hxs'
          have HXZ := Lib.hid hxz
          clear hxs hxz
          by_cases hxm : ¬ xm = 0
          · go_wp2_with fail
            (all_goals first | (go_ret; refine ⟨_, rfl, fun h => absurd h (by decide), ?_⟩; have HB1 := (HB3).out; (repeat (first | (with_reducible exact Below.refl _ _) | (with_reducible assumption) | (with_reducible refine Below.setCell ?_ ?_ _; rotate_left; focus (first | exact Nat.le_refl _ | (dsimp only; omega) | (simp; omega))) | (with_reducible refine Below.drew ?_) | (with_reducible refine below_drewN ?_ _) | (with_reducible refine Below.alloc ?_ ?_ _; rotate_left; focus (first | exact Nat.le_refl _ | omega | (simp; done) | (simp; omega))) | (with_reducible refine Below.trans ?_ (HB1.mono ?_); rotate_left; focus (first | exact Nat.le_refl _ | omega | (simp; done) | (simp; omega))))); done) | (exfalso; omega) | (exfalso; simp_all; done))
          have HXM := Lib.hid (Classical.not_not.1 hxm)
          have hxm' : (xm != 0) = false := by rw [HXM.out]; rfl
          clear hxm
          have HF : Hid ((x0.act = 4 → liveD d x0.src = true ∧ lastN d x0.src = x0.srcn ∧ x0.src ≠ x0.path) ∧ (x0.act ≠ 4 → x0.src.size = 0 ∧ x0.srcn = 0)) := by
            show _ ∧ _
            rw [HX0.out]
            exact ⟨fun h => absurd h h4, fun _ => ⟨by dsimp only; rw [HXZ.out]; rfl, HXM.out⟩⟩
          go_wp2_with fail
          go_meet
          case rel => exact ⟨HF.out, Below.refl _ _⟩
      case rest =>
        obtain ⟨hF, hx4⟩ := hcut
        have HF := Lib.hid hF
        have HM4 := Lib.hid (HM3.out.below hx4)
        have HB4 := Lib.hid (HB3.out.trans (hx4.mono HB3.out.size))
        have hz4 := hx4.size
        clear HM3 HB3 hx4 hF
        (clear d0 d1 g0 g1 g2 g3 g4 q0 q1 q2 q3 q4 q5 q6 q7 q8 q9 q10 q11)
        (obtain ⟨d0, d1⟩ := (HM4).out.1.c2; obtain ⟨g0, g1, g2, g3, g4⟩ := (HM4).out.2.1.c5; obtain ⟨q0, q1, q2, q3, q4, q5, q6, q7, q8, q9, q10, q11⟩ := (HM4).out.2.2.c12)
        have hl4 : w.heap.size + 1 + 1 < wc.heap.size := by omega
        have hl4' : w.heap.size + 1 < wc.heap.size := by omega
        have hl4'' : w.heap.size < wc.heap.size := by omega
        clear hl3 hl3' hl3''
        go_wp2_with fail
        refine (HTY.out _).mono ?_
        rintro e w5 ⟨n, rfl, hty, hB5⟩
        have HM5 := Lib.hid (HM4.out.below hB5)
        have HB5 := Lib.hid (HB4.out.trans (hB5.mono HB4.out.size))
        have hz5 := hB5.size
        clear HM4 HB4 hB5
        (clear d0 d1 g0 g1 g2 g3 g4 q0 q1 q2 q3 q4 q5 q6 q7 q8 q9 q10 q11)
        (obtain ⟨d0, d1⟩ := (HM5).out.1.c2; obtain ⟨g0, g1, g2, g3, g4⟩ := (HM5).out.2.1.c5; obtain ⟨q0, q1, q2, q3, q4, q5, q6, q7, q8, q9, q10, q11⟩ := (HM5).out.2.2.c12)
        have hl5 : w.heap.size + 1 + 1 < w5.heap.size := by omega
        have hl5' : w.heap.size + 1 < w5.heap.size := by omega
        have hl5'' : w.heap.size < w5.heap.size := by omega
        rcases hty with ⟨rfl, hty⟩ | rfl
        case' inr =>
          go_wp2_with fail
          (all_goals first | (go_ret; refine ⟨_, rfl, fun h => absurd h (by decide), ?_⟩; have HB1 := (HB5).out; (repeat (first | (with_reducible exact Below.refl _ _) | (with_reducible assumption) | (with_reducible refine Below.setCell ?_ ?_ _; rotate_left; focus (first | exact Nat.le_refl _ | (dsimp only; omega) | (simp; omega))) | (with_reducible refine Below.drew ?_) | (with_reducible refine below_drewN ?_ _) | (with_reducible refine Below.alloc ?_ ?_ _; rotate_left; focus (first | exact Nat.le_refl _ | omega | (simp; done) | (simp; omega))) | (with_reducible refine Below.trans ?_ (HB1.mono ?_); rotate_left; focus (first | exact Nat.le_refl _ | omega | (simp; done) | (simp; omega))))); done) | (exfalso; omega) | (exfalso; simp_all; done))
        have HTO := Lib.hid hty
        clear hty
        by_cases hcz : cz < 0
        · go_wp2_with fail
          (all_goals first | (go_ret; refine ⟨_, rfl, fun h => absurd h (by decide), ?_⟩; have HB1 := (HB5).out; (repeat (first | (with_reducible exact Below.refl _ _) | (with_reducible assumption) | (with_reducible refine Below.setCell ?_ ?_ _; rotate_left; focus (first | exact Nat.le_refl _ | (dsimp only; omega) | (simp; omega))) | (with_reducible refine Below.drew ?_) | (with_reducible refine below_drewN ?_ _) | (with_reducible refine Below.alloc ?_ ?_ _; rotate_left; focus (first | exact Nat.le_refl _ | omega | (simp; done) | (simp; omega))) | (with_reducible refine Below.trans ?_ (HB1.mono ?_); rotate_left; focus (first | exact Nat.le_refl _ | omega | (simp; done) | (simp; omega))))); done) | (exfalso; omega) | (exfalso; simp_all; done))
        go_wp2_with fail
        refine (HL3.out _ (HI.out.below HB5.out)).mono ?_
        rintro e w6 ⟨rfl, hB6⟩
        have HM6 := Lib.hid (HM5.out.below hB6)
        have HB6 := Lib.hid (HB5.out.trans (hB6.mono HB5.out.size))
        have hz6 := hB6.size
        clear HM5 HB5 hB6
        (clear d0 d1 g0 g1 g2 g3 g4 q0 q1 q2 q3 q4 q5 q6 q7 q8 q9 q10 q11)
        (obtain ⟨d0, d1⟩ := (HM6).out.1.c2; obtain ⟨g0, g1, g2, g3, g4⟩ := (HM6).out.2.1.c5; obtain ⟨q0, q1, q2, q3, q4, q5, q6, q7, q8, q9, q10, q11⟩ := (HM6).out.2.2.c12)
        have hl6 : w.heap.size + 1 + 1 < w6.heap.size := by omega
        have hl6' : w.heap.size + 1 < w6.heap.size := by omega
        have hl6'' : w.heap.size < w6.heap.size := by omega
        generalize (lastD d xp).isSome = os
        generalize hlr : lastR d xp = v
        have HLR := Lib.hid hlr
        clear hlr
        obtain ⟨vp, vn, vc, va, ⟨ub, uk, ue, ux⟩, ⟨us, uz⟩, vs, vm⟩ := v
        unfold Rev.val Rev.cells
        go_wp2_with fail
        refine (HM.out _ HNB.out.1 HNB.out.2).mono ?_
        rintro e w7 ⟨rfl, hB7⟩
        have hz7 := hB7.size
        simp at hz7
        have HM7 := Lib.hid ((HM6.out.below ((Below.refl _ _).alloc (Nat.le_refl _) _)).below hB7)
        have HK7 := Lib.hid ((Blk.new _ _ _).below hB7)
        have HB7 : Hid (Below w.heap.size w w7) := by
          have h6 := HB6.out
          exact (h6.alloc h6.size _).trans (hB7.mono (by simp; exact Nat.le_trans h6.size (Nat.le_succ _)))
        clear HM6 HB6 hB7
        have HGV := Lib.hid (rgone_any (madeR c.num ⟨xp, xa, ⟨tb, tk, te, tx⟩, ⟨cs, cz⟩, xb, xs, xm, xf⟩))
        have HGA : Hid (goneR (madeR c.num ⟨xp, xa, ⟨tb, tk, te, tx⟩, ⟨cs, cz⟩, xb, xs, xm, xf⟩) = goneA x0.act) := by
          show _ = _
          rw [HX0.out]
          rfl
        generalize goneR (madeR c.num ⟨xp, xa, ⟨tb, tk, te, tx⟩, ⟨cs, cz⟩, xb, xs, xm, xf⟩) = gv at *
        go_wp2_with fail
        refine (HGV.out _).mono ?_
        rintro e w8 ⟨rfl, hB8⟩
        have hz8 := hB8.size
        have HB8 := Lib.hid (HB7.out.trans (hB8.mono HB7.out.size))
        have HM8 := Lib.hid (HM7.out.below hB8)
        have HK8 := Lib.hid (HK7.out.below hB8)
        clear HM7 HB7 hB8 HK7
        (clear d0 d1 g0 g1 g2 g3 g4 q0 q1 q2 q3 q4 q5 q6 q7 q8 q9 q10 q11)
        (obtain ⟨d0, d1⟩ := (HM8).out.1.c2; obtain ⟨g0, g1, g2, g3, g4⟩ := (HM8).out.2.1.c5; obtain ⟨q0, q1, q2, q3, q4, q5, q6, q7, q8, q9, q10, q11⟩ := (HM8).out.2.2.c12)
        obtain ⟨v0, v1, v2, v3, v4, v5, v6, v7, v8, v9, v10, v11⟩ := HK8.out.c12
        have hl8 : w.heap.size + 1 + 1 < w8.heap.size := by omega
        have hl8' : w6.heap.size < w8.heap.size := by omega
        cases gv
        · go_wp2_with fail
          go_ret
          refine ⟨_, rfl, fun _ => ⟨by rw [HX0.out]; exact HV.out, by rw [HX0.out]; dsimp only; omega, HO.out trivial, (HA.out trivial).1, (HA.out trivial).2, HBASE.out, HF.out.1, HF.out.2, by rw [HX0.out]; exact HTO.out, by rw [HX0.out]; dsimp only; omega, fun h => ?_⟩, ?_⟩
          · rw [← HGA.out] at h
            cases h
          · have HB1 := HB8.out
            (repeat (first | (with_reducible exact Below.refl _ _) | (with_reducible assumption) | (with_reducible refine Below.setCell ?_ ?_ _; rotate_left; focus (first | exact Nat.le_refl _ | (dsimp only; omega) | (simp; omega))) | (with_reducible refine Below.drew ?_) | (with_reducible refine below_drewN ?_ _) | (with_reducible refine Below.alloc ?_ ?_ _; rotate_left; focus (first | exact Nat.le_refl _ | omega | (simp; done) | (simp; omega))) | (with_reducible refine Below.trans ?_ (HB1.mono ?_); rotate_left; focus (first | exact Nat.le_refl _ | omega | (simp; done) | (simp; omega)))))
        · go_wp2_with fail
          all_goals first
            | (go_ret
               refine ⟨_, rfl, fun h => absurd h (by decide), ?_⟩
               have HB1 := HB8.out
               (repeat (first | (with_reducible exact Below.refl _ _) | (with_reducible assumption) | (with_reducible refine Below.setCell ?_ ?_ _; rotate_left; focus (first | exact Nat.le_refl _ | (dsimp only; omega) | (simp; omega))) | (with_reducible refine Below.drew ?_) | (with_reducible refine below_drewN ?_ _) | (with_reducible refine Below.alloc ?_ ?_ _; rotate_left; focus (first | exact Nat.le_refl _ | omega | (simp; done) | (simp; omega))) | (with_reducible refine Below.trans ?_ (HB1.mono ?_); rotate_left; focus (first | exact Nat.le_refl _ | omega | (simp; done) | (simp; omega)))))
               done)
            | (rename_i a1 a2 a3 a4 a5 a6
               go_ret
               refine ⟨_, rfl, fun _ => ⟨by rw [HX0.out]; exact HV.out, by rw [HX0.out]; dsimp only; omega, HO.out trivial, (HA.out trivial).1, (HA.out trivial).2, HBASE.out, HF.out.1, HF.out.2, by rw [HX0.out]; exact HTO.out, by rw [HX0.out]; dsimp only; omega, fun _ => ?_⟩, ?_⟩
               · rw [HX0.out]
                 dsimp only
                 rw [HLR.out, a1, a2, a3, a4, a5, a6]
                 exact ⟨rfl, rfl⟩
               · have HB1 := HB8.out
                 (repeat (first | (with_reducible exact Below.refl _ _) | (with_reducible assumption) | (with_reducible refine Below.setCell ?_ ?_ _; rotate_left; focus (first | exact Nat.le_refl _ | (dsimp only; omega) | (simp; omega))) | (with_reducible refine Below.drew ?_) | (with_reducible refine below_drewN ?_ _) | (with_reducible refine Below.alloc ?_ ?_ _; rotate_left; focus (first | exact Nat.le_refl _ | omega | (simp; done) | (simp; omega))) | (with_reducible refine Below.trans ?_ (HB1.mono ?_); rotate_left; focus (first | exact Nat.le_refl _ | omega | (simp; done) | (simp; omega))))))
end Go.Proofs.YtocffknoeknabaaGreatDoor
