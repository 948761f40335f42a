/-
  The walk of the reference's record.
-/
import Derived.Test.YtocffknoeknabaaGreatDoorDpF
import Derived.Test.YtocffknoeknabaaGreatDoorCgB
namespace Go.Proofs.YtocffknoeknabaaGreatDoor
open Go.RowKit

/-- Blocks of memory, each with its cells. -/
def Bs : List (Nat × TypeId × List Value) → World → Prop
  | [], _ => True
  | (b, T, cs) :: L, w => Blk b T cs w ∧ Bs L w
theorem Bs.below : ∀ {L : List (Nat × TypeId × List Value)} {w w' : World}, Bs L w → Below w.heap.size w w' → Bs L w'
  | [], _, _, _, _ => trivial
  | _ :: _, _, _, h, hb => ⟨h.1.below hb, h.2.below hb⟩
theorem Bs.cons {b : Nat} {T : TypeId} {cs : List Value} {L : List (Nat × TypeId × List Value)} {w : World} (h : Blk b T cs w) (hs : Bs L w) : Bs ((b, T, cs) :: L) w := ⟨h, hs⟩
theorem Bs.alloc {L : List (Nat × TypeId × List Value)} {w : World} (h : Bs L w) (o : Obj) : Bs L (w.alloc o) := h.below ((Below.refl _ _).alloc (Nat.le_refl _) _)
theorem fun_and2 {α : Type} {p0 p1 : α → Prop} (h : ∀ y, p0 y ∧ p1 y) : (∀ y, p0 y) ∧ ∀ y, p1 y := ⟨fun y => (h y).1, fun y => (h y).2⟩
theorem fun_and6 {α : Type} {p0 p1 p2 p3 p4 p5 : α → Prop} (h : ∀ y, p0 y ∧ p1 y ∧ p2 y ∧ p3 y ∧ p4 y ∧ p5 y) :
    (∀ y, p0 y) ∧ (∀ y, p1 y) ∧ (∀ y, p2 y) ∧ (∀ y, p3 y) ∧ (∀ y, p4 y) ∧ ∀ y, p5 y :=
  ⟨fun y => (h y).1, fun y => (h y).2.1, fun y => (h y).2.2.1, fun y => (h y).2.2.2.1, fun y => (h y).2.2.2.2.1, fun y => (h y).2.2.2.2.2⟩

def lineD (d : List Rev) (x : Rcd) : ByteArray × Int := firstD d (getR d x.src x.lst)
/-- What a record keeps that is not refused, beside the edit that it is about. -/
structure RecOk (d : List Rev) (c : Chg) (i : Nat) (x : Rcd) (t : Edt) : Prop where
  order : ∀ y, 0 < i → c.recs[i - 1]? = some y → befR y x = true
  how : 1 ≤ x.how ∧ x.how ≤ 4
  mem : t ∈ c.edits
  path : t.path = x.dst
  num : t.base + 1 = x.num
  act : t.act ≠ 5
  span : 1 ≤ x.fst ∧ x.fst ≤ x.lst ∧ x.lst ≤ (logD d x.src).length
  each : ∀ n, x.fst ≤ n → n ≤ x.lst → (getR d x.src n).act ≠ 5 ∧ firstD d (getR d x.src n) = lineD d x
  other : t.act ≠ 1 → firstD d (prevR d (madeR c.num t)) ≠ lineD d x
def RecRet (d : List Rev) (c : Chg) (i : Nat) (x : Rcd) (w : World) (e : Ending) (w' : World) : Prop := ∃ r : Bool, e = .returned (.bool r) ∧ (r = true → ∃ t, RecOk d c i x t) ∧ Below w.heap.size w w'
theorem RecRet.no {d : List Rev} {c : Chg} {i : Nat} {x : Rcd} {w w' : World} (h : Below w.heap.size w w') : RecRet d c i x w (.returned (.bool false)) w' := ⟨false, rfl, fun h => absurd h (by decide), h⟩
theorem RecRet.yes {d : List Rev} {c : Chg} {i : Nat} {x : Rcd} {w w' : World} {r : Bool} (h : ∃ t, RecOk d c i x t) (hb : Below w.heap.size w w') : RecRet d c i x w (.returned (.bool r)) w' := ⟨r, rfl, fun _ => h, hb⟩
def TOk (E : List Edt) (x : Rcd) (t : Edt) : Prop := t = zeroEdt ∨ (t ∈ E ∧ t.path = x.dst ∧ t.base + 1 = x.num ∧ t.act ≠ 5)

theorem getR_rng {d : List Rev} (h : OkR d) (p : ByteArray) (n : Int) : -9223372036854775807 ≤ (getR d p n).num ∧ (getR d p n).num ≤ 9223372036854775807 := by
  unfold getR
  cases hg : getD' d p n with
  | none => exact ⟨by decide, by decide⟩
  | some v =>
    have := h v (get_mem hg)
    simp only [Option.getD_some]
    omega
theorem prevR_rng {d : List Rev} (h : OkR d) (v : Rev) : -9223372036854775807 ≤ (prevR d v).num ∧ (prevR d v).num ≤ 9223372036854775807 := by
  unfold prevR
  cases hg : prevD d v with
  | none => exact ⟨by decide, by decide⟩
  | some u =>
    have := h u (prev_mem hg)
    simp only [Option.getD_some]
    omega
set_option maxRecDepth 100000 in
set_option maxHeartbeats 12800000 in
theorem rrecord_any (d : List Rev) (A B : Option Addr) (ca nb cb : Nat) (c : Chg) (E R : Option Addr) (ec rc : Nat) (i : Nat) (x : Rcd) (w : World)
    (hd : revK.In A d w) (hn : d.length ≤ 1000000) (hk : OkR d) (hE : edtK.In E c.edits w) (hR : rcdK.In R c.recs w) (hz : c.edits.length ≤ 1000000) (hzr : c.recs.length ≤ 1000000) (hi : c.recs[i]? = some x)
    (hs : ∀ y ∈ c.recs, y.src.size < 4294967281 ∧ y.dst.size < 4294967281) (hbb : ∀ y ∈ c.edits, 0 ≤ y.base ∧ y.base ≤ 1000000) (hg : G0 w) :
    Calls Tryz.prog 118 #[.agg #[.slice A d.length ca, .slice B nb cb], chgV c E ec R rc, .int .i64 i] w fun e w' => RecRet d c i x w e w' := by
  have HI := Lib.hid hd
  have HIE := Lib.hid hE
  have HIR := Lib.hid hR
  have HG := Lib.hid hg
  have HS := Lib.hid hs
  have HBB := Lib.hid hbb
  have HLG := Lib.hid (fun w h => rlog_any d x.src A B ca nb cb w h hn)
  have HGS := Lib.hid (fun n w h => rget_any d x.src n A B ca nb cb w h hn)
  have HGD := Lib.hid (fun n w h => rget_any d x.dst n A B ca nb cb w h hn)
  have HFI := Lib.hid (fun v w h hv => rfirst_any d v A B ca nb cb w h hn hk hv)
  have HPR := Lib.hid (fun v w h hv => rprev_any d v A B ca nb cb w h hn hv)
  have HM := Lib.hid (fun x w => rmade_any c x E R ec rc w)
  have hil := (List.getElem?_eq_some_iff.1 hi).1
  have HX := Lib.hid hi
  clear hd hE hR hg hs hbb hi
  obtain ⟨x0, hx0⟩ : ∃ x0, x0 = x := ⟨x, rfl⟩
  have HX0 := Lib.hid hx0
  rw [← hx0] at HX
  obtain ⟨b, off, rfl, hbl, hat⟩ := HIR.out (by omega)
  have hgx := HX.out
  rw [hx0] at hgx
  rw [← hx0]
  clear hx0
  have hsx := HS.out x (List.mem_of_getElem? hgx)
  obtain ⟨xs, xf, xl, xd, xn, xh⟩ := x
  (have hcv := fun j (u : Value) (hj : ((Rcd.mk xs xf xl xd xn xh)).cells[j]? = some u) => ((hat).get hgx hj); have c0 := hcv 0 _ rfl; have c1 := hcv 1 _ rfl; have c2 := hcv 2 _ rfl; have c3 := hcv 3 _ rfl; have c4 := hcv 4 _ rfl; have c5 := hcv 5 _ rfl; have e12 : rcdK.n = 6 := rfl; simp only [e12, Nat.add_zero] at c0 c1 c2 c3 c4 c5; clear hcv e12)
  have HAT := Lib.hid hat
  clear hat hgx
  unfold chgV at HM ⊢
  dsimp only at HLG HGS HGD hsx
  go_enter Tryz.func118, Tryz.ntmps118
  go_upto_region 2 with fail
  generalize hw1 : World.alloc _ (.cells #[.string xs, .int .i64 xf, .int .i64 xl, .string xd, .int .i64 xn, .int .i64 xh] 55) = w1
  have HM1 : Hid (Bs [(w.heap.size + 1 + 1, 55, [.string xs, .int .i64 xf, .int .i64 xl, .string xd, .int .i64 xn, .int .i64 xh]), (w.heap.size + 1, 52, [.int .i64 c.num, .string c.client, .string c.text, .slice E c.edits.length ec, .slice (some ⟨b, off, none⟩) c.recs.length rc]), (w.heap.size, 37, [.slice A d.length ca, .slice B nb cb])] w1) := by
    show Bs _ _
    rw [← hw1]
    refine ⟨?_, ?_, ?_, trivial⟩
    · exact Blk.new2 _ _ _ _ _
    · (repeat (first | (with_reducible exact Blk.new1 _ _ _ _) | (with_reducible refine Blk.alloc ?_ _) | (with_reducible refine Blk.drew ?_) | (with_reducible refine Blk.far ?_ ?_ _; rotate_left; focus (dsimp only; omega))))
    · (repeat (first | (with_reducible exact Blk.new _ _ _) | (with_reducible refine Blk.alloc ?_ _) | (with_reducible refine Blk.drew ?_) | (with_reducible refine Blk.far ?_ ?_ _; rotate_left; focus (dsimp only; omega))))
  have HB1 : Hid (Below w.heap.size w w1) := by
    show Below _ _ _
    rw [← hw1]
    (repeat (first | (with_reducible exact Below.refl _ _) | (with_reducible assumption) | (with_reducible refine Below.setCell ?_ ?_ _; rotate_left; focus (first | exact Nat.le_refl _ | (dsimp only; omega))) | (with_reducible refine Below.drew ?_) | (with_reducible refine below_drewN ?_ _) | (with_reducible refine Below.alloc ?_ ?_ _; rotate_left; focus (first | exact Nat.le_refl _ | (simp; done) | (simp; omega)))))
  clear hw1 c0 c1 c2 c3 c4 c5
  (obtain ⟨x0', x1', x2', x3', x4', x5'⟩ := (HM1.out).1.c6; obtain ⟨g0, g1, g2, g3, g4⟩ := (HM1.out).2.1.c5; obtain ⟨d0, d1⟩ := (HM1.out).2.2.1.c2; have lx := (HM1.out).1.lt; have lg := (HM1.out).2.1.lt; have ld := (HM1.out).2.2.1.lt)
  have hS : Below w1.heap.size w1 w1.drew := (Below.refl _ _).drew
  have hgt : w.heap.size + 1 + 1 < w1.heap.size := lx
  go_cut [52] from 30 to 242 (fun v wx => ∃ bb : Bool, v = .bool bb ∧ (bb = false → (∀ y, 0 < i → c.recs[i - 1]? = some y → befR y x0 = true) ∧ 1 ≤ x0.how ∧ x0.how ≤ 4) ∧ Below w1.heap.size w1 wx)
  case first =>
    as_aux_lemma =>
    have hh3 : decide (xh < 1) = true ∨ (decide (xh < 1) = false ∧ decide (xh > 4) = true) ∨ (decide (xh < 1) = false ∧ decide (xh > 4) = false ∧ 1 ≤ xh ∧ xh ≤ 4) := by
      by_cases h1 : xh < 1
      · exact .inl (by simp [h1])
      · by_cases h4 : xh > 4
        · exact .inr (.inl ⟨by simp [h1], by simp [h4]⟩)
        · exact .inr (.inr ⟨by simp [h1], by simp [h4], by omega, by omega⟩)
    rcases Nat.eq_zero_or_pos i with h0 | h0
    case inl =>
      subst h0
      have h0' : decide (((0 : Nat) : Int) > 0) = false := by decide
      (clear x0' x1' x2' x3' x4' x5' g0 g1 g2 g3 g4 d0 d1 lx lg ld)
      obtain ⟨x0', x1', x2', x3', x4', x5'⟩ := fun_and6 (fun y : Held (Below w1.heap.size w1) => (HM1.out.below y.ok).1.c6)
      have lx := fun y : Held (Below w1.heap.size w1) => (HM1.out.below y.ok).1.lt
      rcases hh3 with e1 | ⟨e1, e2⟩ | ⟨e1, e2, e3, e4⟩
      · (refine wp_region_s (S := Below w1.heap.size w1) (by kernel_rfl) (by kernel_rfl) hS ?_; have hN : Nonempty (Held (Below w1.heap.size w1)) := ⟨⟨_, hS⟩⟩; skip; (repeat (go_big_quiet_step (skip))); refine wpQuiet_nil ?_; rintro x ⟨⟨_, hx⟩, rfl⟩; clear hN)
        go_wp2_with fail
        go_meet
        case rel => exact ⟨true, rfl, fun h => absurd h (by decide), hx⟩
      · (refine wp_region_s (S := Below w1.heap.size w1) (by kernel_rfl) (by kernel_rfl) hS ?_; have hN : Nonempty (Held (Below w1.heap.size w1)) := ⟨⟨_, hS⟩⟩; skip; (repeat (go_big_quiet_step (skip))); refine wpQuiet_nil ?_; rintro x ⟨⟨_, hx⟩, rfl⟩; clear hN)
        go_wp2_with fail
        go_meet
        case rel => exact ⟨true, rfl, fun h => absurd h (by decide), hx⟩
      · have H34 : Hid (1 ≤ xh ∧ xh ≤ 4) := ⟨e3, e4⟩
        clear e3 e4
        (refine wp_region_s (S := Below w1.heap.size w1) (by kernel_rfl) (by kernel_rfl) hS ?_; have hN : Nonempty (Held (Below w1.heap.size w1)) := ⟨⟨_, hS⟩⟩; skip; (repeat (go_big_quiet_step (skip))); refine wpQuiet_nil ?_; rintro x ⟨⟨_, hx⟩, rfl⟩; clear hN)
        go_wp2_with fail
        go_meet
        case rel => exact ⟨false, rfl, fun _ => ⟨fun _ h => absurd h (by decide), by rw [HX0.out]; exact H34.out⟩, hx⟩
    case inr =>
      have hj : i - 1 < c.recs.length := by omega
      have hgy := List.getElem?_eq_getElem hj
      generalize hq : c.recs[i - 1] = y at *
      have hat := HAT.out.below HB1.out hbl
      (have hcv := fun j (u : Value) (hj : (y).cells[j]? = some u) => ((hat).get hgy hj); have c0 := hcv 0 _ rfl; have c1 := hcv 1 _ rfl; have c2 := hcv 2 _ rfl; have c3 := hcv 3 _ rfl; have c4 := hcv 4 _ rfl; have c5 := hcv 5 _ rfl; have e12 : rcdK.n = 6 := rfl; simp only [e12, Nat.add_zero] at c0 c1 c2 c3 c4 c5; clear hcv e12)
      have HO0 : Hid (∀ y', 0 < i → c.recs[i - 1]? = some y' → y' = y) := fun y' _ h => by rw [hgy] at h; injection h with h; exact h.symm
      have hsy := HS.out y (List.mem_of_getElem? hgy)
      have HC := Lib.hid (fun w hg => rbefore_any y ⟨xs, xf, xl, xd, xn, xh⟩ w hsy hsx hg)
      have HBX : Hid (befR y x0 = befR y ⟨xs, xf, xl, xd, xn, xh⟩) := by
        show _ = _
        rw [HX0.out]
      have h0' : decide ((i : Int) > 0) = true := by rw [decide_eq_true_eq]; omega
      have hbw : b < w1.heap.size := Nat.lt_of_lt_of_le hbl HB1.out.size
      have KC := fun (z : Held (Below w1.heap.size w1)) (j : Nat) => z.ok.cell (p := ⟨b, off + (i - 1) * 6 + j, none⟩) hbw
      have k0 := fun z => (KC z 0).trans c0
      have k1 := fun z => (KC z 1).trans c1
      have k2 := fun z => (KC z 2).trans c2
      have k3 := fun z => (KC z 3).trans c3
      have k4 := fun z => (KC z 4).trans c4
      have k5 := fun z => (KC z 5).trans c5
      simp only [Nat.add_zero] at k0
      have HG1 := Lib.hid (HG.out.below HB1.out)
      clear c0 c1 c2 c3 c4 c5 hat hgy hq KC hsy
      (clear x0' x1' x2' x3' x4' x5' g0 g1 g2 g3 g4 d0 d1 lx lg ld)
      obtain ⟨x0', x1', x2', x3', x4', x5'⟩ := fun_and6 (fun y : Held (Below w1.heap.size w1) => (HM1.out.below y.ok).1.c6)
      obtain ⟨g0, g1, g2, g3, g4⟩ := fun_and5 (fun y : Held (Below w1.heap.size w1) => (HM1.out.below y.ok).2.1.c5)
      have lx := fun y : Held (Below w1.heap.size w1) => (HM1.out.below y.ok).1.lt
      have lb := fun y : Held (Below w1.heap.size w1) => Nat.lt_of_lt_of_le hbw y.ok.size
      obtain ⟨ys, yf, yl, yd, yn, yh⟩ := y
      unfold Rcd.val Rcd.cells at HC
      dsimp only at HC
      cases hbf : befR ⟨ys, yf, yl, yd, yn, yh⟩ ⟨xs, xf, xl, xd, xn, xh⟩
      · rw [hbf] at HC
        clear hbf
        (refine wp_region_s (S := Below w1.heap.size w1) (by kernel_rfl) (by kernel_rfl) hS ?_; have hN : Nonempty (Held (Below w1.heap.size w1)) := ⟨⟨_, hS⟩⟩; skip; (repeat (go_big_quiet_step ((go_at_call 87; exact held_keep (HC.out _ (HG1.out.below (Held.ok _))))))); refine wpQuiet_nil ?_; rintro x ⟨⟨_, hx⟩, rfl⟩; clear hN)
        go_wp2_with fail
        go_meet
        case rel => exact ⟨true, rfl, fun h => absurd h (by decide), hx⟩
      · rw [hbf] at HC
        have HBF := Lib.hid hbf
        clear hbf
        rcases hh3 with e1 | ⟨e1, e2⟩ | ⟨e1, e2, e3, e4⟩
        · (refine wp_region_s (S := Below w1.heap.size w1) (by kernel_rfl) (by kernel_rfl) hS ?_; have hN : Nonempty (Held (Below w1.heap.size w1)) := ⟨⟨_, hS⟩⟩; skip; (repeat (go_big_quiet_step ((go_at_call 87; exact held_keep (HC.out _ (HG1.out.below (Held.ok _))))))); refine wpQuiet_nil ?_; rintro x ⟨⟨_, hx⟩, rfl⟩; clear hN)
          go_wp2_with fail
          go_meet
          case rel => exact ⟨true, rfl, fun h => absurd h (by decide), hx⟩
        · (refine wp_region_s (S := Below w1.heap.size w1) (by kernel_rfl) (by kernel_rfl) hS ?_; have hN : Nonempty (Held (Below w1.heap.size w1)) := ⟨⟨_, hS⟩⟩; skip; (repeat (go_big_quiet_step ((go_at_call 87; exact held_keep (HC.out _ (HG1.out.below (Held.ok _))))))); refine wpQuiet_nil ?_; rintro x ⟨⟨_, hx⟩, rfl⟩; clear hN)
          go_wp2_with fail
          go_meet
          case rel => exact ⟨true, rfl, fun h => absurd h (by decide), hx⟩
        · have H34 : Hid (1 ≤ xh ∧ xh ≤ 4) := ⟨e3, e4⟩
          clear e3 e4
          (refine wp_region_s (S := Below w1.heap.size w1) (by kernel_rfl) (by kernel_rfl) hS ?_; have hN : Nonempty (Held (Below w1.heap.size w1)) := ⟨⟨_, hS⟩⟩; skip; (repeat (go_big_quiet_step ((go_at_call 87; exact held_keep (HC.out _ (HG1.out.below (Held.ok _))))))); refine wpQuiet_nil ?_; rintro x ⟨⟨_, hx⟩, rfl⟩; clear hN)
          go_wp2_with fail
          go_meet
          case rel => exact ⟨false, rfl, fun _ => ⟨fun y' h1 h2 => by rw [HO0.out y' h1 h2, HBX.out]; exact HBF.out, by rw [HX0.out]; exact H34.out⟩, hx⟩
  case rest =>
    obtain ⟨bb, rfl, hO, hx⟩ := hcut
    have HO := Lib.hid hO
    have HM2 := Lib.hid (HM1.out.below hx)
    have HB2 := Lib.hid (HB1.out.trans (hx.mono HB1.out.size))
    (clear x0' x1' x2' x3' x4' x5' g0 g1 g2 g3 g4 d0 d1 lx lg ld)
    clear HM1 HB1 hx hO hgt
    (obtain ⟨x0', x1', x2', x3', x4', x5'⟩ := (HM2.out).1.c6; obtain ⟨g0, g1, g2, g3, g4⟩ := (HM2.out).2.1.c5; obtain ⟨d0, d1⟩ := (HM2.out).2.2.1.c2; have lx := (HM2.out).1.lt; have lg := (HM2.out).2.1.lt; have ld := (HM2.out).2.2.1.lt)
    cases bb
    case' true =>
      go_wp2_with fail
      (go_ret; refine RecRet.no ?_; have HB1 := (HB2).out; (repeat (first | (with_reducible exact Below.refl _ _) | (with_reducible assumption) | (with_reducible refine Below.setCell ?_ ?_ _; rotate_left; focus (first | exact Nat.le_refl _ | (dsimp only; omega) | (simp; omega))) | (with_reducible refine Below.drew ?_) | (with_reducible refine below_drewN ?_ _) | (with_reducible refine Below.alloc ?_ ?_ _; rotate_left; focus (first | exact Nat.le_refl _ | omega | (simp; done) | (simp; omega))) | (with_reducible refine Below.trans ?_ (HB1.mono ?_); rotate_left; focus (first | exact Nat.le_refl _ | omega | (simp; done) | (simp; omega))))))
    have HO := Lib.hid (HO.out rfl)
    go_wp2_with fail
    have hgt : w.heap.size + 1 + 1 < wc.heap.size := lx
    generalize hw2 : World.alloc wc (.cells _ 44) = w2
    have HM3 : Hid (Bs [(wc.heap.size, 44, zeroEdt.cells), (w.heap.size + 1 + 1, 55, [.string xs, .int .i64 xf, .int .i64 xl, .string xd, .int .i64 xn, .int .i64 xh]), (w.heap.size + 1, 52, [.int .i64 c.num, .string c.client, .string c.text, .slice E c.edits.length ec, .slice (some ⟨b, off, none⟩) c.recs.length rc]), (w.heap.size, 37, [.slice A d.length ca, .slice B nb cb])] w2) := by
      show Bs _ _
      rw [← hw2]
      exact ⟨Blk.new _ _ _, HM2.out.alloc _⟩
    have HB3 : Hid (Below w.heap.size w w2) := by
      show Below _ _ _
      rw [← hw2]
      exact HB2.out.alloc HB2.out.size _
    (clear x0' x1' x2' x3' x4' x5' g0 g1 g2 g3 g4 d0 d1 lx lg ld)
    clear HM2 HB2 hw2
    generalize wc.heap.size = tb at *
    go_loopw [56] (fun s wr => ∃ (k : Nat) (t : Edt), s = .int .i64 k ∧ k ≤ c.edits.length ∧ Hid (TOk c.edits x0 t) ∧ Below w.heap.size w wr ∧ Bs [(tb, 44, t.cells), (w.heap.size + 1 + 1, 55, [.string xs, .int .i64 xf, .int .i64 xl, .string xd, .int .i64 xn, .int .i64 xh]), (w.heap.size + 1, 52, [.int .i64 c.num, .string c.client, .string c.text, .slice E c.edits.length ec, .slice (some ⟨b, off, none⟩) c.recs.length rc]), (w.heap.size, 37, [.slice A d.length ca, .slice B nb cb])] wr) (fun s _ => c.edits.length - (intOf s).toNat)
    case atStart => exact ⟨0, zeroEdt, rfl, Nat.zero_le _, .inl rfl, HB3.out, HM3.out⟩
    case round =>
      obtain ⟨k, t, rfl, hk, HT, hB, hM⟩ := hrel
      have HB := Lib.hid hB
      have HMr := Lib.hid hM
      (obtain ⟨x0', x1', x2', x3', x4', x5'⟩ := (hM.2).1.c6; obtain ⟨g0, g1, g2, g3, g4⟩ := (hM.2).2.1.c5; obtain ⟨d0, d1⟩ := (hM.2).2.2.1.c2; have lx := (hM.2).1.lt; have lg := (hM.2).2.1.lt; have ld := (hM.2).2.2.1.lt)
      by_cases hlt : k < c.edits.length
      · skip --SKIP
        obtain ⟨eb, eo, rfl, hbl, hat⟩ := HIE.out (by omega)
        have hat := hat.below hB hbl
        have hg := List.getElem?_eq_getElem hlt
        have HME := Lib.hid (List.getElem_mem hlt)
        generalize hq : c.edits[k] = y at *
        have hbase := HBB.out y HME.out
        have lt := hM.1.lt
        (obtain ⟨f0, f1, f2, f3, f4, f5, f6, f7, f8, f9, f10, f11⟩ := (hM.1).f12; obtain ⟨z0, z1, z2, z3, z4, z5, z6, z7, z8, z9, z10, z11⟩ := (hM.1).c12)
        (have hcv := fun j (u : Value) (hj : (y).cells[j]? = some u) => ((hat).get hg hj); have c0 := hcv 0 _ rfl; have c1 := hcv 1 _ rfl; have c2 := hcv 2 _ rfl; have c3 := hcv 3 _ rfl; have c4 := hcv 4 _ rfl; have c5 := hcv 5 _ rfl; have c6 := hcv 6 _ rfl; have c7 := hcv 7 _ rfl; have c8 := hcv 8 _ rfl; have c9 := hcv 9 _ rfl; have c10 := hcv 10 _ rfl; have c11 := hcv 11 _ rfl; have e12 : edtK.n = 12 := rfl; simp only [e12, Nat.add_zero] at c0 c1 c2 c3 c4 c5 c6 c7 c8 c9 c10 c11; clear hcv e12)
        clear hat hg hq hM hB
        obtain ⟨yp, ya, ⟨yb1, yb2, yb3, yb4⟩, ⟨yc1, yc2⟩, yb, ys, ym, yf⟩ := y
        dsimp only at hbase
        cases e1 : (yp.toList == xd.toList)
        · go_wp2_with fail
          go_roundw
          case rel => exact ⟨k + 1, t, by go_num, by omega, HT, HB.out.alloc HB.out.size _, HMr.out.alloc _⟩
          case measure => simp [intOf]; omega
        cases e2 : (yb + 1 == xn)
        · go_wp2_with fail
          go_roundw
          case rel => exact ⟨k + 1, t, by go_num, by omega, HT, HB.out.alloc HB.out.size _, HMr.out.alloc _⟩
          case measure => simp [intOf]; omega
        cases e3 : (ya == 5)
        · go_wp2_with fail
          go_roundw
          case rel =>
            refine ⟨k + 1, ⟨yp, ya, ⟨yb1, yb2, yb3, yb4⟩, ⟨yc1, yc2⟩, yb, ys, ym, yf⟩, by go_num, by omega, .inr ⟨HME.out, ?_, ?_, ?_⟩, ?_, ?_, ?_, ?_, ?_, trivial⟩
            · rw [HX0.out]
              dsimp only
              rw [path_tl] at e1
              exact (ba_beq _ _).1 e1
            · rw [HX0.out]
              simpa using e2
            · simpa using e3
            · have HB1 := HB.out
              (repeat (first | (with_reducible exact Below.refl _ _) | (with_reducible assumption) | (with_reducible refine Below.setCell ?_ ?_ _; rotate_left; focus (first | exact Nat.le_refl _ | (dsimp only; omega) | (simp; omega))) | (with_reducible refine Below.drew ?_) | (with_reducible refine below_drewN ?_ _) | (with_reducible refine Below.alloc ?_ ?_ _; rotate_left; focus (first | exact Nat.le_refl _ | omega | (simp; done) | (simp; omega))) | (with_reducible refine Below.trans ?_ (HB1.mono ?_); rotate_left; focus (first | exact Nat.le_refl _ | omega | (simp; done) | (simp; omega)))))
            · exact Blk.alloc (Blk.put12 HMr.out.1 _ _ _ _ _ _ _ _ _ _ _ _) _
            · have r1 := HMr.out.2.1
              (repeat (first | (with_reducible exact r1) | (with_reducible refine Blk.alloc ?_ _) | (with_reducible refine Blk.drew ?_) | (with_reducible refine Blk.far ?_ ?_ _; rotate_left; focus (dsimp only; omega))))
            · have r1 := HMr.out.2.2.1
              (repeat (first | (with_reducible exact r1) | (with_reducible refine Blk.alloc ?_ _) | (with_reducible refine Blk.drew ?_) | (with_reducible refine Blk.far ?_ ?_ _; rotate_left; focus (dsimp only; omega))))
            · have r1 := HMr.out.2.2.2.1
              (repeat (first | (with_reducible exact r1) | (with_reducible refine Blk.alloc ?_ _) | (with_reducible refine Blk.drew ?_) | (with_reducible refine Blk.far ?_ ?_ _; rotate_left; focus (dsimp only; omega))))
          case measure => simp [intOf]; omega
        · have e3' : (ya != 5) = false := by simp [bne, e3]
          go_wp2_with fail
          go_roundw
          case rel => exact ⟨k + 1, t, by go_num, by omega, HT, HB.out.alloc HB.out.size _, HMr.out.alloc _⟩
          case measure => simp [intOf]; omega
      · obtain rfl : k = c.edits.length := by omega
        have HM4 := HMr
        have HB4 := HB
        clear hlt hk hM hB HB3 HM3 HMr HB
        go_wp2_with fail
        (clear x0' x1' x2' x3' x4' x5' g0 g1 g2 g3 g4 d0 d1 lx lg ld)
        generalize wr = w4 at *
        go_loopw [9, 83] (fun s9 s wr => ∃ (k : Nat) (ig : Bool), s = .int .i64 k ∧ s9 = .bool ig ∧ k ≤ c.recs.length ∧ Below w4.heap.size w4 wr) (fun _ s _ => c.recs.length - (intOf s).toNat)
        case atStart => exact ⟨0, true, rfl, rfl, Nat.zero_le _, Below.refl _ _⟩
        case round =>
          obtain ⟨k, ig, rfl, rfl, hk, hB⟩ := hrel
          have HBr := Lib.hid hB
          have HMr := Lib.hid (HM4.out.below hB)
          (obtain ⟨x0', x1', x2', x3', x4', x5'⟩ := (HMr.out.2).1.c6; obtain ⟨g0, g1, g2, g3, g4⟩ := (HMr.out.2).2.1.c5; obtain ⟨d0, d1⟩ := (HMr.out.2).2.2.1.c2; have lx := (HMr.out.2).1.lt; have lg := (HMr.out.2).2.1.lt; have ld := (HMr.out.2).2.2.1.lt)
          by_cases hlt : k < c.recs.length
          · skip --SKIP
            have hat := (HAT.out.below HB4.out hbl).below hB (Nat.lt_of_lt_of_le hbl HB4.out.size)
            have hbl' : b < wr.heap.size := Nat.lt_of_lt_of_le (Nat.lt_of_lt_of_le hbl HB4.out.size) hB.size
            have hg := List.getElem?_eq_getElem hlt
            generalize hq : c.recs[k] = y at *
            (have hcv := fun j (u : Value) (hj : (y).cells[j]? = some u) => ((hat).get hg hj); have c0 := hcv 0 _ rfl; have c1 := hcv 1 _ rfl; have c2 := hcv 2 _ rfl; have c3 := hcv 3 _ rfl; have c4 := hcv 4 _ rfl; have c5 := hcv 5 _ rfl; have e12 : rcdK.n = 6 := rfl; simp only [e12, Nat.add_zero] at c0 c1 c2 c3 c4 c5; clear hcv e12)
            clear hat hg hq hB
            obtain ⟨ys, yf, yl, yd, yn, yh⟩ := y
            cases ig
            · go_wp2_with fail
              go_roundw
              case rel => exact ⟨k + 1, false, by go_num, rfl, by omega, HBr.out.alloc HBr.out.size _⟩
              case measure => simp [intOf]; omega
            · go_wp2_with fail
              all_goals
                go_roundw
                case rel => exact ⟨k + 1, _, by go_num, rfl, by omega, HBr.out.alloc HBr.out.size _⟩
                case measure => simp [intOf]; omega
          · obtain rfl : k = c.recs.length := by omega
            have HM5 := HMr
            have HB5 := Lib.hid (HB4.out.trans (hB.mono HB4.out.size))
            clear hlt hk hB HB4 HM4 HMr HBr
            have lt := HM5.out.1.lt
            generalize wr = w5 at *
            go_upto_region 17 with fail
            have hS : Below w5.heap.size w5 w5.drew := (Below.refl _ _).drew
            go_cut [132] from 84 to 242 (fun v wx => ∃ bb : Bool, v = .bool bb ∧ (bb = false → t.act ≠ 0 ∧ 1 ≤ x0.fst ∧ x0.fst ≤ x0.lst ∧ x0.lst ≤ (logD d x0.src).length) ∧ Below w5.heap.size w5 wx)
            case first =>
              as_aux_lemma =>
              (clear x0' x1' x2' x3' x4' x5' g0 g1 g2 g3 g4 d0 d1 lx lg ld)
              clear lt
              obtain ⟨x0', x1', x2', x3', x4', x5'⟩ := fun_and6 (fun y : Held (Below w5.heap.size w5) => (HM5.out.below y.ok).2.1.c6)
              obtain ⟨d0, d1⟩ := fun_and2 (fun y : Held (Below w5.heap.size w5) => (HM5.out.below y.ok).2.2.2.1.c2)
              obtain ⟨t0, t1, t2, t3, t4, t5, t6, t7, t8, t9, t10, t11⟩ := fun_and12 (fun y : Held (Below w5.heap.size w5) => (HM5.out.below y.ok).1.c12)
              have lx := fun y : Held (Below w5.heap.size w5) => (HM5.out.below y.ok).2.1.lt
              have ld := fun y : Held (Below w5.heap.size w5) => (HM5.out.below y.ok).2.2.2.1.lt
              have lt := fun y : Held (Below w5.heap.size w5) => (HM5.out.below y.ok).1.lt
              by_cases ha0 : t.act = 0
              · have a0 : (t.act == 0) = true := by rw [ha0]; rfl
                clear ha0
                (refine wp_region_s (S := Below w5.heap.size w5) (by kernel_rfl) (by kernel_rfl) hS ?_; have hN : Nonempty (Held (Below w5.heap.size w5)) := ⟨⟨_, hS⟩⟩; skip; (repeat (go_big_quiet_step (skip))); refine wpQuiet_nil ?_; rintro x ⟨⟨_, hx⟩, rfl⟩; clear hN)
                go_wp2_with fail
                go_meet
                case rel => exact ⟨true, rfl, fun h => absurd h (by decide), hx⟩
              have a0 : (t.act == 0) = false := by simpa using ha0
              have HA0 := Lib.hid ha0
              clear ha0
              by_cases hf1 : xf < 1
              · have f1 : decide (xf < 1) = true := by simp [hf1]
                clear hf1
                (refine wp_region_s (S := Below w5.heap.size w5) (by kernel_rfl) (by kernel_rfl) hS ?_; have hN : Nonempty (Held (Below w5.heap.size w5)) := ⟨⟨_, hS⟩⟩; skip; (repeat (go_big_quiet_step (skip))); refine wpQuiet_nil ?_; rintro x ⟨⟨_, hx⟩, rfl⟩; clear hN)
                go_wp2_with fail
                go_meet
                case rel => exact ⟨true, rfl, fun h => absurd h (by decide), hx⟩
              have f1 : decide (xf < 1) = false := by simp [hf1]
              by_cases hfl : xf > xl
              · have f2 : decide (xf > xl) = true := by simp [hfl]
                clear hf1 hfl
                (refine wp_region_s (S := Below w5.heap.size w5) (by kernel_rfl) (by kernel_rfl) hS ?_; have hN : Nonempty (Held (Below w5.heap.size w5)) := ⟨⟨_, hS⟩⟩; skip; (repeat (go_big_quiet_step (skip))); refine wpQuiet_nil ?_; rintro x ⟨⟨_, hx⟩, rfl⟩; clear hN)
                go_wp2_with fail
                go_meet
                case rel => exact ⟨true, rfl, fun h => absurd h (by decide), hx⟩
              have f2 : decide (xf > xl) = false := by simp [hfl]
              have HFL : Hid (1 ≤ xf ∧ xf ≤ xl) := ⟨by omega, by omega⟩
              clear hf1 hfl
              (refine wp_region_mix (S := Below w5.heap.size w5) [22, 23, 24] [([0, 1, 2, 3, 4, 5, 6, 7, 8, 9, 10, 11, 12, 13, 14, 15, 16, 17, 18, 19, 20], 21)] (by kernel_rfl) (by kernel_rfl) (by intro c a d v w h; cases d <;> exact h) hS ?_; have hN : Nonempty (Held (Below w5.heap.size w5)) := ⟨⟨_, hS⟩⟩)
              (unfold wpMix wpRd; (repeat (first | simp only [List.filterMap_cons] | simp only [List.filterMap_nil] | simp only [List.getElem?_toArray] | simp only [List.getElem?_cons_zero] | simp only [List.getElem?_cons_succ])); (try dsimp only); change wpQuiet _ _ _ _ (_ :: _ :: _ :: _ :: _ :: _ :: _ :: _ :: _ :: _ :: _ :: _ :: _ :: _ :: _ :: _ :: _ :: _ :: _ :: _ :: _ :: []) _; (repeat (go_big_quiet_step (fail))); refine wpQuiet_nil ?_; (try dsimp only))
              go_wp2_with fail
              refine (HLG.out _ (HI.out.below HB5.out.drew)).mono ?_
              rintro e w6 ⟨A', c', rfl, hI6, hB6⟩
              have hS6 : Below w5.heap.size w5 w6 := hS.trans (hB6.mono (Nat.le_refl _))
              have hln := log_len d xs
              by_cases hlen : xl > (logD d xs).length
              · have f3 : decide (xl > ((logD d xs).length : Int)) = true := by simp [hlen]
                clear hlen
                go_wp2_with fail
                refine ⟨hS6, ?_⟩
                (unfold wpMix wpRd; (repeat (first | simp only [List.filterMap_cons] | simp only [List.filterMap_nil] | simp only [List.getElem?_toArray] | simp only [List.getElem?_cons_zero] | simp only [List.getElem?_cons_succ])); (try dsimp only); change wpQuiet _ _ _ _ (_ :: _ :: _ :: []) _; (repeat (go_big_quiet_step (fail))); refine wpQuiet_nil ?_; (try dsimp only))
                go_wp2_with fail
                go_meet
                case rel => exact ⟨true, rfl, fun h => absurd h (by decide), hS6⟩
              · have f3 : decide (xl > ((logD d xs).length : Int)) = false := by simp [hlen]
                have HLE : Hid (xl ≤ ((logD d xs).length : Int)) := by show _ ≤ _; omega
                clear hlen
                go_wp2_with fail
                refine ⟨hS6, ?_⟩
                (unfold wpMix wpRd; (repeat (first | simp only [List.filterMap_cons] | simp only [List.filterMap_nil] | simp only [List.getElem?_toArray] | simp only [List.getElem?_cons_zero] | simp only [List.getElem?_cons_succ])); (try dsimp only); change wpQuiet _ _ _ _ (_ :: _ :: _ :: []) _; (repeat (go_big_quiet_step (fail))); refine wpQuiet_nil ?_; (try dsimp only))
                go_wp2_with fail
                go_meet
                case rel => exact ⟨false, rfl, fun _ => ⟨HA0.out, by rw [HX0.out]; exact ⟨HFL.out.1, HFL.out.2, HLE.out⟩⟩, hS6⟩
            case rest =>
              obtain ⟨bb, rfl, hA, hx⟩ := hcut
              have HM6 := Lib.hid (HM5.out.below hx)
              have HB6 := Lib.hid (HB5.out.trans (hx.mono HB5.out.size))
              (clear x0' x1' x2' x3' x4' x5' g0 g1 g2 g3 g4 d0 d1 lx lg ld)
              clear lt HM5 HB5 hx hS
              (obtain ⟨x0', x1', x2', x3', x4', x5'⟩ := (HM6.out.2).1.c6; obtain ⟨g0, g1, g2, g3, g4⟩ := (HM6.out.2).2.1.c5; obtain ⟨d0, d1⟩ := (HM6.out.2).2.2.1.c2; have lx := (HM6.out.2).1.lt; have lg := (HM6.out.2).2.1.lt; have ld := (HM6.out.2).2.2.1.lt)
              cases bb
              case' true =>
                go_wp2_with fail
                (go_ret; refine RecRet.no ?_; have HB1 := (HB6).out; (repeat (first | (with_reducible exact Below.refl _ _) | (with_reducible assumption) | (with_reducible refine Below.setCell ?_ ?_ _; rotate_left; focus (first | exact Nat.le_refl _ | (dsimp only; omega) | (simp; omega))) | (with_reducible refine Below.drew ?_) | (with_reducible refine below_drewN ?_ _) | (with_reducible refine Below.alloc ?_ ?_ _; rotate_left; focus (first | exact Nat.le_refl _ | omega | (simp; done) | (simp; omega))) | (with_reducible refine Below.trans ?_ (HB1.mono ?_); rotate_left; focus (first | exact Nat.le_refl _ | omega | (simp; done) | (simp; omega))))))
              have HA := Lib.hid (hA rfl)
              clear hA
              go_wp2_with fail
              refine (HGS.out xl _ (HI.out.below HB6.out)).mono ?_
              rintro e w7 ⟨rfl, hB7⟩
              have HM7 := Lib.hid (HM6.out.below hB7)
              have HB7 := Lib.hid (HB6.out.trans (hB7.mono HB6.out.size))
              (clear x0' x1' x2' x3' x4' x5' g0 g1 g2 g3 g4 d0 d1 lx lg ld)
              clear HM6 HB6 hB7
              (obtain ⟨x0', x1', x2', x3', x4', x5'⟩ := (HM7.out.2).1.c6; obtain ⟨g0, g1, g2, g3, g4⟩ := (HM7.out.2).2.1.c5; obtain ⟨d0, d1⟩ := (HM7.out.2).2.2.1.c2; have lx := (HM7.out.2).1.lt; have lg := (HM7.out.2).2.1.lt; have ld := (HM7.out.2).2.2.1.lt)
              have HFS := Lib.hid (fun w h => HFI.out (getR d xs xl) w h (getR_rng hk xs xl))
              have HL0 : Hid (lineD d x0 = firstD d (getR d xs xl)) := by
                show _ = _
                rw [HX0.out]
                rfl
              have HR0 : Hid (getR d x0.src x0.lst = getR d xs xl) := by
                show _ = _
                rw [HX0.out]
              generalize getR d xs xl = sv at *
              generalize firstD d sv = L at *
              obtain ⟨Lp, Ln⟩ := L
              generalize (getD' d xs xl).isSome = sis
              obtain ⟨vp, vn, vc, va, ⟨ub, uk, ue, ux⟩, ⟨us, uz⟩, vs, vm⟩ := sv
              unfold Rev.val Rev.cells fileV at HFS
              unfold Rev.val Rev.cells
              dsimp only at HFS
              go_wp2_with fail
              refine (HFS.out _ (HI.out.below (HB7.out.alloc HB7.out.size _))).mono ?_
              rintro e w8 ⟨rfl, hB8⟩
              have HM8 := Lib.hid (Bs.below (Bs.cons (Blk.new w7 74 _) (HM7.out.alloc _)) hB8)
              have HB8 : Hid (Below w.heap.size w w8) := (HB7.out.alloc HB7.out.size _).trans (hB8.mono (HB7.out.alloc HB7.out.size _).size)
              (clear x0' x1' x2' x3' x4' x5' g0 g1 g2 g3 g4 d0 d1 lx lg ld)
              clear HM7 HB7 hB8
              generalize w7.heap.size = sb at *
              (obtain ⟨x0', x1', x2', x3', x4', x5'⟩ := (HM8.out.2.2).1.c6; obtain ⟨g0, g1, g2, g3, g4⟩ := (HM8.out.2.2).2.1.c5; obtain ⟨d0, d1⟩ := (HM8.out.2.2).2.2.1.c2; have lx := (HM8.out.2.2).1.lt; have lg := (HM8.out.2.2).2.1.lt; have ld := (HM8.out.2.2).2.2.1.lt)
              go_wp2_with fail
              generalize hw9 : World.alloc w8 (.cells _ 66) = w9
              have HM9 := Lib.hid (show Bs _ w9 from hw9 ▸ Bs.cons (Blk.new w8 66 [.string Lp, .int .i64 Ln]) (HM8.out.alloc _))
              have HB9 : Hid (Below w.heap.size w w9) := by
                show Below _ _ _
                rw [← hw9]
                exact HB8.out.alloc HB8.out.size _
              (clear x0' x1' x2' x3' x4' x5' g0 g1 g2 g3 g4 d0 d1 lx lg ld)
              clear HM8 HB8 hw9
              generalize w8.heap.size = fb at *
              have hfl : 1 ≤ xf ∧ xf ≤ xl ∧ xl ≤ 1000000 := by
                have h := HA.out
                have h2 := log_len d x0.src
                rw [HX0.out] at h h2
                dsimp only at h h2
                omega
              go_loopw [17] (fun s wr => ∃ m : Int, s = .int .i64 m ∧ xf ≤ m ∧ m ≤ xl + 1 ∧ Hid (∀ n, x0.fst ≤ n → n < m → (getR d x0.src n).act ≠ 5 ∧ firstD d (getR d x0.src n) = lineD d x0) ∧ Below w9.heap.size w9 wr) (fun s _ => (xl + 1 - intOf s).toNat)
              case atStart => exact ⟨xf, rfl, by omega, by omega, (fun n h1 h2 => by rw [HX0.out] at h1; dsimp only at h1; omega), Below.refl _ _⟩
              case round =>
                obtain ⟨m, rfl, hm1, hm2, HEA, hB⟩ := hrel
                have HBr := Lib.hid (HB9.out.trans (hB.mono HB9.out.size))
                have HBs := Lib.hid hB
                have HMr := Lib.hid (HM9.out.below hB)
                clear hB
                (obtain ⟨x0', x1', x2', x3', x4', x5'⟩ := (HMr.out.2.2.2).1.c6; obtain ⟨g0, g1, g2, g3, g4⟩ := (HMr.out.2.2.2).2.1.c5; obtain ⟨d0, d1⟩ := (HMr.out.2.2.2).2.2.1.c2; have lx := (HMr.out.2.2.2).1.lt; have lg := (HMr.out.2.2.2).2.1.lt; have ld := (HMr.out.2.2.2).2.2.1.lt)
                by_cases hlt : m ≤ xl
                · skip --SKIP
                  as_aux_lemma =>
                  go_wp2_with fail
                  refine (HGS.out m _ (HI.out.below HBr.out)).mono ?_
                  rintro e w10 ⟨rfl, hB10⟩
                  have HMt := Lib.hid (HMr.out.below hB10)
                  have HBs := Lib.hid (HBs.out.trans (hB10.mono HBs.out.size))
                  have HBt := Lib.hid (HBr.out.trans (hB10.mono HBr.out.size))
                  (clear x0' x1' x2' x3' x4' x5' g0 g1 g2 g3 g4 d0 d1 lx lg ld)
                  clear hB10 HMr HBr
                  have HFV := Lib.hid (fun w h => HFI.out (getR d xs m) w h (getR_rng hk xs m))
                  have HRM : Hid (getR d x0.src m = getR d xs m) := by
                    show _ = _
                    rw [HX0.out]
                  generalize getR d xs m = v at *
                  have HRF : Hid (firstD d v = firstD d v) := rfl
                  generalize hF : firstD d v = F at *
                  have HFF := Lib.hid hF
                  clear hF HRF
                  obtain ⟨Fp, Fn⟩ := F
                  generalize (getD' d xs m).isSome = mis
                  obtain ⟨yp, yn, yc, ya, ⟨wb, wk, we, wx⟩, ⟨ws, wz⟩, ys, ym⟩ := v
                  unfold Rev.val Rev.cells fileV at HFV
                  unfold Rev.val Rev.cells
                  dsimp only at HFV
                  (obtain ⟨x0', x1', x2', x3', x4', x5'⟩ := (HMt.out.2.2.2).1.c6; obtain ⟨g0, g1, g2, g3, g4⟩ := (HMt.out.2.2.2).2.1.c5; obtain ⟨d0, d1⟩ := (HMt.out.2.2.2).2.2.1.c2; have lx := (HMt.out.2.2.2).1.lt; have lg := (HMt.out.2.2.2).2.1.lt; have ld := (HMt.out.2.2.2).2.2.1.lt)
                  go_wp2_with fail
                  generalize hw11 : World.alloc w10 (.cells _ 74) = w11
                  have HM11 := Lib.hid (show Bs _ w11 from hw11 ▸ Bs.cons (Blk.new w10 74 [.string yp, .int .i64 yn, .int .i64 yc, .int .i64 ya, .int .i64 wb, .bool wk, .bool we, .bool wx, .int .u64 ws, .int .i64 wz, .string ys, .int .i64 ym]) (HMt.out.alloc _))
                  have HB11 : Hid (Below w.heap.size w w11) := by
                    show Below _ _ _
                    rw [← hw11]
                    exact HBt.out.alloc HBt.out.size _
                  have HBs : Hid (Below w9.heap.size w9 w11) := by
                    show Below _ _ _
                    rw [← hw11]
                    exact HBs.out.alloc HBs.out.size _
                  (clear x0' x1' x2' x3' x4' x5' g0 g1 g2 g3 g4 d0 d1 lx lg ld)
                  clear HMt HBt hw11
                  generalize w10.heap.size = vb at *
                  have hS : Below w11.heap.size w11 w11.drew := (Below.refl _ _).drew
                  have HI11 := Lib.hid (HI.out.below HB11.out)
                  obtain ⟨v0, v1, v2, v3, v4, v5, v6, v7, v8, v9, v10, v11⟩ := fun_and12 (fun y : Held (Below w11.heap.size w11) => (HM11.out.below y.ok).1.c12)
                  obtain ⟨l0, l1⟩ := fun_and2 (fun y : Held (Below w11.heap.size w11) => (HM11.out.below y.ok).2.1.c2)
                  obtain ⟨d0, d1⟩ := fun_and2 (fun y : Held (Below w11.heap.size w11) => (HM11.out.below y.ok).2.2.2.2.2.2.1.c2)
                  have lv := fun y : Held (Below w11.heap.size w11) => (HM11.out.below y.ok).1.lt
                  have ll := fun y : Held (Below w11.heap.size w11) => (HM11.out.below y.ok).2.1.lt
                  have ld := fun y : Held (Below w11.heap.size w11) => (HM11.out.below y.ok).2.2.2.2.2.2.1.lt
                  cases e5 : (ya == 5)
                  · by_cases e7 : Fp.toList = Lp.toList
                    · by_cases e8 : Fn = Ln
                      · obtain rfl : Fp = Lp := ba_data (by rw [← toList_eq, ← toList_eq, e7])
                        subst e8
                        clear e7
                        (refine wp_region_s (S := Below w11.heap.size w11) (by kernel_rfl) (by kernel_rfl) hS ?_; have hN : Nonempty (Held (Below w11.heap.size w11)) := ⟨⟨_, hS⟩⟩; skip; (repeat (go_big_quiet_step ((go_at_call 44; exact held_keep (HFV.out _ (HI11.out.below (Held.ok _))))))); refine wpQuiet_nil ?_; rintro x ⟨⟨_, hx⟩, rfl⟩; clear hN)
                        clear v0 v1 v2 v3 v4 v5 v6 v7 v8 v9 v10 v11 l0 l1 d0 d1 lv ll ld
                        have HB12 := Lib.hid (HBs.out.trans (hx.mono HBs.out.size))
                        go_wp2_with fail
                        go_roundw
                        case rel =>
                          refine ⟨m + 1, by go_num, by omega, by omega, fun n h1 h2 => ?_, HB12.out⟩
                          by_cases hnm : n < m
                          · exact HEA.out n h1 hnm
                          · obtain rfl : n = m := by omega
                            rw [HRM.out, HL0.out]
                            exact ⟨by simpa using e5, HFF.out⟩
                        case measure => simp [intOf]; omega
                      · (refine wp_region_s (S := Below w11.heap.size w11) (by kernel_rfl) (by kernel_rfl) hS ?_; have hN : Nonempty (Held (Below w11.heap.size w11)) := ⟨⟨_, hS⟩⟩; skip; (repeat (go_big_quiet_step ((go_at_call 44; exact held_keep (HFV.out _ (HI11.out.below (Held.ok _))))))); refine wpQuiet_nil ?_; rintro x ⟨⟨_, hx⟩, rfl⟩; clear hN)
                        clear v0 v1 v2 v3 v4 v5 v6 v7 v8 v9 v10 v11 l0 l1 d0 d1 lv ll ld
                        have HB12 := Lib.hid (HB11.out.trans (hx.mono HB11.out.size))
                        go_wp2_with fail
                        (go_ret; refine RecRet.no ?_; have HB1 := (HB12).out; (repeat (first | (with_reducible exact Below.refl _ _) | (with_reducible assumption) | (with_reducible refine Below.setCell ?_ ?_ _; rotate_left; focus (first | exact Nat.le_refl _ | (dsimp only; omega) | (simp; omega))) | (with_reducible refine Below.drew ?_) | (with_reducible refine below_drewN ?_ _) | (with_reducible refine Below.alloc ?_ ?_ _; rotate_left; focus (first | exact Nat.le_refl _ | omega | (simp; done) | (simp; omega))) | (with_reducible refine Below.trans ?_ (HB1.mono ?_); rotate_left; focus (first | exact Nat.le_refl _ | omega | (simp; done) | (simp; omega))))))
                    · (refine wp_region_s (S := Below w11.heap.size w11) (by kernel_rfl) (by kernel_rfl) hS ?_; have hN : Nonempty (Held (Below w11.heap.size w11)) := ⟨⟨_, hS⟩⟩; skip; (repeat (go_big_quiet_step ((go_at_call 44; exact held_keep (HFV.out _ (HI11.out.below (Held.ok _))))))); refine wpQuiet_nil ?_; rintro x ⟨⟨_, hx⟩, rfl⟩; clear hN)
                      clear v0 v1 v2 v3 v4 v5 v6 v7 v8 v9 v10 v11 l0 l1 d0 d1 lv ll ld
                      have HB12 := Lib.hid (HB11.out.trans (hx.mono HB11.out.size))
                      go_wp2_with fail
                      (go_ret; refine RecRet.no ?_; have HB1 := (HB12).out; (repeat (first | (with_reducible exact Below.refl _ _) | (with_reducible assumption) | (with_reducible refine Below.setCell ?_ ?_ _; rotate_left; focus (first | exact Nat.le_refl _ | (dsimp only; omega) | (simp; omega))) | (with_reducible refine Below.drew ?_) | (with_reducible refine below_drewN ?_ _) | (with_reducible refine Below.alloc ?_ ?_ _; rotate_left; focus (first | exact Nat.le_refl _ | omega | (simp; done) | (simp; omega))) | (with_reducible refine Below.trans ?_ (HB1.mono ?_); rotate_left; focus (first | exact Nat.le_refl _ | omega | (simp; done) | (simp; omega))))))
                  · (refine wp_region_s (S := Below w11.heap.size w11) (by kernel_rfl) (by kernel_rfl) hS ?_; have hN : Nonempty (Held (Below w11.heap.size w11)) := ⟨⟨_, hS⟩⟩; skip; (repeat (go_big_quiet_step (skip))); refine wpQuiet_nil ?_; rintro x ⟨⟨_, hx⟩, rfl⟩; clear hN)
                    clear v0 v1 v2 v3 v4 v5 v6 v7 v8 v9 v10 v11 l0 l1 d0 d1 lv ll ld
                    have HB12 := Lib.hid (HB11.out.trans (hx.mono HB11.out.size))
                    go_wp2_with fail
                    (go_ret; refine RecRet.no ?_; have HB1 := (HB12).out; (repeat (first | (with_reducible exact Below.refl _ _) | (with_reducible assumption) | (with_reducible refine Below.setCell ?_ ?_ _; rotate_left; focus (first | exact Nat.le_refl _ | (dsimp only; omega) | (simp; omega))) | (with_reducible refine Below.drew ?_) | (with_reducible refine below_drewN ?_ _) | (with_reducible refine Below.alloc ?_ ?_ _; rotate_left; focus (first | exact Nat.le_refl _ | omega | (simp; done) | (simp; omega))) | (with_reducible refine Below.trans ?_ (HB1.mono ?_); rotate_left; focus (first | exact Nat.le_refl _ | omega | (simp; done) | (simp; omega))))))
                · have HEACH : Hid (∀ n, x0.fst ≤ n → n ≤ x0.lst → (getR d x0.src n).act ≠ 5 ∧ firstD d (getR d x0.src n) = lineD d x0) := fun n h1 h2 => HEA.out n h1 (by rw [HX0.out] at h2; dsimp only at h2; omega)
                  have HLL : Hid (lineD d x0 = (Lp, Ln)) := HL0
                  clear HEA hm2 HM9 HB9 HBs
                  have l0 := HMr.out.1.cell 0
                  have l1 := HMr.out.1.cell 1
                  obtain ⟨s0, s1, s2, s3, s4, s5, s6, s7, s8, s9, s10, s11⟩ := HMr.out.2.1.c12
                  obtain ⟨t0, t1, t2, t3, t4, t5, t6, t7, t8, t9, t10, t11⟩ := HMr.out.2.2.1.c12
                  have l7 := HMr.out.1.lt
                  have l8 := HMr.out.2.1.lt
                  have l9 := HMr.out.2.2.1.lt
                  generalize wr = w10 at *
                  go_upto_if 173 with fail
                  go_cut [20, 21] from 171 to 242 (fun s20 s21 wx => (t.act ≠ 1 → firstD d (prevR d (madeR c.num t)) ≠ lineD d x0) ∧ Below w10.heap.size w10 wx)
                  case first =>
                    cases ea1 : (t.act == 1)
                    · have ea1' : (t.act != 1) = true := by simp [bne, ea1]
                      have HPV := Lib.hid (fun w h => HPR.out (madeR c.num t) w h)
                      have hbt : 0 ≤ t.base ∧ t.base ≤ 1000000 := by
                        rcases HT with h | h
                        · rw [h]
                          exact ⟨by decide, by decide⟩
                        · exact HBB.out t h.1
                      have HMD := Lib.hid (fun w => HM.out t w (by omega) (by omega))
                      have hrng : -9223372036854775807 ≤ (madeR c.num t).num ∧ (madeR c.num t).num ≤ 9223372036854775807 := by
                        unfold madeR
                        dsimp only
                        omega
                      have HRNG := Lib.hid hrng
                      clear hrng
                      have HPW : Hid (prevR d (madeR c.num t) = prevR d (madeR c.num t)) := rfl
                      generalize hpq : prevR d (madeR c.num t) = pv at HPV HPW
                      have HPQ := Lib.hid hpq
                      clear hpq HPW
                      generalize (prevD d (madeR c.num t)).isSome = pis at *
                      obtain ⟨pp, pn, pc, pa, ⟨pb1, pb2, pb3, pb4⟩, ⟨ps1, ps2⟩, ps, pm⟩ := pv
                      unfold Edt.val Edt.cells at HMD
                      go_upto_region 28 with fail
                      have hS : Below w10.heap.size w10 w10.drew := (Below.refl _ _).drew
                      go_cut [20, 21] from 171 to 242 (fun s20 s21 wx => ∃ ub, s20 = .pointer (some ⟨ub, 0, none⟩) ∧ w10.heap.size ≤ ub ∧ Below w10.heap.size w10 wx ∧ Blk ub 74 [.string pp, .int .i64 pn, .int .i64 pc, .int .i64 pa, .int .i64 pb1, .bool pb2, .bool pb3, .bool pb4, .int .u64 ps1, .int .i64 ps2, .string ps, .int .i64 pm] wx)
                      case first =>
                        (clear x0' x1' x2' x3' x4' x5' g0 g1 g2 g3 g4 d0 d1 lx lg ld)
                        clear l0 l1 s0 s1 s2 s3 s4 s5 s6 s7 s8 s9 s10 s11 t0 t1 t2 t3 t4 t5 t6 t7 t8 t9 t10 t11 l7 l8 l9
                        obtain ⟨t0, t1, t2, t3, t4, t5, t6, t7, t8, t9, t10, t11⟩ := fun_and12 (fun y : Held (Below w10.heap.size w10) => (HMr.out.below y.ok).2.2.1.c12)
                        obtain ⟨g0, g1, g2, g3, g4⟩ := fun_and5 (fun y : Held (Below w10.heap.size w10) => (HMr.out.below y.ok).2.2.2.2.1.c5)
                        obtain ⟨d0, d1⟩ := fun_and2 (fun y : Held (Below w10.heap.size w10) => (HMr.out.below y.ok).2.2.2.2.2.1.c2)
                        have lt := fun y : Held (Below w10.heap.size w10) => (HMr.out.below y.ok).2.2.1.lt
                        have lg := fun y : Held (Below w10.heap.size w10) => (HMr.out.below y.ok).2.2.2.2.1.lt
                        have ld := fun y : Held (Below w10.heap.size w10) => (HMr.out.below y.ok).2.2.2.2.2.1.lt
                        (refine wp_region_mixf (S := Below w10.heap.size w10) [10] [] [5, 6, 7] 9 8 [([0, 1, 2], 3), ([], 4)] (by kernel_rfl) (by kernel_rfl) (by intro c a d v w h; cases d <;> exact h) hS ?_; have hN : Nonempty (Held (Below w10.heap.size w10)) := ⟨⟨_, hS⟩⟩)
                        generalize hwq : w10.drew = wq at *
                        have HS := Lib.hid hS
                        clear hS hwq
                        (unfold wpMixF wpRd; (repeat (first | simp only [List.filterMap_cons] | simp only [List.filterMap_nil] | simp only [List.getElem?_toArray] | simp only [List.getElem?_cons_zero] | simp only [List.getElem?_cons_succ])); (try dsimp only); change wpQuiet _ _ _ _ (_ :: _ :: _ :: []) _; (repeat (go_big_quiet_step (fail))); refine wpQuiet_nil ?_; (try dsimp only))
                        have HIW : Hid (∀ y, Below w10.heap.size w10 y → revK.In A d y) := fun y h => HI.out.below (HBr.out.trans (h.mono HBr.out.size))
                        clear t0 t1 t2 t3 t4 t5 t6 t7 t8 t9 t10 t11 g0 g1 g2 g3 g4 d0 d1 lt lg ld
                        refine ⟨?_, ?_⟩
                        · skip
                          (unfold wpAct; (repeat (first | simp only [List.getElem?_toArray] | simp only [List.getElem?_cons_zero] | simp only [List.getElem?_cons_succ])); (try dsimp only))
                          (go_wp2_with fail; refine (HMD.out _).mono ?_; rintro e y1 ⟨rfl, hb⟩; have HY1 := Lib.hid ((HS).out.trans (hb.mono (HS).out.size)); have HBL1 := Lib.hid hb; clear hb; go_wp2_with fail; refine ⟨HY1.out, ?_⟩)
                          (unfold wpMixF wpRd; (repeat (first | simp only [List.filterMap_cons] | simp only [List.filterMap_nil] | simp only [List.getElem?_toArray] | simp only [List.getElem?_cons_zero] | simp only [List.getElem?_cons_succ])); (try dsimp only); change wpQuiet _ _ _ _ ([]) _; (repeat (go_big_quiet_step (fail))); refine wpQuiet_nil ?_; (try dsimp only))
                          refine ⟨?_, ?_⟩
                          · skip
                            as_aux_lemma =>
                            (unfold wpAct; (repeat (first | simp only [List.getElem?_toArray] | simp only [List.getElem?_cons_zero] | simp only [List.getElem?_cons_succ])); (try dsimp only))
                            (go_wp2_with fail; refine (HPV.out _ (HIW.out _ (HY1).out) HRNG.out).mono ?_; rintro e y2 ⟨rfl, hb⟩; unfold Rev.val Rev.cells; have HY2 := Lib.hid ((HY1).out.trans (hb.mono (HY1).out.size)); have HBL2 := Lib.hid hb; clear hb; go_wp2_with fail; refine ⟨HY2.out, ?_⟩)
                            (unfold wpMixF wpRd; (repeat (first | simp only [List.filterMap_cons] | simp only [List.filterMap_nil] | simp only [List.getElem?_toArray] | simp only [List.getElem?_cons_zero] | simp only [List.getElem?_cons_succ])); (try dsimp only); change wpQuiet _ _ _ _ (_ :: _ :: _ :: []) _; (repeat (go_big_quiet_step (fail))); refine wpQuiet_nil ?_; (try dsimp only))
                            (unfold wpAct; (repeat (first | simp only [List.getElem?_toArray] | simp only [List.getElem?_cons_zero] | simp only [List.getElem?_cons_succ])); (try dsimp only))
                            (go_wp2_with fail; have HY := Lib.hid ((HY2).out.alloc (HY2).out.size (.cells (#[.string ⟨#[]⟩, .int .i64 0, .int .i64 0, .int .i64 0, .int .i64 0, .bool false, .bool false, .bool false, .int .u64 0, .int .i64 0, .string ⟨#[]⟩, .int .i64 0] : Array Value) 74 (0, 0))); refine ⟨HY.out, ?_⟩; have KN := Lib.hid (Blk.new y2 74 [.string ⟨#[]⟩, .int .i64 0, .int .i64 0, .int .i64 0, .int .i64 0, .bool false, .bool false, .bool false, .int .u64 0, .int .i64 0, .string ⟨#[]⟩, .int .i64 0]); have hub := (HY2).out.size)
                            (unfold wpMix wpRd; (repeat (first | simp only [List.filterMap_cons] | simp only [List.filterMap_nil] | simp only [List.getElem?_toArray] | simp only [List.getElem?_cons_zero] | simp only [List.getElem?_cons_succ])); (try dsimp only); change wpQuiet _ _ _ _ ([]) _; (repeat (go_big_quiet_step (fail))); refine wpQuiet_nil ?_; (try dsimp only))
                            go_wp2_with fail
                            refine ⟨HY2.out.alloc HY2.out.size _, ?_⟩
                            (unfold wpMix wpRd; (repeat (first | simp only [List.filterMap_cons] | simp only [List.filterMap_nil] | simp only [List.getElem?_toArray] | simp only [List.getElem?_cons_zero] | simp only [List.getElem?_cons_succ])); (try dsimp only); change wpQuiet _ _ _ _ (_ :: []) _; (repeat (go_big_quiet_step (fail))); refine wpQuiet_nil ?_; (try dsimp only))
                            go_wp2_with fail
                            go_meet
                            case rel => exact ⟨_, rfl, HY2.out.size, HY2.out.alloc HY2.out.size _, Blk.new _ _ _⟩
                          · skip
                            (unfold wpAct; (repeat (first | simp only [List.getElem?_toArray] | simp only [List.getElem?_cons_zero] | simp only [List.getElem?_cons_succ])); (try dsimp only))
                            (go_wp2_with fail; have HY := Lib.hid ((HY1).out.alloc (HY1).out.size (.cells (#[.string ⟨#[]⟩, .int .i64 0, .int .i64 0, .int .i64 0, .int .i64 0, .bool false, .bool false, .bool false, .int .u64 0, .int .i64 0, .string ⟨#[]⟩, .int .i64 0] : Array Value) 74 (0, 0))); refine ⟨HY.out, ?_⟩; have KN := Lib.hid (Blk.new y1 74 [.string ⟨#[]⟩, .int .i64 0, .int .i64 0, .int .i64 0, .int .i64 0, .bool false, .bool false, .bool false, .int .u64 0, .int .i64 0, .string ⟨#[]⟩, .int .i64 0]); have hub := (HY1).out.size)
                            (unfold wpMix wpRd; (repeat (first | simp only [List.filterMap_cons] | simp only [List.filterMap_nil] | simp only [List.getElem?_toArray] | simp only [List.getElem?_cons_zero] | simp only [List.getElem?_cons_succ])); (try dsimp only); change wpQuiet _ _ _ _ ([]) _; (repeat (go_big_quiet_step (fail))); refine wpQuiet_nil ?_; (try dsimp only))
                            ((repeat (first | simp only [List.getElem?_toArray] | simp only [List.getElem?_cons_zero] | simp only [List.getElem?_cons_succ])); (try dsimp only))
                            (go_wp2_with fail; refine (HPV.out _ (HIW.out _ (HY).out) HRNG.out).mono ?_; rintro e y2 ⟨rfl, hb⟩; unfold Rev.val Rev.cells; have HY2 := Lib.hid ((HY).out.trans (hb.mono (HY).out.size)); have HBL2 := Lib.hid hb; clear hb; go_wp2_with fail; refine ⟨HY2.out, ?_⟩)
                            have KN := Lib.hid (KN.out.below HBL2.out)
                            (unfold wpMix wpRd; (repeat (first | simp only [List.filterMap_cons] | simp only [List.filterMap_nil] | simp only [List.getElem?_toArray] | simp only [List.getElem?_cons_zero] | simp only [List.getElem?_cons_succ])); (try dsimp only); change wpQuiet _ _ _ _ (_ :: _ :: _ :: []) _; (repeat (go_big_quiet_step (fail))); refine wpQuiet_nil ?_; (try dsimp only))
                            ((repeat (first | simp only [List.getElem?_toArray] | simp only [List.getElem?_cons_zero] | simp only [List.getElem?_cons_succ])); (try dsimp only))
                            ((obtain ⟨f0, f1, f2, f3, f4, f5, f6, f7, f8, f9, f10, f11⟩ := (KN.out).f12; obtain ⟨z0, z1, z2, z3, z4, z5, z6, z7, z8, z9, z10, z11⟩ := (KN.out).c12); have hlu := KN.out.lt; have HB1 := (HY2).out; go_wp2_with fail; refine ⟨by (repeat (first | (with_reducible exact Below.refl _ _) | (with_reducible assumption) | (with_reducible refine Below.setCell ?_ ?_ _; rotate_left; focus (first | exact Nat.le_refl _ | (dsimp only; omega) | (simp; omega))) | (with_reducible refine Below.drew ?_) | (with_reducible refine below_drewN ?_ _) | (with_reducible refine Below.alloc ?_ ?_ _; rotate_left; focus (first | exact Nat.le_refl _ | omega | (simp; done) | (simp; omega))) | (with_reducible refine Below.trans ?_ (HB1.mono ?_); rotate_left; focus (first | exact Nat.le_refl _ | omega | (simp; done) | (simp; omega))))), ?_⟩; (unfold wpMix wpRd; (repeat (first | simp only [List.filterMap_cons] | simp only [List.filterMap_nil] | simp only [List.getElem?_toArray] | simp only [List.getElem?_cons_zero] | simp only [List.getElem?_cons_succ])); (try dsimp only); change wpQuiet _ _ _ _ (_ :: []) _; (repeat (go_big_quiet_step (fail))); refine wpQuiet_nil ?_; (try dsimp only)); go_wp2_with fail; go_meet; case rel => exact ⟨_, rfl, hub, by (repeat (first | (with_reducible exact Below.refl _ _) | (with_reducible assumption) | (with_reducible refine Below.setCell ?_ ?_ _; rotate_left; focus (first | exact Nat.le_refl _ | (dsimp only; omega) | (simp; omega))) | (with_reducible refine Below.drew ?_) | (with_reducible refine below_drewN ?_ _) | (with_reducible refine Below.alloc ?_ ?_ _; rotate_left; focus (first | exact Nat.le_refl _ | omega | (simp; done) | (simp; omega))) | (with_reducible refine Below.trans ?_ (HB1.mono ?_); rotate_left; focus (first | exact Nat.le_refl _ | omega | (simp; done) | (simp; omega))))), Blk.put12 KN.out _ _ _ _ _ _ _ _ _ _ _ _⟩)
                        · skip
                          (unfold wpAct; (repeat (first | simp only [List.getElem?_toArray] | simp only [List.getElem?_cons_zero] | simp only [List.getElem?_cons_succ])); (try dsimp only))
                          (go_wp2_with fail; have HY := Lib.hid ((HS).out.alloc (HS).out.size (.cells (#[.string ⟨#[]⟩, .int .i64 0, .int .i64 0, .int .i64 0, .int .i64 0, .bool false, .bool false, .bool false, .int .u64 0, .int .i64 0, .string ⟨#[]⟩, .int .i64 0] : Array Value) 74 (0, 0))); refine ⟨HY.out, ?_⟩; have KN := Lib.hid (Blk.new wq 74 [.string ⟨#[]⟩, .int .i64 0, .int .i64 0, .int .i64 0, .int .i64 0, .bool false, .bool false, .bool false, .int .u64 0, .int .i64 0, .string ⟨#[]⟩, .int .i64 0]); have hub := (HS).out.size)
                          (unfold wpMix wpRd; (repeat (first | simp only [List.filterMap_cons] | simp only [List.filterMap_nil] | simp only [List.getElem?_toArray] | simp only [List.getElem?_cons_zero] | simp only [List.getElem?_cons_succ])); (try dsimp only); change wpQuiet _ _ _ _ ([]) _; (repeat (go_big_quiet_step (fail))); refine wpQuiet_nil ?_; (try dsimp only))
                          ((repeat (first | simp only [List.getElem?_toArray] | simp only [List.getElem?_cons_zero] | simp only [List.getElem?_cons_succ])); (try dsimp only))
                          (go_wp2_with fail; refine (HMD.out _).mono ?_; rintro e y1 ⟨rfl, hb⟩; have HY1 := Lib.hid ((HY).out.trans (hb.mono (HY).out.size)); have HBL1 := Lib.hid hb; clear hb; go_wp2_with fail; refine ⟨HY1.out, ?_⟩)
                          have KN := Lib.hid (KN.out.below HBL1.out)
                          (unfold wpMix wpRd; (repeat (first | simp only [List.filterMap_cons] | simp only [List.filterMap_nil] | simp only [List.getElem?_toArray] | simp only [List.getElem?_cons_zero] | simp only [List.getElem?_cons_succ])); (try dsimp only); change wpQuiet _ _ _ _ ([]) _; (repeat (go_big_quiet_step (fail))); refine wpQuiet_nil ?_; (try dsimp only))
                          ((repeat (first | simp only [List.getElem?_toArray] | simp only [List.getElem?_cons_zero] | simp only [List.getElem?_cons_succ])); (try dsimp only))
                          (go_wp2_with fail; refine (HPV.out _ (HIW.out _ (HY1).out) HRNG.out).mono ?_; rintro e y2 ⟨rfl, hb⟩; unfold Rev.val Rev.cells; have HY2 := Lib.hid ((HY1).out.trans (hb.mono (HY1).out.size)); have HBL2 := Lib.hid hb; clear hb; go_wp2_with fail; refine ⟨HY2.out, ?_⟩)
                          have KN := Lib.hid (KN.out.below HBL2.out)
                          (unfold wpMix wpRd; (repeat (first | simp only [List.filterMap_cons] | simp only [List.filterMap_nil] | simp only [List.getElem?_toArray] | simp only [List.getElem?_cons_zero] | simp only [List.getElem?_cons_succ])); (try dsimp only); change wpQuiet _ _ _ _ (_ :: _ :: _ :: []) _; (repeat (go_big_quiet_step (fail))); refine wpQuiet_nil ?_; (try dsimp only))
                          ((repeat (first | simp only [List.getElem?_toArray] | simp only [List.getElem?_cons_zero] | simp only [List.getElem?_cons_succ])); (try dsimp only))
                          ((obtain ⟨f0, f1, f2, f3, f4, f5, f6, f7, f8, f9, f10, f11⟩ := (KN.out).f12; obtain ⟨z0, z1, z2, z3, z4, z5, z6, z7, z8, z9, z10, z11⟩ := (KN.out).c12); have hlu := KN.out.lt; have HB1 := (HY2).out; go_wp2_with fail; refine ⟨by (repeat (first | (with_reducible exact Below.refl _ _) | (with_reducible assumption) | (with_reducible refine Below.setCell ?_ ?_ _; rotate_left; focus (first | exact Nat.le_refl _ | (dsimp only; omega) | (simp; omega))) | (with_reducible refine Below.drew ?_) | (with_reducible refine below_drewN ?_ _) | (with_reducible refine Below.alloc ?_ ?_ _; rotate_left; focus (first | exact Nat.le_refl _ | omega | (simp; done) | (simp; omega))) | (with_reducible refine Below.trans ?_ (HB1.mono ?_); rotate_left; focus (first | exact Nat.le_refl _ | omega | (simp; done) | (simp; omega))))), ?_⟩; (unfold wpMix wpRd; (repeat (first | simp only [List.filterMap_cons] | simp only [List.filterMap_nil] | simp only [List.getElem?_toArray] | simp only [List.getElem?_cons_zero] | simp only [List.getElem?_cons_succ])); (try dsimp only); change wpQuiet _ _ _ _ (_ :: []) _; (repeat (go_big_quiet_step (fail))); refine wpQuiet_nil ?_; (try dsimp only)); go_wp2_with fail; go_meet; case rel => exact ⟨_, rfl, hub, by (repeat (first | (with_reducible exact Below.refl _ _) | (with_reducible assumption) | (with_reducible refine Below.setCell ?_ ?_ _; rotate_left; focus (first | exact Nat.le_refl _ | (dsimp only; omega) | (simp; omega))) | (with_reducible refine Below.drew ?_) | (with_reducible refine below_drewN ?_ _) | (with_reducible refine Below.alloc ?_ ?_ _; rotate_left; focus (first | exact Nat.le_refl _ | omega | (simp; done) | (simp; omega))) | (with_reducible refine Below.trans ?_ (HB1.mono ?_); rotate_left; focus (first | exact Nat.le_refl _ | omega | (simp; done) | (simp; omega))))), Blk.put12 KN.out _ _ _ _ _ _ _ _ _ _ _ _⟩)
                      case rest =>
                        as_aux_lemma =>
                        obtain ⟨ub, rfl, hub, hx, hK⟩ := hcut
                        have HMu := Lib.hid (Bs.cons hK (HMr.out.below hx))
                        have HBu := Lib.hid (HBr.out.trans (hx.mono HBr.out.size))
                        have HBW := Lib.hid hx
                        (clear x0' x1' x2' x3' x4' x5' g0 g1 g2 g3 g4 d0 d1 lx lg ld)
                        clear l0 l1 s0 s1 s2 s3 s4 s5 s6 s7 s8 s9 s10 s11 t0 t1 t2 t3 t4 t5 t6 t7 t8 t9 t10 t11 l7 l8 l9 hx hK hS
                        go_upto_region 29 with fail
                        have hprng : -9223372036854775807 ≤ pn ∧ pn ≤ 9223372036854775807 := by
                          have := prevR_rng hk (madeR c.num t)
                          rw [HPQ.out] at this
                          exact this
                        have HFV := Lib.hid (fun w h => HFI.out ⟨pp, pn, pc, pa, ⟨pb1, pb2, pb3, pb4⟩, ⟨ps1, ps2⟩, ps, pm⟩ w h hprng)
                        generalize hF : firstD d ⟨pp, pn, pc, pa, ⟨pb1, pb2, pb3, pb4⟩, ⟨ps1, ps2⟩, ps, pm⟩ = F at *
                        have HFF := Lib.hid hF
                        clear hF hprng
                        obtain ⟨Fp, Fn⟩ := F
                        unfold Rev.val Rev.cells fileV at HFV
                        dsimp only at HFV
                        have hS : Below wc.heap.size wc wc.drew := (Below.refl _ _).drew
                        have HI11 := Lib.hid (HI.out.below HBu.out)
                        obtain ⟨v0, v1, v2, v3, v4, v5, v6, v7, v8, v9, v10, v11⟩ := fun_and12 (fun y : Held (Below wc.heap.size wc) => (HMu.out.below y.ok).1.c12)
                        obtain ⟨l0, l1⟩ := fun_and2 (fun y : Held (Below wc.heap.size wc) => (HMu.out.below y.ok).2.1.c2)
                        obtain ⟨d0, d1⟩ := fun_and2 (fun y : Held (Below wc.heap.size wc) => (HMu.out.below y.ok).2.2.2.2.2.2.1.c2)
                        have lv := fun y : Held (Below wc.heap.size wc) => (HMu.out.below y.ok).1.lt
                        have ll := fun y : Held (Below wc.heap.size wc) => (HMu.out.below y.ok).2.1.lt
                        have ld := fun y : Held (Below wc.heap.size wc) => (HMu.out.below y.ok).2.2.2.2.2.2.1.lt
                        by_cases e7 : Fp.toList = Lp.toList
                        · by_cases e8 : Fn = Ln
                          · obtain rfl : Fp = Lp := ba_data (by rw [← toList_eq, ← toList_eq, e7])
                            subst e8
                            clear e7
                            (refine wp_region_s (S := Below wc.heap.size wc) (by kernel_rfl) (by kernel_rfl) hS ?_; have hN : Nonempty (Held (Below wc.heap.size wc)) := ⟨⟨_, hS⟩⟩; skip; (repeat (go_big_quiet_step ((go_at_call 44; exact held_keep (HFV.out _ (HI11.out.below (Held.ok _))))))); refine wpQuiet_nil ?_; rintro x ⟨⟨_, hx⟩, rfl⟩; clear hN)
                            clear v0 v1 v2 v3 v4 v5 v6 v7 v8 v9 v10 v11 l0 l1 d0 d1 lv ll ld
                            have HB12 := Lib.hid (HBu.out.trans (hx.mono HBu.out.size))
                            go_wp2_with fail
                            (go_ret; refine RecRet.no ?_; have HB1 := (HB12).out; (repeat (first | (with_reducible exact Below.refl _ _) | (with_reducible assumption) | (with_reducible refine Below.setCell ?_ ?_ _; rotate_left; focus (first | exact Nat.le_refl _ | (dsimp only; omega) | (simp; omega))) | (with_reducible refine Below.drew ?_) | (with_reducible refine below_drewN ?_ _) | (with_reducible refine Below.alloc ?_ ?_ _; rotate_left; focus (first | exact Nat.le_refl _ | omega | (simp; done) | (simp; omega))) | (with_reducible refine Below.trans ?_ (HB1.mono ?_); rotate_left; focus (first | exact Nat.le_refl _ | omega | (simp; done) | (simp; omega))))))
                          · (refine wp_region_s (S := Below wc.heap.size wc) (by kernel_rfl) (by kernel_rfl) hS ?_; have hN : Nonempty (Held (Below wc.heap.size wc)) := ⟨⟨_, hS⟩⟩; skip; (repeat (go_big_quiet_step ((go_at_call 44; exact held_keep (HFV.out _ (HI11.out.below (Held.ok _))))))); refine wpQuiet_nil ?_; rintro x ⟨⟨_, hx⟩, rfl⟩; clear hN)
                            clear v0 v1 v2 v3 v4 v5 v6 v7 v8 v9 v10 v11 l0 l1 d0 d1 lv ll ld
                            have HB12 := Lib.hid (HBW.out.trans (hx.mono HBW.out.size))
                            have HNE : Hid (firstD d (prevR d (madeR c.num t)) ≠ lineD d x0) := by
                              show _ ≠ _
                              rw [HPQ.out, HFF.out, HLL.out]
                              intro h
                              injection h with h1 h2
                              exact e8 h2
                            go_wp2_with fail
                            go_meet
                            case rel => exact ⟨fun _ => HNE.out, HB12.out⟩
                        · (refine wp_region_s (S := Below wc.heap.size wc) (by kernel_rfl) (by kernel_rfl) hS ?_; have hN : Nonempty (Held (Below wc.heap.size wc)) := ⟨⟨_, hS⟩⟩; skip; (repeat (go_big_quiet_step ((go_at_call 44; exact held_keep (HFV.out _ (HI11.out.below (Held.ok _))))))); refine wpQuiet_nil ?_; rintro x ⟨⟨_, hx⟩, rfl⟩; clear hN)
                          clear v0 v1 v2 v3 v4 v5 v6 v7 v8 v9 v10 v11 l0 l1 d0 d1 lv ll ld
                          have HB12 := Lib.hid (HBW.out.trans (hx.mono HBW.out.size))
                          have HNE : Hid (firstD d (prevR d (madeR c.num t)) ≠ lineD d x0) := by
                            show _ ≠ _
                            rw [HPQ.out, HFF.out, HLL.out]
                            intro h
                            injection h with h1 h2
                            exact e7 (by rw [h1])
                          go_wp2_with fail
                          go_meet
                          case rel => exact ⟨fun _ => HNE.out, HB12.out⟩
                    · have ea1' : (t.act != 1) = false := by simp [bne, ea1]
                      go_wp2_with fail
                      go_meet
                      case rel => exact ⟨fun h => absurd (by simpa using ea1) h, Below.refl _ _⟩
                  case rest =>
                    obtain ⟨hOth, hx⟩ := hcut
                    have HOth := Lib.hid hOth
                    have HMu := Lib.hid (HMr.out.below hx)
                    have HBu := Lib.hid (HBr.out.trans (hx.mono HBr.out.size))
                    (clear x0' x1' x2' x3' x4' x5' g0 g1 g2 g3 g4 d0 d1 lx lg ld)
                    clear l0 l1 s0 s1 s2 s3 s4 s5 s6 s7 s8 s9 s10 s11 t0 t1 t2 t3 t4 t5 t6 t7 t8 t9 t10 t11 l7 l8 l9 hx hOth HMr HBr
                    have HREC : Hid (∃ t, RecOk d c i x0 t) := by
                      have h := HA.out
                      rcases HT with h0 | ⟨h1, h2, h3, h4⟩
                      · rw [h0] at h
                        exact absurd rfl h.1
                      · exact ⟨t, (HO.out trivial).1, (HO.out trivial).2, h1, h2, h3, h4, h.2, HEACH.out, HOth.out⟩
                    clear HOth HEACH HA HO HLL HL0 HR0
                    (obtain ⟨x0', x1', x2', x3', x4', x5'⟩ := (HMu.out.2.2.2).1.c6; obtain ⟨g0, g1, g2, g3, g4⟩ := (HMu.out.2.2.2).2.1.c5; obtain ⟨d0, d1⟩ := (HMu.out.2.2.2).2.2.1.c2; have lx := (HMu.out.2.2.2).1.lt; have lg := (HMu.out.2.2.2).2.1.lt; have ld := (HMu.out.2.2.2).2.2.1.lt)
                    obtain ⟨s0, s1, s2, s3, s4, s5, s6, s7, s8, s9, s10, s11⟩ := HMu.out.2.1.c12
                    obtain ⟨t0, t1, t2, t3, t4, t5, t6, t7, t8, t9, t10, t11⟩ := HMu.out.2.2.1.c12
                    have l8 := HMu.out.2.1.lt
                    have l9 := HMu.out.2.2.1.lt
                    generalize wc = w12 at *
                    cases ig
                    · as_aux_lemma =>
                      go_wp2_with fail
                      all_goals
                        go_ret
                        refine RecRet.yes HREC.out ?_
                        have HB1 := HBu.out
                        (repeat (first | (with_reducible exact Below.refl _ _) | (with_reducible assumption) | (with_reducible refine Below.setCell ?_ ?_ _; rotate_left; focus (first | exact Nat.le_refl _ | (dsimp only; omega) | (simp; omega))) | (with_reducible refine Below.drew ?_) | (with_reducible refine below_drewN ?_ _) | (with_reducible refine Below.alloc ?_ ?_ _; rotate_left; focus (first | exact Nat.le_refl _ | omega | (simp; done) | (simp; omega))) | (with_reducible refine Below.trans ?_ (HB1.mono ?_); rotate_left; focus (first | exact Nat.le_refl _ | omega | (simp; done) | (simp; omega)))))
                    · as_aux_lemma =>
                      go_wp2_with fail
                      all_goals first
                        | (go_ret
                           refine RecRet.yes HREC.out ?_
                           have HB1 := HBu.out
                           (repeat (first | (with_reducible exact Below.refl _ _) | (with_reducible assumption) | (with_reducible refine Below.setCell ?_ ?_ _; rotate_left; focus (first | exact Nat.le_refl _ | (dsimp only; omega) | (simp; omega))) | (with_reducible refine Below.drew ?_) | (with_reducible refine below_drewN ?_ _) | (with_reducible refine Below.alloc ?_ ?_ _; rotate_left; focus (first | exact Nat.le_refl _ | omega | (simp; done) | (simp; omega))) | (with_reducible refine Below.trans ?_ (HB1.mono ?_); rotate_left; focus (first | exact Nat.le_refl _ | omega | (simp; done) | (simp; omega)))))
                           done)
                        | skip
                      all_goals
                        refine (HGD.out t.base _ (HI.out.below HBu.out)).mono ?_
                        rintro e w13 ⟨rfl, hB13⟩
                        have HMv := Lib.hid (HMu.out.below hB13)
                        have HB1 := Lib.hid (HBu.out.trans (hB13.mono HBu.out.size))
                        (clear x0' x1' x2' x3' x4' x5' g0 g1 g2 g3 g4 d0 d1 lx lg ld)
                        clear s0 s1 s2 s3 s4 s5 s6 s7 s8 s9 s10 s11 t0 t1 t2 t3 t4 t5 t6 t7 t8 t9 t10 t11 l8 l9 hB13 HMu HBu
                        obtain ⟨t0, t1, t2, t3, t4, t5, t6, t7, t8, t9, t10, t11⟩ := HMv.out.2.2.1.c12
                        have l9 := HMv.out.2.2.1.lt
                        generalize getR d xd t.base = sv at *
                        generalize (getD' d xd t.base).isSome = gis at *
                        obtain ⟨yp, yn, yc, ya, ⟨wb, wk, we, wx⟩, ⟨ws, wz⟩, ys, ym⟩ := sv
                        unfold Rev.val Rev.cells
                        go_wp2_with fail
                        all_goals
                          go_ret
                          refine RecRet.yes HREC.out ?_
                          have HB1 := HB1.out
                          (repeat (first | (with_reducible exact Below.refl _ _) | (with_reducible assumption) | (with_reducible refine Below.setCell ?_ ?_ _; rotate_left; focus (first | exact Nat.le_refl _ | (dsimp only; omega) | (simp; omega))) | (with_reducible refine Below.drew ?_) | (with_reducible refine below_drewN ?_ _) | (with_reducible refine Below.alloc ?_ ?_ _; rotate_left; focus (first | exact Nat.le_refl _ | omega | (simp; done) | (simp; omega))) | (with_reducible refine Below.trans ?_ (HB1.mono ?_); rotate_left; focus (first | exact Nat.le_refl _ | omega | (simp; done) | (simp; omega)))))
end Go.Proofs.YtocffknoeknabaaGreatDoor
