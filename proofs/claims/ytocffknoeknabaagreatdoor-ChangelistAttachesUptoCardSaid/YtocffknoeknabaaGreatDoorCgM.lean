/-
  Joined by a program of ours from our own texts.
-/
import Derived.Test.YtocffknoeknabaaGreatDoorCgL
import Derived.Test.YtocffknoeknabaaGreatDoorClA
import Derived.BigRegion
import Derived.Deep.CutRange
import Derived.Deep.CutBlock
namespace Go.Proofs.YtocffknoeknabaaGreatDoor
section
open Go.RowKit Go.Sort

theorem sfun_and6 {α : Type} {p0 p1 p2 p3 p4 p5 : α → Prop} (h : ∀ y, p0 y ∧ p1 y ∧ p2 y ∧ p3 y ∧ p4 y ∧ p5 y) : (∀ y, p0 y) ∧ (∀ y, p1 y) ∧ (∀ y, p2 y) ∧ (∀ y, p3 y) ∧ (∀ y, p4 y) ∧ ∀ y, p5 y := ⟨fun y => (h y).1, fun y => (h y).2.1, fun y => (h y).2.2.1, fun y => (h y).2.2.2.1, fun y => (h y).2.2.2.2.1, fun y => (h y).2.2.2.2.2⟩
def orV : List Int → Int
  | [] => 0
  | v :: r => if v ≠ 0 then v else orV r
theorem cmpInan (a : Int) (w : World) : Calls Tryz.prog 129 #[.int .i64 a] w fun e w' => e = .returned (.bool false) ∧ w = w' := by
  have h : ((a : Int) != a) = false := by simp
  go_enter Tryz.func129, Tryz.ntmps129
  go_wp2_with fail
  go_ret
  exact ⟨by simp, rfl⟩
theorem scmpI_any (a b : Int) (w : World) : Calls Tryz.prog 85 #[.int .i64 a, .int .i64 b] w fun e w' => e = .returned (.int .i64 (cI a b)) ∧ w = w' := by
  generalize hc : cI a b = c
  have HC := Lib.hid hc
  clear hc
  go_enter Tryz.func85, Tryz.ntmps85
  go_wp2_with (go_at_call 129; refine (cmpInan _ _).mono ?_; rintro e w' ⟨rfl, rfl⟩)
  all_goals
    go_ret
    refine ⟨ret_int ?_, rfl⟩
    rw [← HC.out]
    unfold cI
    repeat' split
    all_goals first
      | rfl
      | omega
      | (exfalso; simp_all; omega)
set_option maxRecDepth 100000 in
theorem or_any (vs : List Int) (b : Nat) (w : World) (h : ∀ (j : Nat) (u : Int), vs[j]? = some u → w.cell? ⟨b, j, none⟩ = some (.int .i64 u)) (hl : b < w.heap.size) (hn : vs.length ≤ 10) :
    Calls Tryz.prog 84 #[.slice (some ⟨b, 0, none⟩) vs.length vs.length] w fun e w' => e = .returned (.int .i64 (orV vs)) ∧ w' = w := by
  have HC := Lib.hid h
  clear h
  go_enter Tryz.func84, Tryz.ntmps84
  go_wp2_with fail
  go_loopw [8] (fun i wr => ∃ k : Nat, i = .int .i64 k ∧ k ≤ vs.length ∧ wr = w ∧ Hid (orV (vs.drop k) = orV vs)) (fun i _ => vs.length - (intOf i).toNat)
  case atStart => exact ⟨0, rfl, Nat.zero_le _, rfl, rfl⟩
  case round =>
    obtain ⟨k, rfl, hk, rfl, hd⟩ := hrel
    by_cases hlt : k < vs.length
    · have hg := List.getElem?_eq_getElem hlt
      have hdr : vs.drop k = vs[k] :: vs.drop (k + 1) := List.drop_eq_getElem_cons hlt
      have c0 := HC.out k _ hg
      have HDR := Lib.hid hdr
      generalize hq : vs[k] = v at *
      clear hq hg hdr
      by_cases hv : v = 0
      · have HD2 : Hid (orV (vs.drop (k + 1)) = orV vs) := by
          show _ = _
          rw [← hd.out, HDR.out, orV, if_neg (by simp [hv])]
        have e1 : (v == 0) = true := by simpa using hv
        clear hd
        go_wp2_with fail
        go_roundw
        case rel => exact ⟨k + 1, by go_num, by omega, by first | rfl | trivial, HD2⟩
        case measure => simp [intOf]; omega
      · have HD2 : Hid (orV vs = v) := by
          show _ = _
          rw [← hd.out, HDR.out, orV, if_pos hv]
        have e1 : (v == 0) = false := by simpa using hv
        clear hd
        go_wp2_with fail
        go_ret
        exact ⟨by rw [HD2.out]; rfl, by first | rfl | trivial⟩
    · obtain rfl : k = vs.length := by omega
      have HD2 : Hid (orV vs = 0) := by
        show _ = _
        rw [← hd.out, List.drop_length]
        rfl
      clear hd
      go_wp2_with fail
      go_ret
      exact ⟨by rw [HD2.out]; rfl, by first | rfl | trivial⟩
theorem orV_key (a b : Rcd) : orV [ordH a.dst b.dst, cI a.num b.num, ordH a.src b.src, cI a.fst b.fst] = cmpRc (keyR a) (keyR b) := by
  unfold cmpRc lexC keyR
  dsimp only
  simp only [orV]
  by_cases h1 : ordH a.dst b.dst = 0
  · by_cases h2 : cI a.num b.num = 0
    · by_cases h3 : ordH a.src b.src = 0
      · by_cases h4 : cI a.fst b.fst = 0
        · simp [h1, h2, h3, h4]
        · simp [h1, h2, h3, h4]
      · simp [h1, h2, h3]
    · simp [h1, h2]
  · simp [h1]
theorem cmp18_ord (a b : ByteArray) (w : World) (ha : validB a.data.toList = true) (hb : validB b.data.toList = true) (hla : a.size ≤ 4294967281) (hlb : b.size ≤ 4294967281) :
    Calls Tryz.prog 79 #[.string a, .string b] w fun e w' => e = .returned (.int .i64 (ordH a b)) ∧ Below w.heap.size w w' := by
  have e : ordH a b = cmpQ a b := by
    unfold cmpQ ordH
    first | rfl | simp [ha, hb] | (rw [ha, hb]; rfl)
  rw [e]
  exact cmp18_any a b w ha hla hlb
set_option maxRecDepth 100000 in
set_option maxHeartbeats 3200000 in
theorem crec_any (a b : Rcd) (w : World) (ha : okR a) (hb : okR b) : Calls Tryz.prog 35 #[a.val, b.val] w fun e w' => e = .returned (.int .i64 (cmpRc (keyR a) (keyR b))) ∧ Below w.heap.size w w' := by
  rw [← orV_key]
  have H1 := Lib.hid (fun w => cmp18_ord a.dst b.dst w ha.2.1 hb.2.1 ha.2.2 hb.2.2)
  have H2 := Lib.hid (fun w => cmp18_ord a.src b.src w ha.1.1 hb.1.1 ha.1.2 hb.1.2)
  clear ha hb
  obtain ⟨p0, p1, p2, p3, p4, p5⟩ := a
  obtain ⟨q0, q1, q2, q3, q4, q5⟩ := b
  unfold Rcd.val Rcd.cells
  dsimp only at H1 H2 ⊢
  generalize ordH p3 q3 = o1 at *
  generalize ordH p0 q0 = o2 at *
  have HI1 := Lib.hid (fun w => scmpI_any p4 q4 w)
  have HI2 := Lib.hid (fun w => scmpI_any p1 q1 w)
  generalize cI p4 q4 = o3 at *
  generalize cI p1 q1 = o4 at *
  go_enter Tryz.func35, Tryz.ntmps35
  go_upto_region 1 with fail
  have hb2 : Below w.heap.size w ((w.alloc (.cells #[.string p0, .int .i64 p1, .int .i64 p2, .string p3, .int .i64 p4, .int .i64 p5] 55)).alloc (.cells #[.string q0, .int .i64 q1, .int .i64 q2, .string q3, .int .i64 q4, .int .i64 q5] 55)) := by (repeat (first | (with_reducible exact Below.refl _ _) | (with_reducible assumption) | (with_reducible refine Below.setCell ?_ ?_ _; rotate_left; focus (first | exact Nat.le_refl _ | (dsimp only; omega))) | (with_reducible refine Below.drew ?_) | (with_reducible refine below_drewN ?_ _) | (with_reducible refine Below.alloc ?_ ?_ _; rotate_left; focus (first | exact Nat.le_refl _ | (simp; done) | (simp; omega)))))
  have hk1 := ((Blk.new w 55 [.string p0, .int .i64 p1, .int .i64 p2, .string p3, .int .i64 p4, .int .i64 p5]).alloc (.cells #[.string q0, .int .i64 q1, .int .i64 q2, .string q3, .int .i64 q4, .int .i64 q5] 55))
  have hk2 := Blk.new1 w (.cells #[.string p0, .int .i64 p1, .int .i64 p2, .string p3, .int .i64 p4, .int .i64 p5] 55) 55 [.string q0, .int .i64 q1, .int .i64 q2, .string q3, .int .i64 q4, .int .i64 q5]
  generalize World.alloc (World.alloc w _) _ = w2 at *
  have hS : (fun y : World => (Blk w.heap.size 55 [.string p0, .int .i64 p1, .int .i64 p2, .string p3, .int .i64 p4, .int .i64 p5] y ∧ Blk (w.heap.size + 1) 55 [.string q0, .int .i64 q1, .int .i64 q2, .string q3, .int .i64 q4, .int .i64 q5] y) ∧ Below w.heap.size w y) w2.drew := ⟨⟨hk1.drew, hk2.drew⟩, hb2.drew⟩
  clear hk1 hk2 hb2
  (refine wp_region_mix (S := (fun y : World => (Blk w.heap.size 55 [.string p0, .int .i64 p1, .int .i64 p2, .string p3, .int .i64 p4, .int .i64 p5] y ∧ Blk (w.heap.size + 1) 55 [.string q0, .int .i64 q1, .int .i64 q2, .string q3, .int .i64 q4, .int .i64 q5] y) ∧ Below w.heap.size w y)) [22] [([0, 1, 2, 3, 5, 6, 7, 8, 10, 11, 12, 13, 15, 16, 17, 18], 4), ([], 9), ([], 14), ([], 19), ([], 20), ([], 21)] (by kernel_rfl) (by kernel_rfl) (by intro c a d v w h; cases d <;> exact h) hS ?_; have hN : Nonempty (Held ((fun y : World => (Blk w.heap.size 55 [.string p0, .int .i64 p1, .int .i64 p2, .string p3, .int .i64 p4, .int .i64 p5] y ∧ Blk (w.heap.size + 1) 55 [.string q0, .int .i64 q1, .int .i64 q2, .string q3, .int .i64 q4, .int .i64 q5] y) ∧ Below w.heap.size w y))) := ⟨⟨_, hS⟩⟩)
  obtain ⟨x0, x1, x2, x3, x4, x5⟩ := sfun_and6 (fun y : Held ((fun y : World => (Blk w.heap.size 55 [.string p0, .int .i64 p1, .int .i64 p2, .string p3, .int .i64 p4, .int .i64 p5] y ∧ Blk (w.heap.size + 1) 55 [.string q0, .int .i64 q1, .int .i64 q2, .string q3, .int .i64 q4, .int .i64 q5] y) ∧ Below w.heap.size w y)) => y.ok.1.1.c6)
  obtain ⟨y0, y1, y2, y3, y4, y5⟩ := sfun_and6 (fun y : Held ((fun y : World => (Blk w.heap.size 55 [.string p0, .int .i64 p1, .int .i64 p2, .string p3, .int .i64 p4, .int .i64 p5] y ∧ Blk (w.heap.size + 1) 55 [.string q0, .int .i64 q1, .int .i64 q2, .string q3, .int .i64 q4, .int .i64 q5] y) ∧ Below w.heap.size w y)) => y.ok.1.2.c6)
  (unfold wpMix wpRd; (repeat (first | simp only [List.filterMap_cons] | simp only [List.filterMap_nil] | simp only [List.getElem?_toArray] | simp only [List.getElem?_cons_zero] | simp only [List.getElem?_cons_succ])); (try dsimp only); change wpQuiet _ _ _ _ (_ :: _ :: _ :: _ :: _ :: _ :: _ :: _ :: _ :: _ :: _ :: _ :: _ :: _ :: _ :: _ :: []) _; (repeat (go_big_quiet_step (fail))); refine wpQuiet_nil ?_; (try dsimp only))
  go_wp2_with (go_at_call 79; refine (H1.out _).mono ?_; rintro e z1 ⟨rfl, hb1⟩)
  have hS1 : (fun y : World => (Blk w.heap.size 55 [.string p0, .int .i64 p1, .int .i64 p2, .string p3, .int .i64 p4, .int .i64 p5] y ∧ Blk (w.heap.size + 1) 55 [.string q0, .int .i64 q1, .int .i64 q2, .string q3, .int .i64 q4, .int .i64 q5] y) ∧ Below w.heap.size w y) z1 := ⟨⟨hS.1.1.below hb1, hS.1.2.below hb1⟩, hS.2.trans (hb1.mono hS.2.size)⟩
  refine ⟨hS1, ?_⟩
  clear hb1 hS
  (unfold wpMix wpRd; (repeat (first | simp only [List.filterMap_cons] | simp only [List.filterMap_nil] | simp only [List.getElem?_toArray] | simp only [List.getElem?_cons_zero] | simp only [List.getElem?_cons_succ])); (try dsimp only); change wpQuiet _ _ _ _ ([]) _; (repeat (go_big_quiet_step (fail))); refine wpQuiet_nil ?_; (try dsimp only))
  go_wp2_with (go_at_call 85; refine (HI1.out _).mono ?_; rintro e z2 ⟨rfl, rfl⟩)
  refine ⟨hS1, ?_⟩
  (unfold wpMix wpRd; (repeat (first | simp only [List.filterMap_cons] | simp only [List.filterMap_nil] | simp only [List.getElem?_toArray] | simp only [List.getElem?_cons_zero] | simp only [List.getElem?_cons_succ])); (try dsimp only); change wpQuiet _ _ _ _ ([]) _; (repeat (go_big_quiet_step (fail))); refine wpQuiet_nil ?_; (try dsimp only))
  go_wp2_with (go_at_call 79; refine (H2.out _).mono ?_; rintro e z3 ⟨rfl, hb3⟩)
  have hS3 : (fun y : World => (Blk w.heap.size 55 [.string p0, .int .i64 p1, .int .i64 p2, .string p3, .int .i64 p4, .int .i64 p5] y ∧ Blk (w.heap.size + 1) 55 [.string q0, .int .i64 q1, .int .i64 q2, .string q3, .int .i64 q4, .int .i64 q5] y) ∧ Below w.heap.size w y) z3 := ⟨⟨hS1.1.1.below hb3, hS1.1.2.below hb3⟩, hS1.2.trans (hb3.mono hS1.2.size)⟩
  refine ⟨hS3, ?_⟩
  clear hb3 hS1
  (unfold wpMix wpRd; (repeat (first | simp only [List.filterMap_cons] | simp only [List.filterMap_nil] | simp only [List.getElem?_toArray] | simp only [List.getElem?_cons_zero] | simp only [List.getElem?_cons_succ])); (try dsimp only); change wpQuiet _ _ _ _ ([]) _; (repeat (go_big_quiet_step (fail))); refine wpQuiet_nil ?_; (try dsimp only))
  go_wp2_with (go_at_call 85; refine (HI2.out _).mono ?_; rintro e z4 ⟨rfl, rfl⟩)
  refine ⟨hS3, ?_⟩
  (unfold wpMix wpRd; (repeat (first | simp only [List.filterMap_cons] | simp only [List.filterMap_nil] | simp only [List.getElem?_toArray] | simp only [List.getElem?_cons_zero] | simp only [List.getElem?_cons_succ])); (try dsimp only); change wpQuiet _ _ _ _ ([]) _; (repeat (go_big_quiet_step (fail))); refine wpQuiet_nil ?_; (try dsimp only))
  go_wp2_with fail
  have hS5 : (fun y : World => (Blk w.heap.size 55 [.string p0, .int .i64 p1, .int .i64 p2, .string p3, .int .i64 p4, .int .i64 p5] y ∧ Blk (w.heap.size + 1) 55 [.string q0, .int .i64 q1, .int .i64 q2, .string q3, .int .i64 q4, .int .i64 q5] y) ∧ Below w.heap.size w y) (z3.alloc (.cells #[.int .i64 o1, .int .i64 o3, .int .i64 o2, .int .i64 o4] 3)) := ⟨⟨hS3.1.1.alloc _, hS3.1.2.alloc _⟩, hS3.2.alloc hS3.2.size _⟩
  have hK := Blk.new z3 3 [.int .i64 o1, .int .i64 o3, .int .i64 o2, .int .i64 o4]
  refine ⟨hS5, ?_⟩
  generalize World.alloc z3 _ = z5 at *
  generalize z3.heap.size = kb at *
  clear hS3
  (unfold wpMix wpRd; (repeat (first | simp only [List.filterMap_cons] | simp only [List.filterMap_nil] | simp only [List.getElem?_toArray] | simp only [List.getElem?_cons_zero] | simp only [List.getElem?_cons_succ])); (try dsimp only); change wpQuiet _ _ _ _ ([]) _; (repeat (go_big_quiet_step (fail))); refine wpQuiet_nil ?_; (try dsimp only))
  have HOR := Lib.hid (or_any [o1, o3, o2, o4] kb z5 (fun j u hj => by
    match j, hj with
    | 0, hj => simp at hj; subst hj; exact hK.cell 0
    | 1, hj => simp at hj; subst hj; exact hK.cell 1
    | 2, hj => simp at hj; subst hj; exact hK.cell 2
    | 3, hj => simp at hj; subst hj; exact hK.cell 3
    | j + 4, hj => simp at hj) hK.lt (by simp))
  go_wp2_with (go_at_call 84; refine HOR.out.mono ?_; rintro e z6 ⟨rfl, rfl⟩)
  refine ⟨hS5, ?_⟩
  (unfold wpMix wpRd; (repeat (first | simp only [List.filterMap_cons] | simp only [List.filterMap_nil] | simp only [List.getElem?_toArray] | simp only [List.getElem?_cons_zero] | simp only [List.getElem?_cons_succ])); (try dsimp only); change wpQuiet _ _ _ _ (_ :: []) _; (repeat (go_big_quiet_step (fail))); refine wpQuiet_nil ?_; (try dsimp only))
  go_wp2_with fail
  go_ret
  exact ⟨rfl, hS5.2⟩
set_option maxRecDepth 100000 in
set_option maxHeartbeats 6400000 in
theorem sins_any (n g B cap a b : Nat) (w0 w : World) (d : Array Rcd) (h : StS n g B w0 d w) (hB : B ≤ g) (hab : a ≤ b) (hb : b ≤ n) (hn : n ≤ 1000000) :
    Calls Tryz.prog 127 #[(.slice (some ⟨g, 0, none⟩) n cap), .int .i64 a, .int .i64 b, (.func (.func 35) #[] #[])] w fun e w' => e = .returned (.tuple #[]) ∧ ∃ d', StS n g B w0 d' w' ∧ OutR a b d d' ∧ SortedIn befR a b d' ∧ SameC befR d.toList d'.toList := by
  have HST := Lib.hid h
  have hin := insertionSort_holds swo_befR d a b hab (by rw [h.sz]; exact hb)
  have hsc := insOuter_sameC (lt := befR) (fun h1 h2 h3 => swo_class swo_befR h1 h2 h3) a b (b - (a + 1)) (a + 1) d rfl (by rw [h.sz]; exact hb)
  have HEND : Hid (OutR a b d (insertionSort befR d a b) ∧ SortedIn befR a b (insertionSort befR d a b) ∧ SameC befR d.toList (insertionSort befR d a b).toList) := ⟨.perm hin.1, hin.2, hsc⟩
  clear h hin hsc
  go_enter Tryz.func127, Tryz.ntmps127
  go_wp2_with fail
  go_loopw [8] (fun i wr => ∃ (k : Nat) (dk : Array Rcd), i = .int .i64 k ∧ a + 1 ≤ k ∧ StS n g B w0 dk wr ∧ Hid (insOuter befR a b k dk = insOuter befR a b (a + 1) d)) (fun i _ => b - (intOf i).toNat)
  case atStart => exact ⟨a + 1, d, by go_num, Nat.le_refl _, HST.out, rfl⟩
  case round =>
    obtain ⟨k, dk, rfl, hk, hst, hI⟩ := hrel
    have HS2 := Lib.hid hst
    clear hst HST
    by_cases hlt : k < b
    · have HI2 : Hid (insOuter befR a b (k + 1) (insInner befR a k dk) = insOuter befR a b (a + 1) d) := by
        show _ = _
        rw [← hI.out, insOuter_go _ _ _ _ _ hlt]
      clear hI
      obtain ⟨wo, rfl⟩ : ∃ wo : World, wo = wr := ⟨_, rfl⟩
      go_wp2_with fail
      go_loopw [9] (fun i wx => ∃ (j : Nat) (dj : Array Rcd), i = .int .i64 j ∧ a ≤ j ∧ j ≤ k ∧ StS n g B w0 dj wx ∧ Hid (insInner befR a j dj = insInner befR a k dk)) (fun i _ => (intOf i).toNat)
      case atStart => exact ⟨k, dk, rfl, by omega, Nat.le_refl _, HS2.out, rfl⟩
      case round =>
        obtain ⟨j, dj, rfl, haj, hj, hst, HI3⟩ := hrel
        have HS3 := Lib.hid hst
        clear hst HS2
        obtain ⟨wi, rfl⟩ : ∃ wi : World, wi = wr := ⟨_, rfl⟩
        have hS : Below wi.heap.size wi wi.drew := (Below.refl _ _).drew
        by_cases h0 : a < j
        · obtain ⟨jp, rfl⟩ : ∃ jp, j = jp + 1 := ⟨j - 1, by omega⟩
          have hlt1 : jp + 1 < n := by omega
          have hlt2 : jp < n := by omega
          have hja : decide ((a : Int) < (jp : Int) + 1) = true := by rw [decide_eq_true_eq]; omega
          obtain ⟨x, hx0⟩ : ∃ x, dj[jp + 1]! = x := ⟨_, rfl⟩
          obtain ⟨y, hy0⟩ : ∃ y, dj[jp]! = y := ⟨_, rfl⟩
          have ox := HS3.out.ok (jp + 1) hlt1
          have oy := HS3.out.ok (jp) hlt2
          rw [hx0] at ox
          rw [hy0] at oy
          obtain ⟨x0, x1, x2, x3, x4, x5, xg⟩ := HS3.out.sixH hB hlt1 hx0
          obtain ⟨y0, y1, y2, y3, y4, y5, _⟩ := HS3.out.sixH hB hlt2 hy0
          have HC := Lib.hid (fun w => crec_any x y w ox oy)
          have hbf := befR_is x y
          rw [← hx0, ← hy0] at hbf
          have HX0 := Lib.hid hx0
          have HY0 := Lib.hid hy0
          rw [hx0, hy0] at hbf
          generalize hcq : cmpRc (keyR x) (keyR y) = cn at *
          have HBF : Hid (befR (dj[jp + 1]!) (dj[jp]!) = decide (cn < 0)) := by
            show _ = _
            rw [hx0, hy0]
            exact hbf
          clear hcq hbf hx0 hy0 ox oy
          obtain ⟨xs, xf, xl, xd, xn, xh⟩ := x
          obtain ⟨ys, yf, yl, yd, yn, yh⟩ := y
          unfold Rcd.val Rcd.cells at HC
          dsimp only at HC x0 x1 x2 x3 x4 x5 y0 y1 y2 y3 y4 y5
          by_cases hcn : cn < 0
          · have hd : decide (cn < 0) = true := by simpa using hcn
            have HL : Hid (befR dj[jp + 1]! dj[jp]! = true) := by show _ = _; rw [HBF.out]; exact hd
            clear HBF hcn
            go_wp2_with fail
            (refine wp_region_s (S := Below wi.heap.size wi) (by kernel_rfl) (by kernel_rfl) hS ?_; have hN : Nonempty (Held (Below wi.heap.size wi)) := ⟨⟨_, hS⟩⟩; skip; (repeat (go_big_quiet_step ((go_at_call 35; exact held_keep (HC.out _))))); refine wpQuiet_nil ?_; rintro x ⟨⟨_, hx⟩, rfl⟩; clear hN)
            clear x0 x1 x2 x3 x4 x5 y0 y1 y2 y3 y4 y5 xg HC HX0 HY0
            have HS4 := Lib.hid (HS3.out.below hx hB)
            have HI4 : Hid (insInner befR a jp (swp dj (jp + 1) jp) = insInner befR a k dk) := by
              show _ = _
              have := insInner_go befR a (jp + 1) dj h0 (by simp only [Nat.add_sub_cancel]; exact HL.out)
              simp only [Nat.add_sub_cancel] at this
              rw [← HI3.out, this]
            clear HI3 HS3 hd hja hx HL
            obtain ⟨x, hx0⟩ : ∃ x, dj[jp + 1]! = x := ⟨_, rfl⟩
            obtain ⟨y, hy0⟩ : ∃ y, dj[jp]! = y := ⟨_, rfl⟩
            have hsw := HS4.out.swp hB (i := jp + 1) (j := jp) hlt1 hlt2
            obtain ⟨⟨x0, x1, x2, x3, x4, x5⟩, fx0, fx1, fx2, fx3, fx4, fx5⟩ := HS4.out.six hlt1 hx0
            obtain ⟨⟨y0, y1, y2, y3, y4, y5⟩, fy0, fy1, fy2, fy3, fy4, fy5⟩ := HS4.out.six hlt2 hy0
            have hgl := HS4.out.gl
            rw [hx0, hy0] at hsw
            obtain ⟨xs, xf, xl, xd, xn, xh⟩ := x
            obtain ⟨ys, yf, yl, yd, yn, yh⟩ := y
            simp only [World.setCells, Rcd.cells, Nat.zero_add, Nat.add_assoc, Nat.reduceAdd] at hsw
            dsimp only at x0 x1 x2 x3 x4 x5 y0 y1 y2 y3 y4 y5
            have HSW := Lib.hid hsw
            clear hsw hx0 hy0
            go_wp2_with fail
            go_region
            go_wp2_with fail
            go_roundw
            case rel =>
              refine ⟨jp, swp dj (jp + 1) jp, ?_, by omega, by omega, ?_, HI4⟩
              · go_num
              · refine StS.drew ?_
                with_reducible exact HSW.out
            case measure => simp [intOf]
          · have hd : decide (cn < 0) = false := by simpa using hcn
            have HL : Hid (befR dj[jp + 1]! dj[jp]! = false) := by show _ = _; rw [HBF.out]; exact hd
            have hout : Hid (insInner befR a k dk = dj) := by
              show _ = _
              rw [← HI3.out]
              exact insInner_stop befR a (jp + 1) dj (.inr (by simp only [Nat.add_sub_cancel]; exact HL.out))
            clear HBF hcn HI3 HL
            go_wp2_with fail
            (refine wp_region_s (S := Below wi.heap.size wi) (by kernel_rfl) (by kernel_rfl) hS ?_; have hN : Nonempty (Held (Below wi.heap.size wi)) := ⟨⟨_, hS⟩⟩; skip; (repeat (go_big_quiet_step ((go_at_call 35; exact held_keep (HC.out _))))); refine wpQuiet_nil ?_; rintro x ⟨⟨_, hx⟩, rfl⟩; clear hN)
            clear x0 x1 x2 x3 x4 x5 y0 y1 y2 y3 y4 y5 xg HC HX0 HY0
            have HS4 := Lib.hid (HS3.out.below hx hB)
            clear HS3 hx hd hja
            go_wp2_with fail
            go_roundw
            case rel => exact ⟨k + 1, dj, by go_num, by omega, HS4.out, by rw [← hout.out]; exact HI2⟩
            case measure => simp [intOf]; omega
        · obtain rfl : j = a := by omega
          have hout : Hid (insInner befR j k dk = dj) := by
            show _ = _
            rw [← HI3.out]
            exact insInner_stop befR j j dj (.inl (Nat.le_refl _))
          have hja : decide ((j : Int) < (j : Int)) = false := by simp
          go_wp2_with fail
          (refine wp_region_s (S := Below wi.heap.size wi) (by kernel_rfl) (by kernel_rfl) hS ?_; have hN : Nonempty (Held (Below wi.heap.size wi)) := ⟨⟨_, hS⟩⟩; skip; (repeat (go_big_quiet_step (fail))); refine wpQuiet_nil ?_; rintro x ⟨⟨_, hx⟩, rfl⟩; clear hN)
          have HS4 := Lib.hid (HS3.out.below hx hB)
          clear HS3 hx
          go_wp2_with fail
          go_roundw
          case rel => exact ⟨k + 1, dj, by go_num, by omega, HS4.out, by rw [← hout.out]; exact HI2⟩
          case measure => simp [intOf]; omega
    · have hend : Hid (dk = insertionSort befR d a b) := by
        show _ = _
        unfold insertionSort
        rw [← hI.out, insOuter_stop _ _ _ _ _ hlt]
      clear hI
      go_wp2_with fail
      refine bodyPost_end (results_none rfl _ _ _) rfl ?_
      exact ⟨rfl, dk, HS2.out, by rw [hend.out]; exact HEND.out.1, by rw [hend.out]; exact HEND.out.2.1, by rw [hend.out]; exact HEND.out.2.2⟩
end
section
open Go.RowKit Go.Sort

set_option maxRecDepth 100000 in
set_option maxHeartbeats 6400000 in
theorem swr_any (n g B cap a b k : Nat) (w0 w : World) (d : Array Rcd) (h : StS n g B w0 d w) (hB : B ≤ g) (hab : a + k ≤ b) (hb : b + k ≤ n) (hn : n ≤ 1000000) :
    Calls Tryz.prog 169 #[(.slice (some ⟨g, 0, none⟩) n cap), .int .i64 a, .int .i64 b, .int .i64 k, (.func (.func 35) #[] #[])] w fun e w' => e = .returned (.tuple #[]) ∧ StS n g B w0 (swapRng d a b k) w' := by
  have HST := Lib.hid h
  clear h
  go_enter Tryz.func169, Tryz.ntmps169
  go_wp2_with fail
  go_loopw [10] (fun i wr => ∃ q : Nat, i = .int .i64 q ∧ q ≤ k ∧ StS n g B w0 (swapRng d a b q) wr) (fun i _ => k - (intOf i).toNat)
  case atStart => exact ⟨0, rfl, Nat.zero_le _, HST.out⟩
  case round =>
    obtain ⟨q, rfl, hq, hst⟩ := hrel
    have HS2 := Lib.hid hst
    clear hst HST
    by_cases hlt : q < k
    · have h1 : a + q < n := by omega
      have h2 : b + q < n := by omega
      obtain ⟨x, hx0⟩ : ∃ x, (swapRng d a b q)[a + q]! = x := ⟨_, rfl⟩
      obtain ⟨y, hy0⟩ : ∃ y, (swapRng d a b q)[b + q]! = y := ⟨_, rfl⟩
      have hsw := HS2.out.swp hB (i := a + q) (j := b + q) h1 h2
      obtain ⟨⟨x0, x1, x2, x3, x4, x5⟩, fx0, fx1, fx2, fx3, fx4, fx5⟩ := HS2.out.six h1 hx0
      obtain ⟨⟨y0, y1, y2, y3, y4, y5⟩, fy0, fy1, fy2, fy3, fy4, fy5⟩ := HS2.out.six h2 hy0
      have hgl := HS2.out.gl
      rw [hx0, hy0] at hsw
      obtain ⟨xs, xf, xl, xd, xn, xh⟩ := x
      obtain ⟨ys, yf, yl, yd, yn, yh⟩ := y
      simp only [World.setCells, Rcd.cells, Nat.zero_add, Nat.add_assoc, Nat.reduceAdd] at hsw
      dsimp only at x0 x1 x2 x3 x4 x5 y0 y1 y2 y3 y4 y5
      have HSW := Lib.hid hsw
      clear hsw hx0 hy0
      go_wp2_with fail
      go_region
      go_wp2_with fail
      go_roundw
      case rel =>
        refine ⟨q + 1, ?_, by omega, ?_⟩
        · go_num
        · refine StS.drew ?_
          rw [show swapRng d a b (q + 1) = swp (swapRng d a b q) (a + q) (b + q) from rfl]
          with_reducible exact HSW.out
      case measure => simp [intOf]; omega
    · obtain rfl : q = k := by omega
      go_wp2_with fail
      refine bodyPost_end (results_none rfl _ _ _) rfl ?_
      exact ⟨rfl, HS2.out⟩
set_option maxRecDepth 100000 in
set_option maxHeartbeats 6400000 in
theorem rot_any (n g B cap a m b : Nat) (w0 w : World) (d : Array Rcd) (P X Y S : List Rcd) (h : StS n g B w0 d w) (hB : B ≤ g) (hd : d.toList = P ++ (X ++ (Y ++ S))) (hP : P.length = a) (hX : a + X.length = m) (hY : m + Y.length = b) (hx0 : 0 < X.length) (hy0 : 0 < Y.length) (hn : n ≤ 1000000) :
    Calls Tryz.prog 147 #[(.slice (some ⟨g, 0, none⟩) n cap), .int .i64 a, .int .i64 m, .int .i64 b, (.func (.func 35) #[] #[])] w fun e w' => e = .returned (.tuple #[]) ∧ ∃ d', StS n g B w0 d' w' ∧ d'.toList = P ++ (Y ++ (X ++ S)) := by
  have HST := Lib.hid h
  have HD := Lib.hid hd
  have hln : ∀ (dj : Array Rcd) (wx : World), StS n g B w0 dj wx → dj.toList.length = n := fun dj wx h => by rw [Array.length_toList]; exact h.sz
  have hbn : b + S.length = n := by have h1 := hln d w h; rw [hd] at h1; simp at h1; omega
  obtain ⟨xl, hxl⟩ : ∃ q, q = X.length := ⟨_, rfl⟩
  obtain ⟨yl, hyl⟩ : ∃ q, q = Y.length := ⟨_, rfl⟩
  have e1 : (m : Int) - (a : Int) = (xl : Int) := by omega
  have e2 : (b : Int) - (m : Int) = (yl : Int) := by omega
  have HXL := Lib.hid hxl
  have HYL := Lib.hid hyl
  have HPX := Lib.hid (And.intro hP (And.intro hX (And.intro hY hbn)))
  have hbn2 : b ≤ n := by omega
  have hma : a ≤ m := by omega
  have hmb : m ≤ b := by omega
  clear h hd hxl hyl hP hX hY hbn
  go_enter Tryz.func147, Tryz.ntmps147
  go_wp2_with fail
  clear e1 e2
  go_loopw [10, 11] (fun s t wr => ∃ (i j : Nat) (dj : Array Rcd) (P' X' Y' S' : List Rcd), s = .int .i64 i ∧ t = .int .i64 j ∧ 0 < i ∧ 0 < j ∧ StS n g B w0 dj wr ∧ Hid (dj.toList = P' ++ (X' ++ (Y' ++ S'))) ∧ Hid (X'.length = i ∧ Y'.length = j ∧ P'.length + i = m) ∧ Hid (P' ++ (Y' ++ (X' ++ S')) = P ++ (Y ++ (X ++ S)))) (fun s t _ => (intOf s).toNat + (intOf t).toNat)
  case atStart => exact ⟨xl, yl, d, P, X, Y, S, rfl, rfl, by have := HXL.out; omega, by have := HYL.out; omega, HST.out, HD, ⟨HXL.out.symm, HYL.out.symm, by have := HXL.out; have := HPX.out; omega⟩, rfl⟩
  case round =>
    obtain ⟨i, j, dj, P', X', Y', S', rfl, rfl, hi, hj, hst, HL, HN, HT⟩ := hrel
    have HS2 := Lib.hid hst
    have hmj : m + j ≤ n := by
      have h1 := hln dj wr hst
      rw [HL.out] at h1
      have h2 := HN.out
      simp at h1
      omega
    have him : i ≤ m := by have := HN.out; omega
    clear hst HST HD
    by_cases hij : i = j
    · subst hij
      have HW := Lib.hid (swr_any n g B cap (m - i) m i w0 wr dj HS2.out hB (by omega) (by omega) hn)
      have e3 : (m : Int) - (i : Int) = ((m - i : Nat) : Int) := by omega
      go_wp2_with fail
      refine HW.out.mono ?_
      rintro e w2 ⟨rfl, hs2⟩
      have HR : Hid ((swapRng dj (m - i) m i).toList = P ++ (Y ++ (X ++ S))) := by
        show _ = _
        obtain ⟨h1, h2, h3⟩ := HN.out
        have h4 := swapRng_list (d := dj) (P := P') i (X := X') (Q := []) (Y := Y') (S := S') h1 h2 (by simpa using HL.out)
        rw [show P'.length = m - i by omega, show m - i + i + ([] : List Rcd).length = m by simp; omega] at h4
        rw [h4, ← HT.out]
        simp
      have HS4 := Lib.hid hs2
      clear hs2 HW e3 HL HN HT
      go_wp2_with fail
      refine bodyPost_end (results_none rfl _ _ _) rfl ?_
      exact ⟨rfl, _, HS4.out, HR.out⟩
    · by_cases hgt : j < i
      · have HW := Lib.hid (swr_any n g B cap (m - i) m j w0 wr dj HS2.out hB (by omega) (by omega) hn)
        have e3 : (m : Int) - (i : Int) = ((m - i : Nat) : Int) := by omega
        have e4 : (i : Int) - (j : Int) = ((i - j : Nat) : Int) := by omega
        have e5 : ((i : Int) == (j : Int)) = false := by simp; omega
        have e6 : decide ((j : Int) < (i : Int)) = true := by simp; omega
        go_wp2_with fail
        refine HW.out.mono ?_
        rintro e w2 ⟨rfl, hs2⟩
        have HS4 := Lib.hid hs2
        clear hs2 HW
        go_wp2_with fail
        go_roundw
        case rel =>
          obtain ⟨h1, h2, h3⟩ := HN.out
          have hx1 : (X'.take j).length = j := by rw [List.length_take]; omega
          have hx2 : (X'.drop j).length = i - j := by rw [List.length_drop]; omega
          have h4 := swapRng_list (d := dj) (P := P') j (X := X'.take j) (Q := X'.drop j) (Y := Y') (S := S') hx1 h2 (by rw [HL.out, ← List.append_assoc (X'.take j), List.take_append_drop])
          rw [show P'.length = m - i by omega, hx2, show m - i + j + (i - j) = m by omega] at h4
          refine ⟨i - j, j, swapRng dj (m - i) m j, P' ++ Y', X'.drop j, X'.take j, S', ?_, ?_, ?_, ?_, ?_, ?_, ?_, ?_⟩
          · first | rfl | go_num
          · rfl
          · omega
          · exact hj
          · exact HS4.out
          · show _ = _
            rw [h4]
            simp
          · exact ⟨hx2, hx1, by rw [List.length_append]; omega⟩
          · show _ = _
            rw [← HT.out, ← List.append_assoc (X'.take j), List.take_append_drop]
            simp
        case measure => simp [intOf]; omega
      · have HW := Lib.hid (swr_any n g B cap (m - i) (m + j - i) i w0 wr dj HS2.out hB (by omega) (by omega) hn)
        have e3 : (m : Int) - (i : Int) = ((m - i : Nat) : Int) := by omega
        have e7 : (m : Int) + (j : Int) - (i : Int) = ((m + j - i : Nat) : Int) := by omega
        have e4 : (j : Int) - (i : Int) = ((j - i : Nat) : Int) := by omega
        have e5 : ((i : Int) == (j : Int)) = false := by simp; omega
        have e6 : decide ((j : Int) < (i : Int)) = false := by simp; omega
        go_wp2_with fail
        refine HW.out.mono ?_
        rintro e w2 ⟨rfl, hs2⟩
        have HS4 := Lib.hid hs2
        clear hs2 HW
        go_wp2_with fail
        go_roundw
        case rel =>
          obtain ⟨h1, h2, h3⟩ := HN.out
          have hy1 : (Y'.take (j - i)).length = j - i := by rw [List.length_take]; omega
          have hy2 : (Y'.drop (j - i)).length = i := by rw [List.length_drop]; omega
          have h4 := swapRng_list (d := dj) (P := P') i (X := X') (Q := Y'.take (j - i)) (Y := Y'.drop (j - i)) (S := S') h1 hy2 (by rw [HL.out, ← List.append_assoc (Y'.take (j - i)), List.take_append_drop])
          rw [show P'.length = m - i by omega, hy1, show m - i + i + (j - i) = m + j - i by omega] at h4
          refine ⟨i, j - i, swapRng dj (m - i) (m + j - i) i, P', Y'.drop (j - i), Y'.take (j - i), X' ++ S', ?_, ?_, ?_, ?_, ?_, ?_, ?_, ?_⟩
          · rfl
          · first | rfl | go_num
          · exact hi
          · omega
          · exact HS4.out
          · exact h4
          · exact ⟨hy2, hy1, h3⟩
          · show _ = _
            rw [← HT.out]
            rw [← List.append_assoc (Y'.take (j - i)), List.take_append_drop]
        case measure => simp [intOf]; omega
end
section
open Go.RowKit Go.Sort

set_option maxRecDepth 100000 in
set_option maxHeartbeats 12800000 in
theorem ssym_any (n g B cap : Nat) (w0 : World) (hB : B ≤ g) (hn : n ≤ 1000000) : ∀ (N a m b : Nat), b - a ≤ N → a < m → m < b → b ≤ n → ∀ (d : Array Rcd) (w : World) (P L R S : List Rcd), StS n g B w0 d w → d.toList = P ++ ((L ++ R) ++ S) → P.length = a → a + L.length = m → m + R.length = b → SrtS befR L → SrtS befR R →
    Calls Tryz.prog 128 #[(.slice (some ⟨g, 0, none⟩) n cap), .int .i64 a, .int .i64 m, .int .i64 b, (.func (.func 35) #[] #[])] w fun e w' => e = .returned (.tuple #[]) ∧ ∃ d' X, StS n g B w0 d' w' ∧ d'.toList = P ++ (X ++ S) ∧ Stab befR (L ++ R) X := by
  intro N
  induction N with
  | zero => intro a m b h1 h2 h3; omega
  | succ N ih =>
    intro a m b hN ham hmb hb d w P L R S hst hd hP hL hR hsl hsr
    have IH := Lib.hid ih
    have HST := Lib.hid hst
    have HD := Lib.hid hd
    have HSL := Lib.hid hsl
    have HSR := Lib.hid hsr
    clear ih hst hd hsl hsr
    by_cases h1 : m - a = 1
    · obtain rfl : m = a + 1 := by omega
      have e1 : ((a : Int) + 1 - (a : Int) == 1) = true := by rw [beq_iff_eq]; omega
      obtain ⟨xe, rfl⟩ : ∃ xe, L = [xe] := by
        match L, hL with
        | [xe], _ => exact ⟨xe, rfl⟩
        | [], hL => simp at hL
        | _ :: _ :: _, hL => simp at hL
      clear IH
      go_enter Tryz.func128, Tryz.ntmps128
      go_wp2_with fail
      go_loopw [10, 11] (fun s t wr => ∃ p q : Nat, s = .int .i64 p ∧ t = .int .i64 q ∧ a + 1 ≤ p ∧ p ≤ q ∧ q ≤ b ∧ StS n g B w0 d wr ∧ Hid (a + 1 < p → befR d[p - 1]! d[a]! = true) ∧ Hid (q < b → befR d[q]! d[a]! = false)) (fun s t _ => (intOf t).toNat - (intOf s).toNat)
      case atStart => exact ⟨a + 1, b, by first | rfl | go_num, rfl, Nat.le_refl _, by omega, Nat.le_refl _, HST.out, fun h => absurd h (Nat.lt_irrefl _), fun h => absurd h (Nat.lt_irrefl _)⟩
      case round =>
        obtain ⟨p, q, rfl, rfl, hp, hpq, hqb, hst, HLo, HHi⟩ := hrel
        have HS3 := Lib.hid hst
        clear hst HST
        obtain ⟨wo, rfl⟩ : ∃ wo : World, wo = wr := ⟨_, rfl⟩
        have hS : Below wo.heap.size wo wo.drew := (Below.refl _ _).drew
        by_cases hlt : p < q
        · go_wp2_with fail
          have hh : ((p : Int) + (q : Int)) / 2 = ((p + q) / 2 : Nat) := by omega
          rw [hh]
          clear hh
          obtain ⟨h, hq⟩ : ∃ h : Nat, h = (p + q) / 2 := ⟨_, rfl⟩
          rw [← hq]
          have k1 : p ≤ h := by omega
          have k2 : h < q := by omega
          clear hq
          have k3 : h < n := by omega
          have k4 : a < n := by omega
          obtain ⟨x, hx0⟩ : ∃ x, d[h]! = x := ⟨_, rfl⟩
          obtain ⟨y, hy0⟩ : ∃ y, d[a]! = y := ⟨_, rfl⟩
          have ox := HS3.out.ok (h) k3
          have oy := HS3.out.ok (a) k4
          rw [hx0] at ox
          rw [hy0] at oy
          obtain ⟨x0, x1, x2, x3, x4, x5, xg⟩ := HS3.out.sixH hB k3 hx0
          obtain ⟨y0, y1, y2, y3, y4, y5, _⟩ := HS3.out.sixH hB k4 hy0
          have HC := Lib.hid (fun w => crec_any x y w ox oy)
          have hbf := befR_is x y
          rw [← hx0, ← hy0] at hbf
          have HX0 := Lib.hid hx0
          have HY0 := Lib.hid hy0
          rw [hx0, hy0] at hbf
          generalize hcq : cmpRc (keyR x) (keyR y) = cn at *
          have HBF : Hid (befR (d[h]!) (d[a]!) = decide (cn < 0)) := by
            show _ = _
            rw [hx0, hy0]
            exact hbf
          clear hcq hbf hx0 hy0 ox oy
          obtain ⟨xs, xf, xl, xd, xn, xh⟩ := x
          obtain ⟨ys, yf, yl, yd, yn, yh⟩ := y
          unfold Rcd.val Rcd.cells at HC
          dsimp only at HC x0 x1 x2 x3 x4 x5 y0 y1 y2 y3 y4 y5
          by_cases hcn : cn < 0
          · have hdc : decide (cn < 0) = true := by simpa using hcn
            have HL : Hid (befR d[h]! d[a]! = true) := by show _ = _; rw [HBF.out]; exact hdc
            clear HBF hcn
            go_wp2_with fail
            (refine wp_region_s (S := Below wo.heap.size wo) (by kernel_rfl) (by kernel_rfl) hS ?_; have hN : Nonempty (Held (Below wo.heap.size wo)) := ⟨⟨_, hS⟩⟩; skip; (repeat (go_big_quiet_step ((go_at_call 35; exact held_keep (HC.out _))))); refine wpQuiet_nil ?_; rintro x ⟨⟨_, hx⟩, rfl⟩; clear hN)
            clear x0 x1 x2 x3 x4 x5 y0 y1 y2 y3 y4 y5 xg HC HX0 HY0
            have HS4 := Lib.hid (HS3.out.below hx hB)
            clear HS3 hdc hx
            go_wp2_with fail
            go_roundw
            case rel => exact ⟨h + 1, q, by go_num, rfl, by omega, by omega, hqb, HS4.out, fun _ => HL.out, HHi⟩
            case measure => simp [intOf]; omega
          · have hdc : decide (cn < 0) = false := by simpa using hcn
            have HL : Hid (befR d[h]! d[a]! = false) := by show _ = _; rw [HBF.out]; exact hdc
            clear HBF hcn
            go_wp2_with fail
            (refine wp_region_s (S := Below wo.heap.size wo) (by kernel_rfl) (by kernel_rfl) hS ?_; have hN : Nonempty (Held (Below wo.heap.size wo)) := ⟨⟨_, hS⟩⟩; skip; (repeat (go_big_quiet_step ((go_at_call 35; exact held_keep (HC.out _))))); refine wpQuiet_nil ?_; rintro x ⟨⟨_, hx⟩, rfl⟩; clear hN)
            clear x0 x1 x2 x3 x4 x5 y0 y1 y2 y3 y4 y5 xg HC HX0 HY0
            have HS4 := Lib.hid (HS3.out.below hx hB)
            clear HS3 hdc hx
            go_wp2_with fail
            go_roundw
            case rel => exact ⟨p, h, rfl, rfl, hp, k1, by omega, HS4.out, HLo, fun _ => HL.out⟩
            case measure => simp [intOf]; omega
        · obtain rfl : p = q := by omega
          obtain ⟨A', B', C', D', hA', hC', lA, lC, hBC, hle⟩ := sym_parts_at swo_befR (s := a) (e := p) HD.out hP hL hR HSL.out HSR.out (fun _ h => HLo.out h) (fun h _ => absurd h (Nat.lt_irrefl _)) (Nat.le_refl _) (by omega) hp hqb
          obtain rfl : A' = [] := List.eq_nil_of_length_eq_zero (by omega)
          rw [List.nil_append] at hA'
          obtain rfl := hA'
          have hsD : SrtS befR (xe :: D') := by
            refine srt_cons swo_befR ?_ fun y hy => ?_
            · have := HSR.out
              rw [hC'] at this
              unfold SrtS at this ⊢
              exact (List.pairwise_append.1 this).2.1
            · obtain ⟨b1, b2⟩ := head_at hy
              have hDl : C'.length + D'.length = R.length := by rw [hC', List.length_append]
              have ed : d[p]! = y := mid_at2 HD.out (q := p) (by rw [hP]; simp; omega) (by rw [hP, hC', List.getElem?_append_right (by simp; omega)]; rw [show p - (a + [xe].length) - C'.length = 0 by simp; omega]; exact b2)
              have ea : d[a]! = xe := mid_at HD.out (q := a) (by omega) (by rw [hP, Nat.sub_self]; rfl)
              have h3 := HHi.out (by omega)
              rw [ed, ea] at h3
              exact h3
          have hsC : SrtS befR C' := by
            have := HSR.out
            rw [hC'] at this
            unfold SrtS at this ⊢
            exact (List.pairwise_append.1 this).1
          have HFIN : Hid (Stab befR ([xe] ++ R) (C' ++ ([xe] ++ D'))) := by
            have := sym_join swo_befR (A := []) (B := [xe]) (C := C') (D := D') (.self hsC) (.self hsD) hBC hle
            rw [← hC'] at this
            exact this
          have HDR : Hid (d.toList = P ++ ([] ++ (xe :: (C' ++ (D' ++ S))))) := by
            show _ = _
            rw [HD.out, hC']
            simp
          have HCL : Hid (C'.length = p - (a + 1)) := lC
          clear hsD hsC hBC hle HLo HHi HSL HSR HD hC' lA lC
          have hrt : (a : Int) + 1 ≤ (p : Int) := by omega
          go_wp2_with fail
          go_loopw [13] (fun s wr => ∃ (k : Nat) (dk : Array Rcd) (C1 C2 : List Rcd), s = .int .i64 k ∧ Hid (C' = C1 ++ C2) ∧ Hid (k = a + C1.length) ∧ StS n g B w0 dk wr ∧ Hid (dk.toList = P ++ (C1 ++ (xe :: (C2 ++ (D' ++ S)))))) (fun s _ => p - (intOf s).toNat)
          case atStart => exact ⟨a, d, [], C', rfl, rfl, (rfl : a = a + ([] : List Rcd).length), HS3.out, HDR⟩
          case round =>
            obtain ⟨k, dk, C1, C2, rfl, HCC, HK, hst, HDK⟩ := hrel
            have HS5 := Lib.hid hst
            clear hst HS3
            have hCl2 : C1.length + C2.length = p - (a + 1) := by rw [← HCL.out, HCC.out, List.length_append]
            have HC2 := Lib.hid hCl2
            clear hCl2
            cases C2 with
            | nil =>
              have hkp : p = k + 1 := by
                have h1 := HC2.out
                have h2 := HK.out
                rw [List.length_nil] at h1
                omega
              subst hkp
              have HRES : Hid (dk.toList = P ++ ((C' ++ ([xe] ++ D')) ++ S)) := by
                show _ = _
                rw [HDK.out, HCC.out]
                simp
              clear HDK
              go_wp2_with fail
              refine bodyPost_ret (results_none rfl _ _ _) rfl ?_
              exact ⟨rfl, dk, _, HS5.out, HRES.out, HFIN.out⟩
            | cons y C2 =>
              have hkn : k + 1 < p := by
                have h1 := HC2.out
                have h2 := HK.out
                rw [List.length_cons] at h1
                omega
              have k5 : k < n := by omega
              have k6 : k + 1 < n := by omega
              have HNX : Hid ((swp dk k (k + 1)).toList = P ++ ((C1 ++ [y]) ++ (xe :: (C2 ++ (D' ++ S))))) := by
                show _ = _
                have h1 := swp_list (d := dk) (P := P ++ C1) (Q := []) (S := C2 ++ (D' ++ S)) (x := xe) (y := y) (by rw [HDK.out]; simp)
                rw [show (P ++ C1).length = k by have := HK.out; rw [List.length_append]; omega, show k + 1 + ([] : List Rcd).length = k + 1 from rfl] at h1
                rw [h1]
                simp
              obtain ⟨x, hx0⟩ : ∃ x, dk[k]! = x := ⟨_, rfl⟩
              obtain ⟨y, hy0⟩ : ∃ y, dk[k + 1]! = y := ⟨_, rfl⟩
              have hsw := HS5.out.swp hB (i := k) (j := k + 1) k5 k6
              obtain ⟨⟨x0, x1, x2, x3, x4, x5⟩, fx0, fx1, fx2, fx3, fx4, fx5⟩ := HS5.out.six k5 hx0
              obtain ⟨⟨y0, y1, y2, y3, y4, y5⟩, fy0, fy1, fy2, fy3, fy4, fy5⟩ := HS5.out.six k6 hy0
              have hgl := HS5.out.gl
              rw [hx0, hy0] at hsw
              obtain ⟨xs, xf, xl, xd, xn, xh⟩ := x
              obtain ⟨ys, yf, yl, yd, yn, yh⟩ := y
              simp only [World.setCells, Rcd.cells, Nat.zero_add, Nat.add_assoc, Nat.reduceAdd] at hsw
              dsimp only at x0 x1 x2 x3 x4 x5 y0 y1 y2 y3 y4 y5
              have HSW := Lib.hid hsw
              clear hsw hx0 hy0
              go_wp2_with fail
              go_region
              go_wp2_with fail
              go_roundw
              case rel =>
                refine ⟨k + 1, swp dk k (k + 1), C1 ++ [y], C2, ?_, ?_, ?_, ?_, HNX⟩
                · go_num
                · show _ = _
                  rw [HCC.out]
                  simp
                · show _ = _
                  have := HK.out
                  rw [List.length_append, List.length_singleton]
                  omega
                · refine StS.drew ?_
                  with_reducible exact HSW.out
              case measure => simp [intOf]; omega
    · have e1 : ((m : Int) - (a : Int) == 1) = false := by simp; omega
      by_cases h2 : b - m = 1
      · obtain rfl : b = m + 1 := by omega
        have e2 : ((m : Int) + 1 - (m : Int) == 1) = true := by rw [beq_iff_eq]; omega
        obtain ⟨ye, rfl⟩ : ∃ ye, R = [ye] := by
          match R, hR with
          | [ye], _ => exact ⟨ye, rfl⟩
          | [], hR => simp at hR
          | _ :: _ :: _, hR => simp at hR
        clear IH
        go_enter Tryz.func128, Tryz.ntmps128
        go_wp2_with fail
        clear e1 e2
        go_loopw [14, 15] (fun s t wr => ∃ p q : Nat, s = .int .i64 p ∧ t = .int .i64 q ∧ a ≤ p ∧ p ≤ q ∧ q ≤ m ∧ StS n g B w0 d wr ∧ Hid (a < p → befR d[m]! d[p - 1]! = false) ∧ Hid (q < m → befR d[m]! d[q]! = true)) (fun s t _ => (intOf t).toNat - (intOf s).toNat)
        case atStart => exact ⟨a, m, rfl, rfl, Nat.le_refl _, by omega, Nat.le_refl _, HST.out, fun h => absurd h (Nat.lt_irrefl _), fun h => absurd h (Nat.lt_irrefl _)⟩
        case round =>
          obtain ⟨p, q, rfl, rfl, hp, hpq, hqb, hst, HLo, HHi⟩ := hrel
          have HS3 := Lib.hid hst
          clear hst HST
          obtain ⟨wo, rfl⟩ : ∃ wo : World, wo = wr := ⟨_, rfl⟩
          have hS : Below wo.heap.size wo wo.drew := (Below.refl _ _).drew
          by_cases hlt : p < q
          · go_wp2_with fail
            have hh : ((p : Int) + (q : Int)) / 2 = ((p + q) / 2 : Nat) := by omega
            rw [hh]
            clear hh
            obtain ⟨h, hq⟩ : ∃ h : Nat, h = (p + q) / 2 := ⟨_, rfl⟩
            rw [← hq]
            have k1 : p ≤ h := by omega
            have k2 : h < q := by omega
            clear hq
            have k3 : m < n := by omega
            have k4 : h < n := by omega
            obtain ⟨x, hx0⟩ : ∃ x, d[m]! = x := ⟨_, rfl⟩
            obtain ⟨y, hy0⟩ : ∃ y, d[h]! = y := ⟨_, rfl⟩
            have ox := HS3.out.ok (m) k3
            have oy := HS3.out.ok (h) k4
            rw [hx0] at ox
            rw [hy0] at oy
            obtain ⟨x0, x1, x2, x3, x4, x5, xg⟩ := HS3.out.sixH hB k3 hx0
            obtain ⟨y0, y1, y2, y3, y4, y5, _⟩ := HS3.out.sixH hB k4 hy0
            have HC := Lib.hid (fun w => crec_any x y w ox oy)
            have hbf := befR_is x y
            rw [← hx0, ← hy0] at hbf
            have HX0 := Lib.hid hx0
            have HY0 := Lib.hid hy0
            rw [hx0, hy0] at hbf
            generalize hcq : cmpRc (keyR x) (keyR y) = cn at *
            have HBF : Hid (befR (d[m]!) (d[h]!) = decide (cn < 0)) := by
              show _ = _
              rw [hx0, hy0]
              exact hbf
            clear hcq hbf hx0 hy0 ox oy
            obtain ⟨xs, xf, xl, xd, xn, xh⟩ := x
            obtain ⟨ys, yf, yl, yd, yn, yh⟩ := y
            unfold Rcd.val Rcd.cells at HC
            dsimp only at HC x0 x1 x2 x3 x4 x5 y0 y1 y2 y3 y4 y5
            by_cases hcn : cn < 0
            · have hdc : decide (cn < 0) = true := by simpa using hcn
              have HL : Hid (befR d[m]! d[h]! = true) := by show _ = _; rw [HBF.out]; exact hdc
              clear HBF hcn
              go_wp2_with fail
              (refine wp_region_s (S := Below wo.heap.size wo) (by kernel_rfl) (by kernel_rfl) hS ?_; have hN : Nonempty (Held (Below wo.heap.size wo)) := ⟨⟨_, hS⟩⟩; skip; (repeat (go_big_quiet_step ((go_at_call 35; exact held_keep (HC.out _))))); refine wpQuiet_nil ?_; rintro x ⟨⟨_, hx⟩, rfl⟩; clear hN)
              clear x0 x1 x2 x3 x4 x5 y0 y1 y2 y3 y4 y5 xg HC HX0 HY0
              have HS4 := Lib.hid (HS3.out.below hx hB)
              clear HS3 hdc hx
              go_wp2_with fail
              go_roundw
              case rel => exact ⟨p, h, rfl, rfl, hp, k1, by omega, HS4.out, HLo, fun _ => HL.out⟩
              case measure => simp [intOf]; omega
            · have hdc : decide (cn < 0) = false := by simpa using hcn
              have HL : Hid (befR d[m]! d[h]! = false) := by show _ = _; rw [HBF.out]; exact hdc
              clear HBF hcn
              go_wp2_with fail
              (refine wp_region_s (S := Below wo.heap.size wo) (by kernel_rfl) (by kernel_rfl) hS ?_; have hN : Nonempty (Held (Below wo.heap.size wo)) := ⟨⟨_, hS⟩⟩; skip; (repeat (go_big_quiet_step ((go_at_call 35; exact held_keep (HC.out _))))); refine wpQuiet_nil ?_; rintro x ⟨⟨_, hx⟩, rfl⟩; clear hN)
              clear x0 x1 x2 x3 x4 x5 y0 y1 y2 y3 y4 y5 xg HC HX0 HY0
              have HS4 := Lib.hid (HS3.out.below hx hB)
              clear HS3 hdc hx
              go_wp2_with fail
              go_roundw
              case rel => exact ⟨h + 1, q, by go_num, rfl, by omega, by omega, hqb, HS4.out, fun _ => HL.out, HHi⟩
              case measure => simp [intOf]; omega
          · obtain rfl : p = q := by omega
            obtain ⟨A', B', C', D', hA', hC', lA, lC, hBC, hle⟩ := sym_parts_at swo_befR (s := p) (e := m + 1) HD.out hP hL hR HSL.out HSR.out (fun h _ => HHi.out h) (fun _ h => absurd h (Nat.lt_irrefl _)) hp hqb (by omega) (Nat.le_refl _)
            have hD0 : D' = [] := by
              have h1 : C'.length + D'.length = 1 := by rw [← List.length_append, ← hC']; rfl
              exact List.eq_nil_of_length_eq_zero (by omega)
            subst hD0
            rw [List.append_nil] at hC'
            obtain rfl := hC'
            have hsB : SrtS befR B' := by
              have := HSL.out
              rw [hA'] at this
              unfold SrtS at this ⊢
              exact (List.pairwise_append.1 this).2.1
            have hsA : SrtS befR (A' ++ [ye]) := by
              refine srt_snoc swo_befR ?_ fun x hx => ?_
              · have := HSL.out
                rw [hA'] at this
                unfold SrtS at this ⊢
                exact (List.pairwise_append.1 this).1
              · obtain ⟨b1, b2⟩ := last_at hx
                have ed : d[p - 1]! = x := mid_at HD.out (q := p - 1) (by omega) (by rw [hP, hA', List.getElem?_append_left (by omega)]; rw [show p - 1 - a = A'.length - 1 by omega]; exact b2)
                have em : d[m]! = ye := mid_at2 HD.out (q := m) (by omega) (by rw [hP, hL, Nat.sub_self]; rfl)
                have h3 := HLo.out (by omega)
                rw [ed, em] at h3
                exact h3
            have HFIN : Hid (Stab befR (L ++ [ye]) ((A' ++ [ye]) ++ B')) := by
              have := sym_join swo_befR (A := A') (B := B') (C := [ye]) (D := []) (.self hsA) (by rw [List.append_nil]; exact .self hsB) hBC hle
              rw [← hA', List.append_nil] at this
              exact this
            have HDR : Hid (d.toList = P ++ (A' ++ (B' ++ (ye :: ([] ++ S))))) := by
              show _ = _
              rw [HD.out, hA']
              simp
            have hAB : A'.length + B'.length = L.length := by rw [hA', List.length_append]
            have HBL : Hid (B'.length = m - p) := by
              show _ = _
              omega
            have HAL : Hid (A'.length = p - a ∧ P.length = a) := ⟨lA, hP⟩
            clear hAB hA' lA
            clear hsB hsA hBC hle HLo HHi HSL HSR HD lC hP hL hR
            go_wp2_with fail
            go_loopw [17] (fun s wr => ∃ (k : Nat) (dk : Array Rcd) (B1 B2 : List Rcd), s = .int .i64 k ∧ Hid (B' = B1 ++ B2) ∧ Hid (k = p + B1.length) ∧ StS n g B w0 dk wr ∧ Hid (dk.toList = P ++ (A' ++ (B1 ++ (ye :: (B2 ++ S)))))) (fun s _ => (intOf s).toNat)
            case atStart => exact ⟨m, d, B', [], rfl, (List.append_nil B').symm, (by have := HBL.out; show _ = _; omega), HS3.out, HDR⟩
            case round =>
              obtain ⟨k, dk, B1, B2, rfl, HBB, HK, hst, HDK⟩ := hrel
              have HS5 := Lib.hid hst
              clear hst HS3
              have HB2 : Hid (B1.length + B2.length = m - p) := by
                show _ = _
                rw [← HBL.out, HBB.out, List.length_append]
              rcases List.eq_nil_or_concat B1 with hb1 | ⟨B1', z, hb1⟩
              · have hkp : k = p := by
                  have h2 := HK.out
                  rw [hb1, List.length_nil] at h2
                  omega
                subst hkp
                have HRES : Hid (dk.toList = P ++ (((A' ++ [ye]) ++ B') ++ S)) := by
                  show _ = _
                  rw [HDK.out, HBB.out, hb1]
                  simp
                clear HDK hb1
                go_wp2_with fail
                refine bodyPost_ret (results_none rfl _ _ _) rfl ?_
                exact ⟨rfl, dk, _, HS5.out, HRES.out, HFIN.out⟩
              · rw [List.concat_eq_append] at hb1
                have HKB : Hid (k = p + (B1'.length + 1)) := by
                  have h2 := HK.out
                  rw [hb1, List.length_append, List.length_singleton] at h2
                  exact h2
                obtain ⟨kp, hkp⟩ : ∃ kp, k = kp + 1 := ⟨k - 1, by have := HKB.out; omega⟩
                subst hkp
                have hkm : kp + 1 ≤ m := by
                  have h1 := HB2.out
                  have h2 := HKB.out
                  rw [hb1, List.length_append, List.length_singleton] at h1
                  omega
                have k5 : kp + 1 < n := by omega
                have k6 : kp < n := by omega
                have hpk : p < kp + 1 := by have := HKB.out; omega
                have HNX : Hid ((swp dk (kp + 1) kp).toList = P ++ (A' ++ (B1' ++ (ye :: ((z :: B2) ++ S))))) := by
                  show _ = _
                  have h1 := swp_back (d := dk) (P := P ++ (A' ++ B1')) (S := B2 ++ S) (x := z) (y := ye) (by rw [HDK.out, hb1]; simp)
                  have h2 := HKB.out
                  have h3 := HAL.out
                  rw [show (P ++ (A' ++ B1')).length = kp by rw [List.length_append, List.length_append]; omega] at h1
                  rw [h1]
                  simp
                have HBN : Hid (B' = B1' ++ z :: B2) := by
                  show _ = _
                  rw [HBB.out, hb1]
                  simp
                clear hb1 HDK HBB HK
                obtain ⟨x, hx0⟩ : ∃ x, dk[kp + 1]! = x := ⟨_, rfl⟩
                obtain ⟨y, hy0⟩ : ∃ y, dk[kp]! = y := ⟨_, rfl⟩
                have hsw := HS5.out.swp hB (i := kp + 1) (j := kp) k5 k6
                obtain ⟨⟨x0, x1, x2, x3, x4, x5⟩, fx0, fx1, fx2, fx3, fx4, fx5⟩ := HS5.out.six k5 hx0
                obtain ⟨⟨y0, y1, y2, y3, y4, y5⟩, fy0, fy1, fy2, fy3, fy4, fy5⟩ := HS5.out.six k6 hy0
                have hgl := HS5.out.gl
                rw [hx0, hy0] at hsw
                obtain ⟨xs, xf, xl, xd, xn, xh⟩ := x
                obtain ⟨ys, yf, yl, yd, yn, yh⟩ := y
                simp only [World.setCells, Rcd.cells, Nat.zero_add, Nat.add_assoc, Nat.reduceAdd] at hsw
                dsimp only at x0 x1 x2 x3 x4 x5 y0 y1 y2 y3 y4 y5
                have HSW := Lib.hid hsw
                clear hsw hx0 hy0
                go_wp2_with fail
                go_region
                go_wp2_with fail
                go_roundw
                case rel =>
                  refine ⟨kp, swp dk (kp + 1) kp, B1', z :: B2, ?_, HBN, ?_, ?_, HNX⟩
                  · go_num
                  · show _ = _
                    have := HKB.out
                    omega
                  · refine StS.drew ?_
                    with_reducible exact HSW.out
                case measure => simp [intOf]
      · have e2 : ((b : Int) - (m : Int) == 1) = false := by simp; omega
        obtain ⟨md, hmd⟩ : ∃ md : Nat, md = (a + b) / 2 := ⟨_, rfl⟩
        have hh : ((a : Int) + (b : Int)) / 2 = (md : Int) := by omega
        have hd1 : 2 * md ≤ a + b := by omega
        have hd2 : a + b ≤ 2 * md + 1 := by omega
        clear hmd
        by_cases hdm : md < m
        · obtain ⟨s0, hs0⟩ : ∃ s0 : Nat, md + m = b + s0 := ⟨md + m - b, by omega⟩
          have hs1 : (md : Int) + (m : Int) - (b : Int) = (s0 : Int) := by omega
          have hdm' : decide ((md : Int) < (m : Int)) = true := by simp; omega
          go_enter Tryz.func128, Tryz.ntmps128
          go_wp2_with fail
          clear e1 e2 hs1 hh hdm'
          go_loopw [20, 21] (fun s t wr => ∃ p q : Nat, s = .int .i64 p ∧ t = .int .i64 q ∧ s0 ≤ p ∧ p ≤ q ∧ q ≤ md ∧ StS n g B w0 d wr ∧ Hid (s0 < p → befR d[md + m - p]! d[p - 1]! = false) ∧ Hid (q < md → befR d[md + m - 1 - q]! d[q]! = true)) (fun s t _ => (intOf t).toNat - (intOf s).toNat)
          case atStart => exact ⟨s0, md, rfl, rfl, Nat.le_refl _, by omega, Nat.le_refl _, HST.out, fun h => absurd h (Nat.lt_irrefl _), fun h => absurd h (Nat.lt_irrefl _)⟩
          case round =>
            obtain ⟨p, q, rfl, rfl, hp, hpq, hqb, hst, HLo, HHi⟩ := hrel
            have HS3 := Lib.hid hst
            clear hst HST
            by_cases hlt : p < q
            · obtain ⟨wo, rfl⟩ : ∃ wo : World, wo = wr := ⟨_, rfl⟩
              have hS : Below wo.heap.size wo wo.drew := (Below.refl _ _).drew
              go_wp2_with fail
              have hh : ((p : Int) + (q : Int)) / 2 = ((p + q) / 2 : Nat) := by omega
              rw [hh]
              clear hh
              obtain ⟨h, hq⟩ : ∃ h : Nat, h = (p + q) / 2 := ⟨_, rfl⟩
              rw [← hq]
              have k1 : p ≤ h := by omega
              have k2 : h < q := by omega
              clear hq
              obtain ⟨r, hr⟩ : ∃ r : Nat, r + h + 1 = md + m := ⟨md + m - 1 - h, by omega⟩
              have k3 : r < n := by omega
              have k4 : h < n := by omega
              have hr1 : (md : Int) + (m : Int) - 1 - (h : Int) = (r : Int) := by omega
              obtain ⟨x, hx0⟩ : ∃ x, d[r]! = x := ⟨_, rfl⟩
              obtain ⟨y, hy0⟩ : ∃ y, d[h]! = y := ⟨_, rfl⟩
              have ox := HS3.out.ok (r) k3
              have oy := HS3.out.ok (h) k4
              rw [hx0] at ox
              rw [hy0] at oy
              obtain ⟨x0, x1, x2, x3, x4, x5, xg⟩ := HS3.out.sixH hB k3 hx0
              obtain ⟨y0, y1, y2, y3, y4, y5, _⟩ := HS3.out.sixH hB k4 hy0
              have HC := Lib.hid (fun w => crec_any x y w ox oy)
              have hbf := befR_is x y
              rw [← hx0, ← hy0] at hbf
              have HX0 := Lib.hid hx0
              have HY0 := Lib.hid hy0
              rw [hx0, hy0] at hbf
              generalize hcq : cmpRc (keyR x) (keyR y) = cn at *
              have HBF : Hid (befR (d[r]!) (d[h]!) = decide (cn < 0)) := by
                show _ = _
                rw [hx0, hy0]
                exact hbf
              clear hcq hbf hx0 hy0 ox oy
              obtain ⟨xs, xf, xl, xd, xn, xh⟩ := x
              obtain ⟨ys, yf, yl, yd, yn, yh⟩ := y
              unfold Rcd.val Rcd.cells at HC
              dsimp only at HC x0 x1 x2 x3 x4 x5 y0 y1 y2 y3 y4 y5
              have hw1 : IntKind.i64.wrap (r : Int) = (r : Int) := IntWalk.i64_in _ (by omega)
              by_cases hcn : cn < 0
              · have hdc : decide (cn < 0) = true := by simpa using hcn
                have HL : Hid (befR d[r]! d[h]! = true) := by show _ = _; rw [HBF.out]; exact hdc
                clear HBF hcn
                go_wp2_with fail
                (refine wp_region_s (S := Below wo.heap.size wo) (by kernel_rfl) (by kernel_rfl) hS ?_; have hN : Nonempty (Held (Below wo.heap.size wo)) := ⟨⟨_, hS⟩⟩; skip; (repeat (go_big_quiet_step ((go_at_call 35; exact held_keep (HC.out _))))); refine wpQuiet_nil ?_; rintro x ⟨⟨_, hx⟩, rfl⟩; clear hN)
                clear x0 x1 x2 x3 x4 x5 y0 y1 y2 y3 y4 y5 xg HC HX0 HY0
                have HS4 := Lib.hid (HS3.out.below hx hB)
                clear HS3 hdc hx
                go_wp2_with fail
                go_roundw
                case rel => exact ⟨p, h, rfl, rfl, hp, k1, by omega, HS4.out, HLo, fun _ => by rw [show md + m - 1 - h = r by omega]; exact HL.out⟩
                case measure => simp [intOf]; omega
              · have hdc : decide (cn < 0) = false := by simpa using hcn
                have HL : Hid (befR d[r]! d[h]! = false) := by show _ = _; rw [HBF.out]; exact hdc
                clear HBF hcn
                go_wp2_with fail
                (refine wp_region_s (S := Below wo.heap.size wo) (by kernel_rfl) (by kernel_rfl) hS ?_; have hN : Nonempty (Held (Below wo.heap.size wo)) := ⟨⟨_, hS⟩⟩; skip; (repeat (go_big_quiet_step ((go_at_call 35; exact held_keep (HC.out _))))); refine wpQuiet_nil ?_; rintro x ⟨⟨_, hx⟩, rfl⟩; clear hN)
                clear x0 x1 x2 x3 x4 x5 y0 y1 y2 y3 y4 y5 xg HC HX0 HY0
                have HS4 := Lib.hid (HS3.out.below hx hB)
                clear HS3 hdc hx
                go_wp2_with fail
                go_roundw
                case rel => exact ⟨h + 1, q, by go_num, rfl, by omega, by omega, hqb, HS4.out, fun _ => by rw [show md + m - (h + 1) = r by omega, Nat.add_sub_cancel]; exact HL.out, HHi⟩
                case measure => simp [intOf]; omega
            · obtain rfl : p = q := by omega
              obtain ⟨e, he⟩ : ∃ e : Nat, e + p = md + m := ⟨md + m - p, by omega⟩
              have hE : (md : Int) + (m : Int) - (p : Int) = (e : Int) := by omega
              have hme : m ≤ e := by omega
              have heb : e ≤ b := by omega
              have hap : a ≤ p := by omega
              have hpm : p ≤ m := by omega
              obtain ⟨A, B', C, D, hA, hC, lA, lC, hBC, hle⟩ := sym_parts_at swo_befR (s := p) (e := e) HD.out hP hL hR HSL.out HSR.out (fun h1 h2 => by have h := HHi.out (by omega); rwa [show md + m - 1 - p = e - 1 by omega] at h) (fun h1 h2 => by have h := HLo.out (by omega); rwa [show md + m - p = e by omega] at h) hap hpm hme heb
              have lB : B'.length = m - p := by have h := congrArg List.length hA; rw [List.length_append] at h; omega
              have lD : D.length = b - e := by have h := congrArg List.length hC; rw [List.length_append] at h; omega
              have hsL := HSL.out
              have hsR := HSR.out
              rw [hA] at hsL
              rw [hC] at hsR
              unfold SrtS at hsL hsR
              have HSA : Hid (SrtS befR A ∧ SrtS befR B' ∧ SrtS befR C ∧ SrtS befR D) := ⟨(List.pairwise_append.1 hsL).1, (List.pairwise_append.1 hsL).2.1, (List.pairwise_append.1 hsR).1, (List.pairwise_append.1 hsR).2.1⟩
              have HJ : Hid (∀ X Y, Stab befR (A ++ C) X → Stab befR (B' ++ D) Y → Stab befR (L ++ R) (X ++ Y)) := fun X Y h1 h2 => by
                rw [hA, hC]
                exact sym_join swo_befR h1 h2 hBC hle
              have HDL : Hid (d.toList = P ++ ((A ++ B') ++ ((C ++ D) ++ S))) := by
                show _ = _
                rw [HD.out, hA, hC]
                simp
              clear hsL hsR hA hC hBC hle HLo HHi HSL HSR HD
              by_cases hro : p < md
              · have HW := Lib.hid (rot_any n g B cap p m e w0 wr d (P ++ A) B' C (D ++ S) HS3.out hB (by rw [HDL.out]; simp) (by rw [List.length_append]; omega) (by omega) (by omega) (by omega) (by omega) hn)
                go_wp2_with fail
                refine HW.out.mono ?_
                rintro e' w2 ⟨rfl, d1, hs1, hd1⟩
                have HS5 := Lib.hid hs1
                have HD5 : Hid (d1.toList = P ++ ((A ++ C) ++ ((B' ++ D) ++ S))) := by show _ = _; rw [hd1]; simp
                clear HW hs1 hd1 HDL HS3
                by_cases hqa : a < p
                · have HW := Lib.hid (IH.out a p md (by omega) (by omega) (by omega) (by omega) d1 w2 P A C ((B' ++ D) ++ S) HS5.out HD5.out hP (by omega) (by omega) HSA.out.1 HSA.out.2.2.1)
                  go_wp2_with fail
                  refine HW.out.mono ?_
                  rintro e' w3 ⟨rfl, d2, X1, hs2, hd2, hx1⟩
                  have HS6 := Lib.hid hs2
                  have HD6 := Lib.hid hd2
                  have HX1 := Lib.hid hx1
                  have lX : P.length + X1.length = md := by
                    have h1 : d2.toList.length = n := by rw [Array.length_toList]; exact hs2.sz
                    have h2 : d1.toList.length = n := by rw [Array.length_toList]; exact HS5.out.sz
                    rw [hd2] at h1
                    rw [HD5.out] at h2
                    simp only [List.length_append] at h1 h2
                    omega
                  clear HW hs2 hd2 hx1 HS5 HD5
                  by_cases hqe : e < b
                  · have HW := Lib.hid (IH.out md e b (by omega) (by omega) (by omega) hb d2 w3 (P ++ X1) B' D S HS6.out (by rw [HD6.out]; simp) (by rw [List.length_append]; omega) (by omega) (by omega) HSA.out.2.1 HSA.out.2.2.2)
                    go_wp2_with fail
                    refine HW.out.mono ?_
                    rintro e' w4 ⟨rfl, d3, X2, hs3, hd3, hx2⟩
                    have HS7 := Lib.hid hs3
                    have HD7 : Hid (d3.toList = P ++ ((X1 ++ X2) ++ S)) := by show _ = _; rw [hd3]; simp
                    have HX2 := Lib.hid (HJ.out X1 X2 HX1.out hx2)
                    clear HW hs3 hd3 hx2 HS6 HD6
                    go_wp2_with fail
                    refine bodyPost_end (results_none rfl _ _ _) rfl ?_
                    exact ⟨rfl, d3, _, HS7.out, HD7.out, HX2.out⟩
                  · have hsB : Stab befR (B' ++ D) (B' ++ D) := by
                      refine Stab.self ?_
                      obtain rfl : D = [] := List.eq_nil_of_length_eq_zero (by omega)
                      rw [List.append_nil]
                      exact HSA.out.2.1
                    have HX2 := Lib.hid (HJ.out X1 (B' ++ D) HX1.out hsB)
                    have HD7 : Hid (d2.toList = P ++ ((X1 ++ (B' ++ D)) ++ S)) := by show _ = _; rw [HD6.out]; simp
                    clear hsB HD6
                    go_wp2_with fail
                    refine bodyPost_end (results_none rfl _ _ _) rfl ?_
                    exact ⟨rfl, d2, _, HS6.out, HD7.out, HX2.out⟩
                · have HS6 := HS5
                  have HD6 := HD5
                  obtain ⟨X1, hX1⟩ : ∃ X1, X1 = A ++ C := ⟨_, rfl⟩
                  rw [← hX1] at HD6
                  have HX1 : Hid (Stab befR (A ++ C) X1) := by
                    rw [hX1]
                    refine Stab.self ?_
                    obtain rfl : A = [] := List.eq_nil_of_length_eq_zero (by omega)
                    exact HSA.out.2.2.1
                  have lX : P.length + X1.length = md := by rw [hX1, List.length_append]; omega
                  clear HS5 HD5 hX1
                  by_cases hqe : e < b
                  · exfalso
                    omega
                  · have hsB : Stab befR (B' ++ D) (B' ++ D) := by
                      refine Stab.self ?_
                      obtain rfl : D = [] := List.eq_nil_of_length_eq_zero (by omega)
                      rw [List.append_nil]
                      exact HSA.out.2.1
                    have HX2 := Lib.hid (HJ.out X1 (B' ++ D) HX1.out hsB)
                    have HD7 : Hid (d1.toList = P ++ ((X1 ++ (B' ++ D)) ++ S)) := by show _ = _; rw [HD6.out]; simp
                    clear hsB HD6
                    go_wp2_with fail
                    refine bodyPost_end (results_none rfl _ _ _) rfl ?_
                    exact ⟨rfl, d1, _, HS6.out, HD7.out, HX2.out⟩
              · have HD5 : Hid (d.toList = P ++ ((A ++ C) ++ ((B' ++ D) ++ S))) := by
                  show _ = _
                  rw [HDL.out]
                  obtain rfl : C = [] := List.eq_nil_of_length_eq_zero (by omega)
                  simp
                have HS5 := HS3
                clear HDL HS3
                have HS6 := HS5
                have HD6 := HD5
                obtain ⟨X1, hX1⟩ : ∃ X1, X1 = A ++ C := ⟨_, rfl⟩
                rw [← hX1] at HD6
                have HX1 : Hid (Stab befR (A ++ C) X1) := by
                  rw [hX1]
                  refine Stab.self ?_
                  obtain rfl : C = [] := List.eq_nil_of_length_eq_zero (by omega)
                  rw [List.append_nil]
                  exact HSA.out.1
                have lX : P.length + X1.length = md := by rw [hX1, List.length_append]; omega
                clear HS5 HD5 hX1
                by_cases hqe : e < b
                · have HW := Lib.hid (IH.out md e b (by omega) (by omega) (by omega) hb d wr (P ++ X1) B' D S HS6.out (by rw [HD6.out]; simp) (by rw [List.length_append]; omega) (by omega) (by omega) HSA.out.2.1 HSA.out.2.2.2)
                  go_wp2_with fail
                  refine HW.out.mono ?_
                  rintro e' w4 ⟨rfl, d3, X2, hs3, hd3, hx2⟩
                  have HS7 := Lib.hid hs3
                  have HD7 : Hid (d3.toList = P ++ ((X1 ++ X2) ++ S)) := by show _ = _; rw [hd3]; simp
                  have HX2 := Lib.hid (HJ.out X1 X2 HX1.out hx2)
                  clear HW hs3 hd3 hx2 HS6 HD6
                  go_wp2_with fail
                  refine bodyPost_end (results_none rfl _ _ _) rfl ?_
                  exact ⟨rfl, d3, _, HS7.out, HD7.out, HX2.out⟩
                · exfalso
                  omega
        · have hdm' : decide ((md : Int) < (m : Int)) = false := by simp; omega
          go_enter Tryz.func128, Tryz.ntmps128
          go_wp2_with fail
          clear e1 e2 hh hdm'
          go_loopw [20, 21] (fun s t wr => ∃ p q : Nat, s = .int .i64 p ∧ t = .int .i64 q ∧ a ≤ p ∧ p ≤ q ∧ q ≤ m ∧ StS n g B w0 d wr ∧ Hid (a < p → befR d[md + m - p]! d[p - 1]! = false) ∧ Hid (q < m → befR d[md + m - 1 - q]! d[q]! = true)) (fun s t _ => (intOf t).toNat - (intOf s).toNat)
          case atStart => exact ⟨a, m, rfl, rfl, Nat.le_refl _, by omega, Nat.le_refl _, HST.out, fun h => absurd h (Nat.lt_irrefl _), fun h => absurd h (Nat.lt_irrefl _)⟩
          case round =>
            obtain ⟨p, q, rfl, rfl, hp, hpq, hqb, hst, HLo, HHi⟩ := hrel
            have HS3 := Lib.hid hst
            clear hst HST
            by_cases hlt : p < q
            · obtain ⟨wo, rfl⟩ : ∃ wo : World, wo = wr := ⟨_, rfl⟩
              have hS : Below wo.heap.size wo wo.drew := (Below.refl _ _).drew
              go_wp2_with fail
              have hh : ((p : Int) + (q : Int)) / 2 = ((p + q) / 2 : Nat) := by omega
              rw [hh]
              clear hh
              obtain ⟨h, hq⟩ : ∃ h : Nat, h = (p + q) / 2 := ⟨_, rfl⟩
              rw [← hq]
              have k1 : p ≤ h := by omega
              have k2 : h < q := by omega
              clear hq
              obtain ⟨r, hr⟩ : ∃ r : Nat, r + h + 1 = md + m := ⟨md + m - 1 - h, by omega⟩
              have k3 : r < n := by omega
              have k4 : h < n := by omega
              have hr1 : (md : Int) + (m : Int) - 1 - (h : Int) = (r : Int) := by omega
              obtain ⟨x, hx0⟩ : ∃ x, d[r]! = x := ⟨_, rfl⟩
              obtain ⟨y, hy0⟩ : ∃ y, d[h]! = y := ⟨_, rfl⟩
              have ox := HS3.out.ok (r) k3
              have oy := HS3.out.ok (h) k4
              rw [hx0] at ox
              rw [hy0] at oy
              obtain ⟨x0, x1, x2, x3, x4, x5, xg⟩ := HS3.out.sixH hB k3 hx0
              obtain ⟨y0, y1, y2, y3, y4, y5, _⟩ := HS3.out.sixH hB k4 hy0
              have HC := Lib.hid (fun w => crec_any x y w ox oy)
              have hbf := befR_is x y
              rw [← hx0, ← hy0] at hbf
              have HX0 := Lib.hid hx0
              have HY0 := Lib.hid hy0
              rw [hx0, hy0] at hbf
              generalize hcq : cmpRc (keyR x) (keyR y) = cn at *
              have HBF : Hid (befR (d[r]!) (d[h]!) = decide (cn < 0)) := by
                show _ = _
                rw [hx0, hy0]
                exact hbf
              clear hcq hbf hx0 hy0 ox oy
              obtain ⟨xs, xf, xl, xd, xn, xh⟩ := x
              obtain ⟨ys, yf, yl, yd, yn, yh⟩ := y
              unfold Rcd.val Rcd.cells at HC
              dsimp only at HC x0 x1 x2 x3 x4 x5 y0 y1 y2 y3 y4 y5
              have hw1 : IntKind.i64.wrap (r : Int) = (r : Int) := IntWalk.i64_in _ (by omega)
              by_cases hcn : cn < 0
              · have hdc : decide (cn < 0) = true := by simpa using hcn
                have HL : Hid (befR d[r]! d[h]! = true) := by show _ = _; rw [HBF.out]; exact hdc
                clear HBF hcn
                go_wp2_with fail
                (refine wp_region_s (S := Below wo.heap.size wo) (by kernel_rfl) (by kernel_rfl) hS ?_; have hN : Nonempty (Held (Below wo.heap.size wo)) := ⟨⟨_, hS⟩⟩; skip; (repeat (go_big_quiet_step ((go_at_call 35; exact held_keep (HC.out _))))); refine wpQuiet_nil ?_; rintro x ⟨⟨_, hx⟩, rfl⟩; clear hN)
                clear x0 x1 x2 x3 x4 x5 y0 y1 y2 y3 y4 y5 xg HC HX0 HY0
                have HS4 := Lib.hid (HS3.out.below hx hB)
                clear HS3 hdc hx
                go_wp2_with fail
                go_roundw
                case rel => exact ⟨p, h, rfl, rfl, hp, k1, by omega, HS4.out, HLo, fun _ => by rw [show md + m - 1 - h = r by omega]; exact HL.out⟩
                case measure => simp [intOf]; omega
              · have hdc : decide (cn < 0) = false := by simpa using hcn
                have HL : Hid (befR d[r]! d[h]! = false) := by show _ = _; rw [HBF.out]; exact hdc
                clear HBF hcn
                go_wp2_with fail
                (refine wp_region_s (S := Below wo.heap.size wo) (by kernel_rfl) (by kernel_rfl) hS ?_; have hN : Nonempty (Held (Below wo.heap.size wo)) := ⟨⟨_, hS⟩⟩; skip; (repeat (go_big_quiet_step ((go_at_call 35; exact held_keep (HC.out _))))); refine wpQuiet_nil ?_; rintro x ⟨⟨_, hx⟩, rfl⟩; clear hN)
                clear x0 x1 x2 x3 x4 x5 y0 y1 y2 y3 y4 y5 xg HC HX0 HY0
                have HS4 := Lib.hid (HS3.out.below hx hB)
                clear HS3 hdc hx
                go_wp2_with fail
                go_roundw
                case rel => exact ⟨h + 1, q, by go_num, rfl, by omega, by omega, hqb, HS4.out, fun _ => by rw [show md + m - (h + 1) = r by omega, Nat.add_sub_cancel]; exact HL.out, HHi⟩
                case measure => simp [intOf]; omega
            · obtain rfl : p = q := by omega
              obtain ⟨e, he⟩ : ∃ e : Nat, e + p = md + m := ⟨md + m - p, by omega⟩
              have hE : (md : Int) + (m : Int) - (p : Int) = (e : Int) := by omega
              have hme : m ≤ e := by omega
              have heb : e ≤ b := by omega
              have hap : a ≤ p := by omega
              have hpm : p ≤ m := by omega
              obtain ⟨A, B', C, D, hA, hC, lA, lC, hBC, hle⟩ := sym_parts_at swo_befR (s := p) (e := e) HD.out hP hL hR HSL.out HSR.out (fun h1 h2 => by have h := HHi.out (by omega); rwa [show md + m - 1 - p = e - 1 by omega] at h) (fun h1 h2 => by have h := HLo.out (by omega); rwa [show md + m - p = e by omega] at h) hap hpm hme heb
              have lB : B'.length = m - p := by have h := congrArg List.length hA; rw [List.length_append] at h; omega
              have lD : D.length = b - e := by have h := congrArg List.length hC; rw [List.length_append] at h; omega
              have hsL := HSL.out
              have hsR := HSR.out
              rw [hA] at hsL
              rw [hC] at hsR
              unfold SrtS at hsL hsR
              have HSA : Hid (SrtS befR A ∧ SrtS befR B' ∧ SrtS befR C ∧ SrtS befR D) := ⟨(List.pairwise_append.1 hsL).1, (List.pairwise_append.1 hsL).2.1, (List.pairwise_append.1 hsR).1, (List.pairwise_append.1 hsR).2.1⟩
              have HJ : Hid (∀ X Y, Stab befR (A ++ C) X → Stab befR (B' ++ D) Y → Stab befR (L ++ R) (X ++ Y)) := fun X Y h1 h2 => by
                rw [hA, hC]
                exact sym_join swo_befR h1 h2 hBC hle
              have HDL : Hid (d.toList = P ++ ((A ++ B') ++ ((C ++ D) ++ S))) := by
                show _ = _
                rw [HD.out, hA, hC]
                simp
              clear hsL hsR hA hC hBC hle HLo HHi HSL HSR HD
              by_cases hro : p < m
              · have HW := Lib.hid (rot_any n g B cap p m e w0 wr d (P ++ A) B' C (D ++ S) HS3.out hB (by rw [HDL.out]; simp) (by rw [List.length_append]; omega) (by omega) (by omega) (by omega) (by omega) hn)
                go_wp2_with fail
                refine HW.out.mono ?_
                rintro e' w2 ⟨rfl, d1, hs1, hd1⟩
                have HS5 := Lib.hid hs1
                have HD5 : Hid (d1.toList = P ++ ((A ++ C) ++ ((B' ++ D) ++ S))) := by show _ = _; rw [hd1]; simp
                clear HW hs1 hd1 HDL HS3
                by_cases hqa : a < p
                · have HW := Lib.hid (IH.out a p md (by omega) (by omega) (by omega) (by omega) d1 w2 P A C ((B' ++ D) ++ S) HS5.out HD5.out hP (by omega) (by omega) HSA.out.1 HSA.out.2.2.1)
                  go_wp2_with fail
                  refine HW.out.mono ?_
                  rintro e' w3 ⟨rfl, d2, X1, hs2, hd2, hx1⟩
                  have HS6 := Lib.hid hs2
                  have HD6 := Lib.hid hd2
                  have HX1 := Lib.hid hx1
                  have lX : P.length + X1.length = md := by
                    have h1 : d2.toList.length = n := by rw [Array.length_toList]; exact hs2.sz
                    have h2 : d1.toList.length = n := by rw [Array.length_toList]; exact HS5.out.sz
                    rw [hd2] at h1
                    rw [HD5.out] at h2
                    simp only [List.length_append] at h1 h2
                    omega
                  clear HW hs2 hd2 hx1 HS5 HD5
                  by_cases hqe : e < b
                  · have HW := Lib.hid (IH.out md e b (by omega) (by omega) (by omega) hb d2 w3 (P ++ X1) B' D S HS6.out (by rw [HD6.out]; simp) (by rw [List.length_append]; omega) (by omega) (by omega) HSA.out.2.1 HSA.out.2.2.2)
                    go_wp2_with fail
                    refine HW.out.mono ?_
                    rintro e' w4 ⟨rfl, d3, X2, hs3, hd3, hx2⟩
                    have HS7 := Lib.hid hs3
                    have HD7 : Hid (d3.toList = P ++ ((X1 ++ X2) ++ S)) := by show _ = _; rw [hd3]; simp
                    have HX2 := Lib.hid (HJ.out X1 X2 HX1.out hx2)
                    clear HW hs3 hd3 hx2 HS6 HD6
                    go_wp2_with fail
                    refine bodyPost_end (results_none rfl _ _ _) rfl ?_
                    exact ⟨rfl, d3, _, HS7.out, HD7.out, HX2.out⟩
                  · exfalso
                    omega
                · have HS6 := HS5
                  have HD6 := HD5
                  obtain ⟨X1, hX1⟩ : ∃ X1, X1 = A ++ C := ⟨_, rfl⟩
                  rw [← hX1] at HD6
                  have HX1 : Hid (Stab befR (A ++ C) X1) := by
                    rw [hX1]
                    refine Stab.self ?_
                    obtain rfl : A = [] := List.eq_nil_of_length_eq_zero (by omega)
                    exact HSA.out.2.2.1
                  have lX : P.length + X1.length = md := by rw [hX1, List.length_append]; omega
                  clear HS5 HD5 hX1
                  by_cases hqe : e < b
                  · have HW := Lib.hid (IH.out md e b (by omega) (by omega) (by omega) hb d1 w2 (P ++ X1) B' D S HS6.out (by rw [HD6.out]; simp) (by rw [List.length_append]; omega) (by omega) (by omega) HSA.out.2.1 HSA.out.2.2.2)
                    go_wp2_with fail
                    refine HW.out.mono ?_
                    rintro e' w4 ⟨rfl, d3, X2, hs3, hd3, hx2⟩
                    have HS7 := Lib.hid hs3
                    have HD7 : Hid (d3.toList = P ++ ((X1 ++ X2) ++ S)) := by show _ = _; rw [hd3]; simp
                    have HX2 := Lib.hid (HJ.out X1 X2 HX1.out hx2)
                    clear HW hs3 hd3 hx2 HS6 HD6
                    go_wp2_with fail
                    refine bodyPost_end (results_none rfl _ _ _) rfl ?_
                    exact ⟨rfl, d3, _, HS7.out, HD7.out, HX2.out⟩
                  · have hsB : Stab befR (B' ++ D) (B' ++ D) := by
                      refine Stab.self ?_
                      obtain rfl : D = [] := List.eq_nil_of_length_eq_zero (by omega)
                      rw [List.append_nil]
                      exact HSA.out.2.1
                    have HX2 := Lib.hid (HJ.out X1 (B' ++ D) HX1.out hsB)
                    have HD7 : Hid (d1.toList = P ++ ((X1 ++ (B' ++ D)) ++ S)) := by show _ = _; rw [HD6.out]; simp
                    clear hsB HD6
                    go_wp2_with fail
                    refine bodyPost_end (results_none rfl _ _ _) rfl ?_
                    exact ⟨rfl, d1, _, HS6.out, HD7.out, HX2.out⟩
              · have HD5 : Hid (d.toList = P ++ ((A ++ C) ++ ((B' ++ D) ++ S))) := by
                  show _ = _
                  rw [HDL.out]
                  obtain rfl : B' = [] := List.eq_nil_of_length_eq_zero (by omega)
                  simp
                have HS5 := HS3
                clear HDL HS3
                by_cases hqm : m < md
                · have HW := Lib.hid (IH.out a p md (by omega) (by omega) (by omega) (by omega) d wr P A C ((B' ++ D) ++ S) HS5.out HD5.out hP (by omega) (by omega) HSA.out.1 HSA.out.2.2.1)
                  go_wp2_with fail
                  refine HW.out.mono ?_
                  rintro e' w3 ⟨rfl, d2, X1, hs2, hd2, hx1⟩
                  have HS6 := Lib.hid hs2
                  have HD6 := Lib.hid hd2
                  have HX1 := Lib.hid hx1
                  have lX : P.length + X1.length = md := by
                    have h1 : d2.toList.length = n := by rw [Array.length_toList]; exact hs2.sz
                    have h2 : d.toList.length = n := by rw [Array.length_toList]; exact HS5.out.sz
                    rw [hd2] at h1
                    rw [HD5.out] at h2
                    simp only [List.length_append] at h1 h2
                    omega
                  clear HW hs2 hd2 hx1 HS5 HD5
                  have hsB : Stab befR (B' ++ D) (B' ++ D) := by
                    refine Stab.self ?_
                    obtain rfl : B' = [] := List.eq_nil_of_length_eq_zero (by omega)
                    exact HSA.out.2.2.2
                  have HX2 := Lib.hid (HJ.out X1 (B' ++ D) HX1.out hsB)
                  have HD7 : Hid (d2.toList = P ++ ((X1 ++ (B' ++ D)) ++ S)) := by show _ = _; rw [HD6.out]; simp
                  clear hsB HD6
                  go_wp2_with fail
                  refine bodyPost_end (results_none rfl _ _ _) rfl ?_
                  exact ⟨rfl, d2, _, HS6.out, HD7.out, HX2.out⟩
                · have HS6 := HS5
                  have HD6 := HD5
                  obtain ⟨X1, hX1⟩ : ∃ X1, X1 = A ++ C := ⟨_, rfl⟩
                  rw [← hX1] at HD6
                  have HX1 : Hid (Stab befR (A ++ C) X1) := by
                    rw [hX1]
                    refine Stab.self ?_
                    obtain rfl : C = [] := List.eq_nil_of_length_eq_zero (by omega)
                    rw [List.append_nil]
                    exact HSA.out.1
                  have lX : P.length + X1.length = md := by rw [hX1, List.length_append]; omega
                  clear HS5 HD5 hX1
                  have hsB : Stab befR (B' ++ D) (B' ++ D) := by
                    refine Stab.self ?_
                    obtain rfl : B' = [] := List.eq_nil_of_length_eq_zero (by omega)
                    exact HSA.out.2.2.2
                  have HX2 := Lib.hid (HJ.out X1 (B' ++ D) HX1.out hsB)
                  have HD7 : Hid (d.toList = P ++ ((X1 ++ (B' ++ D)) ++ S)) := by show _ = _; rw [HD6.out]; simp
                  clear hsB HD6
                  go_wp2_with fail
                  refine bodyPost_end (results_none rfl _ _ _) rfl ?_
                  exact ⟨rfl, d, _, HS6.out, HD7.out, HX2.out⟩
end
section
open Go.RowKit Go.Sort

set_option maxRecDepth 100000 in
set_option maxHeartbeats 12800000 in
theorem sstab_any (n g B cap : Nat) (w0 w : World) (d : Array Rcd) (h : StS n g B w0 d w) (hB : B ≤ g) (hn : n ≤ 1000000) :
    Calls Tryz.prog 83 #[(.slice (some ⟨g, 0, none⟩) n cap), .int .i64 n, (.func (.func 35) #[] #[])] w fun e w' => e = .returned (.tuple #[]) ∧ ∃ d', StS n g B w0 d' w' ∧ SortedIn befR 0 n d' ∧ SameC befR d.toList d'.toList := by
  have HST := Lib.hid h
  have HI0 : Hid (InsS befR 20 0 d) := fun i hi => absurd hi (Nat.not_lt_zero _)
  have HC0 : Hid (SameC befR d.toList d.toList) := fun _ => rfl
  clear h
  go_enter Tryz.func83, Tryz.ntmps83
  go_wp2_with fail
  go_loopw [7, 8] (fun x y wr => ∃ (q a : Nat) (dk : Array Rcd), x = .int .i64 a ∧ y = .int .i64 ((a + 20 : Nat) : Int) ∧ Hid (a = q * 20) ∧ a ≤ n ∧ StS n g B w0 dk wr ∧ Hid (InsS befR 20 q dk) ∧ Hid (SameC befR d.toList dk.toList)) (fun x _ _ => n - (intOf x).toNat)
  case atStart =>
    refine ⟨0, 0, d, ?_, ?_, ?_, ?_, ?_, ?_, ?_⟩
    · rfl
    · rfl
    · rfl
    · exact Nat.zero_le _
    · exact HST.out
    · exact HI0.out
    · exact HC0.out
  case round =>
    obtain ⟨q, a, dk, rfl, rfl, HA, han, hst, HI, HC⟩ := hrel
    have HS3 := Lib.hid hst
    clear hst HST HI0 HC0
    by_cases hlt : a + 20 ≤ n
    · have HW := Lib.hid (sins_any n g B cap a (a + 20) w0 wr dk HS3.out hB (by omega) hlt hn)
      go_wp2_with fail
      refine HW.out.mono ?_
      rintro e w2 ⟨rfl, d2, hs2, ho, hsr, hsc⟩
      have HS4 := Lib.hid hs2
      have HI2 := Lib.hid (HI.out.step HA.out ho hsr)
      have HC2 := Lib.hid (SameC.trans (lt := befR) HC.out hsc)
      clear hs2 ho hsr hsc HW HS3 HI HC
      go_wp2_with fail
      go_roundw
      case rel =>
        refine ⟨q + 1, a + 20, d2, ?_, ?_, ?_, ?_, ?_, ?_, ?_⟩
        · rfl
        · first | exact congrArg (Value.int .i64) (by omega) | go_num
        · have := HA.out
          show _ = _
          omega
        · exact hlt
        · exact HS4.out
        · exact HI2.out
        · exact HC2.out
      case measure => simp [intOf]; omega
    · have HW := Lib.hid (sins_any n g B cap a n w0 wr dk HS3.out hB han (Nat.le_refl _) hn)
      go_wp2_with fail
      refine HW.out.mono ?_
      rintro e w2 ⟨rfl, d2, hs2, ho, hsr, hsc⟩
      have HS4 := Lib.hid hs2
      have HB2 := Lib.hid (HI.out.last HA.out (show n < a + 20 by omega) ho hsr)
      have HC2 := Lib.hid (SameC.trans (lt := befR) HC.out hsc)
      clear hs2 ho hsr hsc HW HS3 HI HC hlt han HA
      go_wp2_with fail
      go_loopw [6] (fun x wr => ∃ (s : Nat) (dk : Array Rcd), x = .int .i64 s ∧ 0 < s ∧ s ≤ 2 * n + 20 ∧ StS n g B w0 dk wr ∧ Hid (BlkS befR s n dk) ∧ Hid (SameC befR d.toList dk.toList)) (fun x _ => n - (intOf x).toNat)
      case atStart =>
        refine ⟨20, d2, ?_, ?_, ?_, ?_, ?_, ?_⟩
        · rfl
        · omega
        · omega
        · exact HS4.out
        · exact HB2.out
        · exact HC2.out
      case round =>
        obtain ⟨s, dk, rfl, hs0, hs2, hst, HBK, HC⟩ := hrel
        have HS5 := Lib.hid hst
        clear hst HS4 HB2 HC2
        by_cases hlt : s < n
        · have HM0 := Lib.hid (MrgS.start HBK.out)
          clear HBK
          obtain ⟨wo, rfl⟩ : ∃ wo : World, wo = wr := ⟨_, rfl⟩
          obtain ⟨dk0, hdk0⟩ : ∃ x, x = dk := ⟨_, rfl⟩
          rw [← hdk0] at HS5 HM0 HC
          clear hdk0
          go_wp2_with fail
          go_loopw [7, 8] (fun x y wr => ∃ (q a : Nat) (dk : Array Rcd), x = .int .i64 a ∧ y = .int .i64 ((a + 2 * s : Nat) : Int) ∧ Hid (a = q * (2 * s)) ∧ a ≤ n ∧ StS n g B w0 dk wr ∧ Hid (MrgS befR s n q dk) ∧ Hid (SameC befR d.toList dk.toList)) (fun x _ _ => n - (intOf x).toNat)
          case atStart =>
            refine ⟨0, 0, dk0, ?_, ?_, ?_, ?_, ?_, ?_, ?_⟩
            · rfl
            · first | rfl | exact congrArg (Value.int .i64) (by omega)
            · show _ = _
              omega
            · exact Nat.zero_le _
            · exact HS5.out
            · exact HM0.out
            · exact HC.out
          case round =>
            obtain ⟨q, a, dk, rfl, rfl, HA, han, hst, HM, HC1⟩ := hrel
            have HS3 := Lib.hid hst
            clear hst HS5 HM0 HC
            by_cases hle : a + 2 * s ≤ n
            · obtain ⟨P, L, R, S, hl, hP, hL, hR, kL, kR, kE⟩ := sym_use (lt := befR) (d := dk) (a := a) (m := a + s) (b := a + 2 * s) (by omega) (by omega) (by rw [HS3.out.sz]; omega)
              obtain ⟨u1, u2⟩ := HM.out.use HA.out
              rw [Nat.min_eq_left (show a + s ≤ n by omega)] at u1
              rw [show a + s + s = a + 2 * s by omega, Nat.min_eq_left hle] at u2
              have hw := ssym_any n g B cap w0 hB hn (a + 2 * s - a) a (a + s) (a + 2 * s) (Nat.le_refl _) (by omega) (by omega) (by omega) dk wr P L R S HS3.out hl hP hL hR (kL u1) (kR u2)
              simp only [Int.natCast_add, Int.natCast_mul, Int.cast_ofNat_Int] at hw
              have HW := Lib.hid hw
              have HKE := Lib.hid kE
              clear hl kL kR kE u1 u2 hw
              go_wp2_with fail
              refine HW.out.mono ?_
              rintro e w3 ⟨rfl, d3, X, hs3, hd3, hx⟩
              obtain ⟨ho, hsr, hsc⟩ := HKE.out d3 X (by rw [hs3.sz, HS3.out.sz]) hd3 hx
              have HS6 := Lib.hid hs3
              have HM2 := Lib.hid (HM.out.step HA.out ho hsr)
              have HC2 := Lib.hid (SameC.trans (lt := befR) HC1.out hsc)
              have ha2 : Hid (a + 2 * s = (q + 1) * (2 * s)) := by
                show _ = _
                rw [Nat.succ_mul q (2 * s), ← HA.out]
              clear hs3 hd3 hx ho hsr hsc HW HKE HS3 HM HC1 hP hL hR
              go_wp2_with fail
              go_roundw
              case rel =>
                refine ⟨q + 1, a + 2 * s, d3, ?_, ?_, ?_, ?_, ?_, ?_, ?_⟩
                · first | rfl | exact congrArg (Value.int .i64) (by omega)
                · first | exact congrArg (Value.int .i64) (by omega) | go_num
                · exact ha2.out
                · exact hle
                · exact HS6.out
                · exact HM2.out
                · exact HC2.out
              case measure => simp [intOf]; omega
            · by_cases hms : a + s < n
              · obtain ⟨P, L, R, S, hl, hP, hL, hR, kL, kR, kE⟩ := sym_use (lt := befR) (d := dk) (a := a) (m := a + s) (b := n) (by omega) (by omega) (by rw [HS3.out.sz]; omega)
                obtain ⟨u1, u2⟩ := HM.out.use HA.out
                rw [Nat.min_eq_left (show a + s ≤ n by omega)] at u1
                rw [Nat.min_eq_right (show n ≤ a + s + s by omega)] at u2
                have hw := ssym_any n g B cap w0 hB hn (n - a) a (a + s) (n) (Nat.le_refl _) (by omega) (by omega) (by omega) dk wr P L R S HS3.out hl hP hL hR (kL u1) (kR u2)
                simp only [Int.natCast_add] at hw
                have HW := Lib.hid hw
                have HKE := Lib.hid kE
                clear hl kL kR kE u1 u2 hw
                go_wp2_with fail
                refine HW.out.mono ?_
                rintro e w3 ⟨rfl, d3, X, hs3, hd3, hx⟩
                obtain ⟨ho, hsr, hsc⟩ := HKE.out d3 X (by rw [hs3.sz, HS3.out.sz]) hd3 hx
                have HS6 := Lib.hid hs3
                have HM2 := Lib.hid (HM.out.last HA.out (show n < a + 2 * s by omega) ho hsr)
                have HC2 := Lib.hid (SameC.trans (lt := befR) HC1.out hsc)
                clear hs3 hd3 hx ho hsr hsc HW HKE HS3 HM HC1 hP hL hR
                go_wp2_with fail
                go_roundw
                case rel =>
                  refine ⟨2 * s, d3, ?_, ?_, ?_, ?_, ?_, ?_⟩
                  · first | rfl | exact congrArg (Value.int .i64) (by omega)
                  · omega
                  · omega
                  · exact HS6.out
                  · exact HM2.out
                  · exact HC2.out
                case measure => simp [intOf]; omega
              · obtain ⟨u1, _⟩ := HM.out.use HA.out
                rw [Nat.min_eq_right (show n ≤ a + s by omega)] at u1
                have HM2 := Lib.hid (HM.out.last HA.out (show n < a + 2 * s by omega) (show OutR a n dk dk from ⟨rfl, fun _ _ => rfl⟩) u1)
                clear u1 HM
                go_wp2_with fail
                go_roundw
                case rel =>
                  refine ⟨2 * s, dk, ?_, ?_, ?_, ?_, ?_, ?_⟩
                  · first | rfl | exact congrArg (Value.int .i64) (by omega)
                  · omega
                  · omega
                  · exact HS3.out
                  · exact HM2.out
                  · exact HC1.out
                case measure => simp [intOf]; omega
        · have HFI := Lib.hid (HBK.out.all (show n ≤ s by omega))
          go_wp2_with fail
          refine bodyPost_end (results_none rfl _ _ _) rfl ?_
          exact ⟨rfl, dk, HS5.out, HFI.out, HC.out⟩
/-- slices.SortStableFunc leaves the stable sorting. -/
theorem stab_list (n : Nat) (V : List Rcd) (d : Array Rcd) (hz : d.size = n) (h1 : SortedIn befR 0 n d) (h2 : SameC befR V d.toList) : Stab befR V d.toList :=
  ⟨srt_of (d := d) (P := []) (X := d.toList) (S := []) (a := 0) (b := n) (by simp) rfl (by rw [Array.length_toList, hz]; omega) h1, h2⟩
set_option maxRecDepth 100000 in
theorem sortStable_any (n g B cap : Nat) (w0 w : World) (d : Array Rcd) (h : StS n g B w0 d w) (hB : B ≤ g) (hn : n ≤ 1000000) :
    Calls Tryz.prog 34 #[(.slice (some ⟨g, 0, none⟩) n cap), (.func (.func 35) #[] #[])] w fun e w' => e = .returned (.tuple #[]) ∧ ∃ d', StS n g B w0 d' w' ∧ d'.toList = sortR d.toList := by
  have HW := Lib.hid (sstab_any n g B cap w0 w d h hB hn)
  clear h
  go_enter Tryz.func34, Tryz.ntmps34
  go_wp2_with fail
  refine HW.out.mono ?_
  rintro e w2 ⟨rfl, d2, hs2, h1, h2⟩
  have HS2 := Lib.hid hs2
  have HE : Hid (d2.toList = sortR d.toList) := Stab.uniq swo_befR.irrefl (stab_list n d.toList d2 hs2.sz h1 h2) (sortR_stab d.toList)
  clear hs2 h1 h2 HW
  go_wp2_with fail
  refine bodyPost_end (results_none rfl _ _ _) rfl ?_
  exact ⟨rfl, d2, HS2.out, HE.out⟩
end
end Go.Proofs.YtocffknoeknabaaGreatDoor
