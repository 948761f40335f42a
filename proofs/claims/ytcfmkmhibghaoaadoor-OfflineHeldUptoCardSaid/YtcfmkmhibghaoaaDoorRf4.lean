/-
  The reference's table of leases: Acquire.
-/
import Derived.Test.YtcfmkmhibghaoaaDoorRf3
import Derived.Maps.AppendAt
namespace Go.Proofs.YtcfmkmhibghaoaaDoor
open Go.RowKit

theorem LogIs.row {r lb : Nat} {L : List Lease} {A : Option Addr} {cap : Nat} {w : World} (h : LogIs r lb L A cap w) : w.ownsRow 0 26 5 (.slice A L.length cap) L.length (celL L) := by
  refine ⟨celL_len L, ?_⟩
  rcases h with ⟨rfl, rfl, rfl⟩ | ⟨hne, cs, h0, rfl, h2, h3, h4, h5, h6⟩
  · exact .inl ⟨rfl, rfl⟩
  · exact .inr ⟨lb, cap, cs, rfl, Nat.zero_le _, h4, h2, h3, h5, h6⟩
theorem LogIs.own {r lb : Nat} {L : List Lease} {A : Option Addr} {cap : Nat} {w : World} (h : LogIs r lb L A cap w) : (Value.slice A L.length cap).ownBlock = none ∨ ((Value.slice A L.length cap).ownBlock = some lb ∧ lb ≠ r) := by
  rcases h with ⟨rfl, rfl, rfl⟩ | ⟨hne, cs, h0, rfl, h2, h3, h4, h5, h6⟩
  · exact .inl rfl
  · exact .inr ⟨rfl, hne⟩
/-- An append has left a longer log. -/
theorem LogIs.grew {r lb n cap : Nat} {L M : List Lease} {A : Option Addr} {v' : Value} {w w' : World} (h : LogIs r lb L A cap w) (ho : w'.ownsRow 0 26 5 v' (n + 1) (celL L ++ celL M)) (hn : (L ++ M).length = n + 1) (hat : v'.ownBlock = (Value.slice A L.length cap).ownBlock ∨ v'.ownBlock = some w.heap.size) (hr : r < w.heap.size) (hlt : lb < w.heap.size) :
    ∃ lb' cap', v' = .slice (some ⟨lb', 0, none⟩) (n + 1) cap' ∧ lb' < w'.heap.size ∧ (lb' = lb ∨ lb' = w.heap.size) ∧ lb' ≠ r ∧ LogIs r lb' (L ++ M) (some ⟨lb', 0, none⟩) cap' w' := by
  rcases ho.2 with ⟨_, h0⟩ | ⟨g, cap', cs, rfl, _, hb, h1, h2, h3, h4⟩
  · omega
  have hg : g = lb ∧ lb ≠ r ∨ g = w.heap.size := by
    rcases hat with e | e
    · rcases h.own with e2 | ⟨e2, hne⟩
      · rw [e2] at e; cases e
      · rw [e2] at e; exact .inl ⟨by injection e, hne⟩
    · exact .inr (by injection e)
  have hgr : g ≠ r := by
    rcases hg with ⟨rfl, hne⟩ | rfl
    · exact hne
    · omega
  refine ⟨g, cap', rfl, block_lt hb, hg.imp (fun h => h.1) id, hgr, .inr ⟨hgr, cs, by omega, rfl, by omega, h2, hb, h3, ?_⟩⟩
  rw [hn, celL_append, h4]
theorem onlyG {r lb : Nat} {A : Option Addr} {cap n : Nat} {w w1 w2 : World} (h : Only r lb w w1) (hA : (Value.slice A n cap).ownBlock = none ∨ (Value.slice A n cap).ownBlock = some lb) (hg : w1.grownBy w2 (Value.slice A n cap).ownBlock) : Only r lb w w2 :=
  ⟨hg.os.trans h.os, hg.tape.trans h.tape, hg.output.trans h.output, Nat.le_trans h.size hg.size, fun k hk h1 h2 => (hg.block k (Nat.lt_of_lt_of_le hk h.size) (fun e => by
    rcases hA with e2 | e2
    · rw [e2] at e; cases e
    · rw [e2] at e; injection e with e; exact h2 e)).trans (h.block k hk h1 h2)⟩
/-- What Acquire asks of the table. -/
structure AcqH (R : RTab) (p hd : ByteArray) (w : World) : Prop where
  g0 : 0 ≤ R.clk
  g1 : R.clk ≤ 1099511627776
  f0 : ∀ x ∈ R.log, 0 ≤ x.fence
  ps : ∀ x ∈ R.log, x.path.size ≤ 1048576
  ln : R.log.length ≤ 1000000
  p0 : p.size ≤ 1048576
  h0 : hd.size ≤ 1048576
  mx : G0 w
section
variable (r lb : Nat) (R : RTab) (p hd : ByteArray) (n : Int) (w : World)

set_option maxRecDepth 100000 in
set_option maxHeartbeats 1600000 in
theorem racq_path (h : RAt r lb R w) (H : AcqH R p hd w) (hu : useB p = false) :
    Calls Tryd.prog 25 #[.pointer (some ⟨r, 0, none⟩), .string p, .string hd, .int .i64 n] w (RLeaseP r lb w (R, zeroL, 190)) := by
  have hb0 := below_box w (.cells #[.string ⟨#[]⟩, .string ⟨#[]⟩, .int .i64 0, .int .i64 0, .int .i64 0] 26)
  have HC := Lib.hid (rcur_any r lb R p _ (h.below hb0))
  have HU : Hid (∀ W, Below w.heap.size w W → Calls Tryd.prog 10 #[.string p] W fun e w' => e = .returned (.bool (useB p)) ∧ Below W.heap.size W w') := fun W hW => usable_any p W (by have := H.p0; omega) (H.mx.below hW)
  have HN : Hid (∀ W, Calls Tryd.prog 43 #[.string hd] W fun e w' => e = .returned (.bool (isNameB hd)) ∧ Below W.heap.size W w') := fun W => rname_any hd W (by have := H.h0; unfold maxLen; omega)
  have HK := Lib.hid (zeroBlk w)
  have HR := Lib.hid (h.below hb0)
  have HR0 := Lib.hid h
  have HB0 := Lib.hid hb0
  have HH := Lib.hid H
  have hrl := h.rlt
  have hll := h.lt
  obtain ⟨ci, hci⟩ : ∃ ci, curI p R.log = ci := ⟨_, rfl⟩
  rw [hci] at HC
  clear hci h hb0
  go_enter Tryd.func25, Tryd.ntmps25
  go_wp2_with fail
  refine HC.out.mono ?_
  rintro e w1 ⟨rfl, hb1⟩
  have hk1 := HK.out.below hb1
  have hw1 := HB0.out.trans (hb1.mono HB0.out.size)
  have HW1 := Lib.hid hw1
  have HK1 := Lib.hid hk1
  clear hb1 hk1 hw1 HC
  go_wp2_with fail
  refine (HU.out _ HW1.out).mono ?_
  rw [hu]
  rintro e w2 ⟨rfl, hb2⟩
  have HW2 := Lib.hid (HW1.out.trans (hb2.mono HW1.out.size))
  have HK2 := Lib.hid (HK1.out.below hb2)
  clear hb2 HK1 HW1
  have hk := HK2.out
  have hb := HW2.out
  have d0 := hk.cell 0
  have d1 := hk.cell 1
  have d2 := hk.cell 2
  have d3 := hk.cell 3
  have d4 := hk.cell 4
  have f0 := hk.fz
  simp only [List.getElem?_cons_succ, List.getElem?_cons_zero] at d0 d1 d2 d3 d4
  go_wp2_with fail
  refine bodyPost_ret (v := .tuple #[.agg #[.string ⟨#[]⟩, .string ⟨#[]⟩, .int .i64 0, .int .i64 0, .int .i64 0], .int .i64 190]) (by simp [results, Tryd.results25, go_sem, d0, d1, d2, d3, d4]) rfl (RLeaseP.same HR0.out ?_)
  (repeat (first | (with_reducible exact Below.refl _ _) | (with_reducible assumption) | (with_reducible refine Below.setCell ?_ ?_ _; rotate_left; focus (first | exact Nat.le_refl _ | (dsimp only; omega))) | (with_reducible refine Below.drew ?_) | (with_reducible refine below_drewN ?_ _) | (with_reducible refine Below.alloc ?_ ?_ _; rotate_left; focus (first | exact Nat.le_refl _ | (simp; done) | (simp; omega)))))

set_option maxRecDepth 100000 in
set_option maxHeartbeats 1600000 in
theorem racq_name (h : RAt r lb R w) (H : AcqH R p hd w) (hu : useB p = true) (hm : isNameB hd = false) :
    Calls Tryd.prog 25 #[.pointer (some ⟨r, 0, none⟩), .string p, .string hd, .int .i64 n] w (RLeaseP r lb w (R, zeroL, 191)) := by
  have hb0 := below_box w (.cells #[.string ⟨#[]⟩, .string ⟨#[]⟩, .int .i64 0, .int .i64 0, .int .i64 0] 26)
  have HC := Lib.hid (rcur_any r lb R p _ (h.below hb0))
  have HU : Hid (∀ W, Below w.heap.size w W → Calls Tryd.prog 10 #[.string p] W fun e w' => e = .returned (.bool (useB p)) ∧ Below W.heap.size W w') := fun W hW => usable_any p W (by have := H.p0; omega) (H.mx.below hW)
  have HN : Hid (∀ W, Calls Tryd.prog 43 #[.string hd] W fun e w' => e = .returned (.bool (isNameB hd)) ∧ Below W.heap.size W w') := fun W => rname_any hd W (by have := H.h0; unfold maxLen; omega)
  have HK := Lib.hid (zeroBlk w)
  have HR := Lib.hid (h.below hb0)
  have HR0 := Lib.hid h
  have HB0 := Lib.hid hb0
  have HH := Lib.hid H
  have hrl := h.rlt
  have hll := h.lt
  obtain ⟨ci, hci⟩ : ∃ ci, curI p R.log = ci := ⟨_, rfl⟩
  rw [hci] at HC
  clear hci h hb0
  go_enter Tryd.func25, Tryd.ntmps25
  go_wp2_with fail
  refine HC.out.mono ?_
  rintro e w1 ⟨rfl, hb1⟩
  have hk1 := HK.out.below hb1
  have hw1 := HB0.out.trans (hb1.mono HB0.out.size)
  have HW1 := Lib.hid hw1
  have HK1 := Lib.hid hk1
  clear hb1 hk1 hw1 HC
  go_wp2_with fail
  refine (HU.out _ HW1.out).mono ?_
  rw [hu]
  rintro e w2 ⟨rfl, hb2⟩
  have HW2 := Lib.hid (HW1.out.trans (hb2.mono HW1.out.size))
  have HK2 := Lib.hid (HK1.out.below hb2)
  clear hb2 HK1 HW1
  go_wp2_with fail
  refine (HN.out _).mono ?_
  rw [hm]
  rintro e w3 ⟨rfl, hb3⟩
  have HW3 := Lib.hid (HW2.out.trans (hb3.mono HW2.out.size))
  have HK3 := Lib.hid (HK2.out.below hb3)
  clear hb3 HK2 HW2
  have hk := HK3.out
  have hb := HW3.out
  have d0 := hk.cell 0
  have d1 := hk.cell 1
  have d2 := hk.cell 2
  have d3 := hk.cell 3
  have d4 := hk.cell 4
  have f0 := hk.fz
  simp only [List.getElem?_cons_succ, List.getElem?_cons_zero] at d0 d1 d2 d3 d4
  go_wp2_with fail
  refine bodyPost_ret (v := .tuple #[.agg #[.string ⟨#[]⟩, .string ⟨#[]⟩, .int .i64 0, .int .i64 0, .int .i64 0], .int .i64 191]) (by simp [results, Tryd.results25, go_sem, d0, d1, d2, d3, d4]) rfl (RLeaseP.same HR0.out ?_)
  (repeat (first | (with_reducible exact Below.refl _ _) | (with_reducible assumption) | (with_reducible refine Below.setCell ?_ ?_ _; rotate_left; focus (first | exact Nat.le_refl _ | (dsimp only; omega))) | (with_reducible refine Below.drew ?_) | (with_reducible refine below_drewN ?_ _) | (with_reducible refine Below.alloc ?_ ?_ _; rotate_left; focus (first | exact Nat.le_refl _ | (simp; done) | (simp; omega)))))

set_option maxRecDepth 100000 in
set_option maxHeartbeats 1600000 in
theorem racq_term (h : RAt r lb R w) (H : AcqH R p hd w) (hu : useB p = true) (hm : isNameB hd = true) (ht : isTermB n = false) :
    Calls Tryd.prog 25 #[.pointer (some ⟨r, 0, none⟩), .string p, .string hd, .int .i64 n] w (RLeaseP r lb w (R, zeroL, 192)) := by
  have hb0 := below_box w (.cells #[.string ⟨#[]⟩, .string ⟨#[]⟩, .int .i64 0, .int .i64 0, .int .i64 0] 26)
  have HC := Lib.hid (rcur_any r lb R p _ (h.below hb0))
  have HU : Hid (∀ W, Below w.heap.size w W → Calls Tryd.prog 10 #[.string p] W fun e w' => e = .returned (.bool (useB p)) ∧ Below W.heap.size W w') := fun W hW => usable_any p W (by have := H.p0; omega) (H.mx.below hW)
  have HN : Hid (∀ W, Calls Tryd.prog 43 #[.string hd] W fun e w' => e = .returned (.bool (isNameB hd)) ∧ Below W.heap.size W w') := fun W => rname_any hd W (by have := H.h0; unfold maxLen; omega)
  have HK := Lib.hid (zeroBlk w)
  have HR := Lib.hid (h.below hb0)
  have HR0 := Lib.hid h
  have HB0 := Lib.hid hb0
  have HH := Lib.hid H
  have hrl := h.rlt
  have hll := h.lt
  obtain ⟨ci, hci⟩ : ∃ ci, curI p R.log = ci := ⟨_, rfl⟩
  rw [hci] at HC
  clear hci h hb0
  have hh : (n < 1) ∨ (1 ≤ n ∧ 1048576 < n) := by
    unfold isTermB at ht
    by_cases h1 : n < 1
    · exact .inl h1
    · refine .inr ⟨by omega, ?_⟩
      rw [Bool.and_eq_false_iff] at ht
      rcases ht with ht | ht <;> rw [decide_eq_false_iff_not] at ht <;> omega
  clear ht
  rcases hh with h1 | ⟨h0, h1⟩
  · go_enter Tryd.func25, Tryd.ntmps25
    go_wp2_with fail
    refine HC.out.mono ?_
    rintro e w1 ⟨rfl, hb1⟩
    have hk1 := HK.out.below hb1
    have hw1 := HB0.out.trans (hb1.mono HB0.out.size)
    have HW1 := Lib.hid hw1
    have HK1 := Lib.hid hk1
    clear hb1 hk1 hw1 HC
    go_wp2_with fail
    refine (HU.out _ HW1.out).mono ?_
    rw [hu]
    rintro e w2 ⟨rfl, hb2⟩
    have HW2 := Lib.hid (HW1.out.trans (hb2.mono HW1.out.size))
    have HK2 := Lib.hid (HK1.out.below hb2)
    clear hb2 HK1 HW1
    go_wp2_with fail
    refine (HN.out _).mono ?_
    rw [hm]
    rintro e w3 ⟨rfl, hb3⟩
    have HW3 := Lib.hid (HW2.out.trans (hb3.mono HW2.out.size))
    have HK3 := Lib.hid (HK2.out.below hb3)
    clear hb3 HK2 HW2
    have hk := HK3.out
    have hb := HW3.out
    have d0 := hk.cell 0
    have d1 := hk.cell 1
    have d2 := hk.cell 2
    have d3 := hk.cell 3
    have d4 := hk.cell 4
    have f0 := hk.fz
    simp only [List.getElem?_cons_succ, List.getElem?_cons_zero] at d0 d1 d2 d3 d4
    go_wp2_with fail
    refine bodyPost_ret (v := .tuple #[.agg #[.string ⟨#[]⟩, .string ⟨#[]⟩, .int .i64 0, .int .i64 0, .int .i64 0], .int .i64 192]) (by simp [results, Tryd.results25, go_sem, d0, d1, d2, d3, d4]) rfl (RLeaseP.same HR0.out ?_)
    (repeat (first | (with_reducible exact Below.refl _ _) | (with_reducible assumption) | (with_reducible refine Below.setCell ?_ ?_ _; rotate_left; focus (first | exact Nat.le_refl _ | (dsimp only; omega))) | (with_reducible refine Below.drew ?_) | (with_reducible refine below_drewN ?_ _) | (with_reducible refine Below.alloc ?_ ?_ _; rotate_left; focus (first | exact Nat.le_refl _ | (simp; done) | (simp; omega)))))
  · go_enter Tryd.func25, Tryd.ntmps25
    go_wp2_with fail
    refine HC.out.mono ?_
    rintro e w1 ⟨rfl, hb1⟩
    have hk1 := HK.out.below hb1
    have hw1 := HB0.out.trans (hb1.mono HB0.out.size)
    have HW1 := Lib.hid hw1
    have HK1 := Lib.hid hk1
    clear hb1 hk1 hw1 HC
    go_wp2_with fail
    refine (HU.out _ HW1.out).mono ?_
    rw [hu]
    rintro e w2 ⟨rfl, hb2⟩
    have HW2 := Lib.hid (HW1.out.trans (hb2.mono HW1.out.size))
    have HK2 := Lib.hid (HK1.out.below hb2)
    clear hb2 HK1 HW1
    go_wp2_with fail
    refine (HN.out _).mono ?_
    rw [hm]
    rintro e w3 ⟨rfl, hb3⟩
    have HW3 := Lib.hid (HW2.out.trans (hb3.mono HW2.out.size))
    have HK3 := Lib.hid (HK2.out.below hb3)
    clear hb3 HK2 HW2
    have hk := HK3.out
    have hb := HW3.out
    have d0 := hk.cell 0
    have d1 := hk.cell 1
    have d2 := hk.cell 2
    have d3 := hk.cell 3
    have d4 := hk.cell 4
    have f0 := hk.fz
    simp only [List.getElem?_cons_succ, List.getElem?_cons_zero] at d0 d1 d2 d3 d4
    go_wp2_with fail
    refine bodyPost_ret (v := .tuple #[.agg #[.string ⟨#[]⟩, .string ⟨#[]⟩, .int .i64 0, .int .i64 0, .int .i64 0], .int .i64 192]) (by simp [results, Tryd.results25, go_sem, d0, d1, d2, d3, d4]) rfl (RLeaseP.same HR0.out ?_)
    (repeat (first | (with_reducible exact Below.refl _ _) | (with_reducible assumption) | (with_reducible refine Below.setCell ?_ ?_ _; rotate_left; focus (first | exact Nat.le_refl _ | (dsimp only; omega))) | (with_reducible refine Below.drew ?_) | (with_reducible refine below_drewN ?_ _) | (with_reducible refine Below.alloc ?_ ?_ _; rotate_left; focus (first | exact Nat.le_refl _ | (simp; done) | (simp; omega)))))

set_option maxRecDepth 100000 in
set_option maxHeartbeats 1600000 in
theorem racq_full (h : RAt r lb R w) (H : AcqH R p hd w) (hu : useB p = true) (hm : isNameB hd = true) (ht : isTermB n = true) (hc : rcur p R.log = none) (hf : 64 ≤ (curs R.log).length) :
    Calls Tryd.prog 25 #[.pointer (some ⟨r, 0, none⟩), .string p, .string hd, .int .i64 n] w (RLeaseP r lb w (R, zeroL, 195)) := by
  have hb0 := below_box w (.cells #[.string ⟨#[]⟩, .string ⟨#[]⟩, .int .i64 0, .int .i64 0, .int .i64 0] 26)
  have HC := Lib.hid (rcur_any r lb R p _ (h.below hb0))
  have HU : Hid (∀ W, Below w.heap.size w W → Calls Tryd.prog 10 #[.string p] W fun e w' => e = .returned (.bool (useB p)) ∧ Below W.heap.size W w') := fun W hW => usable_any p W (by have := H.p0; omega) (H.mx.below hW)
  have HN : Hid (∀ W, Calls Tryd.prog 43 #[.string hd] W fun e w' => e = .returned (.bool (isNameB hd)) ∧ Below W.heap.size W w') := fun W => rname_any hd W (by have := H.h0; unfold maxLen; omega)
  have HK := Lib.hid (zeroBlk w)
  have HR := Lib.hid (h.below hb0)
  have HR0 := Lib.hid h
  have HB0 := Lib.hid hb0
  have HH := Lib.hid H
  have hrl := h.rlt
  have hll := h.lt
  rw [curI_none hc] at HC
  clear hc h hb0
  have ht2 : 1 ≤ n ∧ n ≤ 1048576 := by simpa [isTermB] using ht
  obtain ⟨ht3, ht4⟩ := ht2
  clear ht
  go_enter Tryd.func25, Tryd.ntmps25
  go_wp2_with fail
  refine HC.out.mono ?_
  rintro e w1 ⟨rfl, hb1⟩
  have hk1 := HK.out.below hb1
  have hw1 := HB0.out.trans (hb1.mono HB0.out.size)
  have HW1 := Lib.hid hw1
  have HK1 := Lib.hid hk1
  clear hb1 hk1 hw1 HC
  go_wp2_with fail
  refine (HU.out _ HW1.out).mono ?_
  rw [hu]
  rintro e w2 ⟨rfl, hb2⟩
  have HW2 := Lib.hid (HW1.out.trans (hb2.mono HW1.out.size))
  have HK2 := Lib.hid (HK1.out.below hb2)
  clear hb2 HK1 HW1
  go_wp2_with fail
  refine (HN.out _).mono ?_
  rw [hm]
  rintro e w3 ⟨rfl, hb3⟩
  have HW3 := Lib.hid (HW2.out.trans (hb3.mono HW2.out.size))
  have HK3 := Lib.hid (HK2.out.below hb3)
  clear hb3 HK2 HW2
  go_wp2_with fail
  have hS : Below w3.heap.size w3 w3.drew := (Below.refl _ _).drew
  (refine wp_region_s (S := Below w3.heap.size w3) (by kernel_rfl) (by kernel_rfl) hS ?_; have hN : Nonempty (Held (Below w3.heap.size w3)) := ⟨⟨_, hS⟩⟩; skip; (repeat (go_big_quiet_step (fail))); refine wpQuiet_nil ?_; rintro x ⟨⟨_, hx⟩, rfl⟩; clear hN)
  have HW4 := Lib.hid (HW3.out.trans (hx.mono HW3.out.size))
  have HK4 := Lib.hid (HK3.out.below hx)
  clear hx hS HW3 HK3
  go_wp2_with fail
  have HA := Lib.hid (rall_any r lb R x (HR0.out.below HW4.out) (HH.out.mx.below HW4.out) HH.out.ps HH.out.ln)
  refine HA.out.mono ?_
  rintro e w5 ⟨S, A, cp, rfl, hSp, _, _, hb5⟩
  have hSl : S.length = (curs R.log).length := hSp.length_eq
  rw [hSl]
  have HW5 := Lib.hid (HW4.out.trans (hb5.mono HW4.out.size))
  have HK5 := Lib.hid (HK4.out.below hb5)
  clear hSp hb5 hSl HW4 HK4 HA
  have hk := HK5.out
  have hb := HW5.out
  have d0 := hk.cell 0
  have d1 := hk.cell 1
  have d2 := hk.cell 2
  have d3 := hk.cell 3
  have d4 := hk.cell 4
  have f0 := hk.fz
  simp only [List.getElem?_cons_succ, List.getElem?_cons_zero] at d0 d1 d2 d3 d4
  go_wp2_with fail
  refine bodyPost_ret (v := .tuple #[.agg #[.string ⟨#[]⟩, .string ⟨#[]⟩, .int .i64 0, .int .i64 0, .int .i64 0], .int .i64 195]) (by simp [results, Tryd.results25, go_sem, d0, d1, d2, d3, d4]) rfl (RLeaseP.same HR0.out ?_)
  (repeat (first | (with_reducible exact Below.refl _ _) | (with_reducible assumption) | (with_reducible refine Below.setCell ?_ ?_ _; rotate_left; focus (first | exact Nat.le_refl _ | (dsimp only; omega))) | (with_reducible refine Below.drew ?_) | (with_reducible refine below_drewN ?_ _) | (with_reducible refine Below.alloc ?_ ?_ _; rotate_left; focus (first | exact Nat.le_refl _ | (simp; done) | (simp; omega)))))

set_option maxRecDepth 100000 in
set_option maxHeartbeats 3200000 in
theorem racq_new (h : RAt r lb R w) (H : AcqH R p hd w) (hu : useB p = true) (hm : isNameB hd = true) (ht : isTermB n = true) (hc : rcur p R.log = none) (hf : (curs R.log).length < 64) :
    Calls Tryd.prog 25 #[.pointer (some ⟨r, 0, none⟩), .string p, .string hd, .int .i64 n] w (RLeaseP r lb w (⟨R.clk, R.log ++ [⟨p, hd, 1, R.clk, R.clk + n⟩]⟩, ⟨p, hd, 1, R.clk, R.clk + n⟩, 0)) := by
  have hb0 := below_box w (.cells #[.string ⟨#[]⟩, .string ⟨#[]⟩, .int .i64 0, .int .i64 0, .int .i64 0] 26)
  have HC := Lib.hid (rcur_any r lb R p _ (h.below hb0))
  have HU : Hid (∀ W, Below w.heap.size w W → Calls Tryd.prog 10 #[.string p] W fun e w' => e = .returned (.bool (useB p)) ∧ Below W.heap.size W w') := fun W hW => usable_any p W (by have := H.p0; omega) (H.mx.below hW)
  have HN : Hid (∀ W, Calls Tryd.prog 43 #[.string hd] W fun e w' => e = .returned (.bool (isNameB hd)) ∧ Below W.heap.size W w') := fun W => rname_any hd W (by have := H.h0; unfold maxLen; omega)
  have HK := Lib.hid (zeroBlk w)
  have HR := Lib.hid (h.below hb0)
  have HR0 := Lib.hid h
  have HB0 := Lib.hid hb0
  have HH := Lib.hid H
  have hrl := h.rlt
  have hll := h.lt
  rw [curI_none hc] at HC
  clear hc h hb0
  have ht2 : 1 ≤ n ∧ n ≤ 1048576 := by simpa [isTermB] using ht
  obtain ⟨ht3, ht4⟩ := ht2
  clear ht
  go_enter Tryd.func25, Tryd.ntmps25
  go_wp2_with fail
  refine HC.out.mono ?_
  rintro e w1 ⟨rfl, hb1⟩
  have hk1 := HK.out.below hb1
  have hw1 := HB0.out.trans (hb1.mono HB0.out.size)
  have HW1 := Lib.hid hw1
  have HK1 := Lib.hid hk1
  clear hb1 hk1 hw1 HC
  go_wp2_with fail
  refine (HU.out _ HW1.out).mono ?_
  rw [hu]
  rintro e w2 ⟨rfl, hb2⟩
  have HW2 := Lib.hid (HW1.out.trans (hb2.mono HW1.out.size))
  have HK2 := Lib.hid (HK1.out.below hb2)
  clear hb2 HK1 HW1
  go_wp2_with fail
  refine (HN.out _).mono ?_
  rw [hm]
  rintro e w3 ⟨rfl, hb3⟩
  have HW3 := Lib.hid (HW2.out.trans (hb3.mono HW2.out.size))
  have HK3 := Lib.hid (HK2.out.below hb3)
  clear hb3 HK2 HW2
  go_wp2_with fail
  have hS : Below w3.heap.size w3 w3.drew := (Below.refl _ _).drew
  (refine wp_region_s (S := Below w3.heap.size w3) (by kernel_rfl) (by kernel_rfl) hS ?_; have hN : Nonempty (Held (Below w3.heap.size w3)) := ⟨⟨_, hS⟩⟩; skip; (repeat (go_big_quiet_step (fail))); refine wpQuiet_nil ?_; rintro x ⟨⟨_, hx⟩, rfl⟩; clear hN)
  have HW4 := Lib.hid (HW3.out.trans (hx.mono HW3.out.size))
  have HK4 := Lib.hid (HK3.out.below hx)
  clear hx hS HW3 HK3
  go_wp2_with fail
  have HA := Lib.hid (rall_any r lb R x (HR0.out.below HW4.out) (HH.out.mx.below HW4.out) HH.out.ps HH.out.ln)
  refine HA.out.mono ?_
  rintro e w5 ⟨S, A0, cp, rfl, hSp, _, _, hb5⟩
  have hSl : S.length = (curs R.log).length := hSp.length_eq
  rw [hSl]
  have HW5 := Lib.hid (HW4.out.trans (hb5.mono HW4.out.size))
  have HK5 := Lib.hid (HK4.out.below hb5)
  clear hSp hb5 hSl HW4 HK4 HA
  obtain ⟨A, cap, c0, c1, f0, f1⟩ := (HR0.out.below HW5.out).tab
  have hwa : IntKind.i64.wrap (R.clk + n) = R.clk + n := IntWalk.i64_in _ (by have := HH.out.g0; have := HH.out.g1; omega)
  have hr5 : r < w5.heap.size := Nat.lt_of_lt_of_le hrl HW5.out.size
  have hl5 : lb < w5.heap.size := Nat.lt_of_lt_of_le hll HW5.out.size
  have hw5 : w.heap.size < w5.heap.size := HK5.out.lt
  go_wp2_with fail
  go_region
  have hB0 : Below w5.heap.size w5 (w5.alloc (.cells #[.string p, .string hd, .int .i64 1, .int .i64 R.clk, .int .i64 (R.clk + n)] 26)).drew := ((Below.refl _ _).alloc (Nat.le_refl _) _).drew
  have HKB : Hid (Blk w5.heap.size 26 [.string p, .string hd, .int .i64 1, .int .i64 R.clk, .int .i64 (R.clk + n)] (w5.alloc (.cells #[.string p, .string hd, .int .i64 1, .int .i64 R.clk, .int .i64 (R.clk + n)] 26)).drew) := (Blk.new w5 26 [.string p, .string hd, .int .i64 1, .int .i64 R.clk, .int .i64 (R.clk + n)]).drew
  have HK6 := Lib.hid (HK5.out.below hB0)
  have HW6 := Lib.hid (HW5.out.trans (hB0.mono HW5.out.size))
  clear hB0 c0 c1 f0 f1
  generalize (w5.alloc (.cells #[.string p, .string hd, .int .i64 1, .int .i64 R.clk, .int .i64 (R.clk + n)] 26)).drew = x6 at *
  generalize w5.heap.size = B at *
  obtain ⟨hl6, A1, cap1, hb6, hlog6⟩ := HR0.out.below HW6.out
  have HLG := Lib.hid hlog6
  have hle6 := hlog6.le
  have hln6 := HH.out.ln
  have hS : Blk r 48 [.int .i64 R.clk, .slice A1 R.log.length cap1] x6.drew ∧ Blk B 26 [.string p, .string hd, .int .i64 1, .int .i64 R.clk, .int .i64 (R.clk + n)] x6.drew := ⟨hb6, HKB.out⟩
  obtain ⟨i0, hi0, hz0, hz1, hz2⟩ := info_parts Tryd.infoLease
  have hB6 := HKB.out.lt
  clear hb6 hlog6
  go_wp2_with fail
  (refine wp_region_mixz (S := fun y => Blk r 48 [.int .i64 R.clk, .slice A1 R.log.length cap1] y ∧ Blk B 26 [.string p, .string hd, .int .i64 1, .int .i64 R.clk, .int .i64 (R.clk + n)] y) [8, 9] 10 [([0, 1, 2, 3, 4, 5], 6), ([], 7)] (by kernel_rfl) (by kernel_rfl) (by intro c a d v w h; cases d <;> exact h) hS ?_; have hN : Nonempty (Held (fun y => Blk r 48 [.int .i64 R.clk, .slice A1 R.log.length cap1] y ∧ Blk B 26 [.string p, .string hd, .int .i64 1, .int .i64 R.clk, .int .i64 (R.clk + n)] y)) := ⟨⟨_, hS⟩⟩)
  have q1 : ∀ y : Held (fun y => Blk r 48 [.int .i64 R.clk, .slice A1 R.log.length cap1] y ∧ Blk B 26 [.string p, .string hd, .int .i64 1, .int .i64 R.clk, .int .i64 (R.clk + n)] y), y.w.cell? ⟨r, 1, none⟩ = some (.slice A1 R.log.length cap1) := fun y => y.ok.1.cell 1
  have e0 : ∀ y : Held (fun y => Blk r 48 [.int .i64 R.clk, .slice A1 R.log.length cap1] y ∧ Blk B 26 [.string p, .string hd, .int .i64 1, .int .i64 R.clk, .int .i64 (R.clk + n)] y), y.w.cell? ⟨B, 0, none⟩ = some (.string p) := fun y => y.ok.2.cell 0
  have e1 : ∀ y : Held (fun y => Blk r 48 [.int .i64 R.clk, .slice A1 R.log.length cap1] y ∧ Blk B 26 [.string p, .string hd, .int .i64 1, .int .i64 R.clk, .int .i64 (R.clk + n)] y), y.w.cell? ⟨B, 1, none⟩ = some (.string hd) := fun y => y.ok.2.cell 1
  have e2 : ∀ y : Held (fun y => Blk r 48 [.int .i64 R.clk, .slice A1 R.log.length cap1] y ∧ Blk B 26 [.string p, .string hd, .int .i64 1, .int .i64 R.clk, .int .i64 (R.clk + n)] y), y.w.cell? ⟨B, 2, none⟩ = some (.int .i64 1) := fun y => y.ok.2.cell 2
  have e3 : ∀ y : Held (fun y => Blk r 48 [.int .i64 R.clk, .slice A1 R.log.length cap1] y ∧ Blk B 26 [.string p, .string hd, .int .i64 1, .int .i64 R.clk, .int .i64 (R.clk + n)] y), y.w.cell? ⟨B, 3, none⟩ = some (.int .i64 R.clk) := fun y => y.ok.2.cell 3
  have e4 : ∀ y : Held (fun y => Blk r 48 [.int .i64 R.clk, .slice A1 R.log.length cap1] y ∧ Blk B 26 [.string p, .string hd, .int .i64 1, .int .i64 R.clk, .int .i64 (R.clk + n)] y), y.w.cell? ⟨B, 4, none⟩ = some (.int .i64 (R.clk + n)) := fun y => y.ok.2.cell 4
  (unfold wpMixZ wpRd; (repeat (first | simp only [List.filterMap_cons] | simp only [List.filterMap_nil] | simp only [List.getElem?_toArray] | simp only [List.getElem?_cons_zero] | simp only [List.getElem?_cons_succ])); (try dsimp only); change wpQuiet _ _ _ _ (_ :: _ :: _ :: _ :: _ :: _ :: []) _; (repeat (go_big_quiet_step (fail))); refine wpQuiet_nil ?_; (try dsimp only))
  clear q1 e0 e1 e2 e3 e4
  go_wp2_with fail
  have hLL := Lib.hid (lit_leases x6.drew ⟨p, hd, 1, R.clk, R.clk + n⟩)
  have hrow := Lib.hid ((HLG.out.of (w' := x6.drew) rfl).row.alloc (.cells #[.string p, .string hd, .int .i64 1, .int .i64 R.clk, .int .i64 (R.clk + n)] 26))
  have HLG2 := Lib.hid (HLG.out.of (w' := x6.drew.alloc (.cells #[.string p, .string hd, .int .i64 1, .int .i64 R.clk, .int .i64 (R.clk + n)] 26)) (Below.heap_alloc x6.drew _ lb hl6))
  have hS2 : Blk r 48 [.int .i64 R.clk, .slice A1 R.log.length cap1] (x6.drew.alloc (.cells #[.string p, .string hd, .int .i64 1, .int .i64 R.clk, .int .i64 (R.clk + n)] 26)) ∧ Blk B 26 [.string p, .string hd, .int .i64 1, .int .i64 R.clk, .int .i64 (R.clk + n)] (x6.drew.alloc (.cells #[.string p, .string hd, .int .i64 1, .int .i64 R.clk, .int .i64 (R.clk + n)] 26)) := ⟨hS.1.alloc _, hS.2.alloc _⟩
  refine ⟨hS2, ?_⟩
  (unfold wpMixZ wpRd; (repeat (first | simp only [List.filterMap_cons] | simp only [List.filterMap_nil] | simp only [List.getElem?_toArray] | simp only [List.getElem?_cons_zero] | simp only [List.getElem?_cons_succ])); (try dsimp only); change wpQuiet _ _ _ _ ([]) _; (repeat (go_big_quiet_step (fail))); refine wpQuiet_nil ?_; (try dsimp only))
  go_wp2_with (at_builtin; refine wpList_append_own_at _ rfl _ _ 46 rfl 0 26 i0 (.agg #[.string ⟨#[]⟩, .string ⟨#[]⟩, .int .i64 0, .int .i64 0, .int .i64 0]) 5 56 Tryd.underlying46 hi0 hz0 hz1 hz2 rfl (by decide) _ _ _ rfl hrow.out ⟨x6.heap.size, 0, none⟩ 1 1 (Lease.cells ⟨p, hd, 1, R.clk, R.clk + n⟩) rfl rfl hLL.out.1 hLL.out.2 (by unfold maxLen; omega) (by omega) (Nat.zero_le _) ?_; intro v2 w7 ho7 hg7 _ hat7)
  obtain ⟨lb', cap', rfl, hlt7, hor7, hne7, hlog7⟩ := HLG2.out.grew (M := [⟨p, hd, 1, R.clk, R.clk + n⟩]) ho7 (by simp) hat7 (by simp; omega) (by simp; omega)
  have hown := HLG2.out.own
  have hne : (Value.slice A1 R.log.length cap1).ownBlock ≠ some r ∧ (Value.slice A1 R.log.length cap1).ownBlock ≠ some B ∧ (Value.slice A1 R.log.length cap1).ownBlock ≠ some w.heap.size := by
    rcases hown with e | ⟨e, hn⟩
    · rw [e]; exact ⟨by simp, by simp, by simp⟩
    · rw [e]; exact ⟨fun h => hn (by injection h), fun h => absurd (by injection h) (Nat.ne_of_lt hl5), fun h => absurd (by injection h) (Nat.ne_of_lt hll)⟩
  have hb7 := hS2.1.grown hg7 hne.1
  have hB7 := hS2.2.grown hg7 hne.2.1
  have hk7 := ((HK6.out.drew).alloc (.cells #[.string p, .string hd, .int .i64 1, .int .i64 R.clk, .int .i64 (R.clk + n)] 26)).grown hg7 hne.2.2
  have HO7 := Lib.hid (onlyG (((Only.of_below (b := r) (m := lb) HW6.out).drew).alloc (.cells #[.string p, .string hd, .int .i64 1, .int .i64 R.clk, .int .i64 (R.clk + n)] 26)) (hown.imp id (fun h => h.1)) hg7)
  have HLG7 := Lib.hid hlog7
  refine ⟨⟨hb7, hB7⟩, ?_⟩
  simp only [Act.put, List.setIfInBounds_toArray, List.set_cons_succ, List.set_cons_zero]
  (unfold wpMixZ wpRd; (repeat (first | simp only [List.filterMap_cons] | simp only [List.filterMap_nil] | simp only [List.getElem?_toArray] | simp only [List.getElem?_cons_zero] | simp only [List.getElem?_cons_succ])); (try dsimp only); change wpQuiet _ _ _ _ (_ :: _ :: []) _; (repeat (go_big_quiet_step (fail))); refine wpQuiet_nil ?_; (try dsimp only))
  have c1 := hb7.cell 1
  have g1 := hb7.fz 1
  have e0 := hB7.cell 0
  have e1 := hB7.cell 1
  have e2 := hB7.cell 2
  have e3 := hB7.cell 3
  have e4 := hB7.cell 4
  have d0 := hk7.cell 0
  have d1 := hk7.cell 1
  have d2 := hk7.cell 2
  have d3 := hk7.cell 3
  have d4 := hk7.cell 4
  have f0 := hk7.fz
  simp only [List.getElem?_cons_succ, List.getElem?_cons_zero] at c1 e0 e1 e2 e3 e4 d0 d1 d2 d3 d4
  have hR7 : RAt r lb' ⟨R.clk, R.log ++ [⟨p, hd, 1, R.clk, R.clk + n⟩]⟩ (w7.setCell ⟨r, 1, none⟩ (.slice (some ⟨lb', 0, none⟩) (R.log.length + 1) cap')) := by
    refine ⟨by simpa [World.setCell] using hlt7, some ⟨lb', 0, none⟩, cap', ?_, hlog7.of (Below.heap_setCell w7 _ _ lb' hne7)⟩
    have := hb7.set 1 (.slice (some ⟨lb', 0, none⟩) (R.log.length + 1) cap')
    simpa using this
  have HR7 := Lib.hid hR7
  have hlw : lb' ≠ w.heap.size := by
    rcases hor7 with e | e
    · omega
    · rw [e]; simp; omega
  have hrw : r ≠ w.heap.size := by omega
  have hor : lb' = lb ∨ w.heap.size ≤ lb' := by
    rcases hor7 with e | e
    · exact .inl e
    · refine .inr ?_
      rw [e]; simp; omega
  have hrB : r ≠ B := by omega
  clear hN hat7 hg7 ho7 hown hne hS2 hS hlog7 hR7 hor7 hb7 hB7 hk7
  go_wp2_with fail
  refine bodyPost_ret (v := .tuple #[.agg #[.string p, .string hd, .int .i64 1, .int .i64 R.clk, .int .i64 (R.clk + n)], .int .i64 0]) (by simp [results, Tryd.results25, go_sem, d0, d1, d2, d3, d4]) rfl ⟨lb', rfl, ?_, ?_, hor⟩
  · exact ((((HR7.out.far hrw hlw _).far hrw hlw _).far hrw hlw _).far hrw hlw _).far hrw hlw _
  · exact (((((HO7.out.setCell _ _).far (Nat.le_refl _) _).far (Nat.le_refl _) _).far (Nat.le_refl _) _).far (Nat.le_refl _) _).far (Nat.le_refl _) _

set_option maxRecDepth 100000 in
set_option maxHeartbeats 1600000 in
theorem racq_held (h : RAt r lb R w) (H : AcqH R p hd w) {i : Nat} {l : Lease} (hu : useB p = true) (hm : isNameB hd = true) (ht : isTermB n = true) (hc : rcur p R.log = some i) (hl : rlk R.log p = some l) (hv : hNow R.clk l.since l.til = true) :
    Calls Tryd.prog 25 #[.pointer (some ⟨r, 0, none⟩), .string p, .string hd, .int .i64 n] w (RLeaseP r lb w (R, zeroL, 193)) := by
  have hb0 := below_box w (.cells #[.string ⟨#[]⟩, .string ⟨#[]⟩, .int .i64 0, .int .i64 0, .int .i64 0] 26)
  have HC := Lib.hid (rcur_any r lb R p _ (h.below hb0))
  have HU : Hid (∀ W, Below w.heap.size w W → Calls Tryd.prog 10 #[.string p] W fun e w' => e = .returned (.bool (useB p)) ∧ Below W.heap.size W w') := fun W hW => usable_any p W (by have := H.p0; omega) (H.mx.below hW)
  have HN : Hid (∀ W, Calls Tryd.prog 43 #[.string hd] W fun e w' => e = .returned (.bool (isNameB hd)) ∧ Below W.heap.size W w') := fun W => rname_any hd W (by have := H.h0; unfold maxLen; omega)
  have HK := Lib.hid (zeroBlk w)
  have HR := Lib.hid (h.below hb0)
  have HR0 := Lib.hid h
  have HB0 := Lib.hid hb0
  have HH := Lib.hid H
  have hrl := h.rlt
  have hll := h.lt
  obtain ⟨x, cap, hx, hcu, _⟩ := h.cur hc
  rw [curI_some hc] at HC
  have hilt := rcur_lt hc
  have hxm := (rlk_path hx).2
  obtain rfl : x = l := by rw [hx] at hl; injection hl
  obtain ⟨lp, lh, lf, ls, lu⟩ := x
  dsimp only at hv ⊢
  have HHL := Lib.hid (fun w => rholds_any ⟨lp, lh, lf, ls, lu⟩ R.clk w)
  unfold Lease.val at HHL
  dsimp only at HHL
  rw [hv] at HHL
  have HCU := Lib.hid hcu
  have hf1 := H.f0 _ hxm
  dsimp only at hf1
  have hi0 : decide ((i : Int) < 0) = false := decide_eq_false (by omega)
  have hi1 : ¬ ((i : Int) < 0) := by omega
  have hi2 : (0 : Int) ≤ (i : Int) := by omega
  clear hc hcu hx hl hxm hv h hb0
  have ht2 : 1 ≤ n ∧ n ≤ 1048576 := by simpa [isTermB] using ht
  obtain ⟨ht3, ht4⟩ := ht2
  clear ht
  go_enter Tryd.func25, Tryd.ntmps25
  go_wp2_with fail
  refine HC.out.mono ?_
  rintro e w1 ⟨rfl, hb1⟩
  have hk1 := HK.out.below hb1
  have hw1 := HB0.out.trans (hb1.mono HB0.out.size)
  have HW1 := Lib.hid hw1
  have HK1 := Lib.hid hk1
  clear hb1 hk1 hw1 HC
  go_wp2_with fail
  refine (HU.out _ HW1.out).mono ?_
  rw [hu]
  rintro e w2 ⟨rfl, hb2⟩
  have HW2 := Lib.hid (HW1.out.trans (hb2.mono HW1.out.size))
  have HK2 := Lib.hid (HK1.out.below hb2)
  clear hb2 HK1 HW1
  go_wp2_with fail
  refine (HN.out _).mono ?_
  rw [hm]
  rintro e w3 ⟨rfl, hb3⟩
  have HW3 := Lib.hid (HW2.out.trans (hb3.mono HW2.out.size))
  have HK3 := Lib.hid (HK2.out.below hb3)
  clear hb3 HK2 HW2
  go_wp2_with fail
  have hS : Below w3.heap.size w3 w3.drew := (Below.refl _ _).drew
  have HQ := Lib.hid (hcu_facts HCU.out hrl hll HW3.out)
  (refine wp_region_s (S := Below w3.heap.size w3) (by kernel_rfl) (by kernel_rfl) hS ?_; have hN : Nonempty (Held (Below w3.heap.size w3)) := ⟨⟨_, hS⟩⟩; (obtain ⟨⟨c0, c1⟩, q0, q1, q2, q3, q4⟩ := HQ.out); (repeat (go_big_quiet_step ((go_at_call 13; exact held_keep (HHL.out _))))); refine wpQuiet_nil ?_; rintro x ⟨⟨_, hx⟩, rfl⟩; clear hN)
  clear c0 c1 q0 q1 q2 q3 q4
  have c1 : x.cell? ⟨r, 1, none⟩ = some (.slice (some ⟨lb, 0, none⟩) R.log.length cap) := HQ.out.1.2 ⟨x, hx⟩
  have q2 : x.cell? ⟨lb, i * 5 + 2, none⟩ = some (.int .i64 lf) := HQ.out.2.2.2.1 ⟨x, hx⟩
  have HW4 := Lib.hid (HW3.out.trans (hx.mono HW3.out.size))
  have HK4 := Lib.hid (HK3.out.below hx)
  clear hx hS HW3 HK3
  have hk := HK4.out
  have hb := HW4.out
  have d0 := hk.cell 0
  have d1 := hk.cell 1
  have d2 := hk.cell 2
  have d3 := hk.cell 3
  have d4 := hk.cell 4
  have f0 := hk.fz
  simp only [List.getElem?_cons_succ, List.getElem?_cons_zero] at d0 d1 d2 d3 d4
  go_wp2_with fail
  refine bodyPost_ret (v := .tuple #[.agg #[.string ⟨#[]⟩, .string ⟨#[]⟩, .int .i64 0, .int .i64 0, .int .i64 0], .int .i64 193]) (by simp [results, Tryd.results25, go_sem, d0, d1, d2, d3, d4]) rfl (RLeaseP.same HR0.out ?_)
  (repeat (first | (with_reducible exact Below.refl _ _) | (with_reducible assumption) | (with_reducible refine Below.setCell ?_ ?_ _; rotate_left; focus (first | exact Nat.le_refl _ | (dsimp only; omega))) | (with_reducible refine Below.drew ?_) | (with_reducible refine below_drewN ?_ _) | (with_reducible refine Below.alloc ?_ ?_ _; rotate_left; focus (first | exact Nat.le_refl _ | (simp; done) | (simp; omega)))))

set_option maxRecDepth 100000 in
set_option maxHeartbeats 1600000 in
theorem racq_limit (h : RAt r lb R w) (H : AcqH R p hd w) {i : Nat} {l : Lease} (hu : useB p = true) (hm : isNameB hd = true) (ht : isTermB n = true) (hc : rcur p R.log = some i) (hl : rlk R.log p = some l) (hv : hNow R.clk l.since l.til = false) (hf : 1073741824 ≤ l.fence) :
    Calls Tryd.prog 25 #[.pointer (some ⟨r, 0, none⟩), .string p, .string hd, .int .i64 n] w (RLeaseP r lb w (R, zeroL, 195)) := by
  have hb0 := below_box w (.cells #[.string ⟨#[]⟩, .string ⟨#[]⟩, .int .i64 0, .int .i64 0, .int .i64 0] 26)
  have HC := Lib.hid (rcur_any r lb R p _ (h.below hb0))
  have HU : Hid (∀ W, Below w.heap.size w W → Calls Tryd.prog 10 #[.string p] W fun e w' => e = .returned (.bool (useB p)) ∧ Below W.heap.size W w') := fun W hW => usable_any p W (by have := H.p0; omega) (H.mx.below hW)
  have HN : Hid (∀ W, Calls Tryd.prog 43 #[.string hd] W fun e w' => e = .returned (.bool (isNameB hd)) ∧ Below W.heap.size W w') := fun W => rname_any hd W (by have := H.h0; unfold maxLen; omega)
  have HK := Lib.hid (zeroBlk w)
  have HR := Lib.hid (h.below hb0)
  have HR0 := Lib.hid h
  have HB0 := Lib.hid hb0
  have HH := Lib.hid H
  have hrl := h.rlt
  have hll := h.lt
  obtain ⟨x, cap, hx, hcu, _⟩ := h.cur hc
  rw [curI_some hc] at HC
  have hilt := rcur_lt hc
  have hxm := (rlk_path hx).2
  obtain rfl : x = l := by rw [hx] at hl; injection hl
  obtain ⟨lp, lh, lf, ls, lu⟩ := x
  dsimp only at hv hf ⊢
  have HHL := Lib.hid (fun w => rholds_any ⟨lp, lh, lf, ls, lu⟩ R.clk w)
  unfold Lease.val at HHL
  dsimp only at HHL
  rw [hv] at HHL
  have HCU := Lib.hid hcu
  have hf1 := H.f0 _ hxm
  dsimp only at hf1
  have hi0 : decide ((i : Int) < 0) = false := decide_eq_false (by omega)
  have hi1 : ¬ ((i : Int) < 0) := by omega
  have hi2 : (0 : Int) ≤ (i : Int) := by omega
  clear hc hcu hx hl hxm hv h hb0
  have ht2 : 1 ≤ n ∧ n ≤ 1048576 := by simpa [isTermB] using ht
  obtain ⟨ht3, ht4⟩ := ht2
  clear ht
  go_enter Tryd.func25, Tryd.ntmps25
  go_wp2_with fail
  refine HC.out.mono ?_
  rintro e w1 ⟨rfl, hb1⟩
  have hk1 := HK.out.below hb1
  have hw1 := HB0.out.trans (hb1.mono HB0.out.size)
  have HW1 := Lib.hid hw1
  have HK1 := Lib.hid hk1
  clear hb1 hk1 hw1 HC
  go_wp2_with fail
  refine (HU.out _ HW1.out).mono ?_
  rw [hu]
  rintro e w2 ⟨rfl, hb2⟩
  have HW2 := Lib.hid (HW1.out.trans (hb2.mono HW1.out.size))
  have HK2 := Lib.hid (HK1.out.below hb2)
  clear hb2 HK1 HW1
  go_wp2_with fail
  refine (HN.out _).mono ?_
  rw [hm]
  rintro e w3 ⟨rfl, hb3⟩
  have HW3 := Lib.hid (HW2.out.trans (hb3.mono HW2.out.size))
  have HK3 := Lib.hid (HK2.out.below hb3)
  clear hb3 HK2 HW2
  go_wp2_with fail
  have hS : Below w3.heap.size w3 w3.drew := (Below.refl _ _).drew
  have HQ := Lib.hid (hcu_facts HCU.out hrl hll HW3.out)
  (refine wp_region_s (S := Below w3.heap.size w3) (by kernel_rfl) (by kernel_rfl) hS ?_; have hN : Nonempty (Held (Below w3.heap.size w3)) := ⟨⟨_, hS⟩⟩; (obtain ⟨⟨c0, c1⟩, q0, q1, q2, q3, q4⟩ := HQ.out); (repeat (go_big_quiet_step ((go_at_call 13; exact held_keep (HHL.out _))))); refine wpQuiet_nil ?_; rintro x ⟨⟨_, hx⟩, rfl⟩; clear hN)
  clear c0 c1 q0 q1 q2 q3 q4
  have c1 : x.cell? ⟨r, 1, none⟩ = some (.slice (some ⟨lb, 0, none⟩) R.log.length cap) := HQ.out.1.2 ⟨x, hx⟩
  have q2 : x.cell? ⟨lb, i * 5 + 2, none⟩ = some (.int .i64 lf) := HQ.out.2.2.2.1 ⟨x, hx⟩
  have HW4 := Lib.hid (HW3.out.trans (hx.mono HW3.out.size))
  have HK4 := Lib.hid (HK3.out.below hx)
  clear hx hS HW3 HK3
  have hk := HK4.out
  have hb := HW4.out
  have d0 := hk.cell 0
  have d1 := hk.cell 1
  have d2 := hk.cell 2
  have d3 := hk.cell 3
  have d4 := hk.cell 4
  have f0 := hk.fz
  simp only [List.getElem?_cons_succ, List.getElem?_cons_zero] at d0 d1 d2 d3 d4
  go_wp2_with fail
  refine bodyPost_ret (v := .tuple #[.agg #[.string ⟨#[]⟩, .string ⟨#[]⟩, .int .i64 0, .int .i64 0, .int .i64 0], .int .i64 195]) (by simp [results, Tryd.results25, go_sem, d0, d1, d2, d3, d4]) rfl (RLeaseP.same HR0.out ?_)
  (repeat (first | (with_reducible exact Below.refl _ _) | (with_reducible assumption) | (with_reducible refine Below.setCell ?_ ?_ _; rotate_left; focus (first | exact Nat.le_refl _ | (dsimp only; omega))) | (with_reducible refine Below.drew ?_) | (with_reducible refine below_drewN ?_ _) | (with_reducible refine Below.alloc ?_ ?_ _; rotate_left; focus (first | exact Nat.le_refl _ | (simp; done) | (simp; omega)))))

set_option maxRecDepth 100000 in
set_option maxHeartbeats 3200000 in
theorem racq_next (h : RAt r lb R w) (H : AcqH R p hd w) {i : Nat} {l : Lease} (hu : useB p = true) (hm : isNameB hd = true) (ht : isTermB n = true) (hc : rcur p R.log = some i) (hl : rlk R.log p = some l) (hv : hNow R.clk l.since l.til = false) (hf : l.fence < 1073741824) :
    Calls Tryd.prog 25 #[.pointer (some ⟨r, 0, none⟩), .string p, .string hd, .int .i64 n] w (RLeaseP r lb w (⟨R.clk, R.log ++ [⟨p, hd, l.fence + 1, R.clk, R.clk + n⟩]⟩, ⟨p, hd, l.fence + 1, R.clk, R.clk + n⟩, 0)) := by
  have hb0 := below_box w (.cells #[.string ⟨#[]⟩, .string ⟨#[]⟩, .int .i64 0, .int .i64 0, .int .i64 0] 26)
  have HC := Lib.hid (rcur_any r lb R p _ (h.below hb0))
  have HU : Hid (∀ W, Below w.heap.size w W → Calls Tryd.prog 10 #[.string p] W fun e w' => e = .returned (.bool (useB p)) ∧ Below W.heap.size W w') := fun W hW => usable_any p W (by have := H.p0; omega) (H.mx.below hW)
  have HN : Hid (∀ W, Calls Tryd.prog 43 #[.string hd] W fun e w' => e = .returned (.bool (isNameB hd)) ∧ Below W.heap.size W w') := fun W => rname_any hd W (by have := H.h0; unfold maxLen; omega)
  have HK := Lib.hid (zeroBlk w)
  have HR := Lib.hid (h.below hb0)
  have HR0 := Lib.hid h
  have HB0 := Lib.hid hb0
  have HH := Lib.hid H
  have hrl := h.rlt
  have hll := h.lt
  obtain ⟨x, cap, hx, hcu, _⟩ := h.cur hc
  rw [curI_some hc] at HC
  have hilt := rcur_lt hc
  have hxm := (rlk_path hx).2
  obtain rfl : x = l := by rw [hx] at hl; injection hl
  obtain ⟨lp, lh, lf, ls, lu⟩ := x
  dsimp only at hv hf ⊢
  have HHL := Lib.hid (fun w => rholds_any ⟨lp, lh, lf, ls, lu⟩ R.clk w)
  unfold Lease.val at HHL
  dsimp only at HHL
  rw [hv] at HHL
  have HCU := Lib.hid hcu
  have hf1 := H.f0 _ hxm
  dsimp only at hf1
  have hi0 : decide ((i : Int) < 0) = false := decide_eq_false (by omega)
  have hi1 : ¬ ((i : Int) < 0) := by omega
  have hi2 : (0 : Int) ≤ (i : Int) := by omega
  clear hc hcu hx hl hxm hv h hb0
  have ht2 : 1 ≤ n ∧ n ≤ 1048576 := by simpa [isTermB] using ht
  obtain ⟨ht3, ht4⟩ := ht2
  clear ht
  have HQ2 : Hid (∀ y, Below w.heap.size w y → y.cell? ⟨r, 1, none⟩ = some (.slice (some ⟨lb, 0, none⟩) R.log.length cap) ∧ y.cell? ⟨lb, i * 5 + 2, none⟩ = some (.int .i64 lf)) := fun y hy => ⟨(hcu_facts HCU.out hrl hll hy).1.2 ⟨y, Below.refl _ _⟩, (hcu_facts HCU.out hrl hll hy).2.2.2.1 ⟨y, Below.refl _ _⟩⟩
  go_enter Tryd.func25, Tryd.ntmps25
  go_wp2_with fail
  refine HC.out.mono ?_
  rintro e w1 ⟨rfl, hb1⟩
  have hk1 := HK.out.below hb1
  have hw1 := HB0.out.trans (hb1.mono HB0.out.size)
  have HW1 := Lib.hid hw1
  have HK1 := Lib.hid hk1
  clear hb1 hk1 hw1 HC
  go_wp2_with fail
  refine (HU.out _ HW1.out).mono ?_
  rw [hu]
  rintro e w2 ⟨rfl, hb2⟩
  have HW2 := Lib.hid (HW1.out.trans (hb2.mono HW1.out.size))
  have HK2 := Lib.hid (HK1.out.below hb2)
  clear hb2 HK1 HW1
  go_wp2_with fail
  refine (HN.out _).mono ?_
  rw [hm]
  rintro e w3 ⟨rfl, hb3⟩
  have HW3 := Lib.hid (HW2.out.trans (hb3.mono HW2.out.size))
  have HK3 := Lib.hid (HK2.out.below hb3)
  clear hb3 HK2 HW2
  go_wp2_with fail
  have hS : Below w3.heap.size w3 w3.drew := (Below.refl _ _).drew
  have HQ := Lib.hid (hcu_facts HCU.out hrl hll HW3.out)
  (refine wp_region_s (S := Below w3.heap.size w3) (by kernel_rfl) (by kernel_rfl) hS ?_; have hN : Nonempty (Held (Below w3.heap.size w3)) := ⟨⟨_, hS⟩⟩; (obtain ⟨⟨c0, c1⟩, q0, q1, q2, q3, q4⟩ := HQ.out); (repeat (go_big_quiet_step ((go_at_call 13; exact held_keep (HHL.out _))))); refine wpQuiet_nil ?_; rintro x ⟨⟨_, hx⟩, rfl⟩; clear hN)
  clear c0 c1 q0 q1 q2 q3 q4
  have c1 : x.cell? ⟨r, 1, none⟩ = some (.slice (some ⟨lb, 0, none⟩) R.log.length cap) := HQ.out.1.2 ⟨x, hx⟩
  have q2 : x.cell? ⟨lb, i * 5 + 2, none⟩ = some (.int .i64 lf) := HQ.out.2.2.2.1 ⟨x, hx⟩
  have HW4 := Lib.hid (HW3.out.trans (hx.mono HW3.out.size))
  have HK4 := Lib.hid (HK3.out.below hx)
  clear hx hS HW3 HK3
  go_wp2_with fail
  obtain ⟨A, cap0, c0, c10, f0, f1⟩ := (HR0.out.below HW4.out).tab
  have hwa : IntKind.i64.wrap (R.clk + n) = R.clk + n := IntWalk.i64_in _ (by have := HH.out.g0; have := HH.out.g1; omega)
  have hr5 : r < x.heap.size := Nat.lt_of_lt_of_le hrl HW4.out.size
  have hl5 : lb < x.heap.size := Nat.lt_of_lt_of_le hll HW4.out.size
  have hw5 : w.heap.size < x.heap.size := HK4.out.lt
  go_wp2_with fail
  go_region
  have hB0 : Below x.heap.size x (x.alloc (.cells #[.string p, .string hd, .int .i64 1, .int .i64 R.clk, .int .i64 (R.clk + n)] 26)).drew := ((Below.refl _ _).alloc (Nat.le_refl _) _).drew
  have HKB : Hid (Blk x.heap.size 26 [.string p, .string hd, .int .i64 1, .int .i64 R.clk, .int .i64 (R.clk + n)] (x.alloc (.cells #[.string p, .string hd, .int .i64 1, .int .i64 R.clk, .int .i64 (R.clk + n)] 26)).drew) := (Blk.new x 26 [.string p, .string hd, .int .i64 1, .int .i64 R.clk, .int .i64 (R.clk + n)]).drew
  have HK6 := Lib.hid (HK4.out.below hB0)
  have HW6 := Lib.hid (HW4.out.trans (hB0.mono HW4.out.size))
  clear hB0 c0 c1 q2 c10 f0 f1
  generalize (x.alloc (.cells #[.string p, .string hd, .int .i64 1, .int .i64 R.clk, .int .i64 (R.clk + n)] 26)).drew = x6 at *
  generalize x.heap.size = B at *
  have hcu6 := (HR0.out.below HW6.out)
  have q2 : x6.cell? ⟨lb, i * 5 + 2, none⟩ = some (.int .i64 lf) := (HQ2.out _ HW6.out).2
  have c1 : x6.cell? ⟨r, 1, none⟩ = some (.slice (some ⟨lb, 0, none⟩) R.log.length cap) := (HQ2.out _ HW6.out).1
  have b2 := HKB.out.cell 2
  have g2 := HKB.out.fz 2
  simp only [List.getElem?_cons_succ, List.getElem?_cons_zero] at b2
  have HKB2 := Lib.hid (HKB.out.set 2 (.int .i64 (lf + 1)))
  simp only [List.set_cons_succ, List.set_cons_zero] at HKB2
  have hBl := HKB.out.lt
  have HK62 := Lib.hid (HK6.out.far (p := ⟨B, 2, none⟩) (by dsimp only; omega) (.int .i64 (lf + 1)))
  have HW62 := Lib.hid (HW6.out.setCell (p := ⟨B, 2, none⟩) (by dsimp only; omega) (.int .i64 (lf + 1)))
  have hwf : IntKind.i64.wrap (lf + 1) = lf + 1 := IntWalk.i64_in _ (by omega)
  clear hcu6 HK6 HW6 HKB
  go_wp2_with fail
  clear b2 g2 q2 c1
  have hB62 : B < (x6.setCell ⟨B, 2, none⟩ (.int .i64 (lf + 1))).heap.size := by simpa [World.setCell] using hBl
  clear hBl
  generalize x6.setCell ⟨B, 2, none⟩ (.int .i64 (lf + 1)) = x62 at *
  clear x6
  obtain ⟨hl6, A1, cap1, hb6, hlog6⟩ := HR0.out.below HW62.out
  have HLG := Lib.hid hlog6
  have hle6 := hlog6.le
  have hln6 := HH.out.ln
  have hS : Blk r 48 [.int .i64 R.clk, .slice A1 R.log.length cap1] x62.drew ∧ Blk B 26 [.string p, .string hd, .int .i64 (lf + 1), .int .i64 R.clk, .int .i64 (R.clk + n)] x62.drew := ⟨hb6, HKB2.out⟩
  obtain ⟨i0, hi0, hz0, hz1, hz2⟩ := info_parts Tryd.infoLease
  have hB6 := HKB2.out.lt
  clear hb6 hlog6
  go_wp2_with fail
  (refine wp_region_mixz (S := fun y => Blk r 48 [.int .i64 R.clk, .slice A1 R.log.length cap1] y ∧ Blk B 26 [.string p, .string hd, .int .i64 (lf + 1), .int .i64 R.clk, .int .i64 (R.clk + n)] y) [8, 9] 10 [([0, 1, 2, 3, 4, 5], 6), ([], 7)] (by kernel_rfl) (by kernel_rfl) (by intro c a d v w h; cases d <;> exact h) hS ?_; have hN : Nonempty (Held (fun y => Blk r 48 [.int .i64 R.clk, .slice A1 R.log.length cap1] y ∧ Blk B 26 [.string p, .string hd, .int .i64 (lf + 1), .int .i64 R.clk, .int .i64 (R.clk + n)] y)) := ⟨⟨_, hS⟩⟩)
  have q1 : ∀ y : Held (fun y => Blk r 48 [.int .i64 R.clk, .slice A1 R.log.length cap1] y ∧ Blk B 26 [.string p, .string hd, .int .i64 (lf + 1), .int .i64 R.clk, .int .i64 (R.clk + n)] y), y.w.cell? ⟨r, 1, none⟩ = some (.slice A1 R.log.length cap1) := fun y => y.ok.1.cell 1
  have e0 : ∀ y : Held (fun y => Blk r 48 [.int .i64 R.clk, .slice A1 R.log.length cap1] y ∧ Blk B 26 [.string p, .string hd, .int .i64 (lf + 1), .int .i64 R.clk, .int .i64 (R.clk + n)] y), y.w.cell? ⟨B, 0, none⟩ = some (.string p) := fun y => y.ok.2.cell 0
  have e1 : ∀ y : Held (fun y => Blk r 48 [.int .i64 R.clk, .slice A1 R.log.length cap1] y ∧ Blk B 26 [.string p, .string hd, .int .i64 (lf + 1), .int .i64 R.clk, .int .i64 (R.clk + n)] y), y.w.cell? ⟨B, 1, none⟩ = some (.string hd) := fun y => y.ok.2.cell 1
  have e2 : ∀ y : Held (fun y => Blk r 48 [.int .i64 R.clk, .slice A1 R.log.length cap1] y ∧ Blk B 26 [.string p, .string hd, .int .i64 (lf + 1), .int .i64 R.clk, .int .i64 (R.clk + n)] y), y.w.cell? ⟨B, 2, none⟩ = some (.int .i64 (lf + 1)) := fun y => y.ok.2.cell 2
  have e3 : ∀ y : Held (fun y => Blk r 48 [.int .i64 R.clk, .slice A1 R.log.length cap1] y ∧ Blk B 26 [.string p, .string hd, .int .i64 (lf + 1), .int .i64 R.clk, .int .i64 (R.clk + n)] y), y.w.cell? ⟨B, 3, none⟩ = some (.int .i64 R.clk) := fun y => y.ok.2.cell 3
  have e4 : ∀ y : Held (fun y => Blk r 48 [.int .i64 R.clk, .slice A1 R.log.length cap1] y ∧ Blk B 26 [.string p, .string hd, .int .i64 (lf + 1), .int .i64 R.clk, .int .i64 (R.clk + n)] y), y.w.cell? ⟨B, 4, none⟩ = some (.int .i64 (R.clk + n)) := fun y => y.ok.2.cell 4
  (unfold wpMixZ wpRd; (repeat (first | simp only [List.filterMap_cons] | simp only [List.filterMap_nil] | simp only [List.getElem?_toArray] | simp only [List.getElem?_cons_zero] | simp only [List.getElem?_cons_succ])); (try dsimp only); change wpQuiet _ _ _ _ (_ :: _ :: _ :: _ :: _ :: _ :: []) _; (repeat (go_big_quiet_step (fail))); refine wpQuiet_nil ?_; (try dsimp only))
  clear q1 e0 e1 e2 e3 e4
  go_wp2_with fail
  have hLL := Lib.hid (lit_leases x62.drew ⟨p, hd, (lf + 1), R.clk, R.clk + n⟩)
  have hrow := Lib.hid ((HLG.out.of (w' := x62.drew) rfl).row.alloc (.cells #[.string p, .string hd, .int .i64 (lf + 1), .int .i64 R.clk, .int .i64 (R.clk + n)] 26))
  have HLG2 := Lib.hid (HLG.out.of (w' := x62.drew.alloc (.cells #[.string p, .string hd, .int .i64 (lf + 1), .int .i64 R.clk, .int .i64 (R.clk + n)] 26)) (Below.heap_alloc x62.drew _ lb hl6))
  have hS2 : Blk r 48 [.int .i64 R.clk, .slice A1 R.log.length cap1] (x62.drew.alloc (.cells #[.string p, .string hd, .int .i64 (lf + 1), .int .i64 R.clk, .int .i64 (R.clk + n)] 26)) ∧ Blk B 26 [.string p, .string hd, .int .i64 (lf + 1), .int .i64 R.clk, .int .i64 (R.clk + n)] (x62.drew.alloc (.cells #[.string p, .string hd, .int .i64 (lf + 1), .int .i64 R.clk, .int .i64 (R.clk + n)] 26)) := ⟨hS.1.alloc _, hS.2.alloc _⟩
  refine ⟨hS2, ?_⟩
  (unfold wpMixZ wpRd; (repeat (first | simp only [List.filterMap_cons] | simp only [List.filterMap_nil] | simp only [List.getElem?_toArray] | simp only [List.getElem?_cons_zero] | simp only [List.getElem?_cons_succ])); (try dsimp only); change wpQuiet _ _ _ _ ([]) _; (repeat (go_big_quiet_step (fail))); refine wpQuiet_nil ?_; (try dsimp only))
  go_wp2_with (at_builtin; refine wpList_append_own_at _ rfl _ _ 46 rfl 0 26 i0 (.agg #[.string ⟨#[]⟩, .string ⟨#[]⟩, .int .i64 0, .int .i64 0, .int .i64 0]) 5 56 Tryd.underlying46 hi0 hz0 hz1 hz2 rfl (by decide) _ _ _ rfl hrow.out ⟨x62.heap.size, 0, none⟩ 1 1 (Lease.cells ⟨p, hd, (lf + 1), R.clk, R.clk + n⟩) rfl rfl hLL.out.1 hLL.out.2 (by unfold maxLen; omega) (by omega) (Nat.zero_le _) ?_; intro v2 w7 ho7 hg7 _ hat7)
  obtain ⟨lb', cap', rfl, hlt7, hor7, hne7, hlog7⟩ := HLG2.out.grew (M := [⟨p, hd, (lf + 1), R.clk, R.clk + n⟩]) ho7 (by simp) hat7 (by simp; omega) (by simp; omega)
  have hown := HLG2.out.own
  have hne : (Value.slice A1 R.log.length cap1).ownBlock ≠ some r ∧ (Value.slice A1 R.log.length cap1).ownBlock ≠ some B ∧ (Value.slice A1 R.log.length cap1).ownBlock ≠ some w.heap.size := by
    rcases hown with e | ⟨e, hn⟩
    · rw [e]; exact ⟨by simp, by simp, by simp⟩
    · rw [e]; exact ⟨fun h => hn (by injection h), fun h => absurd (by injection h) (Nat.ne_of_lt hl5), fun h => absurd (by injection h) (Nat.ne_of_lt hll)⟩
  have hb7 := hS2.1.grown hg7 hne.1
  have hB7 := hS2.2.grown hg7 hne.2.1
  have hk7 := ((HK62.out.drew).alloc (.cells #[.string p, .string hd, .int .i64 (lf + 1), .int .i64 R.clk, .int .i64 (R.clk + n)] 26)).grown hg7 hne.2.2
  have HO7 := Lib.hid (onlyG (((Only.of_below (b := r) (m := lb) HW62.out).drew).alloc (.cells #[.string p, .string hd, .int .i64 (lf + 1), .int .i64 R.clk, .int .i64 (R.clk + n)] 26)) (hown.imp id (fun h => h.1)) hg7)
  have HLG7 := Lib.hid hlog7
  refine ⟨⟨hb7, hB7⟩, ?_⟩
  simp only [Act.put, List.setIfInBounds_toArray, List.set_cons_succ, List.set_cons_zero]
  (unfold wpMixZ wpRd; (repeat (first | simp only [List.filterMap_cons] | simp only [List.filterMap_nil] | simp only [List.getElem?_toArray] | simp only [List.getElem?_cons_zero] | simp only [List.getElem?_cons_succ])); (try dsimp only); change wpQuiet _ _ _ _ (_ :: _ :: []) _; (repeat (go_big_quiet_step (fail))); refine wpQuiet_nil ?_; (try dsimp only))
  have c1 := hb7.cell 1
  have g1 := hb7.fz 1
  have e0 := hB7.cell 0
  have e1 := hB7.cell 1
  have e2 := hB7.cell 2
  have e3 := hB7.cell 3
  have e4 := hB7.cell 4
  have d0 := hk7.cell 0
  have d1 := hk7.cell 1
  have d2 := hk7.cell 2
  have d3 := hk7.cell 3
  have d4 := hk7.cell 4
  have f0 := hk7.fz
  simp only [List.getElem?_cons_succ, List.getElem?_cons_zero] at c1 e0 e1 e2 e3 e4 d0 d1 d2 d3 d4
  have hR7 : RAt r lb' ⟨R.clk, R.log ++ [⟨p, hd, (lf + 1), R.clk, R.clk + n⟩]⟩ (w7.setCell ⟨r, 1, none⟩ (.slice (some ⟨lb', 0, none⟩) (R.log.length + 1) cap')) := by
    refine ⟨by simpa [World.setCell] using hlt7, some ⟨lb', 0, none⟩, cap', ?_, hlog7.of (Below.heap_setCell w7 _ _ lb' hne7)⟩
    have := hb7.set 1 (.slice (some ⟨lb', 0, none⟩) (R.log.length + 1) cap')
    simpa using this
  have HR7 := Lib.hid hR7
  have hlw : lb' ≠ w.heap.size := by
    rcases hor7 with e | e
    · omega
    · rw [e]; simp; omega
  have hrw : r ≠ w.heap.size := by omega
  have hor : lb' = lb ∨ w.heap.size ≤ lb' := by
    rcases hor7 with e | e
    · exact .inl e
    · refine .inr ?_
      rw [e]; simp; omega
  have hrB : r ≠ B := by omega
  clear hN hat7 hg7 ho7 hown hne hS2 hS hlog7 hR7 hor7 hb7 hB7 hk7
  go_wp2_with fail
  refine bodyPost_ret (v := .tuple #[.agg #[.string p, .string hd, .int .i64 (lf + 1), .int .i64 R.clk, .int .i64 (R.clk + n)], .int .i64 0]) (by simp [results, Tryd.results25, go_sem, d0, d1, d2, d3, d4]) rfl ⟨lb', rfl, ?_, ?_, hor⟩
  · exact ((((HR7.out.far hrw hlw _).far hrw hlw _).far hrw hlw _).far hrw hlw _).far hrw hlw _
  · exact (((((HO7.out.setCell _ _).far (Nat.le_refl _) _).far (Nat.le_refl _) _).far (Nat.le_refl _) _).far (Nat.le_refl _) _).far (Nat.le_refl _) _

end
end Go.Proofs.YtcfmkmhibghaoaaDoor
