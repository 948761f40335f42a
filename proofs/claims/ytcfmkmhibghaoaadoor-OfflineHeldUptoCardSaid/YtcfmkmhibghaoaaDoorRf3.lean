/-
  The reference's table of leases: Current, Renew.
-/
import Derived.Test.YtcfmkmhibghaoaaDoorRf2
namespace Go.Proofs.YtcfmkmhibghaoaaDoor
open Go.RowKit

theorem RAt.far {r lb : Nat} {R : RTab} {w : World} (h : RAt r lb R w) {p : Addr} (h1 : r ≠ p.block) (h2 : lb ≠ p.block) (u : Value) : RAt r lb R (w.setCell p u) :=
  h.of (Below.heap_setCell w p u r h1) (Below.heap_setCell w p u lb h2) (by simp [World.setCell])
theorem rcur_setR {p q : ByteArray} {l : List Lease} {x : Lease} (hp : x.path = p) : rcur q (setR l p x) = rcur q l := by
  unfold setR
  cases hc : rcur p l with
  | none => rfl
  | some i =>
    dsimp only
    have hi := rcur_lt hc
    have h1 := rlk_some hc
    rw [List.getElem?_eq_getElem hi] at h1
    exact rcur_set p x q l i l[i] (List.getElem?_eq_getElem hi) ((rlk_path h1).1.trans hp.symm)
/-- The facts of a current lease in one world. -/
theorem CurAt.here {r lb i cap : Nat} {R : RTab} {lp lh : ByteArray} {lf ls lu : Int} {w : World} (h : CurAt r lb i R ⟨lp, lh, lf, ls, lu⟩ lb 0 cap w) :
    w.cell? ⟨lb, i * 5, none⟩ = some (.string lp) ∧ w.cell? ⟨lb, i * 5 + 1, none⟩ = some (.string lh) ∧ w.cell? ⟨lb, i * 5 + 2, none⟩ = some (.int .i64 lf) ∧ w.cell? ⟨lb, i * 5 + 3, none⟩ = some (.int .i64 ls) ∧ w.cell? ⟨lb, i * 5 + 4, none⟩ = some (.int .i64 lu) := by
  have hat := h.at_ i _ h.hx
  simp only [Nat.zero_add] at hat
  exact hat
/-- How a call ends that returns a lease and an error, and leaves the table R; its log may have moved to a new block. -/
def RLeaseP (r lb : Nat) (w : World) (q : RTab × Lease × Int) (e : Ending) (w' : World) : Prop := ∃ lb', e = .returned (.tuple #[q.2.1.val, .int .i64 q.2.2]) ∧ RAt r lb' q.1 w' ∧ Only r lb w w' ∧ (lb' = lb ∨ w.heap.size ≤ lb')
theorem RLeaseP.same {r lb : Nat} {w w' : World} {R : RTab} {c : Int} (h : RAt r lb R w) (hb : Below w.heap.size w w') : RLeaseP r lb w (R, zeroL, c) (.returned (.tuple #[.agg #[.string ⟨#[]⟩, .string ⟨#[]⟩, .int .i64 0, .int .i64 0, .int .i64 0], .int .i64 c])) w' :=
  ⟨lb, rfl, h.below hb, Only.of_below hb, .inl rfl⟩
/-- A new block of zeros in front of a call. -/
theorem zeroBlk (w : World) : Blk w.heap.size 26 [.string ⟨#[]⟩, .string ⟨#[]⟩, .int .i64 0, .int .i64 0, .int .i64 0] (w.alloc (.cells #[.string ⟨#[]⟩, .string ⟨#[]⟩, .int .i64 0, .int .i64 0, .int .i64 0] 26)) := Blk.new w 26 _
theorem below_box (w : World) (o : Obj) : Below w.heap.size w (w.alloc o) := (Below.refl _ _).alloc (Nat.le_refl _) _

set_option maxRecDepth 100000 in
set_option maxHeartbeats 1600000 in
theorem rcurrent_any (r lb : Nat) (R : RTab) (p : ByteArray) (w : World) (h : RAt r lb R w) :
    Calls Tryd.prog 12 #[.pointer (some ⟨r, 0, none⟩), .string p] w fun e w' => e = .returned (.tuple #[((rlk R.log p).getD zeroL).val, .bool (rlk R.log p).isSome]) ∧ Below w.heap.size w w' := by
  have hb0 := below_box w (.cells #[.string ⟨#[]⟩, .string ⟨#[]⟩, .int .i64 0, .int .i64 0, .int .i64 0] 26)
  have HC := Lib.hid (rcur_any r lb R p _ (h.below hb0))
  have HK := Lib.hid (zeroBlk w)
  have HR := Lib.hid (h.below hb0)
  have HB0 := Lib.hid hb0
  cases hc : rcur p R.log with
  | none =>
    have hci := curI_none hc
    rw [rlk_none.2 hc]
    rw [hci] at HC
    clear hc hci h hb0
    go_enter Tryd.func12, Tryd.ntmps12
    go_wp2_with fail
    refine HC.out.mono ?_
    rintro e w1 ⟨rfl, hb1⟩
    have hk := HK.out.below hb1
    have d0 := hk.cell 0
    have d1 := hk.cell 1
    have d2 := hk.cell 2
    have d3 := hk.cell 3
    have d4 := hk.cell 4
    have f0 := hk.fz
    simp only [List.getElem?_cons_succ, List.getElem?_cons_zero] at d0 d1 d2 d3 d4
    have hb := HB0.out.trans (hb1.mono HB0.out.size)
    go_wp2_with fail
    refine bodyPost_ret (v := .tuple #[.agg #[.string ⟨#[]⟩, .string ⟨#[]⟩, .int .i64 0, .int .i64 0, .int .i64 0], .bool false]) (by simp [results, Tryd.results12, go_sem, d0, d1, d2, d3, d4]) rfl ⟨rfl, ?_⟩
    (repeat (first | (with_reducible exact Below.refl _ _) | (with_reducible assumption) | (with_reducible refine Below.setCell ?_ ?_ _; rotate_left; focus (first | exact Nat.le_refl _ | (dsimp only; omega))) | (with_reducible refine Below.drew ?_) | (with_reducible refine below_drewN ?_ _) | (with_reducible refine Below.alloc ?_ ?_ _; rotate_left; focus (first | exact Nat.le_refl _ | (simp; done) | (simp; omega)))))
  | some i =>
    obtain ⟨x, cap, hx, hcu, _⟩ := (h.below hb0).cur hc
    have hci := curI_some hc
    have hilt := rcur_lt hc
    rw [hx]
    rw [hci] at HC
    have HCU := Lib.hid hcu
    have hrl := h.rlt
    have hll := h.lt
    clear hc hci h hx hcu hb0
    obtain ⟨lp, lh, lf, ls, lu⟩ := x
    show Calls _ _ _ _ fun e w' => e = .returned (.tuple #[.agg #[.string lp, .string lh, .int .i64 lf, .int .i64 ls, .int .i64 lu], .bool true]) ∧ _
    go_enter Tryd.func12, Tryd.ntmps12
    go_wp2_with fail
    refine HC.out.mono ?_
    rintro e w1 ⟨rfl, hb1⟩
    have hk := HK.out.below hb1
    have d0 := hk.cell 0
    have d1 := hk.cell 1
    have d2 := hk.cell 2
    have d3 := hk.cell 3
    have d4 := hk.cell 4
    have f0 := hk.fz
    simp only [List.getElem?_cons_succ, List.getElem?_cons_zero] at d0 d1 d2 d3 d4
    have hb := HB0.out.trans (hb1.mono HB0.out.size)
    have HQ := Lib.hid (hcu_facts HCU.out (by simp; omega) (by simp; omega) hb1)
    have c1 : w1.cell? ⟨r, 1, none⟩ = some (.slice (some ⟨lb, 0, none⟩) R.log.length cap) := HQ.out.1.2 ⟨w1, Below.refl _ _⟩
    have q0 : w1.cell? ⟨lb, i * 5, none⟩ = some (.string lp) := HQ.out.2.1 ⟨w1, Below.refl _ _⟩
    have q1 : w1.cell? ⟨lb, i * 5 + 1, none⟩ = some (.string lh) := HQ.out.2.2.1 ⟨w1, Below.refl _ _⟩
    have q2 : w1.cell? ⟨lb, i * 5 + 2, none⟩ = some (.int .i64 lf) := HQ.out.2.2.2.1 ⟨w1, Below.refl _ _⟩
    have q3 : w1.cell? ⟨lb, i * 5 + 3, none⟩ = some (.int .i64 ls) := HQ.out.2.2.2.2.1 ⟨w1, Below.refl _ _⟩
    have q4 : w1.cell? ⟨lb, i * 5 + 4, none⟩ = some (.int .i64 lu) := HQ.out.2.2.2.2.2 ⟨w1, Below.refl _ _⟩
    go_wp2_with fail
    refine bodyPost_ret (v := .tuple #[.agg #[.string lp, .string lh, .int .i64 lf, .int .i64 ls, .int .i64 lu], .bool true]) (by simp [results, Tryd.results12, go_sem, d0, d1, d2, d3, d4]) rfl ⟨rfl, ?_⟩
    (repeat (first | (with_reducible exact Below.refl _ _) | (with_reducible assumption) | (with_reducible refine Below.setCell ?_ ?_ _; rotate_left; focus (first | exact Nat.le_refl _ | (dsimp only; omega))) | (with_reducible refine Below.drew ?_) | (with_reducible refine below_drewN ?_ _) | (with_reducible refine Below.alloc ?_ ?_ _; rotate_left; focus (first | exact Nat.le_refl _ | (simp; done) | (simp; omega)))))

set_option maxRecDepth 100000 in
set_option maxHeartbeats 3200000 in
theorem rren_any (r lb : Nat) (R : RTab) (p hd : ByteArray) (f n : Int) (w : World) (h : RAt r lb R w) (g0 : 0 ≤ R.clk) (g1 : R.clk ≤ 1099511627776) :
    Calls Tryd.prog 26 #[.pointer (some ⟨r, 0, none⟩), .string p, .string hd, .int .i64 f, .int .i64 n] w (RLeaseP r lb w (rren R p hd f n)) := by
  have hb0 := below_box w (.cells #[.string ⟨#[]⟩, .string ⟨#[]⟩, .int .i64 0, .int .i64 0, .int .i64 0] 26)
  have HA := Lib.hid (rhas_any r lb R p hd f _ (h.below hb0))
  have HK := Lib.hid (zeroBlk w)
  have HR := Lib.hid (h.below hb0)
  have HR0 := Lib.hid h
  have HB0 := Lib.hid hb0
  have hbs := hb0.size
  cases ht : isTermB n
  · have hr : rren R p hd f n = (R, zeroL, 192) := by unfold rren; rw [ht]; rfl
    rw [hr]
    have hk := HK.out
    have d0 := hk.cell 0
    have d1 := hk.cell 1
    have d2 := hk.cell 2
    have d3 := hk.cell 3
    have d4 := hk.cell 4
    have f0 := hk.fz
    simp only [List.getElem?_cons_succ, List.getElem?_cons_zero] at d0 d1 d2 d3 d4
    have hb := HB0.out
    have hh : (n < 1) ∨ (1 ≤ n ∧ 1048576 < n) := by
      unfold isTermB at ht
      by_cases h1 : n < 1
      · exact .inl h1
      · refine .inr ⟨by omega, ?_⟩
        rw [Bool.and_eq_false_iff] at ht
        rcases ht with ht | ht <;> rw [decide_eq_false_iff_not] at ht <;> omega
    clear hr ht h hb0
    rcases hh with h1 | ⟨h0, h1⟩
    · go_enter Tryd.func26, Tryd.ntmps26
      go_wp2_with fail
      refine bodyPost_ret (v := .tuple #[.agg #[.string ⟨#[]⟩, .string ⟨#[]⟩, .int .i64 0, .int .i64 0, .int .i64 0], .int .i64 192]) (by simp [results, Tryd.results26, go_sem, d0, d1, d2, d3, d4]) rfl (RLeaseP.same HR0.out ?_)
      (repeat (first | (with_reducible exact Below.refl _ _) | (with_reducible assumption) | (with_reducible refine Below.setCell ?_ ?_ _; rotate_left; focus (first | exact Nat.le_refl _ | (dsimp only; omega))) | (with_reducible refine Below.drew ?_) | (with_reducible refine below_drewN ?_ _) | (with_reducible refine Below.alloc ?_ ?_ _; rotate_left; focus (first | exact Nat.le_refl _ | (simp; done) | (simp; omega)))))
    · go_enter Tryd.func26, Tryd.ntmps26
      go_wp2_with fail
      refine bodyPost_ret (v := .tuple #[.agg #[.string ⟨#[]⟩, .string ⟨#[]⟩, .int .i64 0, .int .i64 0, .int .i64 0], .int .i64 192]) (by simp [results, Tryd.results26, go_sem, d0, d1, d2, d3, d4]) rfl (RLeaseP.same HR0.out ?_)
      (repeat (first | (with_reducible exact Below.refl _ _) | (with_reducible assumption) | (with_reducible refine Below.setCell ?_ ?_ _; rotate_left; focus (first | exact Nat.le_refl _ | (dsimp only; omega))) | (with_reducible refine Below.drew ?_) | (with_reducible refine below_drewN ?_ _) | (with_reducible refine Below.alloc ?_ ?_ _; rotate_left; focus (first | exact Nat.le_refl _ | (simp; done) | (simp; omega)))))
  · have ht2 : 1 ≤ n ∧ n ≤ 1048576 := by simpa [isTermB] using ht
    obtain ⟨ht3, ht4⟩ := ht2
    cases hv : rhas R p hd f
    · have hr : rren R p hd f n = (R, zeroL, 194) := by
        unfold rren
        rw [ht]
        unfold rhas at hv
        cases hl : rlk R.log p with
        | none => rfl
        | some x => rw [hl] at hv; dsimp only at hv ⊢; rw [if_neg (by simp), if_neg (by rw [hv]; simp)]
      rw [hr]
      rw [hv] at HA
      clear hr hv h ht hb0
      go_enter Tryd.func26, Tryd.ntmps26
      go_wp2_with fail
      refine HA.out.mono ?_
      rintro e w1 ⟨rfl, hb1⟩
      have hk := HK.out.below hb1
      have d0 := hk.cell 0
      have d1 := hk.cell 1
      have d2 := hk.cell 2
      have d3 := hk.cell 3
      have d4 := hk.cell 4
      have f0 := hk.fz
      simp only [List.getElem?_cons_succ, List.getElem?_cons_zero] at d0 d1 d2 d3 d4
      have hb := HB0.out.trans (hb1.mono HB0.out.size)
      go_wp2_with fail
      refine bodyPost_ret (v := .tuple #[.agg #[.string ⟨#[]⟩, .string ⟨#[]⟩, .int .i64 0, .int .i64 0, .int .i64 0], .int .i64 194]) (by simp [results, Tryd.results26, go_sem, d0, d1, d2, d3, d4]) rfl (RLeaseP.same HR0.out ?_)
      (repeat (first | (with_reducible exact Below.refl _ _) | (with_reducible assumption) | (with_reducible refine Below.setCell ?_ ?_ _; rotate_left; focus (first | exact Nat.le_refl _ | (dsimp only; omega))) | (with_reducible refine Below.drew ?_) | (with_reducible refine below_drewN ?_ _) | (with_reducible refine Below.alloc ?_ ?_ _; rotate_left; focus (first | exact Nat.le_refl _ | (simp; done) | (simp; omega)))))
    · cases hc : rcur p R.log with
      | none => unfold rhas at hv; rw [rlk_none.2 hc] at hv; cases hv
      | some i =>
        obtain ⟨x, cap, hx, hcu, hne, cs, hcs, hcz, hct, hcl, _⟩ := (h.below hb0).cur hc
        have hci := curI_some hc
        have hilt := rcur_lt hc
        have HST : Hid (∀ (u : Int) (W : World), RAt r lb R W → RAt r lb ⟨R.clk, setR R.log p ⟨x.path, x.holder, x.fence, x.since, u⟩⟩ (W.setCell ⟨lb, i * 5 + 4, none⟩ (.int .i64 u))) := fun u W hW => hW.setTil hc hx u
        have HRC : Hid (∀ u : Int, rcur p (setR R.log p ⟨x.path, x.holder, x.fence, x.since, u⟩) = some i ∧ rlk (setR R.log p ⟨x.path, x.holder, x.fence, x.since, u⟩) p = some ⟨x.path, x.holder, x.fence, x.since, u⟩) := fun u => ⟨(rcur_setR (x := ⟨x.path, x.holder, x.fence, x.since, u⟩) (rlk_path hx).1).trans hc, (rlk_setR (x := ⟨x.path, x.holder, x.fence, x.since, u⟩) hx (rlk_path hx).1 p).trans (if_pos ((ba_beq p p).2 rfl))⟩
        have HCC : Hid (∀ W, RAt r lb R W → Calls Tryd.prog 30 #[.pointer (some ⟨r, 0, none⟩), .string p] W fun e w' => e = .returned (.int .i64 i) ∧ Below W.heap.size W w') := fun W hW => by
          have := rcur_any r lb R p W hW
          rw [hci] at this
          exact this
        have HCU := Lib.hid hcu
        have HFZ : Hid (∀ o, (w.alloc (.cells #[.string ⟨#[]⟩, .string ⟨#[]⟩, .int .i64 0, .int .i64 0, .int .i64 0] 26)).frozen? ⟨lb, o, none⟩ = false) := fun o => by simp [World.frozen?, hcs]
        have hrl := h.rlt
        have hll := h.lt
        have hrr : rren R p hd f n = (⟨R.clk, setR R.log p ⟨x.path, x.holder, x.fence, x.since, max x.til (R.clk + n)⟩⟩, ⟨x.path, x.holder, x.fence, x.since, max x.til (R.clk + n)⟩, 0) := by
          unfold rren
          rw [ht]
          unfold rhas at hv
          rw [hx] at hv ⊢
          dsimp only at hv ⊢
          rw [if_neg (by simp), if_pos hv]
        rw [hrr]
        rw [hv] at HA
        clear hc hci h hx hcu hrr hcs hcz hct hv ht hb0
        obtain ⟨lp, lh, lf, ls, lu⟩ := x
        dsimp only at HST HRC ⊢
        go_enter Tryd.func26, Tryd.ntmps26
        go_wp2_with fail
        refine HA.out.mono ?_
        rintro e w1 ⟨rfl, hb1⟩
        have hS : Below w1.heap.size w1 w1.drew := (Below.refl _ _).drew
        have HQ := Lib.hid (hcu_facts HCU.out (by simp; omega) (by simp; omega) hb1)
        have HRW : Hid (∀ y, Below w1.heap.size w1 y → RAt r lb R y) := fun y hy => HR.out.below (hb1.trans (hy.mono hb1.size))
        go_wp2_with fail
        (refine wp_region_s (S := Below w1.heap.size w1) (by kernel_rfl) (by kernel_rfl) hS ?_; have hN : Nonempty (Held (Below w1.heap.size w1)) := ⟨⟨_, hS⟩⟩; (obtain ⟨⟨c0, c1⟩, q0, q1, q2, q3, q4⟩ := HQ.out); (repeat (go_big_quiet_step ((go_at_call 30; exact held_keep (HCC.out _ (HRW.out _ (Held.ok _))))))); refine wpQuiet_nil ?_; rintro x ⟨⟨_, hx⟩, rfl⟩; clear hN)
        clear c0 c1 q0 q1 q2 q3 q4
        go_wp2_with fail
        have hb := hb1.trans (hx.mono hb1.size)
        have hbw := HB0.out.trans (hb.mono HB0.out.size)
        have hRx := HRW.out _ hx
        have c0 : x.cell? ⟨r, 0, none⟩ = some (.int .i64 R.clk) := HQ.out.1.1 ⟨x, hx⟩
        have q4 : x.cell? ⟨lb, i * 5 + 4, none⟩ = some (.int .i64 lu) := HQ.out.2.2.2.2.2 ⟨x, hx⟩
        have f4 : x.frozen? ⟨lb, i * 5 + 4, none⟩ = false := (hb.frozen (p := ⟨lb, _, none⟩) (by simp; omega)).trans (HFZ.out _)
        have hkx := HK.out.below hb
        have HKX := Lib.hid hkx
        have HRX := Lib.hid hRx
        have HBW := Lib.hid hbw
        clear hb hx hbw hRx hkx
        have hnl : lb ≠ w.heap.size := by omega
        have hnr : r ≠ w.heap.size := by omega
        have HR2 := Lib.hid (HST.out (max lu (R.clk + n)) x HRX.out).drew
        have HK2 := Lib.hid (HKX.out.far (p := ⟨lb, i * 5 + 4, none⟩) (fun e => hnl e.symm) (.int .i64 (max lu (R.clk + n)))).drew
        have HO2 := Lib.hid (only_set (r := r) (lb := lb) (Only.of_below HBW.out) (i * 5 + 4) (.int .i64 (max lu (R.clk + n)))).drew
        go_region
        generalize (x.setCell ⟨lb, i * 5 + 4, none⟩ (.int .i64 (max lu (R.clk + n)))).drew = x2 at *
        obtain ⟨y, cap2, hy, hcu2, _⟩ := HR2.out.cur (HRC.out _).1
        rw [(HRC.out _).2] at hy
        injection hy with hy
        subst hy
        obtain ⟨q0, q1, q2, q3, q4⟩ := hcu2.here
        have d0 := HK2.out.cell 0
        have d1 := HK2.out.cell 1
        have d2 := HK2.out.cell 2
        have d3 := HK2.out.cell 3
        have d4 := HK2.out.cell 4
        have f0 := HK2.out.fz
        simp only [List.getElem?_cons_succ, List.getElem?_cons_zero] at d0 d1 d2 d3 d4
        clear hcu2 c0 f4
        go_wp2_with fail
        refine bodyPost_ret (v := .tuple #[.agg #[.string lp, .string lh, .int .i64 lf, .int .i64 ls, .int .i64 (max lu (R.clk + n))], .int .i64 0]) (by simp [results, Tryd.results26, go_sem, d0, d1, d2, d3, d4]) rfl ⟨lb, rfl, ?_, ?_, .inl rfl⟩
        · exact ((((HR2.out.far hnr hnl _).far hnr hnl _).far hnr hnl _).far hnr hnl _).far hnr hnl _
        · exact ((((HO2.out.far (Nat.le_refl _) _).far (Nat.le_refl _) _).far (Nat.le_refl _) _).far (Nat.le_refl _) _).far (Nat.le_refl _) _

end Go.Proofs.YtcfmkmhibghaoaaDoor
