/-
  The reference's table of leases: Has, Current, Advance, Break, Release.
-/
import Derived.Test.YtcfmkmhibghaoaaDoorRfA
import Derived.Test.YtcfmkmhibghaoaaDoorMix
import Derived.IntWalk
namespace Go.Proofs.YtcfmkmhibghaoaaDoor
open Go.RowKit

/-- The current lease of a path in memory. -/
structure CurAt (r lb i : Nat) (R : RTab) (x : Lease) (b off cap : Nat) (w : World) : Prop where
  tb : Blk r 48 [.int .i64 R.clk, .slice (some ⟨b, off, none⟩) R.log.length cap] w
  hx : R.log[i]? = some x
  bl : b < w.heap.size
  at_ : LsAt b off R.log w
theorem RAt.cur {r lb i : Nat} {R : RTab} {p : ByteArray} {w : World} (h : RAt r lb R w) (hc : rcur p R.log = some i) : ∃ x cap, rlk R.log p = some x ∧ CurAt r lb i R x lb 0 cap w ∧ lb ≠ r ∧ ∃ cs : Array Value, w.heap[lb]? = some (.cells cs 26 (0, 0)) ∧ cs.size = cap * 5 ∧ cs.toList.take (R.log.length * 5) = celL R.log ∧ R.log.length ≤ cap ∧ cap ≤ maxLen := by
  obtain ⟨A, cap, hb, hl⟩ := h.ex
  have hi := rcur_lt hc
  obtain ⟨b, off, hA, hbl, hat⟩ := hl.cells (by omega)
  rcases hl with ⟨h1, _⟩ | ⟨hne, cs, h0, h1, h2, h3, h4, h5, h6⟩
  · rw [h1] at hi; simp at hi
  · rw [h1] at hA
    injection hA with hA
    injection hA with e1 e2
    subst e1; subst e2
    subst h1
    exact ⟨R.log[i], cap, (rlk_some hc).trans (List.getElem?_eq_getElem hi), ⟨hb, List.getElem?_eq_getElem hi, hbl, hat⟩, hne, cs, h4, h5, h6, h2, h3⟩
theorem RAt.tab {r lb : Nat} {R : RTab} {w : World} (h : RAt r lb R w) : ∃ A cap, w.cell? ⟨r, 0, none⟩ = some (.int .i64 R.clk) ∧ w.cell? ⟨r, 1, none⟩ = some (.slice A R.log.length cap) ∧ w.frozen? ⟨r, 0, none⟩ = false ∧ w.frozen? ⟨r, 1, none⟩ = false := by
  obtain ⟨A, cap, hb, hl⟩ := h.ex
  exact ⟨A, cap, hb.cell 0, hb.cell 1, hb.fz 0, hb.fz 1⟩

theorem hcu_facts {r lb i cap : Nat} {R : RTab} {lp lh : ByteArray} {lf ls lu : Int} {w w1 : World} (h : CurAt r lb i R ⟨lp, lh, lf, ls, lu⟩ lb 0 cap w) (hrl : r < w.heap.size) (hll : lb < w.heap.size) (hb1 : Below w.heap.size w w1) :
    ((∀ y : Held (Below w1.heap.size w1), y.w.cell? ⟨r, 0, none⟩ = some (.int .i64 R.clk)) ∧ ∀ y : Held (Below w1.heap.size w1), y.w.cell? ⟨r, 1, none⟩ = some (.slice (some ⟨lb, 0, none⟩) R.log.length cap)) ∧
    (∀ y : Held (Below w1.heap.size w1), y.w.cell? ⟨lb, i * 5, none⟩ = some (.string lp)) ∧ (∀ y : Held (Below w1.heap.size w1), y.w.cell? ⟨lb, i * 5 + 1, none⟩ = some (.string lh)) ∧ (∀ y : Held (Below w1.heap.size w1), y.w.cell? ⟨lb, i * 5 + 2, none⟩ = some (.int .i64 lf)) ∧ (∀ y : Held (Below w1.heap.size w1), y.w.cell? ⟨lb, i * 5 + 3, none⟩ = some (.int .i64 ls)) ∧ (∀ y : Held (Below w1.heap.size w1), y.w.cell? ⟨lb, i * 5 + 4, none⟩ = some (.int .i64 lu)) := by
  have HB := fun y : Held (Below w1.heap.size w1) => hb1.trans (y.ok.mono hb1.size)
  have hat := fun y : Held (Below w1.heap.size w1) => (h.at_.below (HB y) hll) i _ h.hx
  simp only [Nat.zero_add] at hat
  exact ⟨⟨fun y => ((HB y).cell (p := ⟨r, _, none⟩) hrl).trans (h.tb.cell 0), fun y => ((HB y).cell (p := ⟨r, _, none⟩) hrl).trans (h.tb.cell 1)⟩, fun y => (hat y).1, fun y => (hat y).2.1, fun y => (hat y).2.2.1, fun y => (hat y).2.2.2.1, fun y => (hat y).2.2.2.2⟩

set_option maxRecDepth 100000 in
set_option maxHeartbeats 1600000 in
theorem rhas_any (r lb : Nat) (R : RTab) (p hd : ByteArray) (f : Int) (w : World) (h : RAt r lb R w) :
    Calls Tryd.prog 14 #[.pointer (some ⟨r, 0, none⟩), .string p, .string hd, .int .i64 f] w fun e w' => e = .returned (.bool (rhas R p hd f)) ∧ Below w.heap.size w w' := by
  have HC := Lib.hid (rcur_any r lb R p w h)
  cases hc : rcur p R.log with
  | none =>
    have hr : rhas R p hd f = false := by unfold rhas; rw [rlk_none.2 hc]
    have hci := curI_none hc
    rw [hr]
    rw [hci] at HC
    clear hc hr hci
    go_enter Tryd.func14, Tryd.ntmps14
    go_wp2_with fail
    refine HC.out.mono ?_
    rintro e w1 ⟨rfl, hb1⟩
    have hS : Below w1.heap.size w1 w1.drew := (Below.refl _ _).drew
    go_wp2_with fail
    (refine wp_region_s (S := Below w1.heap.size w1) (by kernel_rfl) (by kernel_rfl) hS ?_; have hN : Nonempty (Held (Below w1.heap.size w1)) := ⟨⟨_, hS⟩⟩; skip; (repeat (go_big_quiet_step (fail))); refine wpQuiet_nil ?_; rintro x ⟨⟨_, hx⟩, rfl⟩; clear hN)
    go_wp2_with fail
    go_ret
    exact ⟨rfl, hb1.trans (hx.mono hb1.size)⟩
  | some i =>
    obtain ⟨x, cap, hx, hcu, _⟩ := h.cur hc
    have hr : rhas R p hd f = hldB R.clk x.holder x.fence x.since x.til hd f := by unfold rhas; rw [hx]
    have hci := curI_some hc
    have hilt := rcur_lt hc
    rw [hr]
    rw [hci] at HC
    have HR := Lib.hid h
    have HCU := Lib.hid hcu
    have hrl := h.rlt
    have hll := h.lt
    clear hc hr hci h hx hcu
    obtain ⟨lp, lh, lf, ls, lu⟩ := x
    dsimp only
    unfold hldB
    have HH := Lib.hid (fun w => rholds_any ⟨lp, lh, lf, ls, lu⟩ R.clk w)
    unfold Lease.val at HH
    dsimp only at HH
    generalize hNow R.clk ls lu = v1 at HH ⊢
    cases v2 : (lh.toList == hd.toList)
    all_goals cases v3 : (lf == f)
    all_goals cases v1
    all_goals
      go_enter Tryd.func14, Tryd.ntmps14
      go_wp2_with fail
      refine HC.out.mono ?_
      rintro e w1 ⟨rfl, hb1⟩
      have hS : Below w1.heap.size w1 w1.drew := (Below.refl _ _).drew
      have hB : ∀ y : Held (Below w1.heap.size w1), Below w.heap.size w y.w := fun y => hb1.trans (y.ok.mono hb1.size)
      have HB := Lib.hid hB
      obtain ⟨c0, c1⟩ : (∀ y : Held (Below w1.heap.size w1), y.w.cell? ⟨r, 0, none⟩ = some (.int .i64 R.clk)) ∧ ∀ y : Held (Below w1.heap.size w1), y.w.cell? ⟨r, 1, none⟩ = some (.slice (some ⟨lb, 0, none⟩) R.log.length cap) := ⟨fun y => ((HB.out y).cell (p := ⟨r, _, none⟩) hrl).trans (HCU.out.tb.cell 0), fun y => ((HB.out y).cell (p := ⟨r, _, none⟩) hrl).trans (HCU.out.tb.cell 1)⟩
      have hat := fun y : Held (Below w1.heap.size w1) => (HCU.out.at_.below (HB.out y) hll) i _ HCU.out.hx
      simp only [Nat.zero_add] at hat
      have q0 := fun y => (hat y).1
      have q1 := fun y => (hat y).2.1
      have q2 := fun y => (hat y).2.2.1
      have q3 := fun y => (hat y).2.2.2.1
      have q4 := fun y => (hat y).2.2.2.2
      have HQ := Lib.hid (And.intro (And.intro c0 c1) (And.intro q0 (And.intro q1 (And.intro q2 (And.intro q3 q4)))))
      clear hB hat c0 c1 q0 q1 q2 q3 q4
      go_wp2_with fail
      (refine wp_region_s (S := Below w1.heap.size w1) (by kernel_rfl) (by kernel_rfl) hS ?_; have hN : Nonempty (Held (Below w1.heap.size w1)) := ⟨⟨_, hS⟩⟩; (obtain ⟨⟨c0, c1⟩, q0, q1, q2, q3, q4⟩ := HQ.out); (repeat (go_big_quiet_step ((go_at_call 13; exact held_keep (HH.out _))))); refine wpQuiet_nil ?_; rintro x ⟨⟨_, hx⟩, rfl⟩; clear hN)
      clear c0 c1 q0 q1 q2 q3 q4
      go_wp2_with fail
      go_ret
      exact ⟨rfl, hb1.trans (hx.mono hb1.size)⟩


theorem celL_set : ∀ (L : List Lease) (i : Nat) (x : Lease) (u : Int), L[i]? = some x → celL (L.set i ⟨x.path, x.holder, x.fence, x.since, u⟩) = (celL L).set (i * 5 + 4) (.int .i64 u)
  | [], _, _, _, h => by cases h
  | y :: r, 0, x, u, h => by
    have hz : y = x := by simpa using h
    subst hz
    rw [List.set_cons_zero]
    show Lease.cells _ ++ celL r = (y.cells ++ celL r).set (0 * 5 + 4) _
    rw [List.set_append_left _ _ (by show 0 * 5 + 4 < 5; omega)]
    rfl
  | y :: r, i + 1, x, u, h => by
    rw [List.set_cons_succ]
    show y.cells ++ celL _ = (y.cells ++ celL r).set _ _
    rw [celL_set r i x u (by simpa using h), List.set_append_right _ _ (by show 5 ≤ _; omega)]
    congr 2
    show _ = _ - 5
    omega
theorem RAt.setTil {r lb i : Nat} {R : RTab} {p : ByteArray} {x : Lease} {w : World} (h : RAt r lb R w) (hc : rcur p R.log = some i) (hx : rlk R.log p = some x) (u : Int) :
    RAt r lb ⟨R.clk, setR R.log p ⟨x.path, x.holder, x.fence, x.since, u⟩⟩ (w.setCell ⟨lb, i * 5 + 4, none⟩ (.int .i64 u)) := by
  have hs : setR R.log p ⟨x.path, x.holder, x.fence, x.since, u⟩ = R.log.set i ⟨x.path, x.holder, x.fence, x.since, u⟩ := by unfold setR; rw [hc]
  have hxi : R.log[i]? = some x := (rlk_some hc).symm.trans hx
  have hi := rcur_lt hc
  rw [hs]
  obtain ⟨hlt, A, cap, hb, hl⟩ := h
  refine ⟨by simpa [World.setCell] using hlt, A, cap, ?_, ?_⟩
  · rcases hl with ⟨h1, _⟩ | ⟨hne, _⟩
    · rw [h1] at hi; simp at hi
    · rw [List.length_set]
      exact hb.far (p := ⟨lb, i * 5 + 4, none⟩) (fun e => hne e.symm) _
  · rcases hl with ⟨h1, _⟩ | ⟨hne, cs, h0, h1, h2, h3, h4, h5, h6⟩
    · rw [h1] at hi; simp at hi
    · have hk : Blk lb 26 cs.toList w := by unfold Blk; simpa using h4
      have hk2 := hk.set (i * 5 + 4) (.int .i64 u)
      refine .inr ⟨hne, (cs.toList.set (i * 5 + 4) (.int .i64 u)).toArray, by simpa using h0, h1, by simpa using h2, h3, hk2, by simpa using h5, ?_⟩
      rw [List.length_set, celL_set R.log i x u hxi, ← h6, List.take_set]
theorem only_set {r lb : Nat} {w x : World} (h : Only r lb w x) (o : Nat) (u : Value) : Only r lb w (x.setCell ⟨lb, o, none⟩ u) :=
  ⟨h.os, h.tape, h.output, by simpa [World.setCell] using h.size, fun k hk h1 h2 => (Below.heap_setCell x _ u k h2).trans (h.block k hk h1 h2)⟩
theorem RAt.clock {r lb : Nat} {R : RTab} {w : World} (h : RAt r lb R w) (c : Int) : RAt r lb ⟨c, R.log⟩ (w.setCell ⟨r, 0, none⟩ (.int .i64 c)) := by
  obtain ⟨hlt, A, cap, hb, hl⟩ := h
  refine ⟨by simpa [World.setCell] using hlt, A, cap, hb.set 0 (.int .i64 c), ?_⟩
  rcases hl with h1 | ⟨hne, cs, h0, h1, h2, h3, h4, h5, h6⟩
  · exact .inl h1
  · exact .inr ⟨hne, cs, h0, h1, h2, h3, (Below.heap_setCell w ⟨r, 0, none⟩ _ lb hne).trans h4, h5, h6⟩

/-- How a call ends that returns an error, and leaves the table R. -/
def RErrP (r lb : Nat) (w : World) (q : RTab × Int) (e : Ending) (w' : World) : Prop := e = .returned (.int .i64 q.2) ∧ RAt r lb q.1 w' ∧ Only r lb w w'

set_option maxRecDepth 100000 in
set_option maxHeartbeats 1600000 in
theorem radv_any (r lb : Nat) (R : RTab) (n : Int) (w : World) (h : RAt r lb R w) (h0 : 0 ≤ R.clk) (h1 : R.clk ≤ 1099511627776) :
    Calls Tryd.prog 29 #[.pointer (some ⟨r, 0, none⟩), .int .i64 n] w (RErrP r lb w (radv R n)) := by
  obtain ⟨A, cap, c0, c1, f0, f1⟩ := h.tab
  have HR := Lib.hid h
  obtain ⟨clk, l⟩ := R
  dsimp only at h0 h1 c0 c1
  unfold radv
  dsimp only
  by_cases hn : n < 0
  · rw [if_pos (.inl hn)]
    clear h
    go_enter Tryd.func29, Tryd.ntmps29
    go_wp2_with fail
    have hS : Below w.heap.size w w.drew := (Below.refl _ _).drew
    first
      | (go_ret; exact ⟨rfl, HR.out, Only.refl _ _ _⟩)
      | ((refine wp_region_s (S := Below w.heap.size w) (by kernel_rfl) (by kernel_rfl) hS ?_; have hN : Nonempty (Held (Below w.heap.size w)) := ⟨⟨_, hS⟩⟩; skip; (repeat (go_big_quiet_step (fail))); refine wpQuiet_nil ?_; rintro x ⟨⟨_, hx⟩, rfl⟩; clear hN)
         go_wp2_with fail
         go_ret
         exact ⟨rfl, HR.out.below hx, Only.of_below hx⟩)
  · by_cases hn2 : 1099511627776 - clk < n
    · rw [if_pos (.inr hn2)]
      clear h
      have hw : IntKind.i64.wrap (1099511627776 - clk) = 1099511627776 - clk := IntWalk.i64_in _ (by omega)
      go_enter Tryd.func29, Tryd.ntmps29
      go_wp2_with fail
      have hS : Below w.heap.size w w.drew := (Below.refl _ _).drew
      first
        | (go_ret; exact ⟨rfl, HR.out, Only.refl _ _ _⟩)
        | ((refine wp_region_s (S := Below w.heap.size w) (by kernel_rfl) (by kernel_rfl) hS ?_; have hN : Nonempty (Held (Below w.heap.size w)) := ⟨⟨_, hS⟩⟩; (have r0 : ∀ y : Held (Below w.heap.size w), y.w.cell? ⟨r, 0, none⟩ = some (.int .i64 clk) := fun y => (y.ok.cell (p := ⟨r, _, none⟩) HR.out.rlt).trans c0); (repeat (go_big_quiet_step (fail))); refine wpQuiet_nil ?_; rintro x ⟨⟨_, hx⟩, rfl⟩; clear hN)
           go_wp2_with fail
           go_ret
           exact ⟨rfl, HR.out.below hx, Only.of_below hx⟩)
    · rw [if_neg (by omega)]
      clear h
      have hw : IntKind.i64.wrap (1099511627776 - clk) = 1099511627776 - clk := IntWalk.i64_in _ (by omega)
      go_enter Tryd.func29, Tryd.ntmps29
      go_wp2_with fail
      first
        | (go_ret; exact ⟨rfl, HR.out.clock _, (Only.refl _ _ _).setCell _ _⟩)
        | (go_end0; exact ⟨rfl, HR.out.clock _, (Only.refl _ _ _).setCell _ _⟩)

set_option maxRecDepth 100000 in
set_option maxHeartbeats 1600000 in
theorem rbrk_any (r lb : Nat) (R : RTab) (p : ByteArray) (w : World) (h : RAt r lb R w) :
    Calls Tryd.prog 28 #[.pointer (some ⟨r, 0, none⟩), .string p] w (RErrP r lb w (rbrk R p)) := by
  have HC := Lib.hid (rcur_any r lb R p w h)
  have HR := Lib.hid h
  cases hc : rcur p R.log with
  | none =>
    have hr : rbrk R p = (R, 194) := by unfold rbrk; rw [rlk_none.2 hc]
    have hci := curI_none hc
    rw [hr]
    rw [hci] at HC
    clear hc hr hci h
    go_enter Tryd.func28, Tryd.ntmps28
    go_wp2_with fail
    refine HC.out.mono ?_
    rintro e w1 ⟨rfl, hb1⟩
    have hS : Below w1.heap.size w1 w1.drew := (Below.refl _ _).drew
    go_wp2_with fail
    (refine wp_region_s (S := Below w1.heap.size w1) (by kernel_rfl) (by kernel_rfl) hS ?_; have hN : Nonempty (Held (Below w1.heap.size w1)) := ⟨⟨_, hS⟩⟩; skip; (repeat (go_big_quiet_step (fail))); refine wpQuiet_nil ?_; rintro x ⟨⟨_, hx⟩, rfl⟩; clear hN)
    go_wp2_with fail
    go_ret
    have hb := hb1.trans (hx.mono hb1.size)
    exact ⟨rfl, HR.out.below hb, Only.of_below hb⟩
  | some i =>
    obtain ⟨x, cap, hx, hcu, _, cs, hcs, hcz, hct, hcl, _⟩ := h.cur hc
    have hci := curI_some hc
    have hilt := rcur_lt hc
    have HST := Lib.hid (fun (W : World) (hW : RAt r lb R W) => hW.setTil hc hx R.clk)
    rw [hci] at HC
    have HCU := Lib.hid hcu
    have HFZ : Hid (∀ o, w.frozen? ⟨lb, o, none⟩ = false) := fun o => by simp [World.frozen?, hcs]
    have hrl := h.rlt
    have hll := h.lt
    have hrr : rbrk R p = if hNow R.clk x.since x.til = true then (rend19 R p x, 0) else (R, 194) := by unfold rbrk; rw [hx]
    rw [hrr]
    clear hc hci h hx hcu hrr hcs hcz hct
    obtain ⟨lp, lh, lf, ls, lu⟩ := x
    dsimp only
    unfold rend19
    dsimp only at HST ⊢
    have HH := Lib.hid (fun w => rholds_any ⟨lp, lh, lf, ls, lu⟩ R.clk w)
    unfold Lease.val at HH
    dsimp only at HH
    generalize hNow R.clk ls lu = v1 at HH ⊢
    have hi0 : decide ((i : Int) < 0) = false := decide_eq_false (by omega)
    have hi1 : ¬ ((i : Int) < 0) := by omega
    have hi2 : (0 : Int) ≤ (i : Int) := by omega
    cases v1
    · rw [if_neg (by simp)]
      go_enter Tryd.func28, Tryd.ntmps28
      go_wp2_with fail
      refine HC.out.mono ?_
      rintro e w1 ⟨rfl, hb1⟩
      have hS : Below w1.heap.size w1 w1.drew := (Below.refl _ _).drew
      have HQ := Lib.hid (hcu_facts HCU.out hrl hll hb1)
      go_wp2_with fail
      (refine wp_region_s (S := Below w1.heap.size w1) (by kernel_rfl) (by kernel_rfl) hS ?_; have hN : Nonempty (Held (Below w1.heap.size w1)) := ⟨⟨_, hS⟩⟩; (obtain ⟨⟨c0, c1⟩, q0, q1, q2, q3, q4⟩ := HQ.out); (repeat (go_big_quiet_step ((go_at_call 13; exact held_keep (HH.out _))))); refine wpQuiet_nil ?_; rintro x ⟨⟨_, hx⟩, rfl⟩; clear hN)
      clear c0 c1 q0 q1 q2 q3 q4
      go_wp2_with fail
      go_ret
      have hb := hb1.trans (hx.mono hb1.size)
      exact ⟨rfl, HR.out.below hb, Only.of_below hb⟩
    · rw [if_pos rfl]
      go_enter Tryd.func28, Tryd.ntmps28
      go_wp2_with fail
      refine HC.out.mono ?_
      rintro e w1 ⟨rfl, hb1⟩
      have hS : Below w1.heap.size w1 w1.drew := (Below.refl _ _).drew
      have HQ := Lib.hid (hcu_facts HCU.out hrl hll hb1)
      go_wp2_with fail
      (refine wp_region_s (S := Below w1.heap.size w1) (by kernel_rfl) (by kernel_rfl) hS ?_; have hN : Nonempty (Held (Below w1.heap.size w1)) := ⟨⟨_, hS⟩⟩; (obtain ⟨⟨c0, c1⟩, q0, q1, q2, q3, q4⟩ := HQ.out); (repeat (go_big_quiet_step ((go_at_call 13; exact held_keep (HH.out _))))); refine wpQuiet_nil ?_; rintro x ⟨⟨_, hx⟩, rfl⟩; clear hN)
      clear c0 c1 q0 q1 q2 q3 q4
      go_wp2_with fail
      have hb := hb1.trans (hx.mono hb1.size)
      have c0 : x.cell? ⟨r, 0, none⟩ = some (.int .i64 R.clk) := HQ.out.1.1 ⟨x, hx⟩
      have c1 : x.cell? ⟨r, 1, none⟩ = some (.slice (some ⟨lb, 0, none⟩) R.log.length cap) := HQ.out.1.2 ⟨x, hx⟩
      have q4 : x.cell? ⟨lb, i * 5 + 4, none⟩ = some (.int .i64 lu) := HQ.out.2.2.2.2.2 ⟨x, hx⟩
      have f4 : x.frozen? ⟨lb, i * 5 + 4, none⟩ = false := (hb.frozen (p := ⟨lb, _, none⟩) hll).trans (HFZ.out _)
      have HB := Lib.hid hb
      clear hb hx
      go_region
      go_wp2_with fail
      go_ret
      exact ⟨rfl, (HST.out _ (HR.out.below HB.out)).drew, (only_set (Only.of_below HB.out) _ _).drew⟩

set_option maxRecDepth 100000 in
set_option maxHeartbeats 1600000 in
theorem rrel_any (r lb : Nat) (R : RTab) (p hd : ByteArray) (f : Int) (w : World) (h : RAt r lb R w) :
    Calls Tryd.prog 27 #[.pointer (some ⟨r, 0, none⟩), .string p, .string hd, .int .i64 f] w (RErrP r lb w (rrel R p hd f)) := by
  have HA := Lib.hid (rhas_any r lb R p hd f w h)
  have HR := Lib.hid h
  cases hv : rhas R p hd f
  · have hr : rrel R p hd f = (R, 194) := by
      unfold rrel
      unfold rhas at hv
      cases hl : rlk R.log p with
      | none => rfl
      | some x => rw [hl] at hv; dsimp only at hv ⊢; rw [if_neg (by rw [hv]; simp)]
    rw [hr]
    rw [hv] at HA
    clear hr hv h
    go_enter Tryd.func27, Tryd.ntmps27
    go_wp2_with fail
    refine HA.out.mono ?_
    rintro e w1 ⟨rfl, hb1⟩
    go_wp2_with fail
    go_ret
    exact ⟨rfl, HR.out.below hb1, Only.of_below hb1⟩
  · cases hc : rcur p R.log with
    | none => unfold rhas at hv; rw [rlk_none.2 hc] at hv; cases hv
    | some i =>
      obtain ⟨x, cap, hx, hcu, _, cs, hcs, hcz, hct, hcl, _⟩ := h.cur hc
      have hci := curI_some hc
      have hilt := rcur_lt hc
      have HST := Lib.hid (fun (W : World) (hW : RAt r lb R W) => hW.setTil hc hx R.clk)
      have HCC : Hid (∀ W, RAt r lb R W → Calls Tryd.prog 30 #[.pointer (some ⟨r, 0, none⟩), .string p] W fun e w' => e = .returned (.int .i64 i) ∧ Below W.heap.size W w') := fun W hW => by
        have := rcur_any r lb R p W hW
        rw [hci] at this
        exact this
      have HCU := Lib.hid hcu
      have HFZ : Hid (∀ o, w.frozen? ⟨lb, o, none⟩ = false) := fun o => by simp [World.frozen?, hcs]
      have hrl := h.rlt
      have hll := h.lt
      have hrr : rrel R p hd f = (rend19 R p x, 0) := by
        unfold rrel
        unfold rhas at hv
        rw [hx] at hv ⊢
        dsimp only at hv ⊢
        rw [if_pos hv]
      rw [hrr]
      rw [hv] at HA
      clear hc hci h hx hcu hrr hcs hcz hct hv
      obtain ⟨lp, lh, lf, ls, lu⟩ := x
      unfold rend19
      dsimp only at HST ⊢
      go_enter Tryd.func27, Tryd.ntmps27
      go_wp2_with fail
      refine HA.out.mono ?_
      rintro e w1 ⟨rfl, hb1⟩
      have hS : Below w1.heap.size w1 w1.drew := (Below.refl _ _).drew
      have HQ := Lib.hid (hcu_facts HCU.out hrl hll hb1)
      have HRW : Hid (∀ y, Below w1.heap.size w1 y → RAt r lb R y) := fun y hy => HR.out.below (hb1.trans (hy.mono hb1.size))
      go_wp2_with fail
      (refine wp_region_mixz (S := Below w1.heap.size w1) [11, 12] 13 [([0, 1, 2, 3, 4, 5, 7, 8, 9, 10], 6)] (by kernel_rfl) (by kernel_rfl) (by intro c a d v w h; cases d <;> exact h) hS ?_; have hN : Nonempty (Held (Below w1.heap.size w1)) := ⟨⟨_, hS⟩⟩)
      obtain ⟨⟨c0, c1⟩, q0, q1, q2, q3, q4⟩ := HQ.out
      (unfold wpMixZ wpRd; (repeat (first | simp only [List.filterMap_cons] | simp only [List.filterMap_nil] | simp only [List.getElem?_toArray] | simp only [List.getElem?_cons_zero] | simp only [List.getElem?_cons_succ])); (try dsimp only); change wpQuiet _ _ _ _ (_ :: _ :: _ :: _ :: _ :: _ :: _ :: _ :: _ :: _ :: []) _; (repeat (go_big_quiet_step (fail))); refine wpQuiet_nil ?_; (try dsimp only))
      clear c0 c1 q0 q1 q2 q3 q4
      go_wp2_with fail
      refine (HCC.out _ (HRW.out _ hS)).mono ?_
      rintro e w2 ⟨rfl, hb2⟩
      go_wp2_with fail
      have hS2 : Below w1.heap.size w1 w2 := hS.trans (hb2.mono hS.size)
      refine ⟨hS2, ?_⟩
      (unfold wpMixZ wpRd; (repeat (first | simp only [List.filterMap_cons] | simp only [List.filterMap_nil] | simp only [List.getElem?_toArray] | simp only [List.getElem?_cons_zero] | simp only [List.getElem?_cons_succ])); (try dsimp only); change wpQuiet _ _ _ _ (_ :: _ :: []) _; (repeat (go_big_quiet_step (fail))); refine wpQuiet_nil ?_; (try dsimp only))
      clear hN
      have hb := hb1.trans (hS2.mono hb1.size)
      have q4 : w2.cell? ⟨lb, i * 5 + 4, none⟩ = some (.int .i64 lu) := HQ.out.2.2.2.2.2 ⟨w2, hS2⟩
      have f4 : w2.frozen? ⟨lb, i * 5 + 4, none⟩ = false := (hb.frozen (p := ⟨lb, _, none⟩) hll).trans (HFZ.out _)
      have HB := Lib.hid hb
      clear hb hS2 hb2 hS
      go_wp2_with fail
      go_ret
      exact ⟨rfl, HST.out _ (HR.out.below HB.out), only_set (Only.of_below HB.out) _ _⟩

end Go.Proofs.YtcfmkmhibghaoaaDoor
