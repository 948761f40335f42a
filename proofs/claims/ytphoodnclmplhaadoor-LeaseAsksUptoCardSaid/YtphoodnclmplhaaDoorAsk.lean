/-
  LeaseAsks returns true for every operations, path, holder and fence whose texts are not longer than memory; what was in memory before the call stays as it was.
-/
import Derived.Test.YtphoodnclmplhaaDoorRf6
namespace Go.Proofs.YtphoodnclmplhaaDoor
open Go.RowKit

set_option maxRecDepth 100000 in
set_option maxHeartbeats 1600000 in
theorem asks_out (A : Option Addr) (c : Nat) (l : List LOp) (p holder : ByteArray) (fence : Int) (w : World) (hA : OpsIn A l w) (hn : l.length ≤ 9223372036854775807) (h : smallB l = false ∨ 400 < wrap64 (p.size + holder.size)) :
    Calls Tryd.prog 3 #[.slice A l.length c, .string p, .string holder, .int .i64 fence] w fun e w' => e = .returned (.bool true) ∧ Below w.heap.size w w' := by
  cases hs : smallB l
  · clear h
    go_enter Tryd.func3, Tryd.ntmps3
    go_wp2_with fail
    refine (new_any _).mono ?_
    rintro e w1 ⟨rfl, hT1, HB⟩
    go_wp2_with fail
    have HB1 : Below w.heap.size w (w1.alloc (.cells #[.int .i64 0, .slice none 0 0] 28)) := HB.alloc HB.size _
    refine (small_any A c l _ (hA.below HB1) (by omega)).mono ?_
    rw [hs]
    rintro e w2 ⟨rfl, HB2⟩
    have o2 := HB1.trans (HB2.mono HB1.size)
    go_wp2_with (go_at_call 9; refine (awake19_any _).mono ?_; rintro e w9 ⟨rfl, HB9⟩)
    go_ret
    exact ⟨rfl, o2.trans (HB9.mono o2.size)⟩
  · have h' : 400 < wrap64 (p.size + holder.size) := by
      rcases h with h | h
      · rw [hs] at h; cases h
      · exact h
    clear h
    go_enter Tryd.func3, Tryd.ntmps3
    go_wp2_with fail
    refine (new_any _).mono ?_
    rintro e w1 ⟨rfl, hT1, HB⟩
    go_wp2_with fail
    have HB1 : Below w.heap.size w (w1.alloc (.cells #[.int .i64 0, .slice none 0 0] 28)) := HB.alloc HB.size _
    refine (small_any A c l _ (hA.below HB1) (by omega)).mono ?_
    rw [hs]
    rintro e w2 ⟨rfl, HB2⟩
    have o2 := HB1.trans (HB2.mono HB1.size)
    go_wp2_with (go_at_call 9; refine (awake19_any _).mono ?_; rintro e w9 ⟨rfl, HB9⟩)
    go_ret
    exact ⟨rfl, o2.trans (HB9.mono o2.size)⟩

set_option maxRecDepth 100000 in
set_option maxHeartbeats 3200000 in
theorem asks_in (A : Option Addr) (c : Nat) (l : List LOp) (p holder : ByteArray) (fence : Int) (w : World) (hA : OpsIn A l w) (hn : l.length ≤ 90) (hs : smallB l = true) (g1 : wrap64 (p.size + holder.size) ≤ 400) (hg : G0 w)
    (hz : ∀ o ∈ l, o.p.size ≤ 1048576 ∧ o.h.size ≤ 1048576) :
    Calls Tryd.prog 3 #[.slice A l.length c, .string p, .string holder, .int .i64 fence] w fun e w' => e = .returned (.bool true) ∧ Below w.heap.size w w' := by
  have z1 : decide (400 < wrap64 (p.size + holder.size)) = false := by simp; omega
  have HZ := Lib.hid hz
  have HG := Lib.hid hg
  clear hz hg
  go_enter Tryd.func3, Tryd.ntmps3
  go_wp2_with fail
  refine (new_any _).mono ?_
  rintro e w1 ⟨rfl, hT1, HB⟩
  have HJ := Lib.hid (JS.new hT1 HB)
  clear hT1 HB
  go_wp2_with fail
  generalize w1.heap.size = r at *
  generalize w1.alloc (.cells #[.int .i64 0, .slice none 0 0] 28) = w2 at *
  refine (small_any A c l _ (hA.below HJ.out.old) (by omega)).mono ?_
  rw [hs]
  rintro e w3 ⟨rfl, HB2⟩
  have HJ3 := Lib.hid (HJ.out.below HB2)
  clear hs HB2 HJ
  go_wp2_with fail
  go_loopw [36] (fun i wr => ∃ (k lb : Nat) (T : Tab) (R : RTab), k ≤ l.length ∧ i = .int .i64 k ∧ JS k (w.heap.size + 1) w.heap.size r lb T R w wr) (fun i _ => l.length - (intOf i).toNat)
  case atStart => exact ⟨0, _, _, _, Nat.zero_le _, rfl, HJ3.out⟩
  case round =>
    clear HJ3
    obtain ⟨k, lb, T, R, hk, rfl, hJ⟩ := hrel
    have HJ := Lib.hid hJ
    by_cases hlt : k < l.length
    · obtain ⟨bo, off, rfl, hbo, hops⟩ := hA (by omega)
      obtain ⟨h0, h1, h2, h3, h4⟩ := (hops.below hJ.old hbo) k l[k] (List.getElem?_eq_getElem hlt)
      have hzk := HZ.out l[k] (List.getElem_mem hlt)
      generalize l[k] = o at *
      obtain ⟨kd, op, oh, ofe, on⟩ := o
      dsimp only at h0 h1 h2 h3 h4 hzk
      have hb4 : Below wr.heap.size wr (wr.alloc (.cells #[.int .i64 kd, .string op, .string oh, .int .i64 ofe, .int .i64 on] 32)) := below_box _ _
      have HJ4 := Lib.hid (hJ.below hb4)
      have k4 := (Box5.new wr (.int .i64 kd) (.string op) (.string oh) (.int .i64 ofe) (.int .i64 on) 32).cell5
      have hwl := hJ.old.size
      have hJ' : TabAt _ _ _ _ wr := hJ.t
      have hl1 := hJ'.lt
      have hl2 := hJ'.mp.lt
      have hl3 := hJ.rr.rlt
      have hl4 := hJ.rr.lt
      clear hb4 hJ hJ' HJ
      go_wp2_with fail
      generalize wr.alloc (.cells #[.int .i64 kd, .string op, .string oh, .int .i64 ofe, .int .i64 on] 32) = w4 at *
      refine (do_post _ _ T kd ofe on op oh w4 HJ4.out.t HJ4.out.inv.ok).mono ?_
      rintro e w5 ⟨rfl, hT5, hO5⟩
      have k5 := k4.only hO5 (by omega) (by omega)
      obtain ⟨hR5, hB5⟩ := HJ4.out.mid hO5
      have HO5 := Lib.hid hO5
      have HT5 := Lib.hid hT5
      have HR5 := Lib.hid hR5
      have hA5 : AcqH R op oh w5 := (HJ4.out.acqH HG.out (by omega) hzk.1 hzk.2).of_g0 (HG.out.below hB5)
      have HA5 := Lib.hid hA5
      (have k5' := k5; obtain ⟨d0, d1, d2, d3, d4, lt_k5, fz_k5⟩ := k5')
      clear h0 h1 h2 h3 h4 k4 hR5 hB5 hO5 hT5 hA5
      go_wp2_with fail
      refine (rdo_any r lb R kd ofe on op oh w5 HR5.out HA5.out).mono ?_
      rintro e w6 ⟨lb', rfl, hR6, hO6, hor⟩
      have HJ6 := Lib.hid (HJ4.out.next ⟨kd, op, oh, ofe, on⟩ hzk.1 HO5.out HT5.out hR6 hO6 hor).2
      clear hR6 hO6 hor d0 d1 d2 d3 d4 lt_k5 fz_k5 HO5 HT5 HR5 HA5 HJ4
      go_wp2_with fail
      go_roundw
      case rel => exact ⟨k + 1, lb', _, _, by omega, by go_num, HJ6.out⟩
      case measure => simp [intOf]; omega
    · have hge : l.length ≤ k := by omega
      clear hlt hJ
      have hcur := HJ.out.sim.lk p
      have hhas := HJ.out.has p holder fence
      have HC1 := Lib.hid (fun (y : World) (hy : JS k (w.heap.size + 1) w.heap.size r lb T R w y) => current_any _ _ T p y hy.t)
      have HC2 := Lib.hid (fun (y : World) (hy : JS k (w.heap.size + 1) w.heap.size r lb T R w y) => rcurrent_any r lb R p y hy.rr)
      have HH1 := Lib.hid (fun (y : World) (hy : JS k (w.heap.size + 1) w.heap.size r lb T R w y) => holds_any _ _ T p holder fence y hy.t)
      have HH2 := Lib.hid (fun (y : World) (hy : JS k (w.heap.size + 1) w.heap.size r lb T R w y) => rhas_any r lb R p holder fence y hy.rr)
      rw [hcur] at HC1
      rw [hhas] at HH1
      generalize rhas R p holder fence = v1 at HH1 HH2
      generalize (rlk R.log p).isSome = v2 at HC1 HC2
      generalize (rlk R.log p).getD zeroL = x at HC1 HC2
      obtain ⟨lp, lh, lf, ls, lu⟩ := x
      unfold Lease.val at HC1 HC2
      dsimp only at HC1 HC2
      clear hcur hhas
      go_wp2_with fail
      refine (HC1.out _ HJ.out).mono ?_
      rintro e w4 ⟨rfl, hb4⟩
      have hb4' : Below wr.heap.size wr (w4.alloc (.cells #[.string lp, .string lh, .int .i64 lf, .int .i64 ls, .int .i64 lu] 34)) := hb4.alloc hb4.size _
      have HJ4 := Lib.hid (HJ.out.below hb4')
      have k4 := (Box5.new w4 (.string lp) (.string lh) (.int .i64 lf) (.int .i64 ls) (.int .i64 lu) 34).cell5
      clear hb4 hb4' HJ
      go_wp2_with fail
      refine (HC2.out _ HJ4.out).mono ?_
      rintro e w5 ⟨rfl, hb5⟩
      have k5 := (k4.below hb5).alloc (.cells #[.string lp, .string lh, .int .i64 lf, .int .i64 ls, .int .i64 lu] 34)
      have j5 := (Box5.new w5 (.string lp) (.string lh) (.int .i64 lf) (.int .i64 ls) (.int .i64 lu) 34).cell5
      have HJ5 := Lib.hid ((HJ4.out.below hb5).below (below_box w5 (.cells #[.string lp, .string lh, .int .i64 lf, .int .i64 ls, .int .i64 lu] 34)))
      clear hb5 HJ4 k4
      cases v2
      all_goals
        (have k5' := k5; obtain ⟨d0, d1, d2, d3, d4, lt_k5, fz_k5⟩ := k5')
        (have j5' := j5; obtain ⟨e0, e1, e2, e3, e4, lt_j5, fz_j5⟩ := j5')
        go_wp2_with (first
          | (go_at_call 14; refine (HH1.out _ HJ5.out).mono ?_; rintro e w6 ⟨rfl, hb6⟩; have HJ6 := Lib.hid (HJ5.out.below hb6); clear hb6)
          | (go_at_call 15; refine (HH2.out _ HJ6.out).mono ?_; rintro e w7 ⟨rfl, hb7⟩; have HJ7 := Lib.hid (HJ6.out.below hb7); clear hb7; cases v1))
        all_goals
          go_wp2_with (go_at_call 9; refine (awake19_any _).mono ?_; rintro e w9 ⟨rfl, HB9⟩)
          go_ret
          exact ⟨rfl, HJ7.out.old.trans (HB9.mono HJ7.out.old.size)⟩

theorem asks_any (A : Option Addr) (c : Nat) (l : List LOp) (p holder : ByteArray) (fence : Int) (w : World) (hA : OpsIn A l w) (hn : l.length ≤ 9223372036854775807) (hg : G0 w)
    (hz : ∀ o ∈ l, o.p.size ≤ 1048576 ∧ o.h.size ≤ 1048576) :
    Calls Tryd.prog 3 #[.slice A l.length c, .string p, .string holder, .int .i64 fence] w fun e w' => e = .returned (.bool true) ∧ Below w.heap.size w w' := by
  by_cases h : smallB l = false ∨ 400 < wrap64 (p.size + holder.size)
  · exact asks_out A c l p holder fence w hA hn h
  · have hs : smallB l = true := by
      cases hv : smallB l
      · exact absurd (.inl hv) h
      · rfl
    have hs2 := hs
    unfold smallB at hs2
    rw [Bool.and_eq_true, decide_eq_true_eq] at hs2
    exact asks_in A c l p holder fence w hA hs2.2 hs (by omega) hg hz

end Go.Proofs.YtphoodnclmplhaaDoor
