/-
  LeaseEnds returns true for every operations, path, holder, fence and flag; what was in memory before the call stays as it was.
-/
import Derived.Test.YtnehjnaecgpkmaaExp
namespace Go.Proofs.Ytnehjnaecgpkmaa
open Go.RowKit

theorem look_put (L : List (ByteArray × Value)) (k : ByteArray) (v : Value) : look (put L k v) k = some v := by
  induction L with
  | nil => simp [put, look, ba_self]
  | cons x r ih =>
    unfold put
    cases h : (k == x.1)
    · simp only [Bool.false_eq_true, if_false]
      simpa [look, List.find?_cons, h] using ih
    · simp [look, ba_self]
def nextB : ByteArray := ⟨#[110, 101, 120, 116]⟩
theorem next_name : isNameB nextB = true := by decide
theorem one_term : isTermB 1 = true := by decide

set_option maxRecDepth 100000 in
set_option maxHeartbeats 800000 in
theorem ends_out (A : Option Addr) (c : Nat) (l : List LOp) (p holder : ByteArray) (fence : Int) (brk : Bool) (w : World) (hA : OpsIn A l w) (hn : l.length ≤ 9223372036854775807) (h : smallB l = false ∨ 400 < wrap64 (p.size + holder.size)) :
    Calls Try.prog 9 #[.slice A l.length c, .string p, .string holder, .int .i64 fence, .bool brk] w fun e w' => e = .returned (.bool true) ∧ Below w.heap.size w w' := by
  cases hs : smallB l
  · clear h
    go_enter Try.func9, Try.ntmps9
    go_wp2_with fail
    refine (new_any _).mono ?_
    rintro e w1 ⟨rfl, hT1, HB⟩
    go_wp2_with fail
    refine (small_any A c l _ (hA.below HB) (by omega)).mono ?_
    rw [hs]
    rintro e w2 ⟨rfl, HB2⟩
    have o2 := HB.trans (HB2.mono HB.size)
    go_wp2_with (go_at_call 22; refine (awake19_any _).mono ?_; rintro e w9 ⟨rfl, HB9⟩)
    go_ret
    exact ⟨rfl, o2.trans (HB9.mono o2.size)⟩
  · have h' : 400 < wrap64 (p.size + holder.size) := by
      rcases h with h | h
      · rw [hs] at h; cases h
      · exact h
    clear h
    go_enter Try.func9, Try.ntmps9
    go_wp2_with fail
    refine (new_any _).mono ?_
    rintro e w1 ⟨rfl, hT1, HB⟩
    go_wp2_with fail
    refine (small_any A c l _ (hA.below HB) (by omega)).mono ?_
    rw [hs]
    rintro e w2 ⟨rfl, HB2⟩
    have o2 := HB.trans (HB2.mono HB.size)
    go_wp2_with (go_at_call 22; refine (awake19_any _).mono ?_; rintro e w9 ⟨rfl, HB9⟩)
    go_ret
    exact ⟨rfl, o2.trans (HB9.mono o2.size)⟩

set_option maxRecDepth 100000 in
set_option maxHeartbeats 3200000 in
theorem ends_in (A : Option Addr) (c : Nat) (l : List LOp) (p holder : ByteArray) (fence : Int) (brk : Bool) (w : World) (hA : OpsIn A l w) (hn : l.length ≤ 90) (hs : smallB l = true) (g1 : wrap64 (p.size + holder.size) ≤ 400) :
    Calls Try.prog 9 #[.slice A l.length c, .string p, .string holder, .int .i64 fence, .bool brk] w fun e w' => e = .returned (.bool true) ∧ Below w.heap.size w w' := by
  have z1 : decide (400 < wrap64 (p.size + holder.size)) = false := by simp; omega
  go_enter Try.func9, Try.ntmps9
  go_wp2_with fail
  refine (new_any _).mono ?_
  rintro e w1 ⟨rfl, hT1, HB⟩
  go_wp2_with fail
  refine (small_any A c l _ (hA.below HB) (by omega)).mono ?_
  rw [hs]
  rintro e w2 ⟨rfl, HB2⟩
  have o2 := HB.trans (HB2.mono HB.size)
  have hT2 : TabT (w.heap.size + 1) w.heap.size ⟨0, []⟩ w2 := TabAt.after hT1 HB2
  go_wp2_with fail
  clear hs HB HB2 hT1
  go_loopw [40] (fun i wr => ∃ k : Nat, k ≤ l.length ∧ i = .int .i64 k ∧ TabT (w.heap.size + 1) w.heap.size (runT ⟨0, []⟩ (l.take k)) wr ∧ Below w.heap.size w wr) (fun i _ => l.length - (intOf i).toNat)
  case atStart => exact ⟨0, Nat.zero_le _, rfl, hT2, o2⟩
  case round =>
    clear hT2 o2
    obtain ⟨k, hk, rfl, hT, hB⟩ := hrel
    by_cases hlt : k < l.length
    · obtain ⟨bo, off, rfl, hbo, hops⟩ := hA (by omega)
      obtain ⟨h0, h1, h2, h3, h4⟩ := (hops.below hB hbo) k l[k] (List.getElem?_eq_getElem hlt)
      have hinv := inv_run inv_new (l.take k)
      have hr := Lib.hid (runT_snoc ⟨0, []⟩ l k hlt)
      go_wp2_with fail
      refine (do_post _ _ _ _ _ _ _ _ _ (TabAt.alloc hT _) hinv.ok).mono ?_
      rintro e w3 ⟨rfl, hT3, hO3⟩
      have o3 := only_old (hB.alloc hB.size _) hO3 (by omega) (by omega)
      clear h0 h1 h2 h3 h4
      go_wp2_with fail
      go_roundw
      case rel => exact ⟨k + 1, by omega, by go_num, by rw [hr.out]; exact hT3, o3⟩
      case measure => simp [intOf]; omega
    · have hge : l.length ≤ k := by omega
      clear hlt
      have hinv := inv_run inv_new l
      rw [List.take_of_length_le hge] at hT
      generalize runT ⟨0, []⟩ l = T at hT hinv
      have hTT : TabAt (w.heap.size + 1) w.heap.size T.clk (encL T.m) wr := hT
      have l1 := hTT.lt
      have l2 := hTT.mp.lt
      cases hl : lk T.m p with
      | none =>
        have hl' : look (encL T.m) p = none := by rw [look_enc, hl]; rfl
        cases brk
        · go_wp2_with fail
          refine (current_none _ _ _ _ p _ hTT hl').mono ?_
          rintro e w3 ⟨rfl, HB3⟩
          have o3 := (hB.trans (HB3.mono hB.size)).alloc (hB.trans (HB3.mono hB.size)).size (.cells #[.string ⟨#[]⟩, .string ⟨#[]⟩, .int .i64 0, .int .i64 0, .int .i64 0] 43)
          have t3 := (hTT.after HB3).alloc (.cells #[.string ⟨#[]⟩, .string ⟨#[]⟩, .int .i64 0, .int .i64 0, .int .i64 0] 43)
          have k3 := (Box5.new w3 (.string ⟨#[]⟩) (.string ⟨#[]⟩) (.int .i64 0) (.int .i64 0) (.int .i64 0) 43).cell5
          go_wp2_with fail
          refine (holds_none _ _ _ _ p _ _ _ t3 hl').mono ?_
          rintro e w4 ⟨rfl, HB4⟩
          have o4 := o3.trans (HB4.mono o3.size)
          have t4 := t3.after HB4
          have k4 := k3.below HB4
          go_wp2_with fail
          refine (holds_none _ _ _ _ p _ _ _ t4 hl').mono ?_
          rintro e w5 ⟨rfl, HB5⟩
          have o5 := o4.trans (HB5.mono o4.size)
          have t5 := t4.after HB5
          have k5 := k4.below HB5
          go_wp2_with fail
          refine (release_none _ _ _ _ p holder fence _ t5 hl').mono ?_
          rintro e w6 ⟨rfl, HB6⟩
          have o6 := o5.trans (HB6.mono o5.size)
          have t6 := t5.after HB6
          have k6 := k5.below HB6
          go_wp2_with fail
          refine (current_none _ _ _ _ p _ t6 hl').mono ?_
          rintro e w7 ⟨rfl, HB7⟩
          have o7 := o6.trans (HB7.mono o6.size)
          have k7 := k6.below HB7
          (have k7' := k7; obtain ⟨d0, d1, d2, d3, d4, lt_k7, fz_k7⟩ := k7')
          go_wp2_with (go_at_call 22; refine (awake19_any _).mono ?_; rintro e w9 ⟨rfl, HB9⟩)
          go_ret
          exact ⟨rfl, (o7.alloc o7.size _).trans (HB9.mono (by simp; have := o7.size; omega))⟩
        · go_wp2_with fail
          refine (current_none _ _ _ _ p _ hTT hl').mono ?_
          rintro e w3 ⟨rfl, HB3⟩
          have o3 := (hB.trans (HB3.mono hB.size)).alloc (hB.trans (HB3.mono hB.size)).size (.cells #[.string ⟨#[]⟩, .string ⟨#[]⟩, .int .i64 0, .int .i64 0, .int .i64 0] 43)
          have t3 := (hTT.after HB3).alloc (.cells #[.string ⟨#[]⟩, .string ⟨#[]⟩, .int .i64 0, .int .i64 0, .int .i64 0] 43)
          have k3 := (Box5.new w3 (.string ⟨#[]⟩) (.string ⟨#[]⟩) (.int .i64 0) (.int .i64 0) (.int .i64 0) 43).cell5
          go_wp2_with fail
          refine (holds_none _ _ _ _ p _ _ _ t3 hl').mono ?_
          rintro e w4 ⟨rfl, HB4⟩
          have o4 := o3.trans (HB4.mono o3.size)
          have t4 := t3.after HB4
          have k4 := k3.below HB4
          go_wp2_with fail
          refine (holds_none _ _ _ _ p _ _ _ t4 hl').mono ?_
          rintro e w5 ⟨rfl, HB5⟩
          have o5 := o4.trans (HB5.mono o4.size)
          have t5 := t4.after HB5
          have k5 := k4.below HB5
          go_wp2_with fail
          refine (break_none _ _ _ _ p _ t5 hl').mono ?_
          rintro e w6 ⟨rfl, HB6⟩
          have o6 := o5.trans (HB6.mono o5.size)
          have t6 := t5.after HB6
          have k6 := k5.below HB6
          go_wp2_with fail
          refine (current_none _ _ _ _ p _ t6 hl').mono ?_
          rintro e w7 ⟨rfl, HB7⟩
          have o7 := o6.trans (HB7.mono o6.size)
          have k7 := k6.below HB7
          (have k7' := k7; obtain ⟨d0, d1, d2, d3, d4, lt_k7, fz_k7⟩ := k7')
          go_wp2_with (go_at_call 22; refine (awake19_any _).mono ?_; rintro e w9 ⟨rfl, HB9⟩)
          go_ret
          exact ⟨rfl, (o7.alloc o7.size _).trans (HB9.mono (by simp; have := o7.size; omega))⟩
      | some x =>
        have hf := hinv.found hl
        obtain ⟨lp, lh, lf, ls, lu⟩ := x
        have hl' : look (encL T.m) p = some (.agg #[.string lp, .string lh, .int .i64 lf, .int .i64 ls, .int .i64 lu]) := by rw [look_enc, hl]; rfl
        obtain ⟨hpath, hisP, hnm, hf0, hf1, hs0, hs1⟩ := hf
        dsimp only at hpath hisP hnm hf0 hf1 hs0 hs1
        have HP := Lib.hid hpath
        have HI := Lib.hid hisP
        clear hpath hisP hnm
        have hc0 := hinv.c0
        have hc1 := hinv.c1
        have e1 : hldB T.clk lh lf ls lu lh lf = hNow T.clk ls lu := by simp [hldB]
        have v1 : Hid (hldB T.clk lh lf ls lu lh lf = hNow T.clk ls lu) := e1
        obtain ⟨ow, how⟩ : ∃ ow, hldB T.clk lh lf ls lu holder fence = ow := ⟨_, rfl⟩
        have v2 := Lib.hid how
        clear how
        clear e1
        cases brk
        · cases hv : hldB T.clk lh lf ls lu holder fence
          · have v3 : Hid (hldB T.clk lh lf ls lu holder fence = false) := hv
            clear hv
            go_wp2_with fail
            refine (current_some _ _ _ _ p lp lh lf ls lu _ hTT hl').mono ?_
            rintro e w3 ⟨rfl, HB3⟩
            have o3 := (hB.trans (HB3.mono hB.size)).alloc (hB.trans (HB3.mono hB.size)).size (.cells #[.string lp, .string lh, .int .i64 lf, .int .i64 ls, .int .i64 lu] 43)
            have t3 := (hTT.after HB3).alloc (.cells #[.string lp, .string lh, .int .i64 lf, .int .i64 ls, .int .i64 lu] 43)
            have k3 := (Box5.new w3 (.string lp) (.string lh) (.int .i64 lf) (.int .i64 ls) (.int .i64 lu) 43).cell5
            have l3 := HB3.size
            go_wp2_with fail
            refine (holds_some _ t3 hl' v1.out).mono ?_
            rintro e w4 ⟨rfl, HB4⟩
            have o4 := o3.trans (HB4.mono o3.size)
            have t4 := t3.after HB4
            have k4 := k3.below HB4
            go_wp2_with fail
            refine (holds_some _ t4 hl' v3.out).mono ?_
            rintro e w5 ⟨rfl, HB5⟩
            have o5 := o4.trans (HB5.mono o4.size)
            have t5 := t4.after HB5
            have k5 := k4.below HB5
            go_wp2_with fail
            refine (release_no _ t5 hl' v3.out).mono ?_
            rintro e w6 ⟨rfl, HB6⟩
            have o6 := o5.trans (HB6.mono o5.size)
            have t6 := t5.after HB6
            have k6 := k5.below HB6
            go_wp2_with fail
            refine (current_some _ _ _ _ p lp lh lf ls lu _ t6 hl').mono ?_
            rintro e w7 ⟨rfl, HB7⟩
            have o7 := o6.trans (HB7.mono o6.size)
            have k7 := k6.below HB7
            (have k7' := k7; obtain ⟨d0, d1, d2, d3, d4, lt_k7, fz_k7⟩ := k7')
            go_wp2_with (go_at_call 22; refine (awake19_any _).mono ?_; rintro e w9 ⟨rfl, HB9⟩)
            go_ret
            exact ⟨rfl, (o7.alloc o7.size _).trans (HB9.mono (by simp; have := o7.size; omega))⟩
          · have v3 : Hid (hldB T.clk lh lf ls lu holder fence = true) := hv
            clear hv
            go_wp2_with fail
            refine (current_some _ _ _ _ p lp lh lf ls lu _ hTT hl').mono ?_
            rintro e w3 ⟨rfl, HB3⟩
            have o3 := (hB.trans (HB3.mono hB.size)).alloc (hB.trans (HB3.mono hB.size)).size (.cells #[.string lp, .string lh, .int .i64 lf, .int .i64 ls, .int .i64 lu] 43)
            have t3 := (hTT.after HB3).alloc (.cells #[.string lp, .string lh, .int .i64 lf, .int .i64 ls, .int .i64 lu] 43)
            have k3 := (Box5.new w3 (.string lp) (.string lh) (.int .i64 lf) (.int .i64 ls) (.int .i64 lu) 43).cell5
            have l3 := HB3.size
            go_wp2_with fail
            refine (holds_some _ t3 hl' v1.out).mono ?_
            rintro e w4 ⟨rfl, HB4⟩
            have o4 := o3.trans (HB4.mono o3.size)
            have t4 := t3.after HB4
            have k4 := k3.below HB4
            go_wp2_with fail
            refine (holds_some _ t4 hl' v3.out).mono ?_
            rintro e w5 ⟨rfl, HB5⟩
            have o5 := o4.trans (HB5.mono o4.size)
            have t5 := t4.after HB5
            have k5 := k4.below HB5
            go_wp2_with fail
            refine (release_yes _ t5 hl' v3.out).mono ?_
            rintro e w6 ⟨rfl, t6', hO6⟩
            have t6 : TabAt (w.heap.size + 1) w.heap.size T.clk (put (encL T.m) p (.agg #[.string p, .string lh, .int .i64 lf, .int .i64 ls, .int .i64 T.clk])) w6 := by rw [HP.out] at t6'; exact t6'
            clear t6'
            have o6 := only_old o5 hO6 (by omega) (by omega)
            have k6 := k5.only hO6 (by omega) (by omega)
            have hw : hNow T.clk ls T.clk = false := by simp [hNow]
            have hz6 := hO6.size
            have hz5 := HB5.size
            have hz4 := HB4.size
            go_wp2_with fail
            refine (acq_next _ _ _ _ p nextB 1 _ t6 hc0 hc1 HI.out next_name one_term p lh lf ls T.clk (look_put _ _ _) hw (by omega) (by omega)).mono ?_
            rintro e w7 ⟨rfl, t7, hO7⟩
            have o7 := only_old o6 hO7 (by omega) (by omega)
            have k7 := k6.only hO7 (by omega) (by omega)
            have hw2 : Hid (w3.heap.size < w7.heap.size) := k7.lt
            clear hw
            go_wp2_with fail
            have hS : TC2 (w.heap.size + 1) w.heap.size T.clk (put (put (encL T.m) p (.agg #[.string p, .string lh, .int .i64 lf, .int .i64 ls, .int .i64 T.clk])) p (.agg #[.string p, .string nextB, .int .i64 (lf + 1), .int .i64 T.clk, .int .i64 (T.clk + 1)])) w3.heap.size (.string lp) (.string lh) (.int .i64 lf) (.int .i64 ls) (.int .i64 lu) w7.heap.size (.string p) (.string nextB) (.int .i64 (lf + 1)) (.int .i64 T.clk) (.int .i64 (T.clk + 1)) w (w7.alloc (.cells #[.string p, .string nextB, .int .i64 (lf + 1), .int .i64 T.clk, .int .i64 (T.clk + 1)] 43)).drew := ⟨(t7.alloc _).drew, (k7.alloc _).drew, (Box5.new w7 _ _ _ _ _ _).cell5.drew, (o7.alloc o7.size _).drew⟩
            (refine wp_region_s (S := TC2 (w.heap.size + 1) w.heap.size T.clk (put (put (encL T.m) p (.agg #[.string p, .string lh, .int .i64 lf, .int .i64 ls, .int .i64 T.clk])) p (.agg #[.string p, .string nextB, .int .i64 (lf + 1), .int .i64 T.clk, .int .i64 (T.clk + 1)])) w3.heap.size (.string lp) (.string lh) (.int .i64 lf) (.int .i64 ls) (.int .i64 lu) w7.heap.size (.string p) (.string nextB) (.int .i64 (lf + 1)) (.int .i64 T.clk) (.int .i64 (T.clk + 1)) w) (by kernel_rfl) (by kernel_rfl) hS ?_; have hN : Nonempty (Held (TC2 (w.heap.size + 1) w.heap.size T.clk (put (put (encL T.m) p (.agg #[.string p, .string lh, .int .i64 lf, .int .i64 ls, .int .i64 T.clk])) p (.agg #[.string p, .string nextB, .int .i64 (lf + 1), .int .i64 T.clk, .int .i64 (T.clk + 1)])) w3.heap.size (.string lp) (.string lh) (.int .i64 lf) (.int .i64 ls) (.int .i64 lu) w7.heap.size (.string p) (.string nextB) (.int .i64 (lf + 1)) (.int .i64 T.clk) (.int .i64 (T.clk + 1)) w)) := ⟨⟨_, hS⟩⟩; (have r0 := fun y : Held (TC2 (w.heap.size + 1) w.heap.size T.clk (put (put (encL T.m) p (.agg #[.string p, .string lh, .int .i64 lf, .int .i64 ls, .int .i64 T.clk])) p (.agg #[.string p, .string nextB, .int .i64 (lf + 1), .int .i64 T.clk, .int .i64 (T.clk + 1)])) w3.heap.size (.string lp) (.string lh) (.int .i64 lf) (.int .i64 ls) (.int .i64 lu) w7.heap.size (.string p) (.string nextB) (.int .i64 (lf + 1)) (.int .i64 T.clk) (.int .i64 (T.clk + 1)) w) => y.ok.k.c0; have s0 := fun y : Held (TC2 (w.heap.size + 1) w.heap.size T.clk (put (put (encL T.m) p (.agg #[.string p, .string lh, .int .i64 lf, .int .i64 ls, .int .i64 T.clk])) p (.agg #[.string p, .string nextB, .int .i64 (lf + 1), .int .i64 T.clk, .int .i64 (T.clk + 1)])) w3.heap.size (.string lp) (.string lh) (.int .i64 lf) (.int .i64 ls) (.int .i64 lu) w7.heap.size (.string p) (.string nextB) (.int .i64 (lf + 1)) (.int .i64 T.clk) (.int .i64 (T.clk + 1)) w) => y.ok.j.c0; have r1 := fun y : Held (TC2 (w.heap.size + 1) w.heap.size T.clk (put (put (encL T.m) p (.agg #[.string p, .string lh, .int .i64 lf, .int .i64 ls, .int .i64 T.clk])) p (.agg #[.string p, .string nextB, .int .i64 (lf + 1), .int .i64 T.clk, .int .i64 (T.clk + 1)])) w3.heap.size (.string lp) (.string lh) (.int .i64 lf) (.int .i64 ls) (.int .i64 lu) w7.heap.size (.string p) (.string nextB) (.int .i64 (lf + 1)) (.int .i64 T.clk) (.int .i64 (T.clk + 1)) w) => y.ok.k.c1; have s1 := fun y : Held (TC2 (w.heap.size + 1) w.heap.size T.clk (put (put (encL T.m) p (.agg #[.string p, .string lh, .int .i64 lf, .int .i64 ls, .int .i64 T.clk])) p (.agg #[.string p, .string nextB, .int .i64 (lf + 1), .int .i64 T.clk, .int .i64 (T.clk + 1)])) w3.heap.size (.string lp) (.string lh) (.int .i64 lf) (.int .i64 ls) (.int .i64 lu) w7.heap.size (.string p) (.string nextB) (.int .i64 (lf + 1)) (.int .i64 T.clk) (.int .i64 (T.clk + 1)) w) => y.ok.j.c1; have r2 := fun y : Held (TC2 (w.heap.size + 1) w.heap.size T.clk (put (put (encL T.m) p (.agg #[.string p, .string lh, .int .i64 lf, .int .i64 ls, .int .i64 T.clk])) p (.agg #[.string p, .string nextB, .int .i64 (lf + 1), .int .i64 T.clk, .int .i64 (T.clk + 1)])) w3.heap.size (.string lp) (.string lh) (.int .i64 lf) (.int .i64 ls) (.int .i64 lu) w7.heap.size (.string p) (.string nextB) (.int .i64 (lf + 1)) (.int .i64 T.clk) (.int .i64 (T.clk + 1)) w) => y.ok.k.c2; have s2 := fun y : Held (TC2 (w.heap.size + 1) w.heap.size T.clk (put (put (encL T.m) p (.agg #[.string p, .string lh, .int .i64 lf, .int .i64 ls, .int .i64 T.clk])) p (.agg #[.string p, .string nextB, .int .i64 (lf + 1), .int .i64 T.clk, .int .i64 (T.clk + 1)])) w3.heap.size (.string lp) (.string lh) (.int .i64 lf) (.int .i64 ls) (.int .i64 lu) w7.heap.size (.string p) (.string nextB) (.int .i64 (lf + 1)) (.int .i64 T.clk) (.int .i64 (T.clk + 1)) w) => y.ok.j.c2; have r3 := fun y : Held (TC2 (w.heap.size + 1) w.heap.size T.clk (put (put (encL T.m) p (.agg #[.string p, .string lh, .int .i64 lf, .int .i64 ls, .int .i64 T.clk])) p (.agg #[.string p, .string nextB, .int .i64 (lf + 1), .int .i64 T.clk, .int .i64 (T.clk + 1)])) w3.heap.size (.string lp) (.string lh) (.int .i64 lf) (.int .i64 ls) (.int .i64 lu) w7.heap.size (.string p) (.string nextB) (.int .i64 (lf + 1)) (.int .i64 T.clk) (.int .i64 (T.clk + 1)) w) => y.ok.k.c3; have s3 := fun y : Held (TC2 (w.heap.size + 1) w.heap.size T.clk (put (put (encL T.m) p (.agg #[.string p, .string lh, .int .i64 lf, .int .i64 ls, .int .i64 T.clk])) p (.agg #[.string p, .string nextB, .int .i64 (lf + 1), .int .i64 T.clk, .int .i64 (T.clk + 1)])) w3.heap.size (.string lp) (.string lh) (.int .i64 lf) (.int .i64 ls) (.int .i64 lu) w7.heap.size (.string p) (.string nextB) (.int .i64 (lf + 1)) (.int .i64 T.clk) (.int .i64 (T.clk + 1)) w) => y.ok.j.c3; have r4 := fun y : Held (TC2 (w.heap.size + 1) w.heap.size T.clk (put (put (encL T.m) p (.agg #[.string p, .string lh, .int .i64 lf, .int .i64 ls, .int .i64 T.clk])) p (.agg #[.string p, .string nextB, .int .i64 (lf + 1), .int .i64 T.clk, .int .i64 (T.clk + 1)])) w3.heap.size (.string lp) (.string lh) (.int .i64 lf) (.int .i64 ls) (.int .i64 lu) w7.heap.size (.string p) (.string nextB) (.int .i64 (lf + 1)) (.int .i64 T.clk) (.int .i64 (T.clk + 1)) w) => y.ok.k.c4; have s4 := fun y : Held (TC2 (w.heap.size + 1) w.heap.size T.clk (put (put (encL T.m) p (.agg #[.string p, .string lh, .int .i64 lf, .int .i64 ls, .int .i64 T.clk])) p (.agg #[.string p, .string nextB, .int .i64 (lf + 1), .int .i64 T.clk, .int .i64 (T.clk + 1)])) w3.heap.size (.string lp) (.string lh) (.int .i64 lf) (.int .i64 ls) (.int .i64 lu) w7.heap.size (.string p) (.string nextB) (.int .i64 (lf + 1)) (.int .i64 T.clk) (.int .i64 (T.clk + 1)) w) => y.ok.j.c4); (repeat (go_big_quiet_step (first | (go_at_call 25; exact held_same (now_any _ _ _ _ _ (TC2.t (Held.ok _)))) | (go_at_call 22; exact held_below (fun _ _ h h' => h.after h') (awake19_any _))))); refine wpQuiet_nil ?_; rintro _ ⟨⟨x, hx⟩, rfl⟩; clear hN)
            clear r0 r1 r2 r3 r4 s0 s1 s2 s3 s4
            go_wp2_with fail
            go_ret
            exact ⟨rfl, hx.o⟩
        · cases hv : hNow T.clk ls lu
          · have v4 : Hid (hNow T.clk ls lu = false) := hv
            have v5 : Hid (hldB T.clk lh lf ls lu lh lf = false) := v1.out.trans hv
            clear hv
            go_wp2_with fail
            refine (current_some _ _ _ _ p lp lh lf ls lu _ hTT hl').mono ?_
            rintro e w3 ⟨rfl, HB3⟩
            have o3 := (hB.trans (HB3.mono hB.size)).alloc (hB.trans (HB3.mono hB.size)).size (.cells #[.string lp, .string lh, .int .i64 lf, .int .i64 ls, .int .i64 lu] 43)
            have t3 := (hTT.after HB3).alloc (.cells #[.string lp, .string lh, .int .i64 lf, .int .i64 ls, .int .i64 lu] 43)
            have k3 := (Box5.new w3 (.string lp) (.string lh) (.int .i64 lf) (.int .i64 ls) (.int .i64 lu) 43).cell5
            have l3 := HB3.size
            go_wp2_with fail
            refine (holds_some _ t3 hl' v5.out).mono ?_
            rintro e w4 ⟨rfl, HB4⟩
            have o4 := o3.trans (HB4.mono o3.size)
            have t4 := t3.after HB4
            have k4 := k3.below HB4
            go_wp2_with fail
            refine (holds_some _ t4 hl' v2.out).mono ?_
            rintro e w5 ⟨rfl, HB5⟩
            have o5 := o4.trans (HB5.mono o4.size)
            have t5 := t4.after HB5
            have k5 := k4.below HB5
            go_wp2_with fail
            refine (break_no _ t5 hl' v4.out).mono ?_
            rintro e w6 ⟨rfl, HB6⟩
            have o6 := o5.trans (HB6.mono o5.size)
            have t6 := t5.after HB6
            have k6 := k5.below HB6
            go_wp2_with fail
            refine (current_some _ _ _ _ p lp lh lf ls lu _ t6 hl').mono ?_
            rintro e w7 ⟨rfl, HB7⟩
            have o7 := o6.trans (HB7.mono o6.size)
            have k7 := k6.below HB7
            (have k7' := k7; obtain ⟨d0, d1, d2, d3, d4, lt_k7, fz_k7⟩ := k7')
            go_wp2_with (go_at_call 22; refine (awake19_any _).mono ?_; rintro e w9 ⟨rfl, HB9⟩)
            go_ret
            exact ⟨rfl, (o7.alloc o7.size _).trans (HB9.mono (by simp; have := o7.size; omega))⟩
          · have v4 : Hid (hNow T.clk ls lu = true) := hv
            have v5 : Hid (hldB T.clk lh lf ls lu lh lf = true) := v1.out.trans hv
            clear hv
            go_wp2_with fail
            refine (current_some _ _ _ _ p lp lh lf ls lu _ hTT hl').mono ?_
            rintro e w3 ⟨rfl, HB3⟩
            have o3 := (hB.trans (HB3.mono hB.size)).alloc (hB.trans (HB3.mono hB.size)).size (.cells #[.string lp, .string lh, .int .i64 lf, .int .i64 ls, .int .i64 lu] 43)
            have t3 := (hTT.after HB3).alloc (.cells #[.string lp, .string lh, .int .i64 lf, .int .i64 ls, .int .i64 lu] 43)
            have k3 := (Box5.new w3 (.string lp) (.string lh) (.int .i64 lf) (.int .i64 ls) (.int .i64 lu) 43).cell5
            have l3 := HB3.size
            go_wp2_with fail
            refine (holds_some _ t3 hl' v5.out).mono ?_
            rintro e w4 ⟨rfl, HB4⟩
            have o4 := o3.trans (HB4.mono o3.size)
            have t4 := t3.after HB4
            have k4 := k3.below HB4
            go_wp2_with fail
            refine (holds_some _ t4 hl' v2.out).mono ?_
            rintro e w5 ⟨rfl, HB5⟩
            have o5 := o4.trans (HB5.mono o4.size)
            have t5 := t4.after HB5
            have k5 := k4.below HB5
            go_wp2_with fail
            refine (break_yes _ t5 hl' v4.out).mono ?_
            rintro e w6 ⟨rfl, t6', hO6⟩
            have t6 : TabAt (w.heap.size + 1) w.heap.size T.clk (put (encL T.m) p (.agg #[.string p, .string lh, .int .i64 lf, .int .i64 ls, .int .i64 T.clk])) w6 := by rw [HP.out] at t6'; exact t6'
            clear t6'
            have o6 := only_old o5 hO6 (by omega) (by omega)
            have k6 := k5.only hO6 (by omega) (by omega)
            have hw : hNow T.clk ls T.clk = false := by simp [hNow]
            have hz6 := hO6.size
            have hz5 := HB5.size
            have hz4 := HB4.size
            go_wp2_with fail
            refine (acq_next _ _ _ _ p nextB 1 _ t6 hc0 hc1 HI.out next_name one_term p lh lf ls T.clk (look_put _ _ _) hw (by omega) (by omega)).mono ?_
            rintro e w7 ⟨rfl, t7, hO7⟩
            have o7 := only_old o6 hO7 (by omega) (by omega)
            have k7 := k6.only hO7 (by omega) (by omega)
            have hw2 : Hid (w3.heap.size < w7.heap.size) := k7.lt
            clear hw
            go_wp2_with fail
            have hS : TC2 (w.heap.size + 1) w.heap.size T.clk (put (put (encL T.m) p (.agg #[.string p, .string lh, .int .i64 lf, .int .i64 ls, .int .i64 T.clk])) p (.agg #[.string p, .string nextB, .int .i64 (lf + 1), .int .i64 T.clk, .int .i64 (T.clk + 1)])) w3.heap.size (.string lp) (.string lh) (.int .i64 lf) (.int .i64 ls) (.int .i64 lu) w7.heap.size (.string p) (.string nextB) (.int .i64 (lf + 1)) (.int .i64 T.clk) (.int .i64 (T.clk + 1)) w (w7.alloc (.cells #[.string p, .string nextB, .int .i64 (lf + 1), .int .i64 T.clk, .int .i64 (T.clk + 1)] 43)).drew := ⟨(t7.alloc _).drew, (k7.alloc _).drew, (Box5.new w7 _ _ _ _ _ _).cell5.drew, (o7.alloc o7.size _).drew⟩
            (refine wp_region_s (S := TC2 (w.heap.size + 1) w.heap.size T.clk (put (put (encL T.m) p (.agg #[.string p, .string lh, .int .i64 lf, .int .i64 ls, .int .i64 T.clk])) p (.agg #[.string p, .string nextB, .int .i64 (lf + 1), .int .i64 T.clk, .int .i64 (T.clk + 1)])) w3.heap.size (.string lp) (.string lh) (.int .i64 lf) (.int .i64 ls) (.int .i64 lu) w7.heap.size (.string p) (.string nextB) (.int .i64 (lf + 1)) (.int .i64 T.clk) (.int .i64 (T.clk + 1)) w) (by kernel_rfl) (by kernel_rfl) hS ?_; have hN : Nonempty (Held (TC2 (w.heap.size + 1) w.heap.size T.clk (put (put (encL T.m) p (.agg #[.string p, .string lh, .int .i64 lf, .int .i64 ls, .int .i64 T.clk])) p (.agg #[.string p, .string nextB, .int .i64 (lf + 1), .int .i64 T.clk, .int .i64 (T.clk + 1)])) w3.heap.size (.string lp) (.string lh) (.int .i64 lf) (.int .i64 ls) (.int .i64 lu) w7.heap.size (.string p) (.string nextB) (.int .i64 (lf + 1)) (.int .i64 T.clk) (.int .i64 (T.clk + 1)) w)) := ⟨⟨_, hS⟩⟩; (have r0 := fun y : Held (TC2 (w.heap.size + 1) w.heap.size T.clk (put (put (encL T.m) p (.agg #[.string p, .string lh, .int .i64 lf, .int .i64 ls, .int .i64 T.clk])) p (.agg #[.string p, .string nextB, .int .i64 (lf + 1), .int .i64 T.clk, .int .i64 (T.clk + 1)])) w3.heap.size (.string lp) (.string lh) (.int .i64 lf) (.int .i64 ls) (.int .i64 lu) w7.heap.size (.string p) (.string nextB) (.int .i64 (lf + 1)) (.int .i64 T.clk) (.int .i64 (T.clk + 1)) w) => y.ok.k.c0; have s0 := fun y : Held (TC2 (w.heap.size + 1) w.heap.size T.clk (put (put (encL T.m) p (.agg #[.string p, .string lh, .int .i64 lf, .int .i64 ls, .int .i64 T.clk])) p (.agg #[.string p, .string nextB, .int .i64 (lf + 1), .int .i64 T.clk, .int .i64 (T.clk + 1)])) w3.heap.size (.string lp) (.string lh) (.int .i64 lf) (.int .i64 ls) (.int .i64 lu) w7.heap.size (.string p) (.string nextB) (.int .i64 (lf + 1)) (.int .i64 T.clk) (.int .i64 (T.clk + 1)) w) => y.ok.j.c0; have r1 := fun y : Held (TC2 (w.heap.size + 1) w.heap.size T.clk (put (put (encL T.m) p (.agg #[.string p, .string lh, .int .i64 lf, .int .i64 ls, .int .i64 T.clk])) p (.agg #[.string p, .string nextB, .int .i64 (lf + 1), .int .i64 T.clk, .int .i64 (T.clk + 1)])) w3.heap.size (.string lp) (.string lh) (.int .i64 lf) (.int .i64 ls) (.int .i64 lu) w7.heap.size (.string p) (.string nextB) (.int .i64 (lf + 1)) (.int .i64 T.clk) (.int .i64 (T.clk + 1)) w) => y.ok.k.c1; have s1 := fun y : Held (TC2 (w.heap.size + 1) w.heap.size T.clk (put (put (encL T.m) p (.agg #[.string p, .string lh, .int .i64 lf, .int .i64 ls, .int .i64 T.clk])) p (.agg #[.string p, .string nextB, .int .i64 (lf + 1), .int .i64 T.clk, .int .i64 (T.clk + 1)])) w3.heap.size (.string lp) (.string lh) (.int .i64 lf) (.int .i64 ls) (.int .i64 lu) w7.heap.size (.string p) (.string nextB) (.int .i64 (lf + 1)) (.int .i64 T.clk) (.int .i64 (T.clk + 1)) w) => y.ok.j.c1; have r2 := fun y : Held (TC2 (w.heap.size + 1) w.heap.size T.clk (put (put (encL T.m) p (.agg #[.string p, .string lh, .int .i64 lf, .int .i64 ls, .int .i64 T.clk])) p (.agg #[.string p, .string nextB, .int .i64 (lf + 1), .int .i64 T.clk, .int .i64 (T.clk + 1)])) w3.heap.size (.string lp) (.string lh) (.int .i64 lf) (.int .i64 ls) (.int .i64 lu) w7.heap.size (.string p) (.string nextB) (.int .i64 (lf + 1)) (.int .i64 T.clk) (.int .i64 (T.clk + 1)) w) => y.ok.k.c2; have s2 := fun y : Held (TC2 (w.heap.size + 1) w.heap.size T.clk (put (put (encL T.m) p (.agg #[.string p, .string lh, .int .i64 lf, .int .i64 ls, .int .i64 T.clk])) p (.agg #[.string p, .string nextB, .int .i64 (lf + 1), .int .i64 T.clk, .int .i64 (T.clk + 1)])) w3.heap.size (.string lp) (.string lh) (.int .i64 lf) (.int .i64 ls) (.int .i64 lu) w7.heap.size (.string p) (.string nextB) (.int .i64 (lf + 1)) (.int .i64 T.clk) (.int .i64 (T.clk + 1)) w) => y.ok.j.c2; have r3 := fun y : Held (TC2 (w.heap.size + 1) w.heap.size T.clk (put (put (encL T.m) p (.agg #[.string p, .string lh, .int .i64 lf, .int .i64 ls, .int .i64 T.clk])) p (.agg #[.string p, .string nextB, .int .i64 (lf + 1), .int .i64 T.clk, .int .i64 (T.clk + 1)])) w3.heap.size (.string lp) (.string lh) (.int .i64 lf) (.int .i64 ls) (.int .i64 lu) w7.heap.size (.string p) (.string nextB) (.int .i64 (lf + 1)) (.int .i64 T.clk) (.int .i64 (T.clk + 1)) w) => y.ok.k.c3; have s3 := fun y : Held (TC2 (w.heap.size + 1) w.heap.size T.clk (put (put (encL T.m) p (.agg #[.string p, .string lh, .int .i64 lf, .int .i64 ls, .int .i64 T.clk])) p (.agg #[.string p, .string nextB, .int .i64 (lf + 1), .int .i64 T.clk, .int .i64 (T.clk + 1)])) w3.heap.size (.string lp) (.string lh) (.int .i64 lf) (.int .i64 ls) (.int .i64 lu) w7.heap.size (.string p) (.string nextB) (.int .i64 (lf + 1)) (.int .i64 T.clk) (.int .i64 (T.clk + 1)) w) => y.ok.j.c3; have r4 := fun y : Held (TC2 (w.heap.size + 1) w.heap.size T.clk (put (put (encL T.m) p (.agg #[.string p, .string lh, .int .i64 lf, .int .i64 ls, .int .i64 T.clk])) p (.agg #[.string p, .string nextB, .int .i64 (lf + 1), .int .i64 T.clk, .int .i64 (T.clk + 1)])) w3.heap.size (.string lp) (.string lh) (.int .i64 lf) (.int .i64 ls) (.int .i64 lu) w7.heap.size (.string p) (.string nextB) (.int .i64 (lf + 1)) (.int .i64 T.clk) (.int .i64 (T.clk + 1)) w) => y.ok.k.c4; have s4 := fun y : Held (TC2 (w.heap.size + 1) w.heap.size T.clk (put (put (encL T.m) p (.agg #[.string p, .string lh, .int .i64 lf, .int .i64 ls, .int .i64 T.clk])) p (.agg #[.string p, .string nextB, .int .i64 (lf + 1), .int .i64 T.clk, .int .i64 (T.clk + 1)])) w3.heap.size (.string lp) (.string lh) (.int .i64 lf) (.int .i64 ls) (.int .i64 lu) w7.heap.size (.string p) (.string nextB) (.int .i64 (lf + 1)) (.int .i64 T.clk) (.int .i64 (T.clk + 1)) w) => y.ok.j.c4); (repeat (go_big_quiet_step (first | (go_at_call 25; exact held_same (now_any _ _ _ _ _ (TC2.t (Held.ok _)))) | (go_at_call 22; exact held_below (fun _ _ h h' => h.after h') (awake19_any _))))); refine wpQuiet_nil ?_; rintro _ ⟨⟨x, hx⟩, rfl⟩; clear hN)
            clear r0 r1 r2 r3 r4 s0 s1 s2 s3 s4
            go_wp2_with fail
            go_ret
            exact ⟨rfl, hx.o⟩

theorem ends_any (A : Option Addr) (c : Nat) (l : List LOp) (p holder : ByteArray) (fence : Int) (brk : Bool) (w : World) (hA : OpsIn A l w) (hn : l.length ≤ 9223372036854775807) :
    Calls Try.prog 9 #[.slice A l.length c, .string p, .string holder, .int .i64 fence, .bool brk] w fun e w' => e = .returned (.bool true) ∧ Below w.heap.size w w' := by
  by_cases h : smallB l = false ∨ 400 < wrap64 (p.size + holder.size)
  · exact ends_out A c l p holder fence brk w hA hn h
  · have hs : smallB l = true := by
      cases e : smallB l
      · exact absurd (.inl e) h
      · rfl
    have h90 : l.length ≤ 90 := by
      simp only [smallB, Bool.and_eq_true, decide_eq_true_eq] at hs
      exact hs.2
    exact ends_in A c l p holder fence brk w hA h90 hs (by omega)

end Go.Proofs.Ytnehjnaecgpkmaa
