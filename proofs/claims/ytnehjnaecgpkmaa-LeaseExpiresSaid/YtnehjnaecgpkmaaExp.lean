/-
  LeaseExpires returns true for every operations, path and numbers; what was in memory before the call stays as it was.
-/
import Derived.Test.YtnehjnaecgpkmaaSmall
namespace Go.Proofs.Ytnehjnaecgpkmaa
open Go.RowKit

set_option maxRecDepth 100000 in
set_option maxHeartbeats 800000 in
theorem exp_out (A : Option Addr) (c : Nat) (l : List LOp) (p : ByteArray) (ticks term : Int) (w : World) (hA : OpsIn A l w) (hn : l.length ≤ 9223372036854775807) (h : smallB l = false ∨ 400 < p.size ∨ term < 1 ∨ 1048576 < term) :
    Calls Try.prog 8 #[.slice A l.length c, .string p, .int .i64 ticks, .int .i64 term] w fun e w' => e = .returned (.bool true) ∧ Below w.heap.size w w' := by
  cases hs : smallB l
  · clear h
    go_enter Try.func8, Try.ntmps8
    go_wp2_with fail
    refine (new_any _).mono ?_
    rintro e w1 ⟨rfl, _, HB⟩
    go_wp2_with fail
    refine (small_any A c l _ (hA.below HB) hn).mono ?_
    rw [hs]
    rintro e w2 ⟨rfl, HB2⟩
    have o2 := HB.trans (HB2.mono HB.size)
    go_wp2_with (go_at_call 22; refine (awake19_any _).mono ?_; rintro e w9 ⟨rfl, HB9⟩)
    go_ret
    exact ⟨rfl, o2.trans (HB9.mono o2.size)⟩
  · have h' : 400 < p.size ∨ term < 1 ∨ 1048576 < term := by
      rcases h with h | h
      · rw [hs] at h; cases h
      · exact h
    clear h
    go_enter Try.func8, Try.ntmps8
    go_wp2_with fail
    refine (new_any _).mono ?_
    rintro e w1 ⟨rfl, _, HB⟩
    go_wp2_with fail
    refine (small_any A c l _ (hA.below HB) hn).mono ?_
    rw [hs]
    rintro e w2 ⟨rfl, HB2⟩
    have o2 := HB.trans (HB2.mono HB.size)
    go_wp2_with (go_at_call 22; refine (awake19_any _).mono ?_; rintro e w9 ⟨rfl, HB9⟩)
    all_goals (go_ret; exact ⟨rfl, o2.trans (HB9.mono o2.size)⟩)

/-- A table, the five cells of a lease, and all else as it was. -/
structure TC (b m : Nat) (clk : Int) (L : List (ByteArray × Value)) (c : Nat) (v0 v1 v2 v3 v4 : Value) (w x : World) : Prop where
  t : TabAt b m clk L x
  k : Cell5 c v0 v1 v2 v3 v4 x
  o : Below w.heap.size w x

theorem TC.after {b m : Nat} {clk : Int} {L : List (ByteArray × Value)} {c : Nat} {v0 v1 v2 v3 v4 : Value} {w x y : World} (h : TC b m clk L c v0 v1 v2 v3 v4 w x) (hb : Below x.heap.size x y) : TC b m clk L c v0 v1 v2 v3 v4 w y :=
  ⟨h.t.after hb, h.k.below hb, h.o.trans (hb.mono h.o.size)⟩
/-- A table, two leases' cells, and all else as it was. -/
structure TC2 (b m : Nat) (clk : Int) (L : List (ByteArray × Value)) (c : Nat) (v0 v1 v2 v3 v4 : Value) (d : Nat) (u0 u1 u2 u3 u4 : Value) (w x : World) : Prop where
  t : TabAt b m clk L x
  k : Cell5 c v0 v1 v2 v3 v4 x
  j : Cell5 d u0 u1 u2 u3 u4 x
  o : Below w.heap.size w x
theorem TC2.after {b m : Nat} {clk : Int} {L : List (ByteArray × Value)} {c d : Nat} {v0 v1 v2 v3 v4 u0 u1 u2 u3 u4 : Value} {w x y : World} (h : TC2 b m clk L c v0 v1 v2 v3 v4 d u0 u1 u2 u3 u4 w x) (hb : Below x.heap.size x y) : TC2 b m clk L c v0 v1 v2 v3 v4 d u0 u1 u2 u3 u4 w y :=
  ⟨h.t.after hb, h.k.below hb, h.j.below hb, h.o.trans (hb.mono h.o.size)⟩

theorem cat_ne (s : ByteArray) : (s.toList == (s ++ (⟨#[120]⟩ : ByteArray)).toList) = false := by
  rw [beq_eq_false_iff_ne]
  intro h
  have := congrArg List.length h
  rw [toList_eq, toList_eq] at this
  simp at this

theorem runT_snoc (T : Tab) (l : List LOp) (k : Nat) (hk : k < l.length) : runT T (l.take (k + 1)) = (doT (runT T (l.take k)) l[k]).1 := by
  rw [List.take_succ_eq_append_getElem hk, runT, List.foldl_append]
  rfl
theorem only_old {b m : Nat} {w x y : World} (h : Below w.heap.size w x) (ho : Only b m x y) (hb : w.heap.size ≤ b) (hm : w.heap.size ≤ m) : Below w.heap.size w y := h.trans (ho.below h.size hb hm)

set_option maxRecDepth 100000 in
set_option maxHeartbeats 1600000 in
theorem exp_in (A : Option Addr) (c : Nat) (l : List LOp) (p : ByteArray) (ticks term : Int) (w : World) (hA : OpsIn A l w) (hn : l.length ≤ 90) (hs : smallB l = true) (g1 : p.size ≤ 400) (g2 : 1 ≤ term) (g3 : term ≤ 1048576) :
    Calls Try.prog 8 #[.slice A l.length c, .string p, .int .i64 ticks, .int .i64 term] w fun e w' => e = .returned (.bool true) ∧ Below w.heap.size w w' := by
  have z1 : decide ((400 : Int) < (p.size : Int)) = false := by simp; omega
  have z2 : decide (term < 1) = false := by simp; omega
  have z3 : decide (1048576 < term) = false := by simp; omega
  go_enter Try.func8, Try.ntmps8
  go_wp2_with fail
  refine (new_any _).mono ?_
  rintro e w1 ⟨rfl, hT1, HB⟩
  go_wp2_with fail
  refine (small_any A c l _ (hA.below HB) (by omega)).mono ?_
  rw [hs]
  rintro e w2 ⟨rfl, HB2⟩
  have o2 := HB.trans (HB2.mono HB.size)
  have hT2 : TabT (w.heap.size + 1) w.heap.size ⟨0, []⟩ w2 := TabAt.after hT1 HB2
  go_wp2_with fail
  clear hs HB HB2 hT1
  go_loopw [39] (fun i wr => ∃ k : Nat, k ≤ l.length ∧ i = .int .i64 k ∧ TabT (w.heap.size + 1) w.heap.size (runT ⟨0, []⟩ (l.take k)) wr ∧ Below w.heap.size w wr) (fun i _ => l.length - (intOf i).toNat)
  case atStart => exact ⟨0, Nat.zero_le _, rfl, hT2, o2⟩
  case round =>
    clear hT2 o2
    obtain ⟨k, hk, rfl, hT, hB⟩ := hrel
    by_cases hlt : k < l.length
    · obtain ⟨bo, off, rfl, hbo, hops⟩ := hA (by omega)
      obtain ⟨h0, h1, h2, h3, h4⟩ := (hops.below hB hbo) k l[k] (List.getElem?_eq_getElem hlt)
      have hinv := inv_run inv_new (l.take k)
      have hr := Lib.hid (runT_snoc ⟨0, []⟩ l k hlt)
      go_wp2_with fail
      refine (do_post _ _ _ _ _ _ _ _ _ (TabAt.alloc hT _) hinv.ok).mono ?_
      rintro e w3 ⟨rfl, hT3, hO3⟩
      have o3 := only_old (hB.alloc hB.size _) hO3 (by omega) (by omega)
      clear h0 h1 h2 h3 h4
      go_wp2_with fail
      go_roundw
      case rel => exact ⟨k + 1, by omega, by go_num, by rw [hr.out]; exact hT3, o3⟩
      case measure => simp [intOf]; omega
    · have hge : l.length ≤ k := by omega
      clear hlt
      have hinv := inv_run inv_new l
      rw [List.take_of_length_le hge] at hT
      generalize runT ⟨0, []⟩ l = T at hT hinv
      have hTT : TabAt (w.heap.size + 1) w.heap.size T.clk (encL T.m) wr := hT
      cases hl : lk T.m p with
      | none =>
        have hl' : look (encL T.m) p = none := by rw [look_enc, hl]; rfl
        go_wp2_with fail
        refine (current_none _ _ _ _ p _ hTT hl').mono ?_
        rintro e w3 ⟨rfl, HB3⟩
        have o3 := hB.trans (HB3.mono hB.size)
        go_wp2_with (go_at_call 22; refine (awake19_any _).mono ?_; rintro e w9 ⟨rfl, HB9⟩)
        go_ret
        exact ⟨rfl, (o3.alloc o3.size _).trans (HB9.mono (by simp; have := o3.size; omega))⟩
      | some x =>
        have hf := hinv.found hl
        obtain ⟨lp, lh, lf, ls, lu⟩ := x
        have hl' : look (encL T.m) p = some (.agg #[.string lp, .string lh, .int .i64 lf, .int .i64 ls, .int .i64 lu]) := by rw [look_enc, hl]; rfl
        obtain ⟨hpath, hisP, hnm, hf0, hf1, hs0, hs1⟩ := hf
        dsimp only at hnm hf0 hf1 hs0 hs1
        clear hpath
        have hz24 : lh.size ≤ 24 := by simp [isNameB] at hnm; exact hnm.1
        have hc0 := hinv.c0
        have hc1 := hinv.c1
        have l1 := hTT.lt
        have l2 := hTT.mp.lt
        by_cases htk : ticks < 0 ∨ 1099511627776 - T.clk < ticks
        · go_wp2_with fail
          refine (current_some _ _ _ _ p lp lh lf ls lu _ hTT hl').mono ?_
          rintro e w3 ⟨rfl, HB3⟩
          have o3 := hB.trans (HB3.mono hB.size)
          go_wp2_with (first | (go_at_call 22; refine (awake19_any _).mono ?_; rintro e w9 ⟨rfl, HB9⟩) | (go_at_call 18; refine (advance_no _ _ _ _ ticks _ (TabAt.alloc (hTT.after HB3) _) hc0 hc1 htk).mono ?_; rintro e w4 ⟨rfl, rfl⟩))
          all_goals (go_ret; exact ⟨rfl, (o3.alloc o3.size _).trans (HB9.mono (by simp; have := o3.size; omega))⟩)
        · have t0 : 0 ≤ ticks := by omega
          have t1 : ticks ≤ 1099511627776 - T.clk := by omega
          clear htk
          go_wp2_with fail
          refine (current_some _ _ _ _ p lp lh lf ls lu _ hTT hl').mono ?_
          rintro e w3 ⟨rfl, HB3⟩
          have o3 := hB.trans (HB3.mono hB.size)
          go_wp2_with fail
          have hT4 := TabAt.alloc (hTT.after HB3) (.cells #[.string lp, .string lh, .int .i64 lf, .int .i64 ls, .int .i64 lu] 43)
          have k4 := (Box5.new w3 (.string lp) (.string lh) (.int .i64 lf) (.int .i64 ls) (.int .i64 lu) 43).cell5
          have o4 := o3.alloc o3.size (.cells #[.string lp, .string lh, .int .i64 lf, .int .i64 ls, .int .i64 lu] 43)
          have z3 := o3.size
          have l3 := HB3.size
          refine (advance_yes _ _ _ _ ticks _ hT4 hc0 hc1 t0 t1).mono ?_
          rintro e w5 ⟨rfl, hT5, hO5⟩
          have k5 := k4.only hO5 (by omega) (by omega)
          have o5 := only_old o4 hO5 (by omega) (by omega)
          clear hT4 k4 o4 hO5 hT hTT HB3
          obtain ⟨ck, hck⟩ : ∃ ck, T.clk + ticks = ck := ⟨_, rfl⟩
          rw [hck] at hT5
          have q0 : ls ≤ ck := by omega
          have q1 : 0 ≤ ck := by omega
          have q2 : ck ≤ 1099511627776 := by omega
          clear hck
          by_cases hh : ck < lu
          · have hb : decide (ck < lu) = true := by simpa using hh
            have hS : TC (w.heap.size + 1) w.heap.size ck (encL T.m) w3.heap.size (.string lp) (.string lh) (.int .i64 lf) (.int .i64 ls) (.int .i64 lu) w w5.drew := ⟨hT5.drew, k5.drew, o5.drew⟩
            go_wp2_with fail
            (refine wp_region_s (S := TC (w.heap.size + 1) w.heap.size ck (encL T.m) w3.heap.size (.string lp) (.string lh) (.int .i64 lf) (.int .i64 ls) (.int .i64 lu) w) (by kernel_rfl) (by kernel_rfl) hS ?_; have hN : Nonempty (Held (TC (w.heap.size + 1) w.heap.size ck (encL T.m) w3.heap.size (.string lp) (.string lh) (.int .i64 lf) (.int .i64 ls) (.int .i64 lu) w)) := ⟨⟨_, hS⟩⟩; (have r0 := fun y : Held (TC (w.heap.size + 1) w.heap.size ck (encL T.m) w3.heap.size (.string lp) (.string lh) (.int .i64 lf) (.int .i64 ls) (.int .i64 lu) w) => y.ok.k.c0; have r1 := fun y : Held (TC (w.heap.size + 1) w.heap.size ck (encL T.m) w3.heap.size (.string lp) (.string lh) (.int .i64 lf) (.int .i64 ls) (.int .i64 lu) w) => y.ok.k.c1; have r2 := fun y : Held (TC (w.heap.size + 1) w.heap.size ck (encL T.m) w3.heap.size (.string lp) (.string lh) (.int .i64 lf) (.int .i64 ls) (.int .i64 lu) w) => y.ok.k.c2; have r3 := fun y : Held (TC (w.heap.size + 1) w.heap.size ck (encL T.m) w3.heap.size (.string lp) (.string lh) (.int .i64 lf) (.int .i64 ls) (.int .i64 lu) w) => y.ok.k.c3; have r4 := fun y : Held (TC (w.heap.size + 1) w.heap.size ck (encL T.m) w3.heap.size (.string lp) (.string lh) (.int .i64 lf) (.int .i64 ls) (.int .i64 lu) w) => y.ok.k.c4); (repeat (go_big_quiet_step ((go_at_call 25; exact held_same (now_any _ _ _ _ _ (TC.t (Held.ok _))))))); refine wpQuiet_nil ?_; rintro _ ⟨⟨x, hx⟩, rfl⟩; clear hN)
            clear r0 r1 r2 r3 r4
            have kx := hx.k
            have tx := hx.t
            have ox := hx.o
            (have kx' := kx; obtain ⟨d0, d1, d2, d3, d4, lt_kx, fz_kx⟩ := kx')
            have v1 : Hid (hldB ck lh lf ls lu lh lf = true) := by
              show _ = true
              simp [hldB, hNow]
              omega
            go_wp2_with fail
            refine (holds_some _ tx hl' v1.out).mono ?_
            rintro e w6 ⟨rfl, HB6⟩
            have k6 := kx.below HB6
            have t6 := tx.after HB6
            have o6 := ox.trans (HB6.mono ox.size)
            clear d0 d1 d2 d3 d4 lt_kx fz_kx
            (have k6' := k6; obtain ⟨d0, d1, d2, d3, d4, lt_k6, fz_k6⟩ := k6')
            have v2 : Hid (hldB ck lh lf ls lu lh (lf + 1) = false) := by
              show _ = false
              simp [hldB]
              omega
            go_wp2_with fail
            refine (holds_some _ t6 hl' v2.out).mono ?_
            rintro e w7 ⟨rfl, HB7⟩
            have k7 := k6.below HB7
            have t7 := t6.after HB7
            have o7 := o6.trans (HB7.mono o6.size)
            clear d0 d1 d2 d3 d4 lt_k6 fz_k6
            (have k7' := k7; obtain ⟨d0, d1, d2, d3, d4, lt_k7, fz_k7⟩ := k7')
            have v3 : Hid (hldB ck lh lf ls lu (lh ++ (⟨#[120]⟩ : ByteArray)) lf = false) := by
              show _ = false
              rw [hldB, cat_ne]
              simp
            go_wp2_with fail
            refine (holds_some _ t7 hl' v3.out).mono ?_
            rintro e w8 ⟨rfl, HB8⟩
            have k8 := k7.below HB8
            have t8 := t7.after HB8
            have o8 := o7.trans (HB8.mono o7.size)
            clear d0 d1 d2 d3 d4 lt_k7 fz_k7
            (have k8' := k8; obtain ⟨d0, d1, d2, d3, d4, lt_k8, fz_k8⟩ := k8')
            have hit : isTermB term = true := by simp [isTermB]; omega
            go_wp2_with fail
            have hr := renew_yes _ _ _ _ p lh lf term _ t8 hit q1 q2 _ _ _ _ _ hl' v1.out
            obtain ⟨u, hu⟩ : ∃ u, max lu (ck + term) = u := ⟨_, rfl⟩
            rw [hu] at hr
            have u1 : lu ≤ u := by omega
            have u2 : ck + term ≤ u := by omega
            clear hu
            have HR := Lib.hid hr
            clear hr
            refine HR.out.mono ?_
            rintro e wa ⟨rfl, ta, hOa⟩
            have ka := k8.only hOa (by omega) (by omega)
            have oa := only_old o8 hOa (by omega) (by omega)
            have za := hOa.size
            clear d0 d1 d2 d3 d4 lt_k8 fz_k8
            (have ka' := ka; obtain ⟨d0, d1, d2, d3, d4, lt_ka, fz_ka⟩ := ka')
            go_wp2_with fail
            have hS : TC2 (w.heap.size + 1) w.heap.size ck (put (encL T.m) p (.agg #[.string lp, .string lh, .int .i64 lf, .int .i64 ls, .int .i64 u])) w3.heap.size (.string lp) (.string lh) (.int .i64 lf) (.int .i64 ls) (.int .i64 lu) wa.heap.size (.string lp) (.string lh) (.int .i64 lf) (.int .i64 ls) (.int .i64 u) w (wa.alloc (.cells #[.string lp, .string lh, .int .i64 lf, .int .i64 ls, .int .i64 u] 43)).drew := ⟨(ta.alloc _).drew, (ka.alloc _).drew, (Box5.new wa _ _ _ _ _ _).cell5.drew, (oa.alloc oa.size _).drew⟩
            (refine wp_region_s (S := TC2 (w.heap.size + 1) w.heap.size ck (put (encL T.m) p (.agg #[.string lp, .string lh, .int .i64 lf, .int .i64 ls, .int .i64 u])) w3.heap.size (.string lp) (.string lh) (.int .i64 lf) (.int .i64 ls) (.int .i64 lu) wa.heap.size (.string lp) (.string lh) (.int .i64 lf) (.int .i64 ls) (.int .i64 u) w) (by kernel_rfl) (by kernel_rfl) hS ?_; have hN : Nonempty (Held (TC2 (w.heap.size + 1) w.heap.size ck (put (encL T.m) p (.agg #[.string lp, .string lh, .int .i64 lf, .int .i64 ls, .int .i64 u])) w3.heap.size (.string lp) (.string lh) (.int .i64 lf) (.int .i64 ls) (.int .i64 lu) wa.heap.size (.string lp) (.string lh) (.int .i64 lf) (.int .i64 ls) (.int .i64 u) w)) := ⟨⟨_, hS⟩⟩; (have r0 := fun y : Held (TC2 (w.heap.size + 1) w.heap.size ck (put (encL T.m) p (.agg #[.string lp, .string lh, .int .i64 lf, .int .i64 ls, .int .i64 u])) w3.heap.size (.string lp) (.string lh) (.int .i64 lf) (.int .i64 ls) (.int .i64 lu) wa.heap.size (.string lp) (.string lh) (.int .i64 lf) (.int .i64 ls) (.int .i64 u) w) => y.ok.k.c0; have s0 := fun y : Held (TC2 (w.heap.size + 1) w.heap.size ck (put (encL T.m) p (.agg #[.string lp, .string lh, .int .i64 lf, .int .i64 ls, .int .i64 u])) w3.heap.size (.string lp) (.string lh) (.int .i64 lf) (.int .i64 ls) (.int .i64 lu) wa.heap.size (.string lp) (.string lh) (.int .i64 lf) (.int .i64 ls) (.int .i64 u) w) => y.ok.j.c0; have r1 := fun y : Held (TC2 (w.heap.size + 1) w.heap.size ck (put (encL T.m) p (.agg #[.string lp, .string lh, .int .i64 lf, .int .i64 ls, .int .i64 u])) w3.heap.size (.string lp) (.string lh) (.int .i64 lf) (.int .i64 ls) (.int .i64 lu) wa.heap.size (.string lp) (.string lh) (.int .i64 lf) (.int .i64 ls) (.int .i64 u) w) => y.ok.k.c1; have s1 := fun y : Held (TC2 (w.heap.size + 1) w.heap.size ck (put (encL T.m) p (.agg #[.string lp, .string lh, .int .i64 lf, .int .i64 ls, .int .i64 u])) w3.heap.size (.string lp) (.string lh) (.int .i64 lf) (.int .i64 ls) (.int .i64 lu) wa.heap.size (.string lp) (.string lh) (.int .i64 lf) (.int .i64 ls) (.int .i64 u) w) => y.ok.j.c1; have r2 := fun y : Held (TC2 (w.heap.size + 1) w.heap.size ck (put (encL T.m) p (.agg #[.string lp, .string lh, .int .i64 lf, .int .i64 ls, .int .i64 u])) w3.heap.size (.string lp) (.string lh) (.int .i64 lf) (.int .i64 ls) (.int .i64 lu) wa.heap.size (.string lp) (.string lh) (.int .i64 lf) (.int .i64 ls) (.int .i64 u) w) => y.ok.k.c2; have s2 := fun y : Held (TC2 (w.heap.size + 1) w.heap.size ck (put (encL T.m) p (.agg #[.string lp, .string lh, .int .i64 lf, .int .i64 ls, .int .i64 u])) w3.heap.size (.string lp) (.string lh) (.int .i64 lf) (.int .i64 ls) (.int .i64 lu) wa.heap.size (.string lp) (.string lh) (.int .i64 lf) (.int .i64 ls) (.int .i64 u) w) => y.ok.j.c2; have r3 := fun y : Held (TC2 (w.heap.size + 1) w.heap.size ck (put (encL T.m) p (.agg #[.string lp, .string lh, .int .i64 lf, .int .i64 ls, .int .i64 u])) w3.heap.size (.string lp) (.string lh) (.int .i64 lf) (.int .i64 ls) (.int .i64 lu) wa.heap.size (.string lp) (.string lh) (.int .i64 lf) (.int .i64 ls) (.int .i64 u) w) => y.ok.k.c3; have s3 := fun y : Held (TC2 (w.heap.size + 1) w.heap.size ck (put (encL T.m) p (.agg #[.string lp, .string lh, .int .i64 lf, .int .i64 ls, .int .i64 u])) w3.heap.size (.string lp) (.string lh) (.int .i64 lf) (.int .i64 ls) (.int .i64 lu) wa.heap.size (.string lp) (.string lh) (.int .i64 lf) (.int .i64 ls) (.int .i64 u) w) => y.ok.j.c3; have r4 := fun y : Held (TC2 (w.heap.size + 1) w.heap.size ck (put (encL T.m) p (.agg #[.string lp, .string lh, .int .i64 lf, .int .i64 ls, .int .i64 u])) w3.heap.size (.string lp) (.string lh) (.int .i64 lf) (.int .i64 ls) (.int .i64 lu) wa.heap.size (.string lp) (.string lh) (.int .i64 lf) (.int .i64 ls) (.int .i64 u) w) => y.ok.k.c4; have s4 := fun y : Held (TC2 (w.heap.size + 1) w.heap.size ck (put (encL T.m) p (.agg #[.string lp, .string lh, .int .i64 lf, .int .i64 ls, .int .i64 u])) w3.heap.size (.string lp) (.string lh) (.int .i64 lf) (.int .i64 ls) (.int .i64 lu) wa.heap.size (.string lp) (.string lh) (.int .i64 lf) (.int .i64 ls) (.int .i64 u) w) => y.ok.j.c4); (repeat (go_big_quiet_step (first | (go_at_call 25; exact held_same (now_any _ _ _ _ _ (TC2.t (Held.ok _)))) | (go_at_call 22; exact held_below (fun _ _ h h' => h.after h') (awake19_any _))))); refine wpQuiet_nil ?_; rintro _ ⟨⟨x, hx⟩, rfl⟩; clear hN)
            clear r0 r1 r2 r3 r4 s0 s1 s2 s3 s4
            go_wp2_with fail
            go_ret
            exact ⟨rfl, hx.o⟩
          · have hb : decide (ck < lu) = false := by simpa using hh
            have hS : TC (w.heap.size + 1) w.heap.size ck (encL T.m) w3.heap.size (.string lp) (.string lh) (.int .i64 lf) (.int .i64 ls) (.int .i64 lu) w w5.drew := ⟨hT5.drew, k5.drew, o5.drew⟩
            go_wp2_with fail
            (refine wp_region_s (S := TC (w.heap.size + 1) w.heap.size ck (encL T.m) w3.heap.size (.string lp) (.string lh) (.int .i64 lf) (.int .i64 ls) (.int .i64 lu) w) (by kernel_rfl) (by kernel_rfl) hS ?_; have hN : Nonempty (Held (TC (w.heap.size + 1) w.heap.size ck (encL T.m) w3.heap.size (.string lp) (.string lh) (.int .i64 lf) (.int .i64 ls) (.int .i64 lu) w)) := ⟨⟨_, hS⟩⟩; (have r0 := fun y : Held (TC (w.heap.size + 1) w.heap.size ck (encL T.m) w3.heap.size (.string lp) (.string lh) (.int .i64 lf) (.int .i64 ls) (.int .i64 lu) w) => y.ok.k.c0; have r1 := fun y : Held (TC (w.heap.size + 1) w.heap.size ck (encL T.m) w3.heap.size (.string lp) (.string lh) (.int .i64 lf) (.int .i64 ls) (.int .i64 lu) w) => y.ok.k.c1; have r2 := fun y : Held (TC (w.heap.size + 1) w.heap.size ck (encL T.m) w3.heap.size (.string lp) (.string lh) (.int .i64 lf) (.int .i64 ls) (.int .i64 lu) w) => y.ok.k.c2; have r3 := fun y : Held (TC (w.heap.size + 1) w.heap.size ck (encL T.m) w3.heap.size (.string lp) (.string lh) (.int .i64 lf) (.int .i64 ls) (.int .i64 lu) w) => y.ok.k.c3; have r4 := fun y : Held (TC (w.heap.size + 1) w.heap.size ck (encL T.m) w3.heap.size (.string lp) (.string lh) (.int .i64 lf) (.int .i64 ls) (.int .i64 lu) w) => y.ok.k.c4); (repeat (go_big_quiet_step ((go_at_call 25; exact held_same (now_any _ _ _ _ _ (TC.t (Held.ok _))))))); refine wpQuiet_nil ?_; rintro _ ⟨⟨x, hx⟩, rfl⟩; clear hN)
            clear r0 r1 r2 r3 r4
            have kx := hx.k
            have tx := hx.t
            have ox := hx.o
            (have kx' := kx; obtain ⟨d0, d1, d2, d3, d4, lt_kx, fz_kx⟩ := kx')
            have v1 : Hid (hldB ck lh lf ls lu lh lf = false) := by
              show _ = false
              simp [hldB, hNow]
              omega
            go_wp2_with fail
            refine (holds_some _ tx hl' v1.out).mono ?_
            rintro e w6 ⟨rfl, HB6⟩
            have k6 := kx.below HB6
            have t6 := tx.after HB6
            have o6 := ox.trans (HB6.mono ox.size)
            clear d0 d1 d2 d3 d4 lt_kx fz_kx
            (have k6' := k6; obtain ⟨d0, d1, d2, d3, d4, lt_k6, fz_k6⟩ := k6')
            have v2 : Hid (hldB ck lh lf ls lu lh (lf + 1) = false) := by
              show _ = false
              simp [hldB]
              omega
            go_wp2_with fail
            refine (holds_some _ t6 hl' v2.out).mono ?_
            rintro e w7 ⟨rfl, HB7⟩
            have k7 := k6.below HB7
            have t7 := t6.after HB7
            have o7 := o6.trans (HB7.mono o6.size)
            clear d0 d1 d2 d3 d4 lt_k6 fz_k6
            (have k7' := k7; obtain ⟨d0, d1, d2, d3, d4, lt_k7, fz_k7⟩ := k7')
            have v3 : Hid (hldB ck lh lf ls lu (lh ++ (⟨#[120]⟩ : ByteArray)) lf = false) := by
              show _ = false
              rw [hldB, cat_ne]
              simp
            go_wp2_with fail
            refine (holds_some _ t7 hl' v3.out).mono ?_
            rintro e w8 ⟨rfl, HB8⟩
            have k8 := k7.below HB8
            have t8 := t7.after HB8
            have o8 := o7.trans (HB8.mono o7.size)
            clear d0 d1 d2 d3 d4 lt_k7 fz_k7
            (have k8' := k8; obtain ⟨d0, d1, d2, d3, d4, lt_k8, fz_k8⟩ := k8')
            have hit : isTermB term = true := by simp [isTermB]; omega
            go_wp2_with fail
            refine (renew_no _ _ _ _ _ _ _ _ _ t8 hit _ _ _ _ _ hl' v1.out).mono ?_
            rintro e wa ⟨rfl, HBa⟩
            have oa := o8.trans (HBa.mono o8.size)
            go_wp2_with (go_at_call 22; refine (awake19_any _).mono ?_; rintro e w9 ⟨rfl, HB9⟩)
            go_ret
            exact ⟨rfl, (oa.alloc oa.size _).trans (HB9.mono (by simp; have := oa.size; omega))⟩

theorem exp_any (A : Option Addr) (c : Nat) (l : List LOp) (p : ByteArray) (ticks term : Int) (w : World) (hA : OpsIn A l w) (hn : l.length ≤ 9223372036854775807) :
    Calls Try.prog 8 #[.slice A l.length c, .string p, .int .i64 ticks, .int .i64 term] w fun e w' => e = .returned (.bool true) ∧ Below w.heap.size w w' := by
  by_cases h : smallB l = false ∨ 400 < p.size ∨ term < 1 ∨ 1048576 < term
  · exact exp_out A c l p ticks term w hA hn h
  · have hs : smallB l = true := by
      cases e : smallB l
      · exact absurd (.inl e) h
      · rfl
    have h90 : l.length ≤ 90 := by
      simp only [smallB, Bool.and_eq_true, decide_eq_true_eq] at hs
      exact hs.2
    exact exp_in A c l p ticks term w hA h90 hs (by omega) (by omega) (by omega)

end Go.Proofs.Ytnehjnaecgpkmaa
