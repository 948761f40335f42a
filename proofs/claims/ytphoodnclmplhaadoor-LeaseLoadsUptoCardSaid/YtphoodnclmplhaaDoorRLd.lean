/-
  The reference's Load.
-/
import Derived.Test.YtphoodnclmplhaaDoorRf6
import Derived.Test.YtphoodnclmplhaaDoorLod
import Derived.Deep.Upon
namespace Go.Proofs.YtphoodnclmplhaaDoor
open Go.RowKit Go.Deep

/-- How the reference's Load ends. -/
def RLoadP (clk : Int) (l : List Lease) (w : World) (e : Ending) (w' : World) : Prop :=
  Below w.heap.size w w' ∧ ((loadB clk l = false ∧ e = .returned (.tuple #[.pointer none, .int .i64 197])) ∨ (loadB clk l = true ∧ ∃ r lb, w.heap.size ≤ r ∧ w.heap.size ≤ lb ∧ e = .returned (.tuple #[.pointer (some ⟨r, 0, none⟩), .int .i64 0]) ∧ RAt r lb ⟨clk, l⟩ w'))

set_option maxRecDepth 100000 in
set_option maxHeartbeats 800000 in
theorem rload_lim (clk : Int) (A : Option Addr) (c : Nat) (l : List Lease) (w : World) (h : clk < 0 ∨ 1099511627776 < clk ∨ 64 < l.length) :
    Calls Tryd.prog 24 #[.int .i64 clk, .slice A l.length c] w (RLoadP clk l w) := by
  have hb : loadB clk l = false := by
    unfold loadB
    rcases h with h | h | h
    · rw [decide_eq_false (by omega : ¬ 0 ≤ clk)]; rfl
    · rw [decide_eq_false (by omega : ¬ clk ≤ 1099511627776), Bool.and_false]; rfl
    · rw [decide_eq_false (by omega : ¬ l.length ≤ 64), Bool.and_false]; rfl
  have HB := Lib.hid hb
  clear hb
  by_cases h1 : clk < 0
  · clear h
    go_enter Tryd.func24, Tryd.ntmps24
    go_wp2_with fail
    go_ret2
    exact ⟨Below.refl _ _, .inl ⟨HB.out, rfl⟩⟩
  by_cases h2 : 1099511627776 < clk
  · clear h
    go_enter Tryd.func24, Tryd.ntmps24
    go_wp2_with fail
    go_ret2
    exact ⟨Below.refl _ _, .inl ⟨HB.out, rfl⟩⟩
  have h3 : (64 : Int) < (l.length : Int) := by omega
  clear h
  go_enter Tryd.func24, Tryd.ntmps24
  go_wp2_with fail
  go_ret2
  exact ⟨Below.refl _ _, .inl ⟨HB.out, rfl⟩⟩

theorem wpList_append_none {P : Program} (w : World) {ops : Array Oper} {rest : List Oper} {o : Oper} {a : Act} {Q : Exit → Act → World → Prop} (hgd : o.guard = none) (s x : Operand) (t : TypeId)
    (ho : o.op = .call { callee := .builtin .append, args := #[s, x], argTypes := #[t, t] }) (e : TypeId) (i : TypeInfo) (ht : P.underlying t = some (.slice e)) (hi : P.info? e = some i)
    (hv : a.eval s = .slice none 0 0) (A : Option Addr) (c : Nat) (hx : a.eval x = .slice A 0 c)
    (hK : wpList P ops Q rest (a.put o.dst (.slice none 0 0)) w) : wpList P ops Q (o :: rest) a w := by
  refine wpList_plain hgd fun K hK' => ?_
  have hs : Src P i.size t (.slice A 0 c) 0 [] w := by
    cases A with
    | none => exact Src.ofNil w ht c
    | some ad => exact Src.ofSlice w ht ad 0 c [] (by simp) (fun j u h => by simp at h) (fun u h => by cases h)
  have hrun := run_append_nothing (P := P) w t t o.type e i ht hi none 0 0 (Nat.le_refl _) _ hs
  unfold Oper.wp
  simp [execOp, ho, resolve, invoke, builtin, hv, hx, hrun, Result.andThen]
  exact hK' _ _ hK

theorem lsAt_cells {b off : Nat} {l : List Lease} {w : World} (h : LsAt b off l w) : ∀ (j : Nat) (u : Value), (celL l)[j]? = some u → w.cell? ((⟨b, off, none⟩ : Addr).add j) = some u := fun j u hu => by
  have hj : j < l.length * 5 := by
    have := (List.getElem?_eq_some_iff.1 hu).1
    rwa [celL_len] at this
  have hq : j / 5 < l.length := by omega
  have hx := List.getElem?_eq_getElem hq
  have e : j = j / 5 * 5 + j % 5 := by omega
  have hc := celL_get l (j / 5) (j % 5) _ hx (by omega)
  rw [← e, hu] at hc
  obtain ⟨a0, a1, a2, a3, a4⟩ := h _ _ hx
  rw [add_none]
  have hm : j % 5 = 0 ∨ j % 5 = 1 ∨ j % 5 = 2 ∨ j % 5 = 3 ∨ j % 5 = 4 := by omega
  generalize l[j / 5] = x at *
  rcases hm with hm | hm | hm | hm | hm <;> rw [hm] at hc e <;> simp only [Lease.cells, List.getElem?_cons_succ, List.getElem?_cons_zero] at hc <;> rw [hc]
  · rw [show off + j = off + j / 5 * 5 by omega]; exact a0
  · rw [show off + j = off + j / 5 * 5 + 1 by omega]; exact a1
  · rw [show off + j = off + j / 5 * 5 + 2 by omega]; exact a2
  · rw [show off + j = off + j / 5 * 5 + 3 by omega]; exact a3
  · rw [show off + j = off + j / 5 * 5 + 4 by omega]; exact a4
theorem celL_one' (l : List Lease) : ∀ u ∈ celL l, u.oneCell' = true := fun u hu => by
  obtain ⟨x, _, hx⟩ := List.mem_flatMap.1 hu
  simp only [Lease.cells, List.mem_cons, List.not_mem_nil, or_false] at hx
  rcases hx with rfl | rfl | rfl | rfl | rfl <;> rfl

theorem row_new {w w7 : World} {l : List Lease} {v2 : Value} (hl0 : 0 < l.length) (ho : w7.ownsRow 0 34 5 v2 (0 + l.length) ([] ++ celL l)) (hat : v2.ownBlock = (Value.slice none 0 0).ownBlock ∨ v2.ownBlock = some w.heap.size) :
    ∃ cap', v2 = .slice (some ⟨w.heap.size, 0, none⟩) l.length cap' ∧ w.heap.size < w7.heap.size ∧ ∀ r, w.heap.size ≠ r → LogIs r w.heap.size l (some ⟨w.heap.size, 0, none⟩) cap' w7 := by
  rcases ho.2 with ⟨_, h0⟩ | ⟨g, cap', cs, rfl, _, hb, h1, h2, h3, h4⟩
  · omega
  have hg : g = w.heap.size := by
    rcases hat with e | e
    · cases e
    · injection e
  subst hg
  rw [Nat.zero_add] at h1 h4 ⊢
  exact ⟨cap', rfl, block_lt hb, fun r hr => .inr ⟨hr, cs, hl0, rfl, h1, h2, hb, h3, by simpa using h4⟩⟩

set_option maxRecDepth 100000 in
set_option maxHeartbeats 3200000 in
theorem rload_in (clk : Int) (A : Option Addr) (c : Nat) (l : List Lease) (w : World) (hA : LsIn A l w) (h0 : 0 ≤ clk) (h1 : clk ≤ 1099511627776) (h2 : l.length ≤ 64) (hg : G0 w)
    (hz : ∀ x ∈ l, x.path.size ≤ 1048576 ∧ x.holder.size ≤ 1048576) :
    Calls Tryd.prog 24 #[.int .i64 clk, .slice A l.length c] w (RLoadP clk l w) := by
  have HLB : Hid (loadB clk l = ldOk clk l) := by
    show _ = _
    unfold loadB
    rw [decide_eq_true h0, decide_eq_true h1, decide_eq_true h2]
    rfl
  have z1 : ¬ (64 : Int) < (l.length : Int) := by omega
  have HA := Lib.hid hA
  have HG := Lib.hid hg
  have HZ := Lib.hid hz
  obtain ⟨i0, hi0, hz0, hz1, hz2⟩ := info_parts Tryd.infoLease
  clear hA hg hz
  go_enter Tryd.func24, Tryd.ntmps24
  go_wp2_with fail
  go_loopw [21] (fun i wr => ∃ k : Nat, k ≤ l.length ∧ i = .int .i64 k ∧ Below w.heap.size w wr ∧ Hid (ldOk clk (l.take k) = true)) (fun i _ => l.length - (intOf i).toNat)
  case atStart => exact ⟨0, Nat.zero_le _, rfl, Below.refl _ _, rfl⟩
  case round =>
    obtain ⟨k, hk, rfl, hB, hL⟩ := hrel
    have HB := Lib.hid hB
    have hwr := hB.size
    by_cases hlt : k < l.length
    · obtain ⟨b, off, rfl, hbl, hat⟩ := HA.out (by omega)
      obtain ⟨g0, g1, g2, g3, g4⟩ := (hat.below hB hbl) k l[k] (List.getElem?_eq_getElem hlt)
      have HAT := Lib.hid hat
      have HS : Hid (ldOk clk (l.take (k + 1)) = (possB l[k] clk && match (l.take k).getLast? with | none => true | some y => decide (pcmp y.path.data.toList l[k].path.data.toList < 0))) := by
        show _ = _
        rw [List.take_succ_eq_append_getElem hlt, ldOk_snoc, hL.out, Bool.true_and]
        rfl
      have HTD : Hid (l = l.take (k + 1) ++ l.drop (k + 1)) := (List.take_append_drop _ _).symm
      have HGK : Hid (∀ hk0 : 0 < k, (l.take k).getLast? = some (l[k - 1]'(by omega))) := fun hk0 => by
        rw [List.getLast?_eq_getElem?, List.length_take_of_le (by omega), List.getElem?_take_of_lt (by omega), List.getElem?_eq_getElem (by omega)]
      have hzx := HZ.out l[k] (List.getElem_mem hlt)
      generalize hx : l[k] = x at *
      obtain ⟨lp, lh, lf, ls, lu⟩ := x
      dsimp only at g0 g1 g2 g3 g4 hzx
      have HFL : Hid (ldOk clk (l.take (k + 1)) = false → loadB clk l = false) := fun hf => by
        rw [HLB.out]
        cases hv : ldOk clk l
        · rfl
        · rw [HTD.out] at hv
          rw [ldOk_pre hv] at hf
          cases hf
      have HUS : Hid (∀ W, Below w.heap.size w W → Calls Tryd.prog 16 #[.string lp] W fun e w' => e = .returned (.bool (isPathB lp)) ∧ Below W.heap.size W w') := fun W hW => usable_any lp W (by omega) (HG.out.below hW)
      have HNM : Hid (∀ W, Calls Tryd.prog 17 #[.string lh] W fun e w' => e = .returned (.bool (isNameB lh)) ∧ Below W.heap.size W w') := fun W => rname_any lh W (by unfold maxLen; omega)
      have k3 := (Box5.new wr (.string lp) (.string lh) (.int .i64 lf) (.int .i64 ls) (.int .i64 lu) 34).cell5
      have hb3 := below_alloc1 wr (.cells #[.string lp, .string lh, .int .i64 lf, .int .i64 ls, .int .i64 lu] 34)
      have HB3 := Lib.hid (HB.out.trans (hb3.mono HB.out.size))
      (have k3' := k3; obtain ⟨d0, d1, d2, d3, d4, lt_k3, fz_k3⟩ := k3')
      cases hp1 : isPathB lp
      · have HF : Hid (loadB clk l = false) := HFL.out (by rw [HS.out]; simp [possB, hp1])
        rw [hp1] at HUS
        go_wp2_with fail
        refine (HUS.out _ HB3.out).mono ?_
        rintro e w4 ⟨rfl, hb4⟩
        go_wp2_with fail
        go_ret2
        exact ⟨HB3.out.trans (hb4.mono HB3.out.size), .inl ⟨HF.out, rfl⟩⟩
      rw [hp1] at HUS
      go_wp2_with fail
      refine (HUS.out _ HB3.out).mono ?_
      rintro e w4 ⟨rfl, hb4⟩
      have k4 := k3.below hb4
      have HB4 := Lib.hid (HB3.out.trans (hb4.mono HB3.out.size))
      clear hb4 d0 d1 d2 d3 d4 lt_k3 fz_k3 k3 g0 g1 g2 g3 g4
      (have k4' := k4; obtain ⟨e0, e1, e2, e3, e4, lt_k4, fz_k4⟩ := k4')
      cases hp2 : isNameB lh
      · have HF : Hid (loadB clk l = false) := HFL.out (by rw [HS.out]; simp [possB, hp2])
        rw [hp2] at HNM
        go_wp2_with fail
        refine (HNM.out _).mono ?_
        rintro e w5 ⟨rfl, hb5⟩
        go_wp2_with fail
        go_ret2
        exact ⟨HB4.out.trans (hb5.mono HB4.out.size), .inl ⟨HF.out, rfl⟩⟩
      rw [hp2] at HNM
      go_wp2_with fail
      refine (HNM.out _).mono ?_
      rintro e w5 ⟨rfl, hb5⟩
      have k5 := k4.below hb5
      have HB5 := Lib.hid (HB4.out.trans (hb5.mono HB4.out.size))
      clear hb5 e0 e1 e2 e3 e4 lt_k4 fz_k4 k4
      (have k5' := k5; obtain ⟨f0, f1, f2, f3, f4, lt_k5, fz_k5⟩ := k5')
      by_cases hq : 1 ≤ lf ∧ lf ≤ 1073741824 ∧ 0 ≤ ls ∧ ls ≤ clk ∧ ls ≤ lu ∧ lu ≤ clk + 1048576
      rotate_left
      · have HF : Hid (loadB clk l = false) := HFL.out (by
          rw [HS.out]
          have : possB ⟨lp, lh, lf, ls, lu⟩ clk = false := by
            unfold possB
            simp only [hp1, hp2, Bool.true_and, Bool.and_eq_false_iff, decide_eq_false_iff_not]
            omega
          rw [this]
          rfl)
        have hw : lf < 1 ∨ (1 ≤ lf ∧ 1073741824 < lf) ∨ (1 ≤ lf ∧ lf ≤ 1073741824 ∧ ls < 0) ∨ (1 ≤ lf ∧ lf ≤ 1073741824 ∧ 0 ≤ ls ∧ clk < ls) ∨ (1 ≤ lf ∧ lf ≤ 1073741824 ∧ 0 ≤ ls ∧ ls ≤ clk ∧ lu < ls) ∨ (1 ≤ lf ∧ lf ≤ 1073741824 ∧ 0 ≤ ls ∧ ls ≤ clk ∧ ls ≤ lu ∧ clk + 1048576 < lu) := by omega
        clear hq
        rcases hw with q1 | ⟨q1, q2⟩ | ⟨q1, q2, q3⟩ | ⟨q1, q2, q3, q4⟩ | ⟨q1, q2, q3, q4, q5⟩ | ⟨q1, q2, q3, q4, q5, q6⟩
        all_goals
          go_wp2_with fail
          go_ret2
          exact ⟨HB5.out, .inl ⟨HF.out, rfl⟩⟩
      obtain ⟨q1, q2, q3, q4, q5, q6⟩ := hq
      have HPB : Hid (possB ⟨lp, lh, lf, ls, lu⟩ clk = true) := by
        show _ = _
        unfold possB
        rw [hp1, hp2, decide_eq_true q1, decide_eq_true q2, decide_eq_true q3, decide_eq_true q4, decide_eq_true q5, decide_eq_true q6]
        rfl
      have hS : Below w5.heap.size w5 w5.drew := (Below.refl _ _).drew
      have HK5 : Hid (∀ y : Held (Below w5.heap.size w5), y.w.cell? ⟨wr.heap.size, 0, none⟩ = some (.string lp)) := fun y => (y.ok.cell (p := ⟨_, _, none⟩) lt_k5).trans f0
      go_wp2_with fail
      clear f0 f1 f2 f3 f4 lt_k5 fz_k5 k5
      by_cases hk0 : 0 < k
      · obtain ⟨j, rfl⟩ : ∃ j, k = j + 1 := ⟨k - 1, by omega⟩
        have hjl : j < l.length := by omega
        have hlast := HGK.out hk0
        simp only [Nat.add_sub_cancel] at hlast
        have hat3 := fun y : Held (Below w5.heap.size w5) => (HAT.out.below (HB5.out.trans (y.ok.mono HB5.out.size)) hbl) j l[j] (List.getElem?_eq_getElem hjl)
        have hoj : okP l[j] = true := possB_path ((ldOk_all hL.out).1 l[j] (List.mem_iff_getElem?.2 ⟨j, by rw [List.getElem?_take_of_lt (by omega), List.getElem?_eq_getElem hjl]⟩))
        rw [hlast] at HS
        have hzj := HZ.out l[j] (List.getElem_mem hjl)
        generalize l[j] = z at hat3 hoj HS hzj
        obtain ⟨zp, zh, zf, zs, zu⟩ := z
        dsimp only at hat3 HS hzj
        have HO : Hid (ordH zp lp = pcmp zp.data.toList lp.data.toList) := ordH_valid (okP_path hoj).2 (okP_path (possB_path HPB.out)).2
        rw [← HO.out, HPB.out] at HS
        have HCM : Hid (∀ y : Held (Below w5.heap.size w5), Calls Tryd.prog 46 #[.string zp, .string lp] y.w fun e w' => e = .returned (.int .i64 (ordH zp lp)) ∧ Below y.w.heap.size y.w w') := fun y =>
          rorder_any zp lp y.w (by omega) (by omega) (HG.out.below (HB5.out.trans (y.ok.mono HB5.out.size)))
        have HKJ := Lib.hid (fun y => (hat3 y).1)
        clear hat3 hoj hlast hzj hzx HO
        by_cases hv : ordH zp lp < 0
        · have HNX : Hid (ldOk clk (l.take (j + 1 + 1)) = true) := by
            show _ = _
            rw [HS.out]
            simp [hv]
          have hv2 : ¬ 0 ≤ ordH zp lp := by omega
          have hv3 : decide (0 ≤ ordH zp lp) = false := decide_eq_false hv2
          (refine wp_region_s (S := Below w5.heap.size w5) (by kernel_rfl) (by kernel_rfl) hS ?_; have hN : Nonempty (Held (Below w5.heap.size w5)) := ⟨⟨_, hS⟩⟩; (have p0 := HK5.out; have r0 := HKJ.out); (repeat (go_big_quiet_step ((go_at_call 46; exact held_keep (HCM.out _))))); refine wpQuiet_nil ?_; rintro x ⟨⟨_, hx⟩, rfl⟩; clear hN)
          clear p0 r0
          have HBX := Lib.hid (HB5.out.trans (hx.mono HB5.out.size))
          clear hx hS
          go_wp2_with fail
          go_roundw
          case rel => exact ⟨j + 1 + 1, by omega, by go_num, HBX.out, HNX.out⟩
          case measure => (simp [intOf]; omega)
        · have HF : Hid (loadB clk l = false) := HFL.out (by rw [HS.out]; simp; omega)
          have hv2 : 0 ≤ ordH zp lp := by omega
          have hv3 : decide (0 ≤ ordH zp lp) = true := decide_eq_true hv2
          (refine wp_region_s (S := Below w5.heap.size w5) (by kernel_rfl) (by kernel_rfl) hS ?_; have hN : Nonempty (Held (Below w5.heap.size w5)) := ⟨⟨_, hS⟩⟩; (have p0 := HK5.out; have r0 := HKJ.out); (repeat (go_big_quiet_step ((go_at_call 46; exact held_keep (HCM.out _))))); refine wpQuiet_nil ?_; rintro x ⟨⟨_, hx⟩, rfl⟩; clear hN)
          clear p0 r0
          have HBX := Lib.hid (HB5.out.trans (hx.mono HB5.out.size))
          clear hx hS
          go_wp2_with fail
          go_ret2
          exact ⟨HBX.out, .inl ⟨HF.out, rfl⟩⟩
      · obtain rfl : k = 0 := by omega
        have HNX : Hid (ldOk clk (l.take (0 + 1)) = true) := by
          show _ = _
          rw [HS.out, HPB.out]
          rfl
        clear hzx
        (refine wp_region_s (S := Below w5.heap.size w5) (by kernel_rfl) (by kernel_rfl) hS ?_; have hN : Nonempty (Held (Below w5.heap.size w5)) := ⟨⟨_, hS⟩⟩; (have p0 := HK5.out); (repeat (go_big_quiet_step (fail))); refine wpQuiet_nil ?_; rintro x ⟨⟨_, hx⟩, rfl⟩; clear hN)
        clear p0
        have HBX := Lib.hid (HB5.out.trans (hx.mono HB5.out.size))
        clear hx hS
        go_wp2_with fail
        go_roundw
        case rel => exact ⟨0 + 1, by omega, by go_num, HBX.out, HNX.out⟩
        case measure => (simp [intOf]; omega)
    · have hge : l.length ≤ k := by omega
      have HLT : Hid (loadB clk l = true) := by
        have h3 := hL.out
        rw [List.take_of_length_le hge] at h3
        show _ = _
        rw [HLB.out]
        exact h3
      clear hlt hB
      rcases Nat.eq_zero_or_pos l.length with hl0 | hl0
      · have hl : l = [] := List.eq_nil_of_length_eq_zero hl0
        subst hl
        go_wp2_with (at_builtin; refine wpList_append_none _ rfl _ _ 26 rfl 34 i0 Tryd.underlying26 hi0 rfl A c rfl ?_)
        go_ret2
        refine ⟨HB.out.trans ((below_alloc1 _ _).mono HB.out.size), .inr ⟨HLT.out, wr.heap.size, wr.heap.size, hwr, hwr, rfl, ⟨by simp, none, 0, Blk.new wr 28 _, .inl ⟨rfl, rfl, rfl⟩⟩⟩⟩
      · obtain ⟨b, off, rfl, hbl, hat⟩ := HA.out hl0
        have HCE := Lib.hid (lsAt_cells (hat.below HB.out hbl))
        have HON : Hid (∀ u ∈ celL l, u.oneCell' = true) := celL_one' l
        have hrow := Lib.hid (World.ownsRow_nil wr 0 34 5)
        have HBW : Hid (Below w.heap.size w wr) := HB.out
        go_wp2_with (at_builtin; refine wpList_append_own_at _ rfl _ _ 26 rfl 0 34 i0 (.agg #[.string ⟨#[]⟩, .string ⟨#[]⟩, .int .i64 0, .int .i64 0, .int .i64 0]) 5 56 Tryd.underlying26 hi0 hz0 hz1 hz2 rfl (by decide) _ _ _ rfl hrow.out ⟨b, off, none⟩ l.length c (celL l) rfl (celL_len l) HCE.out HON.out (by unfold maxLen; omega) (by omega) (Nat.zero_le _) ?_; intro v2 w7 ho7 hg7 _ hat7; obtain ⟨cap', rfl, hl7, hlog7⟩ := row_new hl0 ho7 hat7; have HLG := Lib.hid hlog7; have HL7 := Lib.hid hl7; have HB7 := Lib.hid (HB.out.grown hg7 hwr (fun j e => by cases e)); clear ho7 hg7 hat7 hlog7 hl7)
        go_ret2
        have hs7 := HB7.out.size
        refine ⟨HB7.out.trans ((below_alloc1 _ _).mono HB7.out.size), .inr ⟨HLT.out, w7.heap.size, wr.heap.size, hs7, hwr, rfl, ⟨by have := HL7.out; simp; omega, some ⟨wr.heap.size, 0, none⟩, cap', Blk.new w7 28 _, ?_⟩⟩⟩
        have h7 := HL7.out
        exact (HLG.out w7.heap.size (by omega)).of (Below.heap_alloc w7 _ _ h7)

end Go.Proofs.YtphoodnclmplhaaDoor
