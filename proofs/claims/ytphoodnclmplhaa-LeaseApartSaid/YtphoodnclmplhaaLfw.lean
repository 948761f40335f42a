/-
  LeaseApart returns true for all operations; what was in memory before the call stays as it was.
-/
import Derived.Test.YtphoodnclmplhaaLfp
import Derived.Test.YtphoodnclmplhaaOpenOps
namespace Go.Proofs.Ytphoodnclmplhaa
open Go.RowKit

theorem TabT.away {b m r lb : Nat} {T : Tab} {w w' : World} (h : TabT b m T w) (ho : Only r lb w w') (h1 : b ≠ r) (h2 : b ≠ lb) (h3 : m ≠ r) (h4 : m ≠ lb) : TabT b m T w' := by
  have h' : TabAt b m T.clk (encL T.m) w := h
  have hb : w'.heap[b]? = w.heap[b]? := ho.block b h'.lt h1 h2
  have hm := h'.mp.of_block (ho.block m h'.mp.lt h3 h4)
  have hc : ∀ o, w'.cell? ⟨b, o, none⟩ = w.cell? ⟨b, o, none⟩ := fun o => by simp [World.cell?, hb]
  have hf : ∀ o, w'.frozen? ⟨b, o, none⟩ = w.frozen? ⟨b, o, none⟩ := fun o => by simp [World.frozen?, hb]
  exact ⟨(hc 0).trans h'.c0, (hc 1).trans h'.c1, (hf 0).trans h'.f0, (hf 1).trans h'.f1, hm, Nat.lt_of_lt_of_le h'.lt ho.size, h'.ne⟩
/-- Leases do not lie in a map's block. -/
theorem LsIn.grown {A : Option Addr} {E : List Lease} {m : Nat} {L : List (ByteArray × Value)} {w w' : World} (h : LsIn A E w) (hm : MapIs m L w) (ho : Only m m w w') : LsIn A E w' := fun hl => by
  obtain ⟨b, off, rfl, hb, hat⟩ := h hl
  have hne : b ≠ m := by
    rintro rfl
    obtain ⟨es, cl, hmb, _⟩ := hm
    have h0 := (hat 0 E[0] (List.getElem?_eq_getElem hl)).1
    simp [World.cell?, hmb] at h0
  exact ⟨b, off, rfl, Nat.lt_of_lt_of_le hb ho.size, hat.of_block (ho.block b hb hne hne)⟩

set_option maxRecDepth 100000 in
set_option maxHeartbeats 1600000 in
theorem apart_out (A : Option Addr) (c : Nat) (l : List LOp) (w : World) (hA : OpsIn A l w) (hn : l.length ≤ 9223372036854775807) (hs : smallB l = false) :
    Calls Try.prog 3 #[.slice A l.length c] w fun e w' => e = .returned (.bool true) ∧ Below w.heap.size w w' := by
  go_enter Try.func3, Try.ntmps3
  go_wp2_with fail
  refine (new_any _).mono ?_
  rintro e w1 ⟨rfl, hT1, HB⟩
  go_wp2_with fail
  refine (small_any A c l _ (hA.below HB) (by omega)).mono ?_
  rw [hs]
  rintro e w2 ⟨rfl, HB2⟩
  have o2 := HB.trans (HB2.mono HB.size)
  go_wp2_with (go_at_call 7; refine (awake19_any _).mono ?_; rintro e w9 ⟨rfl, HB9⟩)
  go_ret
  exact ⟨rfl, o2.trans (HB9.mono o2.size)⟩

set_option maxRecDepth 100000 in
set_option maxHeartbeats 6400000 in
theorem apart_in (A : Option Addr) (c : Nat) (l : List LOp) (w : World) (hA : OpsIn A l w) (hn : l.length ≤ 90) (hs : smallB l = true) :
    Calls Try.prog 3 #[.slice A l.length c] w fun e w' => e = .returned (.bool true) ∧ Below w.heap.size w w' := by
  have hmm := @run_makeMap Try.prog
  go_enter Try.func3, Try.ntmps3
  go_wp2_with fail
  refine (new_any _).mono ?_
  rintro e w1 ⟨rfl, hT1, hB1⟩
  go_wp2_with fail
  refine (small_any A c l _ (hA.below hB1) (by omega)).mono ?_
  rw [hs]
  rintro e w2 ⟨rfl, hB2⟩
  have HT2 : Hid (TabT (w.heap.size + 1) w.heap.size ⟨0, []⟩ w2) := TabAt.after hT1 hB2
  have HO2 := Lib.hid (hB1.trans (hB2.mono hB1.size))
  clear hT1 hB1 hB2 hs
  go_wp2_with fail
  have HT3 : Hid (TabT (w.heap.size + 1) w.heap.size ⟨0, []⟩ (w2.alloc (.map #[] 0))) := TabAt.alloc HT2.out _
  have HM3 : Hid (MapIs w2.heap.size (encL []) (w2.alloc (.map #[] 0))) := MapIs.new w2
  have HO3 := Lib.hid (HO2.out.alloc HO2.out.size (.map #[] 0))
  have hml : w.heap.size + 1 < w2.heap.size := TabAt.lt HT2.out
  clear HT2 HO2 hmm
  generalize w2.heap.size = ml at *
  generalize w2.alloc (.map #[] 0) = w3 at *
  go_loopw [25] (fun i wr => ∃ (k : Nat) (T : Tab) (M : List (ByteArray × Lease)), k ≤ l.length ∧ i = .int .i64 k ∧ TabT (w.heap.size + 1) w.heap.size T wr ∧ MapIs ml (encL M) wr ∧ Hid (∀ p, lk M p = lk T.m p) ∧ TabInv k T ∧ PT T ∧ Below w.heap.size w wr) (fun i _ => l.length - (intOf i).toNat)
  case atStart => exact ⟨0, _, [], Nat.zero_le _, rfl, HT3.out, HM3.out, fun p => rfl, inv_new, pt_new, HO3.out⟩
  case round =>
    clear HT3 HM3 HO3
    obtain ⟨k, T, M, hk, rfl, hT, hM, HLK, hI, hP, hO⟩ := hrel
    have HO := Lib.hid hO
    have HI := Lib.hid hI
    have HP := Lib.hid hP
    by_cases hlt : k < l.length
    · obtain ⟨bo, off, rfl, hbo, hops⟩ := hA (by omega)
      obtain ⟨h0, h1, h2, h3, h4⟩ := (hops.below hO hbo) k l[k] (List.getElem?_eq_getElem hlt)
      generalize l[k] = o at *
      obtain ⟨kd, op, oh, ofe, on⟩ := o
      dsimp only at h0 h1 h2 h3 h4
      have hb4 : Below wr.heap.size wr (wr.alloc (.cells #[.int .i64 kd, .string op, .string oh, .int .i64 ofe, .int .i64 on] 29)) := below_alloc1 _ _
      have HT4 := Lib.hid (TabAt.after hT hb4)
      have HM4 := Lib.hid (hM.alloc (.cells #[.int .i64 kd, .string op, .string oh, .int .i64 ofe, .int .i64 on] 29))
      have HO4 := Lib.hid (hO.trans (hb4.mono hO.size))
      have k4 := (Box5.new wr (.int .i64 kd) (.string op) (.string oh) (.int .i64 ofe) (.int .i64 on) 29).cell5
      have hwl : w.heap.size + 1 < wr.heap.size := TabAt.lt hT
      clear hb4 hT hM hO hI hP HO
      go_wp2_with fail
      generalize wr.alloc (.cells #[.int .i64 kd, .string op, .string oh, .int .i64 ofe, .int .i64 on] 29) = w4 at *
      refine (do_post _ _ T kd ofe on op oh w4 HT4.out HI.out.ok).mono ?_
      rintro e w5 ⟨rfl, hT5, hO5⟩
      have k5 := (k4.only hO5 (by omega) (by omega))
      have HT5 : Hid (TabT (w.heap.size + 1) w.heap.size (doT T ⟨kd, op, oh, ofe, on⟩).1 w5) := hT5
      have HM5 := Lib.hid (HM4.out.of_block (hO5.block ml HM4.out.lt (by omega) (by omega)))
      have HO5 := Lib.hid (HO4.out.trans (hO5.below HO4.out.size (by omega) (Nat.le_refl _)))
      have HI5 := Lib.hid (inv_do HI.out ⟨kd, op, oh, ofe, on⟩)
      have HP5 := Lib.hid (pt_do HP.out HI.out ⟨kd, op, oh, ofe, on⟩)
      have HMO := Lib.hid (mono_do HI.out ⟨kd, op, oh, ofe, on⟩)
      obtain ⟨X, hX⟩ : ∃ X, (doT T ⟨kd, op, oh, ofe, on⟩).2.1 = X := ⟨_, rfl⟩
      obtain ⟨E1, hE1⟩ : ∃ E, (doT T ⟨kd, op, oh, ofe, on⟩).2.2 = E := ⟨_, rfl⟩
      obtain ⟨lp, lh, lf, ls, lu⟩ := X
      have HAQ : Hid (kd = 1 → E1 = 0 → lp = op ∧ lh = oh ∧ ls = T.clk ∧ (doT T ⟨kd, op, oh, ofe, on⟩).1.clk = T.clk ∧ ls < lu ∧ (lk T.m op = none → lf = 1) ∧ ∀ z, lk T.m op = some z → lf = z.fence + 1 ∧ z.til ≤ ls ∧ 0 ≤ z.fence ∧ z.fence ≤ k) := by
        rintro rfl h0
        have e : doT T ⟨1, op, oh, ofe, on⟩ = acqT T op oh on := by simp [doT]
        rw [e] at hX hE1 ⊢
        exact acq_ok HI.out hX (hE1.trans h0)
      rw [hX, hE1]
      clear hX hE1 hT5 hO5 HT4 HM4 HO4 k4 HI HP h0 h1 h2 h3 h4
      dsimp only [Lease.val]
      generalize (doT T ⟨kd, op, oh, ofe, on⟩).1 = T' at *
      have hw45 : wr.heap.size < w5.heap.size := k5.lt
      obtain ⟨E, hE1, hE2⟩ := tab_sorted (HI5.out.tok HP5.out.once)
      have HE := Lib.hid (And.intro hE1 hE2)
      have hEl : E.length ≤ 64 := by
        have h3 := hE2.length_eq
        have h4 := HP5.out.len
        simp at h3
        omega
      have HAL : Hid (∀ y, TabT (w.heap.size + 1) w.heap.size T' y → Calls Try.prog 10 #[.pointer (some ⟨w.heap.size + 1, 0, none⟩)] y (AllE E y)) := fun y hy => all_E (by have := HP5.out.len; omega) hy (HI5.out.tok HP5.out.once) hE1 hE2
      clear hE1 hE2
      have k6 := k5.alloc (.cells #[.string lp, .string lh, .int .i64 lf, .int .i64 ls, .int .i64 lu] 31)
      have j6 := (Box5.new w5 (.string lp) (.string lh) (.int .i64 lf) (.int .i64 ls) (.int .i64 lu) 31).cell5
      have HT6 : Hid (TabT (w.heap.size + 1) w.heap.size T' (w5.alloc (.cells #[.string lp, .string lh, .int .i64 lf, .int .i64 ls, .int .i64 lu] 31))) := TabAt.alloc HT5.out _
      have HM6 := Lib.hid (HM5.out.alloc (.cells #[.string lp, .string lh, .int .i64 lf, .int .i64 ls, .int .i64 lu] 31))
      have HO6 := Lib.hid (HO5.out.alloc HO5.out.size (.cells #[.string lp, .string lh, .int .i64 lf, .int .i64 ls, .int .i64 lu] 31))
      clear HT5 HM5 HO5
      (have k5' := k5; obtain ⟨c0, c1, c2, c3, c4, lt_k5, fz_k5⟩ := k5')
      (have k6' := k6; obtain ⟨d0, d1, d2, d3, d4, lt_k6, fz_k6⟩ := k6')
      (have j6' := j6; obtain ⟨e0, e1, e2, e3, e4, lt_j6, fz_j6⟩ := j6')
      by_cases hq : kd = 1 ∧ E1 = 0
      · obtain ⟨rfl, rfl⟩ := hq
        obtain ⟨a1, a2, a3, a4, a5, a6, a7⟩ := HAQ.out rfl rfl
        subst a1 a2 a3
        cases hv : lk T.m lp with
        | none =>
          have hl : look (encL M) lp = none := by rw [look_enc, HLK.out, hv]; rfl
          obtain rfl := a6 hv
          have HN5 : Hid (T'.clk = T.clk) := a4
          have hlu : ¬ lu ≤ T.clk := by omega
          have hlu2 : decide (lu ≤ T.clk) = false := decide_eq_false hlu
          clear a4 a5 a6 a7 hv HAQ
          have k7 := k6.alloc (.cells #[.string ⟨#[]⟩, .string ⟨#[]⟩, .int .i64 0, .int .i64 0, .int .i64 0] 31)
          have j7 := j6.alloc (.cells #[.string ⟨#[]⟩, .string ⟨#[]⟩, .int .i64 0, .int .i64 0, .int .i64 0] 31)
          have z7 := (Box5.new1 w5 (.cells #[.string lp, .string lh, .int .i64 1, .int .i64 T.clk, .int .i64 lu] 31) (.string ⟨#[]⟩) (.string ⟨#[]⟩) (.int .i64 0) (.int .i64 0) (.int .i64 0) 31).cell5
          have HT7 : Hid (TabT (w.heap.size + 1) w.heap.size T' ((w5.alloc (.cells #[.string lp, .string lh, .int .i64 1, .int .i64 T.clk, .int .i64 lu] 31)).alloc (.cells #[.string ⟨#[]⟩, .string ⟨#[]⟩, .int .i64 0, .int .i64 0, .int .i64 0] 31))) := TabAt.alloc HT6.out _
          have HM7 := Lib.hid (HM6.out.alloc (.cells #[.string ⟨#[]⟩, .string ⟨#[]⟩, .int .i64 0, .int .i64 0, .int .i64 0] 31))
          have HO7 := Lib.hid (HO6.out.alloc HO6.out.size (.cells #[.string ⟨#[]⟩, .string ⟨#[]⟩, .int .i64 0, .int .i64 0, .int .i64 0] 31))
          (have k7' := k7; obtain ⟨f0, f1, f2, f3, f4, lt_k7, fz_k7⟩ := k7')
          (have j7' := j7; obtain ⟨g0, g1, g2, g3, g4, lt_j7, fz_j7⟩ := j7')
          (have z7' := z7; obtain ⟨i0, i1, i2, i3, i4, lt_z7, fz_z7⟩ := z7')
          go_wp2_with (at_lookup; refine wpList_look_none rfl _ _ 27 true rfl 9 31 Try.underlying27 Try.underlying9 ml (encL M) rfl HM6.out (.agg #[.string ⟨#[]⟩, .string ⟨#[]⟩, .int .i64 0, .int .i64 0, .int .i64 0]) (by kernel_rfl) lp rfl hl ?_)
          clear c0 c1 c2 c3 c4 d0 d1 d2 d3 d4 e0 e1 e2 e3 e4 i0 i1 i2 i3 i4 lt_k5 lt_k6 lt_j6 lt_z7 fz_k5 fz_k6 fz_j6 fz_k7 fz_j7 fz_z7 k5 k6 j6 k7 j7 z7 HT6 HM6 HO6 hl
          generalize (w5.alloc (.cells #[.string lp, .string lh, .int .i64 1, .int .i64 T.clk, .int .i64 lu] 31)).alloc (.cells #[.string ⟨#[]⟩, .string ⟨#[]⟩, .int .i64 0, .int .i64 0, .int .i64 0] 31) = w7 at *
          have hS : Below w7.heap.size w7 w7.drew := (Below.refl _ _).drew
          have HF : Hid (((∀ y : Held (Below w7.heap.size w7), y.w.cell? ⟨wr.heap.size, 1, none⟩ = some (.string lp)) ∧ (∀ y : Held (Below w7.heap.size w7), y.w.cell? ⟨wr.heap.size, 2, none⟩ = some (.string lh))) ∧
              (∀ y : Held (Below w7.heap.size w7), y.w.cell? ⟨w5.heap.size, 0, none⟩ = some (.string lp)) ∧ (∀ y : Held (Below w7.heap.size w7), y.w.cell? ⟨w5.heap.size, 1, none⟩ = some (.string lh)) ∧ (∀ y : Held (Below w7.heap.size w7), y.w.cell? ⟨w5.heap.size, 3, none⟩ = some (.int .i64 T.clk)) ∧ (∀ y : Held (Below w7.heap.size w7), y.w.cell? ⟨w5.heap.size, 4, none⟩ = some (.int .i64 lu))) :=
            ⟨⟨fun y => (y.ok.cell (p := ⟨_, _, none⟩) lt_k7).trans f1, fun y => (y.ok.cell (p := ⟨_, _, none⟩) lt_k7).trans f2⟩,
              fun y => (y.ok.cell (p := ⟨_, _, none⟩) lt_j7).trans g0, fun y => (y.ok.cell (p := ⟨_, _, none⟩) lt_j7).trans g1, fun y => (y.ok.cell (p := ⟨_, _, none⟩) lt_j7).trans g3, fun y => (y.ok.cell (p := ⟨_, _, none⟩) lt_j7).trans g4⟩
          have HNW : Hid (∀ y : Held (Below w7.heap.size w7), Calls Try.prog 9 #[.pointer (some ⟨w.heap.size + 1, 0, none⟩)] y.w fun e w' => e = .returned (.int .i64 T.clk) ∧ Below y.w.heap.size y.w w') := fun y => by
            have h := now_any _ _ T'.clk _ y.w (TabAt.after HT7.out y.ok)
            rw [HN5.out] at h
            exact h.mono fun e w' ⟨h1, h2⟩ => ⟨h1, h2 ▸ Below.refl _ _⟩
          clear f0 f1 f2 f3 f4 g0 g1 g2 g3 g4 lt_k7 lt_j7
          (refine wp_region_s (S := Below w7.heap.size w7) (by kernel_rfl) (by kernel_rfl) hS ?_; have hN : Nonempty (Held (Below w7.heap.size w7)) := ⟨⟨_, hS⟩⟩; (have p1 := HF.out.1.1; have p2 := HF.out.1.2; have q0 := HF.out.2.1; have q1 := HF.out.2.2.1; have q3 := HF.out.2.2.2.1; have q4 := HF.out.2.2.2.2); (repeat (go_big_quiet_step ((go_at_call 9; exact held_keep (HNW.out _))))); refine wpQuiet_nil ?_; rintro x ⟨⟨_, hx⟩, rfl⟩; clear hN)
          clear p1 p2 q0 q1 q3 q4
          have HT8 : Hid (TabT (w.heap.size + 1) w.heap.size T' x) := TabAt.after HT7.out hx
          have HM8 : Hid (MapIs ml (encL M) x) := HM7.out.below hx HM7.out.lt
          have HO8 : Hid (Below w.heap.size w x) := HO7.out.trans (hx.mono HO7.out.size)
          clear hx hS HF HNW HT7 HM7 HO7 HN5 hlu hlu2
          go_wp2_with fail
          refine (HAL.out _ HT8.out).mono ?_
          rintro e w9 ⟨S0, cp0, rfl, hls, hb9⟩
          have HT9 : Hid (TabT (w.heap.size + 1) w.heap.size T' w9) := TabAt.after HT8.out hb9
          have HM9 : Hid (MapIs ml (encL M) w9) := HM8.out.below hb9 HM8.out.lt
          have HL9 := Lib.hid hls
          have HO9 := Lib.hid (HO8.out.trans (hb9.mono HO8.out.size))
          clear hls hb9 HT8 HM8 HO8 HAL
          go_wp2_with fail
          go_loopw [103] (fun i wr => ∃ j : Nat, j ≤ E.length ∧ i = .int .i64 j ∧ TabT (w.heap.size + 1) w.heap.size T' wr ∧ MapIs ml (encL (putL M (E.take j))) wr ∧ LsIn S0 E wr ∧ Below w.heap.size w wr) (fun i _ => E.length - (intOf i).toNat)
          case atStart => exact ⟨0, Nat.zero_le _, rfl, HT9.out, HM9.out, HL9.out, HO9.out⟩
          case round =>
            clear HT9 HM9 HL9 HO9
            obtain ⟨j, hj, rfl, hT, hM, hL, hO⟩ := hrel
            have HT := Lib.hid hT
            have HM := Lib.hid hM
            have HL := Lib.hid hL
            have HO := Lib.hid hO
            by_cases hlt2 : j < E.length
            · obtain ⟨be, oe, rfl, hbe, hat⟩ := hL (by omega)
              obtain ⟨g0, g1, g2, g3, g4⟩ := hat j E[j] (List.getElem?_eq_getElem hlt2)
              have HKY : Hid (lk (putL M (E.take j)) E[j].path = lk T.m E[j].path) := by
                show _ = _
                rw [lk_putL_next HE.out.1 hlt2]
                exact HLK.out _
              have HLE : Hid (lk T'.m E[j].path = some E[j]) := lk_E (HI5.out.tok HP5.out.once) HE.out.2 (List.getElem_mem hlt2)
              have HPT : Hid (putL M (E.take (j + 1)) = pt (putL M (E.take j)) E[j].path E[j]) := putL_take hlt2
              generalize E[j] = y at *
              obtain ⟨yp, yh, yf, ys, yu⟩ := y
              dsimp only at g0 g1 g2 g3 g4 HKY HLE HPT
              have HTa : Hid (TabT (w.heap.size + 1) w.heap.size T' (wr.alloc (.cells #[.string yp, .string yh, .int .i64 yf, .int .i64 ys, .int .i64 yu] 31))) := TabAt.alloc HT.out _
              have HMa := Lib.hid (HM.out.alloc (.cells #[.string yp, .string yh, .int .i64 yf, .int .i64 ys, .int .i64 yu] 31))
              have HLa := Lib.hid (HL.out.below (below_alloc1 _ (.cells #[.string yp, .string yh, .int .i64 yf, .int .i64 ys, .int .i64 yu] 31)))
              have HOa := Lib.hid (HO.out.alloc HO.out.size (.cells #[.string yp, .string yh, .int .i64 yf, .int .i64 ys, .int .i64 yu] 31))
              have k4 := (Box5.new wr (.string yp) (.string yh) (.int .i64 yf) (.int .i64 ys) (.int .i64 yu) 31).cell5
              have HMA := HMa.out
              clear hT hM hL hO hat HT HM HL HO
              cases hv : lk T.m yp with
              | none =>
                have hl : look (encL (putL M (E.take j))) yp = none := by rw [look_enc, HKY.out, hv]; rfl
                clear hv
                have k5 := k4.alloc (.cells #[.string ⟨#[]⟩, .string ⟨#[]⟩, .int .i64 0, .int .i64 0, .int .i64 0] 31)
                have z5 := (Box5.new1 wr (.cells #[.string yp, .string yh, .int .i64 yf, .int .i64 ys, .int .i64 yu] 31) (.string ⟨#[]⟩) (.string ⟨#[]⟩) (.int .i64 0) (.int .i64 0) (.int .i64 0) 31).cell5
                have HTb : Hid (TabT (w.heap.size + 1) w.heap.size T' ((wr.alloc (.cells #[.string yp, .string yh, .int .i64 yf, .int .i64 ys, .int .i64 yu] 31)).alloc (.cells #[.string ⟨#[]⟩, .string ⟨#[]⟩, .int .i64 0, .int .i64 0, .int .i64 0] 31))) := TabAt.alloc HTa.out _
                have HMb := Lib.hid (HMa.out.alloc (.cells #[.string ⟨#[]⟩, .string ⟨#[]⟩, .int .i64 0, .int .i64 0, .int .i64 0] 31))
                have HLb := Lib.hid (HLa.out.below (below_alloc1 _ (.cells #[.string ⟨#[]⟩, .string ⟨#[]⟩, .int .i64 0, .int .i64 0, .int .i64 0] 31)))
                have HOb := Lib.hid (HOa.out.alloc HOa.out.size (.cells #[.string ⟨#[]⟩, .string ⟨#[]⟩, .int .i64 0, .int .i64 0, .int .i64 0] 31))
                (have k4' := k4; obtain ⟨u0, u1, u2, u3, u4, lt_k4, fz_k4⟩ := k4')
                (have k5' := k5; obtain ⟨v0, v1, v2, v3, v4, lt_k5, fz_k5⟩ := k5')
                (have z5' := z5; obtain ⟨i0, i1, i2, i3, i4, lt_z5, fz_z5⟩ := z5')
                clear k4 k5 z5 HTa HMa HLa HOa
                go_wp2_with (first | (at_lookup; refine wpList_look_none rfl _ _ 27 true rfl 9 31 Try.underlying27 Try.underlying9 ml (encL (putL M (E.take j))) rfl HMA (.agg #[.string ⟨#[]⟩, .string ⟨#[]⟩, .int .i64 0, .int .i64 0, .int .i64 0]) (by kernel_rfl) yp rfl hl ?_) | (with_reducible refine wpList_put rfl (.tmp 146) (.tmp 148) (.tmp 149) 27 rfl 9 31 Try.underlying27 Try.underlying9 ml (encL (putL M (E.take j))) rfl HMb.out yp rfl (.agg #[.string yp, .string yh, .int .i64 yf, .int .i64 ys, .int .i64 yu]) rfl ?_; intro w5' hm5 hg5; have HM5' := Lib.hid hm5; have HG5 := Lib.hid hg5; clear hm5 hg5))
                have hon := (Only.refl ml ml _).grown HG5.out
                have HTc : Hid (TabT (w.heap.size + 1) w.heap.size T' w5') := HTb.out.away hon (by omega) (by omega) (by omega) (by omega)
                have HLc := Lib.hid (HLb.out.grown HMb.out hon)
                have HOc := Lib.hid (HOb.out.trans (hon.below HOb.out.size (by omega) (by omega)))
                have HMc : Hid (MapIs ml (encL (putL M (E.take (j + 1)))) w5') := by
                  have e1 := put_enc (putL M (E.take j)) yp ⟨yp, yh, yf, ys, yu⟩
                  show MapIs _ _ _
                  rw [HPT.out, ← e1]
                  exact HM5'.out
                go_roundw
                case rel => exact ⟨j + 1, by omega, by go_num, HTc.out, HMc.out, HLc.out, HOc.out⟩
                case measure => (simp [intOf]; omega)
              | some z =>
                have hl : look (encL (putL M (E.take j))) yp = some z.val := by rw [look_enc, HKY.out, hv]; rfl
                obtain ⟨y', e1, hf1, hf2⟩ := HMO.out yp z hv
                rw [HLE.out] at e1
                cases e1
                obtain ⟨zp, zh, zf, zs, zu⟩ := z
                unfold Lease.val at hl
                dsimp only at hl hf1 hf2
                have n1 : ¬ yf < zf := by omega
                clear hv
                rcases Decidable.em (zf = yf) with he | he
                · obtain ⟨r1, r2⟩ := hf2 he
                  subst r1 r2 he
                  clear hf1 hf2
                  have k5 := k4.alloc (.cells #[.string zp, .string zh, .int .i64 zf, .int .i64 zs, .int .i64 zu] 31)
                  have z5 := (Box5.new1 wr (.cells #[.string yp, .string zh, .int .i64 zf, .int .i64 zs, .int .i64 yu] 31) (.string zp) (.string zh) (.int .i64 zf) (.int .i64 zs) (.int .i64 zu) 31).cell5
                  have HTb : Hid (TabT (w.heap.size + 1) w.heap.size T' ((wr.alloc (.cells #[.string yp, .string zh, .int .i64 zf, .int .i64 zs, .int .i64 yu] 31)).alloc (.cells #[.string zp, .string zh, .int .i64 zf, .int .i64 zs, .int .i64 zu] 31))) := TabAt.alloc HTa.out _
                  have HMb := Lib.hid (HMa.out.alloc (.cells #[.string zp, .string zh, .int .i64 zf, .int .i64 zs, .int .i64 zu] 31))
                  have HLb := Lib.hid (HLa.out.below (below_alloc1 _ (.cells #[.string zp, .string zh, .int .i64 zf, .int .i64 zs, .int .i64 zu] 31)))
                  have HOb := Lib.hid (HOa.out.alloc HOa.out.size (.cells #[.string zp, .string zh, .int .i64 zf, .int .i64 zs, .int .i64 zu] 31))
                  (have k4' := k4; obtain ⟨u0, u1, u2, u3, u4, lt_k4, fz_k4⟩ := k4')
                  (have k5' := k5; obtain ⟨v0, v1, v2, v3, v4, lt_k5, fz_k5⟩ := k5')
                  (have z5' := z5; obtain ⟨i0, i1, i2, i3, i4, lt_z5, fz_z5⟩ := z5')
                  clear k4 k5 z5 HTa HMa HLa HOa
                  go_wp2_with (first | (at_lookup; refine wpList_look_some rfl _ _ 27 true rfl 9 31 Try.underlying27 Try.underlying9 ml (encL (putL M (E.take j))) rfl HMA yp rfl (.agg #[.string zp, .string zh, .int .i64 zf, .int .i64 zs, .int .i64 zu]) hl ?_) | (with_reducible refine wpList_put rfl (.tmp 146) (.tmp 148) (.tmp 149) 27 rfl 9 31 Try.underlying27 Try.underlying9 ml (encL (putL M (E.take j))) rfl HMb.out yp rfl (.agg #[.string yp, .string zh, .int .i64 zf, .int .i64 zs, .int .i64 yu]) rfl ?_; intro w5' hm5 hg5; have HM5' := Lib.hid hm5; have HG5 := Lib.hid hg5; clear hm5 hg5))
                  have hon := (Only.refl ml ml _).grown HG5.out
                  have HTc : Hid (TabT (w.heap.size + 1) w.heap.size T' w5') := HTb.out.away hon (by omega) (by omega) (by omega) (by omega)
                  have HLc := Lib.hid (HLb.out.grown HMb.out hon)
                  have HOc := Lib.hid (HOb.out.trans (hon.below HOb.out.size (by omega) (by omega)))
                  have HMc : Hid (MapIs ml (encL (putL M (E.take (j + 1)))) w5') := by
                    have e1 := put_enc (putL M (E.take j)) yp ⟨yp, zh, zf, zs, yu⟩
                    show MapIs _ _ _
                    rw [HPT.out, ← e1]
                    exact HM5'.out
                  go_roundw
                  case rel => exact ⟨j + 1, by omega, by go_num, HTc.out, HMc.out, HLc.out, HOc.out⟩
                  case measure => (simp [intOf]; omega)
                · clear hf2
                  have k5 := k4.alloc (.cells #[.string zp, .string zh, .int .i64 zf, .int .i64 zs, .int .i64 zu] 31)
                  have z5 := (Box5.new1 wr (.cells #[.string yp, .string yh, .int .i64 yf, .int .i64 ys, .int .i64 yu] 31) (.string zp) (.string zh) (.int .i64 zf) (.int .i64 zs) (.int .i64 zu) 31).cell5
                  have HTb : Hid (TabT (w.heap.size + 1) w.heap.size T' ((wr.alloc (.cells #[.string yp, .string yh, .int .i64 yf, .int .i64 ys, .int .i64 yu] 31)).alloc (.cells #[.string zp, .string zh, .int .i64 zf, .int .i64 zs, .int .i64 zu] 31))) := TabAt.alloc HTa.out _
                  have HMb := Lib.hid (HMa.out.alloc (.cells #[.string zp, .string zh, .int .i64 zf, .int .i64 zs, .int .i64 zu] 31))
                  have HLb := Lib.hid (HLa.out.below (below_alloc1 _ (.cells #[.string zp, .string zh, .int .i64 zf, .int .i64 zs, .int .i64 zu] 31)))
                  have HOb := Lib.hid (HOa.out.alloc HOa.out.size (.cells #[.string zp, .string zh, .int .i64 zf, .int .i64 zs, .int .i64 zu] 31))
                  (have k4' := k4; obtain ⟨u0, u1, u2, u3, u4, lt_k4, fz_k4⟩ := k4')
                  (have k5' := k5; obtain ⟨v0, v1, v2, v3, v4, lt_k5, fz_k5⟩ := k5')
                  (have z5' := z5; obtain ⟨i0, i1, i2, i3, i4, lt_z5, fz_z5⟩ := z5')
                  clear k4 k5 z5 HTa HMa HLa HOa
                  go_wp2_with (first | (at_lookup; refine wpList_look_some rfl _ _ 27 true rfl 9 31 Try.underlying27 Try.underlying9 ml (encL (putL M (E.take j))) rfl HMA yp rfl (.agg #[.string zp, .string zh, .int .i64 zf, .int .i64 zs, .int .i64 zu]) hl ?_) | (with_reducible refine wpList_put rfl (.tmp 146) (.tmp 148) (.tmp 149) 27 rfl 9 31 Try.underlying27 Try.underlying9 ml (encL (putL M (E.take j))) rfl HMb.out yp rfl (.agg #[.string yp, .string yh, .int .i64 yf, .int .i64 ys, .int .i64 yu]) rfl ?_; intro w5' hm5 hg5; have HM5' := Lib.hid hm5; have HG5 := Lib.hid hg5; clear hm5 hg5))
                  have hon := (Only.refl ml ml _).grown HG5.out
                  have HTc : Hid (TabT (w.heap.size + 1) w.heap.size T' w5') := HTb.out.away hon (by omega) (by omega) (by omega) (by omega)
                  have HLc := Lib.hid (HLb.out.grown HMb.out hon)
                  have HOc := Lib.hid (HOb.out.trans (hon.below HOb.out.size (by omega) (by omega)))
                  have HMc : Hid (MapIs ml (encL (putL M (E.take (j + 1)))) w5') := by
                    have e1 := put_enc (putL M (E.take j)) yp ⟨yp, yh, yf, ys, yu⟩
                    show MapIs _ _ _
                    rw [HPT.out, ← e1]
                    exact HM5'.out
                  go_roundw
                  case rel => exact ⟨j + 1, by omega, by go_num, HTc.out, HMc.out, HLc.out, HOc.out⟩
                  case measure => (simp [intOf]; omega)
            · obtain rfl : j = E.length := by omega
              have HM2 : Hid (MapIs ml (encL (putL M E)) wr) := by
                have := HM.out
                rw [List.take_length] at this
                exact this
              have HLK2 : Hid (∀ p, lk (putL M E) p = lk T'.m p) := lk_putL_all HLK.out HMO.out (HI5.out.tok HP5.out.once) HE.out.1 HE.out.2
              clear hT hM hL hO hlt2 HM HL
              go_wp2_with fail
              go_roundw
              case rel => exact ⟨k + 1, T', putL M E, by omega, by go_num, HT.out, HM2.out, HLK2, HI5.out, HP5.out, HO.out⟩
              case measure => (simp [intOf]; omega)
        | some z =>
          have hl : look (encL M) lp = some z.val := by rw [look_enc, HLK.out, hv]; rfl
          obtain ⟨b1, b2, b3, b4⟩ := a7 z hv
          have HN5 : Hid (T'.clk = T.clk) := a4
          have hlu : ¬ lu ≤ T.clk := by omega
          have hlu2 : decide (lu ≤ T.clk) = false := decide_eq_false hlu
          obtain ⟨zp, zh, zf, zs, zu⟩ := z
          unfold Lease.val at hl
          dsimp only at b1 b2 b3 b4 hl
          subst b1
          have hzu : ¬ T.clk < zu := by omega
          clear a4 a5 a6 a7 hv HAQ
          have k7 := k6.alloc (.cells #[.string zp, .string zh, .int .i64 zf, .int .i64 zs, .int .i64 zu] 31)
          have j7 := j6.alloc (.cells #[.string zp, .string zh, .int .i64 zf, .int .i64 zs, .int .i64 zu] 31)
          have z7 := (Box5.new1 w5 (.cells #[.string lp, .string lh, .int .i64 (zf + 1), .int .i64 T.clk, .int .i64 lu] 31) (.string zp) (.string zh) (.int .i64 zf) (.int .i64 zs) (.int .i64 zu) 31).cell5
          have HT7 : Hid (TabT (w.heap.size + 1) w.heap.size T' ((w5.alloc (.cells #[.string lp, .string lh, .int .i64 (zf + 1), .int .i64 T.clk, .int .i64 lu] 31)).alloc (.cells #[.string zp, .string zh, .int .i64 zf, .int .i64 zs, .int .i64 zu] 31))) := TabAt.alloc HT6.out _
          have HM7 := Lib.hid (HM6.out.alloc (.cells #[.string zp, .string zh, .int .i64 zf, .int .i64 zs, .int .i64 zu] 31))
          have HO7 := Lib.hid (HO6.out.alloc HO6.out.size (.cells #[.string zp, .string zh, .int .i64 zf, .int .i64 zs, .int .i64 zu] 31))
          (have k7' := k7; obtain ⟨f0, f1, f2, f3, f4, lt_k7, fz_k7⟩ := k7')
          (have j7' := j7; obtain ⟨g0, g1, g2, g3, g4, lt_j7, fz_j7⟩ := j7')
          (have z7' := z7; obtain ⟨i0, i1, i2, i3, i4, lt_z7, fz_z7⟩ := z7')
          go_wp2_with (at_lookup; refine wpList_look_some rfl _ _ 27 true rfl 9 31 Try.underlying27 Try.underlying9 ml (encL M) rfl HM6.out lp rfl (.agg #[.string zp, .string zh, .int .i64 zf, .int .i64 zs, .int .i64 zu]) hl ?_)
          clear c0 c1 c2 c3 c4 d0 d1 d2 d3 d4 e0 e1 e2 e3 e4 i0 i1 i2 i3 i4 lt_k5 lt_k6 lt_j6 lt_z7 fz_k5 fz_k6 fz_j6 fz_k7 fz_j7 fz_z7 k5 k6 j6 k7 j7 z7 HT6 HM6 HO6 hl
          generalize (w5.alloc (.cells #[.string lp, .string lh, .int .i64 (zf + 1), .int .i64 T.clk, .int .i64 lu] 31)).alloc (.cells #[.string zp, .string zh, .int .i64 zf, .int .i64 zs, .int .i64 zu] 31) = w7 at *
          have hS : Below w7.heap.size w7 w7.drew := (Below.refl _ _).drew
          have HF : Hid (((∀ y : Held (Below w7.heap.size w7), y.w.cell? ⟨wr.heap.size, 1, none⟩ = some (.string lp)) ∧ (∀ y : Held (Below w7.heap.size w7), y.w.cell? ⟨wr.heap.size, 2, none⟩ = some (.string lh))) ∧
              (∀ y : Held (Below w7.heap.size w7), y.w.cell? ⟨w5.heap.size, 0, none⟩ = some (.string lp)) ∧ (∀ y : Held (Below w7.heap.size w7), y.w.cell? ⟨w5.heap.size, 1, none⟩ = some (.string lh)) ∧ (∀ y : Held (Below w7.heap.size w7), y.w.cell? ⟨w5.heap.size, 3, none⟩ = some (.int .i64 T.clk)) ∧ (∀ y : Held (Below w7.heap.size w7), y.w.cell? ⟨w5.heap.size, 4, none⟩ = some (.int .i64 lu))) :=
            ⟨⟨fun y => (y.ok.cell (p := ⟨_, _, none⟩) lt_k7).trans f1, fun y => (y.ok.cell (p := ⟨_, _, none⟩) lt_k7).trans f2⟩,
              fun y => (y.ok.cell (p := ⟨_, _, none⟩) lt_j7).trans g0, fun y => (y.ok.cell (p := ⟨_, _, none⟩) lt_j7).trans g1, fun y => (y.ok.cell (p := ⟨_, _, none⟩) lt_j7).trans g3, fun y => (y.ok.cell (p := ⟨_, _, none⟩) lt_j7).trans g4⟩
          have HNW : Hid (∀ y : Held (Below w7.heap.size w7), Calls Try.prog 9 #[.pointer (some ⟨w.heap.size + 1, 0, none⟩)] y.w fun e w' => e = .returned (.int .i64 T.clk) ∧ Below y.w.heap.size y.w w') := fun y => by
            have h := now_any _ _ T'.clk _ y.w (TabAt.after HT7.out y.ok)
            rw [HN5.out] at h
            exact h.mono fun e w' ⟨h1, h2⟩ => ⟨h1, h2 ▸ Below.refl _ _⟩
          clear f0 f1 f2 f3 f4 g0 g1 g2 g3 g4 lt_k7 lt_j7
          (refine wp_region_s (S := Below w7.heap.size w7) (by kernel_rfl) (by kernel_rfl) hS ?_; have hN : Nonempty (Held (Below w7.heap.size w7)) := ⟨⟨_, hS⟩⟩; (have p1 := HF.out.1.1; have p2 := HF.out.1.2; have q0 := HF.out.2.1; have q1 := HF.out.2.2.1; have q3 := HF.out.2.2.2.1; have q4 := HF.out.2.2.2.2); (repeat (go_big_quiet_step ((go_at_call 9; exact held_keep (HNW.out _))))); refine wpQuiet_nil ?_; rintro x ⟨⟨_, hx⟩, rfl⟩; clear hN)
          clear p1 p2 q0 q1 q3 q4
          have HT8 : Hid (TabT (w.heap.size + 1) w.heap.size T' x) := TabAt.after HT7.out hx
          have HM8 : Hid (MapIs ml (encL M) x) := HM7.out.below hx HM7.out.lt
          have HO8 : Hid (Below w.heap.size w x) := HO7.out.trans (hx.mono HO7.out.size)
          clear hx hS HF HNW HT7 HM7 HO7 HN5 hlu hlu2
          go_wp2_with fail
          refine (HAL.out _ HT8.out).mono ?_
          rintro e w9 ⟨S0, cp0, rfl, hls, hb9⟩
          have HT9 : Hid (TabT (w.heap.size + 1) w.heap.size T' w9) := TabAt.after HT8.out hb9
          have HM9 : Hid (MapIs ml (encL M) w9) := HM8.out.below hb9 HM8.out.lt
          have HL9 := Lib.hid hls
          have HO9 := Lib.hid (HO8.out.trans (hb9.mono HO8.out.size))
          clear hls hb9 HT8 HM8 HO8 HAL
          go_wp2_with fail
          go_loopw [103] (fun i wr => ∃ j : Nat, j ≤ E.length ∧ i = .int .i64 j ∧ TabT (w.heap.size + 1) w.heap.size T' wr ∧ MapIs ml (encL (putL M (E.take j))) wr ∧ LsIn S0 E wr ∧ Below w.heap.size w wr) (fun i _ => E.length - (intOf i).toNat)
          case atStart => exact ⟨0, Nat.zero_le _, rfl, HT9.out, HM9.out, HL9.out, HO9.out⟩
          case round =>
            clear HT9 HM9 HL9 HO9
            obtain ⟨j, hj, rfl, hT, hM, hL, hO⟩ := hrel
            have HT := Lib.hid hT
            have HM := Lib.hid hM
            have HL := Lib.hid hL
            have HO := Lib.hid hO
            by_cases hlt2 : j < E.length
            · obtain ⟨be, oe, rfl, hbe, hat⟩ := hL (by omega)
              obtain ⟨g0, g1, g2, g3, g4⟩ := hat j E[j] (List.getElem?_eq_getElem hlt2)
              have HKY : Hid (lk (putL M (E.take j)) E[j].path = lk T.m E[j].path) := by
                show _ = _
                rw [lk_putL_next HE.out.1 hlt2]
                exact HLK.out _
              have HLE : Hid (lk T'.m E[j].path = some E[j]) := lk_E (HI5.out.tok HP5.out.once) HE.out.2 (List.getElem_mem hlt2)
              have HPT : Hid (putL M (E.take (j + 1)) = pt (putL M (E.take j)) E[j].path E[j]) := putL_take hlt2
              generalize E[j] = y at *
              obtain ⟨yp, yh, yf, ys, yu⟩ := y
              dsimp only at g0 g1 g2 g3 g4 HKY HLE HPT
              have HTa : Hid (TabT (w.heap.size + 1) w.heap.size T' (wr.alloc (.cells #[.string yp, .string yh, .int .i64 yf, .int .i64 ys, .int .i64 yu] 31))) := TabAt.alloc HT.out _
              have HMa := Lib.hid (HM.out.alloc (.cells #[.string yp, .string yh, .int .i64 yf, .int .i64 ys, .int .i64 yu] 31))
              have HLa := Lib.hid (HL.out.below (below_alloc1 _ (.cells #[.string yp, .string yh, .int .i64 yf, .int .i64 ys, .int .i64 yu] 31)))
              have HOa := Lib.hid (HO.out.alloc HO.out.size (.cells #[.string yp, .string yh, .int .i64 yf, .int .i64 ys, .int .i64 yu] 31))
              have k4 := (Box5.new wr (.string yp) (.string yh) (.int .i64 yf) (.int .i64 ys) (.int .i64 yu) 31).cell5
              have HMA := HMa.out
              clear hT hM hL hO hat HT HM HL HO
              cases hv : lk T.m yp with
              | none =>
                have hl : look (encL (putL M (E.take j))) yp = none := by rw [look_enc, HKY.out, hv]; rfl
                clear hv
                have k5 := k4.alloc (.cells #[.string ⟨#[]⟩, .string ⟨#[]⟩, .int .i64 0, .int .i64 0, .int .i64 0] 31)
                have z5 := (Box5.new1 wr (.cells #[.string yp, .string yh, .int .i64 yf, .int .i64 ys, .int .i64 yu] 31) (.string ⟨#[]⟩) (.string ⟨#[]⟩) (.int .i64 0) (.int .i64 0) (.int .i64 0) 31).cell5
                have HTb : Hid (TabT (w.heap.size + 1) w.heap.size T' ((wr.alloc (.cells #[.string yp, .string yh, .int .i64 yf, .int .i64 ys, .int .i64 yu] 31)).alloc (.cells #[.string ⟨#[]⟩, .string ⟨#[]⟩, .int .i64 0, .int .i64 0, .int .i64 0] 31))) := TabAt.alloc HTa.out _
                have HMb := Lib.hid (HMa.out.alloc (.cells #[.string ⟨#[]⟩, .string ⟨#[]⟩, .int .i64 0, .int .i64 0, .int .i64 0] 31))
                have HLb := Lib.hid (HLa.out.below (below_alloc1 _ (.cells #[.string ⟨#[]⟩, .string ⟨#[]⟩, .int .i64 0, .int .i64 0, .int .i64 0] 31)))
                have HOb := Lib.hid (HOa.out.alloc HOa.out.size (.cells #[.string ⟨#[]⟩, .string ⟨#[]⟩, .int .i64 0, .int .i64 0, .int .i64 0] 31))
                (have k4' := k4; obtain ⟨u0, u1, u2, u3, u4, lt_k4, fz_k4⟩ := k4')
                (have k5' := k5; obtain ⟨v0, v1, v2, v3, v4, lt_k5, fz_k5⟩ := k5')
                (have z5' := z5; obtain ⟨i0, i1, i2, i3, i4, lt_z5, fz_z5⟩ := z5')
                clear k4 k5 z5 HTa HMa HLa HOa
                go_wp2_with (first | (at_lookup; refine wpList_look_none rfl _ _ 27 true rfl 9 31 Try.underlying27 Try.underlying9 ml (encL (putL M (E.take j))) rfl HMA (.agg #[.string ⟨#[]⟩, .string ⟨#[]⟩, .int .i64 0, .int .i64 0, .int .i64 0]) (by kernel_rfl) yp rfl hl ?_) | (with_reducible refine wpList_put rfl (.tmp 146) (.tmp 148) (.tmp 149) 27 rfl 9 31 Try.underlying27 Try.underlying9 ml (encL (putL M (E.take j))) rfl HMb.out yp rfl (.agg #[.string yp, .string yh, .int .i64 yf, .int .i64 ys, .int .i64 yu]) rfl ?_; intro w5' hm5 hg5; have HM5' := Lib.hid hm5; have HG5 := Lib.hid hg5; clear hm5 hg5))
                have hon := (Only.refl ml ml _).grown HG5.out
                have HTc : Hid (TabT (w.heap.size + 1) w.heap.size T' w5') := HTb.out.away hon (by omega) (by omega) (by omega) (by omega)
                have HLc := Lib.hid (HLb.out.grown HMb.out hon)
                have HOc := Lib.hid (HOb.out.trans (hon.below HOb.out.size (by omega) (by omega)))
                have HMc : Hid (MapIs ml (encL (putL M (E.take (j + 1)))) w5') := by
                  have e1 := put_enc (putL M (E.take j)) yp ⟨yp, yh, yf, ys, yu⟩
                  show MapIs _ _ _
                  rw [HPT.out, ← e1]
                  exact HM5'.out
                go_roundw
                case rel => exact ⟨j + 1, by omega, by go_num, HTc.out, HMc.out, HLc.out, HOc.out⟩
                case measure => (simp [intOf]; omega)
              | some z =>
                have hl : look (encL (putL M (E.take j))) yp = some z.val := by rw [look_enc, HKY.out, hv]; rfl
                obtain ⟨y', e1, hf1, hf2⟩ := HMO.out yp z hv
                rw [HLE.out] at e1
                cases e1
                obtain ⟨zp, zh, zf, zs, zu⟩ := z
                unfold Lease.val at hl
                dsimp only at hl hf1 hf2
                have n1 : ¬ yf < zf := by omega
                clear hv
                rcases Decidable.em (zf = yf) with he | he
                · obtain ⟨r1, r2⟩ := hf2 he
                  subst r1 r2 he
                  clear hf1 hf2
                  have k5 := k4.alloc (.cells #[.string zp, .string zh, .int .i64 zf, .int .i64 zs, .int .i64 zu] 31)
                  have z5 := (Box5.new1 wr (.cells #[.string yp, .string zh, .int .i64 zf, .int .i64 zs, .int .i64 yu] 31) (.string zp) (.string zh) (.int .i64 zf) (.int .i64 zs) (.int .i64 zu) 31).cell5
                  have HTb : Hid (TabT (w.heap.size + 1) w.heap.size T' ((wr.alloc (.cells #[.string yp, .string zh, .int .i64 zf, .int .i64 zs, .int .i64 yu] 31)).alloc (.cells #[.string zp, .string zh, .int .i64 zf, .int .i64 zs, .int .i64 zu] 31))) := TabAt.alloc HTa.out _
                  have HMb := Lib.hid (HMa.out.alloc (.cells #[.string zp, .string zh, .int .i64 zf, .int .i64 zs, .int .i64 zu] 31))
                  have HLb := Lib.hid (HLa.out.below (below_alloc1 _ (.cells #[.string zp, .string zh, .int .i64 zf, .int .i64 zs, .int .i64 zu] 31)))
                  have HOb := Lib.hid (HOa.out.alloc HOa.out.size (.cells #[.string zp, .string zh, .int .i64 zf, .int .i64 zs, .int .i64 zu] 31))
                  (have k4' := k4; obtain ⟨u0, u1, u2, u3, u4, lt_k4, fz_k4⟩ := k4')
                  (have k5' := k5; obtain ⟨v0, v1, v2, v3, v4, lt_k5, fz_k5⟩ := k5')
                  (have z5' := z5; obtain ⟨i0, i1, i2, i3, i4, lt_z5, fz_z5⟩ := z5')
                  clear k4 k5 z5 HTa HMa HLa HOa
                  go_wp2_with (first | (at_lookup; refine wpList_look_some rfl _ _ 27 true rfl 9 31 Try.underlying27 Try.underlying9 ml (encL (putL M (E.take j))) rfl HMA yp rfl (.agg #[.string zp, .string zh, .int .i64 zf, .int .i64 zs, .int .i64 zu]) hl ?_) | (with_reducible refine wpList_put rfl (.tmp 146) (.tmp 148) (.tmp 149) 27 rfl 9 31 Try.underlying27 Try.underlying9 ml (encL (putL M (E.take j))) rfl HMb.out yp rfl (.agg #[.string yp, .string zh, .int .i64 zf, .int .i64 zs, .int .i64 yu]) rfl ?_; intro w5' hm5 hg5; have HM5' := Lib.hid hm5; have HG5 := Lib.hid hg5; clear hm5 hg5))
                  have hon := (Only.refl ml ml _).grown HG5.out
                  have HTc : Hid (TabT (w.heap.size + 1) w.heap.size T' w5') := HTb.out.away hon (by omega) (by omega) (by omega) (by omega)
                  have HLc := Lib.hid (HLb.out.grown HMb.out hon)
                  have HOc := Lib.hid (HOb.out.trans (hon.below HOb.out.size (by omega) (by omega)))
                  have HMc : Hid (MapIs ml (encL (putL M (E.take (j + 1)))) w5') := by
                    have e1 := put_enc (putL M (E.take j)) yp ⟨yp, zh, zf, zs, yu⟩
                    show MapIs _ _ _
                    rw [HPT.out, ← e1]
                    exact HM5'.out
                  go_roundw
                  case rel => exact ⟨j + 1, by omega, by go_num, HTc.out, HMc.out, HLc.out, HOc.out⟩
                  case measure => (simp [intOf]; omega)
                · clear hf2
                  have k5 := k4.alloc (.cells #[.string zp, .string zh, .int .i64 zf, .int .i64 zs, .int .i64 zu] 31)
                  have z5 := (Box5.new1 wr (.cells #[.string yp, .string yh, .int .i64 yf, .int .i64 ys, .int .i64 yu] 31) (.string zp) (.string zh) (.int .i64 zf) (.int .i64 zs) (.int .i64 zu) 31).cell5
                  have HTb : Hid (TabT (w.heap.size + 1) w.heap.size T' ((wr.alloc (.cells #[.string yp, .string yh, .int .i64 yf, .int .i64 ys, .int .i64 yu] 31)).alloc (.cells #[.string zp, .string zh, .int .i64 zf, .int .i64 zs, .int .i64 zu] 31))) := TabAt.alloc HTa.out _
                  have HMb := Lib.hid (HMa.out.alloc (.cells #[.string zp, .string zh, .int .i64 zf, .int .i64 zs, .int .i64 zu] 31))
                  have HLb := Lib.hid (HLa.out.below (below_alloc1 _ (.cells #[.string zp, .string zh, .int .i64 zf, .int .i64 zs, .int .i64 zu] 31)))
                  have HOb := Lib.hid (HOa.out.alloc HOa.out.size (.cells #[.string zp, .string zh, .int .i64 zf, .int .i64 zs, .int .i64 zu] 31))
                  (have k4' := k4; obtain ⟨u0, u1, u2, u3, u4, lt_k4, fz_k4⟩ := k4')
                  (have k5' := k5; obtain ⟨v0, v1, v2, v3, v4, lt_k5, fz_k5⟩ := k5')
                  (have z5' := z5; obtain ⟨i0, i1, i2, i3, i4, lt_z5, fz_z5⟩ := z5')
                  clear k4 k5 z5 HTa HMa HLa HOa
                  go_wp2_with (first | (at_lookup; refine wpList_look_some rfl _ _ 27 true rfl 9 31 Try.underlying27 Try.underlying9 ml (encL (putL M (E.take j))) rfl HMA yp rfl (.agg #[.string zp, .string zh, .int .i64 zf, .int .i64 zs, .int .i64 zu]) hl ?_) | (with_reducible refine wpList_put rfl (.tmp 146) (.tmp 148) (.tmp 149) 27 rfl 9 31 Try.underlying27 Try.underlying9 ml (encL (putL M (E.take j))) rfl HMb.out yp rfl (.agg #[.string yp, .string yh, .int .i64 yf, .int .i64 ys, .int .i64 yu]) rfl ?_; intro w5' hm5 hg5; have HM5' := Lib.hid hm5; have HG5 := Lib.hid hg5; clear hm5 hg5))
                  have hon := (Only.refl ml ml _).grown HG5.out
                  have HTc : Hid (TabT (w.heap.size + 1) w.heap.size T' w5') := HTb.out.away hon (by omega) (by omega) (by omega) (by omega)
                  have HLc := Lib.hid (HLb.out.grown HMb.out hon)
                  have HOc := Lib.hid (HOb.out.trans (hon.below HOb.out.size (by omega) (by omega)))
                  have HMc : Hid (MapIs ml (encL (putL M (E.take (j + 1)))) w5') := by
                    have e1 := put_enc (putL M (E.take j)) yp ⟨yp, yh, yf, ys, yu⟩
                    show MapIs _ _ _
                    rw [HPT.out, ← e1]
                    exact HM5'.out
                  go_roundw
                  case rel => exact ⟨j + 1, by omega, by go_num, HTc.out, HMc.out, HLc.out, HOc.out⟩
                  case measure => (simp [intOf]; omega)
            · obtain rfl : j = E.length := by omega
              have HM2 : Hid (MapIs ml (encL (putL M E)) wr) := by
                have := HM.out
                rw [List.take_length] at this
                exact this
              have HLK2 : Hid (∀ p, lk (putL M E) p = lk T'.m p) := lk_putL_all HLK.out HMO.out (HI5.out.tok HP5.out.once) HE.out.1 HE.out.2
              clear hT hM hL hO hlt2 HM HL
              go_wp2_with fail
              go_roundw
              case rel => exact ⟨k + 1, T', putL M E, by omega, by go_num, HT.out, HM2.out, HLK2, HI5.out, HP5.out, HO.out⟩
              case measure => (simp [intOf]; omega)
      · have HT8 := HT6
        have HM8 := HM6
        have HO8 := HO6
        clear HT6 HM6 HO6 k5 k6 j6
        rcases Decidable.em (kd = 1) with h1 | h1
        · subst h1
          have h2 : ¬ E1 = 0 := fun e => hq ⟨rfl, e⟩
          clear hq HAQ
          go_wp2_with fail
          clear c0 c1 c2 c3 c4 d0 d1 d2 d3 d4 e0 e1 e2 e3 e4 lt_k5 lt_k6 lt_j6 fz_k5 fz_k6 fz_j6
          generalize w5.alloc (.cells #[.string lp, .string lh, .int .i64 lf, .int .i64 ls, .int .i64 lu] 31) = x at *
          refine (HAL.out _ HT8.out).mono ?_
          rintro e w9 ⟨S0, cp0, rfl, hls, hb9⟩
          have HT9 : Hid (TabT (w.heap.size + 1) w.heap.size T' w9) := TabAt.after HT8.out hb9
          have HM9 : Hid (MapIs ml (encL M) w9) := HM8.out.below hb9 HM8.out.lt
          have HL9 := Lib.hid hls
          have HO9 := Lib.hid (HO8.out.trans (hb9.mono HO8.out.size))
          clear hls hb9 HT8 HM8 HO8 HAL
          go_wp2_with fail
          go_loopw [103] (fun i wr => ∃ j : Nat, j ≤ E.length ∧ i = .int .i64 j ∧ TabT (w.heap.size + 1) w.heap.size T' wr ∧ MapIs ml (encL (putL M (E.take j))) wr ∧ LsIn S0 E wr ∧ Below w.heap.size w wr) (fun i _ => E.length - (intOf i).toNat)
          case atStart => exact ⟨0, Nat.zero_le _, rfl, HT9.out, HM9.out, HL9.out, HO9.out⟩
          case round =>
            clear HT9 HM9 HL9 HO9
            obtain ⟨j, hj, rfl, hT, hM, hL, hO⟩ := hrel
            have HT := Lib.hid hT
            have HM := Lib.hid hM
            have HL := Lib.hid hL
            have HO := Lib.hid hO
            by_cases hlt2 : j < E.length
            · obtain ⟨be, oe, rfl, hbe, hat⟩ := hL (by omega)
              obtain ⟨g0, g1, g2, g3, g4⟩ := hat j E[j] (List.getElem?_eq_getElem hlt2)
              have HKY : Hid (lk (putL M (E.take j)) E[j].path = lk T.m E[j].path) := by
                show _ = _
                rw [lk_putL_next HE.out.1 hlt2]
                exact HLK.out _
              have HLE : Hid (lk T'.m E[j].path = some E[j]) := lk_E (HI5.out.tok HP5.out.once) HE.out.2 (List.getElem_mem hlt2)
              have HPT : Hid (putL M (E.take (j + 1)) = pt (putL M (E.take j)) E[j].path E[j]) := putL_take hlt2
              generalize E[j] = y at *
              obtain ⟨yp, yh, yf, ys, yu⟩ := y
              dsimp only at g0 g1 g2 g3 g4 HKY HLE HPT
              have HTa : Hid (TabT (w.heap.size + 1) w.heap.size T' (wr.alloc (.cells #[.string yp, .string yh, .int .i64 yf, .int .i64 ys, .int .i64 yu] 31))) := TabAt.alloc HT.out _
              have HMa := Lib.hid (HM.out.alloc (.cells #[.string yp, .string yh, .int .i64 yf, .int .i64 ys, .int .i64 yu] 31))
              have HLa := Lib.hid (HL.out.below (below_alloc1 _ (.cells #[.string yp, .string yh, .int .i64 yf, .int .i64 ys, .int .i64 yu] 31)))
              have HOa := Lib.hid (HO.out.alloc HO.out.size (.cells #[.string yp, .string yh, .int .i64 yf, .int .i64 ys, .int .i64 yu] 31))
              have k4 := (Box5.new wr (.string yp) (.string yh) (.int .i64 yf) (.int .i64 ys) (.int .i64 yu) 31).cell5
              have HMA := HMa.out
              clear hT hM hL hO hat HT HM HL HO
              cases hv : lk T.m yp with
              | none =>
                have hl : look (encL (putL M (E.take j))) yp = none := by rw [look_enc, HKY.out, hv]; rfl
                clear hv
                have k5 := k4.alloc (.cells #[.string ⟨#[]⟩, .string ⟨#[]⟩, .int .i64 0, .int .i64 0, .int .i64 0] 31)
                have z5 := (Box5.new1 wr (.cells #[.string yp, .string yh, .int .i64 yf, .int .i64 ys, .int .i64 yu] 31) (.string ⟨#[]⟩) (.string ⟨#[]⟩) (.int .i64 0) (.int .i64 0) (.int .i64 0) 31).cell5
                have HTb : Hid (TabT (w.heap.size + 1) w.heap.size T' ((wr.alloc (.cells #[.string yp, .string yh, .int .i64 yf, .int .i64 ys, .int .i64 yu] 31)).alloc (.cells #[.string ⟨#[]⟩, .string ⟨#[]⟩, .int .i64 0, .int .i64 0, .int .i64 0] 31))) := TabAt.alloc HTa.out _
                have HMb := Lib.hid (HMa.out.alloc (.cells #[.string ⟨#[]⟩, .string ⟨#[]⟩, .int .i64 0, .int .i64 0, .int .i64 0] 31))
                have HLb := Lib.hid (HLa.out.below (below_alloc1 _ (.cells #[.string ⟨#[]⟩, .string ⟨#[]⟩, .int .i64 0, .int .i64 0, .int .i64 0] 31)))
                have HOb := Lib.hid (HOa.out.alloc HOa.out.size (.cells #[.string ⟨#[]⟩, .string ⟨#[]⟩, .int .i64 0, .int .i64 0, .int .i64 0] 31))
                (have k4' := k4; obtain ⟨u0, u1, u2, u3, u4, lt_k4, fz_k4⟩ := k4')
                (have k5' := k5; obtain ⟨v0, v1, v2, v3, v4, lt_k5, fz_k5⟩ := k5')
                (have z5' := z5; obtain ⟨i0, i1, i2, i3, i4, lt_z5, fz_z5⟩ := z5')
                clear k4 k5 z5 HTa HMa HLa HOa
                go_wp2_with (first | (at_lookup; refine wpList_look_none rfl _ _ 27 true rfl 9 31 Try.underlying27 Try.underlying9 ml (encL (putL M (E.take j))) rfl HMA (.agg #[.string ⟨#[]⟩, .string ⟨#[]⟩, .int .i64 0, .int .i64 0, .int .i64 0]) (by kernel_rfl) yp rfl hl ?_) | (with_reducible refine wpList_put rfl (.tmp 146) (.tmp 148) (.tmp 149) 27 rfl 9 31 Try.underlying27 Try.underlying9 ml (encL (putL M (E.take j))) rfl HMb.out yp rfl (.agg #[.string yp, .string yh, .int .i64 yf, .int .i64 ys, .int .i64 yu]) rfl ?_; intro w5' hm5 hg5; have HM5' := Lib.hid hm5; have HG5 := Lib.hid hg5; clear hm5 hg5))
                have hon := (Only.refl ml ml _).grown HG5.out
                have HTc : Hid (TabT (w.heap.size + 1) w.heap.size T' w5') := HTb.out.away hon (by omega) (by omega) (by omega) (by omega)
                have HLc := Lib.hid (HLb.out.grown HMb.out hon)
                have HOc := Lib.hid (HOb.out.trans (hon.below HOb.out.size (by omega) (by omega)))
                have HMc : Hid (MapIs ml (encL (putL M (E.take (j + 1)))) w5') := by
                  have e1 := put_enc (putL M (E.take j)) yp ⟨yp, yh, yf, ys, yu⟩
                  show MapIs _ _ _
                  rw [HPT.out, ← e1]
                  exact HM5'.out
                go_roundw
                case rel => exact ⟨j + 1, by omega, by go_num, HTc.out, HMc.out, HLc.out, HOc.out⟩
                case measure => (simp [intOf]; omega)
              | some z =>
                have hl : look (encL (putL M (E.take j))) yp = some z.val := by rw [look_enc, HKY.out, hv]; rfl
                obtain ⟨y', e1, hf1, hf2⟩ := HMO.out yp z hv
                rw [HLE.out] at e1
                cases e1
                obtain ⟨zp, zh, zf, zs, zu⟩ := z
                unfold Lease.val at hl
                dsimp only at hl hf1 hf2
                have n1 : ¬ yf < zf := by omega
                clear hv
                rcases Decidable.em (zf = yf) with he | he
                · obtain ⟨r1, r2⟩ := hf2 he
                  subst r1 r2 he
                  clear hf1 hf2
                  have k5 := k4.alloc (.cells #[.string zp, .string zh, .int .i64 zf, .int .i64 zs, .int .i64 zu] 31)
                  have z5 := (Box5.new1 wr (.cells #[.string yp, .string zh, .int .i64 zf, .int .i64 zs, .int .i64 yu] 31) (.string zp) (.string zh) (.int .i64 zf) (.int .i64 zs) (.int .i64 zu) 31).cell5
                  have HTb : Hid (TabT (w.heap.size + 1) w.heap.size T' ((wr.alloc (.cells #[.string yp, .string zh, .int .i64 zf, .int .i64 zs, .int .i64 yu] 31)).alloc (.cells #[.string zp, .string zh, .int .i64 zf, .int .i64 zs, .int .i64 zu] 31))) := TabAt.alloc HTa.out _
                  have HMb := Lib.hid (HMa.out.alloc (.cells #[.string zp, .string zh, .int .i64 zf, .int .i64 zs, .int .i64 zu] 31))
                  have HLb := Lib.hid (HLa.out.below (below_alloc1 _ (.cells #[.string zp, .string zh, .int .i64 zf, .int .i64 zs, .int .i64 zu] 31)))
                  have HOb := Lib.hid (HOa.out.alloc HOa.out.size (.cells #[.string zp, .string zh, .int .i64 zf, .int .i64 zs, .int .i64 zu] 31))
                  (have k4' := k4; obtain ⟨u0, u1, u2, u3, u4, lt_k4, fz_k4⟩ := k4')
                  (have k5' := k5; obtain ⟨v0, v1, v2, v3, v4, lt_k5, fz_k5⟩ := k5')
                  (have z5' := z5; obtain ⟨i0, i1, i2, i3, i4, lt_z5, fz_z5⟩ := z5')
                  clear k4 k5 z5 HTa HMa HLa HOa
                  go_wp2_with (first | (at_lookup; refine wpList_look_some rfl _ _ 27 true rfl 9 31 Try.underlying27 Try.underlying9 ml (encL (putL M (E.take j))) rfl HMA yp rfl (.agg #[.string zp, .string zh, .int .i64 zf, .int .i64 zs, .int .i64 zu]) hl ?_) | (with_reducible refine wpList_put rfl (.tmp 146) (.tmp 148) (.tmp 149) 27 rfl 9 31 Try.underlying27 Try.underlying9 ml (encL (putL M (E.take j))) rfl HMb.out yp rfl (.agg #[.string yp, .string zh, .int .i64 zf, .int .i64 zs, .int .i64 yu]) rfl ?_; intro w5' hm5 hg5; have HM5' := Lib.hid hm5; have HG5 := Lib.hid hg5; clear hm5 hg5))
                  have hon := (Only.refl ml ml _).grown HG5.out
                  have HTc : Hid (TabT (w.heap.size + 1) w.heap.size T' w5') := HTb.out.away hon (by omega) (by omega) (by omega) (by omega)
                  have HLc := Lib.hid (HLb.out.grown HMb.out hon)
                  have HOc := Lib.hid (HOb.out.trans (hon.below HOb.out.size (by omega) (by omega)))
                  have HMc : Hid (MapIs ml (encL (putL M (E.take (j + 1)))) w5') := by
                    have e1 := put_enc (putL M (E.take j)) yp ⟨yp, zh, zf, zs, yu⟩
                    show MapIs _ _ _
                    rw [HPT.out, ← e1]
                    exact HM5'.out
                  go_roundw
                  case rel => exact ⟨j + 1, by omega, by go_num, HTc.out, HMc.out, HLc.out, HOc.out⟩
                  case measure => (simp [intOf]; omega)
                · clear hf2
                  have k5 := k4.alloc (.cells #[.string zp, .string zh, .int .i64 zf, .int .i64 zs, .int .i64 zu] 31)
                  have z5 := (Box5.new1 wr (.cells #[.string yp, .string yh, .int .i64 yf, .int .i64 ys, .int .i64 yu] 31) (.string zp) (.string zh) (.int .i64 zf) (.int .i64 zs) (.int .i64 zu) 31).cell5
                  have HTb : Hid (TabT (w.heap.size + 1) w.heap.size T' ((wr.alloc (.cells #[.string yp, .string yh, .int .i64 yf, .int .i64 ys, .int .i64 yu] 31)).alloc (.cells #[.string zp, .string zh, .int .i64 zf, .int .i64 zs, .int .i64 zu] 31))) := TabAt.alloc HTa.out _
                  have HMb := Lib.hid (HMa.out.alloc (.cells #[.string zp, .string zh, .int .i64 zf, .int .i64 zs, .int .i64 zu] 31))
                  have HLb := Lib.hid (HLa.out.below (below_alloc1 _ (.cells #[.string zp, .string zh, .int .i64 zf, .int .i64 zs, .int .i64 zu] 31)))
                  have HOb := Lib.hid (HOa.out.alloc HOa.out.size (.cells #[.string zp, .string zh, .int .i64 zf, .int .i64 zs, .int .i64 zu] 31))
                  (have k4' := k4; obtain ⟨u0, u1, u2, u3, u4, lt_k4, fz_k4⟩ := k4')
                  (have k5' := k5; obtain ⟨v0, v1, v2, v3, v4, lt_k5, fz_k5⟩ := k5')
                  (have z5' := z5; obtain ⟨i0, i1, i2, i3, i4, lt_z5, fz_z5⟩ := z5')
                  clear k4 k5 z5 HTa HMa HLa HOa
                  go_wp2_with (first | (at_lookup; refine wpList_look_some rfl _ _ 27 true rfl 9 31 Try.underlying27 Try.underlying9 ml (encL (putL M (E.take j))) rfl HMA yp rfl (.agg #[.string zp, .string zh, .int .i64 zf, .int .i64 zs, .int .i64 zu]) hl ?_) | (with_reducible refine wpList_put rfl (.tmp 146) (.tmp 148) (.tmp 149) 27 rfl 9 31 Try.underlying27 Try.underlying9 ml (encL (putL M (E.take j))) rfl HMb.out yp rfl (.agg #[.string yp, .string yh, .int .i64 yf, .int .i64 ys, .int .i64 yu]) rfl ?_; intro w5' hm5 hg5; have HM5' := Lib.hid hm5; have HG5 := Lib.hid hg5; clear hm5 hg5))
                  have hon := (Only.refl ml ml _).grown HG5.out
                  have HTc : Hid (TabT (w.heap.size + 1) w.heap.size T' w5') := HTb.out.away hon (by omega) (by omega) (by omega) (by omega)
                  have HLc := Lib.hid (HLb.out.grown HMb.out hon)
                  have HOc := Lib.hid (HOb.out.trans (hon.below HOb.out.size (by omega) (by omega)))
                  have HMc : Hid (MapIs ml (encL (putL M (E.take (j + 1)))) w5') := by
                    have e1 := put_enc (putL M (E.take j)) yp ⟨yp, yh, yf, ys, yu⟩
                    show MapIs _ _ _
                    rw [HPT.out, ← e1]
                    exact HM5'.out
                  go_roundw
                  case rel => exact ⟨j + 1, by omega, by go_num, HTc.out, HMc.out, HLc.out, HOc.out⟩
                  case measure => (simp [intOf]; omega)
            · obtain rfl : j = E.length := by omega
              have HM2 : Hid (MapIs ml (encL (putL M E)) wr) := by
                have := HM.out
                rw [List.take_length] at this
                exact this
              have HLK2 : Hid (∀ p, lk (putL M E) p = lk T'.m p) := lk_putL_all HLK.out HMO.out (HI5.out.tok HP5.out.once) HE.out.1 HE.out.2
              clear hT hM hL hO hlt2 HM HL
              go_wp2_with fail
              go_roundw
              case rel => exact ⟨k + 1, T', putL M E, by omega, by go_num, HT.out, HM2.out, HLK2, HI5.out, HP5.out, HO.out⟩
              case measure => (simp [intOf]; omega)
        · clear hq HAQ
          go_wp2_with fail
          clear c0 c1 c2 c3 c4 d0 d1 d2 d3 d4 e0 e1 e2 e3 e4 lt_k5 lt_k6 lt_j6 fz_k5 fz_k6 fz_j6
          generalize w5.alloc (.cells #[.string lp, .string lh, .int .i64 lf, .int .i64 ls, .int .i64 lu] 31) = x at *
          refine (HAL.out _ HT8.out).mono ?_
          rintro e w9 ⟨S0, cp0, rfl, hls, hb9⟩
          have HT9 : Hid (TabT (w.heap.size + 1) w.heap.size T' w9) := TabAt.after HT8.out hb9
          have HM9 : Hid (MapIs ml (encL M) w9) := HM8.out.below hb9 HM8.out.lt
          have HL9 := Lib.hid hls
          have HO9 := Lib.hid (HO8.out.trans (hb9.mono HO8.out.size))
          clear hls hb9 HT8 HM8 HO8 HAL
          go_wp2_with fail
          go_loopw [103] (fun i wr => ∃ j : Nat, j ≤ E.length ∧ i = .int .i64 j ∧ TabT (w.heap.size + 1) w.heap.size T' wr ∧ MapIs ml (encL (putL M (E.take j))) wr ∧ LsIn S0 E wr ∧ Below w.heap.size w wr) (fun i _ => E.length - (intOf i).toNat)
          case atStart => exact ⟨0, Nat.zero_le _, rfl, HT9.out, HM9.out, HL9.out, HO9.out⟩
          case round =>
            clear HT9 HM9 HL9 HO9
            obtain ⟨j, hj, rfl, hT, hM, hL, hO⟩ := hrel
            have HT := Lib.hid hT
            have HM := Lib.hid hM
            have HL := Lib.hid hL
            have HO := Lib.hid hO
            by_cases hlt2 : j < E.length
            · obtain ⟨be, oe, rfl, hbe, hat⟩ := hL (by omega)
              obtain ⟨g0, g1, g2, g3, g4⟩ := hat j E[j] (List.getElem?_eq_getElem hlt2)
              have HKY : Hid (lk (putL M (E.take j)) E[j].path = lk T.m E[j].path) := by
                show _ = _
                rw [lk_putL_next HE.out.1 hlt2]
                exact HLK.out _
              have HLE : Hid (lk T'.m E[j].path = some E[j]) := lk_E (HI5.out.tok HP5.out.once) HE.out.2 (List.getElem_mem hlt2)
              have HPT : Hid (putL M (E.take (j + 1)) = pt (putL M (E.take j)) E[j].path E[j]) := putL_take hlt2
              generalize E[j] = y at *
              obtain ⟨yp, yh, yf, ys, yu⟩ := y
              dsimp only at g0 g1 g2 g3 g4 HKY HLE HPT
              have HTa : Hid (TabT (w.heap.size + 1) w.heap.size T' (wr.alloc (.cells #[.string yp, .string yh, .int .i64 yf, .int .i64 ys, .int .i64 yu] 31))) := TabAt.alloc HT.out _
              have HMa := Lib.hid (HM.out.alloc (.cells #[.string yp, .string yh, .int .i64 yf, .int .i64 ys, .int .i64 yu] 31))
              have HLa := Lib.hid (HL.out.below (below_alloc1 _ (.cells #[.string yp, .string yh, .int .i64 yf, .int .i64 ys, .int .i64 yu] 31)))
              have HOa := Lib.hid (HO.out.alloc HO.out.size (.cells #[.string yp, .string yh, .int .i64 yf, .int .i64 ys, .int .i64 yu] 31))
              have k4 := (Box5.new wr (.string yp) (.string yh) (.int .i64 yf) (.int .i64 ys) (.int .i64 yu) 31).cell5
              have HMA := HMa.out
              clear hT hM hL hO hat HT HM HL HO
              cases hv : lk T.m yp with
              | none =>
                have hl : look (encL (putL M (E.take j))) yp = none := by rw [look_enc, HKY.out, hv]; rfl
                clear hv
                have k5 := k4.alloc (.cells #[.string ⟨#[]⟩, .string ⟨#[]⟩, .int .i64 0, .int .i64 0, .int .i64 0] 31)
                have z5 := (Box5.new1 wr (.cells #[.string yp, .string yh, .int .i64 yf, .int .i64 ys, .int .i64 yu] 31) (.string ⟨#[]⟩) (.string ⟨#[]⟩) (.int .i64 0) (.int .i64 0) (.int .i64 0) 31).cell5
                have HTb : Hid (TabT (w.heap.size + 1) w.heap.size T' ((wr.alloc (.cells #[.string yp, .string yh, .int .i64 yf, .int .i64 ys, .int .i64 yu] 31)).alloc (.cells #[.string ⟨#[]⟩, .string ⟨#[]⟩, .int .i64 0, .int .i64 0, .int .i64 0] 31))) := TabAt.alloc HTa.out _
                have HMb := Lib.hid (HMa.out.alloc (.cells #[.string ⟨#[]⟩, .string ⟨#[]⟩, .int .i64 0, .int .i64 0, .int .i64 0] 31))
                have HLb := Lib.hid (HLa.out.below (below_alloc1 _ (.cells #[.string ⟨#[]⟩, .string ⟨#[]⟩, .int .i64 0, .int .i64 0, .int .i64 0] 31)))
                have HOb := Lib.hid (HOa.out.alloc HOa.out.size (.cells #[.string ⟨#[]⟩, .string ⟨#[]⟩, .int .i64 0, .int .i64 0, .int .i64 0] 31))
                (have k4' := k4; obtain ⟨u0, u1, u2, u3, u4, lt_k4, fz_k4⟩ := k4')
                (have k5' := k5; obtain ⟨v0, v1, v2, v3, v4, lt_k5, fz_k5⟩ := k5')
                (have z5' := z5; obtain ⟨i0, i1, i2, i3, i4, lt_z5, fz_z5⟩ := z5')
                clear k4 k5 z5 HTa HMa HLa HOa
                go_wp2_with (first | (at_lookup; refine wpList_look_none rfl _ _ 27 true rfl 9 31 Try.underlying27 Try.underlying9 ml (encL (putL M (E.take j))) rfl HMA (.agg #[.string ⟨#[]⟩, .string ⟨#[]⟩, .int .i64 0, .int .i64 0, .int .i64 0]) (by kernel_rfl) yp rfl hl ?_) | (with_reducible refine wpList_put rfl (.tmp 146) (.tmp 148) (.tmp 149) 27 rfl 9 31 Try.underlying27 Try.underlying9 ml (encL (putL M (E.take j))) rfl HMb.out yp rfl (.agg #[.string yp, .string yh, .int .i64 yf, .int .i64 ys, .int .i64 yu]) rfl ?_; intro w5' hm5 hg5; have HM5' := Lib.hid hm5; have HG5 := Lib.hid hg5; clear hm5 hg5))
                have hon := (Only.refl ml ml _).grown HG5.out
                have HTc : Hid (TabT (w.heap.size + 1) w.heap.size T' w5') := HTb.out.away hon (by omega) (by omega) (by omega) (by omega)
                have HLc := Lib.hid (HLb.out.grown HMb.out hon)
                have HOc := Lib.hid (HOb.out.trans (hon.below HOb.out.size (by omega) (by omega)))
                have HMc : Hid (MapIs ml (encL (putL M (E.take (j + 1)))) w5') := by
                  have e1 := put_enc (putL M (E.take j)) yp ⟨yp, yh, yf, ys, yu⟩
                  show MapIs _ _ _
                  rw [HPT.out, ← e1]
                  exact HM5'.out
                go_roundw
                case rel => exact ⟨j + 1, by omega, by go_num, HTc.out, HMc.out, HLc.out, HOc.out⟩
                case measure => (simp [intOf]; omega)
              | some z =>
                have hl : look (encL (putL M (E.take j))) yp = some z.val := by rw [look_enc, HKY.out, hv]; rfl
                obtain ⟨y', e1, hf1, hf2⟩ := HMO.out yp z hv
                rw [HLE.out] at e1
                cases e1
                obtain ⟨zp, zh, zf, zs, zu⟩ := z
                unfold Lease.val at hl
                dsimp only at hl hf1 hf2
                have n1 : ¬ yf < zf := by omega
                clear hv
                rcases Decidable.em (zf = yf) with he | he
                · obtain ⟨r1, r2⟩ := hf2 he
                  subst r1 r2 he
                  clear hf1 hf2
                  have k5 := k4.alloc (.cells #[.string zp, .string zh, .int .i64 zf, .int .i64 zs, .int .i64 zu] 31)
                  have z5 := (Box5.new1 wr (.cells #[.string yp, .string zh, .int .i64 zf, .int .i64 zs, .int .i64 yu] 31) (.string zp) (.string zh) (.int .i64 zf) (.int .i64 zs) (.int .i64 zu) 31).cell5
                  have HTb : Hid (TabT (w.heap.size + 1) w.heap.size T' ((wr.alloc (.cells #[.string yp, .string zh, .int .i64 zf, .int .i64 zs, .int .i64 yu] 31)).alloc (.cells #[.string zp, .string zh, .int .i64 zf, .int .i64 zs, .int .i64 zu] 31))) := TabAt.alloc HTa.out _
                  have HMb := Lib.hid (HMa.out.alloc (.cells #[.string zp, .string zh, .int .i64 zf, .int .i64 zs, .int .i64 zu] 31))
                  have HLb := Lib.hid (HLa.out.below (below_alloc1 _ (.cells #[.string zp, .string zh, .int .i64 zf, .int .i64 zs, .int .i64 zu] 31)))
                  have HOb := Lib.hid (HOa.out.alloc HOa.out.size (.cells #[.string zp, .string zh, .int .i64 zf, .int .i64 zs, .int .i64 zu] 31))
                  (have k4' := k4; obtain ⟨u0, u1, u2, u3, u4, lt_k4, fz_k4⟩ := k4')
                  (have k5' := k5; obtain ⟨v0, v1, v2, v3, v4, lt_k5, fz_k5⟩ := k5')
                  (have z5' := z5; obtain ⟨i0, i1, i2, i3, i4, lt_z5, fz_z5⟩ := z5')
                  clear k4 k5 z5 HTa HMa HLa HOa
                  go_wp2_with (first | (at_lookup; refine wpList_look_some rfl _ _ 27 true rfl 9 31 Try.underlying27 Try.underlying9 ml (encL (putL M (E.take j))) rfl HMA yp rfl (.agg #[.string zp, .string zh, .int .i64 zf, .int .i64 zs, .int .i64 zu]) hl ?_) | (with_reducible refine wpList_put rfl (.tmp 146) (.tmp 148) (.tmp 149) 27 rfl 9 31 Try.underlying27 Try.underlying9 ml (encL (putL M (E.take j))) rfl HMb.out yp rfl (.agg #[.string yp, .string zh, .int .i64 zf, .int .i64 zs, .int .i64 yu]) rfl ?_; intro w5' hm5 hg5; have HM5' := Lib.hid hm5; have HG5 := Lib.hid hg5; clear hm5 hg5))
                  have hon := (Only.refl ml ml _).grown HG5.out
                  have HTc : Hid (TabT (w.heap.size + 1) w.heap.size T' w5') := HTb.out.away hon (by omega) (by omega) (by omega) (by omega)
                  have HLc := Lib.hid (HLb.out.grown HMb.out hon)
                  have HOc := Lib.hid (HOb.out.trans (hon.below HOb.out.size (by omega) (by omega)))
                  have HMc : Hid (MapIs ml (encL (putL M (E.take (j + 1)))) w5') := by
                    have e1 := put_enc (putL M (E.take j)) yp ⟨yp, zh, zf, zs, yu⟩
                    show MapIs _ _ _
                    rw [HPT.out, ← e1]
                    exact HM5'.out
                  go_roundw
                  case rel => exact ⟨j + 1, by omega, by go_num, HTc.out, HMc.out, HLc.out, HOc.out⟩
                  case measure => (simp [intOf]; omega)
                · clear hf2
                  have k5 := k4.alloc (.cells #[.string zp, .string zh, .int .i64 zf, .int .i64 zs, .int .i64 zu] 31)
                  have z5 := (Box5.new1 wr (.cells #[.string yp, .string yh, .int .i64 yf, .int .i64 ys, .int .i64 yu] 31) (.string zp) (.string zh) (.int .i64 zf) (.int .i64 zs) (.int .i64 zu) 31).cell5
                  have HTb : Hid (TabT (w.heap.size + 1) w.heap.size T' ((wr.alloc (.cells #[.string yp, .string yh, .int .i64 yf, .int .i64 ys, .int .i64 yu] 31)).alloc (.cells #[.string zp, .string zh, .int .i64 zf, .int .i64 zs, .int .i64 zu] 31))) := TabAt.alloc HTa.out _
                  have HMb := Lib.hid (HMa.out.alloc (.cells #[.string zp, .string zh, .int .i64 zf, .int .i64 zs, .int .i64 zu] 31))
                  have HLb := Lib.hid (HLa.out.below (below_alloc1 _ (.cells #[.string zp, .string zh, .int .i64 zf, .int .i64 zs, .int .i64 zu] 31)))
                  have HOb := Lib.hid (HOa.out.alloc HOa.out.size (.cells #[.string zp, .string zh, .int .i64 zf, .int .i64 zs, .int .i64 zu] 31))
                  (have k4' := k4; obtain ⟨u0, u1, u2, u3, u4, lt_k4, fz_k4⟩ := k4')
                  (have k5' := k5; obtain ⟨v0, v1, v2, v3, v4, lt_k5, fz_k5⟩ := k5')
                  (have z5' := z5; obtain ⟨i0, i1, i2, i3, i4, lt_z5, fz_z5⟩ := z5')
                  clear k4 k5 z5 HTa HMa HLa HOa
                  go_wp2_with (first | (at_lookup; refine wpList_look_some rfl _ _ 27 true rfl 9 31 Try.underlying27 Try.underlying9 ml (encL (putL M (E.take j))) rfl HMA yp rfl (.agg #[.string zp, .string zh, .int .i64 zf, .int .i64 zs, .int .i64 zu]) hl ?_) | (with_reducible refine wpList_put rfl (.tmp 146) (.tmp 148) (.tmp 149) 27 rfl 9 31 Try.underlying27 Try.underlying9 ml (encL (putL M (E.take j))) rfl HMb.out yp rfl (.agg #[.string yp, .string yh, .int .i64 yf, .int .i64 ys, .int .i64 yu]) rfl ?_; intro w5' hm5 hg5; have HM5' := Lib.hid hm5; have HG5 := Lib.hid hg5; clear hm5 hg5))
                  have hon := (Only.refl ml ml _).grown HG5.out
                  have HTc : Hid (TabT (w.heap.size + 1) w.heap.size T' w5') := HTb.out.away hon (by omega) (by omega) (by omega) (by omega)
                  have HLc := Lib.hid (HLb.out.grown HMb.out hon)
                  have HOc := Lib.hid (HOb.out.trans (hon.below HOb.out.size (by omega) (by omega)))
                  have HMc : Hid (MapIs ml (encL (putL M (E.take (j + 1)))) w5') := by
                    have e1 := put_enc (putL M (E.take j)) yp ⟨yp, yh, yf, ys, yu⟩
                    show MapIs _ _ _
                    rw [HPT.out, ← e1]
                    exact HM5'.out
                  go_roundw
                  case rel => exact ⟨j + 1, by omega, by go_num, HTc.out, HMc.out, HLc.out, HOc.out⟩
                  case measure => (simp [intOf]; omega)
            · obtain rfl : j = E.length := by omega
              have HM2 : Hid (MapIs ml (encL (putL M E)) wr) := by
                have := HM.out
                rw [List.take_length] at this
                exact this
              have HLK2 : Hid (∀ p, lk (putL M E) p = lk T'.m p) := lk_putL_all HLK.out HMO.out (HI5.out.tok HP5.out.once) HE.out.1 HE.out.2
              clear hT hM hL hO hlt2 HM HL
              go_wp2_with fail
              go_roundw
              case rel => exact ⟨k + 1, T', putL M E, by omega, by go_num, HT.out, HM2.out, HLK2, HI5.out, HP5.out, HO.out⟩
              case measure => (simp [intOf]; omega)
    · have hge : l.length ≤ k := by omega
      clear hlt
      go_wp2_with (go_at_call 7; refine (awake19_any _).mono ?_; rintro e w9 ⟨rfl, HB9⟩)
      go_ret
      exact ⟨rfl, HO.out.trans (HB9.mono HO.out.size)⟩

end Go.Proofs.Ytphoodnclmplhaa
