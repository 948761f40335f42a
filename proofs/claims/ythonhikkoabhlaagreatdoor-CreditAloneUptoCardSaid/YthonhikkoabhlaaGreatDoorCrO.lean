/-
  The walk of the ledger's offered, given contribution.
-/
import Derived.Test.YthonhikkoabhlaaGreatDoorCrS
namespace Go.Proofs.YthonhikkoabhlaaGreatDoor
open Go.RowKit

theorem nums_mem {d : List Rev} {p : ByteArray} {n : Int} : n ∈ numsD d p ↔ (memD d (p, n)).isSome = true := by
  unfold numsD memD
  rw [List.find?_isSome, List.mem_map]
  constructor
  · rintro ⟨v, hv, rfl⟩
    obtain ⟨h1, h2⟩ := List.mem_filter.1 hv
    rw [Bool.and_eq_true, bne_iff_ne, beq_iff_eq] at h2
    exact ⟨v, h1, isM_iff.2 ⟨h2.1, by unfold Rev.fil; rw [h2.2]⟩⟩
  · rintro ⟨v, hv, h⟩
    obtain ⟨h1, h2⟩ := isM_iff.1 h
    refine ⟨v, List.mem_filter.2 ⟨hv, ?_⟩, congrArg Prod.snd h2⟩
    rw [Bool.and_eq_true, bne_iff_ne, beq_iff_eq]
    exact ⟨h1, congrArg Prod.fst h2⟩
/-- What the sources of a record add to their lines. -/
def OffS (d : Dep) (r : Rcd) (f : Fil) : Prop := ∃ n, (r.fst ≤ n ∧ n ≤ r.lst) ∧ (tabD d (r.src, n)).con f
/-- .. of those whose numbers have been read. -/
def OffN (d : Dep) (r : Rcd) (l : List Int) (f : Fil) : Prop := ∃ n, n ∈ l ∧ (r.fst ≤ n ∧ n ≤ r.lst) ∧ (tabD d (r.src, n)).con f
theorem offN_all {d : Dep} (H : Hist d) {r : Rcd} (hr : r ∈ d.recs) (f : Fil) : OffN d r (numsD d.revs r.src) f ↔ OffS d r f := by
  constructor
  · rintro ⟨n, _, h⟩
    exact ⟨n, h⟩
  · rintro ⟨n, h1, h2⟩
    exact ⟨n, nums_mem.2 (H.src r hr n h1.1 h1.2).1, h1, h2⟩
theorem offN_no {d : Dep} {r : Rcd} {l : List Int} {n : Int} (h : ¬ (r.fst ≤ n ∧ n ≤ r.lst)) (f : Fil) : OffN d r (l ++ [n]) f ↔ OffN d r l f := by
  constructor
  · rintro ⟨m, h1, h2⟩
    rcases List.mem_append.1 h1 with h1 | h1
    · exact ⟨m, h1, h2⟩
    · rw [List.mem_singleton] at h1
      rw [h1] at h2
      exact absurd h2.1 h
  · rintro ⟨m, h1, h2⟩
    exact ⟨m, List.mem_append_left _ h1, h2⟩
theorem offN_yes {d : Dep} {r : Rcd} {l : List Int} {n : Int} (h : r.fst ≤ n ∧ n ≤ r.lst) (f : Fil) : OffN d r (l ++ [n]) f ↔ OffN d r l f ∨ (tabD d (r.src, n)).con f := by
  constructor
  · rintro ⟨m, h1, h2⟩
    rcases List.mem_append.1 h1 with h1 | h1
    · exact .inl ⟨m, h1, h2⟩
    · rw [List.mem_singleton] at h1
      rw [h1] at h2
      exact .inr h2.2
  · rintro (⟨m, h1, h2⟩ | h2)
    · exact ⟨m, List.mem_append_left _ h1, h2⟩
    · exact ⟨n, by simp, h, h2⟩

set_option maxRecDepth 100000 in
set_option maxHeartbeats 6400000 in
theorem off_any (d : Dep) (s k : Nat) (hc : CrD d) (H : ConP d s k) (r : Rcd) (hr : r ∈ d.recs) (hk : rkD d.revs (r.dst, r.num) ≤ k) (w : World) (Nc Ne : Fil → Prop) (X : Nat → Prop) (hl : Led d s w) (hme : Memo d s Nc Ne X w)
    (hnc : ∀ f, Nc f → rkD d.revs (r.dst, r.num) ≤ rkD d.revs f) (hX : ∀ b, X b → b < w.heap.size) :
    Calls Tryz.prog 32 #[.pointer (some ⟨s + 6, 0, none⟩), r.val] w (SetRet d s (OffS d r) Nc Ne X w) := by
  obtain ⟨LN, hkm, hkg⟩ := hl.num
  obtain ⟨A, c, hgf, hfar⟩ := hkg r.src
  have hrs := hc.dep.recs r hr
  have HSO := Lib.hid (fun f => offN_all hc.hist hr f)
  have HCON : Hid (∀ n, n ∈ numsD d.revs r.src → r.fst ≤ n → n ≤ r.lst → ∀ (w' : World), Led d s w' → ∀ X', Memo d s Nc Ne X' w' → (∀ b, X' b → b < w'.heap.size) → Calls Tryz.prog 19 #[.pointer (some ⟨s + 6, 0, none⟩), .agg #[.string r.src, .int .i64 n]] w' (SetRet d s (tabD d (r.src, n)).con Nc Ne X' w')) := fun n hn h1 h2 w' hl' X' hm' hx' => by
    obtain ⟨hm, hlt⟩ := hc.hist.src r hr n h1 h2
    exact H (r.src, n) hm (by omega) w' Nc Ne X' hl' hm' (fun f hf => by have := hnc f hf; omega) hx'
  have HL := Lib.hid hl
  have HME := Lib.hid hme
  have HKM := Lib.hid hkm
  have HGF := Lib.hid hgf
  have HX := Lib.hid hX
  have HFAR := Lib.hid hfar
  have hnl : (numsD d.revs r.src).length ≤ 512 := Nat.le_trans (nums_len _ _) hc.dep.few
  have hlb := hl.lb
  have hsl := hkm.lt
  have hso : r.src.size ≤ 4294967281 := by omega
  generalize hQ : numsD d.revs r.src = q at *
  clear hl hme hkm hkg hgf hfar hnc hX hc H hr hk hrs hQ
  obtain ⟨rs, rf, rl, rt, rn, rh⟩ := r
  unfold Rcd.val Rcd.cells
  dsimp only at *
  have hmm := @run_makeMap Tryz.prog
  go_enter Tryz.func32, Tryz.ntmps32
  go_upto_region 2 with fail
  have HM1 := Lib.hid ((Blk.new w 51 [.string rs, .int .i64 rf, .int .i64 rl, .string rt, .int .i64 rn, .int .i64 rh]).alloc (.map #[] 0))
  have hbel : Below w.heap.size w ((w.alloc (.cells #[.string rs, .int .i64 rf, .int .i64 rl, .string rt, .int .i64 rn, .int .i64 rh] 51)).alloc (.map #[] 0)) := by (repeat (first | (with_reducible exact Below.refl _ _) | (with_reducible assumption) | (with_reducible refine Below.setCell ?_ ?_ _; rotate_left; focus (first | exact Nat.le_refl _ | (dsimp only; omega))) | (with_reducible refine Below.drew ?_) | (with_reducible refine below_drewN ?_ _) | (with_reducible refine Below.alloc ?_ ?_ _; rotate_left; focus (first | exact Nat.le_refl _ | (simp; done) | (simp; omega)))))
  have HB1 := Lib.hid hbel
  have hse := SetIs.new (w.alloc (.cells #[.string rs, .int .i64 rf, .int .i64 rl, .string rt, .int .i64 rn, .int .i64 rh] 51))
  rw [show (w.alloc (.cells #[.string rs, .int .i64 rf, .int .i64 rl, .string rt, .int .i64 rn, .int .i64 rh] 51)).heap.size = w.heap.size + 1 by simp] at hse
  have HS1 := Lib.hid hse
  clear hbel hse hmm
  generalize World.alloc (World.alloc w _) (.map #[] 0) = w1 at *
  have hz1 := HB1.out.size
  have lt1 := HM1.out.lt
  have lt2 := HS1.out.lt
  have HL1 := Lib.hid (HL.out.below HB1.out)
  have HKM1 := Lib.hid (HKM.out.below HB1.out hsl)
  have hS : Below w1.heap.size w1 w1.drew := (Below.refl _ _).drew
  have LK : ∀ x, Below w1.heap.size w1 x → (Instr.lookup 71 (.map (some (s + 1))) (.string rs) false).run Tryz.prog x = .ok (.slice A q.length c) x := fun x hx => by
    rw [← HGF.out]
    exact (HKM1.out.below hx (by omega)).run_get Tryz.underlying71 (zeroInts _) (x := rs) hso false
  (refine wp_region_s (S := Below w1.heap.size w1) (by kernel_rfl) (by kernel_rfl) hS ?_; have hN : Nonempty (Held (Below w1.heap.size w1)) := ⟨⟨_, hS⟩⟩; (obtain ⟨q0, q1, q2, q3, q4, q5⟩ := fun_and6 (fun y : Held (Below w1.heap.size w1) => (HM1.out.below y.ok).c6); clear q1 q2 q3 q4 q5; have l0 : ∀ y : Held (Below w1.heap.size w1), y.w.cell? ⟨s + 6, 1, none⟩ = some (.map (some (s + 1))) := fun y => (HL1.out.below y.ok).blk.cell 1; have lk := fun y : Held (Below w1.heap.size w1) => LK y.w y.ok; clear LK); (repeat (go_big_quiet_step (fail))); refine wpQuiet_nil ?_; rintro x ⟨⟨_, hx⟩, rfl⟩; clear hN)
  clear q0 l0 lk
  have HKx := Lib.hid (kp_ms (s := s) (HB1.out.trans (hx.mono hz1)))
  have HMx := Lib.hid (HM1.out.below hx)
  have HSx := Lib.hid (HS1.out.below hx lt2)
  have HEx : Hid (Memo d s Nc Ne (fun b => X b ∨ b = w.heap.size + 1) x) := ((HME.out.use (Y := fun b => X b ∨ b = w.heap.size + 1) fun b hb h => h.elim id fun e => absurd hb (by omega)).below (HB1.out.trans (hx.mono hz1)))
  clear hx HB1 HM1 HL1 HKM1 HS1
  go_wp2_with fail
  go_loopw [17] (fun i wr => ∃ k : Nat, i = .int .i64 k ∧ k ≤ q.length ∧ SetIs (w.heap.size + 1) (OffN d ⟨rs, rf, rl, rt, rn, rh⟩ (q.take k)) wr ∧ Memo d s Nc Ne (fun b => X b ∨ b = w.heap.size + 1) wr ∧ Kp (MS s) w wr ∧ Blk w.heap.size 51 [.string rs, .int .i64 rf, .int .i64 rl, .string rt, .int .i64 rn, .int .i64 rh] wr) (fun i _ => q.length - (intOf i).toNat)
  case atStart => exact ⟨0, rfl, Nat.zero_le _, HSx.out.congr fun f => ⟨fun h => h.elim, fun ⟨n, h, _⟩ => by simp at h⟩, HEx.out, HKx.out, HMx.out⟩
  case round =>
    obtain ⟨k, rfl, hk, hset, hme, hkp, hbx⟩ := hrel
    have HSR := Lib.hid hset
    have HER := Lib.hid hme
    have HKR := Lib.hid hkp
    have HBR := Lib.hid hbx
    obtain ⟨b0, b1, b2, b3, b4, b5⟩ := hbx.c6
    clear hset hme hkp hbx
    by_cases hlt : k < q.length
    · have HFW := Lib.hid (HFAR.out.kp HKR.out (fun b hb h => by have := h.2; omega))
      obtain ⟨bq, hAq, hbq7, hbql, hat⟩ := HFW.out (by omega)
      subst hAq
      have hg := List.getElem?_eq_getElem hlt
      have htk : q.take (k + 1) = q.take k ++ [q[k]] := by rw [List.take_succ_eq_append_getElem hlt]
      have hmem : q[k] ∈ q := List.getElem_mem hlt
      have HTK := Lib.hid htk
      have HMQ := Lib.hid hmem
      generalize hq : q[k] = n at *
      have hc0 := hat.get hg (show (intK.cells n)[0]? = some (.int .i64 n) from rfl)
      have e1 : intK.n = 1 := rfl
      simp only [e1, Nat.mul_one, Nat.add_zero, Nat.zero_add] at hc0
      clear hat hg hq htk hmem e1 HFW
      by_cases hin : rf ≤ n ∧ n ≤ rl
      · obtain ⟨hi1, hi2⟩ := hin
        have hzr := HKR.out.size
        have hsr := HSR.out.lt
        have hcon := HCON.out n HMQ.out hi1 hi2 wr (HL.out.kp HKR.out) (fun b => X b ∨ b = w.heap.size + 1) HER.out (fun b hb => hb.elim (fun h => by have := HX.out b h; omega) (fun h => by omega))
        have HC1 := Lib.hid hcon
        clear hcon
        go_wp2_with fail
        refine HC1.out.mono ?_
        rintro e w5 ⟨c5, rfl, h57, h5x, h5s, h5m, h5k⟩
        have hz5 := h5k.size
        have HK5 := Lib.hid (HKR.out.trans h5k)
        have HB5 := Lib.hid (HBR.out.kp h5k (by unfold MS; omega))
        have HS5 := Lib.hid (HSR.out.kp h5k (by unfold MS; omega))
        have HE5 := Lib.hid h5m
        have HC5 := Lib.hid h5s
        have hcr : c5 ≠ w.heap.size + 1 := fun e => h5x (.inr e)
        have hb6 := (Below.refl w5.heap.size w5).alloc (Nat.le_refl _) (.cells #[.map (some c5)] 80)
        have hadd := add_any (w.heap.size + 1) c5 w5.heap.size _ _ (w5.alloc (.cells #[.map (some c5)] 80)) (HS5.out.below hb6 HS5.out.lt) (HC5.out.below hb6 HC5.out.lt) hcr (by simp [go_sem])
        have HADD := Lib.hid hadd
        have HK6 := Lib.hid (HK5.out.alloc (.cells #[.map (some c5)] 80))
        have HB6 := Lib.hid (HB5.out.below hb6)
        have HE6 := Lib.hid (HE5.out.below hb6)
        have HS6 := Lib.hid (HS5.out.below hb6 HS5.out.lt)
        clear h57 h5x h5s h5m h5k hadd hb6 HC1 b0 b1 b2 b3 b4 b5 hc0
        go_wp2_with fail
        refine HADD.out.mono ?_
        rintro e w7 ⟨rfl, h7s, h7k⟩
        have HK7 := Lib.hid (HK6.out.fresh h7k fun b hb => by omega)
        have HB7 := Lib.hid (HB6.out.kp h7k (by omega))
        have HE7 := Lib.hid (HE6.out.keep h7k fun b hb => ⟨.inr hb, by omega⟩)
        have HS7 := Lib.hid h7s
        clear h7s h7k HK6 HB6 HE6 HS6 HADD HK5 HB5 HE5 HS5 HC5
        go_wp2_with fail
        go_roundw
        case rel => exact ⟨k + 1, by go_num, by omega, HS7.out.congr fun f => by rw [HTK.out, offN_yes ⟨hi1, hi2⟩ f], HE7.out, HK7.out, HB7.out⟩
        case measure => simp [intOf]; omega
      · have HIN := Lib.hid hin
        have hin2 : rf ≤ n → ¬ n ≤ rl := fun h h2 => hin ⟨h, h2⟩
        clear hin
        by_cases hi1 : rf ≤ n
        · have hi2 := hin2 hi1
          clear hin2
          go_wp2_with fail
          go_roundw
          case rel => exact ⟨k + 1, by go_num, by omega, HSR.out.congr fun f => by rw [HTK.out, offN_no HIN.out f], HER.out, HKR.out, HBR.out⟩
          case measure => simp [intOf]; omega
        · clear hin2
          go_wp2_with fail
          go_roundw
          case rel => exact ⟨k + 1, by go_num, by omega, HSR.out.congr fun f => by rw [HTK.out, offN_no HIN.out f], HER.out, HKR.out, HBR.out⟩
          case measure => simp [intOf]; omega
    · obtain rfl : k = q.length := by omega
      have hse := HSR.out
      rw [List.take_length] at hse
      have HE := Lib.hid (hse.congr HSO.out)
      clear hse b0 b1 b2 b3 b4 b5
      go_wp2_with fail
      go_ret
      exact ⟨w.heap.size + 1, rfl, by omega, fun h => by have := HX.out _ h; omega, HE.out, HER.out.use fun b _ h => .inl h, HKR.out⟩
end Go.Proofs.YthonhikkoabhlaaGreatDoor
