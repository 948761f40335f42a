/-
  The reference's order of paths.
-/
import Derived.Test.YthonhikkoabhlaaGreatDoorOrdH
import Derived.Test.YthonhikkoabhlaaGreatDoorOrd2
import Derived.Test.YthonhikkoabhlaaGreatDoorUse
namespace Go.Proofs.YthonhikkoabhlaaGreatDoor
open Go.RowKit

def dat (L : List ByteArray) : List (List UInt8) := L.map (·.data.toList)
theorem ccmp_at {L1 L2 : List ByteArray} {k : Nat} (h1 : k < L1.length) (h2 : k < L2.length) : ccmp (dat (L1.drop k)) (dat (L2.drop k)) = if Lib.compareBytes L1[k].data.toList L2[k].data.toList = 0 then ccmp (dat (L1.drop (k + 1))) (dat (L2.drop (k + 1))) else Lib.compareBytes L1[k].data.toList L2[k].data.toList := by
  rw [List.drop_eq_getElem_cons h1, List.drop_eq_getElem_cons h2]
  simp only [dat, List.map_cons, ccmp]
theorem ccmp_end {L1 L2 : List ByteArray} {k : Nat} (hk1 : k ≤ L1.length) (hk2 : k ≤ L2.length) (h : k = L1.length ∨ k = L2.length) : ccmp (dat (L1.drop k)) (dat (L2.drop k)) = if L1.length < L2.length then -1 else if L2.length < L1.length then 1 else 0 := by
  have e1 : (dat (L1.drop k)).length = L1.length - k := by simp [dat]
  have e2 : (dat (L2.drop k)).length = L2.length - k := by simp [dat]
  cases h1 : dat (L1.drop k) with
  | nil =>
    rw [h1] at e1
    simp only [List.length_nil] at e1
    cases h2 : dat (L2.drop k) with
    | nil =>
      rw [h2] at e2
      simp only [List.length_nil] at e2
      rw [if_neg (by omega), if_neg (by omega)]; rfl
    | cons b t =>
      rw [h2] at e2
      simp only [List.length_cons] at e2
      rw [if_pos (by omega)]; rfl
  | cons a s =>
    rw [h1] at e1
    simp only [List.length_cons] at e1
    cases h2 : dat (L2.drop k) with
    | nil =>
      rw [h2] at e2
      simp only [List.length_nil] at e2
      rw [if_neg (by omega), if_pos (by omega)]; rfl
    | cons b t =>
      rw [h2] at e2
      simp only [List.length_cons] at e2
      omega

set_option maxRecDepth 100000 in
set_option maxHeartbeats 1600000 in
theorem rcompare_any (b1 b2 : Nat) (L1 L2 : List ByteArray) (w : World) (h1 : StrsAt b1 L1 w) (h2 : StrsAt b2 L2 w) (l1 : b1 < w.heap.size) (l2 : b2 < w.heap.size) (n1 : L1.length ≤ 4294967282) (_n2 : L2.length ≤ 4294967282) :
    Calls Tryz.prog 67 #[.slice (some ⟨b1, 0, none⟩) L1.length L1.length, .slice (some ⟨b2, 0, none⟩) L2.length L2.length] w fun e w' => e = .returned (.int .i64 (ccmp (dat L1) (dat L2))) ∧ Below w.heap.size w w' := by
  have H1 := Lib.hid h1
  have H2 := Lib.hid h2
  clear h1 h2
  go_enter Tryz.func67, Tryz.ntmps67
  go_wp2_with fail
  go_loopw [5] (fun i wr => ∃ k : Nat, i = .int .i64 k ∧ k ≤ L1.length ∧ k ≤ L2.length ∧ Below w.heap.size w wr ∧ Hid (ccmp (dat L1) (dat L2) = ccmp (dat (L1.drop k)) (dat (L2.drop k)))) (fun i _ => L1.length - (intOf i).toNat)
  case atStart => exact ⟨0, rfl, Nat.zero_le _, Nat.zero_le _, Below.refl _ _, rfl⟩
  case round =>
    obtain ⟨k, rfl, hk1, hk2, hb, hc⟩ := hrel
    by_cases q1 : k < L1.length
    · by_cases q2 : k < L2.length
      · have q1' : (k : Int) < (L1.length : Int) := by omega
        have q2' : (k : Int) < (L2.length : Int) := by omega
        have c1 : wr.cell? ⟨b1, k, none⟩ = some (.string L1[k]) := (hb.cell (p := ⟨b1, k, none⟩) l1).trans (H1.out k _ (List.getElem?_eq_getElem q1))
        have c2 : wr.cell? ⟨b2, k, none⟩ = some (.string L2[k]) := (hb.cell (p := ⟨b2, k, none⟩) l2).trans (H2.out k _ (List.getElem?_eq_getElem q2))
        have HST := Lib.hid (ccmp_at q1 q2)
        have HC : Hid (∀ y : Held (Below wr.heap.size wr), Calls Tryz.prog 66 #[.string L1[k], .string L2[k]] y.w fun e w'' => e = .returned (.int .i64 (Lib.compareBytes L1[k].data.toList L2[k].data.toList)) ∧ ∃ z : Held (Below wr.heap.size wr), w'' = z.w) :=
          fun y => (Tryz.strings_Compare L1[k] L2[k] y.w).mono (by rintro e w'' ⟨rfl, rfl⟩; exact ⟨rfl, y, rfl⟩)
        have HB := Lib.hid hb
        have hbs := hb.size
        have hS : Below wr.heap.size wr wr.drew := (Below.refl _ _).drew
        have HL1 : Hid (b1 < wr.heap.size) := Nat.lt_of_lt_of_le l1 hbs
        have HL2 : Hid (b2 < wr.heap.size) := Nat.lt_of_lt_of_le l2 hbs
        have HCC := Lib.hid hc.out
        clear hb hc
        generalize L1[k] = x1 at *
        generalize L2[k] = x2 at *
        obtain ⟨cv, hcv⟩ : ∃ cv, Lib.compareBytes x1.data.toList x2.data.toList = cv := ⟨_, rfl⟩
        rw [hcv] at HST HC
        clear hcv
        have C1 := Lib.hid c1
        have C2 := Lib.hid c2
        clear c1 c2
        go_wp2_with fail
        (refine wp_region_s (S := Below wr.heap.size wr) (by kernel_rfl) (by kernel_rfl) hS ?_; have hN : Nonempty (Held (Below wr.heap.size wr)) := ⟨⟨_, hS⟩⟩; (have v1 : ∀ y : Held (Below wr.heap.size wr), y.w.cell? ⟨b1, k, none⟩ = some (.string x1) := fun y => (((bcell y.ok).1 b1 k HL1.out).trans C1.out); have v2 : ∀ y : Held (Below wr.heap.size wr), y.w.cell? ⟨b2, k, none⟩ = some (.string x2) := fun y => (((bcell y.ok).1 b2 k HL2.out).trans C2.out)); (repeat (go_big_quiet_step ((go_at_call 66; exact HC.out _)))); refine wpQuiet_nil ?_; rintro _ ⟨⟨x, hx⟩, rfl⟩; clear hN)
        clear v1 v2
        have HX := Lib.hid (HB.out.trans (hx.mono hbs))
        by_cases hz : cv = 0
        · subst hz
          go_wp2_with fail
          go_round
          case rel => exact ⟨k + 1, by go_num, by omega, by omega, HX.out, by show _ = _; rw [HCC.out, HST.out]; rfl⟩
          case measure => simp [intOf]; omega
        · have hz' : (cv == 0) = false := by simpa using hz
          go_wp2_with fail
          go_ret
          exact ⟨by rw [HCC.out, HST.out, if_neg hz]; rfl, HX.out⟩
      · obtain rfl : k = L2.length := by omega
        have he := ccmp_end hk1 hk2 (.inr rfl)
        rw [if_neg (by omega), if_pos (by omega)] at he
        have HE := Lib.hid (hc.out.trans he)
        have q1' : (L2.length : Int) < (L1.length : Int) := by omega
        have q2' : ¬ (L1.length : Int) < (L2.length : Int) := by omega
        clear he hc
        go_wp2_with fail
        go_ret
        exact ⟨by rw [HE.out]; rfl, hb⟩
    · obtain rfl : k = L1.length := by omega
      have he := ccmp_end hk1 hk2 (.inl rfl)
      by_cases q2 : L1.length < L2.length
      · rw [if_pos q2] at he
        have HE := Lib.hid (hc.out.trans he)
        have q2' : (L1.length : Int) < (L2.length : Int) := by omega
        clear he hc
        go_wp2_with fail
        go_ret
        exact ⟨by rw [HE.out]; rfl, hb⟩
      · have q3 : L1.length = L2.length := by omega
        rw [if_neg q2, if_neg (by omega)] at he
        have HE := Lib.hid (hc.out.trans he)
        have q2' : (L1.length : Int) = (L2.length : Int) := by omega
        clear he hc
        go_wp2_with fail
        go_ret
        exact ⟨by rw [HE.out]; rfl, hb⟩

theorem parts_le (p : ByteArray) (hs : p.size < 4294967281) : (partsB p).length ≤ 4294967282 := by
  rw [partsB_len]
  have := Lib.countB_le ⟨#[47]⟩ (by decide) (p.extract 2 p.size).size (p.extract 2 p.size) (Nat.le_refl _)
  simp [ByteArray.size_extract] at this
  omega
theorem ordH_parts (p q : ByteArray) (hp : validB p.data.toList = true) (hq : validB q.data.toList = true) : ccmp (dat (partsB p)) (dat (partsB q)) = ordH p q := by
  have hp2 := hp
  have hq2 := hq
  rw [valid_parts] at hp2 hq2
  simp only [Bool.and_eq_true, decide_eq_true_eq] at hp2 hq2
  obtain ⟨t, ht⟩ := List.isPrefixOf_iff_prefix.1 hp2.1.1
  obtain ⟨s, hs⟩ := List.isPrefixOf_iff_prefix.1 hq2.1.1
  rw [ordH_valid hp hq]
  unfold dat
  rw [partsB_data, partsB_data, ccmp_split, ← ht, ← hs]
  simp [pcmp]

set_option maxRecDepth 100000 in
set_option maxHeartbeats 1600000 in
theorem rorder_any (p q : ByteArray) (w : World) (hp : p.size < 4294967281) (hq : q.size < 4294967281) (hg : G0 w) :
    Calls Tryz.prog 50 #[.string p, .string q] w fun e w' => e = .returned (.int .i64 (ordH p q)) ∧ Below w.heap.size w w' := by
  cases vp : validB p.data.toList
  · have HP := Lib.hid (rpath_no p w hp hg vp)
    cases vq : validB q.data.toList
    · have HQ : Hid (∀ w1, Below w.heap.size w w1 → Calls Tryz.prog 49 #[.string q] w1 fun e w' => e = .returned (.tuple #[.slice none 0 0, .bool false]) ∧ Below w1.heap.size w1 w') := fun w1 hb => rpath_no q w1 hq (hg.below hb) vq
      have HO : Hid (ordH p q = Lib.compareBytes p.data.toList q.data.toList) := by show _ = _; unfold ordH ordL; rw [vp, vq]
      rw [HO.out]
      clear vp vq hg HO
      go_enter Tryz.func50, Tryz.ntmps50
      go_wp2_with fail
      refine HP.out.mono ?_
      rintro e w1 ⟨rfl, hb1⟩
      go_wp2_with fail
      refine (HQ.out w1 hb1).mono ?_
      rintro e w2 ⟨rfl, hb2⟩
      go_wp2_with fail
      refine (Tryz.strings_Compare p q w2).mono ?_
      rintro e w3 ⟨rfl, rfl⟩
      go_wp2_with fail
      go_ret
      exact ⟨rfl, hb1.trans (hb2.mono hb1.size)⟩
    · have HQ : Hid (∀ w1, Below w.heap.size w w1 → Calls Tryz.prog 49 #[.string q] w1 (PartsYes q w1)) := fun w1 hb => rpath_yes q w1 hq (hg.below hb) vq
      have HO : Hid (ordH p q = -1) := by show _ = _; unfold ordH ordL; rw [vp, vq]
      rw [HO.out]
      clear vp vq hg HO
      go_enter Tryz.func50, Tryz.ntmps50
      go_wp2_with fail
      refine HP.out.mono ?_
      rintro e w1 ⟨rfl, hb1⟩
      go_wp2_with fail
      refine (HQ.out w1 hb1).mono ?_
      rintro e w2 ⟨rfl, _, _, hb2⟩
      go_wp2_with fail
      go_ret
      exact ⟨rfl, hb1.trans (hb2.mono hb1.size)⟩
  · have HP := Lib.hid (rpath_yes p w hp hg vp)
    cases vq : validB q.data.toList
    · have HQ : Hid (∀ w1, Below w.heap.size w w1 → Calls Tryz.prog 49 #[.string q] w1 fun e w' => e = .returned (.tuple #[.slice none 0 0, .bool false]) ∧ Below w1.heap.size w1 w') := fun w1 hb => rpath_no q w1 hq (hg.below hb) vq
      have HO : Hid (ordH p q = 1) := by show _ = _; unfold ordH ordL; rw [vp, vq]
      rw [HO.out]
      clear vp vq hg HO
      go_enter Tryz.func50, Tryz.ntmps50
      go_wp2_with fail
      refine HP.out.mono ?_
      rintro e w1 ⟨rfl, _, _, hb1⟩
      go_wp2_with fail
      refine (HQ.out w1 hb1).mono ?_
      rintro e w2 ⟨rfl, hb2⟩
      go_wp2_with fail
      go_ret
      exact ⟨rfl, hb1.trans (hb2.mono hb1.size)⟩
    · have HQ : Hid (∀ w1, Below w.heap.size w w1 → Calls Tryz.prog 49 #[.string q] w1 (PartsYes q w1)) := fun w1 hb => rpath_yes q w1 hq (hg.below hb) vq
      have HO := Lib.hid (ordH_parts p q vp vq)
      have np := parts_le p hp
      have nq := parts_le q hq
      rw [← HO.out]
      clear vp vq hg HO
      go_enter Tryz.func50, Tryz.ntmps50
      go_wp2_with fail
      refine HP.out.mono ?_
      rintro e w1 ⟨rfl, s1, t1, hb1⟩
      have HS1 := Lib.hid s1
      have HB1 := Lib.hid hb1
      clear s1 hb1
      go_wp2_with fail
      refine (HQ.out w1 HB1.out).mono ?_
      rintro e w2 ⟨rfl, s2, t2, hb2⟩
      have HS2 := Lib.hid s2
      have HS3 := Lib.hid (HS1.out.below hb2 t1)
      have HB2 := Lib.hid (HB1.out.trans (hb2.mono HB1.out.size))
      clear s2 hb2
      go_wp2_with fail
      refine (rcompare_any _ _ (partsB p) (partsB q) w2 HS3.out HS2.out (by omega) t2 np nq).mono ?_
      rintro e w3 ⟨rfl, hb3⟩
      go_wp2_with fail
      go_ret
      exact ⟨rfl, HB2.out.trans (hb3.mono HB2.out.size)⟩

end Go.Proofs.YthonhikkoabhlaaGreatDoor
