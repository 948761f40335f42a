/-
  The base for seats without the journal (joined by a program of ours from our own texts).
-/
import Derived.Test.YtocffknoeknabaaGreatDoorDpQ
import Derived.IntWalk
namespace Go.Proofs.YtocffknoeknabaaGreatDoor
section
open Go.RowKit

theorem last_take (d : List Rev) (p : ByteArray) (k : Nat) (h : k < d.length) : lastD (d.take (k + 1)) p = if (d[k].path == p) = true then some d[k] else lastD (d.take k) p := by
  unfold lastD
  rw [log_take d p k h]
  split <;> simp
theorem asc_take {d : List Rev} (h : Asc d) (k : Nat) : Asc (d.take k) := fun p => by
  have hp := h p
  have e : logD d p = logD (d.take k) p ++ logD (d.drop k) p := by
    unfold logD
    rw [← List.filter_append, List.take_append_drop]
  rw [e, List.map_append, List.length_append] at hp
  have h2 := congrArg (fun z => z.take (logD (d.take k) p).length) hp
  rw [List.take_append_of_le_length (by simp), List.take_of_length_le (by simp), ← List.map_take, List.take_range, Nat.min_eq_left (Nat.le_add_right _ _)] at h2
  exact h2
theorem asc_gt {d : List Rev} (h : Asc d) {p : ByteArray} {k : Nat} (hk : k < d.length) (hp : (d[k].path == p) = true) : (lastR (d.take k) p).num < d[k].num := by
  have h1 := asc_last (asc_take h k) p
  have h2 := asc_last (asc_take h (k + 1)) p
  rw [lastN_is] at h1 h2
  unfold lastR at h1 h2 ⊢
  rw [last_take d p k hk, if_pos hp, log_take d p k hk, if_pos hp, List.length_append, Option.getD_some] at h2
  rw [h1, h2]
  simp
  omega

theorem last1_any (v : Rev) (w : World) : Calls Tryz.prog 115 #[v.val] w fun e w' => e = .returned (.bool true) ∧ Below w.heap.size w w' := by
  (obtain ⟨vp, vn, vc, va, ⟨tb, tk, te, tx⟩, ⟨cs, cz⟩, vs, vm⟩ := v)
  unfold Rev.val Rev.cells
  go_enter Tryz.func115, Tryz.ntmps115
  go_wp2_with fail
  go_ret
  exact ⟨rfl, by (repeat (first | (with_reducible exact Below.refl _ _) | (with_reducible assumption) | (with_reducible refine Below.setCell ?_ ?_ _; rotate_left; focus (first | exact Nat.le_refl _ | (dsimp only; omega))) | (with_reducible refine Below.drew ?_) | (with_reducible refine below_drewN ?_ _) | (with_reducible refine Below.alloc ?_ ?_ _; rotate_left; focus (first | exact Nat.le_refl _ | (simp; done) | (simp; omega)))))⟩
set_option maxRecDepth 100000 in
set_option maxHeartbeats 3200000 in
theorem great_any (d : List Rev) (p : ByteArray) (A B : Option Addr) (ca nb cb : Nat) (w : World) (h : revK.In A d w) (hn : d.length ≤ 1000000) (ha : Asc d) :
    Calls Tryz.prog 114 #[.agg #[.slice A d.length ca, .slice B nb cb], .string p, .func (.func 115) #[] #[]] w fun e w' => e = .returned (.tuple #[(lastR d p).val, .bool (lastD d p).isSome]) ∧ Below w.heap.size w w' := by
  have HI := Lib.hid h
  have HA := Lib.hid ha
  obtain ⟨rv, hrv⟩ : ∃ rv, lastR d p = rv := ⟨_, rfl⟩
  obtain ⟨oo, hoo⟩ : ∃ oo, (lastD d p).isSome = oo := ⟨_, rfl⟩
  rw [hrv, hoo]
  have HRV := Lib.hid hrv
  have HOO := Lib.hid hoo
  clear h ha hrv hoo
  obtain ⟨rp, rn, rc, ra, ⟨rb, rk, re, rx⟩, ⟨rs, rz⟩, rvs, rvm⟩ := rv
  go_enter Tryz.func114, Tryz.ntmps114
  go_wp2_with fail
  go_loopw [9, 15] (fun o i wr => ∃ k : Nat, i = .int .i64 k ∧ k ≤ d.length ∧ o = .bool (lastD (d.take k) p).isSome ∧ Below w.heap.size w wr ∧ Blk (w.heap.size + 1) 74 zeroRev.cells wr ∧ Blk (w.heap.size + 1 + 1) 74 (lastR (d.take k) p).cells wr) (fun _ i _ => d.length - (intOf i).toNat)
  case atStart => exact ⟨0, rfl, Nat.zero_le _, rfl, by (repeat (first | (with_reducible exact Below.refl _ _) | (with_reducible assumption) | (with_reducible refine Below.setCell ?_ ?_ _; rotate_left; focus (first | exact Nat.le_refl _ | (dsimp only; omega))) | (with_reducible refine Below.drew ?_) | (with_reducible refine below_drewN ?_ _) | (with_reducible refine Below.alloc ?_ ?_ _; rotate_left; focus (first | exact Nat.le_refl _ | (simp; done) | (simp; omega))))), (Blk.new1 _ _ _ _).alloc _, Blk.new2 _ _ _ _ _⟩
  case round =>
    obtain ⟨k, rfl, hk, rfl, hB, K1, K2⟩ := hrel
    have hlb : w.heap.size + 1 < wr.heap.size := K1.lt
    have hlc : w.heap.size + 1 + 1 < wr.heap.size := K2.lt
    have HB := Lib.hid hB
    have HK1 := Lib.hid K1
    have HK2 := Lib.hid K2
    clear hB K1 K2
    by_cases hlt : k < d.length
    · obtain ⟨b, off, rfl, hbl, hat⟩ := HI.out (by omega)
      have hg := List.getElem?_eq_getElem hlt
      have HL := Lib.hid (last_take d p k hlt)
      have HG := Lib.hid (fun h => asc_gt HA.out (p := p) hlt h)
      generalize hq : d[k] = v at *
      have hat := hat.below HB.out hbl
      (have hcv := fun j (u : Value) (hj : (v).cells[j]? = some u) => ((hat).get hg hj); have c0 := hcv 0 _ rfl; have c1 := hcv 1 _ rfl; have c2 := hcv 2 _ rfl; have c3 := hcv 3 _ rfl; have c4 := hcv 4 _ rfl; have c5 := hcv 5 _ rfl; have c6 := hcv 6 _ rfl; have c7 := hcv 7 _ rfl; have c8 := hcv 8 _ rfl; have c9 := hcv 9 _ rfl; have c10 := hcv 10 _ rfl; have c11 := hcv 11 _ rfl; have e12 : revK.n = 12 := rfl; simp only [e12, Nat.add_zero] at c0 c1 c2 c3 c4 c5 c6 c7 c8 c9 c10 c11; clear hcv e12)
      clear hat hg hq
      cases hv : (v.path == p)
      · have hv' : (v.path.toList == p.toList) = false := by rw [path_tl]; exact hv
        have HV : Hid ((v.path == p) = false) := hv
        clear hv
        go_wp2_with fail
        go_roundw
        case rel =>
          refine ⟨k + 1, by go_num, by omega, by rw [HL.out, HV.out]; rfl, HB.out.alloc (by omega) _, HK1.out.alloc _, ?_⟩
          unfold lastR
          rw [HL.out, HV.out]
          exact HK2.out.alloc _
        case measure => simp [intOf]; omega
      · have hv' : (v.path.toList == p.toList) = true := by rw [path_tl]; exact hv
        have HV : Hid ((v.path == p) = true) := hv
        have hgt := HG.out hv
        have hF : Hid (lastD (d.take (k + 1)) p = some v) := by show _ = _; rw [HL.out, if_pos hv]
        clear hv HL HG
        obtain ⟨f0, f1, f2, f3, f4, f5, f6, f7, f8, f9, f10, f11⟩ := HK2.out.f12
        obtain ⟨z0, z1, z2, z3, z4, z5, z6, z7, z8, z9, z10, z11⟩ := HK2.out.c12
        have H1 := Lib.hid (fun w => last1_any v w)
        have HFV : Hid (lastR (d.take (k + 1)) p = v) := by show _ = _; unfold lastR; rw [hF.out]; rfl
        obtain ⟨vp, vn, vc, va, ⟨tb, tk, te, tx⟩, ⟨cs, cz⟩, vs, vm⟩ := v
        unfold Rev.val Rev.cells at H1
        dsimp only at H1 hgt c0 c1 c2 c3 c4 c5 c6 c7 c8 c9 c10 c11
        cases ho : (lastD (d.take k) p).isSome
        all_goals
          go_wp2_with fail
          refine (H1.out _).mono ?_
          rintro e w1 ⟨rfl, hb1⟩
          have zz := hb1.size
          simp at zz
          have KV := (Blk.new wr 74 [.string vp, .int .i64 vn, .int .i64 vc, .int .i64 va, .int .i64 tb, .bool tk, .bool te, .bool tx, .int .u64 cs, .int .i64 cz, .string vs, .int .i64 vm]).below hb1
          obtain ⟨y0, y1, y2, y3, y4, y5, y6, y7, y8, y9, y10, y11⟩ := KV.c12
          have KX1 := Lib.hid ((HK1.out.alloc (.cells #[.string vp, .int .i64 vn, .int .i64 vc, .int .i64 va, .int .i64 tb, .bool tk, .bool te, .bool tx, .int .u64 cs, .int .i64 cz, .string vs, .int .i64 vm] 74)).below hb1)
          have KX2 := Lib.hid ((HK2.out.alloc (.cells #[.string vp, .int .i64 vn, .int .i64 vc, .int .i64 va, .int .i64 tb, .bool tk, .bool te, .bool tx, .int .u64 cs, .int .i64 cz, .string vs, .int .i64 vm] 74)).below hb1)
          have HB1 := Lib.hid ((HB.out.alloc HB.out.size (.cells #[.string vp, .int .i64 vn, .int .i64 vc, .int .i64 va, .int .i64 tb, .bool tk, .bool te, .bool tx, .int .u64 cs, .int .i64 cz, .string vs, .int .i64 vm] 74)).trans (hb1.mono (by simp; omega)))
          clear f0 f1 f2 f3 f4 f5 f6 f7 f8 f9 f10 f11 z0 z1 z2 z3 z4 z5 z6 z7 z8 z9 z10 z11 KV hb1
          obtain ⟨f0, f1, f2, f3, f4, f5, f6, f7, f8, f9, f10, f11⟩ := KX2.out.f12
          obtain ⟨z0, z1, z2, z3, z4, z5, z6, z7, z8, z9, z10, z11⟩ := KX2.out.c12
          go_wp2_with fail
          go_roundw
          case rel =>
            refine ⟨k + 1, by go_num, by omega, by rw [hF.out]; rfl, ?_, ?_, ?_⟩
            · have HB1 := HB1.out
              (repeat (first | (with_reducible exact Below.refl _ _) | (with_reducible assumption) | (with_reducible refine Below.setCell ?_ ?_ _; rotate_left; focus (first | exact Nat.le_refl _ | (dsimp only; omega) | (simp; omega))) | (with_reducible refine Below.drew ?_) | (with_reducible refine below_drewN ?_ _) | (with_reducible refine Below.alloc ?_ ?_ _; rotate_left; focus (first | exact Nat.le_refl _ | omega | (simp; done) | (simp; omega))) | (with_reducible refine Below.trans ?_ (HB1.mono ?_); rotate_left; focus (first | exact Nat.le_refl _ | omega | (simp; done) | (simp; omega)))))
            · (repeat (first | (with_reducible exact KX1.out) | (with_reducible refine Blk.alloc ?_ _) | (with_reducible refine Blk.drew ?_) | (with_reducible refine Blk.far ?_ ?_ _; rotate_left; focus (dsimp only; omega))))
            · rw [HFV.out]
              exact KX2.out.put12 _ _ _ _ _ _ _ _ _ _ _ _
          case measure => simp [intOf]; omega
    · obtain rfl : k = d.length := by omega
      have hK2 := HK2.out
      rw [List.take_length] at hK2 ⊢
      rw [HRV.out] at hK2
      rw [HOO.out]
      obtain ⟨f0, f1, f2, f3, f4, f5, f6, f7, f8, f9, f10, f11⟩ := HK1.out.f12
      obtain ⟨z0, z1, z2, z3, z4, z5, z6, z7, z8, z9, z10, z11⟩ := HK1.out.c12
      obtain ⟨y0, y1, y2, y3, y4, y5, y6, y7, y8, y9, y10, y11⟩ := hK2.c12
      clear hK2 HK1 HK2
      go_wp2_with fail
      refine bodyPost_ret (v := .tuple #[(⟨rp, rn, rc, ra, ⟨rb, rk, re, rx⟩, ⟨rs, rz⟩, rvs, rvm⟩ : Rev).val, .bool oo]) (by simp [results, Tryz.results114, go_sem, z0, z1, z2, z3, z4, z5, z6, z7, z8, z9, z10, z11]; rfl) rfl ⟨rfl, ?_⟩
      have HB1 := HB.out
      (repeat (first | (with_reducible exact Below.refl _ _) | (with_reducible assumption) | (with_reducible refine Below.setCell ?_ ?_ _; rotate_left; focus (first | exact Nat.le_refl _ | (dsimp only; omega) | (simp; omega))) | (with_reducible refine Below.drew ?_) | (with_reducible refine below_drewN ?_ _) | (with_reducible refine Below.alloc ?_ ?_ _; rotate_left; focus (first | exact Nat.le_refl _ | omega | (simp; done) | (simp; omega))) | (with_reducible refine Below.trans ?_ (HB1.mono ?_); rotate_left; focus (first | exact Nat.le_refl _ | omega | (simp; done) | (simp; omega)))))
end

section
open Go.RowKit

set_option maxRecDepth 100000 in
set_option maxHeartbeats 1600000 in
theorem last_any (d : List Rev) (p : ByteArray) (A B : Option Addr) (ca nb cb : Nat) (w : World) (h : revK.In A d w) (hn : d.length ≤ 1000000) (ha : Asc d) :
    Calls Tryz.prog 63 #[.agg #[.slice A d.length ca, .slice B nb cb], .string p] w fun e w' => e = .returned (.tuple #[(lastR d p).val, .bool (lastD d p).isSome]) ∧ Below w.heap.size w w' := by
  have HI := Lib.hid h
  have HG := Lib.hid (fun w h => great_any d p A B ca nb cb w h hn ha)
  clear h ha
  generalize lastR d p = v at *
  generalize (lastD d p).isSome = oo at *
  go_enter Tryz.func63, Tryz.ntmps63
  go_wp2_with fail
  refine (HG.out _ (HI.out.below (by (repeat (first | (with_reducible exact Below.refl _ _) | (with_reducible assumption) | (with_reducible refine Below.setCell ?_ ?_ _; rotate_left; focus (first | exact Nat.le_refl _ | (dsimp only; omega))) | (with_reducible refine Below.drew ?_) | (with_reducible refine below_drewN ?_ _) | (with_reducible refine Below.alloc ?_ ?_ _; rotate_left; focus (first | exact Nat.le_refl _ | (simp; done) | (simp; omega)))))))).mono ?_
  rintro e w1 ⟨rfl, hB1⟩
  have hz1 := hB1.size
  simp at hz1
  have K1 := (Blk.new1 w _ 74 zeroRev.cells).below hB1
  (obtain ⟨f0, f1, f2, f3, f4, f5, f6, f7, f8, f9, f10, f11⟩ := (K1).f12; obtain ⟨z0, z1, z2, z3, z4, z5, z6, z7, z8, z9, z10, z11⟩ := (K1).c12)
  have hlb : w.heap.size + 1 < w1.heap.size := by omega
  have HB1 := Lib.hid hB1
  clear hB1 K1
  unfold Rev.val Rev.cells
  go_wp2_with fail
  refine bodyPost_ret (v := .tuple #[(v).val, .bool oo]) (by simp [results, Tryz.results63, go_sem, z0, z1, z2, z3, z4, z5, z6, z7, z8, z9, z10, z11]; rfl) rfl ⟨rfl, ?_⟩
  have HB1 := HB1.out
  (repeat (first | (with_reducible exact Below.refl _ _) | (with_reducible assumption) | (with_reducible refine Below.setCell ?_ ?_ _; rotate_left; focus (first | exact Nat.le_refl _ | (dsimp only; omega) | (simp; omega))) | (with_reducible refine Below.drew ?_) | (with_reducible refine below_drewN ?_ _) | (with_reducible refine Below.alloc ?_ ?_ _; rotate_left; focus (first | exact Nat.le_refl _ | omega | (simp; done) | (simp; omega))) | (with_reducible refine Below.trans ?_ (HB1.mono ?_); rotate_left; focus (first | exact Nat.le_refl _ | omega | (simp; done) | (simp; omega)))))
set_option maxRecDepth 100000 in
set_option maxHeartbeats 1600000 in
theorem live_any (d : List Rev) (p : ByteArray) (A B : Option Addr) (ca nb cb : Nat) (w : World) (h : revK.In A d w) (hn : d.length ≤ 1000000) (ha : Asc d) :
    Calls Tryz.prog 65 #[.agg #[.slice A d.length ca, .slice B nb cb], .string p] w fun e w' => e = .returned (.tuple #[(lastR d p).val, .bool (liveD d p)]) ∧ Below w.heap.size w w' := by
  have HI := Lib.hid h
  have HG := Lib.hid (fun w h => last_any d p A B ca nb cb w h hn ha)
  clear h ha
  have HL : Hid (liveD d p = ((lastD d p).isSome && !goneR (lastR d p))) := live_is d p
  rw [HL.out]
  clear HL
  generalize lastR d p = v at *
  generalize (lastD d p).isSome = oo at *
  unfold goneR goneA
  (obtain ⟨vp, vn, vc, va, ⟨tb, tk, te, tx⟩, ⟨cs, cz⟩, vs, vm⟩ := v)
  dsimp only
  unfold Rev.val Rev.cells at HG
  dsimp only at HG
  go_enter Tryz.func65, Tryz.ntmps65
  go_wp2_with fail
  refine (HG.out _ (HI.out.below (by (repeat (first | (with_reducible exact Below.refl _ _) | (with_reducible assumption) | (with_reducible refine Below.setCell ?_ ?_ _; rotate_left; focus (first | exact Nat.le_refl _ | (dsimp only; omega))) | (with_reducible refine Below.drew ?_) | (with_reducible refine below_drewN ?_ _) | (with_reducible refine Below.alloc ?_ ?_ _; rotate_left; focus (first | exact Nat.le_refl _ | (simp; done) | (simp; omega)))))))).mono ?_
  rintro e w1 ⟨rfl, hB1⟩
  have hz1 := hB1.size
  simp at hz1
  have K1 := Lib.hid ((Blk.new1 w (.cells #[.slice A d.length ca, .slice B nb cb] 37) 74 zeroRev.cells).below hB1)
  have HB1 := Lib.hid hB1
  clear hB1 HG HI
  go_wp2_with fail
  generalize hw2 : World.alloc w1 (.cells (#[.string vp, .int .i64 vn, .int .i64 vc, .int .i64 va, .int .i64 tb, .bool tk, .bool te, .bool tx, .int .u64 cs, .int .i64 cz, .string vs, .int .i64 vm]) 74) = w2
  have K : Blk w1.heap.size 74 ([.string vp, .int .i64 vn, .int .i64 vc, .int .i64 va, .int .i64 tb, .bool tk, .bool te, .bool tx, .int .u64 cs, .int .i64 cz, .string vs, .int .i64 vm]) w2 := hw2 ▸ Blk.new w1 74 _
  have K2 := K1.out.alloc (.cells (#[.string vp, .int .i64 vn, .int .i64 vc, .int .i64 va, .int .i64 tb, .bool tk, .bool te, .bool tx, .int .u64 cs, .int .i64 cz, .string vs, .int .i64 vm]) 74)
  have H2 : Below w.heap.size w w2 := by
    have HB1 := HB1.out
    rw [← hw2]
    (repeat (first | (with_reducible exact Below.refl _ _) | (with_reducible assumption) | (with_reducible refine Below.setCell ?_ ?_ _; rotate_left; focus (first | exact Nat.le_refl _ | (dsimp only; omega) | (simp; omega))) | (with_reducible refine Below.drew ?_) | (with_reducible refine below_drewN ?_ _) | (with_reducible refine Below.alloc ?_ ?_ _; rotate_left; focus (first | exact Nat.le_refl _ | omega | (simp; done) | (simp; omega))) | (with_reducible refine Below.trans ?_ (HB1.mono ?_); rotate_left; focus (first | exact Nat.le_refl _ | omega | (simp; done) | (simp; omega)))))
  have hlb : w.heap.size + 1 < w1.heap.size := by omega
  have hz2 : w1.heap.size < w2.heap.size := K.lt
  rw [hw2] at K2
  obtain ⟨q0, q1, q2, q3, q4, q5, q6, q7, q8, q9, q10, q11⟩ := K.c12
  obtain ⟨f0, f1, f2, f3, f4, f5, f6, f7, f8, f9, f10, f11⟩ := K2.f12
  obtain ⟨z0, z1, z2, z3, z4, z5, z6, z7, z8, z9, z10, z11⟩ := K2.c12
  have HH2 := Lib.hid H2
  have hlz : w.heap.size + 1 < w2.heap.size := by omega
  clear hw2 K H2 K2 K1 HB1
  by_cases h3 : va = 3
  · subst h3
    cases oo
    all_goals
      go_region
      go_wp2_with fail
      first
        | exact bodyPost_ret (v := .tuple #[((⟨vp, vn, vc, 3, ⟨tb, tk, te, tx⟩, ⟨cs, cz⟩, vs, vm⟩ : Rev)).val, .bool false]) (by simp [results, Tryz.results65, go_sem, z0, z1, z2, z3, z4, z5, z6, z7, z8, z9, z10, z11]; rfl) rfl ⟨by first | rfl | simp_all, by have HB1 := HH2.out; (repeat (first | (with_reducible exact Below.refl _ _) | (with_reducible assumption) | (with_reducible refine Below.setCell ?_ ?_ _; rotate_left; focus (first | exact Nat.le_refl _ | (dsimp only; omega) | (simp; omega))) | (with_reducible refine Below.drew ?_) | (with_reducible refine below_drewN ?_ _) | (with_reducible refine Below.alloc ?_ ?_ _; rotate_left; focus (first | exact Nat.le_refl _ | omega | (simp; done) | (simp; omega))) | (with_reducible refine Below.trans ?_ (HB1.mono ?_); rotate_left; focus (first | exact Nat.le_refl _ | omega | (simp; done) | (simp; omega)))))⟩
        | exact bodyPost_ret (v := .tuple #[((⟨vp, vn, vc, 3, ⟨tb, tk, te, tx⟩, ⟨cs, cz⟩, vs, vm⟩ : Rev)).val, .bool true]) (by simp [results, Tryz.results65, go_sem, z0, z1, z2, z3, z4, z5, z6, z7, z8, z9, z10, z11]; rfl) rfl ⟨by first | rfl | simp_all, by have HB1 := HH2.out; (repeat (first | (with_reducible exact Below.refl _ _) | (with_reducible assumption) | (with_reducible refine Below.setCell ?_ ?_ _; rotate_left; focus (first | exact Nat.le_refl _ | (dsimp only; omega) | (simp; omega))) | (with_reducible refine Below.drew ?_) | (with_reducible refine below_drewN ?_ _) | (with_reducible refine Below.alloc ?_ ?_ _; rotate_left; focus (first | exact Nat.le_refl _ | omega | (simp; done) | (simp; omega))) | (with_reducible refine Below.trans ?_ (HB1.mono ?_); rotate_left; focus (first | exact Nat.le_refl _ | omega | (simp; done) | (simp; omega)))))⟩
  · by_cases h5 : va = 5
    · subst h5
      cases oo
      all_goals
        go_region
        go_wp2_with fail
        first
          | exact bodyPost_ret (v := .tuple #[((⟨vp, vn, vc, 5, ⟨tb, tk, te, tx⟩, ⟨cs, cz⟩, vs, vm⟩ : Rev)).val, .bool false]) (by simp [results, Tryz.results65, go_sem, z0, z1, z2, z3, z4, z5, z6, z7, z8, z9, z10, z11]; rfl) rfl ⟨by first | rfl | simp_all, by have HB1 := HH2.out; (repeat (first | (with_reducible exact Below.refl _ _) | (with_reducible assumption) | (with_reducible refine Below.setCell ?_ ?_ _; rotate_left; focus (first | exact Nat.le_refl _ | (dsimp only; omega) | (simp; omega))) | (with_reducible refine Below.drew ?_) | (with_reducible refine below_drewN ?_ _) | (with_reducible refine Below.alloc ?_ ?_ _; rotate_left; focus (first | exact Nat.le_refl _ | omega | (simp; done) | (simp; omega))) | (with_reducible refine Below.trans ?_ (HB1.mono ?_); rotate_left; focus (first | exact Nat.le_refl _ | omega | (simp; done) | (simp; omega)))))⟩
          | exact bodyPost_ret (v := .tuple #[((⟨vp, vn, vc, 5, ⟨tb, tk, te, tx⟩, ⟨cs, cz⟩, vs, vm⟩ : Rev)).val, .bool true]) (by simp [results, Tryz.results65, go_sem, z0, z1, z2, z3, z4, z5, z6, z7, z8, z9, z10, z11]; rfl) rfl ⟨by first | rfl | simp_all, by have HB1 := HH2.out; (repeat (first | (with_reducible exact Below.refl _ _) | (with_reducible assumption) | (with_reducible refine Below.setCell ?_ ?_ _; rotate_left; focus (first | exact Nat.le_refl _ | (dsimp only; omega) | (simp; omega))) | (with_reducible refine Below.drew ?_) | (with_reducible refine below_drewN ?_ _) | (with_reducible refine Below.alloc ?_ ?_ _; rotate_left; focus (first | exact Nat.le_refl _ | omega | (simp; done) | (simp; omega))) | (with_reducible refine Below.trans ?_ (HB1.mono ?_); rotate_left; focus (first | exact Nat.le_refl _ | omega | (simp; done) | (simp; omega)))))⟩
    · have h3a : (va == 3) = false := by simpa using h3
      have h5a : (va == 5) = false := by simpa using h5
      have h3b : (va != 3) = true := by simpa using h3
      have h5b : (va != 5) = true := by simpa using h5
      have h3c : decide (va = 3) = false := by simpa using h3
      have h5c : decide (va = 5) = false := by simpa using h5
      cases oo
      all_goals
        go_region
        go_wp2_with fail
        first
          | exact bodyPost_ret (v := .tuple #[((⟨vp, vn, vc, va, ⟨tb, tk, te, tx⟩, ⟨cs, cz⟩, vs, vm⟩ : Rev)).val, .bool false]) (by simp [results, Tryz.results65, go_sem, z0, z1, z2, z3, z4, z5, z6, z7, z8, z9, z10, z11]; rfl) rfl ⟨by first | rfl | simp_all, by have HB1 := HH2.out; (repeat (first | (with_reducible exact Below.refl _ _) | (with_reducible assumption) | (with_reducible refine Below.setCell ?_ ?_ _; rotate_left; focus (first | exact Nat.le_refl _ | (dsimp only; omega) | (simp; omega))) | (with_reducible refine Below.drew ?_) | (with_reducible refine below_drewN ?_ _) | (with_reducible refine Below.alloc ?_ ?_ _; rotate_left; focus (first | exact Nat.le_refl _ | omega | (simp; done) | (simp; omega))) | (with_reducible refine Below.trans ?_ (HB1.mono ?_); rotate_left; focus (first | exact Nat.le_refl _ | omega | (simp; done) | (simp; omega)))))⟩
          | exact bodyPost_ret (v := .tuple #[((⟨vp, vn, vc, va, ⟨tb, tk, te, tx⟩, ⟨cs, cz⟩, vs, vm⟩ : Rev)).val, .bool true]) (by simp [results, Tryz.results65, go_sem, z0, z1, z2, z3, z4, z5, z6, z7, z8, z9, z10, z11]; rfl) rfl ⟨by first | rfl | simp_all, by have HB1 := HH2.out; (repeat (first | (with_reducible exact Below.refl _ _) | (with_reducible assumption) | (with_reducible refine Below.setCell ?_ ?_ _; rotate_left; focus (first | exact Nat.le_refl _ | (dsimp only; omega) | (simp; omega))) | (with_reducible refine Below.drew ?_) | (with_reducible refine below_drewN ?_ _) | (with_reducible refine Below.alloc ?_ ?_ _; rotate_left; focus (first | exact Nat.le_refl _ | omega | (simp; done) | (simp; omega))) | (with_reducible refine Below.trans ?_ (HB1.mono ?_); rotate_left; focus (first | exact Nat.le_refl _ | omega | (simp; done) | (simp; omega)))))⟩
end

end Go.Proofs.YtocffknoeknabaaGreatDoor
