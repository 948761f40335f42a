/-
  The walk of the program's Return.
-/
import Derived.Test.YtcfmkmhibghaoaaDoorOr1
namespace Go.Proofs.YtcfmkmhibghaoaaDoor
open Go.RowKit

set_option maxRecDepth 100000 in
set_option maxHeartbeats 6400000 in
theorem ret_any (p : ByteArray) (f s t dr : Int) (client lp lh : ByteArray) (lf ls lu : Int) (holds : Bool) (d : List Rev) (A B : Option Addr) (ca nb cb : Nat) (base : Int) (w : World) (hA : revK.In A d w) (hn : d.length ≤ 1000) (hasc : Asc d) :
    Calls Tryd.prog 8 #[.agg #[.string p, .int .i64 f, .int .i64 s, .int .i64 t, .int .i64 dr], .string client, .agg #[.string lp, .string lh, .int .i64 lf, .int .i64 ls, .int .i64 lu], .bool holds, .agg #[.slice A d.length ca, .slice B nb cb], .int .i64 base] w
      (RetPost ⟨p, f, s, t, dr⟩ client lp lh lf ls lu holds d base w) := by
  have HSND := Lib.hid (fun x (hx : Below w.heap.size w x) => sound_any p f s t dr x)
  have HLOG := Lib.hid (fun x (hx : Below w.heap.size w x) => hlog_any d p A B ca nb cb x (hA.below hx) (by omega) hasc)
  have HLL := log_len d p
  clear hA hasc
  obtain ⟨i0, hi0, hz0, hz1, hz2⟩ := info_parts Tryd.infoFile
  have HBAD : Hid (RetBad ⟨p, f, s, t, dr⟩ lp lh lf ls lu ∨ ¬ RetBad ⟨p, f, s, t, dr⟩ lp lh lf ls lu) := Classical.em _
  generalize hsb : soundB ⟨p, f, s, t, dr⟩ = sb at HSND
  have HSB := Lib.hid hsb
  clear hsb
  go_enter Tryd.func8, Tryd.ntmps8
  go_upto_region 1 with fail
  generalize hw1 : World.alloc _ (.cells #[.int .i64 0, .string ⟨#[]⟩, .slice none 0 0] 36) = w1
  have HM1 : Hid (Bs [(w.heap.size + 1 + 1 + 1, 36, [.int .i64 0, .string ⟨#[]⟩, .slice none 0 0]), (w.heap.size + 1 + 1, 32, [.slice A d.length ca, .slice B nb cb]), (w.heap.size + 1, 26, [.string lp, .string lh, .int .i64 lf, .int .i64 ls, .int .i64 lu]), (w.heap.size, 24, [.string p, .int .i64 f, .int .i64 s, .int .i64 t, .int .i64 dr])] w1) := by
    show Bs _ _
    rw [← hw1]
    refine ⟨Blk.new3 _ _ _ _ _ _, ?_, ?_, ?_, trivial⟩
    · (repeat (first | (with_reducible exact Blk.new2 _ _ _ _ _) | (with_reducible refine Blk.alloc ?_ _) | (with_reducible refine Blk.drew ?_) | (with_reducible refine Blk.far ?_ ?_ _; rotate_left; focus (dsimp only; omega))))
    · (repeat (first | (with_reducible exact Blk.new1 _ _ _ _) | (with_reducible refine Blk.alloc ?_ _) | (with_reducible refine Blk.drew ?_) | (with_reducible refine Blk.far ?_ ?_ _; rotate_left; focus (dsimp only; omega))))
    · (repeat (first | (with_reducible exact Blk.new _ _ _) | (with_reducible refine Blk.alloc ?_ _) | (with_reducible refine Blk.drew ?_) | (with_reducible refine Blk.far ?_ ?_ _; rotate_left; focus (dsimp only; omega))))
  have HB1 : Hid (Below w.heap.size w w1) := by
    show Below _ _ _
    rw [← hw1]
    (repeat (first | (with_reducible exact Below.refl _ _) | (with_reducible assumption) | (with_reducible refine Below.setCell ?_ ?_ _; rotate_left; focus (first | exact Nat.le_refl _ | (dsimp only; omega))) | (with_reducible refine Below.drew ?_) | (with_reducible refine below_drewN ?_ _) | (with_reducible refine Below.alloc ?_ ?_ _; rotate_left; focus (first | exact Nat.le_refl _ | (simp; done) | (simp; omega)))))
  clear hw1
  obtain ⟨q0, q1, q2, q3, q4⟩ := HM1.out.2.2.2.1.c5
  have lq := HM1.out.2.2.2.1.lt
  go_wp2_with fail
  refine (HSND.out _ HB1.out).mono ?_
  rintro e w2 ⟨rfl, hb2⟩
  have HM2 := Lib.hid (HM1.out.below hb2)
  have HB2 := Lib.hid (HB1.out.trans (hb2.mono HB1.out.size))
  clear hb2 HM1 HB1 q0 q1 q2 q3 q4 lq HSND
  obtain ⟨z0, z1, z2⟩ := HM2.out.1.c3
  have f0 := HM2.out.1.fz 0
  have f1 := HM2.out.1.fz 1
  have f2 := HM2.out.1.fz 2
  have lz := HM2.out.1.lt
  have KZ := Lib.hid (((HM2.out.1.set 0 (.int .i64 0)).set 1 (.string ⟨#[]⟩)).set 2 (.slice none 0 0))
  have HBZ : Hid (Below w.heap.size w (((w2.setCell ⟨w.heap.size + 1 + 1 + 1, 0, none⟩ (.int .i64 0)).setCell ⟨w.heap.size + 1 + 1 + 1, 1, none⟩ (.string ⟨#[]⟩)).setCell ⟨w.heap.size + 1 + 1 + 1, 2, none⟩ (.slice none 0 0))) :=
    ((HB2.out.setCell (by dsimp only; omega) _).setCell (by dsimp only; omega) _).setCell (by dsimp only; omega) _
  obtain ⟨g0, g1, g2, g3, g4⟩ := HM2.out.2.2.1.c5
  obtain ⟨q0, q1, q2, q3, q4⟩ := HM2.out.2.2.2.1.c5
  have lg := HM2.out.2.2.1.lt
  have lq := HM2.out.2.2.2.1.lt
  cases sb
  · have HR : Hid (RetBad ⟨p, f, s, t, dr⟩ lp lh lf ls lu) := .inl HSB.out
    go_wp2_with fail
    generalize World.setCell (World.setCell (World.setCell w2 _ _) _ _) _ _ = wz at *
    obtain ⟨y0, y1, y2⟩ := KZ.out.c3
    refine bodyPost_ret (v := .tuple #[.agg #[.int .i64 0, .string ⟨#[]⟩, .slice none 0 0], .int .i64 200]) (by simp [results, Tryd.results8, go_sem, y0, y1, y2]) rfl ?_
    exact .inl ⟨HR.out, rfl, HBZ.out⟩
  rcases HBAD.out with hbad | hgood
  · have HR := Lib.hid hbad
    obtain hs | ⟨hne, hpp⟩ := hbad
    · exact absurd (HSB.out.symm.trans hs) (by decide)
    have HNE := Lib.hid hne
    have HPP : ¬ lp.toList = p.toList := fun h => hpp (ba_data (by rw [← toList_eq, ← toList_eq, h]))
    have HPQ : (lp.toList == p.toList) = false := by simpa using HPP
    clear hne hpp HBAD
    go_wp2_with fail
    all_goals first
      | (generalize World.setCell (World.setCell (World.setCell w2 _ _) _ _) _ _ = wz at *
         obtain ⟨y0, y1, y2⟩ := KZ.out.c3
         refine bodyPost_ret (v := .tuple #[.agg #[.int .i64 0, .string ⟨#[]⟩, .slice none 0 0], .int .i64 200]) (by simp [results, Tryd.results8, go_sem, y0, y1, y2]) rfl ?_
         exact .inl ⟨HR.out, rfl, HBZ.out⟩
         done)
      | (exfalso
         exact HNE.out ⟨toList_nil (by simp_all), toList_nil (by simp_all), by simp_all, by simp_all, by simp_all⟩)
  · have HGOOD := Lib.hid hgood
    have hsz : p.size ≤ 200 ∧ 0 < p.size := by
      have h1 := sound_parts HSB.out
      refine ⟨h1.1, ?_⟩
      rcases Nat.eq_zero_or_pos p.size with h | h
      · exfalso
        rw [eq_empty_of_size p h] at HSB
        have hv : validB (⟨#[]⟩ : ByteArray).data.toList = false := validB_no _ rfl
        exact absurd HSB.out (by simp [soundB, hv])
      · exact h
    have hcase : (lp = ⟨#[]⟩ ∧ lh = ⟨#[]⟩ ∧ lf = 0 ∧ ls = 0 ∧ lu = 0) ∨ lp = p := by
      rcases Classical.em (lp = ⟨#[]⟩ ∧ lh = ⟨#[]⟩ ∧ lf = 0 ∧ ls = 0 ∧ lu = 0) with h | h
      · exact .inl h
      · rcases Classical.em (lp = p) with h2 | h2
        · exact .inr h2
        · exact absurd (.inr ⟨h, h2⟩) hgood
    have hpe := isEmpty_of_pos p hsz.2
    have hpn := not_nil_of_pos p hsz.2
    clear hgood HBAD hsz KZ HBZ z0 z1 z2 f0 f1 f2 lz
    obtain ⟨d0, d1⟩ := HM2.out.2.1.c2
    have ld := HM2.out.2.1.lt
    generalize hlg : logD d p = l at *
    have HLG := Lib.hid hlg
    clear hlg
    rcases hcase with ⟨rfl, rfl, rfl, rfl, rfl⟩ | rfl
    · skip
      go_wp2_with fail
      have hvb : w.heap.size + 1 + 1 + 1 < w2.heap.size := HM2.out.1.lt
      have HM2a := Lib.hid (Bs.cons (Blk.new w2 36 [.int .i64 0, .string ⟨#[]⟩, .slice none 0 0]) (HM2.out.alloc _))
      have HB2a := Lib.hid (HB2.out.alloc HB2.out.size (.cells (#[.int .i64 0, .string ⟨#[]⟩, .slice none 0 0] : Array Value) 36))
      refine (HLOG.out _ HB2a.out).mono ?_
      rintro e w3 ⟨AL, cl, rfl, hI3, hb3⟩
      have HM3 := Lib.hid (Bs.below HM2a.out hb3)
      have HB3 := Lib.hid (HB2a.out.trans (hb3.mono HB2a.out.size))
      have HI3 := Lib.hid hI3
      have hv3 : w2.heap.size + 1 ≤ w3.heap.size := HM3.out.1.lt
      clear hb3 HM2a HB2a hI3 HM2 HB2 d0 d1 ld g0 g1 g2 g3 g4 q0 q1 q2 q3 q4 lg lq HLOG
      generalize w2.heap.size = vb at *
      have HNV := Lib.hid (in_not_verd HM3.out.1 HI3.out)
      go_wp2_with fail
      go_loopw [38] (fun i wr => ∃ (k : Nat) (A5 : Option Addr) (n5 q5 : Nat), i = .int .i64 k ∧ k ≤ l.length ∧ Below w.heap.size w wr ∧ w3.heap.size ≤ wr.heap.size ∧ revK.In AL l wr ∧ n5 = (missL (l.take k) base).length ∧ Bs [(vb, 36, [.int .i64 0, .string ⟨#[]⟩, .slice A5 n5 q5]), (w.heap.size + 1 + 1 + 1, 36, [.int .i64 0, .string ⟨#[]⟩, .slice none 0 0]), (w.heap.size + 1 + 1, 32, [.slice A d.length ca, .slice B nb cb]), (w.heap.size + 1, 26, [.string ⟨#[]⟩, .string ⟨#[]⟩, .int .i64 0, .int .i64 0, .int .i64 0]), (w.heap.size, 24, [.string p, .int .i64 f, .int .i64 s, .int .i64 t, .int .i64 dr])] wr ∧ wr.ownsRow w3.heap.size 41 2 (.slice A5 n5 q5) n5 (fileK.flat (missL (l.take k) base))) (fun i _ => l.length - (intOf i).toNat)
      case atStart => exact ⟨0, none, 0, 0, rfl, Nat.zero_le _, HB3.out, Nat.le_refl _, HI3.out, rfl, HM3.out, by simp [missL, RowK.flat, World.ownsRow]⟩
      case round =>
        obtain ⟨k, A5, n5, q5, rfl, hk, hB, hsz, hI, hn5, hM, hO⟩ := hrel
        have HN5 := Lib.hid hn5
        have HB := Lib.hid hB
        have HM := Lib.hid hM
        have HO := Lib.hid hO
        have HI := Lib.hid hI
        have hn5k : n5 ≤ k := by
          rw [hn5]
          have := miss_len (l.take k) base
          rwa [List.length_take_of_le hk] at this
        clear hB hM hO hI hn5 HM3 HB3 HI3
        by_cases hlt : k < l.length
        · obtain ⟨b, off, rfl, hbl, hat⟩ := HI.out (by omega)
          have hg := List.getElem?_eq_getElem hlt
          have HT := Lib.hid (miss_take l base k hlt)
          have hbv := (HNV.out b off rfl (by omega)).1
          have hb3 := (HNV.out b off rfl (by omega)).2
          generalize hq : l[k] = v at *
          have HL := Lib.hid (RowK.lit2 fileK wr (.cells v.cells.toArray 81) (v.path, v.num) 41)
          (have hcv := fun j (u : Value) (hj : (v).cells[j]? = some u) => ((hat).get hg hj); have c0 := hcv 0 _ rfl; have c1 := hcv 1 _ rfl; have c2 := hcv 2 _ rfl; have c3 := hcv 3 _ rfl; have c4 := hcv 4 _ rfl; have c5 := hcv 5 _ rfl; have c6 := hcv 6 _ rfl; have c7 := hcv 7 _ rfl; have c8 := hcv 8 _ rfl; have c9 := hcv 9 _ rfl; have c10 := hcv 10 _ rfl; have c11 := hcv 11 _ rfl; have e12 : revK.n = 12 := rfl; simp only [e12, Nat.add_zero] at c0 c1 c2 c3 c4 c5 c6 c7 c8 c9 c10 c11; clear hcv e12)
          clear hat hg hq
          obtain ⟨vp, vn, vc, va, ⟨tb, tk, te, tx⟩, ⟨cs, cz⟩, vs, vm⟩ := v
          unfold Rev.cells at HL
          dsimp only at HL HT c0 c1 c2 c3 c4 c5 c6 c7 c8 c9 c10 c11
          obtain ⟨t0, t1, t2⟩ := HM.out.1.c3
          have lt := HM.out.1.lt
          cases hd : decide (base < vn)
          · rw [hd] at HT
            go_wp2_with fail
            go_roundw
            case rel =>
              refine ⟨k + 1, A5, n5, q5, by go_num, by omega, HB.out.alloc HB.out.size _, by simp; omega, HI.out.below ((Below.refl _ _).alloc (Nat.le_refl _) _), ?_, HM.out.alloc _, ?_⟩
              · rw [HT.out]
                simpa using HN5.out
              · rw [HT.out]
                simpa using HO.out.alloc _
            case measure => simp [intOf]; omega
          · rw [hd] at HT
            go_wp2_with (at_builtin; go_loud (refine wpList_append_own _ rfl _ _ 34 rfl w3.heap.size 41 i0 (.agg #[.string ⟨#[]⟩, .int .i64 0]) 2 24 Tryd.underlying34 hi0 hz0 hz1 hz2 rfl (by decide) _ _ _ rfl ((HO.out.alloc _).alloc _) ⟨wr.heap.size + 1, 0, none⟩ 1 1 (fileK.cells (vp, vn)) rfl rfl HL.out.1 HL.out.2 (by unfold maxLen; omega) (by omega) (by simp; omega) ?_); intro v2 w6 ho6 hg6 _; obtain ⟨A6, c6, rfl⟩ := ownsRow_slice ho6; have HO6 := Lib.hid ho6; have hne6 : ∀ g, g < w3.heap.size → (Value.slice A5 n5 q5).ownBlock ≠ some g := fun g hg => own_ne HO.out hg; have HM6 := Lib.hid (((HM.out.alloc _).alloc _).grown hg6 (fun x hx => hne6 _ (by simp only [List.mem_cons, List.not_mem_nil, or_false] at hx; rcases hx with rfl | rfl | rfl | rfl | rfl; all_goals (dsimp only; omega)))); have HB6 := Lib.hid (((HB.out.alloc HB.out.size _).alloc (by simp; have := HB.out.size; omega) _).grown hg6 (by simp; have := HB.out.size; omega) (fun j e => by have := (HO.out.lt j e).1; omega)); have hs6 := hg6.size; simp at hs6; have hbb : b < w3.heap.size := hb3; have hI6 : w6.heap[b]? = wr.heap[b]? := (hg6.block b (by simp; omega) (fun e => hne6 b hb3 e.symm)).trans ((Below.heap_alloc _ _ _ (by simp; omega)).trans (Below.heap_alloc _ _ _ (by omega))); clear ho6 hg6 t0 t1 t2 lt; obtain ⟨t0, t1, t2⟩ := HM6.out.1.c3; have f2 := HM6.out.1.fz 2; have lt := HM6.out.1.lt)
            go_roundw
            case rel =>
              refine ⟨k + 1, A6, n5 + 1, c6, by go_num, by omega, HB6.out.setCell (by dsimp only; omega) _, by simp [World.setCell]; omega, ?_, ?_, Bs.cons (HM6.out.1.set 2 _) (Bs.far HM6.out.2 ?_ _), ?_⟩
              · intro h0
                obtain ⟨b', off', e', h1', h2'⟩ := HI.out h0
                injection e' with e'
                injection e' with e1 e2 e3
                subst e1 e2
                refine ⟨b, off, rfl, by simp [World.setCell]; omega, h2'.of_block ?_⟩
                rw [Below.heap_setCell _ _ _ _ (by exact hbv)]
                exact hI6
              · rw [HT.out]
                have := HN5.out
                simp [← this]
              · intro x hx
                simp only [List.mem_cons, List.not_mem_nil, or_false] at hx
                rcases hx with rfl | rfl | rfl | rfl
                all_goals (dsimp only; omega)
              · have h := ownsRow_set HO6.out (p := ⟨vb, 2, none⟩) (by dsimp only; omega) (.slice A6 (n5 + 1) c6)
                rw [RowK.flat_snoc] at h
                rw [HT.out]
                simpa using h
            case measure => simp [intOf]; omega
        · obtain rfl : k = l.length := by omega
          have HN6 : Hid (n5 = (missL l base).length) := by
            have := HN5.out
            rwa [List.take_length] at this
          have HO6 : Hid (wr.ownsRow w3.heap.size 41 2 (.slice A5 n5 q5) n5 (fileK.flat (missL l base))) := by
            have := HO.out
            rwa [List.take_length] at this
          clear HN5 HO hlt HNV HI
          obtain ⟨t0, t1, t2⟩ := HM.out.1.c3
          have f0 := HM.out.1.fz 0
          have f1 := HM.out.1.fz 1
          have lt := HM.out.1.lt
          obtain ⟨z0, z1, z2⟩ := HM.out.2.1.c3
          have f3 := HM.out.2.1.fz 0
          have f4 := HM.out.2.1.fz 1
          have f5 := HM.out.2.1.fz 2
          have lz := HM.out.2.1.lt
          obtain ⟨g0, g1, g2, g3, g4⟩ := HM.out.2.2.2.1.c5
          obtain ⟨q0, q1, q2, q3, q4⟩ := HM.out.2.2.2.2.1.c5
          have lg := HM.out.2.2.2.1.lt
          have lq := HM.out.2.2.2.2.1.lt
          have hne : vb ≠ w.heap.size + 1 + 1 + 1 := by omega
          cases holds
          · by_cases h0 : n5 = 0
            · have e0 : ((n5 : Int) == 0) = true := by rw [h0]; rfl
              have hK : Hid (retKH f client 0 ⟨#[]⟩ false n5 = (2, ⟨#[]⟩)) := by
                show _ = _
                simp [retKH, h0]
              clear h0
              go_wp2_with fail
              (have KZ := Lib.hid ((((HM.out.2.1.far (p := ⟨vb, 0, none⟩) (Ne.symm hne) (.int .i64 2)).set 0 (.int .i64 2)).set 1 (.string (⟨#[]⟩))).set 2 (.slice A5 n5 q5)); have HBZ := Lib.hid ((((HB.out.setCell (p := ⟨vb, 0, none⟩) (by dsimp only; omega) (.int .i64 2)).setCell (p := ⟨w.heap.size + 1 + 1 + 1, 0, none⟩) (by dsimp only; omega) (.int .i64 2)).setCell (p := ⟨w.heap.size + 1 + 1 + 1, 1, none⟩) (by dsimp only; omega) (.string (⟨#[]⟩))).setCell (p := ⟨w.heap.size + 1 + 1 + 1, 2, none⟩) (by dsimp only; omega) (.slice A5 n5 q5)); have HOZ := Lib.hid (ownsRow_set (ownsRow_set (ownsRow_set (ownsRow_set HO6.out (p := ⟨vb, 0, none⟩) (by dsimp only; omega) (.int .i64 2)) (p := ⟨w.heap.size + 1 + 1 + 1, 0, none⟩) (by dsimp only; omega) (.int .i64 2)) (p := ⟨w.heap.size + 1 + 1 + 1, 1, none⟩) (by dsimp only; omega) (.string (⟨#[]⟩))) (p := ⟨w.heap.size + 1 + 1 + 1, 2, none⟩) (by dsimp only; omega) (.slice A5 n5 q5)); clear t0 t1 t2 f0 f1 lt z0 z1 z2 f3 f4 f5 lz g0 g1 g2 g3 g4 q0 q1 q2 q3 q4 lg lq; generalize World.setCell (World.setCell (World.setCell (World.setCell wr _ _) _ _) _ _) _ _ = wz at *; obtain ⟨y0, y1, y2⟩ := KZ.out.c3; refine bodyPost_ret (v := .tuple #[.agg #[.int .i64 2, .string (⟨#[]⟩), .slice A5 n5 q5], .int .i64 0]) (by simp [results, Tryd.results8, go_sem, y0, y1, y2]) rfl ?_; refine .inr ⟨HGOOD.out, A5, q5, ?_, ?_, HBZ.out⟩; (dsimp only; rw [HLG.out, ← HN6.out, hK.out]); (dsimp only; rw [HLG.out]; exact RowK.In.of_row (show wz.ownsRow w3.heap.size 41 fileK.n _ _ _ from HOZ.out)))
            · have e0 : ((n5 : Int) == 0) = false := by rw [beq_eq_false_iff_ne]; omega
              have hK : Hid (retKH f client 0 ⟨#[]⟩ false n5 = (3, ⟨#[]⟩)) := by
                show _ = _
                simp [retKH, h0]
              clear h0
              go_wp2_with fail
              (have KZ := Lib.hid ((((HM.out.2.1.far (p := ⟨vb, 0, none⟩) (Ne.symm hne) (.int .i64 3)).set 0 (.int .i64 3)).set 1 (.string (⟨#[]⟩))).set 2 (.slice A5 n5 q5)); have HBZ := Lib.hid ((((HB.out.setCell (p := ⟨vb, 0, none⟩) (by dsimp only; omega) (.int .i64 3)).setCell (p := ⟨w.heap.size + 1 + 1 + 1, 0, none⟩) (by dsimp only; omega) (.int .i64 3)).setCell (p := ⟨w.heap.size + 1 + 1 + 1, 1, none⟩) (by dsimp only; omega) (.string (⟨#[]⟩))).setCell (p := ⟨w.heap.size + 1 + 1 + 1, 2, none⟩) (by dsimp only; omega) (.slice A5 n5 q5)); have HOZ := Lib.hid (ownsRow_set (ownsRow_set (ownsRow_set (ownsRow_set HO6.out (p := ⟨vb, 0, none⟩) (by dsimp only; omega) (.int .i64 3)) (p := ⟨w.heap.size + 1 + 1 + 1, 0, none⟩) (by dsimp only; omega) (.int .i64 3)) (p := ⟨w.heap.size + 1 + 1 + 1, 1, none⟩) (by dsimp only; omega) (.string (⟨#[]⟩))) (p := ⟨w.heap.size + 1 + 1 + 1, 2, none⟩) (by dsimp only; omega) (.slice A5 n5 q5)); clear t0 t1 t2 f0 f1 lt z0 z1 z2 f3 f4 f5 lz g0 g1 g2 g3 g4 q0 q1 q2 q3 q4 lg lq; generalize World.setCell (World.setCell (World.setCell (World.setCell wr _ _) _ _) _ _) _ _ = wz at *; obtain ⟨y0, y1, y2⟩ := KZ.out.c3; refine bodyPost_ret (v := .tuple #[.agg #[.int .i64 3, .string (⟨#[]⟩), .slice A5 n5 q5], .int .i64 0]) (by simp [results, Tryd.results8, go_sem, y0, y1, y2]) rfl ?_; refine .inr ⟨HGOOD.out, A5, q5, ?_, ?_, HBZ.out⟩; (dsimp only; rw [HLG.out, ← HN6.out, hK.out]); (dsimp only; rw [HLG.out]; exact RowK.In.of_row (show wz.ownsRow w3.heap.size 41 fileK.n _ _ _ from HOZ.out)))
          · have e1 : ((0 : Int) == f) = false := by
              have := (sound_parts HSB.out).2.1
              rw [beq_eq_false_iff_ne]
              omega
            have hK : Hid (retKH f client 0 ⟨#[]⟩ true n5 = (3, ⟨#[]⟩)) := by
              show _ = _
              simp [retKH, e1]
            go_wp2_with fail
            (have KZ := Lib.hid (((((HM.out.2.1.far (p := ⟨vb, 0, none⟩) (Ne.symm hne) (.int .i64 3)).far (p := ⟨vb, 1, none⟩) (Ne.symm hne) (.string (⟨#[]⟩))).set 0 (.int .i64 3)).set 1 (.string (⟨#[]⟩))).set 2 (.slice A5 n5 q5)); have HBZ := Lib.hid (((((HB.out.setCell (p := ⟨vb, 0, none⟩) (by dsimp only; omega) (.int .i64 3)).setCell (p := ⟨vb, 1, none⟩) (by dsimp only; omega) (.string (⟨#[]⟩))).setCell (p := ⟨w.heap.size + 1 + 1 + 1, 0, none⟩) (by dsimp only; omega) (.int .i64 3)).setCell (p := ⟨w.heap.size + 1 + 1 + 1, 1, none⟩) (by dsimp only; omega) (.string (⟨#[]⟩))).setCell (p := ⟨w.heap.size + 1 + 1 + 1, 2, none⟩) (by dsimp only; omega) (.slice A5 n5 q5)); have HOZ := Lib.hid (ownsRow_set (ownsRow_set (ownsRow_set (ownsRow_set (ownsRow_set HO6.out (p := ⟨vb, 0, none⟩) (by dsimp only; omega) (.int .i64 3)) (p := ⟨vb, 1, none⟩) (by dsimp only; omega) (.string (⟨#[]⟩))) (p := ⟨w.heap.size + 1 + 1 + 1, 0, none⟩) (by dsimp only; omega) (.int .i64 3)) (p := ⟨w.heap.size + 1 + 1 + 1, 1, none⟩) (by dsimp only; omega) (.string (⟨#[]⟩))) (p := ⟨w.heap.size + 1 + 1 + 1, 2, none⟩) (by dsimp only; omega) (.slice A5 n5 q5)); clear t0 t1 t2 f0 f1 lt z0 z1 z2 f3 f4 f5 lz g0 g1 g2 g3 g4 q0 q1 q2 q3 q4 lg lq; generalize World.setCell (World.setCell (World.setCell (World.setCell (World.setCell wr _ _) _ _) _ _) _ _) _ _ = wz at *; obtain ⟨y0, y1, y2⟩ := KZ.out.c3; refine bodyPost_ret (v := .tuple #[.agg #[.int .i64 3, .string (⟨#[]⟩), .slice A5 n5 q5], .int .i64 0]) (by simp [results, Tryd.results8, go_sem, y0, y1, y2]) rfl ?_; refine .inr ⟨HGOOD.out, A5, q5, ?_, ?_, HBZ.out⟩; (dsimp only; rw [HLG.out, ← HN6.out, hK.out]); (dsimp only; rw [HLG.out]; exact RowK.In.of_row (show wz.ownsRow w3.heap.size 41 fileK.n _ _ _ from HOZ.out)))
    · skip
      go_wp2_with fail
      have hvb : w.heap.size + 1 + 1 + 1 < w2.heap.size := HM2.out.1.lt
      have HM2a := Lib.hid (Bs.cons (Blk.new w2 36 [.int .i64 0, .string ⟨#[]⟩, .slice none 0 0]) (HM2.out.alloc _))
      have HB2a := Lib.hid (HB2.out.alloc HB2.out.size (.cells (#[.int .i64 0, .string ⟨#[]⟩, .slice none 0 0] : Array Value) 36))
      refine (HLOG.out _ HB2a.out).mono ?_
      rintro e w3 ⟨AL, cl, rfl, hI3, hb3⟩
      have HM3 := Lib.hid (Bs.below HM2a.out hb3)
      have HB3 := Lib.hid (HB2a.out.trans (hb3.mono HB2a.out.size))
      have HI3 := Lib.hid hI3
      have hv3 : w2.heap.size + 1 ≤ w3.heap.size := HM3.out.1.lt
      clear hb3 HM2a HB2a hI3 HM2 HB2 d0 d1 ld g0 g1 g2 g3 g4 q0 q1 q2 q3 q4 lg lq HLOG
      generalize w2.heap.size = vb at *
      have HNV := Lib.hid (in_not_verd HM3.out.1 HI3.out)
      go_wp2_with fail
      go_loopw [38] (fun i wr => ∃ (k : Nat) (A5 : Option Addr) (n5 q5 : Nat), i = .int .i64 k ∧ k ≤ l.length ∧ Below w.heap.size w wr ∧ w3.heap.size ≤ wr.heap.size ∧ revK.In AL l wr ∧ n5 = (missL (l.take k) base).length ∧ Bs [(vb, 36, [.int .i64 0, .string ⟨#[]⟩, .slice A5 n5 q5]), (w.heap.size + 1 + 1 + 1, 36, [.int .i64 0, .string ⟨#[]⟩, .slice none 0 0]), (w.heap.size + 1 + 1, 32, [.slice A d.length ca, .slice B nb cb]), (w.heap.size + 1, 26, [.string lp, .string lh, .int .i64 lf, .int .i64 ls, .int .i64 lu]), (w.heap.size, 24, [.string lp, .int .i64 f, .int .i64 s, .int .i64 t, .int .i64 dr])] wr ∧ wr.ownsRow w3.heap.size 41 2 (.slice A5 n5 q5) n5 (fileK.flat (missL (l.take k) base))) (fun i _ => l.length - (intOf i).toNat)
      case atStart => exact ⟨0, none, 0, 0, rfl, Nat.zero_le _, HB3.out, Nat.le_refl _, HI3.out, rfl, HM3.out, by simp [missL, RowK.flat, World.ownsRow]⟩
      case round =>
        obtain ⟨k, A5, n5, q5, rfl, hk, hB, hsz, hI, hn5, hM, hO⟩ := hrel
        have HN5 := Lib.hid hn5
        have HB := Lib.hid hB
        have HM := Lib.hid hM
        have HO := Lib.hid hO
        have HI := Lib.hid hI
        have hn5k : n5 ≤ k := by
          rw [hn5]
          have := miss_len (l.take k) base
          rwa [List.length_take_of_le hk] at this
        clear hB hM hO hI hn5 HM3 HB3 HI3
        by_cases hlt : k < l.length
        · obtain ⟨b, off, rfl, hbl, hat⟩ := HI.out (by omega)
          have hg := List.getElem?_eq_getElem hlt
          have HT := Lib.hid (miss_take l base k hlt)
          have hbv := (HNV.out b off rfl (by omega)).1
          have hb3 := (HNV.out b off rfl (by omega)).2
          generalize hq : l[k] = v at *
          have HL := Lib.hid (RowK.lit2 fileK wr (.cells v.cells.toArray 81) (v.path, v.num) 41)
          (have hcv := fun j (u : Value) (hj : (v).cells[j]? = some u) => ((hat).get hg hj); have c0 := hcv 0 _ rfl; have c1 := hcv 1 _ rfl; have c2 := hcv 2 _ rfl; have c3 := hcv 3 _ rfl; have c4 := hcv 4 _ rfl; have c5 := hcv 5 _ rfl; have c6 := hcv 6 _ rfl; have c7 := hcv 7 _ rfl; have c8 := hcv 8 _ rfl; have c9 := hcv 9 _ rfl; have c10 := hcv 10 _ rfl; have c11 := hcv 11 _ rfl; have e12 : revK.n = 12 := rfl; simp only [e12, Nat.add_zero] at c0 c1 c2 c3 c4 c5 c6 c7 c8 c9 c10 c11; clear hcv e12)
          clear hat hg hq
          obtain ⟨vp, vn, vc, va, ⟨tb, tk, te, tx⟩, ⟨cs, cz⟩, vs, vm⟩ := v
          unfold Rev.cells at HL
          dsimp only at HL HT c0 c1 c2 c3 c4 c5 c6 c7 c8 c9 c10 c11
          obtain ⟨t0, t1, t2⟩ := HM.out.1.c3
          have lt := HM.out.1.lt
          cases hd : decide (base < vn)
          · rw [hd] at HT
            go_wp2_with fail
            go_roundw
            case rel =>
              refine ⟨k + 1, A5, n5, q5, by go_num, by omega, HB.out.alloc HB.out.size _, by simp; omega, HI.out.below ((Below.refl _ _).alloc (Nat.le_refl _) _), ?_, HM.out.alloc _, ?_⟩
              · rw [HT.out]
                simpa using HN5.out
              · rw [HT.out]
                simpa using HO.out.alloc _
            case measure => simp [intOf]; omega
          · rw [hd] at HT
            go_wp2_with (at_builtin; go_loud (refine wpList_append_own _ rfl _ _ 34 rfl w3.heap.size 41 i0 (.agg #[.string ⟨#[]⟩, .int .i64 0]) 2 24 Tryd.underlying34 hi0 hz0 hz1 hz2 rfl (by decide) _ _ _ rfl ((HO.out.alloc _).alloc _) ⟨wr.heap.size + 1, 0, none⟩ 1 1 (fileK.cells (vp, vn)) rfl rfl HL.out.1 HL.out.2 (by unfold maxLen; omega) (by omega) (by simp; omega) ?_); intro v2 w6 ho6 hg6 _; obtain ⟨A6, c6, rfl⟩ := ownsRow_slice ho6; have HO6 := Lib.hid ho6; have hne6 : ∀ g, g < w3.heap.size → (Value.slice A5 n5 q5).ownBlock ≠ some g := fun g hg => own_ne HO.out hg; have HM6 := Lib.hid (((HM.out.alloc _).alloc _).grown hg6 (fun x hx => hne6 _ (by simp only [List.mem_cons, List.not_mem_nil, or_false] at hx; rcases hx with rfl | rfl | rfl | rfl | rfl; all_goals (dsimp only; omega)))); have HB6 := Lib.hid (((HB.out.alloc HB.out.size _).alloc (by simp; have := HB.out.size; omega) _).grown hg6 (by simp; have := HB.out.size; omega) (fun j e => by have := (HO.out.lt j e).1; omega)); have hs6 := hg6.size; simp at hs6; have hbb : b < w3.heap.size := hb3; have hI6 : w6.heap[b]? = wr.heap[b]? := (hg6.block b (by simp; omega) (fun e => hne6 b hb3 e.symm)).trans ((Below.heap_alloc _ _ _ (by simp; omega)).trans (Below.heap_alloc _ _ _ (by omega))); clear ho6 hg6 t0 t1 t2 lt; obtain ⟨t0, t1, t2⟩ := HM6.out.1.c3; have f2 := HM6.out.1.fz 2; have lt := HM6.out.1.lt)
            go_roundw
            case rel =>
              refine ⟨k + 1, A6, n5 + 1, c6, by go_num, by omega, HB6.out.setCell (by dsimp only; omega) _, by simp [World.setCell]; omega, ?_, ?_, Bs.cons (HM6.out.1.set 2 _) (Bs.far HM6.out.2 ?_ _), ?_⟩
              · intro h0
                obtain ⟨b', off', e', h1', h2'⟩ := HI.out h0
                injection e' with e'
                injection e' with e1 e2 e3
                subst e1 e2
                refine ⟨b, off, rfl, by simp [World.setCell]; omega, h2'.of_block ?_⟩
                rw [Below.heap_setCell _ _ _ _ (by exact hbv)]
                exact hI6
              · rw [HT.out]
                have := HN5.out
                simp [← this]
              · intro x hx
                simp only [List.mem_cons, List.not_mem_nil, or_false] at hx
                rcases hx with rfl | rfl | rfl | rfl
                all_goals (dsimp only; omega)
              · have h := ownsRow_set HO6.out (p := ⟨vb, 2, none⟩) (by dsimp only; omega) (.slice A6 (n5 + 1) c6)
                rw [RowK.flat_snoc] at h
                rw [HT.out]
                simpa using h
            case measure => simp [intOf]; omega
        · obtain rfl : k = l.length := by omega
          have HN6 : Hid (n5 = (missL l base).length) := by
            have := HN5.out
            rwa [List.take_length] at this
          have HO6 : Hid (wr.ownsRow w3.heap.size 41 2 (.slice A5 n5 q5) n5 (fileK.flat (missL l base))) := by
            have := HO.out
            rwa [List.take_length] at this
          clear HN5 HO hlt HNV HI
          obtain ⟨t0, t1, t2⟩ := HM.out.1.c3
          have f0 := HM.out.1.fz 0
          have f1 := HM.out.1.fz 1
          have lt := HM.out.1.lt
          obtain ⟨z0, z1, z2⟩ := HM.out.2.1.c3
          have f3 := HM.out.2.1.fz 0
          have f4 := HM.out.2.1.fz 1
          have f5 := HM.out.2.1.fz 2
          have lz := HM.out.2.1.lt
          obtain ⟨g0, g1, g2, g3, g4⟩ := HM.out.2.2.2.1.c5
          obtain ⟨q0, q1, q2, q3, q4⟩ := HM.out.2.2.2.2.1.c5
          have lg := HM.out.2.2.2.1.lt
          have lq := HM.out.2.2.2.2.1.lt
          have hne : vb ≠ w.heap.size + 1 + 1 + 1 := by omega
          cases holds
          · by_cases h0 : n5 = 0
            · have e0 : ((n5 : Int) == 0) = true := by rw [h0]; rfl
              have hK : Hid (retKH f client lf lh false n5 = (2, ⟨#[]⟩)) := by
                show _ = _
                simp [retKH, h0]
              clear h0
              go_wp2_with fail
              (have KZ := Lib.hid ((((HM.out.2.1.far (p := ⟨vb, 0, none⟩) (Ne.symm hne) (.int .i64 2)).set 0 (.int .i64 2)).set 1 (.string (⟨#[]⟩))).set 2 (.slice A5 n5 q5)); have HBZ := Lib.hid ((((HB.out.setCell (p := ⟨vb, 0, none⟩) (by dsimp only; omega) (.int .i64 2)).setCell (p := ⟨w.heap.size + 1 + 1 + 1, 0, none⟩) (by dsimp only; omega) (.int .i64 2)).setCell (p := ⟨w.heap.size + 1 + 1 + 1, 1, none⟩) (by dsimp only; omega) (.string (⟨#[]⟩))).setCell (p := ⟨w.heap.size + 1 + 1 + 1, 2, none⟩) (by dsimp only; omega) (.slice A5 n5 q5)); have HOZ := Lib.hid (ownsRow_set (ownsRow_set (ownsRow_set (ownsRow_set HO6.out (p := ⟨vb, 0, none⟩) (by dsimp only; omega) (.int .i64 2)) (p := ⟨w.heap.size + 1 + 1 + 1, 0, none⟩) (by dsimp only; omega) (.int .i64 2)) (p := ⟨w.heap.size + 1 + 1 + 1, 1, none⟩) (by dsimp only; omega) (.string (⟨#[]⟩))) (p := ⟨w.heap.size + 1 + 1 + 1, 2, none⟩) (by dsimp only; omega) (.slice A5 n5 q5)); clear t0 t1 t2 f0 f1 lt z0 z1 z2 f3 f4 f5 lz g0 g1 g2 g3 g4 q0 q1 q2 q3 q4 lg lq; generalize World.setCell (World.setCell (World.setCell (World.setCell wr _ _) _ _) _ _) _ _ = wz at *; obtain ⟨y0, y1, y2⟩ := KZ.out.c3; refine bodyPost_ret (v := .tuple #[.agg #[.int .i64 2, .string (⟨#[]⟩), .slice A5 n5 q5], .int .i64 0]) (by simp [results, Tryd.results8, go_sem, y0, y1, y2]) rfl ?_; refine .inr ⟨HGOOD.out, A5, q5, ?_, ?_, HBZ.out⟩; (dsimp only; rw [HLG.out, ← HN6.out, hK.out]); (dsimp only; rw [HLG.out]; exact RowK.In.of_row (show wz.ownsRow w3.heap.size 41 fileK.n _ _ _ from HOZ.out)))
            · have e0 : ((n5 : Int) == 0) = false := by rw [beq_eq_false_iff_ne]; omega
              have hK : Hid (retKH f client lf lh false n5 = (3, ⟨#[]⟩)) := by
                show _ = _
                simp [retKH, h0]
              clear h0
              go_wp2_with fail
              (have KZ := Lib.hid ((((HM.out.2.1.far (p := ⟨vb, 0, none⟩) (Ne.symm hne) (.int .i64 3)).set 0 (.int .i64 3)).set 1 (.string (⟨#[]⟩))).set 2 (.slice A5 n5 q5)); have HBZ := Lib.hid ((((HB.out.setCell (p := ⟨vb, 0, none⟩) (by dsimp only; omega) (.int .i64 3)).setCell (p := ⟨w.heap.size + 1 + 1 + 1, 0, none⟩) (by dsimp only; omega) (.int .i64 3)).setCell (p := ⟨w.heap.size + 1 + 1 + 1, 1, none⟩) (by dsimp only; omega) (.string (⟨#[]⟩))).setCell (p := ⟨w.heap.size + 1 + 1 + 1, 2, none⟩) (by dsimp only; omega) (.slice A5 n5 q5)); have HOZ := Lib.hid (ownsRow_set (ownsRow_set (ownsRow_set (ownsRow_set HO6.out (p := ⟨vb, 0, none⟩) (by dsimp only; omega) (.int .i64 3)) (p := ⟨w.heap.size + 1 + 1 + 1, 0, none⟩) (by dsimp only; omega) (.int .i64 3)) (p := ⟨w.heap.size + 1 + 1 + 1, 1, none⟩) (by dsimp only; omega) (.string (⟨#[]⟩))) (p := ⟨w.heap.size + 1 + 1 + 1, 2, none⟩) (by dsimp only; omega) (.slice A5 n5 q5)); clear t0 t1 t2 f0 f1 lt z0 z1 z2 f3 f4 f5 lz g0 g1 g2 g3 g4 q0 q1 q2 q3 q4 lg lq; generalize World.setCell (World.setCell (World.setCell (World.setCell wr _ _) _ _) _ _) _ _ = wz at *; obtain ⟨y0, y1, y2⟩ := KZ.out.c3; refine bodyPost_ret (v := .tuple #[.agg #[.int .i64 3, .string (⟨#[]⟩), .slice A5 n5 q5], .int .i64 0]) (by simp [results, Tryd.results8, go_sem, y0, y1, y2]) rfl ?_; refine .inr ⟨HGOOD.out, A5, q5, ?_, ?_, HBZ.out⟩; (dsimp only; rw [HLG.out, ← HN6.out, hK.out]); (dsimp only; rw [HLG.out]; exact RowK.In.of_row (show wz.ownsRow w3.heap.size 41 fileK.n _ _ _ from HOZ.out)))
          · cases e1 : (lf == f)
            · have hK : Hid (retKH f client lf lh true n5 = (3, lh)) := by
                show _ = _
                simp [retKH, e1]
              go_wp2_with fail
              (have KZ := Lib.hid (((((HM.out.2.1.far (p := ⟨vb, 0, none⟩) (Ne.symm hne) (.int .i64 3)).far (p := ⟨vb, 1, none⟩) (Ne.symm hne) (.string (lh))).set 0 (.int .i64 3)).set 1 (.string (lh))).set 2 (.slice A5 n5 q5)); have HBZ := Lib.hid (((((HB.out.setCell (p := ⟨vb, 0, none⟩) (by dsimp only; omega) (.int .i64 3)).setCell (p := ⟨vb, 1, none⟩) (by dsimp only; omega) (.string (lh))).setCell (p := ⟨w.heap.size + 1 + 1 + 1, 0, none⟩) (by dsimp only; omega) (.int .i64 3)).setCell (p := ⟨w.heap.size + 1 + 1 + 1, 1, none⟩) (by dsimp only; omega) (.string (lh))).setCell (p := ⟨w.heap.size + 1 + 1 + 1, 2, none⟩) (by dsimp only; omega) (.slice A5 n5 q5)); have HOZ := Lib.hid (ownsRow_set (ownsRow_set (ownsRow_set (ownsRow_set (ownsRow_set HO6.out (p := ⟨vb, 0, none⟩) (by dsimp only; omega) (.int .i64 3)) (p := ⟨vb, 1, none⟩) (by dsimp only; omega) (.string (lh))) (p := ⟨w.heap.size + 1 + 1 + 1, 0, none⟩) (by dsimp only; omega) (.int .i64 3)) (p := ⟨w.heap.size + 1 + 1 + 1, 1, none⟩) (by dsimp only; omega) (.string (lh))) (p := ⟨w.heap.size + 1 + 1 + 1, 2, none⟩) (by dsimp only; omega) (.slice A5 n5 q5)); clear t0 t1 t2 f0 f1 lt z0 z1 z2 f3 f4 f5 lz g0 g1 g2 g3 g4 q0 q1 q2 q3 q4 lg lq; generalize World.setCell (World.setCell (World.setCell (World.setCell (World.setCell wr _ _) _ _) _ _) _ _) _ _ = wz at *; obtain ⟨y0, y1, y2⟩ := KZ.out.c3; refine bodyPost_ret (v := .tuple #[.agg #[.int .i64 3, .string (lh), .slice A5 n5 q5], .int .i64 0]) (by simp [results, Tryd.results8, go_sem, y0, y1, y2]) rfl ?_; refine .inr ⟨HGOOD.out, A5, q5, ?_, ?_, HBZ.out⟩; (dsimp only; rw [HLG.out, ← HN6.out, hK.out]); (dsimp only; rw [HLG.out]; exact RowK.In.of_row (show wz.ownsRow w3.heap.size 41 fileK.n _ _ _ from HOZ.out)))
            · cases e2 : ((lh : ByteArray).toList == client.toList)
              · have hK : Hid (retKH f client lf lh true n5 = (3, lh)) := by
                  show _ = _
                  unfold retKH
                  simp only [e1, e2]
                  rfl
                go_wp2_with fail
                (have KZ := Lib.hid (((((HM.out.2.1.far (p := ⟨vb, 0, none⟩) (Ne.symm hne) (.int .i64 3)).far (p := ⟨vb, 1, none⟩) (Ne.symm hne) (.string (lh))).set 0 (.int .i64 3)).set 1 (.string (lh))).set 2 (.slice A5 n5 q5)); have HBZ := Lib.hid (((((HB.out.setCell (p := ⟨vb, 0, none⟩) (by dsimp only; omega) (.int .i64 3)).setCell (p := ⟨vb, 1, none⟩) (by dsimp only; omega) (.string (lh))).setCell (p := ⟨w.heap.size + 1 + 1 + 1, 0, none⟩) (by dsimp only; omega) (.int .i64 3)).setCell (p := ⟨w.heap.size + 1 + 1 + 1, 1, none⟩) (by dsimp only; omega) (.string (lh))).setCell (p := ⟨w.heap.size + 1 + 1 + 1, 2, none⟩) (by dsimp only; omega) (.slice A5 n5 q5)); have HOZ := Lib.hid (ownsRow_set (ownsRow_set (ownsRow_set (ownsRow_set (ownsRow_set HO6.out (p := ⟨vb, 0, none⟩) (by dsimp only; omega) (.int .i64 3)) (p := ⟨vb, 1, none⟩) (by dsimp only; omega) (.string (lh))) (p := ⟨w.heap.size + 1 + 1 + 1, 0, none⟩) (by dsimp only; omega) (.int .i64 3)) (p := ⟨w.heap.size + 1 + 1 + 1, 1, none⟩) (by dsimp only; omega) (.string (lh))) (p := ⟨w.heap.size + 1 + 1 + 1, 2, none⟩) (by dsimp only; omega) (.slice A5 n5 q5)); clear t0 t1 t2 f0 f1 lt z0 z1 z2 f3 f4 f5 lz g0 g1 g2 g3 g4 q0 q1 q2 q3 q4 lg lq; generalize World.setCell (World.setCell (World.setCell (World.setCell (World.setCell wr _ _) _ _) _ _) _ _) _ _ = wz at *; obtain ⟨y0, y1, y2⟩ := KZ.out.c3; refine bodyPost_ret (v := .tuple #[.agg #[.int .i64 3, .string (lh), .slice A5 n5 q5], .int .i64 0]) (by simp [results, Tryd.results8, go_sem, y0, y1, y2]) rfl ?_; refine .inr ⟨HGOOD.out, A5, q5, ?_, ?_, HBZ.out⟩; (dsimp only; rw [HLG.out, ← HN6.out, hK.out]); (dsimp only; rw [HLG.out]; exact RowK.In.of_row (show wz.ownsRow w3.heap.size 41 fileK.n _ _ _ from HOZ.out)))
              · have hK : Hid (retKH f client lf lh true n5 = (1, client)) := by
                  show _ = _
                  unfold retKH
                  simp only [e1, e2]
                  rfl
                go_wp2_with fail
                (have KZ := Lib.hid (((((HM.out.2.1.far (p := ⟨vb, 0, none⟩) (Ne.symm hne) (.int .i64 1)).far (p := ⟨vb, 1, none⟩) (Ne.symm hne) (.string (client))).set 0 (.int .i64 1)).set 1 (.string (client))).set 2 (.slice A5 n5 q5)); have HBZ := Lib.hid (((((HB.out.setCell (p := ⟨vb, 0, none⟩) (by dsimp only; omega) (.int .i64 1)).setCell (p := ⟨vb, 1, none⟩) (by dsimp only; omega) (.string (client))).setCell (p := ⟨w.heap.size + 1 + 1 + 1, 0, none⟩) (by dsimp only; omega) (.int .i64 1)).setCell (p := ⟨w.heap.size + 1 + 1 + 1, 1, none⟩) (by dsimp only; omega) (.string (client))).setCell (p := ⟨w.heap.size + 1 + 1 + 1, 2, none⟩) (by dsimp only; omega) (.slice A5 n5 q5)); have HOZ := Lib.hid (ownsRow_set (ownsRow_set (ownsRow_set (ownsRow_set (ownsRow_set HO6.out (p := ⟨vb, 0, none⟩) (by dsimp only; omega) (.int .i64 1)) (p := ⟨vb, 1, none⟩) (by dsimp only; omega) (.string (client))) (p := ⟨w.heap.size + 1 + 1 + 1, 0, none⟩) (by dsimp only; omega) (.int .i64 1)) (p := ⟨w.heap.size + 1 + 1 + 1, 1, none⟩) (by dsimp only; omega) (.string (client))) (p := ⟨w.heap.size + 1 + 1 + 1, 2, none⟩) (by dsimp only; omega) (.slice A5 n5 q5)); clear t0 t1 t2 f0 f1 lt z0 z1 z2 f3 f4 f5 lz g0 g1 g2 g3 g4 q0 q1 q2 q3 q4 lg lq; generalize World.setCell (World.setCell (World.setCell (World.setCell (World.setCell wr _ _) _ _) _ _) _ _) _ _ = wz at *; obtain ⟨y0, y1, y2⟩ := KZ.out.c3; refine bodyPost_ret (v := .tuple #[.agg #[.int .i64 1, .string (client), .slice A5 n5 q5], .int .i64 0]) (by simp [results, Tryd.results8, go_sem, y0, y1, y2]) rfl ?_; refine .inr ⟨HGOOD.out, A5, q5, ?_, ?_, HBZ.out⟩; (dsimp only; rw [HLG.out, ← HN6.out, hK.out]); (dsimp only; rw [HLG.out]; exact RowK.In.of_row (show wz.ownsRow w3.heap.size 41 fileK.n _ _ _ from HOZ.out)))
end Go.Proofs.YtcfmkmhibghaoaaDoor
