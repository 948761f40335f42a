/-
  The walk of the reference's without (printed by mkrwout.py).
-/
import Derived.Test.YtocffknoeknabaaGreatDoorClG
import Derived.Lib.AppendZeros
namespace Go.Proofs.YtocffknoeknabaaGreatDoor
open Go.RowKit

section
variable {P : Program} {w : World}
theorem run_append_splice (t e : TypeId) (i : TypeInfo) (size : Nat) (ht : P.underlying t = some (.slice e)) (hi : P.info? e = some i) (hsize : i.size = size)
    (g n cap : Nat) (cur : List Value) (hg : w.heap[g]? = some (.cells cur.toArray e (0, 0))) (ad : Addr) (m c : Nat) (news : List Value) (hl : news.length = m * size) (hnews : ∀ j u, news[j]? = some u → w.cell? (ad.add j) = some u) (h1 : ∀ u ∈ news, u.oneCell' = true)
    (hroom : n + m ≤ cap) (hfit : n * size + news.length ≤ cur.length) (B : Nat) (w0 : World) (hb : Below B w0 w) (hBg : B ≤ g) :
    ∃ w', (∀ ty, (Builtin.append_ #[t, t] ty #[.slice (some ⟨g, 0, none⟩) n cap, .slice (some ad) m c]).run P w = .ok (.slice (some ⟨g, 0, none⟩) (n + m) cap) w') ∧ Hid (w'.heap[g]? = some (.cells (splice cur (n * size) news).toArray e (0, 0))) ∧ Hid (∀ k, k ≠ g → w'.heap[k]? = w.heap[k]?) ∧ Below B w0 w' := by
  subst hsize
  refine ⟨_, fun ty => run_append_room (P := P) w t ty e i ht hi g n cap cur.toArray hg ad m c news hl hnews h1 hroom (by simpa using hfit), ?_, fun k hk => setRow_other w g k _ hk, below_setRow hb hBg _⟩
  show _ = _
  rw [setRow_heap w g _ _ e _ hg]
  simp [splice]
end
set_option maxRecDepth 100000 in
set_option maxHeartbeats 6400000 in
theorem rwout_any (p : Pnd) (k : Nat) (E R : Option Addr) (ec rc : Nat) (w : World) (hE : edtK.In E p.edits w) (hk : k < p.edits.length) (hn : p.edits.length ≤ 1000) :
    Calls Tryz.prog 122 #[pndV p E ec R rc, .int .i64 (k : Int)] w (PndRet { p with edits := p.edits.take k ++ p.edits.drop (k + 1) } w) := by
  obtain ⟨i0, hi0, hz0, hz1, hz2⟩ := info_parts Tryz.infoEdit
  have HCO := Lib.hid (fun w h => rcopy_any p E R ec rc w h (by omega))
  obtain ⟨pn, pc, pt, ps, V⟩ := p
  dsimp only at hE hn hk HCO ⊢
  obtain ⟨L, hL⟩ : ∃ L, L = V.take k ++ V.drop (k + 1) := ⟨_, rfl⟩
  rw [← hL]
  have hLl : V.length - 1 = L.length := by rw [hL, List.length_append, List.length_take, List.length_drop]; omega
  have HE := Lib.hid hE
  clear hE
  unfold pndV pndC at *
  dsimp only at *
  go_enter Tryz.func122, Tryz.ntmps122
  go_upto_region 1 with fail
  generalize hw1 : World.alloc _ (.cells #[.int .i64 0, .string ⟨#[]⟩, .string ⟨#[]⟩, .bool false, .slice none 0 0, .slice none 0 0] 41) = w1
  have HM1 : Hid (Bs [(w.heap.size + 1, 41, [.int .i64 0, .string ⟨#[]⟩, .string ⟨#[]⟩, .bool false, .slice none 0 0, .slice none 0 0]), (w.heap.size, 41, [.int .i64 pn, .string pc, .string pt, .bool ps, .slice E V.length ec, .slice R 0 rc])] w1) := by
    show Bs _ _
    rw [← hw1]
    exact ⟨Blk.new1 _ _ _ _, (Blk.new _ _ _).alloc _, trivial⟩
  have HB1 : Hid (Below w.heap.size w w1) := by
    show Below _ _ _
    rw [← hw1]
    (repeat (first | (with_reducible exact Below.refl _ _) | (with_reducible assumption) | (with_reducible refine Below.setCell ?_ ?_ _; rotate_left; focus (first | exact Nat.le_refl _ | (dsimp only; omega))) | (with_reducible refine Below.drew ?_) | (with_reducible refine below_drewN ?_ _) | (with_reducible refine Below.alloc ?_ ?_ _; rotate_left; focus (first | exact Nat.le_refl _ | (simp; done) | (simp; omega)))))
  clear hw1
  obtain ⟨p0, p1, p2, p3, p4, p5⟩ := HM1.out.2.1.c6
  go_wp2_with fail
  refine (HCO.out _ (HE.out.below HB1.out)).mono ?_
  rintro e w2 ⟨A2, c2, R2, r2, rfl, ho2, hb2⟩
  unfold pndV pndC
  dsimp only at ho2 ⊢
  have HM2 := Lib.hid (HM1.out.below hb2)
  have HB2 := Lib.hid (HB1.out.trans (hb2.mono HB1.out.size))
  have HO2 := Lib.hid ho2
  have lt1 := HM1.out.1.lt
  have lt2 := HM2.out.1.lt
  clear hb2 ho2 HM1 HB1 HCO p0 p1 p2 p3 p4 p5
  obtain ⟨p0, p1, p2, p3, p4, p5⟩ := HM2.out.2.1.c6
  have g0 := HM2.out.2.1.fz 0
  have g1 := HM2.out.2.1.fz 1
  have g2 := HM2.out.2.1.fz 2
  have g3 := HM2.out.2.1.fz 3
  have g4 := HM2.out.2.1.fz 4
  have g5 := HM2.out.2.1.fz 5
  have HMP := Lib.hid (show Bs [(w.heap.size + 1, 41, [.int .i64 0, .string ⟨#[]⟩, .string ⟨#[]⟩, .bool false, .slice none 0 0, .slice none 0 0]), (w.heap.size, 41, [.int .i64 pn, .string pc, .string pt, .bool ps, .slice A2 V.length c2, .slice R2 0 r2])] _ from ⟨(((((HM2.out.1.far (p := ⟨w.heap.size, 0, none⟩) (by dsimp only; omega) (.int .i64 pn)).far (p := ⟨w.heap.size, 1, none⟩) (by dsimp only; omega) (.string pc)).far (p := ⟨w.heap.size, 2, none⟩) (by dsimp only; omega) (.string pt)).far (p := ⟨w.heap.size, 3, none⟩) (by dsimp only; omega) (.bool ps)).far (p := ⟨w.heap.size, 4, none⟩) (by dsimp only; omega) (.slice A2 V.length c2)).far (p := ⟨w.heap.size, 5, none⟩) (by dsimp only; omega) (.slice R2 0 r2), zero_put HM2.out.2.1 (.int .i64 pn) (.string pc) (.string pt) (.bool ps) (.slice A2 V.length c2) (.slice R2 0 r2), trivial⟩)
  have HBP := Lib.hid (below_put6 HB2.out (b := w.heap.size) (Nat.le_refl _) (.int .i64 pn) (.string pc) (.string pt) (.bool ps) (.slice A2 V.length c2) (.slice R2 0 r2))
  have HOP := Lib.hid (own_put6 HO2.out (b := w.heap.size) (by intro e; have := HO2.out.lt _ e; omega) (.int .i64 pn) (.string pc) (.string pt) (.bool ps) (.slice A2 V.length c2) (.slice R2 0 r2))
  go_upto_region 2 with fail
  (generalize World.setCell (World.setCell (World.setCell (World.setCell (World.setCell (World.setCell _ _ _) _ _) _ _) _ _) _ _) _ _ = w3 at *)
  clear HM2 HB2 HO2 p0 p1 p2 p3 p4 p5 g0 g1 g2 g3 g4 g5
  obtain ⟨g, hgA, hgb, hgl⟩ : ∃ g, A2 = some ⟨g, 0, none⟩ ∧ w1.heap.size ≤ g ∧ g < w3.heap.size := by
    rcases ownsRow_cases HOP.out with ⟨_, h2⟩ | ⟨g, cap, h1, h2, h3, _⟩
    · omega
    · injection h1 with h1
      exact ⟨g, h1, h2, h3⟩
  subst hgA
  obtain ⟨cur, hg, _, _, hnc, hcm, hcl, hct⟩ := own_parts HOP.out
  obtain ⟨n, hn0⟩ : ∃ n, n = V.length := ⟨_, rfl⟩
  obtain ⟨news, hnw⟩ : ∃ news, news = edtK.flat (V.drop (k + 1)) := ⟨_, rfl⟩
  have hnl : news.length = (V.length - (k + 1)) * 12 := by rw [hnw, edtK.flat_len, List.length_drop]; rfl
  have h1 : ∀ u ∈ news, u.oneCell' = true := by rw [hnw]; exact edtK.flat_ones _
  have hcur : ∀ j, j < V.length * 12 → cur[j]? = (edtK.flat V)[j]? := fun j hj => by
    rw [← hct, List.getElem?_take, if_pos hj]
  obtain ⟨A, hA, hsrc⟩ : ∃ A : Addr, (if c2 = k + 1 then some (⟨g, 0, none⟩ : Addr) else some ⟨g, (k + 1) * 12, none⟩) = some A ∧ Hid (∀ t u, news[t]? = some u → w3.drew.cell? (A.add t) = some u) := by
    by_cases h : c2 = k + 1
    · refine ⟨⟨g, 0, none⟩, by simp [h], fun t u hu => ?_⟩
      have h0 : news.length = 0 := by rw [hnl]; omega
      rw [List.length_eq_zero_iff.1 h0] at hu
      simp at hu
    · refine ⟨⟨g, (k + 1) * 12, none⟩, by simp [h], fun t u hu => ?_⟩
      have ht : t < (V.length - (k + 1)) * 12 := by
        have := (List.getElem?_eq_some_iff.1 hu).1
        rwa [hnl] at this
      rw [add_lit]
      show w3.cell? _ = _
      rw [cell_at hg, List.getElem?_toArray, hcur _ (by omega)]
      have := congrArg (fun z => z[t]?) (edtK.flat_drop V (k + 1))
      rw [List.getElem?_drop, ← hnw, hu] at this
      exact this
  have htk : cur.take (k * 12) = edtK.flat (V.take k) := by
    have := edtK.flat_take V k
    rw [← this, ← hct, List.take_take, show edtK.n = 12 from rfl, Nat.min_eq_left (by omega)]
  obtain ⟨w4, hr4, hg4, hk4, hb4⟩ := run_append_splice (P := Tryz.prog) (w := w3.drew) 39 44 i0 12 Tryz.underlying39 hi0 hz1 g k c2 cur hg A (V.length - (k + 1)) (c2 - (k + 1)) news hnl hsrc.out h1 (by omega) (by rw [hnl, hcl]; omega) w.heap.size w HBP.out.drew (by omega)
  have e7 : k + (V.length - (k + 1)) = L.length := by omega
  rw [e7] at hr4
  have hfl : edtK.flat L = cur.take (k * 12) ++ news := by rw [hL, edtK.flat_append, ← htk, hnw]
  have hfin : edtK.In (some ⟨g, 0, none⟩) L w4 := RowK.In.of_row (base := 0) (m := L.length) (cap := c2) (e := 44) (own_of hg4.out (Nat.zero_le _) (by omega) hcm (by rw [length_splice _ _ _ (by rw [hnl, hcl]; omega)]; exact hcl) (by
    rw [hfl, show edtK.n = 12 from rfl]
    unfold splice
    rw [← List.append_assoc, List.take_append_of_le_length (by rw [List.length_append, List.length_take, hnl, hcl]; omega), List.take_of_length_le (by rw [List.length_append, List.length_take, hnl, hcl]; omega)]))
  have HFIN := Lib.hid hfin
  have HM4 : Hid (Bs [(w.heap.size + 1, 41, [.int .i64 0, .string ⟨#[]⟩, .string ⟨#[]⟩, .bool false, .slice none 0 0, .slice none 0 0]), (w.heap.size, 41, [.int .i64 pn, .string pc, .string pt, .bool ps, .slice (some ⟨g, 0, none⟩) V.length c2, .slice R2 0 r2])] w4) := (HMP.out.drew).of (fun x hx => hk4.out _ (by
    simp only [List.mem_cons, List.not_mem_nil, or_false] at hx
    rcases hx with rfl | rfl <;> dsimp only <;> omega))
  have HB4 := Lib.hid hb4
  have HR4 := Lib.hid hr4
  have hS : (fun x : World => x.cell? ⟨w.heap.size, 4, none⟩ = some (.slice (some ⟨g, 0, none⟩) V.length c2)) w3.drew := HMP.out.2.1.cell 4
  have hS4 : (fun x : World => x.cell? ⟨w.heap.size, 4, none⟩ = some (.slice (some ⟨g, 0, none⟩) V.length c2)) w4 := HM4.out.2.1.cell 4
  have e1 : ((k : Int) + 1).toNat = k + 1 := by omega
  have e2 : (0 : Int) ≤ (k : Int) + 1 := by omega
  have e3 : (k : Int) + 1 ≤ (V.length : Int) := by omega
  have e5 : k ≤ c2 := by omega
  have e6 : k + 1 ≤ c2 := by omega
  have e8 : k ≤ V.length := by omega
  have hcap : c2 ≤ 9223372036854775807 := by unfold maxLen at hcm; omega
  clear hg hnl hnw h1 htk hcl hct hcur hn0 hcm hr4 hg4 hk4 hb4 hfin hnc hsrc
  (refine wp_region_mixz (S := (fun x : World => x.cell? ⟨w.heap.size, 4, none⟩ = some (.slice (some ⟨g, 0, none⟩) V.length c2))) [10] 11 [([0, 1, 2, 3, 4, 5, 6, 7, 8], 9)] (by kernel_rfl) (by kernel_rfl) (by intro c a d v w h; cases d <;> exact h) hS ?_; have hN : Nonempty (Held ((fun x : World => x.cell? ⟨w.heap.size, 4, none⟩ = some (.slice (some ⟨g, 0, none⟩) V.length c2)))) := ⟨⟨_, hS⟩⟩)
  have r4 := fun y : Held (fun x : World => x.cell? ⟨w.heap.size, 4, none⟩ = some (.slice (some ⟨g, 0, none⟩) V.length c2)) => y.ok
  (unfold wpMixZ wpRd; (repeat (first | simp only [List.filterMap_cons] | simp only [List.filterMap_nil] | simp only [List.getElem?_toArray] | simp only [List.getElem?_cons_zero] | simp only [List.getElem?_cons_succ])); (try dsimp only); change wpQuiet _ _ _ _ (_ :: _ :: _ :: _ :: _ :: _ :: _ :: _ :: _ :: []) _; (repeat (go_big_quiet_step (fail))); refine wpQuiet_nil ?_; (try dsimp only))
  clear r4
  go_wp2_with (at_builtin; go_loud (refine Lib.wpList_append_run _ rfl _ _ _ _ rfl _ _ rfl rfl _ _ (HR4.out _) ?_))
  refine ⟨hS4, ?_⟩
  simp only [Act.put, List.setIfInBounds_toArray, List.set_cons_succ, List.set_cons_zero]
  clear hfl hL hLl e7 hA e1 e2 e3 e5 e6 e8
  (unfold wpMixZ wpRd; (repeat (first | simp only [List.filterMap_cons] | simp only [List.filterMap_nil] | simp only [List.getElem?_toArray] | simp only [List.getElem?_cons_zero] | simp only [List.getElem?_cons_succ])); (try dsimp only); change wpQuiet _ _ _ _ (_ :: []) _; (repeat (go_big_quiet_step (fail))); refine wpQuiet_nil ?_; (try dsimp only))
  (try simp only [Act.put, List.setIfInBounds_toArray, List.set_cons_succ, List.set_cons_zero])
  obtain ⟨p0, p1, p2, p3, p4, p5⟩ := HM4.out.2.1.c6
  have g4 := HM4.out.2.1.fz 4
  obtain ⟨z0, z1, z2, z3, z4, z5⟩ := (HM4.out.1.far (p := ⟨w.heap.size, 4, none⟩) (by dsimp only; omega) (.slice (some ⟨g, 0, none⟩) L.length c2)).c6
  have f0 := (HM4.out.1.far (p := ⟨w.heap.size, 4, none⟩) (by dsimp only; omega) (.slice (some ⟨g, 0, none⟩) L.length c2)).fz 0
  have f1 := (HM4.out.1.far (p := ⟨w.heap.size, 4, none⟩) (by dsimp only; omega) (.slice (some ⟨g, 0, none⟩) L.length c2)).fz 1
  have f2 := (HM4.out.1.far (p := ⟨w.heap.size, 4, none⟩) (by dsimp only; omega) (.slice (some ⟨g, 0, none⟩) L.length c2)).fz 2
  have f3 := (HM4.out.1.far (p := ⟨w.heap.size, 4, none⟩) (by dsimp only; omega) (.slice (some ⟨g, 0, none⟩) L.length c2)).fz 3
  have f4 := (HM4.out.1.far (p := ⟨w.heap.size, 4, none⟩) (by dsimp only; omega) (.slice (some ⟨g, 0, none⟩) L.length c2)).fz 4
  have f5 := (HM4.out.1.far (p := ⟨w.heap.size, 4, none⟩) (by dsimp only; omega) (.slice (some ⟨g, 0, none⟩) L.length c2)).fz 5
  have KZ := Lib.hid (zero_put (HM4.out.1.far (p := ⟨w.heap.size, 4, none⟩) (by dsimp only; omega) (.slice (some ⟨g, 0, none⟩) L.length c2)) (.int .i64 pn) (.string pc) (.string pt) (.bool ps) (.slice (some ⟨g, 0, none⟩) L.length c2) (.slice R2 0 r2))
  have HBZ := Lib.hid (below_put6 (HB4.out.setCell (p := ⟨w.heap.size, 4, none⟩) (Nat.le_refl _) (.slice (some ⟨g, 0, none⟩) L.length c2)) (b := w.heap.size + 1) (by omega) (.int .i64 pn) (.string pc) (.string pt) (.bool ps) (.slice (some ⟨g, 0, none⟩) L.length c2) (.slice R2 0 r2))
  have hgf : ∀ b : Nat, b < w1.heap.size → ∀ b' off, (some ⟨g, 0, none⟩ : Option Addr) = some ⟨b', off, none⟩ → b' ≠ b := fun b hb b' off e => by injection e with e; injection e with e; omega
  have HIZ := Lib.hid (in_putF (HFIN.out.setC (p := ⟨w.heap.size, 4, none⟩) (hgf _ (by dsimp only; omega)) (.slice (some ⟨g, 0, none⟩) L.length c2)) (b := w.heap.size + 1) (hgf _ (by omega)) (.int .i64 pn) (.string pc) (.string pt) (.bool ps) (.slice (some ⟨g, 0, none⟩) L.length c2) (.slice R2 0 r2))
  go_wp2_with fail
  generalize World.setCell (World.setCell (World.setCell (World.setCell (World.setCell (World.setCell (World.setCell _ _ _) _ _) _ _) _ _) _ _) _ _) _ _ = wz at *
  obtain ⟨y0, y1, y2, y3, y4, y5⟩ := KZ.out.c6
  refine bodyPost_ret (v := .agg #[.int .i64 pn, .string pc, .string pt, .bool ps, .slice (some ⟨g, 0, none⟩) L.length c2, .slice R2 0 r2]) (by simp [results, Tryz.results122, go_sem, y0, y1, y2, y3, y4, y5]) rfl ?_
  exact ⟨some ⟨g, 0, none⟩, c2, R2, r2, rfl, HIZ.out, (fun b off e => by injection e with e; injection e with e; omega), HBZ.out⟩
end Go.Proofs.YtocffknoeknabaaGreatDoor
