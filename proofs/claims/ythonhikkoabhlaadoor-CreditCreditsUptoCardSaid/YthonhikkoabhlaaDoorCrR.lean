/-
  The walks of the reference's before and List (printed by mkref14.py).
-/
import Derived.Test.YthonhikkoabhlaaDoorCrY
import Derived.Test.YthonhikkoabhlaaDoorDpS
namespace Go.Proofs.YthonhikkoabhlaaDoor
open Go.RowKit
open Go.Sort (HoldsK swp)

theorem okV_path {f : Fil} (h : okV f = true) : validB f.1.data.toList = true ∧ f.1.size ≤ 200 := by
  exact ⟨(okV_iff h).2, (okV_iff h).1⟩
set_option maxRecDepth 100000 in
set_option maxHeartbeats 3200000 in
theorem rbefF_any (a b : FiA) (w : World) (hg : G0 w) : Calls Tryd.prog 29 #[fileV a.1, fileV b.1] w fun e w' => e = .returned (.bool (ltOf cfF a b)) ∧ Below w.heap.size w w' := by
  have ha := okV_path a.2
  have hb := okV_path b.2
  have HO := Lib.hid (fun w hg => rorder_any a.1.1 b.1.1 w (by omega) (by omega) hg)
  have hT : ltOf cfF a b = (decide (ordH a.1.1 b.1.1 < 0) || (decide (ordH a.1.1 b.1.1 = 0) && decide (a.1.2 < b.1.2))) := by
    rw [ltF]
    unfold cmpF
    rw [ordH_valid ha.1 hb.1]
    by_cases h0 : pcmp a.1.1.data.toList b.1.1.data.toList = 0
    · rw [if_pos h0, h0]
      simp only [cmpV_neg]
      simp
    · rw [if_neg h0]
      simp [h0]
  rw [hT]
  have HG := Lib.hid hg
  clear hT ha hb hg
  generalize ordH a.1.1 b.1.1 = o at *
  obtain ⟨⟨ap, an⟩, ha1⟩ := a
  obtain ⟨⟨bp, bn⟩, hb1⟩ := b
  unfold fileV
  dsimp only at HO ⊢
  go_enter Tryd.func29, Tryd.ntmps29
  go_wp2_with fail
  refine (HO.out _ (HG.out.below (by (repeat (first | (with_reducible exact Below.refl _ _) | (with_reducible assumption) | (with_reducible refine Below.setCell ?_ ?_ _; rotate_left; focus (first | exact Nat.le_refl _ | (dsimp only; omega))) | (with_reducible refine Below.drew ?_) | (with_reducible refine below_drewN ?_ _) | (with_reducible refine Below.alloc ?_ ?_ _; rotate_left; focus (first | exact Nat.le_refl _ | (simp; done) | (simp; omega)))))))).mono ?_
  rintro e w1 ⟨rfl, hB1⟩
  have hz1 := hB1.size
  simp at hz1
  have K0 := (((Blk.new w 55 [.string ap, .int .i64 an]).alloc _).below hB1)
  have K1 := ((Blk.new1 w _ 55 [.string bp, .int .i64 bn]).below hB1)
  obtain ⟨p0, p1⟩ := K0.c2
  obtain ⟨q0, q1⟩ := K1.c2
  have hB2 : Below w.heap.size w w1 := by
    have HB1 := hB1
    (repeat (first | (with_reducible exact Below.refl _ _) | (with_reducible assumption) | (with_reducible refine Below.setCell ?_ ?_ _; rotate_left; focus (first | exact Nat.le_refl _ | (dsimp only; omega) | (simp; omega))) | (with_reducible refine Below.drew ?_) | (with_reducible refine below_drewN ?_ _) | (with_reducible refine Below.alloc ?_ ?_ _; rotate_left; focus (first | exact Nat.le_refl _ | omega | (simp; done) | (simp; omega))) | (with_reducible refine Below.trans ?_ (HB1.mono ?_); rotate_left; focus (first | exact Nat.le_refl _ | omega | (simp; done) | (simp; omega)))))
  have HB2 := Lib.hid hB2
  clear K0 K1 hB1 hB2
  by_cases h1 : o < 0
  · go_wp2_with fail
    go_ret
    exact ⟨by simp [h1], HB2.out⟩
  · by_cases h2 : o = 0
    · subst h2
      by_cases h3 : an < bn
      · go_wp2_with fail
        go_ret
        exact ⟨by simp, HB2.out⟩
      · go_wp2_with fail
        go_ret
        exact ⟨by simp, HB2.out⟩
    · have h2' : (o == 0) = false := by simpa using h2
      go_wp2_with fail
      go_ret
      exact ⟨by simp [h2], HB2.out⟩

set_option maxRecDepth 100000 in
set_option maxHeartbeats 6400000 in
theorem rlist_any (b : Nat) (S : Fil → Prop) (w : World) (hb : SetIs b S w) (hok : ∀ f, S f → okV f = true) (hfew : ∀ L : List Fil, L.Nodup → (∀ f ∈ L, S f) → L.length ≤ 512) (hg : G0 w) :
    Calls Tryd.prog 17 #[.map (some b)] w (ListRet S w) := by
  obtain ⟨L, hL, hLS⟩ := hb
  obtain ⟨i0, hi0, hz0, hz1, hz2⟩ := info_parts Tryd.infoFile
  obtain ⟨es, clock, hes, hme⟩ := hL.open_
  have hcl := hL.lt
  have hnd : L.Nodup := by
    have := hL.nodup
    rw [List.map_map] at this
    simpa [Function.comp_def] using this
  have hln : L.length ≤ 512 := hfew L hnd fun f hf => (hLS f).1 hf
  have hess : es.size = L.length := by rw [hme.size]; simp
  have HESS := Lib.hid hess
  have hrg := run_range_map (P := Tryd.prog) w 34 55 4 b es clock Tryd.underlying34 hes
  have hb2 : (w.alloc (.mapIter (some b) clock #[] clock)).heap[b]? = some (.map es clock) := (Below.heap_alloc w _ b hcl).trans hes
  have hr2 : (w.alloc (.mapIter (some b) clock #[] clock)).heap[w.heap.size]? = some (.mapIter (some b) clock #[] clock) := heap_alloc_new w _
  have HRNG := Lib.hid (KR.start (T := filT) hr2 hb2)
  have HB := Lib.hid ((Below.refl w.heap.size w).alloc (Nat.le_refl _) (.mapIter (some b) clock #[] clock))
  have HME := Lib.hid hme
  have HLS := Lib.hid hLS
  have HND := Lib.hid hnd
  have HOK := Lib.hid hok
  have HG := Lib.hid hg
  have hsz2 : w.heap.size < (w.alloc (.mapIter (some b) clock #[] clock)).heap.size := by simp
  clear hL hes hme hb2 hr2 hLS hnd hok hfew hess hg
  go_enter Tryd.func17, Tryd.ntmps17
  go_wp2_with fail
  clear hrg
  generalize w.alloc (.mapIter (some b) clock #[] clock) = w2 at *
  have hmr : b ≠ w.heap.size := by omega
  go_loopw [3, 4] (fun sv _ wr => ∃ (V : List Fil) (x0 : Value), sv = x0 ∧ KR filT b w.heap.size clock es (V.map fun f => (f, Value.bool true)) wr ∧ wr.ownsRow (w.heap.size + 1) 55 2 x0 V.length (filK.flat V) ∧ Below w.heap.size w wr ∧ w.heap.size < wr.heap.size ∧ Hid (V = [] → x0 = .slice none 0 0)) (fun _ _ wr => (leftOf es (rgSeen w.heap.size wr)).size)
  case atStart => exact ⟨[], _, rfl, HRNG.out, World.ownsRow_nil _ _ _ _, HB.out, hsz2, (fun _ => rfl : _ → _)⟩
  case round =>
    obtain ⟨V, x0, rfl, hrng, hown, hbel, hszr, hnil⟩ := hrel
    have HM : Hid ((leftOf es (rgSeen w.heap.size wr)).size = es.size - V.length) := by
      have := hrng.left
      show _ = _
      simpa using this
    have HOW := Lib.hid hown
    have HBW := Lib.hid hbel
    rcases hrng.step HME.out 0 hmr with ⟨hperm, hnx⟩ | ⟨x, W, hx, hlt, hnx, hen, hr', ⟨w3, hw3, hg3⟩, hsz⟩
    · have hp := map_perm_inj (fun _ _ e => congrArg Prod.fst e) hperm
      have HV : Hid ((∀ f ∈ V, okV f = true) ∧ V.Nodup ∧ V.length ≤ 512 ∧ ∀ f, f ∈ V ↔ S f) := ⟨fun f hf => HOK.out f ((HLS.out f).1 (hp.mem_iff.1 hf)), hp.symm.nodup HND.out, by rw [hp.length_eq]; exact hln, fun f => by rw [hp.mem_iff, HLS.out f]⟩
      clear hperm hrng hp hown hbel
      cases V with
      | nil =>
        have hnn := hnil.out rfl
        subst hnn
        go_wp2_with fail
        go_loopw [19] (fun i wx => i = .int .i64 0 ∧ Below w.heap.size w wx) (fun _ _ => 0)
        case atStart => exact ⟨rfl, HBW.out⟩
        case round =>
          obtain ⟨rfl, hbx⟩ := hrel
          have HBX := Lib.hid hbx
          clear hbx
          go_wp2_with fail
          go_ret
          exact ⟨[], none, 0, rfl, RowK.In.nil _ _, List.Pairwise.nil, HV.out.2.2.2, HBX.out⟩
      | cons f V =>
        obtain ⟨g, cp, rfl⟩ : ∃ g cp, u3 = .slice (some ⟨g, 0, none⟩) (f :: V).length cp := by
          rcases HOW.out.2 with ⟨h0, h1⟩ | ⟨g, cp, cs, h3, _⟩
          · simp at h1
          · exact ⟨g, cp, h3⟩
        obtain ⟨W, hW⟩ : ∃ W, W = packF (f :: V) HV.out.1 := ⟨_, rfl⟩
        have hWl : W.length = (f :: V).length := by rw [hW]; simp [packF]
        have hWf : filA.flat W = filK.flat (f :: V) := by rw [filA_flat, hW, packF_val]
        have how : wr.ownsRow (w.heap.size + 1) 55 filA.n (.slice (some ⟨g, 0, none⟩) W.length cp) W.length (filA.flat W) := by
          rw [hWf, hWl]
          exact HOW.out
        obtain ⟨hH, hgl, hgb⟩ := holdsK_own (R := filA) rfl how
        have HEND : Hid (∀ d : Array FiA, d = Sort.insOuter (ltOf cfF) 0 W.length 0 W.toArray → (d.toList.map (·.1)).Perm (f :: V) ∧ SrtF (d.toList.map (·.1))) := fun d hd => by
          rw [ins_zero] at hd
          have hz : W.length = W.toArray.size := by simp
          rw [hz] at hd
          have h1 := Sort.insertionSort_holds swoF W.toArray 0 W.toArray.size (Nat.zero_le _) (Nat.le_refl _)
          rw [← hd, hW] at h1
          exact sortedF_is HV.out.2.1 HV.out.1 d h1.1 h1.2
        have hW512 : W.length ≤ 512 := by rw [hWl]; exact HV.out.2.2.1
        rw [← hWl]
        have HH := Lib.hid hH
        clear hH how hWf hnil HOW hW hWl
        have hgw : w.heap.size ≤ g := by omega
        go_wp2_with fail
        go_loopw [19] (fun i wx => ∃ (k : Nat) (d : Array FiA), i = .int .i64 k ∧ k ≤ W.length ∧ d.size = W.length ∧ HoldsK filA.cells 2 wx g 0 d ∧ g < wx.heap.size ∧ Below w.heap.size w wx ∧ Hid (Sort.insOuter (ltOf cfF) 0 W.length k d = Sort.insOuter (ltOf cfF) 0 W.length 0 W.toArray)) (fun i _ => W.length - (intOf i).toNat)
        case atStart => exact ⟨0, W.toArray, rfl, Nat.zero_le _, by simp, HH.out, hgl, HBW.out, rfl⟩
        case round =>
          obtain ⟨k, d, rfl, hk, hds, hH, hgl2, hB, hI⟩ := hrel
          have HDS := Lib.hid hds
          have HH2 := Lib.hid hH
          have HB2 := Lib.hid hB
          clear hH hB hds hgl HH HBW
          by_cases hlt : k < W.length
          · have HI2 : Hid (Sort.insOuter (ltOf cfF) 0 W.length (k + 1) (Sort.insInner (ltOf cfF) 0 k d) = Sort.insOuter (ltOf cfF) 0 W.length 0 W.toArray) := by
              show _ = _
              rw [← hI.out, insOuter_go _ _ _ _ _ hlt]
            clear hI
            obtain ⟨wo, rfl⟩ : ∃ wo : World, wo = wr := ⟨_, rfl⟩
            go_wp2_with fail
            go_loopw [6] (fun i wx => ∃ (j : Nat) (dj : Array FiA), i = .int .i64 j ∧ j ≤ k ∧ dj.size = W.length ∧ HoldsK filA.cells 2 wx g 0 dj ∧ g < wx.heap.size ∧ Below w.heap.size w wx ∧ Hid (Sort.insInner (ltOf cfF) 0 j dj = Sort.insInner (ltOf cfF) 0 k d)) (fun i _ => (intOf i).toNat)
            case atStart => exact ⟨k, d, rfl, Nat.le_refl _, HDS.out, HH2.out, hgl2, HB2.out, rfl⟩
            case round =>
              obtain ⟨j, dj, rfl, hj, hds, hH, hgl3, hB, hI⟩ := hrel
              have HDS3 := Lib.hid hds
              have HH3 := Lib.hid hH
              have HB3 := Lib.hid hB
              have HI3 := Lib.hid hI
              clear hH hB hds hI HH2 HB2 HDS hgl2
              obtain ⟨wi, rfl⟩ : ∃ wi : World, wi = wr := ⟨_, rfl⟩
              have hS : Below wi.heap.size wi wi.drew := (Below.refl _ _).drew
              by_cases h0 : 0 < j
              · obtain ⟨jp, rfl⟩ : ∃ jp, j = jp + 1 := ⟨j - 1, by omega⟩
                obtain ⟨xj, hxj⟩ : ∃ x, dj[jp + 1]! = x := ⟨_, rfl⟩
                obtain ⟨xp, hxp⟩ : ∃ x, dj[jp]! = x := ⟨_, rfl⟩
                have cj := fun (y : Held (Below wi.heap.size wi)) c (hc : c < 2) => HoldsK.cell (holdsK_below HH3.out y.ok hgl3) (i := jp + 1) (c := c) (by rw [HDS3.out]; omega) hc
                have cp := fun (y : Held (Below wi.heap.size wi)) c (hc : c < 2) => HoldsK.cell (holdsK_below HH3.out y.ok hgl3) (i := jp) (c := c) (by rw [HDS3.out]; omega) hc
                have hlg := fun (y : Held (Below wi.heap.size wi)) => Nat.lt_of_lt_of_le hgl3 y.ok.size
                simp only [hxj, hxp, Nat.zero_add] at cj cp
                have HXJ := Lib.hid hxj
                have HXP := Lib.hid hxp
                have hlt1 : jp + 1 < W.length := by omega
                have hlt2 : jp < W.length := by omega
                have HORD : Hid (∀ y : Held (Below wi.heap.size wi), Calls Tryd.prog 29 #[fileV xj.1, fileV xp.1] y.w fun e w' => e = .returned (.bool (ltOf cfF xj xp)) ∧ Below y.w.heap.size y.w w') := fun y =>
                  rbefF_any xj xp y.w (HG.out.below (HB3.out.trans (y.ok.mono HB3.out.size)))
                clear hxj hxp
                obtain ⟨⟨jq, jn⟩, hj1⟩ := xj
                obtain ⟨⟨pq, pn⟩, hp1⟩ := xp
                unfold fileV at HORD
                dsimp only at HORD
                have HCJ := Lib.hid cj
                have HCP := Lib.hid cp
                have j0 : ∀ y : Held (Below wi.heap.size wi), y.w.cell? ⟨g, (jp + 1) * 2, none⟩ = some (.string jq) := fun y => (HCJ.out y 0 (by omega)).1
                have j1 : ∀ y : Held (Below wi.heap.size wi), y.w.cell? ⟨g, (jp + 1) * 2 + 1, none⟩ = some (.int .i64 jn) := fun y => (HCJ.out y 1 (by omega)).1
                have p0 : ∀ y : Held (Below wi.heap.size wi), y.w.cell? ⟨g, jp * 2, none⟩ = some (.string pq) := fun y => (HCP.out y 0 (by omega)).1
                have p1 : ∀ y : Held (Below wi.heap.size wi), y.w.cell? ⟨g, jp * 2 + 1, none⟩ = some (.int .i64 pn) := fun y => (HCP.out y 1 (by omega)).1
                clear cj cp
                cases hlv : ltOf cfF ⟨(jq, jn), hj1⟩ ⟨(pq, pn), hp1⟩
                · have hout : Hid (Sort.insInner (ltOf cfF) 0 k d = dj) := by
                    show _ = _
                    rw [← HI3.out]
                    exact insInner_stop (ltOf cfF) 0 (jp + 1) dj (.inr (by simp only [Nat.add_sub_cancel]; rw [HXJ.out, HXP.out]; exact hlv))
                  rw [hlv] at HORD
                  clear hlv
                  go_wp2_with fail
                  (refine wp_region_s (S := Below wi.heap.size wi) (by kernel_rfl) (by kernel_rfl) hS ?_; have hN : Nonempty (Held (Below wi.heap.size wi)) := ⟨⟨_, hS⟩⟩; skip; (repeat (go_big_quiet_step ((go_at_call 29; exact held_keep (HORD.out _))))); refine wpQuiet_nil ?_; rintro x ⟨⟨_, hx⟩, rfl⟩; clear hN)
                  clear j0 j1 p0 p1 hlg
                  have HBX := Lib.hid (HB3.out.trans (hx.mono HB3.out.size))
                  have HHX := Lib.hid (holdsK_below HH3.out hx hgl3)
                  have hgx : g < x.heap.size := Nat.lt_of_lt_of_le hgl3 hx.size
                  go_wp2_with fail
                  go_roundw
                  case rel => exact ⟨k + 1, dj, by go_num, by omega, HDS3.out, HHX.out, hgx, HBX.out, by rw [← hout.out]; exact HI2⟩
                  case measure => simp [intOf]; omega
                · rw [hlv] at HORD
                  have HLV := Lib.hid hlv
                  clear hlv
                  go_wp2_with fail
                  (refine wp_region_s (S := Below wi.heap.size wi) (by kernel_rfl) (by kernel_rfl) hS ?_; have hN : Nonempty (Held (Below wi.heap.size wi)) := ⟨⟨_, hS⟩⟩; skip; (repeat (go_big_quiet_step ((go_at_call 29; exact held_keep (HORD.out _))))); refine wpQuiet_nil ?_; rintro x ⟨⟨_, hx⟩, rfl⟩; clear hN)
                  clear j0 j1 p0 p1 hlg
                  go_wp2_with fail
                  have hHx : HoldsK filA.cells 2 x g 0 dj := holdsK_below HH3.out hx hgl3
                  have hBx : Below w.heap.size w x := HB3.out.trans (hx.mono HB3.out.size)
                  have hgx : g < x.heap.size := Nat.lt_of_lt_of_le hgl3 hx.size
                  have hsw := swap_row filA.len hHx (i := jp + 1) (j := jp) (by rw [HDS3.out]; omega) (by rw [HDS3.out]; omega)
                  have hbs := setCells_below (setCells_below hBx hgw (filA.cells (dj[jp]!)) (0 + (jp + 1) * 2)) hgw (filA.cells (dj[jp + 1]!)) (0 + jp * 2)
                  have hss : g < ((x.setCells g (0 + (jp + 1) * 2) (filA.cells (dj[jp]!))).setCells g (0 + jp * 2) (filA.cells (dj[jp + 1]!))).heap.size := by rw [setCells_size, setCells_size]; exact hgx
                  have cj := fun c (hc : c < 2) => HoldsK.cell hHx (i := jp + 1) (c := c) (by rw [HDS3.out]; omega) hc
                  have cp := fun c (hc : c < 2) => HoldsK.cell hHx (i := jp) (c := c) (by rw [HDS3.out]; omega) hc
                  rw [HXJ.out] at cj hsw hbs hss
                  rw [HXP.out] at cp hsw hbs hss
                  simp only [World.setCells, filA, filK, Nat.zero_add] at hsw hbs hss
                  have HSW : Hid (HoldsK filA.cells 2 _ g 0 (swp dj (jp + 1) jp)) := hsw
                  have HBS := Lib.hid hbs
                  have HSS := Lib.hid hss
                  simp only [Nat.zero_add] at cj cp
                  have j0 : x.cell? ⟨g, (jp + 1) * 2, none⟩ = some (.string jq) := (cj 0 (by omega)).1
                  have fj0 : x.frozen? ⟨g, (jp + 1) * 2, none⟩ = false := (cj 0 (by omega)).2
                  have j1 : x.cell? ⟨g, (jp + 1) * 2 + 1, none⟩ = some (.int .i64 jn) := (cj 1 (by omega)).1
                  have fj1 : x.frozen? ⟨g, (jp + 1) * 2 + 1, none⟩ = false := (cj 1 (by omega)).2
                  have p0 : x.cell? ⟨g, jp * 2, none⟩ = some (.string pq) := (cp 0 (by omega)).1
                  have fp0 : x.frozen? ⟨g, jp * 2, none⟩ = false := (cp 0 (by omega)).2
                  have p1 : x.cell? ⟨g, jp * 2 + 1, none⟩ = some (.int .i64 pn) := (cp 1 (by omega)).1
                  have fp1 : x.frozen? ⟨g, jp * 2 + 1, none⟩ = false := (cp 1 (by omega)).2
                  clear cj cp hsw hbs hss hx hHx
                  go_region
                  go_wp2_with fail
                  go_roundw
                  case rel =>
                    refine ⟨jp, swp dj (jp + 1) jp, ?_, by omega, by rw [Sort.size_swp]; exact HDS3.out, ?_, ?_, ?_, ?_⟩
                    · go_num
                    · refine holdsK_drew ?_
                      with_reducible exact HSW.out
                    · refine lt_drew ?_
                      with_reducible exact HSS.out
                    · refine Below.drew ?_
                      with_reducible exact HBS.out
                    · show _ = _
                      have := insInner_go (ltOf cfF) 0 (jp + 1) dj h0 (by simp only [Nat.add_sub_cancel]; rw [HXJ.out, HXP.out]; exact HLV.out)
                      simp only [Nat.add_sub_cancel] at this
                      rw [← HI3.out, this]
                  case measure => simp [intOf]
              · obtain rfl : j = 0 := by omega
                have hout : Hid (Sort.insInner (ltOf cfF) 0 k d = dj) := by
                  show _ = _
                  rw [← HI3.out]
                  exact insInner_stop (ltOf cfF) 0 0 dj (.inl (Nat.le_refl _))
                go_wp2_with fail
                (refine wp_region_s (S := Below wi.heap.size wi) (by kernel_rfl) (by kernel_rfl) hS ?_; have hN : Nonempty (Held (Below wi.heap.size wi)) := ⟨⟨_, hS⟩⟩; skip; (repeat (go_big_quiet_step (fail))); refine wpQuiet_nil ?_; rintro x ⟨⟨_, hx⟩, rfl⟩; clear hN)
                go_wp2_with fail
                go_roundw
                case rel => exact ⟨k + 1, dj, by go_num, by omega, HDS3.out, holdsK_below HH3.out hx hgl3, Nat.lt_of_lt_of_le hgl3 hx.size, HB3.out.trans (hx.mono HB3.out.size), by rw [← hout.out]; exact HI2⟩
                case measure => simp [intOf]; omega
          · obtain rfl : k = W.length := by omega
            have hend := HEND.out d (by rw [← hI.out, insOuter_stop _ _ _ _ _ (Nat.lt_irrefl _)])
            have hat : filK.At g 0 (d.toList.map (·.1)) wr := by
              have := at_holdsK (R := filA) HH2.out
              intro j u hu
              rw [← filA_flat] at hu
              exact this j u hu
            have hln : (d.toList.map (·.1)).length = W.length := by simp [HDS.out]
            have HE := Lib.hid (And.intro hend (And.intro hat hln))
            clear hend hat hln hI
            go_wp2_with fail
            go_ret
            exact ⟨d.toList.map (·.1), _, cp, by rw [HE.out.2.2]; rfl, fun _ => ⟨g, 0, rfl, hgl2, HE.out.2.1⟩, HE.out.1.2, fun x => by rw [HE.out.1.1.mem_iff]; exact HV.out.2.2.2 x, HB2.out⟩
    · obtain ⟨⟨p, n⟩, hf, rfl⟩ := List.mem_map.1 hx
      dsimp only [filT, fileV] at hnx hen
      have hw3h : w3.heap = wr.heap := by rcases hw3 with rfl | rfl <;> rfl
      have hk3 : Below w.heap.size w w3 := by
        rcases hw3 with rfl | rfl
        · exact hbel
        · exact hbel.drew
      have hbW : Below w.heap.size w W := hk3.grown hg3 hk3.size (fun k e => by injection e; omega)
      have hown3 : w3.ownsRow (w.heap.size + 1) 55 2 u3 V.length (filK.flat V) := by
        rcases hw3 with rfl | rfl
        · exact hown
        · exact hown.drew
      have hownW := hown3.kept hg3 (by
        cases hb : u3.ownBlock with
        | none => exact .inl rfl
        | some g => exact .inr (fun e => by injection e with e; have := (hown3.lt g hb).1; omega))
      have HBW2 := Lib.hid ((hbW.alloc hbW.size (.cells #[.string p, .int .i64 n] 55)).alloc (by have := hbW.size; simp; omega) (.cells #[.string p, .int .i64 n] 55))
      have HOW2 := Lib.hid ((hownW.alloc (.cells #[.string p, .int .i64 n] 55)).alloc (.cells #[.string p, .int .i64 n] 55))
      have HRW := Lib.hid ((hr'.of (Below.heap_alloc W (.cells #[.string p, .int .i64 n] 55) _ hr'.ltr) (Below.heap_alloc W (.cells #[.string p, .int .i64 n] 55) _ hr'.ltb)))
      have HRW2 := Lib.hid ((HRW.out.of (Below.heap_alloc _ (.cells #[.string p, .int .i64 n] 55) _ HRW.out.ltr) (Below.heap_alloc _ (.cells #[.string p, .int .i64 n] 55) _ HRW.out.ltb)))
      have HLIT := Lib.hid (filK.lit2 W (.cells #[.string p, .int .i64 n] 55) (p, n) 55)
      have hV : V.length < es.size := by simpa using hlt
      have hes := HESS.out
      have hszW : w.heap.size < W.heap.size := by have := hr'.ltr; omega
      have HVL := Lib.hid hV
      clear hrng hx hlt hr' hw3 hg3 hw3h hk3 hbW hf hown hbel hown3 hownW hnil HRW hsz
      go_wp2_with (at_builtin; refine wpList_append_own_at _ rfl _ _ 40 rfl (w.heap.size + 1) 55 i0 (.agg #[.string ⟨#[]⟩, .int .i64 0]) 2 24 Tryd.underlying40 hi0 hz0 hz1 hz2 rfl (by decide) u3 _ _ rfl HOW2.out ⟨W.heap.size + 1, 0, none⟩ 1 1 [.string p, .int .i64 n] rfl rfl HLIT.out.1 HLIT.out.2 (by unfold maxLen; omega) (by omega) (by simp; omega) ?_; intro v' w4 ho4 hg4 _ _)
      have hne : ∀ k, w.heap.size + 1 > k → some k ≠ u3.ownBlock := fun k hk e => by have := (HOW2.out.lt k e.symm).1; omega
      have h4 := HRW2.out.of (hg4.block _ HRW2.out.ltr (hne _ (by omega))) (hg4.block _ HRW2.out.ltb (hne _ (by omega)))
      go_roundw
      case rel =>
        refine ⟨V ++ [(p, n)], v', rfl, by simpa using h4, ?_, HBW2.out.grown hg4 HBW2.out.size (fun k e => by have := (HOW2.out.lt k e).1; omega), Nat.lt_of_lt_of_le (by simp; omega) hg4.size, (fun h => by simp at h : _ → _)⟩
        rw [List.length_append, RowK.flat_append, RowK.flat_one]
        exact ho4
      case measure =>
        have h5 := h4.left
        have h6 := HVL.out
        rw [HM.out, h5]
        simp
        omega
end Go.Proofs.YthonhikkoabhlaaDoor
