/-
  The reference's table of leases: All.
-/
import Derived.Test.YtcfmkmhibghaoaaDoorRf1
import Derived.Test.YtcfmkmhibghaoaaDoorROrd
import Derived.Test.YtcfmkmhibghaoaaDoorSwp
namespace Go.Proofs.YtcfmkmhibghaoaaDoor
open Go.RowKit
open Go.Sort (HoldsK swp)

theorem curP_len (suf : List Lease) : ∀ pre, (curP suf pre).length ≤ pre.length
  | [] => Nat.le_refl _
  | x :: r => by
    have := curP_len suf r
    rw [curP]
    split
    · rw [List.length_cons, List.length_cons]; omega
    · rw [List.length_cons]; omega
theorem curI_eq (p : ByteArray) (l : List Lease) (k : Nat) : (curI p l == (k : Int)) = (rcur p l == some k) := by
  unfold curI
  cases h : rcur p l with
  | none =>
    have : ¬ (-1 : Int) = (k : Int) := by omega
    simp [this]
  | some i =>
    rw [Bool.eq_iff_iff]
    simp only [beq_iff_eq, Option.some.injEq]
    omega
set_option maxRecDepth 100000 in
set_option maxHeartbeats 3200000 in
theorem rall_any (r lb : Nat) (R : RTab) (w : World) (h : RAt r lb R w) (hg : G0 w) (hps : ∀ x ∈ R.log, x.path.size ≤ 1048576) (hn : R.log.length ≤ 1000000) :
    Calls Tryd.prog 44 #[.pointer (some ⟨r, 0, none⟩)] w (AllP (curs R.log) w) := by
  obtain ⟨A, cap, hb, hl⟩ := h.ex
  have c1 := hb.cell 1
  simp only [List.getElem?_cons_succ, List.getElem?_cons_zero] at c1
  have HI := Lib.hid hl.cells
  have HR := Lib.hid h
  have HG := Lib.hid hg
  have HPS := Lib.hid hps
  have HON := Lib.hid (curs_once R.log)
  obtain ⟨i0, hi0, hz0, hz1, hz2⟩ := info_parts Tryd.infoLease
  clear hb hl h hg hps
  obtain ⟨clk, l⟩ := R
  dsimp only at c1 HI HR HON hn ⊢
  go_enter Tryd.func44, Tryd.ntmps44
  go_wp2_with fail
  go_loopw [3, 13] (fun s i wr => ∃ k : Nat, k ≤ l.length ∧ i = .int .i64 k ∧ wr.ownsRow w.heap.size 26 5 s (curP (l.drop k) (l.take k)).length (celL (curP (l.drop k) (l.take k))) ∧ Below w.heap.size w wr) (fun _ i _ => l.length - (intOf i).toNat)
  case atStart => exact ⟨0, Nat.zero_le _, rfl, by simp [curP, celL, World.ownsRow], Below.refl _ _⟩
  case round =>
    obtain ⟨k, hk, rfl, ho, hB⟩ := hrel
    by_cases hlt : k < l.length
    · obtain ⟨b, off, rfl, hbl, hat⟩ := HI.out (by omega)
      obtain ⟨h0, h1, h2, h3, h4⟩ := (hat.below hB hbl) k l[k] (List.getElem?_eq_getElem hlt)
      have HS : Hid (curP (l.drop (k + 1)) (l.take (k + 1)) = curP (l.drop k) (l.take k) ++ (if (rcur l[k].path l == some k) = true then [l[k]] else [])) := by
        show _ = _
        rw [List.take_succ_eq_append_getElem hlt, curP_snoc, rcur_at l k l[k] (List.getElem?_eq_getElem hlt), ← List.drop_eq_getElem_cons hlt]
      have HO := Lib.hid ho
      have HB := Lib.hid hB
      clear hat c1 ho hB
      go_wp2_with fail
      refine (rcur_any r lb ⟨clk, l⟩ l[k].path _ ((HR.out.below HB.out).alloc _)).mono ?_
      rintro e w1 ⟨rfl, hb1⟩
      have hB1 : Below w.heap.size w w1 := (HB.out.alloc HB.out.size _).trans (hb1.mono (by have := HB.out.size; simp; omega))
      have hk1 : Blk wr.heap.size 26 l[k].cells w1 := (Blk.new wr 26 l[k].cells).below hb1
      have ho1 : w1.ownsRow w.heap.size 26 5 u3 (curP (l.drop k) (l.take k)).length (celL (curP (l.drop k) (l.take k))) := ownsRow_below (HO.out.alloc _) hb1
      have hcl : (curP (l.drop k) (l.take k)).length ≤ k := by
        have := curP_len (l.drop k) (l.take k)
        rw [List.length_take_of_le (by omega)] at this
        exact this
      have hw1 := HB.out.size
      clear HO HB hb1
      cases hc : (rcur l[k].path l == some k)
      · have hd : ((curI l[k].path l) == (k : Int)) = false := by rw [curI_eq, hc]
        have HS1 : Hid (curP (l.drop (k + 1)) (l.take (k + 1)) = curP (l.drop k) (l.take k)) := by
          have := HS.out
          rw [hc] at this
          show _ = _
          simpa using this
        clear hc HS
        go_wp2_with fail
        go_roundw
        case rel => exact ⟨k + 1, by omega, by go_num, by rw [HS1.out]; exact ho1, hB1⟩
        case measure => simp [intOf]; omega
      · have hd : ((curI l[k].path l) == (k : Int)) = true := by rw [curI_eq, hc]
        have HS1 : Hid (curP (l.drop (k + 1)) (l.take (k + 1)) = curP (l.drop k) (l.take k) ++ [l[k]]) := by
          have := HS.out
          rw [hc] at this
          show _ = _
          simpa using this
        have q0 := hk1.cell 0
        have q1 := hk1.cell 1
        have q2 := hk1.cell 2
        have q3 := hk1.cell 3
        have q4 := hk1.cell 4
        simp only [Lease.cells, List.getElem?_cons_succ, List.getElem?_cons_zero] at q0 q1 q2 q3 q4
        have HS5 := Lib.hid (lit_leases w1 l[k])
        have HO1 := Lib.hid ho1
        have HB1 := Lib.hid hB1
        have hw1s := hB1.size
        clear hc HS ho1 hB1
        go_wp2_with (at_builtin; refine wpList_append_own _ rfl _ _ 46 rfl w.heap.size 26 i0 (.agg #[.string ⟨#[]⟩, .string ⟨#[]⟩, .int .i64 0, .int .i64 0, .int .i64 0]) 5 56 Tryd.underlying46 hi0 hz0 hz1 hz2 rfl (by decide) _ _ _ rfl (HO1.out.alloc _) ⟨w1.heap.size, 0, none⟩ 1 1 l[k].cells rfl rfl HS5.out.1 HS5.out.2 (by unfold maxLen; omega) (by omega) (by simp; omega) ?_; intro v2 w2 ho2 hg2 _)
        have hB2 : Below w.heap.size w w2 := (HB1.out.alloc hw1s _).grown hg2 (by simp; omega) (fun j e => (HO1.out.lt j e).1)
        rw [celL_one] at ho2
        go_roundw
        case rel => exact ⟨k + 1, by omega, by go_num, by rw [HS1.out, celL_append, List.length_append]; exact ho2, hB2⟩
        case measure => simp [intOf]; omega
    · obtain rfl : k = l.length := by omega
      have ho' : wr.ownsRow w.heap.size 26 5 u3 (curs l).length (celL (curs l)) := by
        have := ho
        rw [List.drop_length, List.take_length] at this
        exact this
      have hcn := curP_len [] l
      have HB := Lib.hid hB
      have HO := Lib.hid ho'
      obtain ⟨S0, hS1, hS2, hS3⟩ := sortL_is HON.out
      have HS := Lib.hid hS1
      have HSP := Lib.hid (And.intro hS2 hS3)
      have HVS : Hid (∀ x ∈ curs l, x.path.size ≤ 1048576) := fun x hx => HPS.out x (rlk_path ((curs_mem l x).1 hx)).2
      generalize hV : curs l = V at *
      have hVn : V.length ≤ l.length := by rw [← hV]; exact hcn
      clear hlt ho ho' hB hS1 hS2 hS3 c1 HON hcn hV
      rcases ownsRow_cases HO.out with ⟨rfl, h0⟩ | ⟨g, cp, rfl, hgb, hgl, hgc, hgm⟩
      · have hV0 : V = [] := List.eq_nil_of_length_eq_zero h0
        subst hV0
        go_wp2_with fail
        go_loopw [31] (fun i wx => i = .int .i64 0 ∧ wx = wr) (fun _ _ => 0)
        case atStart => exact ⟨rfl, rfl⟩
        case round =>
          obtain ⟨rfl, rfl⟩ := hrel
          go_wp2_with fail
          go_ret
          exact ⟨[], none, 0, rfl, List.Perm.refl _, List.Pairwise.nil, fun h => by simp at h, HB.out⟩
      · obtain ⟨hH, _, _⟩ := holdsL rfl HO.out
        have HH := Lib.hid hH
        clear hH HI HR HPS
        go_wp2_with fail
        go_loopw [31] (fun i wx => ∃ (k : Nat) (d : Array Lease), i = .int .i64 k ∧ k ≤ V.length ∧ d.size = V.length ∧ (∀ j, j < V.length → d[j]!.path.size ≤ 1048576) ∧ HoldsK Lease.cells 5 wx g 0 d ∧ g < wx.heap.size ∧ Below w.heap.size w wx ∧ Hid (Sort.insOuter (ltOf cfL) 0 V.length k d = Sort.insOuter (ltOf cfL) 0 V.length 0 V.toArray)) (fun i _ => V.length - (intOf i).toNat)
        case atStart => exact ⟨0, V.toArray, rfl, Nat.zero_le _, by simp, fun j hj => by rw [getElem!_pos V.toArray j (by simpa using hj)]; exact HVS.out _ (by simp), HH.out, hgl, HB.out, rfl⟩
        case round =>
          obtain ⟨k, d, rfl, hk, hds, hdp, hH, hgl2, hB, hI⟩ := hrel
          have HDP := Lib.hid hdp
          have HDS := Lib.hid hds
          have HH2 := Lib.hid hH
          have HB2 := Lib.hid hB
          clear hdp hH hB HH HO HB hds hgl
          by_cases hlt : k < V.length
          · have HI2 : Hid (Sort.insOuter (ltOf cfL) 0 V.length (k + 1) (Sort.insInner (ltOf cfL) 0 k d) = Sort.insOuter (ltOf cfL) 0 V.length 0 V.toArray) := by
              show _ = _
              rw [← hI.out, insOuter_go _ _ _ _ _ hlt]
            clear hI
            obtain ⟨wo, rfl⟩ : ∃ wo : World, wo = wr := ⟨_, rfl⟩
            go_wp2_with fail
            go_loopw [7] (fun i wx => ∃ (j : Nat) (dj : Array Lease), i = .int .i64 j ∧ j ≤ k ∧ dj.size = V.length ∧ (∀ j, j < V.length → dj[j]!.path.size ≤ 1048576) ∧ HoldsK Lease.cells 5 wx g 0 dj ∧ g < wx.heap.size ∧ Below w.heap.size w wx ∧ Hid (Sort.insInner (ltOf cfL) 0 j dj = Sort.insInner (ltOf cfL) 0 k d)) (fun i _ => (intOf i).toNat)
            case atStart => exact ⟨k, d, rfl, Nat.le_refl _, HDS.out, HDP.out, HH2.out, hgl2, HB2.out, rfl⟩
            case round =>
              obtain ⟨j, dj, rfl, hj, hds, hdp, hH, hgl3, hB, hI⟩ := hrel
              have HDP3 := Lib.hid hdp
              have HDS3 := Lib.hid hds
              have HH3 := Lib.hid hH
              have HB3 := Lib.hid hB
              have HI3 := Lib.hid hI
              clear hdp hH hB hds hI HH2 HB2 HDP HDS hgl2
              obtain ⟨wi, rfl⟩ : ∃ wi : World, wi = wr := ⟨_, rfl⟩
              by_cases h0 : 0 < j
              · obtain ⟨jp, rfl⟩ : ∃ jp, j = jp + 1 := ⟨j - 1, by omega⟩
                obtain ⟨xj, hxj⟩ : ∃ x, dj[jp + 1]! = x := ⟨_, rfl⟩
                obtain ⟨xp, hxp⟩ : ∃ x, dj[jp]! = x := ⟨_, rfl⟩
                have sj := HDP3.out (jp + 1) (by omega)
                have sp := HDP3.out jp (by omega)
                rw [hxj] at sj
                rw [hxp] at sp
                have cj := fun c (hc : c < 5) => HoldsK.cell HH3.out (i := jp + 1) (c := c) (by rw [HDS3.out]; omega) hc
                have cp := fun c (hc : c < 5) => HoldsK.cell HH3.out (i := jp) (c := c) (by rw [HDS3.out]; omega) hc
                simp only [hxj, hxp, Nat.zero_add] at cj cp
                have j0 := (cj 0 (by omega)).1
                have p0 := (cp 0 (by omega)).1
                have HCJ := Lib.hid cj
                have HCP := Lib.hid cp
                have HXJ := Lib.hid hxj
                have HXP := Lib.hid hxp
                have hlt1 : jp + 1 < V.length := by omega
                have hlt2 : jp < V.length := by omega
                have HORD : Hid (∀ y : Held (Below wi.heap.size wi), Calls Tryd.prog 57 #[.string xj.path, .string xp.path] y.w fun e w' => e = .returned (.int .i64 (ordH xj.path xp.path)) ∧ Below y.w.heap.size y.w w') := fun y =>
                  rorder_any xj.path xp.path y.w (by omega) (by omega) (HG.out.below (HB3.out.trans (y.ok.mono HB3.out.size)))
                have HR0 : Hid (∀ y : Held (Below wi.heap.size wi), y.w.cell? ⟨g, (jp + 1) * 5, none⟩ = some (.string xj.path)) := fun y => (y.ok.cell (p := ⟨g, _, none⟩) hgl3).trans j0
                have HR1 : Hid (∀ y : Held (Below wi.heap.size wi), y.w.cell? ⟨g, jp * 5, none⟩ = some (.string xp.path)) := fun y => (y.ok.cell (p := ⟨g, _, none⟩) hgl3).trans p0
                have hS : Below wi.heap.size wi wi.drew := (Below.refl _ _).drew
                clear cj cp hxj hxp
                by_cases hlv : ordH xj.path xp.path < 0
                · go_wp2_with fail
                  (refine wp_region_s (S := Below wi.heap.size wi) (by kernel_rfl) (by kernel_rfl) hS ?_; have hN : Nonempty (Held (Below wi.heap.size wi)) := ⟨⟨_, hS⟩⟩; (have r0 := HR0.out; have r1 := HR1.out); (repeat (go_big_quiet_step ((go_at_call 57; exact held_keep (HORD.out _))))); refine wpQuiet_nil ?_; rintro x ⟨⟨_, hx⟩, rfl⟩; clear hN)
                  clear r0 r1
                  go_wp2_with fail
                  have hHx : HoldsK Lease.cells 5 x g 0 dj := holdsK_below HH3.out hx hgl3
                  have hBx : Below w.heap.size w x := HB3.out.trans (hx.mono HB3.out.size)
                  have hgx : g < x.heap.size := Nat.lt_of_lt_of_le hgl3 hx.size
                  have hsw := swap_row lease_len hHx (i := jp + 1) (j := jp) (by rw [HDS3.out]; omega) (by rw [HDS3.out]; omega)
                  have hbs := setCells_below (setCells_below hBx hgb (dj[jp]!).cells (0 + (jp + 1) * 5)) hgb (dj[jp + 1]!).cells (0 + jp * 5)
                  have hss : g < ((x.setCells g (0 + (jp + 1) * 5) (dj[jp]!).cells).setCells g (0 + jp * 5) (dj[jp + 1]!).cells).heap.size := by rw [setCells_size, setCells_size]; exact hgx
                  have cj := fun c (hc : c < 5) => HoldsK.cell hHx (i := jp + 1) (c := c) (by rw [HDS3.out]; omega) hc
                  have cp := fun c (hc : c < 5) => HoldsK.cell hHx (i := jp) (c := c) (by rw [HDS3.out]; omega) hc
                  rw [HXJ.out] at cj hsw hbs hss
                  rw [HXP.out] at cp hsw hbs hss
                  simp only [World.setCells, Lease.cells, Nat.zero_add, Nat.add_assoc, Nat.reduceAdd] at hsw hbs hss
                  have HSW := Lib.hid hsw
                  have HBS := Lib.hid hbs
                  have HSS := Lib.hid hss
                  simp only [Nat.zero_add] at cj cp
                  have j0 : x.cell? ⟨g, (jp + 1) * 5, none⟩ = some (.string xj.path) := (cj 0 (by omega)).1
                  have fj0 : x.frozen? ⟨g, (jp + 1) * 5, none⟩ = false := (cj 0 (by omega)).2
                  have j1 : x.cell? ⟨g, (jp + 1) * 5 + 1, none⟩ = some (.string xj.holder) := (cj 1 (by omega)).1
                  have fj1 : x.frozen? ⟨g, (jp + 1) * 5 + 1, none⟩ = false := (cj 1 (by omega)).2
                  have j2 : x.cell? ⟨g, (jp + 1) * 5 + 2, none⟩ = some (.int .i64 xj.fence) := (cj 2 (by omega)).1
                  have fj2 : x.frozen? ⟨g, (jp + 1) * 5 + 2, none⟩ = false := (cj 2 (by omega)).2
                  have j3 : x.cell? ⟨g, (jp + 1) * 5 + 3, none⟩ = some (.int .i64 xj.since) := (cj 3 (by omega)).1
                  have fj3 : x.frozen? ⟨g, (jp + 1) * 5 + 3, none⟩ = false := (cj 3 (by omega)).2
                  have j4 : x.cell? ⟨g, (jp + 1) * 5 + 4, none⟩ = some (.int .i64 xj.til) := (cj 4 (by omega)).1
                  have fj4 : x.frozen? ⟨g, (jp + 1) * 5 + 4, none⟩ = false := (cj 4 (by omega)).2
                  have p0 : x.cell? ⟨g, jp * 5, none⟩ = some (.string xp.path) := (cp 0 (by omega)).1
                  have fp0 : x.frozen? ⟨g, jp * 5, none⟩ = false := (cp 0 (by omega)).2
                  have p1 : x.cell? ⟨g, jp * 5 + 1, none⟩ = some (.string xp.holder) := (cp 1 (by omega)).1
                  have fp1 : x.frozen? ⟨g, jp * 5 + 1, none⟩ = false := (cp 1 (by omega)).2
                  have p2 : x.cell? ⟨g, jp * 5 + 2, none⟩ = some (.int .i64 xp.fence) := (cp 2 (by omega)).1
                  have fp2 : x.frozen? ⟨g, jp * 5 + 2, none⟩ = false := (cp 2 (by omega)).2
                  have p3 : x.cell? ⟨g, jp * 5 + 3, none⟩ = some (.int .i64 xp.since) := (cp 3 (by omega)).1
                  have fp3 : x.frozen? ⟨g, jp * 5 + 3, none⟩ = false := (cp 3 (by omega)).2
                  have p4 : x.cell? ⟨g, jp * 5 + 4, none⟩ = some (.int .i64 xp.til) := (cp 4 (by omega)).1
                  have fp4 : x.frozen? ⟨g, jp * 5 + 4, none⟩ = false := (cp 4 (by omega)).2
                  clear cj cp hsw hbs hss hx hHx
                  go_region
                  go_wp2_with fail
                  go_roundw
                  case rel =>
                    refine ⟨jp, swp dj (jp + 1) jp, ?_, by omega, by rw [Sort.size_swp]; exact HDS3.out, ?_, ?_, ?_, ?_, ?_⟩
                    · go_num
                    · exact fun q hq => (swp_all (P := fun y : Lease => y.path.size ≤ 1048576) (by rw [HDS3.out]; omega) (by rw [HDS3.out]; omega) (fun q hq => HDP3.out q (by rw [← HDS3.out]; exact hq)) q (by rw [HDS3.out]; exact hq))
                    · refine holdsK_drew ?_
                      with_reducible exact HSW.out
                    · refine lt_drew ?_
                      with_reducible exact HSS.out
                    · refine Below.drew ?_
                      with_reducible exact HBS.out
                    · show _ = _
                      have := insInner_go (ltOf cfL) 0 (jp + 1) dj h0 (by simp only [Nat.add_sub_cancel]; rw [HXJ.out, HXP.out]; exact decide_eq_true hlv)
                      simp only [Nat.add_sub_cancel] at this
                      rw [← HI3.out, this]
                  case measure => simp [intOf]
                · have hout : Hid (Sort.insInner (ltOf cfL) 0 k d = dj) := by
                    show _ = _
                    rw [← HI3.out]
                    exact insInner_stop (ltOf cfL) 0 (jp + 1) dj (.inr (by simp only [Nat.add_sub_cancel]; rw [HXJ.out, HXP.out]; exact decide_eq_false hlv))
                  go_wp2_with fail
                  (refine wp_region_s (S := Below wi.heap.size wi) (by kernel_rfl) (by kernel_rfl) hS ?_; have hN : Nonempty (Held (Below wi.heap.size wi)) := ⟨⟨_, hS⟩⟩; (have r0 := HR0.out; have r1 := HR1.out); (repeat (go_big_quiet_step ((go_at_call 57; exact held_keep (HORD.out _))))); refine wpQuiet_nil ?_; rintro x ⟨⟨_, hx⟩, rfl⟩; clear hN)
                  clear r0 r1
                  go_wp2_with fail
                  go_roundw
                  case rel => exact ⟨k + 1, dj, by go_num, by omega, HDS3.out, HDP3.out, holdsK_below HH3.out hx hgl3, Nat.lt_of_lt_of_le hgl3 hx.size, HB3.out.trans (hx.mono HB3.out.size), by rw [← hout.out]; exact HI2⟩
                  case measure => simp [intOf]; omega
              · obtain rfl : j = 0 := by omega
                have hout : Hid (Sort.insInner (ltOf cfL) 0 k d = dj) := by
                  show _ = _
                  rw [← HI3.out]
                  exact insInner_stop (ltOf cfL) 0 0 dj (.inl (Nat.le_refl _))
                have hS : Below wi.heap.size wi wi.drew := (Below.refl _ _).drew
                go_wp2_with fail
                (refine wp_region_s (S := Below wi.heap.size wi) (by kernel_rfl) (by kernel_rfl) hS ?_; have hN : Nonempty (Held (Below wi.heap.size wi)) := ⟨⟨_, hS⟩⟩; skip; (repeat (go_big_quiet_step (fail))); refine wpQuiet_nil ?_; rintro x ⟨⟨_, hx⟩, rfl⟩; clear hN)
                go_wp2_with fail
                go_roundw
                case rel => exact ⟨k + 1, dj, by go_num, by omega, HDS3.out, HDP3.out, holdsK_below HH3.out hx hgl3, Nat.lt_of_lt_of_le hgl3 hx.size, HB3.out.trans (hx.mono HB3.out.size), by rw [← hout.out]; exact HI2⟩
                case measure => simp [intOf]; omega
          · obtain rfl : k = V.length := by omega
            have hend : Hid (d = S0.toArray) := by
              show _ = _
              have h1 := hI.out
              rw [ins_zero, HS.out] at h1
              rw [← h1, insOuter_stop _ _ _ _ _ (Nat.lt_irrefl _)]
            go_wp2_with fail
            go_ret
            obtain rfl := hend.out
            have hls : S0.length = V.length := HSP.out.1.length_eq
            exact ⟨S0, some ⟨g, 0, none⟩, cp, by rw [hls]; rfl, HSP.out.1, HSP.out.2, fun _ => ⟨g, 0, rfl, hgl2, by simpa using lsAt_holds HH2.out⟩, HB2.out⟩
end Go.Proofs.YtcfmkmhibghaoaaDoor
