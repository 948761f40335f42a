/-
  The walk of the reference's Sorted: an insertion sort that is written out.
-/
import Derived.Test.YtocffknoeknabaaGreatDoorDpB
import Derived.Test.YtocffknoeknabaaGreatDoorCgA
import Derived.OrdersHeld
namespace Go.Proofs.YtocffknoeknabaaGreatDoor
open Go.RowKit
open Go.Sort (HoldsK swp)

instance : Inhabited Rcd := ⟨zeroRcd⟩
theorem rcd_len (x : Rcd) : x.cells.length = 6 := rfl
section
variable {α : Type} [Inhabited α] (R : RowK α)
theorem flatK_get (d : Array α) (j : Nat) (hj : j < d.size * R.n) : (R.flat d.toList)[j]? = some (Sort.flatK R.cells R.n d)[j]! := by
  have hn := R.pos
  have hq : j / R.n < d.size := (Nat.div_lt_iff_lt_mul hn).2 hj
  have e : j / R.n * R.n + j % R.n = j := Nat.div_add_mod' j R.n
  rw [Sort.get_flatK _ _ _ _ hj]
  have h1 : d.toList[j / R.n]? = some d[j / R.n] := by simp [hq]
  have h2 := R.flat_get d.toList (j / R.n) (j % R.n) _ h1 (Nat.mod_lt _ hn)
  rw [e] at h2
  rw [h2, getElem!_pos d (j / R.n) hq]
  have h3 : j % R.n < (R.cells d[j / R.n]).length := by rw [R.len]; exact Nat.mod_lt _ hn
  rw [getElem!_pos (R.cells d[j / R.n]) (j % R.n) h3]
  exact List.getElem?_eq_getElem _
variable {R}
theorem holdsK_own {w : World} {base g cap n : Nat} {e : TypeId} {V : List α} (hn : V.length = n) (ho : w.ownsRow base e R.n (.slice (some ⟨g, 0, none⟩) n cap) n (R.flat V)) : HoldsK R.cells R.n w g 0 V.toArray ∧ g < w.heap.size ∧ base ≤ g := by
  obtain ⟨_, h2⟩ := ho
  rcases h2 with ⟨h3, _⟩ | ⟨g, cap, cur, h3, hbs, hb, _, _, hs, ht⟩
  · cases h3
  injection h3 with e1 e2 e3
  injection e1 with e1
  injection e1 with e1
  subst e1
  refine ⟨fun j hj => ?_, block_lt hb, hbs⟩
  rw [Sort.size_flatK] at hj
  have hsz : V.toArray.size = n := by simp [hn]
  rw [hsz] at hj
  constructor
  · rw [Nat.zero_add, cell_at hb]
    have h5 := flatK_get R V.toArray j (by rw [hsz]; exact hj)
    rw [← ht, List.getElem?_take, if_pos hj, Array.getElem?_toList] at h5
    exact h5
  · simp [World.frozen?, hb]
theorem at_holdsK {w : World} {g off : Nat} {d : Array α} (h : HoldsK R.cells R.n w g off d) : R.At g off d.toList w := fun j u hu => by
  have hj : j < d.size * R.n := by
    have := (List.getElem?_eq_some_iff.1 hu).1
    rw [R.flat_len] at this
    simpa using this
  rw [flatK_get R d j hj] at hu
  injection hu with hu
  have := (h j (by rw [Sort.size_flatK]; exact hj)).1
  rw [this]
  exact congrArg some hu
end
/-- The list that the reference's Sorted leaves. -/
def sortR (V : List Rcd) : List Rcd := (Sort.insOuter befR 0 V.length 0 V.toArray).toList
set_option maxRecDepth 100000 in
set_option maxHeartbeats 3200000 in
theorem rsorted_any (V : List Rcd) (A : Option Addr) (cp base : Nat) (w : World) (ho : w.ownsRow base 55 6 (.slice A V.length cp) V.length (rcdK.flat V)) (hbw : base ≤ w.heap.size)
    (hs : ∀ y ∈ V, y.src.size < 4294967281 ∧ y.dst.size < 4294967281) (hn : V.length ≤ 1000000) (_hg : G0 w) (hgb : ∀ x, Below base w x → G0 x) :
    Calls Tryz.prog 38 #[.slice A V.length cp] w fun e w' => e = .returned (.slice A V.length cp) ∧ (sortR V).length = V.length ∧ (∀ x ∈ sortR V, x ∈ V) ∧ rcdK.In A (sortR V) w' ∧ Below base w w' := by
  have HS := Lib.hid hs
  have HG := Lib.hid hgb
  clear hgb hs
  rcases ownsRow_cases ho with ⟨hA, h0⟩ | ⟨g, cp', hA, hgb, hgl, hgc, hgm⟩
  · have hV0 : V = [] := List.eq_nil_of_length_eq_zero h0
    subst hV0
    clear ho
    go_enter Tryz.func38, Tryz.ntmps38
    go_wp2_with fail
    go_loopw [7] (fun i wx => i = .int .i64 0 ∧ wx = w) (fun _ _ => 0)
    case atStart => exact ⟨rfl, rfl⟩
    case round =>
      obtain ⟨rfl, rfl⟩ := hrel
      go_wp2_with fail
      go_ret
      have hnil : sortR [] = [] := by
        show (Sort.insOuter befR 0 0 0 #[]).toList = []
        rw [insOuter_stop _ _ _ _ _ (Nat.lt_irrefl 0)]
      rw [hnil]
      exact ⟨rfl, rfl, fun x hx => hx, RowK.In.nil _ _, Below.refl _ _⟩
  · injection hA with hA hA1 hA2
    subst hA hA2
    obtain ⟨hH, _, _⟩ := holdsK_own (R := rcdK) rfl ho
    have HH : Hid (HoldsK Rcd.cells 6 w g 0 V.toArray) := hH
    have HB0 : Hid (Below base w w) := Below.refl _ _
    clear hH ho
    go_enter Tryz.func38, Tryz.ntmps38
    go_wp2_with fail
    go_loopw [7] (fun i wx => ∃ (k : Nat) (d : Array Rcd), i = .int .i64 k ∧ k ≤ V.length ∧ d.size = V.length ∧ (∀ j, j < V.length → d[j]! ∈ V) ∧ HoldsK Rcd.cells 6 wx g 0 d ∧ g < wx.heap.size ∧ Below base w wx ∧ Hid (Sort.insOuter befR 0 V.length k d = Sort.insOuter befR 0 V.length 0 V.toArray)) (fun i _ => V.length - (intOf i).toNat)
    case atStart => exact ⟨0, V.toArray, rfl, Nat.zero_le _, by simp, fun j hj => by rw [getElem!_pos V.toArray j (by simpa using hj)]; simp, HH.out, hgl, HB0.out, rfl⟩
    case round =>
      obtain ⟨k, d, rfl, hk, hds, hdp, hH, hgl2, hB, hI⟩ := hrel
      have HDP := Lib.hid hdp
      have HDS := Lib.hid hds
      have HH2 := Lib.hid hH
      have HB2 := Lib.hid hB
      clear hdp hH hB hds hgl HH HB0
      by_cases hlt : k < V.length
      · have HI2 : Hid (Sort.insOuter befR 0 V.length (k + 1) (Sort.insInner befR 0 k d) = Sort.insOuter befR 0 V.length 0 V.toArray) := by
          show _ = _
          rw [← hI.out, insOuter_go _ _ _ _ _ hlt]
        clear hI
        obtain ⟨wo, rfl⟩ : ∃ wo : World, wo = wr := ⟨_, rfl⟩
        go_wp2_with fail
        go_loopw [4] (fun i wx => ∃ (j : Nat) (dj : Array Rcd), i = .int .i64 j ∧ j ≤ k ∧ dj.size = V.length ∧ (∀ j, j < V.length → dj[j]! ∈ V) ∧ HoldsK Rcd.cells 6 wx g 0 dj ∧ g < wx.heap.size ∧ Below base w wx ∧ Hid (Sort.insInner befR 0 j dj = Sort.insInner befR 0 k d)) (fun i _ => (intOf i).toNat)
        case atStart => exact ⟨k, d, rfl, Nat.le_refl _, HDS.out, HDP.out, HH2.out, hgl2, HB2.out, rfl⟩
        case round =>
          obtain ⟨j, dj, rfl, hj, hds, hdp, hH, hgl3, hB, hI⟩ := hrel
          have HDP3 := Lib.hid hdp
          have HDS3 := Lib.hid hds
          have HH3 := Lib.hid hH
          have HB3 := Lib.hid hB
          have HI3 := Lib.hid hI
          clear hdp hH hB hds hI HH2 HB2 HDP HDS hgl2
          obtain ⟨wi, rfl⟩ : ∃ wi : World, wi = wr := ⟨_, rfl⟩
          have hS : Below wi.heap.size wi wi.drew := (Below.refl _ _).drew
          by_cases h0 : 0 < j
          · obtain ⟨jp, rfl⟩ : ∃ jp, j = jp + 1 := ⟨j - 1, by omega⟩
            obtain ⟨xj, hxj⟩ : ∃ x, dj[jp + 1]! = x := ⟨_, rfl⟩
            obtain ⟨xp, hxp⟩ : ∃ x, dj[jp]! = x := ⟨_, rfl⟩
            have sj := HS.out _ (HDP3.out (jp + 1) (by omega))
            have sp := HS.out _ (HDP3.out jp (by omega))
            rw [hxj] at sj
            rw [hxp] at sp
            have cj := fun (y : Held (Below wi.heap.size wi)) c (hc : c < 6) => HoldsK.cell (holdsK_below HH3.out y.ok hgl3) (i := jp + 1) (c := c) (by rw [HDS3.out]; omega) hc
            have cp := fun (y : Held (Below wi.heap.size wi)) c (hc : c < 6) => HoldsK.cell (holdsK_below HH3.out y.ok hgl3) (i := jp) (c := c) (by rw [HDS3.out]; omega) hc
            have hlg := fun (y : Held (Below wi.heap.size wi)) => Nat.lt_of_lt_of_le hgl3 y.ok.size
            simp only [hxj, hxp, Nat.zero_add] at cj cp
            have HXJ := Lib.hid hxj
            have HXP := Lib.hid hxp
            have hlt1 : jp + 1 < V.length := by omega
            have hlt2 : jp < V.length := by omega
            have HORD : Hid (∀ y : Held (Below wi.heap.size wi), Calls Tryz.prog 87 #[xj.val, xp.val] y.w fun e w' => e = .returned (.bool (befR xj xp)) ∧ Below y.w.heap.size y.w w') := fun y =>
              rbefore_any xj xp y.w sj sp (HG.out _ (HB3.out.trans (y.ok.mono (Nat.le_trans hbw HB3.out.size))))
            clear hxj hxp sj sp
            obtain ⟨jq, jf, jl, jd, jn, jh⟩ := xj
            obtain ⟨pq, pf, pl, pd, pn, ph⟩ := xp
            unfold Rcd.val Rcd.cells at HORD
            dsimp only at HORD
            have HCJ := Lib.hid cj
            have HCP := Lib.hid cp
            have j0 : ∀ y : Held (Below wi.heap.size wi), y.w.cell? ⟨g, (jp + 1) * 6, none⟩ = some (.string jq) := fun y => (HCJ.out y 0 (by omega)).1
            have j1 : ∀ y : Held (Below wi.heap.size wi), y.w.cell? ⟨g, (jp + 1) * 6 + 1, none⟩ = some (.int .i64 jf) := fun y => (HCJ.out y 1 (by omega)).1
            have j2 : ∀ y : Held (Below wi.heap.size wi), y.w.cell? ⟨g, (jp + 1) * 6 + 2, none⟩ = some (.int .i64 jl) := fun y => (HCJ.out y 2 (by omega)).1
            have j3 : ∀ y : Held (Below wi.heap.size wi), y.w.cell? ⟨g, (jp + 1) * 6 + 3, none⟩ = some (.string jd) := fun y => (HCJ.out y 3 (by omega)).1
            have j4 : ∀ y : Held (Below wi.heap.size wi), y.w.cell? ⟨g, (jp + 1) * 6 + 4, none⟩ = some (.int .i64 jn) := fun y => (HCJ.out y 4 (by omega)).1
            have j5 : ∀ y : Held (Below wi.heap.size wi), y.w.cell? ⟨g, (jp + 1) * 6 + 5, none⟩ = some (.int .i64 jh) := fun y => (HCJ.out y 5 (by omega)).1
            have p0 : ∀ y : Held (Below wi.heap.size wi), y.w.cell? ⟨g, jp * 6, none⟩ = some (.string pq) := fun y => (HCP.out y 0 (by omega)).1
            have p1 : ∀ y : Held (Below wi.heap.size wi), y.w.cell? ⟨g, jp * 6 + 1, none⟩ = some (.int .i64 pf) := fun y => (HCP.out y 1 (by omega)).1
            have p2 : ∀ y : Held (Below wi.heap.size wi), y.w.cell? ⟨g, jp * 6 + 2, none⟩ = some (.int .i64 pl) := fun y => (HCP.out y 2 (by omega)).1
            have p3 : ∀ y : Held (Below wi.heap.size wi), y.w.cell? ⟨g, jp * 6 + 3, none⟩ = some (.string pd) := fun y => (HCP.out y 3 (by omega)).1
            have p4 : ∀ y : Held (Below wi.heap.size wi), y.w.cell? ⟨g, jp * 6 + 4, none⟩ = some (.int .i64 pn) := fun y => (HCP.out y 4 (by omega)).1
            have p5 : ∀ y : Held (Below wi.heap.size wi), y.w.cell? ⟨g, jp * 6 + 5, none⟩ = some (.int .i64 ph) := fun y => (HCP.out y 5 (by omega)).1
            clear cj cp
            cases hlv : befR ⟨jq, jf, jl, jd, jn, jh⟩ ⟨pq, pf, pl, pd, pn, ph⟩
            · have hout : Hid (Sort.insInner befR 0 k d = dj) := by
                show _ = _
                rw [← HI3.out]
                exact insInner_stop befR 0 (jp + 1) dj (.inr (by simp only [Nat.add_sub_cancel]; rw [HXJ.out, HXP.out]; exact hlv))
              rw [hlv] at HORD
              clear hlv
              go_wp2_with fail
              (refine wp_region_s (S := Below wi.heap.size wi) (by kernel_rfl) (by kernel_rfl) hS ?_; have hN : Nonempty (Held (Below wi.heap.size wi)) := ⟨⟨_, hS⟩⟩; skip; (repeat (go_big_quiet_step ((go_at_call 87; exact held_keep (HORD.out _))))); refine wpQuiet_nil ?_; rintro x ⟨⟨_, hx⟩, rfl⟩; clear hN)
              clear j0 j1 j2 j3 j4 j5 p0 p1 p2 p3 p4 p5 hlg
              have HBX := Lib.hid (HB3.out.trans (hx.mono (Nat.le_trans hbw HB3.out.size)))
              have HHX := Lib.hid (holdsK_below HH3.out hx hgl3)
              have hgx : g < x.heap.size := Nat.lt_of_lt_of_le hgl3 hx.size
              go_wp2_with fail
              go_roundw
              case rel => exact ⟨k + 1, dj, by go_num, by omega, HDS3.out, HDP3.out, HHX.out, hgx, HBX.out, by rw [← hout.out]; exact HI2⟩
              case measure => simp [intOf]; omega
            · rw [hlv] at HORD
              have HLV := Lib.hid hlv
              clear hlv
              go_wp2_with fail
              (refine wp_region_s (S := Below wi.heap.size wi) (by kernel_rfl) (by kernel_rfl) hS ?_; have hN : Nonempty (Held (Below wi.heap.size wi)) := ⟨⟨_, hS⟩⟩; skip; (repeat (go_big_quiet_step ((go_at_call 87; exact held_keep (HORD.out _))))); refine wpQuiet_nil ?_; rintro x ⟨⟨_, hx⟩, rfl⟩; clear hN)
              clear j0 j1 j2 j3 j4 j5 p0 p1 p2 p3 p4 p5 hlg
              go_wp2_with fail
              have hHx : HoldsK Rcd.cells 6 x g 0 dj := holdsK_below HH3.out hx hgl3
              have hBx : Below base w x := HB3.out.trans (hx.mono (Nat.le_trans hbw HB3.out.size))
              have hgx : g < x.heap.size := Nat.lt_of_lt_of_le hgl3 hx.size
              have hsw := swap_row rcd_len hHx (i := jp + 1) (j := jp) (by rw [HDS3.out]; omega) (by rw [HDS3.out]; omega)
              have hbs := setCells_below (setCells_below hBx hgb (dj[jp]!).cells (0 + (jp + 1) * 6)) hgb (dj[jp + 1]!).cells (0 + jp * 6)
              have hss : g < ((x.setCells g (0 + (jp + 1) * 6) (dj[jp]!).cells).setCells g (0 + jp * 6) (dj[jp + 1]!).cells).heap.size := by rw [setCells_size, setCells_size]; exact hgx
              have cj := fun c (hc : c < 6) => HoldsK.cell hHx (i := jp + 1) (c := c) (by rw [HDS3.out]; omega) hc
              have cp := fun c (hc : c < 6) => HoldsK.cell hHx (i := jp) (c := c) (by rw [HDS3.out]; omega) hc
              rw [HXJ.out] at cj hsw hbs hss
              rw [HXP.out] at cp hsw hbs hss
              simp only [World.setCells, Rcd.cells, Nat.zero_add, Nat.add_assoc, Nat.reduceAdd] at hsw hbs hss
              have HSW := Lib.hid hsw
              have HBS := Lib.hid hbs
              have HSS := Lib.hid hss
              simp only [Nat.zero_add] at cj cp
              have j0 : x.cell? ⟨g, (jp + 1) * 6, none⟩ = some (.string jq) := (cj 0 (by omega)).1
              have fj0 : x.frozen? ⟨g, (jp + 1) * 6, none⟩ = false := (cj 0 (by omega)).2
              have j1 : x.cell? ⟨g, (jp + 1) * 6 + 1, none⟩ = some (.int .i64 jf) := (cj 1 (by omega)).1
              have fj1 : x.frozen? ⟨g, (jp + 1) * 6 + 1, none⟩ = false := (cj 1 (by omega)).2
              have j2 : x.cell? ⟨g, (jp + 1) * 6 + 2, none⟩ = some (.int .i64 jl) := (cj 2 (by omega)).1
              have fj2 : x.frozen? ⟨g, (jp + 1) * 6 + 2, none⟩ = false := (cj 2 (by omega)).2
              have j3 : x.cell? ⟨g, (jp + 1) * 6 + 3, none⟩ = some (.string jd) := (cj 3 (by omega)).1
              have fj3 : x.frozen? ⟨g, (jp + 1) * 6 + 3, none⟩ = false := (cj 3 (by omega)).2
              have j4 : x.cell? ⟨g, (jp + 1) * 6 + 4, none⟩ = some (.int .i64 jn) := (cj 4 (by omega)).1
              have fj4 : x.frozen? ⟨g, (jp + 1) * 6 + 4, none⟩ = false := (cj 4 (by omega)).2
              have j5 : x.cell? ⟨g, (jp + 1) * 6 + 5, none⟩ = some (.int .i64 jh) := (cj 5 (by omega)).1
              have fj5 : x.frozen? ⟨g, (jp + 1) * 6 + 5, none⟩ = false := (cj 5 (by omega)).2
              have p0 : x.cell? ⟨g, jp * 6, none⟩ = some (.string pq) := (cp 0 (by omega)).1
              have fp0 : x.frozen? ⟨g, jp * 6, none⟩ = false := (cp 0 (by omega)).2
              have p1 : x.cell? ⟨g, jp * 6 + 1, none⟩ = some (.int .i64 pf) := (cp 1 (by omega)).1
              have fp1 : x.frozen? ⟨g, jp * 6 + 1, none⟩ = false := (cp 1 (by omega)).2
              have p2 : x.cell? ⟨g, jp * 6 + 2, none⟩ = some (.int .i64 pl) := (cp 2 (by omega)).1
              have fp2 : x.frozen? ⟨g, jp * 6 + 2, none⟩ = false := (cp 2 (by omega)).2
              have p3 : x.cell? ⟨g, jp * 6 + 3, none⟩ = some (.string pd) := (cp 3 (by omega)).1
              have fp3 : x.frozen? ⟨g, jp * 6 + 3, none⟩ = false := (cp 3 (by omega)).2
              have p4 : x.cell? ⟨g, jp * 6 + 4, none⟩ = some (.int .i64 pn) := (cp 4 (by omega)).1
              have fp4 : x.frozen? ⟨g, jp * 6 + 4, none⟩ = false := (cp 4 (by omega)).2
              have p5 : x.cell? ⟨g, jp * 6 + 5, none⟩ = some (.int .i64 ph) := (cp 5 (by omega)).1
              have fp5 : x.frozen? ⟨g, jp * 6 + 5, none⟩ = false := (cp 5 (by omega)).2
              clear cj cp hsw hbs hss hx hHx
              go_region
              go_wp2_with fail
              go_roundw
              case rel =>
                refine ⟨jp, swp dj (jp + 1) jp, ?_, by omega, by rw [Sort.size_swp]; exact HDS3.out, ?_, ?_, ?_, ?_, ?_⟩
                · go_num
                · exact fun q hq => (swp_all (P := fun y : Rcd => y ∈ V) (by rw [HDS3.out]; omega) (by rw [HDS3.out]; omega) (fun q hq => HDP3.out q (by rw [← HDS3.out]; exact hq)) q (by rw [HDS3.out]; exact hq))
                · refine holdsK_drew ?_
                  with_reducible exact HSW.out
                · refine lt_drew ?_
                  with_reducible exact HSS.out
                · refine Below.drew ?_
                  with_reducible exact HBS.out
                · show _ = _
                  have := insInner_go befR 0 (jp + 1) dj h0 (by simp only [Nat.add_sub_cancel]; rw [HXJ.out, HXP.out]; exact HLV.out)
                  simp only [Nat.add_sub_cancel] at this
                  rw [← HI3.out, this]
              case measure => simp [intOf]
          · obtain rfl : j = 0 := by omega
            have hout : Hid (Sort.insInner befR 0 k d = dj) := by
              show _ = _
              rw [← HI3.out]
              exact insInner_stop befR 0 0 dj (.inl (Nat.le_refl _))
            go_wp2_with fail
            (refine wp_region_s (S := Below wi.heap.size wi) (by kernel_rfl) (by kernel_rfl) hS ?_; have hN : Nonempty (Held (Below wi.heap.size wi)) := ⟨⟨_, hS⟩⟩; skip; (repeat (go_big_quiet_step (fail))); refine wpQuiet_nil ?_; rintro x ⟨⟨_, hx⟩, rfl⟩; clear hN)
            go_wp2_with fail
            go_roundw
            case rel => exact ⟨k + 1, dj, by go_num, by omega, HDS3.out, HDP3.out, holdsK_below HH3.out hx hgl3, Nat.lt_of_lt_of_le hgl3 hx.size, HB3.out.trans (hx.mono (Nat.le_trans hbw HB3.out.size)), by rw [← hout.out]; exact HI2⟩
            case measure => simp [intOf]; omega
      · obtain rfl : k = V.length := by omega
        have hend : Hid (sortR V = d.toList) := by
          show _ = _
          unfold sortR
          rw [← hI.out, insOuter_stop _ _ _ _ _ (Nat.lt_irrefl _)]
        go_wp2_with fail
        go_ret
        rw [hend.out]
        have hds := HDS.out
        refine ⟨rfl, by simpa using hds, fun x hx => ?_, fun _ => ⟨g, 0, rfl, hgl2, at_holdsK (R := rcdK) HH2.out⟩, HB2.out⟩
        obtain ⟨q, hq, rfl⟩ := List.getElem_of_mem hx
        have hq' : q < d.size := by simpa using hq
        have := HDP.out q (by omega)
        rw [getElem!_pos d q hq'] at this
        simpa using this
end Go.Proofs.YtocffknoeknabaaGreatDoor
