/-
  What have.valid and have.Check return.
-/
import Derived.Test.YtjjdffafibonhaaGreatDoorHvS
import Derived.Deep.CutRange
import Derived.Deep.CutBlock
namespace Go.Proofs.YtjjdffafibonhaaGreatDoor
open Go.RowKit

set_option maxHeartbeats 400000 in
theorem validPath_any (p : ByteArray) (w : World) : Calls Tryz.prog 58 #[.string p] w fun e w' => e = .returned (.bool (useH p)) ∧ w = w' := by
  by_cases hp : p.size ≤ 200
  · go_enter Tryz.func58, Tryz.ntmps58
    go_wp2_with (go_at_call 79; refine (valid_any _ _ (by omega)).mono ?_; rintro e w' ⟨rfl, rfl⟩)
    go_ret
    exact ⟨ret_bool (by simp [useH, hp]), rfl⟩
  · go_enter Tryz.func58, Tryz.ntmps58
    go_wp2_with fail
    go_ret
    exact ⟨ret_bool (by simp [useH, hp]), rfl⟩
set_option maxHeartbeats 400000 in
theorem hvalid_any (p l : ByteArray) (n : Int) (w : World) : Calls Tryz.prog 40 #[.agg #[.string p, .int .i64 n, .string l]] w fun e w' => e = .returned (.bool (okH ⟨p, n, l⟩)) ∧ Below w.heap.size w w' := by
  have HP := Lib.hid (fun w => validPath_any p w)
  have HL := Lib.hid (fun w => validPath_any l w)
  have HB : Hid (Below w.heap.size w (w.alloc (.cells #[.string p, .int .i64 n, .string l] 32))) := (Below.refl _ _).alloc (Nat.le_refl _) _
  have HO : Hid (okH ⟨p, n, l⟩ = (useH p && useH l && decide (1 ≤ n))) := rfl
  rw [HO.out]
  generalize useH p = u at *
  generalize useH l = v at *
  clear HO
  go_enter Tryz.func40, Tryz.ntmps40
  go_wp2_with fail
  refine (HP.out _).mono ?_
  rintro e w' ⟨rfl, rfl⟩
  cases u
  · go_wp2_with fail
    go_ret
    exact ⟨rfl, HB.out⟩
  · go_wp2_with fail
    refine (HL.out _).mono ?_
    rintro e w' ⟨rfl, rfl⟩
    cases v
    · go_wp2_with fail
      go_ret
      exact ⟨rfl, HB.out⟩
    · go_wp2_with fail
      go_ret
      exact ⟨by simp, HB.out⟩

/-! Check. -/
def encLo (dn : List Hv) : List (ByteArray × Value) := dn.map fun h => (h.loc, Value.agg #[])
theorem lookLo_none {dn : List Hv} {k : ByteArray} (h : dn.any (fun q => q.loc == k) = false) : look (encLo dn) k = none := by
  unfold look encLo
  rw [List.find?_map, Option.map_map]
  have : dn.find? ((fun x : ByteArray × Value => k == x.1) ∘ fun h => (h.loc, Value.agg #[])) = none := by
    rw [List.find?_eq_none]
    intro x hx hk
    rw [List.any_eq_false] at h
    have h1 : k = x.loc := (ba_beq _ _).1 hk
    exact h x hx ((ba_beq _ _).2 h1.symm)
  rw [this]
  rfl
theorem lookLo_some {dn : List Hv} {k : ByteArray} (h : dn.any (fun q => q.loc == k) = true) : look (encLo dn) k = some (Value.agg #[]) := by
  unfold look encLo
  rw [List.find?_map, Option.map_map]
  obtain ⟨x, hx, hk⟩ := List.any_eq_true.1 h
  have : ∃ y, dn.find? ((fun x : ByteArray × Value => k == x.1) ∘ fun h => (h.loc, Value.agg #[])) = some y := by
    rw [← Option.isSome_iff_exists, List.find?_isSome]
    exact ⟨x, hx, (ba_beq _ _).2 ((ba_beq _ _).1 hk).symm⟩
  obtain ⟨y, hy⟩ := this
  rw [hy]
  rfl
theorem chkH_step (dn : List Hv) (h : Hv) (t : List Hv) : chkH dn (h :: t) = if (!okH h || match dn.getLast? with | some q => decide (0 ≤ ordH q.path h.path) | none => false) then 340 else if dn.any (fun q => q.loc == h.loc) then 341 else chkH (dn ++ [h]) t := rfl
theorem putLo {dn : List Hv} {h : Hv} (hh : dn.any (fun q => q.loc == h.loc) = false) : put (encLo dn) h.loc (.agg #[]) = encLo (dn ++ [h]) := by
  have h1 := look_none (lookLo_none hh)
  rw [put_none h1]
  simp [encLo]

set_option maxRecDepth 100000 in
set_option maxHeartbeats 3200000 in
theorem hcheck_any (g : Gh) (x : World) (A : Option Addr) (c : Nat) (l : List Hv) (hr : Rd 3 g x A l.length (celH l)) (hn : l.length ≤ 4611686018427387904) :
    Calls Tryz.prog 18 #[.slice A l.length c] x fun e x' => e = .returned (.int .i64 (checkH l)) ∧ Below x.heap.size x x' := by
  have hmm := @run_makeMap Tryz.prog
  by_cases hbig : 1024 < l.length
  · have hb' : (1024 : Int) < (l.length : Int) := by omega
    have e : checkH l = 342 := by unfold checkH; rw [if_pos hbig]
    rw [e]
    go_enter Tryz.func18, Tryz.ntmps18
    go_wp2_with fail
    go_ret
    exact ⟨rfl, Below.refl _ _⟩
  have hb' : (l.length : Int) ≤ 1024 := by omega
  have e : checkH l = chkH [] l := by unfold checkH; rw [if_neg hbig]
  rw [e]
  clear e hbig
  have HM : Hid (MapIs x.heap.size (encLo []) (x.alloc (.map #[] 0))) := MapIs.new x
  have HB : Hid (Below x.heap.size x (x.alloc (.map #[] 0))) := (Below.refl _ _).alloc (Nat.le_refl _) _
  have HR := Lib.hid hr
  clear hr
  go_enter Tryz.func18, Tryz.ntmps18
  go_wp2_with fail
  clear hmm
  generalize x.alloc (.map #[] 0) = x1 at *
  go_loopw [14] (fun i wr => ∃ k : Nat, i = .int .i64 k ∧ k ≤ l.length ∧ Below x.heap.size x wr ∧ MapIs x.heap.size (encLo (l.take k)) wr ∧ Hid (chkH [] l = chkH (l.take k) (l.drop k)) ∧ (∀ h ∈ l.take k, okH h = true)) (fun i _ => l.length - (intOf i).toNat)
  case atStart => exact ⟨0, rfl, Nat.zero_le _, HB.out, HM.out, rfl, fun h hh => by cases hh⟩
  case round =>
    obtain ⟨k, rfl, hk, hbel, hmp, hchk, hok⟩ := hrel
    clear HM HB
    by_cases hlt : k < l.length
    · have hlt' : (k : Int) < (l.length : Int) := by omega
      obtain ⟨b, off, hA, _, hbx, hc⟩ := (HR.out.ext (Ext.of_below (fun _ => False) g hbel)).at_ (by omega)
      subst hA
      obtain ⟨h, hh⟩ : ∃ h, l[k] = h := ⟨_, rfl⟩
      have hg := List.getElem?_eq_getElem hlt
      rw [hh] at hg
      have c0 := hc _ _ (celH_get l k 0 h hg (by omega))
      have c1 := hc _ _ (celH_get l k 1 h hg (by omega))
      have c2 := hc _ _ (celH_get l k 2 h hg (by omega))
      simp only [Nat.add_zero, ← Nat.add_assoc] at c0 c1 c2
      have hdr : l.drop k = h :: l.drop (k + 1) := by rw [List.drop_eq_getElem_cons hlt, hh]
      have hts : l.take (k + 1) = l.take k ++ [h] := by rw [List.take_add_one, hg]; rfl
      have hch := hchk.out
      rw [hdr, chkH_step] at hch
      have HCH := Lib.hid hch
      have HTS := Lib.hid hts
      have HC := Lib.hid hc
      have HOK := Lib.hid hok
      have HMP := Lib.hid hmp
      have HBL := Lib.hid hbel
      clear hch hts hc hok hdr hchk hh hmp
      obtain ⟨p, n, lo⟩ := h
      dsimp only at c0 c1 c2
      have hbW : Below wr.heap.size wr (wr.alloc (.cells #[.string p, .int .i64 n, .string lo] 32)) := (Below.refl _ _).alloc (Nat.le_refl _) _
      have hbW2 : Below x.heap.size x (wr.alloc (.cells #[.string p, .int .i64 n, .string lo] 32)) := hbel.alloc hbel.size _
      have hvb : Blk wr.heap.size 32 [.string p, .int .i64 n, .string lo] (wr.alloc (.cells #[.string p, .int .i64 n, .string lo] 32)) := Blk.new wr 32 [.string p, .int .i64 n, .string lo]
      have HVB := Lib.hid hvb
      have HBW := Lib.hid hbW
      have HBW2 := Lib.hid hbW2
      have hsx := hbel.size
      clear hvb hbW hbW2 hbel
      have HVA : Hid (∀ y, Calls Tryz.prog 40 #[.agg #[.string p, .int .i64 n, .string lo]] y fun e w'' => e = .returned (.bool (okH ⟨p, n, lo⟩)) ∧ Below y.heap.size y w'') := fun y => hvalid_any p lo n y
      obtain ⟨bad, hbad⟩ : ∃ bad, bad = (!okH ⟨p, n, lo⟩ || match (l.take k).getLast? with | some q => decide (0 ≤ ordH q.path p) | none => false) := ⟨_, rfl⟩
      have HCH2 : Hid (chkH [] l = if bad then 340 else if (l.take k).any (fun q => q.loc == lo) then 341 else chkH (l.take (k + 1)) (l.drop (k + 1))) := by
        have h1 := HCH.out
        rw [← HTS.out, ← hbad] at h1
        exact h1
      have HBAD := Lib.hid hbad
      clear HCH hbad
      go_upto_region 7 with fail
      generalize wr.alloc (.cells #[.string p, .int .i64 n, .string lo] 32) = W at *
      have HBLT : Hid (b < W.heap.size) := Nat.lt_of_lt_of_le hbx HBW.out.size
      obtain ⟨vb, hvbe⟩ : ∃ vb, wr.heap.size = vb := ⟨_, rfl⟩
      have HVS := Lib.hid hvbe
      rw [hvbe] at HVB ⊢
      clear hvbe
      have hS : Below W.heap.size W W.drew := (Below.refl _ _).drew
      go_cut [14, 35] from 14 to 48 (fun i v wx => i = .int .i64 k ∧ v = .bool bad ∧ Below W.heap.size W wx)
      case first =>
        have HV2 : Hid (∀ y : Held (Below W.heap.size W), Calls Tryz.prog 40 #[.agg #[.string p, .int .i64 n, .string lo]] y.w fun e w'' => e = .returned (.bool (okH ⟨p, n, lo⟩)) ∧ ∃ z : Held (Below W.heap.size W), w'' = z.w) :=
          fun y => held_below (fun a b h1 h2 => h1.trans (h2.mono h1.size)) (HVA.out y.w)
        cases ho : okH ⟨p, n, lo⟩
        · have hbt : bad = true := by rw [HBAD.out, ho]; rfl
          rw [ho] at HV2
          have HBT := Lib.hid hbt
          clear hbt ho HVA
          go_wp2_with fail
          (refine wp_region_s (S := Below W.heap.size W) (by kernel_rfl) (by kernel_rfl) hS ?_; have hN : Nonempty (Held (Below W.heap.size W)) := ⟨⟨_, hS⟩⟩; (have v0 : ∀ y : Held (Below W.heap.size W), y.w.cell? ⟨vb, 0, none⟩ = some (.string p) := fun y => (((bcell y.ok).1 vb 0 HVB.out.lt).trans (HVB.out.cell 0)); have v1 : ∀ y : Held (Below W.heap.size W), y.w.cell? ⟨vb, 1, none⟩ = some (.int .i64 n) := fun y => (((bcell y.ok).1 vb 1 HVB.out.lt).trans (HVB.out.cell 1)); have v2 : ∀ y : Held (Below W.heap.size W), y.w.cell? ⟨vb, 2, none⟩ = some (.string lo) := fun y => (((bcell y.ok).1 vb 2 HVB.out.lt).trans (HVB.out.cell 2))); (repeat (go_big_quiet_step ((go_at_call 40; exact HV2.out _)))); refine wpQuiet_nil ?_; rintro _ ⟨⟨x, hx⟩, rfl⟩; clear hN)
          clear v0 v1 v2
          go_wp2_with fail
          go_meet
          case rel => exact ⟨rfl, by rw [HBT.out], hx⟩
        · by_cases hk0 : k = 0
          · subst hk0
            have hbt : bad = false := by rw [HBAD.out, ho]; rfl
            rw [ho] at HV2
            have HBT := Lib.hid hbt
            clear hbt ho HVA
            go_wp2_with fail
            (refine wp_region_s (S := Below W.heap.size W) (by kernel_rfl) (by kernel_rfl) hS ?_; have hN : Nonempty (Held (Below W.heap.size W)) := ⟨⟨_, hS⟩⟩; (have v0 : ∀ y : Held (Below W.heap.size W), y.w.cell? ⟨vb, 0, none⟩ = some (.string p) := fun y => (((bcell y.ok).1 vb 0 HVB.out.lt).trans (HVB.out.cell 0)); have v1 : ∀ y : Held (Below W.heap.size W), y.w.cell? ⟨vb, 1, none⟩ = some (.int .i64 n) := fun y => (((bcell y.ok).1 vb 1 HVB.out.lt).trans (HVB.out.cell 1)); have v2 : ∀ y : Held (Below W.heap.size W), y.w.cell? ⟨vb, 2, none⟩ = some (.string lo) := fun y => (((bcell y.ok).1 vb 2 HVB.out.lt).trans (HVB.out.cell 2))); (repeat (go_big_quiet_step ((go_at_call 40; exact HV2.out _)))); refine wpQuiet_nil ?_; rintro _ ⟨⟨x, hx⟩, rfl⟩; clear hN)
            clear v0 v1 v2
            go_wp2_with fail
            go_meet
            case rel => exact ⟨rfl, by rw [HBT.out], hx⟩
          · obtain ⟨k', rfl⟩ : ∃ k', k = k' + 1 := ⟨k - 1, by omega⟩
            have hg2 : l[k']? = some l[k'] := List.getElem?_eq_getElem (by omega)
            obtain ⟨h2, hh2⟩ : ∃ h2, l[k'] = h2 := ⟨_, rfl⟩
            rw [hh2] at hg2
            have u0 := HC.out _ _ (celH_get l k' 0 h2 hg2 (by omega))
            have u1 := HC.out _ _ (celH_get l k' 1 h2 hg2 (by omega))
            have u2 := HC.out _ _ (celH_get l k' 2 h2 hg2 (by omega))
            simp only [Nat.add_zero, ← Nat.add_assoc] at u0 u1 u2
            have hmem : h2 ∈ l.take (k' + 1) := by rw [List.take_add_one, hg2]; simp
            have hok2 := HOK.out h2 hmem
            have hgl : (l.take (k' + 1)).getLast? = some h2 := by rw [List.take_add_one, hg2]; simp
            obtain ⟨p2, n2, lo2⟩ := h2
            dsimp only at u0 u1 u2
            have hord : ordH p2 p = pcmp p2.data.toList p.data.toList := ordH_valid (okH_path hok2) (okH_path ho)
            have hbt : bad = decide (0 ≤ pcmp p2.data.toList p.data.toList) := by
              rw [HBAD.out, ho, hgl]
              dsimp only
              rw [hord]
              rfl
            have HU : Hid (W.cell? ⟨b, off + k' * 3, none⟩ = some (.string p2) ∧ W.cell? ⟨b, off + k' * 3 + 1, none⟩ = some (.int .i64 n2) ∧ W.cell? ⟨b, off + k' * 3 + 2, none⟩ = some (.string lo2)) :=
              ⟨(HBW.out.cell (p := ⟨b, off + k' * 3, none⟩) hbx).trans u0, (HBW.out.cell (p := ⟨b, off + k' * 3 + 1, none⟩) hbx).trans u1, (HBW.out.cell (p := ⟨b, off + k' * 3 + 2, none⟩) hbx).trans u2⟩
            have HCM : Hid (∀ y : Held (Below W.heap.size W), Calls Tryz.prog 42 #[.agg #[.string p2, .int .i64 n2, .string lo2], .agg #[.string p, .int .i64 n, .string lo]] y.w fun e w'' => e = .returned (.int .i64 (pcmp p2.data.toList p.data.toList)) ∧ ∃ z : Held (Below W.heap.size W), w'' = z.w) := fun y => by
              refine (hcompare_any ⟨p2, n2, lo2⟩ ⟨p, n, lo⟩ hok2 ho y.w).mono ?_
              rintro e w' ⟨rfl, q, os', rfl⟩
              refine ⟨rfl, ⟨Sort.grow (y.w.drewN q) os', y.ok.trans ⟨rfl, rfl, rfl, ?_, fun b hb => ?_⟩⟩, rfl⟩
              · show y.w.heap.size ≤ (y.w.heap ++ os').size
                simp
              · show (y.w.heap ++ os')[b]? = _
                rw [Array.getElem?_append_left (Nat.lt_of_lt_of_le hb y.ok.size)]
            rw [ho] at HV2
            have HBT := Lib.hid hbt
            clear hbt ho HVA u0 u1 u2 hgl hg2 hh2 hord hok2 hmem c0 c1 c2 hk0
            generalize pcmp p2.data.toList p.data.toList = pc at *
            go_wp2_with fail
            (refine wp_region_s (S := Below W.heap.size W) (by kernel_rfl) (by kernel_rfl) hS ?_; have hN : Nonempty (Held (Below W.heap.size W)) := ⟨⟨_, hS⟩⟩; (have v0 : ∀ y : Held (Below W.heap.size W), y.w.cell? ⟨vb, 0, none⟩ = some (.string p) := fun y => (((bcell y.ok).1 vb 0 HVB.out.lt).trans (HVB.out.cell 0)); have v1 : ∀ y : Held (Below W.heap.size W), y.w.cell? ⟨vb, 1, none⟩ = some (.int .i64 n) := fun y => (((bcell y.ok).1 vb 1 HVB.out.lt).trans (HVB.out.cell 1)); have v2 : ∀ y : Held (Below W.heap.size W), y.w.cell? ⟨vb, 2, none⟩ = some (.string lo) := fun y => (((bcell y.ok).1 vb 2 HVB.out.lt).trans (HVB.out.cell 2)); have u0 : ∀ y : Held (Below W.heap.size W), y.w.cell? ⟨b, off + k' * 3, none⟩ = some (.string p2) := fun y => (((bcell y.ok).1 b _ HBLT.out).trans HU.out.1); have u1 : ∀ y : Held (Below W.heap.size W), y.w.cell? ⟨b, off + k' * 3 + 1, none⟩ = some (.int .i64 n2) := fun y => (((bcell y.ok).1 b _ HBLT.out).trans HU.out.2.1); have u2 : ∀ y : Held (Below W.heap.size W), y.w.cell? ⟨b, off + k' * 3 + 2, none⟩ = some (.string lo2) := fun y => (((bcell y.ok).1 b _ HBLT.out).trans HU.out.2.2)); (repeat (go_big_quiet_step ((first | (go_at_call 40; exact HV2.out _) | (go_at_call 42; exact HCM.out _))))); refine wpQuiet_nil ?_; rintro _ ⟨⟨x, hx⟩, rfl⟩; clear hN)
            clear v0 v1 v2 u0 u1 u2
            go_wp2_with fail
            go_meet
            case rel => exact ⟨rfl, by rw [HBT.out], hx⟩
      case rest =>
        obtain ⟨rfl, rfl, hwx⟩ := hcut
        have hmx : x.heap.size < wr.heap.size := HMP.out.lt
        have hWs := HBW.out.size
        have hbW2 : Below x.heap.size W wc := hwx.mono (by omega)
        have HBC := Lib.hid (HBW2.out.trans hbW2)
        have HMC : Hid (MapIs x.heap.size (encLo (l.take k)) wc) := HMP.out.of_block ((hwx.block x.heap.size (by omega)).trans (HBW.out.block _ hmx))
        have v0 : wc.cell? ⟨vb, 0, none⟩ = some (.string p) := ((bcell hwx).1 vb 0 HVB.out.lt).trans (HVB.out.cell 0)
        have v1 : wc.cell? ⟨vb, 1, none⟩ = some (.int .i64 n) := ((bcell hwx).1 vb 1 HVB.out.lt).trans (HVB.out.cell 1)
        have v2 : wc.cell? ⟨vb, 2, none⟩ = some (.string lo) := ((bcell hwx).1 vb 2 HVB.out.lt).trans (HVB.out.cell 2)
        have hwcs := hwx.size
        have hvlt := HVB.out.lt
        have hvw : vb < wc.heap.size := by omega
        have v2a : (wc.alloc (.cells #[] 78)).cell? ⟨vb, 2, none⟩ = some (.string lo) := (((Below.refl wc.heap.size wc).alloc (Nat.le_refl _) (.cells #[] 78)).cell (p := ⟨vb, 2, none⟩) hvw).trans v2
        clear hwx hbW2 hS HVA HVB
        cases bad
        · cases ha : (l.take k).any (fun q => q.loc == lo)
          · have HLK := Lib.hid (lookLo_none ha)
            have hput := putLo (h := ⟨p, n, lo⟩) ha
            have HPUT := Lib.hid hput
            have hnx : chkH [] l = chkH (l.take (k + 1)) (l.drop (k + 1)) := by
              have h1 := HCH2.out
              rw [ha] at h1
              exact h1
            have HNX := Lib.hid hnx
            have hokp : okH ⟨p, n, lo⟩ = true := by
              have h1 := HBAD.out
              cases ho : okH ⟨p, n, lo⟩
              · rw [ho] at h1; cases h1
              · rfl
            have HOKP := Lib.hid hokp
            have HMA : Hid (MapIs x.heap.size (encLo (l.take k)) (wc.alloc (.cells #[] 78))) := HMC.out.alloc _
            clear ha hput hnx hokp HCH2 HBAD
            go_wp2_with (first | (with_reducible refine wpList_look_none rfl (.tmp 37) (.tmp 39) 77 true rfl 9 78 Tryz.underlying77 Tryz.underlying9 x.heap.size (encLo (l.take k)) rfl HMC.out (.agg #[]) (by kernel_rfl) lo rfl HLK.out ?_) | (with_reducible refine wpList_put rfl (.tmp 44) (.tmp 46) (.tmp 47) 77 rfl 9 78 Tryz.underlying77 Tryz.underlying9 x.heap.size (encLo (l.take k)) rfl HMA.out lo rfl (.agg #[]) rfl ?_; intro w3 hm3 hg3))
            go_round
            case rel =>
              rw [HPUT.out, ← HTS.out] at hm3
              refine ⟨k + 1, by go_num, by omega, ?_, hm3, HNX.out, ?_⟩
              · exact (HBC.out.alloc HBC.out.size _).grown hg3 (by simp; have := HBC.out.size; omega) (fun q hq => by injection hq with hq; omega)
              · intro a ha
                rw [HTS.out] at ha
                rcases List.mem_append.1 ha with ha | ha
                · exact HOK.out a ha
                · rw [List.mem_singleton] at ha
                  subst ha
                  exact HOKP.out
            case measure => simp [intOf]; omega
          · have HLK := Lib.hid (lookLo_some ha)
            have hres : chkH [] l = 341 := by
              have h1 := HCH2.out
              rw [ha] at h1
              exact h1
            have HRES := Lib.hid hres
            clear ha hres HCH2 HBAD
            go_wp2_with (with_reducible refine wpList_look_some rfl (.tmp 37) (.tmp 39) 77 true rfl 9 78 Tryz.underlying77 Tryz.underlying9 x.heap.size (encLo (l.take k)) rfl HMC.out lo rfl (.agg #[]) HLK.out ?_)
            go_ret
            exact ⟨by rw [HRES.out]; rfl, HBC.out.alloc HBC.out.size _⟩
        · have hres : chkH [] l = 340 := HCH2.out
          have HRES := Lib.hid hres
          clear hres HCH2 HBAD
          go_wp2_with fail
          go_ret
          exact ⟨by rw [HRES.out]; rfl, HBC.out⟩
    · obtain rfl : k = l.length := by omega
      have hch := hchk.out
      rw [List.drop_length] at hch
      have HCH := Lib.hid hch
      clear hch
      go_wp2_with fail
      go_ret
      exact ⟨by rw [HCH.out]; rfl, hbel⟩

end Go.Proofs.YtjjdffafibonhaaGreatDoor
