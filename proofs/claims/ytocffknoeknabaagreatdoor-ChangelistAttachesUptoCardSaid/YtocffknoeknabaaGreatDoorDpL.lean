/-
  The walk of the reference's Log.
-/
import Derived.Test.YtocffknoeknabaaGreatDoorCgF
import Derived.Test.YtocffknoeknabaaGreatDoorCgA
import Derived.OwnWalk
import Derived.Outline
namespace Go.Proofs.YtocffknoeknabaaGreatDoor
open Go.RowKit

theorem Tryz.infoRev : (Tryz.prog.info? 74).map (fun i => (i.zero, i.size, i.bytes)) = some (some zeroRev.val, 12, 96) := by kernel_rfl
theorem path_tl (a b : ByteArray) : (a.toList == b.toList) = (a == b) := by
  rw [toList_eq, toList_eq, Bool.eq_iff_iff, beq_iff_eq, ba_beq]
  constructor
  · exact ba_data
  · rintro rfl; rfl
theorem log_take (d : List Rev) (p : ByteArray) (k : Nat) (h : k < d.length) : logD (d.take (k + 1)) p = logD (d.take k) p ++ (if (d[k].path == p) = true then [d[k]] else []) := by
  rw [List.take_succ_eq_append_getElem h, log_snoc]
  split <;> simp
theorem log_len (d : List Rev) (p : ByteArray) : (logD d p).length ≤ d.length := List.length_filter_le _ _
set_option maxRecDepth 100000 in
set_option maxHeartbeats 3200000 in
theorem rlog_any (d : List Rev) (p : ByteArray) (A B : Option Addr) (ca nb cb : Nat) (w : World) (h : revK.In A d w) (hn : d.length ≤ 1000000) :
    Calls Tryz.prog 96 #[.agg #[.slice A d.length ca, .slice B nb cb], .string p] w (RetRows revK (logD d p) w) := by
  have HI := Lib.hid h
  clear h
  obtain ⟨i0, hi0, hz0, hz1, hz2⟩ := info_parts Tryz.infoRev
  go_enter Tryz.func96, Tryz.ntmps96
  go_wp2_with fail
  go_loopw [5, 11] (fun s i wr => ∃ k : Nat, k ≤ d.length ∧ i = .int .i64 k ∧ wr.ownsRow (w.heap.size + 1) 74 12 s (logD (d.take k) p).length (revK.flat (logD (d.take k) p)) ∧ Below w.heap.size w wr ∧ w.heap.size + 1 ≤ wr.heap.size) (fun _ i _ => d.length - (intOf i).toNat)
  case atStart => exact ⟨0, Nat.zero_le _, rfl, by simp [logD, RowK.flat, World.ownsRow], (Below.refl _ _).alloc (Nat.le_refl _) _, by simp⟩
  case round =>
    obtain ⟨k, hk, rfl, ho, hB, hsz⟩ := hrel
    by_cases hlt : k < d.length
    · obtain ⟨b, off, rfl, hbl, hat⟩ := HI.out (by omega)
      have hg := List.getElem?_eq_getElem hlt
      have HS := Lib.hid (log_take d p k hlt)
      have hcl : (logD (d.take k) p).length ≤ k := by
        have := log_len (d.take k) p
        rwa [List.length_take_of_le (by omega)] at this
      have HL := Lib.hid (RowK.lit2 revK wr (.cells (revK.cells d[k]).toArray 74) d[k] 74)
      generalize hq : d[k] = v at *
      have hc := fun j (u : Value) (hj : v.cells[j]? = some u) => ((hat.below hB hbl).get hg hj)
      have c0 := hc 0 _ rfl
      have c1 := hc 1 _ rfl
      have c2 := hc 2 _ rfl
      have c3 := hc 3 _ rfl
      have c4 := hc 4 _ rfl
      have c5 := hc 5 _ rfl
      have c6 := hc 6 _ rfl
      have c7 := hc 7 _ rfl
      have c8 := hc 8 _ rfl
      have c9 := hc 9 _ rfl
      have c10 := hc 10 _ rfl
      have c11 := hc 11 _ rfl
      have e12 : revK.n = 12 := rfl
      simp only [e12, Nat.add_zero] at c0 c1 c2 c3 c4 c5 c6 c7 c8 c9 c10 c11
      clear hc hat hg hq e12
      have HB := Lib.hid hB
      have HO := Lib.hid ho
      clear hB ho
      cases hv : (v.path.toList == p.toList)
      · have HV : Hid ((v.path == p) = false) := by show _ = _; rw [← path_tl]; exact hv
        go_wp2_with fail
        go_roundw
        case rel => exact ⟨k + 1, by omega, by go_num, by rw [HS.out, HV.out]; simpa using HO.out.alloc _, HB.out.alloc (by omega) _, by simp; omega⟩
        case measure => simp [intOf]; omega
      · have HV : Hid ((v.path == p) = true) := by show _ = _; rw [← path_tl]; exact hv
        go_wp2_with (at_builtin; go_loud (refine wpList_append_own _ rfl _ _ 34 rfl (w.heap.size + 1) 74 i0 zeroRev.val 12 96 Tryz.underlying34 hi0 hz0 hz1 hz2 rfl (by decide) _ _ _ rfl ((HO.out.alloc _).alloc _) ⟨wr.heap.size + 1, 0, none⟩ 1 1 (revK.cells v) rfl rfl HL.out.1 HL.out.2 (by unfold maxLen; omega) (by omega) (by simp; omega) ?_); intro v2 w2 ho2 hg2 _)
        have hB2 : Below w.heap.size w w2 := ((HB.out.alloc (by omega) _).alloc (by simp; omega) _).grown hg2 (by simp; omega) (fun j e => by have := (HO.out.lt j e).1; omega)
        have hz2 := hg2.size
        simp at hz2
        rw [RowK.flat_snoc] at ho2
        go_roundw
        case rel => exact ⟨k + 1, by omega, by go_num, by rw [HS.out, HV.out]; simpa using ho2, hB2, by omega⟩
        case measure => simp [intOf]; omega
    · obtain rfl : k = d.length := by omega
      have ho' := ho
      rw [List.take_length] at ho'
      have HO := Lib.hid ho'
      clear ho ho'
      rcases ownsRow_cases HO.out with ⟨rfl, h0⟩ | ⟨g, cp, rfl, hgb, hgl, hgc, hgm⟩
      · go_wp2_with fail
        go_ret
        exact ⟨none, 0, by rw [h0]; rfl, by rw [List.eq_nil_of_length_eq_zero h0]; exact RowK.In.nil _ _, hB⟩
      · go_wp2_with fail
        go_ret
        exact ⟨_, _, rfl, RowK.In.of_row HO.out, hB⟩
end Go.Proofs.YtocffknoeknabaaGreatDoor
