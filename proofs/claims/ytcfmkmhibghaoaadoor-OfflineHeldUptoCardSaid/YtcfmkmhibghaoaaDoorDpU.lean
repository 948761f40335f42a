/-
  The program's Log, whole: on a depot whose numbers ascend it gives what the reference's Log gives.
-/
import Derived.Test.YtcfmkmhibghaoaaDoorDpT
namespace Go.Proofs.YtcfmkmhibghaoaaDoor
open Go.RowKit

set_option maxRecDepth 100000 in
set_option maxHeartbeats 1600000 in
theorem stab2_any (V : List Rev) (A : Option Addr) (cap : Nat) (w : World) (hI : revK.In A V w) (hV : AscN V) (hn : V.length ≤ 1000000) :
    Calls Tryd.prog 53 #[.slice A V.length cap, .int .i64 V.length, .func (.func 40) #[] #[]] w fun e w' => e = .returned (.tuple #[]) ∧ Below w.heap.size w w' := by
  have HI := Lib.hid hI
  have HV := Lib.hid hV
  clear hI hV
  go_enter Tryd.func53, Tryd.ntmps53
  go_wp2_with fail
  go_loopw [7, 8] (fun a b wr => ∃ q : Nat, a = .int .i64 q ∧ b = .int .i64 ((q + 20 : Nat) : Int) ∧ q ≤ V.length ∧ Below w.heap.size w wr) (fun a _ _ => V.length - (intOf a).toNat)
  case atStart => exact ⟨0, rfl, rfl, Nat.zero_le _, Below.refl _ _⟩
  case round =>
    obtain ⟨q, rfl, rfl, hq, hB⟩ := hrel
    have HB := Lib.hid hB
    clear hB
    by_cases hlt : q + 20 ≤ V.length
    · go_wp2_with fail
      refine (ins_any V A cap q (q + 20) wr (HI.out.below HB.out) HV.out (by omega) hlt hn).mono ?_
      rintro e w2 ⟨rfl, hB2⟩
      have HB2 := Lib.hid (HB.out.trans (hB2.mono HB.out.size))
      clear hB2
      go_wp2_with fail
      go_roundw
      case rel => exact ⟨q + 20, rfl, by go_num, hlt, HB2.out⟩
      case measure => simp [intOf]; omega
    · go_wp2_with fail
      refine (ins_any V A cap q V.length wr (HI.out.below HB.out) HV.out hq (Nat.le_refl _) hn).mono ?_
      rintro e w2 ⟨rfl, hB2⟩
      have HB2 := Lib.hid (HB.out.trans (hB2.mono HB.out.size))
      clear hB2 HB
      go_wp2_with fail
      go_loopw [6] (fun s wr => ∃ t : Nat, s = .int .i64 t ∧ 1 ≤ t ∧ t ≤ 2000000 ∧ Below w.heap.size w wr) (fun s _ => V.length - (intOf s).toNat)
      case atStart => exact ⟨20, rfl, by omega, by omega, HB2.out⟩
      case round =>
        obtain ⟨t, rfl, ht1, ht2, hB⟩ := hrel
        have HB := Lib.hid hB
        clear hB
        by_cases hts : t < V.length
        · obtain ⟨g, off, rfl, hgl, hat⟩ := HI.out (by omega)
          have HAT := Lib.hid hat
          have HSY := Lib.hid (fun a m b w h1 h2 h3 hb => sym_any V g off cap _ hat hgl HV.out hn (b - a) a m b (Nat.le_refl _) h1 h2 h3 w hb)
          clear hat
          go_wp2_with fail
          go_loopw [7, 8] (fun a b wr => ∃ p : Nat, a = .int .i64 p ∧ b = .int .i64 ((p + 2 * t : Nat) : Int) ∧ p ≤ V.length ∧ Below w.heap.size w wr) (fun a _ _ => V.length - (intOf a).toNat)
          case atStart => exact ⟨0, rfl, by go_num, Nat.zero_le _, HB.out⟩
          case round =>
            obtain ⟨p, rfl, rfl, hp, hB⟩ := hrel
            have HB := Lib.hid hB
            clear hB
            by_cases hlt : p + 2 * t ≤ V.length
            · go_wp2_with fail
              refine (HSY.out p (p + t) (p + 2 * t) _ (by omega) (by omega) hlt HB.out).mono ?_
              rintro e w3 ⟨rfl, hB3⟩
              have HB3 := Lib.hid (HB.out.trans (hB3.mono HB.out.size))
              clear hB3
              go_wp2_with fail
              go_roundw
              case rel => exact ⟨p + 2 * t, rfl, by go_num, hlt, HB3.out⟩
              case measure => simp [intOf]; omega
            · by_cases hm : p + t < V.length
              · go_wp2_with fail
                refine (HSY.out p (p + t) V.length _ (by omega) (by omega) (Nat.le_refl _) HB.out).mono ?_
                rintro e w3 ⟨rfl, hB3⟩
                have HB3 := Lib.hid (HB.out.trans (hB3.mono HB.out.size))
                clear hB3
                go_wp2_with fail
                go_roundw
                case rel => exact ⟨2 * t, by go_num, by omega, by omega, HB3.out⟩
                case measure => simp [intOf]; omega
              · go_wp2_with fail
                go_roundw
                case rel => exact ⟨2 * t, by go_num, by omega, by omega, HB.out⟩
                case measure => simp [intOf]; omega
        · go_wp2_with fail
          refine bodyPost_end (results_none rfl _ _ _) rfl ?_
          exact ⟨rfl, HB.out⟩
set_option maxRecDepth 100000 in
theorem stab_any (V : List Rev) (A : Option Addr) (cap : Nat) (w : World) (hI : revK.In A V w) (hV : AscN V) (hn : V.length ≤ 1000000) :
    Calls Tryd.prog 39 #[.slice A V.length cap, .func (.func 40) #[] #[]] w fun e w' => e = .returned (.tuple #[]) ∧ Below w.heap.size w w' := by
  have H := Lib.hid (stab2_any V A cap w hI hV hn)
  clear hI hV
  go_enter Tryd.func39, Tryd.ntmps39
  go_wp2_with fail
  refine H.out.mono ?_
  rintro e w2 ⟨rfl, hB2⟩
  go_wp2_with fail
  refine bodyPost_end (results_none rfl _ _ _) rfl ?_
  exact ⟨rfl, hB2⟩
theorem asc_ascN {d : List Rev} (h : Asc d) (p : ByteArray) : AscN (logD d p) := fun i j x y hij hx hy => by
  have hp := h p
  generalize logD d p = l at *
  have h1 := congrArg (fun z => z[i]?) hp
  have h2 := congrArg (fun z => z[j]?) hp
  have hi := (List.getElem?_eq_some_iff.1 hx).1
  have hj := (List.getElem?_eq_some_iff.1 hy).1
  simp only [List.getElem?_map, hx, hy, Option.map_some, List.getElem?_range hi, List.getElem?_range hj, Option.some.injEq] at h1 h2
  omega
set_option maxRecDepth 100000 in
set_option maxHeartbeats 1600000 in
theorem hlog_any (d : List Rev) (p : ByteArray) (A B : Option Addr) (ca nb cb : Nat) (w : World) (h : revK.In A d w) (hn : d.length ≤ 1000000) (hasc : Asc d) :
    Calls Tryd.prog 21 #[.agg #[.slice A d.length ca, .slice B nb cb], .string p] w (RetRows revK (logD d p) w) := by
  have HI := Lib.hid h
  have HASC := Lib.hid (asc_ascN hasc p)
  clear h hasc
  obtain ⟨i0, hi0, hz0, hz1, hz2⟩ := info_parts Tryd.infoRev
  go_enter Tryd.func21, Tryd.ntmps21
  go_wp2_with fail
  go_loopw [5, 11] (fun s i wr => ∃ k : Nat, k ≤ d.length ∧ i = .int .i64 k ∧ wr.ownsRow (w.heap.size + 1) 81 12 s (logD (d.take k) p).length (revK.flat (logD (d.take k) p)) ∧ Below w.heap.size w wr ∧ w.heap.size + 1 ≤ wr.heap.size) (fun _ i _ => d.length - (intOf i).toNat)
  case atStart => exact ⟨0, Nat.zero_le _, rfl, by simp [logD, RowK.flat, World.ownsRow], (Below.refl _ _).alloc (Nat.le_refl _) _, by simp⟩
  case round =>
    obtain ⟨k, hk, rfl, ho, hB, hsz⟩ := hrel
    by_cases hlt : k < d.length
    · obtain ⟨b, off, rfl, hbl, hat⟩ := HI.out (by omega)
      have hg := List.getElem?_eq_getElem hlt
      have HS := Lib.hid (log_take d p k hlt)
      have hcl : (logD (d.take k) p).length ≤ k := by
        have := log_len (d.take k) p
        rwa [List.length_take_of_le (by omega)] at this
      have HL := Lib.hid (RowK.lit2 revK wr (.cells (revK.cells d[k]).toArray 81) d[k] 81)
      generalize hq : d[k] = v at *
      have hat := hat.below hB hbl
      (have hcv := fun j (u : Value) (hj : (v).cells[j]? = some u) => ((hat).get hg hj); have c0 := hcv 0 _ rfl; have c1 := hcv 1 _ rfl; have c2 := hcv 2 _ rfl; have c3 := hcv 3 _ rfl; have c4 := hcv 4 _ rfl; have c5 := hcv 5 _ rfl; have c6 := hcv 6 _ rfl; have c7 := hcv 7 _ rfl; have c8 := hcv 8 _ rfl; have c9 := hcv 9 _ rfl; have c10 := hcv 10 _ rfl; have c11 := hcv 11 _ rfl; have e12 : revK.n = 12 := rfl; simp only [e12, Nat.add_zero] at c0 c1 c2 c3 c4 c5 c6 c7 c8 c9 c10 c11; clear hcv e12)
      clear hat hg hq
      have HB := Lib.hid hB
      have HO := Lib.hid ho
      clear hB ho
      cases hv : (v.path.toList == p.toList)
      · have HV : Hid ((v.path == p) = false) := by show _ = _; rw [← path_tl]; exact hv
        go_wp2_with fail
        go_roundw
        case rel => exact ⟨k + 1, by omega, by go_num, by rw [HS.out, HV.out]; simpa using HO.out.alloc _, HB.out.alloc (by omega) _, by simp; omega⟩
        case measure => simp [intOf]; omega
      · have HV : Hid ((v.path == p) = true) := by show _ = _; rw [← path_tl]; exact hv
        go_wp2_with (at_builtin; go_loud (refine wpList_append_own _ rfl _ _ 29 rfl (w.heap.size + 1) 81 i0 zeroRev.val 12 96 Tryd.underlying29 hi0 hz0 hz1 hz2 rfl (by decide) _ _ _ rfl ((HO.out.alloc _).alloc _) ⟨wr.heap.size + 1, 0, none⟩ 1 1 (revK.cells v) rfl rfl HL.out.1 HL.out.2 (by unfold maxLen; omega) (by omega) (by simp; omega) ?_); intro v2 w2 ho2 hg2 _)
        have hB2 : Below w.heap.size w w2 := ((HB.out.alloc (by omega) _).alloc (by simp; omega) _).grown hg2 (by simp; omega) (fun j e => by have := (HO.out.lt j e).1; omega)
        have hz2 := hg2.size
        simp at hz2
        rw [RowK.flat_snoc] at ho2
        go_roundw
        case rel => exact ⟨k + 1, by omega, by go_num, by rw [HS.out, HV.out]; simpa using ho2, hB2, by omega⟩
        case measure => simp [intOf]; omega
    · obtain rfl : k = d.length := by omega
      have ho' := ho
      rw [List.take_length] at ho'
      have HO := Lib.hid ho'
      have HBR := Lib.hid hB
      have hll := log_len d p
      clear ho ho' hB
      have hc : ∃ (A2 : Option Addr) (c2 : Nat), u5 = .slice A2 (logD d p).length c2 ∧ revK.In A2 (logD d p) wr := by
        rcases ownsRow_cases HO.out with ⟨rfl, h0⟩ | ⟨g, cp, rfl, hgb, hgl, hgc, hgm⟩
        · exact ⟨none, 0, by rw [h0], by rw [List.eq_nil_of_length_eq_zero h0]; exact RowK.In.nil _ _⟩
        · exact ⟨_, _, rfl, RowK.In.of_row HO.out⟩
      obtain ⟨A2, c2, rfl, hI2⟩ := hc
      have HI2 := Lib.hid hI2
      have HS := Lib.hid (stab_any (logD d p) A2 c2 wr hI2 HASC.out (by omega))
      clear hI2
      generalize logD d p = l at *
      go_wp2_with fail
      refine HS.out.mono ?_
      rintro e w2 ⟨rfl, hB2⟩
      have HB2 := Lib.hid (HBR.out.trans (hB2.mono HBR.out.size))
      have HI3 := Lib.hid (HI2.out.below hB2)
      clear hB2
      go_wp2_with fail
      go_ret
      exact ⟨_, _, rfl, HI3.out, HB2.out⟩
end Go.Proofs.YtcfmkmhibghaoaaDoor
