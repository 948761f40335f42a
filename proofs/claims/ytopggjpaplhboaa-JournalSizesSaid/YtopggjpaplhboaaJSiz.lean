/-
  The walk of JournalSizes.
-/
import Derived.Test.YtopggjpaplhboaaJopen2
import Derived.Test.YtopggjpaplhboaaApp
namespace Go.Proofs.Ytopggjpaplhboaa
open Go.RowKit

def filled (N k : Nat) (x : UInt8) : List UInt8 := List.replicate k x ++ List.replicate (N - k) 0
theorem filled_len {N k : Nat} {x : UInt8} (h : k ≤ N) : (filled N k x).length = N := by simp [filled]; omega
theorem filled_set {N k : Nat} {x : UInt8} (h : k < N) : (filled N k x).set k x = filled N (k + 1) x := by
  unfold filled
  obtain ⟨m, hm⟩ : ∃ m, N - k = m + 1 := ⟨N - k - 1, by omega⟩
  have hm2 : N - (k + 1) = m := by omega
  rw [hm, hm2, List.replicate_succ, List.set_append_right _ _ (by simp)]
  simp [List.replicate_succ']
theorem bv_set (l : List UInt8) (k : Nat) (x : UInt8) : (bv l).set k (u8v x) = bv (l.set k x) := by simp [bv, List.map_set]
theorem BytesAt.ofBlk {g : Gh} {w : World} {b : Nat} {l : List UInt8} {n : Nat} (h : Blk b 5 (bv l) w) (hn : l.length = n) (hm : n ≤ maxLen) (hF : g.F b = n) : BytesAt g w (.slice (some ⟨b, 0, none⟩) n n) l := by
  subst hn
  refine ⟨some ⟨b, 0, none⟩, l.length, rfl, Nat.le_refl _, hm, (fun h => by cases h), ⟨by rw [bv_len]; omega, fun _ => ⟨b, 0, rfl, by omega, h.lt, fun j u hu => ?_⟩⟩⟩
  rw [Nat.zero_add, h.cell j]; exact hu

theorem make_filled (n : Nat) (x : UInt8) (hn : n ≤ 100000) : ∀ w, (Instr.makeSlice 32 (.int .i64 (n : Int)) (.int .i64 (n : Int))).run Try.prog w = .ok (.slice (some ⟨w.heap.size, 0, none⟩) n n) (w.alloc (.cells (bv (filled n 0 x)).toArray 5)) := by
  obtain ⟨i0, hi, hz0, hz1, hz2⟩ := info_parts Try.infoU8
  intro w
  have := run_make (P := Try.prog) w 32 5 i0 (.int .u8 0) Try.underlying32 hi hz0 .i64 .i64 (n : Int) (n : Int) (by omega) (by omega) (by rw [hz2]; omega) (by omega)
  rw [hz1] at this
  simpa [Value.cells, made_zeros, filled] using this

set_option maxRecDepth 100000 in
set_option maxHeartbeats 1600000 in
theorem lawSizes_any (n : Int) (x : UInt8) (w : World) (hn0 : -9223372036854775808 ≤ n) (hn1 : n ≤ 9223372036854775807) : Calls Try.prog 4 #[.int .i64 n, .int .u8 x.toNat] w fun e w' => e = .returned (.bool true) ∧ Below w.heap.size w w' := by
  have hfb := foldI_lt (v := n) (n := 4) (by omega)
  obtain ⟨N, hN⟩ : ∃ N : Nat, (65535 : Int) + foldI n 4 = N := ⟨((65535 : Int) + foldI n 4).toNat, by omega⟩
  have hN1 : N ≤ 100000 := by omega
  have HN0 : Hid (0 < N) := by show 0 < N; omega
  have HMK := Lib.hid (make_filled N x hN1)
  generalize hF : foldI n 4 = f at *
  have HF := Lib.hid hF
  clear hF
  obtain ⟨i0, hi0, hy0, hy1, hy2⟩ := info_parts Try.infoU8
  go_enter Try.func4, Try.ntmps4
  go_wp2_with fail
  refine (gnew gh0 w).mono ?_
  rintro e w1 ⟨d, g1, rfl, hd, hx1, hD1⟩
  have HX1 := Lib.hid hx1
  have HD1 := Lib.hid hD1
  clear hx1 hD1
  go_wp2_with fail
  refine (open_none d g1 w1 dev0 HD1.out ⟨#[106]⟩ (by decide) rfl rfl).mono ?_
  rintro e w2 ⟨j, g2, rfl, hj, hx2, hJ2⟩
  have hjw : w.heap.size ≤ j := Nat.le_trans HX1.out.size hj
  have HX2 : Hid (Ext (fun o => w.heap.size ≤ o) gh0 w g2 w2) := (HX1.out.trans hx2).imp (fun _ h => h.elim)
  have HJ2 := Lib.hid hJ2
  have HD2 := Lib.hid (HD1.out.ext hx2 (fun h => h))
  clear hx2 hJ2 HX1 HD1 hj
  go_wp2_with fail
  refine (known_any g2 w2).mono ?_
  rintro e w3 ⟨rfl, g3, hx3⟩
  have hjl := HJ2.out.lt
  have hdl := HD2.out.lt
  have HX3 := Lib.hid (HX2.out.trans (hx3.imp (fun o h => Nat.le_trans HX2.out.size h)))
  have HJ3 := Lib.hid (HJ2.out.ext hx3 (by omega))
  have HD3 := Lib.hid (HD2.out.ext hx3 (by omega))
  clear hx3 HX2 HJ2 HD2 hjl hdl
  have HHF := Lib.hid hfb
  clear hfb
  go_wp2_with fail
  refine (fold_any n 4 w3 hn0 hn1 (by omega)).mono ?_
  rw [HF.out]
  rintro e w' ⟨rfl, rfl⟩
  obtain ⟨hf0, hf1⟩ := HHF.out
  go_wp2_with (at_make; refine wpList_makeB _ rfl _ _ _ rfl rfl rfl (HMK.out _) ?_)
  clear hf0 hf1
  have HNN := Lib.hid hN
  clear hN
  go_loopw [9] (fun i wr => ∃ k : Nat, k ≤ N ∧ i = .int .i64 k ∧ Blk w3.heap.size 5 (bv (filled N k x)) wr ∧ Below w3.heap.size w3 wr) (fun i _ => N - (intOf i).toNat)
  case atStart => exact ⟨0, Nat.zero_le _, rfl, Blk.new w3 5 (bv (filled N 0 x)), (Below.refl _ _).alloc (Nat.le_refl _) _⟩
  case round =>
    obtain ⟨k, hk, rfl, hb, hbl⟩ := hrel
    have HB := Lib.hid hb
    have HBL := Lib.hid hbl
    have hfz := hb.fz
    clear hbl
    by_cases hlt : k < N
    · have hcc : wr.cell? ⟨w3.heap.size, k, none⟩ = some (u8v ((filled N k x)[k]'(by rw [filled_len hk]; exact hlt))) := by
        rw [hb.cell k]
        simp only [bv, List.getElem?_map]
        rw [List.getElem?_eq_getElem (by rw [filled_len hk]; exact hlt)]
        rfl
      clear hb
      generalize u8v ((filled N k x)[k]'(by rw [filled_len hk]; exact hlt)) = old at hcc
      go_wp2_with fail
      go_round
      case rel =>
        refine ⟨k + 1, by omega, by go_num, ?_, HBL.out.setCell (Nat.le_refl _) _⟩
        have := HB.out.set k (u8v x)
        rw [bv_set, filled_set hlt] at this
        exact this
      case measure => simp [intOf]; omega
    · obtain rfl : k = N := by omega
      have hlr := filled_len (x := x) (Nat.le_refl k)
      have hx4 : Ext (fun _ => False) g3 w3 (g3.lit w3.heap.size k) wr := (Ext.of_below (fun _ => False) g3 HBL.out).up (fun b hb => by simp only [Gh.lit]; rw [if_neg (by omega)]) (fun _ _ => rfl)
      have HX4 := Lib.hid (HX3.out.trans (hx4.imp (fun _ h => h.elim)))
      have HJ4 := Lib.hid (HJ3.out.ext hx4 (fun h => h))
      have HD4 := Lib.hid (HD3.out.ext hx4 (fun h => h))
      have HR4 : Hid (BytesAt (g3.lit w3.heap.size k) wr (.slice (some ⟨w3.heap.size, 0, none⟩) k k) (filled k k x)) := BytesAt.ofBlk HB.out hlr (by simp only [maxLen]; omega) (by simp [Gh.lit])
      have HLR := Lib.hid hlr
      have HG4 : Hid (Good (jrn0 ⟨#[106]⟩) dev0 0 0) := Good.dev0 (by decide) 0
      have HAP : Hid (Calls Try.prog 20 #[.pointer (some ⟨j, 0, none⟩), .slice (some ⟨w3.heap.size, 0, none⟩) k k] wr fun e w' => e = .returned (.int .i64 (jappI (jrn0 ⟨#[106]⟩) (filled k k x))) ∧ BothP j d (g3.lit w3.heap.size k) wr (jappJ (jrn0 ⟨#[106]⟩) (filled k k x)) dev0 w') := by
        have hr4 := HR4.out
        have := gappend j d (g3.lit w3.heap.size k) wr (jrn0 ⟨#[106]⟩) dev0 0 0 HJ4.out HD4.out HG4.out (by omega) (by omega) (some ⟨w3.heap.size, 0, none⟩) k (filled k k x) (by rw [hlr]; exact hr4) (by omega)
        rw [hlr] at this
        exact this
      clear hx4 hlr HBL HB HX3 HJ3 HD3 hb hfz
      generalize g3.lit w3.heap.size k = g4 at *
      generalize filled k k x = r at *
      by_cases hbig : 65536 < k
      · have hai : jappI (jrn0 ⟨#[106]⟩) r = 310 := by
          rw [HG4.out.appI, HLR.out, if_pos hbig]
        have haj : jappJ (jrn0 ⟨#[106]⟩) r = jrn0 ⟨#[106]⟩ := by unfold jappJ; rw [hai]; rfl
        have HAI := Lib.hid hai
        have HAJ := Lib.hid haj
        clear hai haj
        go_wp2_with fail
        refine HAP.out.mono ?_
        rw [HAI.out, HAJ.out]
        rintro e w5 ⟨rfl, hP⟩
        (obtain ⟨g5, hx5, hJ5, hD5⟩ := hP; have HX5 := Lib.hid (HX4.out.trans (hx5.imp (fun o h => show w.heap.size ≤ o from by rcases h with rfl | rfl <;> omega))); have HJ5 := Lib.hid hJ5; have HD5 := Lib.hid hD5; clear hx5 hJ5 hD5 HX4 HJ4 HD4)
        go_wp2_with fail
        refine (jpending_any j d g5 w5 _ HJ5.out).mono ?_
        rintro e w' ⟨rfl, rfl⟩
        simp only [jrn0, List.length_nil]
        go_wp2_with fail
        go_ret
        exact ⟨rfl, HX5.out.fin⟩
      · have hle : k ≤ 65536 := by omega
        have ha := HG4.out.app0 r (by rw [HLR.out]; exact hle) (by simp [jrn0]) (by rw [HLR.out]; simp [jrn0, lens]; omega)
        have HAI := Lib.hid ha.1
        have HG5 := Lib.hid (HG4.out.appJ r)
        have HAJ := Lib.hid ha.2
        clear ha
        go_wp2_with fail
        refine HAP.out.mono ?_
        rw [HAI.out]
        rw [HAJ.out] at HG5
        rw [HAJ.out]
        rintro e w5 ⟨rfl, hP⟩
        have HRr := Lib.hid HR4.out
        obtain ⟨g5, hx5, hJ5, hD5⟩ := hP
        have HX5 := Lib.hid (HX4.out.trans (hx5.imp (fun o h => show w.heap.size ≤ o from by rcases h with rfl | rfl <;> omega)))
        have HJ5 := Lib.hid hJ5
        have HD5 := Lib.hid hD5
        have HR5 := Lib.hid (HR4.out.ext hx5)
        clear hx5 hJ5 hD5 HX4 HJ4 HD4 HR4 HRr HAP
        go_wp2_with fail
        refine (gcommit j d g5 w5 _ dev0 0 _ HJ5.out HD5.out HG5.out (by omega) (by omega)).mono ?_
        rintro e w6 ⟨rfl, D6, hP, hG6, _⟩
        obtain ⟨g6, hx6, hJ6, hD6⟩ := hP
        have HX6 := Lib.hid (HX5.out.trans (hx6.imp (fun o h => show w.heap.size ≤ o from by rcases h with rfl | rfl <;> omega)))
        have HG6 := Lib.hid hG6
        have HD6 := Lib.hid hD6
        have HR6 := Lib.hid (HR5.out.ext hx6)
        clear hx6 hJ6 hD6 hG6 HX5 HJ5 HD5 HR5 HG5
        go_wp2_with fail
        refine (gopen d g6 w6 _ D6 0 _ HD6.out HG6.out (by omega)).mono ?_
        rintro e w7 ⟨j7, g7, rfl, hj7, hx7, hJ7⟩
        have hs6 := HX6.out.size
        have HX7 := Lib.hid (HX6.out.trans (hx7.imp (fun o h => show w.heap.size ≤ o from by subst h; omega)))
        have HJ7 : Hid (JAt g7 w7 j7 d ⟨⟨#[106]⟩, 0, [r], [], lens [r], true, false⟩) := hJ7
        have HR7 := Lib.hid (HR6.out.ext hx7)
        clear hx7 hJ7 HX6 HD6 HR6
        go_wp2_with fail
        refine (get_any j7 d g7 w7 _ HJ7.out 0 (Int.le_refl _) (by simp) (by simp) (by intro q hq; simp only [List.mem_cons, List.not_mem_nil, or_false] at hq; subst hq; rw [HLR.out]; exact hle) (by decide) (by decide)).mono ?_
        rw [show getR ⟨⟨#[106]⟩, 0, [r], [], lens [r], true, false⟩ 0 = some r from rfl]
        rintro e w8 ⟨A8, c8, g8, rfl, hx8, hB8⟩
        have HX8 := Lib.hid (HX7.out.trans (hx8.imp (fun o h => h.elim)))
        have HJ8 := Lib.hid (HJ7.out.ext hx8 (fun h => h))
        have hs1 := hB8.str
        have hs2 := (HR7.out.ext hx8).str
        rw [HLR.out] at hs1
        rw [HLR.out]
        clear hx8 hB8 HX7 HJ7
        go_wp2_with fail
        refine (jend_any j7 d g8 w8 _ HJ8.out (Int.le_refl _) (by simp) (by simp)).mono ?_
        rintro e w' ⟨rfl, nn, rfl⟩
        go_wp2_with fail
        go_ret
        exact ⟨rfl, (HX8.out.drewN nn).fin⟩

end Go.Proofs.Ytopggjpaplhboaa
