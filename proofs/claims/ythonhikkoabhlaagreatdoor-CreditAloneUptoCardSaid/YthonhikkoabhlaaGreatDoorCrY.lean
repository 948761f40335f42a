/-
  The statements' same, set and within.
-/
import Derived.Test.YthonhikkoabhlaaGreatDoorCrX
namespace Go.Proofs.YthonhikkoabhlaaGreatDoor
open Go.RowKit

set_option maxRecDepth 100000 in
set_option maxHeartbeats 3200000 in
theorem set_any (L : List Fil) (A : Option Addr) (ca : Nat) (w : World) (hA : filK.In A L w) (hok : ∀ f ∈ L, FOk f) (hn : L.length ≤ 512) :
    Calls Tryz.prog 12 #[.slice A L.length ca] w fun e w' => e = .returned (.map (some w.heap.size)) ∧ SetIs w.heap.size (fun f => f ∈ L) w' ∧ Below w.heap.size w w' := by
  have HA := Lib.hid hA
  have HOK := Lib.hid hok
  clear hA hok
  have hmm := @run_makeMap Tryz.prog
  go_enter Tryz.func12, Tryz.ntmps12
  go_upto_region 2 with fail
  have HS1 := Lib.hid (SetIs.new w)
  have HB1 := Lib.hid ((Below.refl w.heap.size w).alloc (Nat.le_refl _) (.map #[] 0))
  clear hmm
  generalize World.alloc w (.map #[] 0) = w1 at *
  go_wp2_with fail
  go_loopw [9] (fun i wr => ∃ k : Nat, i = .int .i64 k ∧ k ≤ L.length ∧ SetIs w.heap.size (fun f => f ∈ L.take k) wr ∧ Below w.heap.size w wr) (fun i _ => L.length - (intOf i).toNat)
  case atStart => exact ⟨0, rfl, Nat.zero_le _, HS1.out.congr fun f => by simp, HB1.out⟩
  case round =>
    obtain ⟨k, rfl, hk, hset, hbr⟩ := hrel
    by_cases hlt : k < L.length
    · obtain ⟨g, off, rfl, hgl, hat⟩ := HA.out (by omega)
      have hgk := List.getElem?_eq_getElem hlt
      have htk : L.take (k + 1) = L.take k ++ [L[k]] := by rw [List.take_succ_eq_append_getElem hlt]
      have hfo := HOK.out _ (List.getElem_mem hlt)
      have HTK := Lib.hid htk
      generalize hq : L[k] = f at *
      obtain ⟨fp, fn⟩ := f
      have hat := hat.below hbr hgl
      have c0 := hat.get hgk (show (filK.cells (fp, fn))[0]? = some (.string fp) from rfl)
      have c1 := hat.get hgk (show (filK.cells (fp, fn))[1]? = some (.int .i64 fn) from rfl)
      have e2 : filK.n = 2 := rfl
      simp only [e2, Nat.add_zero] at c0 c1
      have HB8 := Lib.hid (hbr.alloc hbr.size (.cells #[.string fp, .int .i64 fn] 47))
      have hS8 := hset.of_block (Below.heap_alloc wr (.cells #[.string fp, .int .i64 fn] 47) _ hset.lt)
      obtain ⟨L', hL', hLS⟩ := hS8
      have HLS := Lib.hid hLS
      clear hat hgk hq e2 hbr hset hLS htk
      go_wp2_with (at_mapUpdate; refine wpList_kput rfl _ _ _ 35 rfl 4 Tryz.underlying35 w.heap.size _ rfl hL' (fp, fn) rfl hfo _ rfl ?_; intro w4 hm4 hg4 hs4)
      go_roundw
      case rel =>
        refine ⟨k + 1, by go_num, by omega, (SetIs.kput hm4 HLS.out).congr fun f => by rw [HTK.out, List.mem_append, List.mem_singleton], HB8.out.grown hg4 HB8.out.size (fun j e => by injection e with e; omega)⟩
      case measure => simp [intOf]; omega
    · obtain rfl : k = L.length := by omega
      rw [List.take_length] at hset
      have HE := Lib.hid (And.intro hset hbr)
      clear hset hbr
      go_wp2_with fail
      go_ret
      exact ⟨rfl, HE.out.1, HE.out.2⟩

set_option maxRecDepth 100000 in
set_option maxHeartbeats 3200000 in
theorem within_any (L : List Fil) (S : Fil → Prop) (A : Option Addr) (ca b : Nat) (w : World) (hA : filK.In A L w) (hok : ∀ f ∈ L, FOk f) (hs : SetIs b S w) (hin : ∀ f ∈ L, S f) (hn : L.length ≤ 512) :
    Calls Tryz.prog 11 #[.slice A L.length ca, .map (some b)] w fun e w' => e = .returned (.bool true) ∧ Below w.heap.size w w' := by
  have HA := Lib.hid hA
  have HOK := Lib.hid hok
  have HIN := Lib.hid hin
  have HS := Lib.hid hs
  have hsl := hs.lt
  clear hA hok hs hin
  go_enter Tryz.func11, Tryz.ntmps11
  go_wp2_with fail
  go_loopw [9] (fun i wr => ∃ k : Nat, i = .int .i64 k ∧ k ≤ L.length ∧ Below w.heap.size w wr) (fun i _ => L.length - (intOf i).toNat)
  case atStart => exact ⟨0, rfl, Nat.zero_le _, Below.refl _ _⟩
  case round =>
    obtain ⟨k, rfl, hk, hbr⟩ := hrel
    by_cases hlt : k < L.length
    · obtain ⟨g, off, rfl, hgl, hat⟩ := HA.out (by omega)
      have hgk := List.getElem?_eq_getElem hlt
      have hfo := HOK.out _ (List.getElem_mem hlt)
      have hfs := HIN.out _ (List.getElem_mem hlt)
      generalize hq : L[k] = f at *
      obtain ⟨fp, fn⟩ := f
      have hat := hat.below hbr hgl
      have c0 := hat.get hgk (show (filK.cells (fp, fn))[0]? = some (.string fp) from rfl)
      have c1 := hat.get hgk (show (filK.cells (fp, fn))[1]? = some (.int .i64 fn) from rfl)
      have e2 : filK.n = 2 := rfl
      simp only [e2, Nat.add_zero] at c0 c1
      have hB8 := hbr.alloc hbr.size (.cells #[.string fp, .int .i64 fn] 47)
      obtain ⟨c, hc, hct⟩ := (HS.out.below hB8 hsl).run_has Tryz.underlying35 (zeroBool _) hfo
      obtain rfl : c = true := hct.2 hfs
      have HB8 := Lib.hid hB8
      unfold fileV at hc
      dsimp only at hc
      clear hat hgk hq e2 hbr hB8 hct hfs hfo
      go_wp2_with fail
      go_roundw
      case rel => exact ⟨k + 1, by go_num, by omega, HB8.out⟩
      case measure => simp [intOf]; omega
    · have HBR := Lib.hid hbr
      clear hbr
      go_wp2_with fail
      go_ret
      exact ⟨rfl, HBR.out⟩
end Go.Proofs.YthonhikkoabhlaaGreatDoor
