/-
  The walk of CheckpointSizes.
-/
import Derived.Test.YtcjkllmellampaaDoorCkKn
import Derived.Test.YtcjkllmellampaaDoorOpenK
import Derived.Test.YtcjkllmellampaaDoorFold
namespace Go.Proofs.YtcjkllmellampaaDoor
open Go.RowKit

theorem make_big (M : Nat) (hM : M ≤ 3000000) (g : Gh) (w : World) (x : UInt8) : ∃ wm b, (Instr.makeSlice 32 (.int .i64 ((M : Int) + 1)) (.int .i64 ((M : Int) + 1))).run Tryd.prog w = .ok (.slice (some ⟨b, 0, none⟩) (M + 1) (M + 1)) wm ∧
    wm.cell? ⟨b, M, none⟩ = some (.int .u8 0) ∧ wm.frozen? ⟨b, M, none⟩ = false ∧ ∃ l g', l.length = M + 1 ∧ Ext (fun _ => False) g w g' (wm.setCell ⟨b, M, none⟩ (.int .u8 (x.toNat : Int))) ∧ BytesAt g' (wm.setCell ⟨b, M, none⟩ (.int .u8 (x.toNat : Int))) (.slice (some ⟨b, 0, none⟩) (M + 1) (M + 1)) l := by
  obtain ⟨i0, hi, hz0, hz1, hz2⟩ := info_parts Tryd.infoU8
  have hb : (w.alloc (.cells (bv (List.replicate (M + 1) 0)).toArray 5)).heap[w.heap.size]? = some (.cells (bv (List.replicate (M + 1) 0)).toArray 5 (0, 0)) := heap_alloc_new w _
  refine ⟨w.alloc (.cells (bv (List.replicate (M + 1) 0)).toArray 5), w.heap.size, ?_, ?_, ?_, (List.replicate (M + 1) 0).set M x, g.lit w.heap.size (M + 1), by simp, ?_, ?_⟩
  · have := run_make (P := Tryd.prog) w 32 5 i0 (.int .u8 0) Tryd.underlying32 hi hz0 .i64 .i64 ((M : Int) + 1) ((M : Int) + 1) (by omega) (by omega) (by rw [hz2]; omega) (by omega)
    rw [hz1] at this
    have e : ((M : Int) + 1).toNat = M + 1 := by omega
    simpa [Value.cells, e, made_zeros] using this
  · rw [cell_at hb]; simp [bv, u8v]
  · exact frozen_at hb
  all_goals
    have e : (w.alloc (.cells (bv (List.replicate (M + 1) 0)).toArray 5)).setCell ⟨w.heap.size, M, none⟩ (.int .u8 (x.toNat : Int)) = w.alloc (.cells (bv ((List.replicate (M + 1) 0).set M x)).toArray 5) := by
      rw [World.setCell_alloc_at _ _ _ _ _ rfl]; generalize List.replicate (M + 1) (0 : UInt8) = zs; simp [bv, List.map_set, u8v]
    rw [e]
  · exact Ext.lit _ g w _ _
  · have h := App.lit g w (bv ((List.replicate (M + 1) 0).set M x)) 5 (0, 0) (M + 1) 0 (by simp [bv]) (by simp only [maxLen]; omega)
    have hl : ((List.replicate (M + 1) (0 : UInt8)).set M x).length = M + 1 := by simp
    have := BytesAt.of_new (l := (List.replicate (M + 1) (0 : UInt8)).set M x) (by rw [hl]; exact h)
    rw [hl] at this
    exact this

set_option maxRecDepth 100000 in
set_option maxHeartbeats 6400000 in
theorem lawSizes_any (w : World) (n0 : Int) (hn0 : -9223372036854775808 ≤ n0) (hn1 : n0 ≤ 9223372036854775807) (x : UInt8) :
    Calls Tryd.prog 4 #[.int .i64 n0, .int .u8 (x.toNat : Int)] w fun e w' => e = .returned (.bool true) ∧ Below w.heap.size w w' := by
  go_enter Tryd.func4, Tryd.ntmps4
  go_wp2_with fail
  refine (gnew (ghW w) w).mono ?_
  rintro e w1 ⟨d, g1, rfl, hd, hx1, hD1⟩
  have HX1 : Hid (Ext (fun o => w.heap.size ≤ o) (ghW w) w g1 w1) := hx1.imp (fun _ h => h.elim)
  have HD1 := Lib.hid hD1
  clear hx1 hD1
  go_wp2_with fail
  refine (known_any g1 w1).mono ?_
  rintro e w3 ⟨rfl, g3, hx3⟩
  have hdl := HD1.out.lt
  have HX3 := Lib.hid (HX1.out.trans (hx3.imp (fun o h => Nat.le_trans HX1.out.size h)))
  have HD3 := Lib.hid (HD1.out.ext hx3 (by omega))
  clear hx3 HX1 HD1 hdl
  go_wp2_with fail
  refine (gsave_lit d g3 w3 dev0 0 HD3.out Quiet.dev0 (by omega) ⟨#[99]⟩ cN_ok none none (SlotIs.zero rfl) (SlotIs.zero rfl) 1 [x] (0, 0) (by omega) (by decide) (by omega) (by decide) (by simp)).mono ?_
  rintro e w4 ⟨rfl, D4, p0, p1, ⟨g4, hx4, hD4⟩, hq4, hs0, hs1, hnw, _⟩
  have hsz3 := HX3.out.size
  have HX4 := Lib.hid (HX3.out.trans (hx4.imp (fun o h => show w.heap.size ≤ o from h.elim (fun h => by omega) (fun h => by omega))))
  have HD4 := Lib.hid hD4
  have HQ4 := Lib.hid hq4
  have HS0 := Lib.hid hs0
  have HS1 := Lib.hid hs1
  have HNW : Hid ((newS p0 p1).1 = some ⟨1, 1, [x]⟩) := hnw
  clear hx4 hD4 hq4 hs0 hs1 hnw HX3 HD3
  go_wp2_with fail
  have hfb := foldI_lt (v := n0) (n := 3) (by omega)
  refine (fold_any n0 3 w4 hn0 hn1 (by omega)).mono ?_
  rintro e w' ⟨rfl, rfl⟩
  obtain ⟨hfb0, hfb1⟩ := hfb
  generalize foldI n0 3 = F0 at *
  obtain ⟨M, hM⟩ : ∃ M : Nat, 2097151 + F0 = (M : Int) + 1 := ⟨(2097150 + F0).toNat, by omega⟩
  have hM1 : M ≤ 2097152 := by omega
  obtain ⟨wm, b, hmk, hcm, hfm, l, gm, hl, hxm, hbm⟩ := make_big M (by omega) g4 w4 x
  have HM := Lib.hid hM1
  have HXM := Lib.hid hxm
  have HBM := Lib.hid hbm
  have HL := Lib.hid hl
  have HDM := Lib.hid (HD4.out.ext hxm (fun h => h))
  have HX5 := Lib.hid (HX4.out.trans (hxm.imp (fun _ h => h.elim)))
  clear hxm hbm hl hfb0 hfb1 HD4 HX4 HXM
  go_wp2_with fail
  clear hcm hfm hmk
  generalize hws : wm.setCell ⟨b, M, none⟩ (.int .u8 (x.toNat : Int)) = ws at *
  clear hws
  by_cases hbig : 2097152 < M + 1
  · have hbi : (2097152 : Int) < (M : Int) + 1 := by omega
    have HBI := Lib.hid hbi
    have HBG := Lib.hid hbig
    clear hbi hbig hM1
    have hl1 := HL.out
    have HSV := Lib.hid (save_size d gm _ D4 HDM.out HQ4.out.up.dn ⟨#[99]⟩ cN_ok p0 p1 HS0.out HS1.out 1 (some ⟨b, 0, none⟩) (M + 1) l (by rw [hl1]; exact HBM.out) (by omega) (by rw [HNW.out]; show ((1 : Nat) : Int) ≤ 1; omega) (by have := HBG.out; omega))
    rw [hl1] at HSV
    clear hl1
    refine HSV.out.mono ?_
    rintro e w6 ⟨rfl, g6, hx6, hD6⟩
    have HLD := Lib.hid (ld_any d g6 w6 D4 hD6 HQ4.out.up.dn ⟨#[99]⟩ cN_ok p0 p1 HS0.out HS1.out)
    rw [HNW.out] at HLD
    have hszm := HX5.out.size
    have HX6 := Lib.hid (HX5.out.trans (hx6.imp (fun o h => show w.heap.size ≤ o from h.elim (fun h => by omega) (fun h => by omega))))
    have HB6 := Lib.hid (HBM.out.ext hx6)
    have hsz6 := HX6.out.size
    clear hx6 hD6 HSV hM
    clear HM HL HBG
    have hbi := HBI.out
    clear HBI
    generalize (M : Int) + 1 = T at *
    generalize M + 1 = N at *
    go_wp2_with fail
    refine HLD.out.mono ?_
    rintro e w7 ⟨g7, xs, hx7, ⟨A7, rfl, hby⟩, rfl⟩
    have HX7 := Lib.hid (HX6.out.trans (hx7.imp (fun o h => show w.heap.size ≤ o by omega)))
    dsimp only [posO, Option.isSome]
    have hal := fun ob : Obj => (Ext.refl (fun _ => False) g7 w7).alloc ob
    have hsS := fun ob => ((HB6.out.ext hx7).ext (hal ob)).str
    have hsx := fun ob => (hby.ext (hal ob)).str
    have hs1 : ∀ ob : Obj, (convert 32 9 (.slice (some ⟨w7.heap.size + 1, 0, none⟩) 1 1)).run Tryd.prog ((w7.alloc ob).alloc (.cells #[.int .u8 (x.toNat : Int)] 5)) = .ok (.string ⟨#[x]⟩) ((w7.alloc ob).alloc (.cells #[.int .u8 (x.toNat : Int)] 5)) := fun ob => by
      have := (BytesAt.lit g7 (w7.alloc ob) [x] (0, 0) (by simp)).str
      rw [show (w7.alloc ob).heap.size = w7.heap.size + 1 by simp] at this
      exact this
    dsimp only [List.length] at hsx ⊢
    clear hx7 hby HLD HB6 HX6 HBM HDM hal
    go_wp2_with fail
    all_goals (go_ret; first | exact ⟨rfl, (HX7.out.alloc _).finW⟩ | exact ⟨rfl, ((HX7.out.alloc _).alloc _).finW⟩)
  · have hbi : ¬ (2097152 : Int) < (M : Int) + 1 := by omega
    have HBI := Lib.hid hbi
    have HBG := Lib.hid hbig
    clear hbi hbig hM1
    have hl1 := HL.out
    have HSV := Lib.hid (gsave d gm _ D4 1 HDM.out HQ4.out (by omega) ⟨#[99]⟩ cN_ok p0 p1 HS0.out HS1.out 1 (some ⟨b, 0, none⟩) (M + 1) l (by rw [hl1]; exact HBM.out) (by omega) (by rw [HNW.out]; show ((1 : Nat) : Int) ≤ 1; omega) (by omega) (by rw [HNW.out]; show (1 : Nat) + 1 < _; omega) (by have := HBG.out; omega))
    rw [hl1] at HSV
    clear hl1
    refine HSV.out.mono ?_
    rintro e w6 ⟨rfl, D6, q0, q1, ⟨g6, hx6, hD6⟩, hq6, k0, k1, hnw6, _⟩
    have HLD := Lib.hid (ld_any d g6 w6 D6 hD6 hq6.up.dn ⟨#[99]⟩ cN_ok q0 q1 k0 k1)
    rw [hnw6] at HLD
    clear hq6 k0 k1 hnw6
    have hszm := HX5.out.size
    have HX6 := Lib.hid (HX5.out.trans (hx6.imp (fun o h => show w.heap.size ≤ o from h.elim (fun h => by omega) (fun h => by omega))))
    have HB6 := Lib.hid (HBM.out.ext hx6)
    have hsz6 := HX6.out.size
    clear hx6 hD6 HSV hM
    clear HM HL HBG
    have hbi := HBI.out
    clear HBI
    generalize (M : Int) + 1 = T at *
    generalize M + 1 = N at *
    go_wp2_with fail
    refine HLD.out.mono ?_
    rintro e w7 ⟨g7, xs, hx7, ⟨A7, rfl, hby⟩, rfl⟩
    have HX7 := Lib.hid (HX6.out.trans (hx7.imp (fun o h => show w.heap.size ≤ o by omega)))
    dsimp only [posO, Option.isSome]
    have hal := fun ob : Obj => (Ext.refl (fun _ => False) g7 w7).alloc ob
    have hsS := fun ob => ((HB6.out.ext hx7).ext (hal ob)).str
    have hsx := fun ob => (hby.ext (hal ob)).str
    have hs1 : ∀ ob : Obj, (convert 32 9 (.slice (some ⟨w7.heap.size + 1, 0, none⟩) 1 1)).run Tryd.prog ((w7.alloc ob).alloc (.cells #[.int .u8 (x.toNat : Int)] 5)) = .ok (.string ⟨#[x]⟩) ((w7.alloc ob).alloc (.cells #[.int .u8 (x.toNat : Int)] 5)) := fun ob => by
      have := (BytesAt.lit g7 (w7.alloc ob) [x] (0, 0) (by simp)).str
      rw [show (w7.alloc ob).heap.size = w7.heap.size + 1 by simp] at this
      exact this
    dsimp only [List.length] at hsx ⊢
    clear hx7 hby HLD HB6 HX6 HBM HDM hal
    go_wp2_with fail
    all_goals (go_ret; first | exact ⟨rfl, (HX7.out.alloc _).finW⟩ | exact ⟨rfl, ((HX7.out.alloc _).alloc _).finW⟩)

end Go.Proofs.YtcjkllmellampaaDoor
