/-
  Save, where it writes.
-/
import Derived.Test.YtcjkllmellampaaDoorCkSv
namespace Go.Proofs.YtcjkllmellampaaDoor
open Go.RowKit

set_option maxRecDepth 100000 in
set_option maxHeartbeats 6400000 in
theorem save_ok (d : Nat) (g : Gh) (w : World) (D : Dev) (hD : DevAt g w d D) (hdn : D.down = false) (name : ByteArray) (h : nmB false 40 name = true) (o0 o1 : Option Ck) (h0 : SlotIs D (slotN name 0) o0) (h1 : SlotIs D (slotN name 1) o1) (p : Int) (A : Option Addr) (cap : Nat) (st : List UInt8) (hr : BytesAt g w (.slice A st.length cap) st)
    (hp0 : 0 ≤ p) (hp1 : (posO (newS o0 o1).1 : Int) ≤ p) (hpb : p < 1000000000) (hsq : seqO (newS o0 o1).1 + 1 < 1000000000) (hl : st.length ≤ 2097152) (hn : D.now.n < 256) (hpl : D.pend.length ≤ 999999) :
    Calls Tryd.prog 16 #[.pointer (some ⟨d, 0, none⟩), .string name, .int .i64 p, .slice A st.length cap] w fun e w' => e = .returned (.int .i64 (svI D (svOp name (newS o0 o1).2 ⟨seqO (newS o0 o1).1 + 1, p.toNat, st⟩))) ∧ SaveP d g w (svD D (svOp name (newS o0 o1).2 ⟨seqO (newS o0 o1).1 + 1, p.toNat, st⟩)) w' := by
  have hmf : ∀ (fn : Fn) (first cap : Array Value) (w : World), (Instr.makeFunc fn first cap).run Tryd.prog w = .ok (.func fn first cap) w := fun _ _ _ _ => rfl
  have hns := nm_size h
  obtain ⟨g2, ⟨hx2, hb2, hs2, hd2⟩, hO2, hF2, hO2', hF2'⟩ := save_pro d g w D hD name
  have hdl := hD.lt
  have HX2 := Lib.hid hx2
  have HB2 := Lib.hid hb2
  have HS2 := Lib.hid hs2
  have HD2 := Lib.hid hd2
  clear hx2 hb2 hs2 hd2
  have HR2 := Lib.hid (hr.ext HX2.out)
  go_enter_defers Tryd.func16, Tryd.ntmps16
  go_wp2_with fail
  refine (cname_any name _ (by omega)).mono ?_
  rw [h]
  rintro e w' ⟨rfl, rfl⟩
  go_wp2_with fail
  refine (newest_any (w.heap.size + 1) d g2 _ D name HD2.out hdn h o0 o1 h0 h1 HS2.out hO2 hF2 (by omega)).mono ?_
  rintro e w3 ⟨g3, x0, x1, rfl, hx3, hs3, _, _⟩
  have hb3 : Blk w.heap.size 36 [.int .i64 0] w3 := HB2.out.ext hx3 (by rw [hO2']; omega)
  have HX3 := Lib.hid ((HX2.out.imp (fun o (h : False) => (h.elim : o = d ∨ w.heap.size ≤ o))).trans (hx3.imp (fun o h => Or.inr (by omega))))
  have HD3 := Lib.hid (HD2.out.ext hx3 (by omega))
  have HB3 := Lib.hid hb3
  have HS3 := Lib.hid hs3
  have hlt3 := hb3.lt
  have hlt3' := hs3.lt
  have q0 : w3.cell? ⟨w.heap.size, 0, none⟩ = some (.int .i64 0) := hb3.cell 0
  have z0 := hb3.fz
  have q2 : w3.cell? ⟨w.heap.size + 1, 2, none⟩ = some (.int .i64 0) := hs3.cell 2
  have hF3 : g3.F w.heap.size = 0 := hx3.zero _ HB2.out.lt hF2'
  have hO3 : g3.O w.heap.size = w.heap.size := (hx3.own _ HB2.out.lt).trans hO2'
  have hOs3 : g3.O (w.heap.size + 1) = w.heap.size + 1 := (hx3.own _ HS2.out.lt).trans hO2
  have hFs3 : g3.F (w.heap.size + 1) = 0 := hx3.zero _ HS2.out.lt hF2
  have HR3 := Lib.hid (HR2.out.ext hx3)
  clear hx3 hb3 hs3
  have hn1 : w3.heap.size ≠ w.heap.size := by omega
  have hn2 : w3.heap.size ≠ w.heap.size + 1 := by omega
  have hot := newS_lt o0 o1
  obtain ⟨nw, ot, hnw⟩ : ∃ nw ot, newS o0 o1 = (nw, ot) := ⟨_, _, rfl⟩
  rw [hnw] at hot hp1 hsq
  rw [hnw]
  rw [show stV (nw, ot).1 = .agg #[.bool nw.isSome, .int .i64 (seqO nw), .int .i64 (posO nw)] from rfl]
  have HNW := Lib.hid hnw
  clear hnw
  dsimp only at hot hp1 hsq
  dsimp only
  obtain ⟨pn, rfl⟩ : ∃ pn : Nat, p = pn := ⟨p.toNat, by omega⟩
  have hlb : decide ((2097152 : Int) < (st.length : Nat)) = false := by simp; omega
  have hxa := Ext.box (fun _ => False) g3 w3 (.cells #[.bool nw.isSome, .int .i64 (seqO nw), .int .i64 (posO nw)] 79)
  have HXA := Lib.hid hxa
  have HRA := Lib.hid (HR3.out.ext hxa)
  have HDA := Lib.hid (HD3.out.ext hxa (fun h => h))
  have HSA := Lib.hid (HS3.out.ext hxa (fun h => h))
  have hOA := (hxa.own _ HS3.out.lt).trans hOs3
  have hFA := hxa.zero _ HS3.out.lt hFs3
  have hOA' := (hxa.own _ HB3.out.lt).trans hO3
  have hFA' := hxa.zero _ HB3.out.lt hF3
  have HBA := Lib.hid (HB3.out.ext hxa (fun h => h))
  have HCK : Hid (CkOk ⟨seqO nw + 1, pn, st⟩) := ⟨hsq, by show pn < _; omega, hl⟩
  have HWR : Hid (wrap64 ((seqO nw : Int) + 1) = (seqO nw : Int) + 1) := by
    show _ = _
    unfold wrap64
    omega
  have HN := Lib.hid hn
  have HPL := Lib.hid hpl
  have hp1' : ¬ pn < posO nw := by omega
  have hl' : ¬ 2097152 < st.length := by omega
  clear hxa hpb hsq hl hn hpl hp0 hp1 hns
  generalize g3.box w3.heap.size = gA at *
  go_wp2_with fail
  have hcw := cwrite_any (w.heap.size + 1) d gA _ D name HDA.out h o0 o1 x0 x1 ot hot ⟨seqO nw + 1, pn, st⟩ HCK.out A cap HRA.out HSA.out hOA hFA (by omega) HN.out HPL.out
  have ecast : ((seqO nw + 1 : Nat) : Int) = (seqO nw : Int) + 1 := by omega
  dsimp only at hcw
  rw [ecast] at hcw
  clear ecast
  rw [HWR.out]
  refine hcw.mono ?_
  clear hcw
  rintro e w5 ⟨rfl, g5, hx5, hs5, hd5⟩
  have hb5 := HBA.out.ext hx5 (by rw [hOA']; omega)
  have HX5 := Lib.hid (((HX3.out.trans (HXA.out.imp (fun o (h : False) => (h.elim : o = d ∨ w.heap.size ≤ o)))).trans (hx5.imp (fun o h => h.elim (fun h => Or.inr (by omega)) (fun h => Or.inl h)))))
  have HD5 := Lib.hid hd5
  have HB5 := Lib.hid hb5
  have HS5 := Lib.hid hs5
  have r0 : w5.cell? ⟨w.heap.size, 0, none⟩ = some (.int .i64 0) := hb5.cell 0
  have y0 := hb5.fz
  have hF5 := hx5.zero _ HBA.out.lt hFA'
  have hO5 := (hx5.own _ HBA.out.lt).trans hOA'
  clear hx5 hs5 hd5 hb5 q0 z0 q2
  have hpt : (Int.toNat (pn : Int)) = pn := rfl
  have HSV := Lib.hid hpt
  clear hpt
  generalize hE : svI D (svOp name ot ⟨seqO nw + 1, pn, st⟩) = E at *
  generalize hDD : svD D (svOp name ot ⟨seqO nw + 1, pn, st⟩) = DD at *
  have HE := Lib.hid hE
  have HDD := Lib.hid hDD
  have KEY : Hid (svI D (svOp name (newS o0 o1).2 ⟨seqO (newS o0 o1).1 + 1, pn, st⟩) = E) := by show _ = _; rw [HNW.out]; exact hE
  have KEYD : Hid (svD D (svOp name (newS o0 o1).2 ⟨seqO (newS o0 o1).1 + 1, pn, st⟩) = DD) := by show _ = _; rw [HNW.out]; exact hDD
  clear hE hDD
  go_wp2_with fail
  refine leaves_cons (f := 37) (args := #[.pointer (some ⟨w.heap.size + 1, 0, none⟩), .pointer (some ⟨w.heap.size, 0, none⟩)]) (by simp) (by simp [go_sem]) ?_
  by_cases hE0 : E = 0
  · refine (save1_zero (w.heap.size + 1) w.heap.size _ ?_).mono ?_
    · rw [hE0] at HS5
      exact (HS5.out.far (p := ⟨w.heap.size, 0, none⟩) (by dsimp only; omega) _).cell 2
    rintro e u' w'' ⟨rfl, rfl, rfl⟩
    have hres : (w5.setCell ⟨w.heap.size, 0, none⟩ (.int .i64 0)).cell? ⟨w.heap.size, 0, none⟩ = some (.int .i64 0) := (HB5.out.set 0 (.int .i64 0)).cell 0
    simp [Leaves, settle, results, Tryd.results16, go_sem, hres]
    rw [KEY.out, KEYD.out]
    exact ⟨hE0.symm, save_end0 HX5.out HD5.out hO5 hF5 hdl _⟩
  · refine (save1_some (w.heap.size + 1) w.heap.size _ E 0 hE0 ?_ ?_ ?_).mono ?_
    · exact (HS5.out.far (p := ⟨w.heap.size, 0, none⟩) (by dsimp only; omega) _).cell 2
    · exact (HB5.out.set 0 (.int .i64 0)).cell 0
    · exact (HB5.out.set 0 (.int .i64 0)).fz 0
    rintro e u' w'' ⟨rfl, rfl, rfl⟩
    have hres : ((w5.setCell ⟨w.heap.size, 0, none⟩ (.int .i64 0)).setCell ⟨w.heap.size, 0, none⟩ (.int .i64 E)).cell? ⟨w.heap.size, 0, none⟩ = some (.int .i64 E) := ((HB5.out.set 0 (.int .i64 0)).set 0 (.int .i64 E)).cell 0
    simp [Leaves, settle, results, Tryd.results16, go_sem, hres]
    rw [KEY.out, KEYD.out]
    refine ⟨rfl, ?_⟩
    exact ⟨_, (HX5.out.setCell (p := ⟨w.heap.size, 0, none⟩) (fun h => absurd h (Nat.lt_irrefl _)) hF5 _).setCell (p := ⟨w.heap.size, 0, none⟩) (fun h => absurd h (Nat.lt_irrefl _)) hF5 _, HD5.out.ext (((Ext.refl (· = w.heap.size) _ w5).setCell (p := ⟨w.heap.size, 0, none⟩) (fun _ => hO5) hF5 _).setCell (p := ⟨w.heap.size, 0, none⟩) (fun _ => hO5) hF5 _) (by omega)⟩


end Go.Proofs.YtcjkllmellampaaDoor
