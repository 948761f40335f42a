/-
  Save.
-/
import Derived.Test.YtcjkllmellampaaDoorCkW
import Derived.Defers
import Derived.Recover
namespace Go.Proofs.YtcjkllmellampaaDoor
open Go.RowKit

set_option maxRecDepth 100000 in
theorem save1_zero (s b : Nat) (w : World) (hs : w.cell? ⟨s, 2, none⟩ = some (.int .i64 0)) :
    CallsD Tryd.prog 37 #[.pointer (some ⟨s, 0, none⟩), .pointer (some ⟨b, 0, none⟩)] .returning w fun e u' w' => u' = .returning ∧ e = .returned (.tuple #[]) ∧ w' = w := by
  go_enter_d Tryd.func37, Tryd.ntmps37
  go_wp2_with fail
  go_end0
  exact ⟨rfl, rfl⟩
set_option maxRecDepth 100000 in
theorem save1_some (s b : Nat) (w : World) (E x : Int) (hE : E ≠ 0) (hs : w.cell? ⟨s, 2, none⟩ = some (.int .i64 E)) (hb : w.cell? ⟨b, 0, none⟩ = some (.int .i64 x)) (hz : w.frozen? ⟨b, 0, none⟩ = false) :
    CallsD Tryd.prog 37 #[.pointer (some ⟨s, 0, none⟩), .pointer (some ⟨b, 0, none⟩)] .returning w fun e u' w' => u' = .returning ∧ e = .returned (.tuple #[]) ∧ w' = w.setCell ⟨b, 0, none⟩ (.int .i64 E) := by
  go_enter_d Tryd.func37, Tryd.ntmps37
  go_wp2_with fail
  go_end0
  exact ⟨rfl, rfl⟩

set_option maxRecDepth 100000 in
theorem save_bad (d : Nat) (w : World) (name : ByteArray) (hs : name.size ≤ 9223372036854775807) (h : nmB false 40 name = false) (p : Int) (v : Value) :
    Calls Tryd.prog 16 #[.pointer (some ⟨d, 0, none⟩), .string name, .int .i64 p, v] w fun e w' => e = .returned (.int .i64 323) ∧ Below w.heap.size w w' := by
  have hmf : ∀ (fn : Fn) (first cap : Array Value) (w : World), (Instr.makeFunc fn first cap).run Tryd.prog w = .ok (.func fn first cap) w := fun _ _ _ _ => rfl
  go_enter_defers Tryd.func16, Tryd.ntmps16
  go_wp2_with fail
  refine (cname_any name _ hs).mono ?_
  rw [h]
  rintro e w' ⟨rfl, rfl⟩
  go_wp2_with fail
  simp [bodyPostD, Leaves, settle, results, Tryd.results16, go_sem]
  exact (Below.refl _ _).alloc (Nat.le_refl _) _

/-- What Save leaves. -/
def SaveP (d : Nat) (g : Gh) (w : World) (D' : Dev) (w' : World) : Prop := ∃ g', Ext (fun o => o = d ∨ w.heap.size ≤ o) g w g' w' ∧ DevAt g' w' d D'
theorem save_pro (d : Nat) (g : Gh) (w : World) (D : Dev) (hD : DevAt g w d D) (name : ByteArray) : ∃ g2, (fun x : World => Ext (fun _ => False) g w g2 x ∧ Blk w.heap.size 36 [.int .i64 0] x ∧ Blk (w.heap.size + 1) 83 (sCs d name 0 none none (.slice none 0 0) (.slice none 0 0)) x ∧ DevAt g2 x d D) ((w.alloc (.cells #[.int .i64 0] 36)).alloc (.cells #[.pointer (some ⟨d, 0, none⟩), .string name, .int .i64 0, .bool false, .int .i64 0, .int .i64 0, .bool false, .int .i64 0, .int .i64 0, .slice none 0 0, .slice none 0 0] 83)) ∧
    g2.O (w.heap.size + 1) = w.heap.size + 1 ∧ g2.F (w.heap.size + 1) = 0 ∧ g2.O w.heap.size = w.heap.size ∧ g2.F w.heap.size = 0 := by
  have h1 := Ext.box (fun _ => False) g w (.cells #[.int .i64 0] 36)
  have hsz : (w.alloc (.cells #[.int .i64 0] 36)).heap.size = w.heap.size + 1 := by simp
  have h2 := Ext.box (fun _ => False) (g.box w.heap.size) (w.alloc (.cells #[.int .i64 0] 36)) (.cells #[.pointer (some ⟨d, 0, none⟩), .string name, .int .i64 0, .bool false, .int .i64 0, .int .i64 0, .bool false, .int .i64 0, .int .i64 0, .slice none 0 0, .slice none 0 0] 83)
  have hb := Blk.new (w.alloc (.cells #[.int .i64 0] 36)) 83 (sCs d name 0 none none (.slice none 0 0) (.slice none 0 0))
  rw [hsz] at h2 hb
  refine ⟨(g.box w.heap.size).box (w.heap.size + 1), ⟨h1.trans h2, (Blk.new w 36 [.int .i64 0]).ext h2 (fun h => h), hb, (hD.ext h1 (fun h => h)).ext h2 (fun h => h)⟩, Gh.box_O _ _, Gh.box_F _ _, ?_, ?_⟩
  · simp [Gh.box]
  · simp [Gh.box]

theorem save_end0 {d : Nat} {g g3 : Gh} {w w3 : World} {D : Dev} (hx : Ext (fun o => o = d ∨ w.heap.size ≤ o) g w g3 w3) (hD : DevAt g3 w3 d D) (hO : g3.O w.heap.size = w.heap.size) (hF : g3.F w.heap.size = 0) (hd : d < w.heap.size) (u : Value) : SaveP d g w D (w3.setCell ⟨w.heap.size, 0, none⟩ u) :=
  ⟨g3, hx.setCell (p := ⟨w.heap.size, 0, none⟩) (fun h => absurd h (Nat.lt_irrefl _)) hF u, hD.ext ((Ext.refl (· = w.heap.size) g3 w3).setCell (p := ⟨w.heap.size, 0, none⟩) (fun _ => hO) hF u) (by omega)⟩
theorem save_end {d : Nat} {g g3 : Gh} {w w3 : World} {D : Dev} (hx : Ext (fun o => o = d ∨ w.heap.size ≤ o) g w g3 w3) (hD : DevAt g3 w3 d D) (hO : g3.O w.heap.size = w.heap.size) (hF : g3.F w.heap.size = 0) (hd : d < w.heap.size) (u : Value) (ob : Obj) : SaveP d g w D ((w3.setCell ⟨w.heap.size, 0, none⟩ u).alloc ob) := by
  obtain ⟨g', h1, h2⟩ := save_end0 hx hD hO hF hd u
  exact ⟨g', h1.alloc ob, h2.ext ((Ext.refl (fun _ => False) g' _).alloc ob) (fun h => h)⟩

theorem save_end2 {d : Nat} {g g3 : Gh} {w w3 : World} {D : Dev} (hx : Ext (fun o => o = d ∨ w.heap.size ≤ o) g w g3 w3) (hD : DevAt g3 w3 d D) (hO : g3.O w.heap.size = w.heap.size) (hF : g3.F w.heap.size = 0) (hd : d < w.heap.size) (u v : Value) (ob : Obj) : SaveP d g w D (((w3.setCell ⟨w.heap.size, 0, none⟩ u).alloc ob).setCell ⟨w.heap.size, 0, none⟩ v) :=
  ⟨g3, ((hx.setCell (p := ⟨w.heap.size, 0, none⟩) (fun h => absurd h (Nat.lt_irrefl _)) hF u).alloc ob).setCell (p := ⟨w.heap.size, 0, none⟩) (fun h => absurd h (Nat.lt_irrefl _)) hF v, hD.ext ((((Ext.refl (· = w.heap.size) g3 w3).setCell (p := ⟨w.heap.size, 0, none⟩) (fun _ => hO) hF u).alloc ob).setCell (p := ⟨w.heap.size, 0, none⟩) (fun _ => hO) hF v) (by omega)⟩

set_option maxRecDepth 100000 in
set_option maxHeartbeats 6400000 in
theorem save_down (d : Nat) (g : Gh) (w : World) (D : Dev) (hD : DevAt g w d D) (hdn : D.down = true) (name : ByteArray) (h : nmB false 40 name = true) (p : Int) (v : Value) :
    Calls Tryd.prog 16 #[.pointer (some ⟨d, 0, none⟩), .string name, .int .i64 p, v] w fun e w' => e = .returned (.int .i64 303) ∧ SaveP d g w D w' := by
  have hmf : ∀ (fn : Fn) (first cap : Array Value) (w : World), (Instr.makeFunc fn first cap).run Tryd.prog w = .ok (.func fn first cap) w := fun _ _ _ _ => rfl
  have hns := nm_size h
  obtain ⟨g2, ⟨hx2, hb2, hs2, hd2⟩, hO2, hF2, hO2', hF2'⟩ := save_pro d g w D hD name
  have hdl := hD.lt
  have HX2 := Lib.hid hx2
  have HB2 := Lib.hid hb2
  have HS2 := Lib.hid hs2
  have HD2 := Lib.hid hd2
  clear hx2 hb2 hs2 hd2
  go_enter_defers Tryd.func16, Tryd.ntmps16
  go_wp2_with fail
  refine (cname_any name _ (by omega)).mono ?_
  rw [h]
  rintro e w' ⟨rfl, rfl⟩
  go_wp2_with fail
  refine (newest_down (w.heap.size + 1) d g2 _ D name HD2.out hdn h HS2.out hO2 hF2).mono ?_
  rintro e w3 ⟨g3, rfl, hx3, hs3⟩
  have hb3 : Blk w.heap.size 36 [.int .i64 0] w3 := HB2.out.ext hx3 (by rw [hO2']; omega)
  have HX3 := Lib.hid ((HX2.out.imp (fun o (h : False) => (h.elim : o = d ∨ w.heap.size ≤ o))).trans (hx3.imp (fun o h => Or.inr (by omega))))
  have HD3 := Lib.hid (HD2.out.ext hx3 (by omega))
  have HB3 := Lib.hid hb3
  have HS3 := Lib.hid hs3
  have hlt3 := hb3.lt
  have hlt3' := hs3.lt
  have q0 : w3.cell? ⟨w.heap.size, 0, none⟩ = some (.int .i64 0) := hb3.cell 0
  have z0 := hb3.fz
  have q2 : w3.cell? ⟨w.heap.size + 1, 2, none⟩ = some (.int .i64 303) := hs3.cell 2
  have hF3 : g3.F w.heap.size = 0 := hx3.zero _ HB2.out.lt hF2'
  have hO3 : g3.O w.heap.size = w.heap.size := (hx3.own _ HB2.out.lt).trans hO2'
  clear hx3 hb3 hs3
  have hn1 : w3.heap.size ≠ w.heap.size := by omega
  have hn2 : w3.heap.size ≠ w.heap.size + 1 := by omega
  go_wp2_with fail
  refine leaves_cons (f := 37) (args := #[.pointer (some ⟨w.heap.size + 1, 0, none⟩), .pointer (some ⟨w.heap.size, 0, none⟩)]) (by simp) (by simp [go_sem]) ?_
  refine (save1_some (w.heap.size + 1) w.heap.size _ 303 0 (by decide) ?_ ?_ ?_).mono ?_
  · exact ((HS3.out.far (p := ⟨w.heap.size, 0, none⟩) (by dsimp only; omega) _).alloc _).cell 2
  · exact ((HB3.out.set 0 (.int .i64 0)).alloc _).cell 0
  · exact ((HB3.out.set 0 (.int .i64 0)).alloc _).fz 0
  rintro e u' w'' ⟨rfl, rfl, rfl⟩
  have hres : (((w3.setCell ⟨w.heap.size, 0, none⟩ (.int .i64 0)).alloc (.cells #[.bool false, .int .i64 0, .int .i64 0] 79)).setCell ⟨w.heap.size, 0, none⟩ (.int .i64 303)).cell? ⟨w.heap.size, 0, none⟩ = some (.int .i64 303) := (((HB3.out.set 0 (.int .i64 0)).alloc _).set 0 (.int .i64 303)).cell 0
  simp [Leaves, settle, results, Tryd.results16, go_sem, hres]
  exact save_end2 HX3.out HD3.out hO3 hF3 hdl _ _ _

/-- What Save answers, and what it makes of the device. -/
noncomputable def saveI (D : Dev) (name : ByteArray) (o0 o1 : Option Ck) (p : Int) (st : List UInt8) : Int :=
  if p < 0 ∨ p < posO (newS o0 o1).1 then 321 else if 2097152 < st.length then 320 else svI D (svOp name (newS o0 o1).2 ⟨seqO (newS o0 o1).1 + 1, p.toNat, st⟩)
noncomputable def saveD (D : Dev) (name : ByteArray) (o0 o1 : Option Ck) (p : Int) (st : List UInt8) : Dev :=
  if p < 0 ∨ p < posO (newS o0 o1).1 then D else if 2097152 < st.length then D else svD D (svOp name (newS o0 o1).2 ⟨seqO (newS o0 o1).1 + 1, p.toNat, st⟩)

set_option maxRecDepth 100000 in
set_option maxHeartbeats 6400000 in
theorem save_pos (d : Nat) (g : Gh) (w : World) (D : Dev) (hD : DevAt g w d D) (hdn : D.down = false) (name : ByteArray) (h : nmB false 40 name = true) (o0 o1 : Option Ck) (h0 : SlotIs D (slotN name 0) o0) (h1 : SlotIs D (slotN name 1) o1) (p : Int) (A : Option Addr) (cap : Nat) (st : List UInt8) (hr : BytesAt g w (.slice A st.length cap) st)
    (hp : p < 0 ∨ p < posO (newS o0 o1).1) :
    Calls Tryd.prog 16 #[.pointer (some ⟨d, 0, none⟩), .string name, .int .i64 p, .slice A st.length cap] w fun e w' => e = .returned (.int .i64 321) ∧ SaveP d g w D w' := by
  have hmf : ∀ (fn : Fn) (first cap : Array Value) (w : World), (Instr.makeFunc fn first cap).run Tryd.prog w = .ok (.func fn first cap) w := fun _ _ _ _ => rfl
  have hns := nm_size h
  obtain ⟨g2, ⟨hx2, hb2, hs2, hd2⟩, hO2, hF2, hO2', hF2'⟩ := save_pro d g w D hD name
  have hdl := hD.lt
  have HX2 := Lib.hid hx2
  have HB2 := Lib.hid hb2
  have HS2 := Lib.hid hs2
  have HD2 := Lib.hid hd2
  clear hx2 hb2 hs2 hd2
  go_enter_defers Tryd.func16, Tryd.ntmps16
  go_wp2_with fail
  refine (cname_any name _ (by omega)).mono ?_
  rw [h]
  rintro e w' ⟨rfl, rfl⟩
  go_wp2_with fail
  refine (newest_any (w.heap.size + 1) d g2 _ D name HD2.out hdn h o0 o1 h0 h1 HS2.out hO2 hF2 (by omega)).mono ?_
  rintro e w3 ⟨g3, x0, x1, rfl, hx3, hs3, _, _⟩
  have hb3 : Blk w.heap.size 36 [.int .i64 0] w3 := HB2.out.ext hx3 (by rw [hO2']; omega)
  have HX3 := Lib.hid ((HX2.out.imp (fun o (h : False) => (h.elim : o = d ∨ w.heap.size ≤ o))).trans (hx3.imp (fun o h => Or.inr (by omega))))
  have HD3 := Lib.hid (HD2.out.ext hx3 (by omega))
  have HB3 := Lib.hid hb3
  have HS3 := Lib.hid hs3
  have hlt3 := hb3.lt
  have hlt3' := hs3.lt
  have q0 : w3.cell? ⟨w.heap.size, 0, none⟩ = some (.int .i64 0) := hb3.cell 0
  have z0 := hb3.fz
  have q2 : w3.cell? ⟨w.heap.size + 1, 2, none⟩ = some (.int .i64 0) := hs3.cell 2
  have hF3 : g3.F w.heap.size = 0 := hx3.zero _ HB2.out.lt hF2'
  have hO3 : g3.O w.heap.size = w.heap.size := (hx3.own _ HB2.out.lt).trans hO2'
  have hOs3 : g3.O (w.heap.size + 1) = w.heap.size + 1 := (hx3.own _ HS2.out.lt).trans hO2
  have hFs3 : g3.F (w.heap.size + 1) = 0 := hx3.zero _ HS2.out.lt hF2
  clear hx3 hb3 hs3
  have hn1 : w3.heap.size ≠ w.heap.size := by omega
  have hn2 : w3.heap.size ≠ w.heap.size + 1 := by omega
  rw [show stV (newS o0 o1).1 = .agg #[.bool (newS o0 o1).1.isSome, .int .i64 (seqO (newS o0 o1).1), .int .i64 (posO (newS o0 o1).1)] from rfl]
  have hot := newS_lt o0 o1
  generalize newS o0 o1 = nw at *
  obtain ⟨nw, ot⟩ := nw
  dsimp only at *
  by_cases hp0 : p < 0
  · go_wp2_with fail
    refine leaves_cons (f := 37) (args := #[.pointer (some ⟨w.heap.size + 1, 0, none⟩), .pointer (some ⟨w.heap.size, 0, none⟩)]) (by simp) (by simp [go_sem]) ?_
    refine (save1_zero (w.heap.size + 1) w.heap.size _ ?_).mono ?_
    · exact ((HS3.out.far (p := ⟨w.heap.size, 0, none⟩) (by dsimp only; omega) _).alloc _).cell 2
    rintro e u' w'' ⟨rfl, rfl, rfl⟩
    have hres : ((w3.setCell ⟨w.heap.size, 0, none⟩ (.int .i64 321)).alloc (.cells #[.bool nw.isSome, .int .i64 (seqO nw), .int .i64 (posO nw)] 79)).cell? ⟨w.heap.size, 0, none⟩ = some (.int .i64 321) := ((HB3.out.set 0 (.int .i64 321)).alloc _).cell 0
    simp [Leaves, settle, results, Tryd.results16, go_sem, hres]
    exact save_end HX3.out HD3.out hO3 hF3 hdl _ _
  · have hp1 : p < posO nw := by omega
    go_wp2_with fail
    refine leaves_cons (f := 37) (args := #[.pointer (some ⟨w.heap.size + 1, 0, none⟩), .pointer (some ⟨w.heap.size, 0, none⟩)]) (by simp) (by simp [go_sem]) ?_
    refine (save1_zero (w.heap.size + 1) w.heap.size _ ?_).mono ?_
    · exact ((HS3.out.far (p := ⟨w.heap.size, 0, none⟩) (by dsimp only; omega) _).alloc _).cell 2
    rintro e u' w'' ⟨rfl, rfl, rfl⟩
    have hres : ((w3.setCell ⟨w.heap.size, 0, none⟩ (.int .i64 321)).alloc (.cells #[.bool nw.isSome, .int .i64 (seqO nw), .int .i64 (posO nw)] 79)).cell? ⟨w.heap.size, 0, none⟩ = some (.int .i64 321) := ((HB3.out.set 0 (.int .i64 321)).alloc _).cell 0
    simp [Leaves, settle, results, Tryd.results16, go_sem, hres]
    exact save_end HX3.out HD3.out hO3 hF3 hdl _ _

set_option maxRecDepth 100000 in
set_option maxHeartbeats 6400000 in
theorem save_size (d : Nat) (g : Gh) (w : World) (D : Dev) (hD : DevAt g w d D) (hdn : D.down = false) (name : ByteArray) (h : nmB false 40 name = true) (o0 o1 : Option Ck) (h0 : SlotIs D (slotN name 0) o0) (h1 : SlotIs D (slotN name 1) o1) (p : Int) (A : Option Addr) (cap : Nat) (st : List UInt8) (hr : BytesAt g w (.slice A st.length cap) st)
    (hp0 : 0 ≤ p) (hp1 : (posO (newS o0 o1).1 : Int) ≤ p) (hl : 2097152 < st.length) :
    Calls Tryd.prog 16 #[.pointer (some ⟨d, 0, none⟩), .string name, .int .i64 p, .slice A st.length cap] w fun e w' => e = .returned (.int .i64 320) ∧ SaveP d g w D w' := by
  have hmf : ∀ (fn : Fn) (first cap : Array Value) (w : World), (Instr.makeFunc fn first cap).run Tryd.prog w = .ok (.func fn first cap) w := fun _ _ _ _ => rfl
  have hns := nm_size h
  obtain ⟨g2, ⟨hx2, hb2, hs2, hd2⟩, hO2, hF2, hO2', hF2'⟩ := save_pro d g w D hD name
  have hdl := hD.lt
  have HX2 := Lib.hid hx2
  have HB2 := Lib.hid hb2
  have HS2 := Lib.hid hs2
  have HD2 := Lib.hid hd2
  clear hx2 hb2 hs2 hd2
  go_enter_defers Tryd.func16, Tryd.ntmps16
  go_wp2_with fail
  refine (cname_any name _ (by omega)).mono ?_
  rw [h]
  rintro e w' ⟨rfl, rfl⟩
  go_wp2_with fail
  refine (newest_any (w.heap.size + 1) d g2 _ D name HD2.out hdn h o0 o1 h0 h1 HS2.out hO2 hF2 (by omega)).mono ?_
  rintro e w3 ⟨g3, x0, x1, rfl, hx3, hs3, _, _⟩
  have hb3 : Blk w.heap.size 36 [.int .i64 0] w3 := HB2.out.ext hx3 (by rw [hO2']; omega)
  have HX3 := Lib.hid ((HX2.out.imp (fun o (h : False) => (h.elim : o = d ∨ w.heap.size ≤ o))).trans (hx3.imp (fun o h => Or.inr (by omega))))
  have HD3 := Lib.hid (HD2.out.ext hx3 (by omega))
  have HB3 := Lib.hid hb3
  have HS3 := Lib.hid hs3
  have hlt3 := hb3.lt
  have hlt3' := hs3.lt
  have q0 : w3.cell? ⟨w.heap.size, 0, none⟩ = some (.int .i64 0) := hb3.cell 0
  have z0 := hb3.fz
  have q2 : w3.cell? ⟨w.heap.size + 1, 2, none⟩ = some (.int .i64 0) := hs3.cell 2
  have hF3 : g3.F w.heap.size = 0 := hx3.zero _ HB2.out.lt hF2'
  have hO3 : g3.O w.heap.size = w.heap.size := (hx3.own _ HB2.out.lt).trans hO2'
  have hOs3 : g3.O (w.heap.size + 1) = w.heap.size + 1 := (hx3.own _ HS2.out.lt).trans hO2
  have hFs3 : g3.F (w.heap.size + 1) = 0 := hx3.zero _ HS2.out.lt hF2
  clear hx3 hb3 hs3
  have hn1 : w3.heap.size ≠ w.heap.size := by omega
  have hn2 : w3.heap.size ≠ w.heap.size + 1 := by omega
  rw [show stV (newS o0 o1).1 = .agg #[.bool (newS o0 o1).1.isSome, .int .i64 (seqO (newS o0 o1).1), .int .i64 (posO (newS o0 o1).1)] from rfl]
  have hot := newS_lt o0 o1
  generalize newS o0 o1 = nw at *
  obtain ⟨nw, ot⟩ := nw
  dsimp only at *
  have hlb : decide ((2097152 : Int) < (st.length : Nat)) = true := by simp; omega
  go_wp2_with fail
  refine leaves_cons (f := 37) (args := #[.pointer (some ⟨w.heap.size + 1, 0, none⟩), .pointer (some ⟨w.heap.size, 0, none⟩)]) (by simp) (by simp [go_sem]) ?_
  refine (save1_zero (w.heap.size + 1) w.heap.size _ ?_).mono ?_
  · exact ((HS3.out.far (p := ⟨w.heap.size, 0, none⟩) (by dsimp only; omega) _).alloc _).cell 2
  rintro e u' w'' ⟨rfl, rfl, rfl⟩
  have hres : ((w3.setCell ⟨w.heap.size, 0, none⟩ (.int .i64 320)).alloc (.cells #[.bool nw.isSome, .int .i64 (seqO nw), .int .i64 (posO nw)] 79)).cell? ⟨w.heap.size, 0, none⟩ = some (.int .i64 320) := ((HB3.out.set 0 (.int .i64 320)).alloc _).cell 0
  simp [Leaves, settle, results, Tryd.results16, go_sem, hres]
  exact save_end HX3.out HD3.out hO3 hF3 hdl _ _

end Go.Proofs.YtcjkllmellampaaDoor
