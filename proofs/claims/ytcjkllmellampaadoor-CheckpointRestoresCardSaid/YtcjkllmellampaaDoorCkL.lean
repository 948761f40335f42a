/-
  Load.
-/
import Derived.Test.YtcjkllmellampaaDoorCkW
namespace Go.Proofs.YtcjkllmellampaaDoor
open Go.RowKit

set_option maxRecDepth 100000 in
theorem load_bad (d : Nat) (w : World) (name : ByteArray) (hs : name.size ≤ 9223372036854775807) (h : nmB false 40 name = false) :
    Calls Tryd.prog 23 #[.pointer (some ⟨d, 0, none⟩), .string name] w fun e w' => e = .returned (.tuple #[.int .i64 0, .slice none 0 0, .bool false, .int .i64 323]) ∧ w = w' := by
  go_enter Tryd.func23, Tryd.ntmps23
  go_wp2_with fail
  refine (cname_any name _ hs).mono ?_
  rw [h]
  rintro e w' ⟨rfl, rfl⟩
  go_wp2_with fail
  refine bodyPost_ret (v := .tuple #[.int .i64 0, .slice none 0 0, .bool false, .int .i64 323]) (by simp [results, Tryd.results23, go_sem]) rfl ⟨rfl, rfl⟩

theorem load_pro (d : Nat) (g : Gh) (w : World) (D : Dev) (hD : DevAt g w d D) (name : ByteArray) : ∃ g2, (fun x : World => Ext (fun _ => False) g w g2 x ∧ Blk w.heap.size 83 (sCs d name 0 none none (.slice none 0 0) (.slice none 0 0)) x ∧ DevAt g2 x d D) (w.alloc (.cells #[.pointer (some ⟨d, 0, none⟩), .string name, .int .i64 0, .bool false, .int .i64 0, .int .i64 0, .bool false, .int .i64 0, .int .i64 0, .slice none 0 0, .slice none 0 0] 83)) ∧
    g2.O w.heap.size = w.heap.size ∧ g2.F w.heap.size = 0 := by
  have h1 := Ext.box (fun _ => False) g w (.cells #[.pointer (some ⟨d, 0, none⟩), .string name, .int .i64 0, .bool false, .int .i64 0, .int .i64 0, .bool false, .int .i64 0, .int .i64 0, .slice none 0 0, .slice none 0 0] 83)
  exact ⟨g.box w.heap.size, ⟨h1, Blk.new w 83 (sCs d name 0 none none (.slice none 0 0) (.slice none 0 0)), hD.ext h1 (fun h => h)⟩, Gh.box_O _ _, Gh.box_F _ _⟩

set_option maxRecDepth 100000 in
set_option maxHeartbeats 6400000 in
theorem load_down (d : Nat) (g : Gh) (w : World) (D : Dev) (hD : DevAt g w d D) (hdn : D.down = true) (name : ByteArray) (h : nmB false 40 name = true) :
    Calls Tryd.prog 23 #[.pointer (some ⟨d, 0, none⟩), .string name] w fun e w' => e = .returned (.tuple #[.int .i64 0, .slice none 0 0, .bool false, .int .i64 303]) ∧ ∃ g', Ext (fun o => w.heap.size ≤ o) g w g' w' := by
  have hns := nm_size h
  obtain ⟨g2, ⟨hx2, hs2, hd2⟩, hO2, hF2⟩ := load_pro d g w D hD name
  have hdl := hD.lt
  have HX2 := Lib.hid hx2
  have HS2 := Lib.hid hs2
  have HD2 := Lib.hid hd2
  clear hx2 hs2 hd2
  go_enter Tryd.func23, Tryd.ntmps23
  go_wp2_with fail
  refine (cname_any name _ (by omega)).mono ?_
  rw [h]
  rintro e w' ⟨rfl, rfl⟩
  go_wp2_with fail
  refine (newest_down w.heap.size d g2 _ D name HD2.out hdn h HS2.out hO2 hF2).mono ?_
  rintro e w3 ⟨g3, rfl, hx3, hs3⟩
  have HX3 := Lib.hid ((HX2.out.imp (fun o (h : False) => (h.elim : w.heap.size ≤ o))).trans (hx3.imp (fun o h => show w.heap.size ≤ o by omega)))
  have q2 : w3.cell? ⟨w.heap.size, 2, none⟩ = some (.int .i64 303) := hs3.cell 2
  have hlt := hs3.lt
  have hn1 : w3.heap.size ≠ w.heap.size := by omega
  have hn1' : w.heap.size ≠ w3.heap.size := by omega
  clear hx3 hs3
  go_wp2_with fail
  go_quiet (fail)
  go_wp2_with fail
  refine bodyPost_ret (v := .tuple #[.int .i64 0, .slice none 0 0, .bool false, .int .i64 303]) (by simp [results, Tryd.results23, go_sem]) rfl ⟨rfl, g3, ?_⟩
  exact (HX3.out.alloc _).drewN _

/-- What Load hands back. -/
def LoadP (g : Gh) (w : World) (o : Option Ck) (e : Ending) (w' : World) : Prop :=
  ∃ g' x, Ext (fun o => w.heap.size ≤ o) g w g' w' ∧ StAt g' w' x o ∧ e = .returned (.tuple #[.int .i64 (posO o), x, .bool o.isSome, .int .i64 0])

set_option maxRecDepth 100000 in
set_option maxHeartbeats 6400000 in
theorem load_any (d : Nat) (g : Gh) (w : World) (D : Dev) (hD : DevAt g w d D) (hdn : D.down = false) (name : ByteArray) (h : nmB false 40 name = true) (o0 o1 : Option Ck) (h0 : SlotIs D (slotN name 0) o0) (h1 : SlotIs D (slotN name 1) o1) :
    Calls Tryd.prog 23 #[.pointer (some ⟨d, 0, none⟩), .string name] w (LoadP g w (newS o0 o1).1) := by
  have hns := nm_size h
  obtain ⟨g2, ⟨hx2, hs2, hd2⟩, hO2, hF2⟩ := load_pro d g w D hD name
  have hdl := hD.lt
  have HX2 := Lib.hid hx2
  have HS2 := Lib.hid hs2
  have HD2 := Lib.hid hd2
  clear hx2 hs2 hd2
  go_enter Tryd.func23, Tryd.ntmps23
  go_wp2_with fail
  refine (cname_any name _ (by omega)).mono ?_
  rw [h]
  rintro e w' ⟨rfl, rfl⟩
  go_wp2_with fail
  refine (newest_any w.heap.size d g2 _ D name HD2.out hdn h o0 o1 h0 h1 HS2.out hO2 hF2 (by omega)).mono ?_
  rintro e w3 ⟨g3, x0, x1, rfl, hx3, hs3, hst0, hst1⟩
  have HX3 := Lib.hid ((HX2.out.imp (fun o (h : False) => (h.elim : w.heap.size ≤ o))).trans (hx3.imp (fun o h => show w.heap.size ≤ o by omega)))
  have q2 : w3.cell? ⟨w.heap.size, 2, none⟩ = some (.int .i64 0) := hs3.cell 2
  have q9 : w3.cell? ⟨w.heap.size, 9, none⟩ = some x0 := hs3.cell 9
  have q10 : w3.cell? ⟨w.heap.size, 10, none⟩ = some x1 := hs3.cell 10
  have hlt := hs3.lt
  have hn1 : w3.heap.size ≠ w.heap.size := by omega
  have hn1' : w.heap.size ≠ w3.heap.size := by omega
  have HST : Hid (∃ x, StAt g3 w3 x (newS o0 o1).1 ∧ ((newS o0 o1).2 = 1 ∧ x = x0 ∨ (newS o0 o1).2 = 0 ∧ x = x1)) := by
    show ∃ _, _
    unfold newS
    split
    · exact ⟨x0, hst0, .inl ⟨rfl, rfl⟩⟩
    · exact ⟨x1, hst1, .inr ⟨rfl, rfl⟩⟩
  clear hx3 hs3 hst0 hst1
  obtain ⟨nw, ot, hnw⟩ : ∃ nw ot, newS o0 o1 = (nw, ot) := ⟨_, _, rfl⟩
  rw [hnw] at HST
  rw [hnw]
  have HNW := Lib.hid hnw
  clear hnw
  obtain ⟨x, hst, hx⟩ := HST.out
  have HS := Lib.hid hst
  clear hst HST
  dsimp only at hx
  cases nw with
  | none =>
    rw [show stV (none, ot).1 = .agg #[.bool false, .int .i64 0, .int .i64 0] from rfl]
    go_wp2_with fail
    go_quiet (fail)
    go_wp2_with fail
    refine bodyPost_ret (v := .tuple #[.int .i64 0, .slice none 0 0, .bool false, .int .i64 0]) (by simp [results, Tryd.results23, go_sem]) rfl ?_
    rw [HNW.out]
    exact ⟨g3, .slice none 0 0, (HX3.out.alloc _).drewN _, rfl, rfl⟩
  | some c =>
    rw [show stV (some c, ot).1 = .agg #[.bool true, .int .i64 c.seq, .int .i64 c.pos] from rfl]
    rcases hx with ⟨rfl, rfl⟩ | ⟨rfl, rfl⟩
    · go_wp2_with fail
      go_quiet (fail)
      go_wp2_with fail
      refine bodyPost_ret (v := .tuple #[.int .i64 c.pos, x, .bool true, .int .i64 0]) (by simp [results, Tryd.results23, go_sem]) rfl ?_
      rw [HNW.out]
      exact ⟨g3, x, (HX3.out.alloc _).drewN _, HS.out.ext (((Ext.refl (fun _ => False) g3 w3).alloc _).drewN _), rfl⟩
    · go_wp2_with fail
      go_quiet (fail)
      go_wp2_with fail
      refine bodyPost_ret (v := .tuple #[.int .i64 c.pos, x, .bool true, .int .i64 0]) (by simp [results, Tryd.results23, go_sem]) rfl ?_
      rw [HNW.out]
      exact ⟨g3, x, (HX3.out.alloc _).drewN _, HS.out.ext (((Ext.refl (fun _ => False) g3 w3).alloc _).drewN _), rfl⟩

end Go.Proofs.YtcjkllmellampaaDoor
