/-
  The sanity check of the chapter.
-/
import Derived.Test.YtcjkllmellampaaDoorCkG
namespace Go.Proofs.YtcjkllmellampaaDoor
open Go.RowKit

/-- The name of the checkpoint. -/
def cN : ByteArray := ⟨#[99]⟩
theorem cN_ok : nmB false 40 ⟨#[99]⟩ = true := by decide

set_option maxRecDepth 100000 in
set_option maxHeartbeats 6400000 in
theorem known_any (g : Gh) (w : World) : Calls Tryd.prog 12 #[] w fun e w' => e = .returned (.bool true) ∧ ∃ g', Ext (fun o => w.heap.size ≤ o) g w g' w' := by
  have hcv := fun (w : World) (C : Array Value) (n c : Nat) => Lib.run_convert_bytes_const (P := Tryd.prog) w 32 5 C n c Tryd.underlying32 Tryd.underlying5
  go_enter Tryd.func12, Tryd.ntmps12
  go_wp2_with fail
  refine (gnew g w).mono ?_
  rintro e w1 ⟨d, g1, rfl, hd, hx1, hD1⟩
  have HX1 : Hid (Ext (fun o => w.heap.size ≤ o) g w g1 w1) := hx1.imp (fun _ h => h.elim)
  have HD1 := Lib.hid hD1
  clear hx1 hD1
  go_wp2_with fail
  refine (gsave_lit d g1 w1 dev0 0 HD1.out Quiet.dev0 (by omega) ⟨#[99]⟩ cN_ok none none (SlotIs.zero rfl) (SlotIs.zero rfl) 2 [120, 121] (2, 3) (by omega) (by decide) (by omega) (by decide) (by decide)).mono ?_
  rintro e w2 ⟨rfl, D2, p0, p1, ⟨g2, hx2, hD2⟩, hq2, hs0, hs1, hnw, _⟩
  have hsz1 := HX1.out.size
  have HX2 := Lib.hid (HX1.out.trans (hx2.imp (fun o h => show w.heap.size ≤ o from h.elim (fun h => by omega) (fun h => by omega))))
  have HD2 := Lib.hid hD2
  have HQ2 := Lib.hid hq2
  have HS0 := Lib.hid hs0
  have HS1 := Lib.hid hs1
  have HNW := Lib.hid hnw
  clear hx2 hD2 hq2 hs0 hs1 hnw HX1 HD1
  go_wp2_with fail
  refine (save_pos d g2 w2 D2 HD2.out HQ2.out.up.dn ⟨#[99]⟩ cN_ok p0 p1 HS0.out HS1.out 1 none 0 [] (BytesAt.nil _ _) (.inr (by rw [HNW.out]; decide))).mono ?_
  rintro e w3 ⟨rfl, g3, hx3, hD3⟩
  have hsz2 := HX2.out.size
  have HX3 := Lib.hid (HX2.out.trans (hx3.imp (fun o h => show w.heap.size ≤ o from h.elim (fun h => by omega) (fun h => by omega))))
  have HD3 := Lib.hid hD3
  clear hx3 hD3 HX2 HD2
  go_wp2_with fail
  refine (load_any d g3 w3 D2 HD3.out HQ2.out.up.dn ⟨#[99]⟩ cN_ok p0 p1 HS0.out HS1.out).mono ?_
  rw [HNW.out]
  rintro e w4 ⟨g4, x, hx4, ⟨A, rfl, hby⟩, rfl⟩
  have hsz3 := HX3.out.size
  have HX4 := Lib.hid (HX3.out.trans (hx4.imp (fun o h => show w.heap.size ≤ o by omega)))
  have hstr : (convert 32 9 (.slice A 2 2)).run Tryd.prog w4 = .ok (.string ⟨#[120, 121]⟩) w4 := hby.str
  clear hx4 hby HX3
  go_wp2_with fail
  go_ret
  exact ⟨rfl, g4, HX4.out⟩

/-- load of the law: the checkpoint as a struct. -/
def LdP (g : Gh) (w : World) (o : Option Ck) (e : Ending) (w' : World) : Prop :=
  ∃ g' x, Ext (fun o => w.heap.size ≤ o) g w g' w' ∧ StAt g' w' x o ∧ e = .returned (.tuple #[.agg #[.int .i64 (posO o), x, .bool o.isSome], .bool true])
set_option maxRecDepth 100000 in
set_option maxHeartbeats 6400000 in
theorem ld_any (d : Nat) (g : Gh) (w : World) (D : Dev) (hD : DevAt g w d D) (hdn : D.down = false) (name : ByteArray) (h : nmB false 40 name = true) (o0 o1 : Option Ck) (h0 : SlotIs D (slotN name 0) o0) (h1 : SlotIs D (slotN name 1) o1) :
    Calls Tryd.prog 17 #[.pointer (some ⟨d, 0, none⟩), .string name] w (LdP g w (newS o0 o1).1) := by
  have hxb : Ext (fun _ => False) g w (g.box w.heap.size) (w.alloc (.cells #[.int .i64 0, .slice none 0 0, .bool false] 34)) := Ext.box _ g w _
  have HZ : Hid (Blk w.heap.size 34 [.int .i64 0, .slice none 0 0, .bool false] (w.alloc (.cells #[.int .i64 0, .slice none 0 0, .bool false] 34))) := Blk.new w 34 _
  have hF : (g.box w.heap.size).F w.heap.size = 0 := g.box_F _
  have hO : (g.box w.heap.size).O w.heap.size = w.heap.size := g.box_O _
  have HD := Lib.hid (hD.ext hxb (fun h => h))
  have HX := Lib.hid hxb
  have hsz : (w.alloc (.cells #[.int .i64 0, .slice none 0 0, .bool false] 34)).heap.size = w.heap.size + 1 := by simp
  have HSZ := Lib.hid hsz
  clear hxb hsz
  generalize g.box w.heap.size = gb at *
  go_enter Tryd.func17, Tryd.ntmps17
  go_wp2_with fail
  refine (load_any d gb _ D HD.out hdn name h o0 o1 h0 h1).mono ?_
  rintro e w2 ⟨g2, x, hx2, hst, rfl⟩
  obtain ⟨A2, n2, c2, rfl⟩ := hst.slice
  have hz2 := HZ.out.ext hx2 (by rw [hO, HSZ.out]; omega)
  have hF2 := hx2.zero _ HZ.out.lt hF
  have HX2 := Lib.hid ((HX.out.imp (fun o (h : False) => (h.elim : w.heap.size ≤ o))).trans (hx2.imp (fun o h => show w.heap.size ≤ o by rw [HSZ.out] at h; omega)))
  have HST := Lib.hid hst
  have HZ2 := Lib.hid hz2
  have k0 : w2.cell? ⟨w.heap.size, 0, none⟩ = some (.int .i64 0) := hz2.cell 0
  have k1 : w2.cell? ⟨w.heap.size, 1, none⟩ = some (.slice none 0 0) := hz2.cell 1
  have k2 : w2.cell? ⟨w.heap.size, 2, none⟩ = some (.bool false) := hz2.cell 2
  have z := hz2.fz
  clear hx2 hst hz2
  generalize (newS o0 o1).1 = o at *
  go_wp2_with fail
  refine bodyPost_ret (v := .tuple #[.agg #[.int .i64 (posO o), .slice A2 n2 c2, .bool o.isSome], .bool true]) (by simp [results, Tryd.results17, go_sem, k0, k1, k2]) rfl ?_
  have hy := (((Ext.refl (fun _ => True) g2 w2).setCell (p := ⟨w.heap.size, 0, none⟩) (fun _ => trivial) hF2 (.int .i64 (posO o))).setCell (p := ⟨w.heap.size, 1, none⟩) (fun _ => trivial) hF2 (.slice A2 n2 c2)).setCell (p := ⟨w.heap.size, 2, none⟩) (fun _ => trivial) hF2 (.bool o.isSome)
  exact ⟨g2, _, Ext.put3 HX2.out (Nat.le_refl _) hF2 _ _ _, HST.out.ext hy, rfl⟩

end Go.Proofs.YtcjkllmellampaaDoor
