/-
  The sanity check of the chapter.
-/
import Derived.Test.YtcjkllmellampaaDoorCkG
namespace Go.Proofs.YtcjkllmellampaaDoor
open Go.RowKit

/-- The name of the checkpoint. -/
def cN : ByteArray := ⟨#[99]⟩
theorem cN_ok : nmB false 40 ⟨#[99]⟩ = true := by decide

set_option maxRecDepth 100000 in
set_option maxHeartbeats 6400000 in
theorem known_any (g : Gh) (w : World) : Calls Tryd.prog 12 #[] w fun e w' => e = .returned (.bool true) ∧ ∃ g', Ext (fun o => w.heap.size ≤ o) g w g' w' := by
  have hcv := fun (w : World) (C : Array Value) (n c : Nat) => Lib.run_convert_bytes_const (P := Tryd.prog) w 32 5 C n c Tryd.underlying32 Tryd.underlying5
  go_enter Tryd.func12, Tryd.ntmps12
  go_wp2_with fail
  refine (gnew g w).mono ?_
  rintro e w1 ⟨d, g1, rfl, hd, hx1, hD1⟩
  have HX1 : Hid (Ext (fun o => w.heap.size ≤ o) g w g1 w1) := hx1.imp (fun _ h => h.elim)
  have HD1 := Lib.hid hD1
  clear hx1 hD1
  go_wp2_with fail
  refine (gsave_lit d g1 w1 dev0 0 HD1.out Quiet.dev0 (by omega) ⟨#[99]⟩ cN_ok none none (SlotIs.zero rfl) (SlotIs.zero rfl) 2 [120, 121] (2, 3) (by omega) (by decide) (by omega) (by decide) (by decide)).mono ?_
  rintro e w2 ⟨rfl, D2, p0, p1, ⟨g2, hx2, hD2⟩, hq2, hs0, hs1, hnw, _⟩
  have hsz1 := HX1.out.size
  have HX2 := Lib.hid (HX1.out.trans (hx2.imp (fun o h => show w.heap.size ≤ o from h.elim (fun h => by omega) (fun h => by omega))))
  have HD2 := Lib.hid hD2
  have HQ2 := Lib.hid hq2
  have HS0 := Lib.hid hs0
  have HS1 := Lib.hid hs1
  have HNW := Lib.hid hnw
  clear hx2 hD2 hq2 hs0 hs1 hnw HX1 HD1
  go_wp2_with fail
  refine (save_pos d g2 w2 D2 HD2.out HQ2.out.up.dn ⟨#[99]⟩ cN_ok p0 p1 HS0.out HS1.out 1 none 0 [] (BytesAt.nil _ _) (.inr (by rw [HNW.out]; decide))).mono ?_
  rintro e w3 ⟨rfl, g3, hx3, hD3⟩
  have hsz2 := HX2.out.size
  have HX3 := Lib.hid (HX2.out.trans (hx3.imp (fun o h => show w.heap.size ≤ o from h.elim (fun h => by omega) (fun h => by omega))))
  have HD3 := Lib.hid hD3
  clear hx3 hD3 HX2 HD2
  go_wp2_with fail
  refine (load_any d g3 w3 D2 HD3.out HQ2.out.up.dn ⟨#[99]⟩ cN_ok p0 p1 HS0.out HS1.out).mono ?_
  rw [HNW.out]
  rintro e w4 ⟨g4, x, hx4, ⟨A, rfl, hby⟩, rfl⟩
  have hsz3 := HX3.out.size
  have HX4 := Lib.hid (HX3.out.trans (hx4.imp (fun o h => show w.heap.size ≤ o by omega)))
  have hstr : (convert 32 9 (.slice A 2 2)).run Tryd.prog w4 = .ok (.string ⟨#[120, 121]⟩) w4 := hby.str
  clear hx4 hby HX3
  go_wp2_with fail
  go_ret
  exact ⟨rfl, g4, HX4.out⟩

end Go.Proofs.YtcjkllmellampaaDoor
