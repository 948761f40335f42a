/-
  The walk of HaveChecks.
-/
import Derived.Test.YtjjdffafibonhaaGreatDoorHvL4
import Derived.Test.YtjjdffafibonhaaGreatDoorHvL3
import Derived.Test.YtjjdffafibonhaaGreatDoorOpenK
namespace Go.Proofs.YtjjdffafibonhaaGreatDoor
open Go.RowKit

/-- The ghost of the world at the start; block 1 is counted to block 0, so that number 1 is nobody's. -/
def gC (w : World) : Gh := ⟨(ghW w).F, fun b => if b = 1 then 0 else b⟩
theorem Rd.gC {sz : Nat} {w : World} {A : Option Addr} {n : Nat} {xs : List Value} (h : Rd sz (ghW w) w A n xs) : Rd sz (gC w) w A n xs := ⟨h.len, h.at_⟩
theorem Ext.finC {w x : World} {g : Gh} (h : Ext (fun q => w.heap.size ≤ q ∨ q = 1) (gC w) w g x) (h2 : 2 ≤ w.heap.size) : Below w.heap.size w x := by
  refine h.to_below (Nat.le_refl _) (fun b hb hm => ?_)
  have e : (Go.Proofs.YtjjdffafibonhaaGreatDoor.gC w).O b = if b = 1 then 0 else b := rfl
  rw [e] at hm
  split at hm <;> omega

set_option maxRecDepth 100000 in
set_option maxHeartbeats 6400000 in
theorem lawChecks_any (w : World) (hg0 : G0 w) (h2 : 2 ≤ w.heap.size) (A : Option Addr) (c : Nat) (raw : List Hv) (hraw : Rd 3 (ghW w) w A raw.length (celH raw)) (hsm : Sm raw) (hrl : raw.length ≤ 4611686018427387904)
    (B : Option Addr) (cb : Nat) (L : List Int) (hr : Rd 1 (ghW w) w B L.length (L.map (Value.int .i64))) (hL : ∀ x ∈ L, (Lit.int .i64 x).wf = true) :
    Calls Tryz.prog 5 #[.slice A raw.length c, .slice B L.length cb] w fun e w' => e = .returned (.bool true) ∧ Below w.heap.size w w' := by
  have hgk : GK (gC w) w := by
    obtain ⟨h, _, h3⟩ := (show GK (ghW w) w from by
      refine ⟨hg0, rfl, ?_⟩
      obtain ⟨m, hm⟩ := hg0
      unfold World.cell? at hm
      split at hm
      · rename_i hh; exact (Array.getElem?_eq_some_iff.1 hh).1
      · cases hm)
    exact ⟨h, rfl, h3⟩
  have hx0 := Ext.box (fun _ => False) (gC w) w (.cells #[.slice B L.length cb, .int .i64 0] 48)
  have ht0 : TapeAt ((gC w).box w.heap.size) (w.alloc (.cells #[.slice B L.length cb, .int .i64 0] 48)) w.heap.size 0 := ⟨B, cb, L, 0, Nat.le_refl _, Blk.new w 48 (tpCs B L.length cb 0), ⟨hr.gC.ext hx0, fun x hx => wf_i64 (hL x hx)⟩, Gh.box_O _ _, Gh.box_F _ _⟩
  have hs0 : (w.alloc (.cells #[.slice B L.length cb, .int .i64 0] 48)).heap.size = w.heap.size + 1 := by simp
  have HX0 : Hid (Ext (fun q => w.heap.size ≤ q ∨ q = 1) (gC w) w ((gC w).box w.heap.size) (w.alloc (.cells #[.slice B L.length cb, .int .i64 0] 48))) := hx0.imp (fun _ h => h.elim)
  have HT0 := Lib.hid ht0
  have HR0 := Lib.hid (hraw.gC.ext hx0)
  have HG0 := Lib.hid (hgk.ext hx0 (fun h => h))
  have HSM := Lib.hid hsm
  have h0 : 0 ≠ 1 := by decide
  have h0l : 0 < w.heap.size := hgk.2.2
  clear hgk hx0 ht0 hr hL hraw hsm hg0
  generalize (gC w).box w.heap.size = g0 at *
  go_enter Tryz.func5, Tryz.ntmps5
  go_wp2_with fail
  generalize w.alloc (.cells #[.slice B L.length cb, .int .i64 0] 48) = w0 at *
  refine (entries_any true entry_true w.heap.size 1 0 g0 w0 HT0.out (by omega) (by omega)).mono ?_
  rintro e w1 ⟨l, A1, c1, g1, rfl, hl, hdr, hx1, ha1, ht1⟩
  have HX1 := Lib.hid (HX0.out.trans (hx1.imp (fun q (hq : q = w.heap.size ∨ q = 1) => show w.heap.size ≤ q ∨ q = 1 by omega)))
  have HR1 := Lib.hid (HR0.out.ext hx1)
  have HG1 := Lib.hid (HG0.out.ext hx1 (by omega))
  have HS1 := Lib.hid ha1.sl.2
  have HDR := Lib.hid hdr
  have hs1 := hx1.size
  clear hx1 ha1 ht1 hdr HX0 HT0 HR0 HG0
  go_wp2_with fail
  refine (sorted_any g1 w1 A1 c1 l HS1.out HDR.out.sm (by omega) HG1.out 1 (by omega) (by decide)).mono ?_
  rintro e w2 ⟨R, A2, c2, g2, rfl, hRl, hin, hx2, ha2⟩
  have HX2 := Lib.hid (HX1.out.trans (hx2.imp (fun q (hq : q = 1) => show w.heap.size ≤ q ∨ q = 1 by omega)))
  have HR2 := Lib.hid (HR1.out.ext hx2)
  have HG2 := Lib.hid (HG1.out.ext hx2 (by omega))
  have HS2 := Lib.hid (HS1.out.ext hx2)
  have HZ2 := Lib.hid ha2.sl.2
  have HDZ : Hid (Dr R) := fun q hq => HDR.out q (hin q hq)
  have hs2 := hx2.size
  clear hx2 ha2 hin HX1 HR1 HG1 HS1
  go_wp2_with fail
  refine (known_any g2 w2).mono ?_
  rintro e w3 ⟨rfl, g3, hx3⟩
  have HX3 := Lib.hid (HX2.out.trans (hx3.imp (fun q (hq : w2.heap.size ≤ q) => show w.heap.size ≤ q ∨ q = 1 by omega)))
  have HR3 := Lib.hid (HR2.out.ext hx3)
  have HG3 := Lib.hid (HG2.out.ext hx3 (by omega))
  have HS3 := Lib.hid (HS2.out.ext hx3)
  have HZ3 := Lib.hid (HZ2.out.ext hx3)
  have hs3 := hx3.size
  have HC1 := Lib.hid (hcheck_any g3 w3 A c raw HR3.out hrl)
  have HC2 : Hid (∀ y, Below w3.heap.size w3 y → Calls Tryz.prog 25 #[.slice A raw.length c] y fun e x' => e = .returned (.int .i64 (checkH raw)) ∧ Below y.heap.size y x') := fun y hy => rcheck_any g3 y A c raw (HR3.out.ext (Ext.of_below (fun _ => False) g3 hy)) HSM.out (HG3.out.below hy).1 hrl
  have HC3 : Hid (∀ y, Below w3.heap.size w3 y → Calls Tryz.prog 18 #[.slice A1 l.length c1] y fun e x' => e = .returned (.int .i64 (checkH l)) ∧ Below y.heap.size y x') := fun y hy => hcheck_any g3 y A1 c1 l (HS3.out.rd.ext (Ext.of_below (fun _ => False) g3 hy)) (by omega)
  have HC4 : Hid (∀ y, Below w3.heap.size w3 y → Calls Tryz.prog 25 #[.slice A1 l.length c1] y fun e x' => e = .returned (.int .i64 (checkH l)) ∧ Below y.heap.size y x') := fun y hy => rcheck_any g3 y A1 c1 l (HS3.out.rd.ext (Ext.of_below (fun _ => False) g3 hy)) HDR.out.sm (HG3.out.below hy).1 (by omega)
  have HC5 : Hid (∀ y, Below w3.heap.size w3 y → Calls Tryz.prog 18 #[.slice A2 R.length c2] y fun e x' => e = .returned (.int .i64 (checkH R)) ∧ Below y.heap.size y x') := fun y hy => hcheck_any g3 y A2 c2 R (HZ3.out.rd.ext (Ext.of_below (fun _ => False) g3 hy)) (by omega)
  have HC6 : Hid (∀ y, Below w3.heap.size w3 y → Calls Tryz.prog 25 #[.slice A2 R.length c2] y fun e x' => e = .returned (.int .i64 (checkH R)) ∧ Below y.heap.size y x') := fun y hy => rcheck_any g3 y A2 c2 R (HZ3.out.rd.ext (Ext.of_below (fun _ => False) g3 hy)) HDZ.out.sm (HG3.out.below hy).1 (by omega)
  obtain ⟨k1, hk1⟩ : ∃ k1, checkH raw = k1 := ⟨_, rfl⟩
  obtain ⟨k2, hk2⟩ : ∃ k2, checkH l = k2 := ⟨_, rfl⟩
  obtain ⟨k3, hk3⟩ : ∃ k3, checkH R = k3 := ⟨_, rfl⟩
  rw [hk1] at HC1 HC2
  rw [hk2] at HC3 HC4
  rw [hk3] at HC5 HC6
  clear hx3 hk1 hk2 hk3 HX2 HR2 HG2 HS2 HZ2
  go_wp2_with fail
  refine HC1.out.mono ?_
  rintro e x1 ⟨rfl, hb1⟩
  have HB1 := Lib.hid hb1
  clear hb1 HC1
  go_wp2_with fail
  refine (HC2.out _ HB1.out).mono ?_
  rintro e x2 ⟨rfl, hb2⟩
  have HB2 := Lib.hid (HB1.out.trans (hb2.mono HB1.out.size))
  clear hb2 HB1
  go_wp2_with fail
  refine (HC3.out _ HB2.out).mono ?_
  rintro e x3 ⟨rfl, hb3⟩
  have HB3 := Lib.hid (HB2.out.trans (hb3.mono HB2.out.size))
  clear hb3 HB2
  go_wp2_with fail
  refine (HC4.out _ HB3.out).mono ?_
  rintro e x4 ⟨rfl, hb4⟩
  have HB4 := Lib.hid (HB3.out.trans (hb4.mono HB3.out.size))
  clear hb4 HB3
  go_wp2_with fail
  refine (HC5.out _ HB4.out).mono ?_
  rintro e x5 ⟨rfl, hb5⟩
  have HB5 := Lib.hid (HB4.out.trans (hb5.mono HB4.out.size))
  clear hb5 HB4
  go_wp2_with fail
  refine (HC6.out _ HB5.out).mono ?_
  rintro e x6 ⟨rfl, hb6⟩
  have HB6 := Lib.hid (HB5.out.trans (hb6.mono HB5.out.size))
  clear hb6 HB5
  go_wp2_with fail
  go_ret
  exact ⟨rfl, (HX3.out.below HB6.out).finC h2⟩

end Go.Proofs.YtjjdffafibonhaaGreatDoor
