/-
  What the statements draw: paths, entries, lists.
-/
import Derived.Test.YtjjdffafibonhaaGreatDoorHvR5
namespace Go.Proofs.YtjjdffafibonhaaGreatDoor
open Go.RowKit

/-- A drawn text. -/
def StrP (t m : Nat) (g : Gh) (w : World) (e : Ending) (w' : World) : Prop := ∃ s g', e = .returned (.string s) ∧ s.size ≤ 300 ∧ Ext (· = t) g w g' w' ∧ TapeAt g' w' t (m + 1)

set_option maxRecDepth 100000 in
set_option maxHeartbeats 1600000 in
theorem depot_any (t m : Nat) (g : Gh) (w : World) (ht : TapeAt g w t m) (hm : m ≤ 1000000) :
    Calls Tryz.prog 32 #[.pointer (some ⟨t, 0, none⟩)] w (StrP t m g w) := by
  have hx := Ext.lit (· = t) g w (.cells (([⟨#[47, 47, 100, 47, 97]⟩, ⟨#[47, 47, 100, 47, 98]⟩, ⟨#[47, 47, 100, 47, 97, 47, 97]⟩, ⟨#[47, 47, 100, 47, 97, 43]⟩, ⟨#[47, 47, 101, 47, 97]⟩] : List ByteArray).map Value.string).toArray 9) (5 * 1)
  have hr := Rd.lit 1 g w (([⟨#[47, 47, 100, 47, 97]⟩, ⟨#[47, 47, 100, 47, 98]⟩, ⟨#[47, 47, 100, 47, 97, 47, 97]⟩, ⟨#[47, 47, 100, 47, 97, 43]⟩, ⟨#[47, 47, 101, 47, 97]⟩] : List ByteArray).map Value.string) 9 (0, 0) 5 rfl
  have ht1 := ht.ext (Ext.lit (fun _ => False) g w (.cells (([⟨#[47, 47, 100, 47, 97]⟩, ⟨#[47, 47, 100, 47, 98]⟩, ⟨#[47, 47, 100, 47, 97, 47, 97]⟩, ⟨#[47, 47, 100, 47, 97, 43]⟩, ⟨#[47, 47, 101, 47, 97]⟩] : List ByteArray).map Value.string).toArray 9) (5 * 1)) (fun h => h)
  have HX := Lib.hid hx
  have HR := Lib.hid hr
  have HT := Lib.hid ht1
  have HE : Hid (w.alloc (.cells #[.string ⟨#[47, 47, 100, 47, 97]⟩, .string ⟨#[47, 47, 100, 47, 98]⟩, .string ⟨#[47, 47, 100, 47, 97, 47, 97]⟩, .string ⟨#[47, 47, 100, 47, 97, 43]⟩, .string ⟨#[47, 47, 101, 47, 97]⟩] 9) = w.alloc (.cells (([⟨#[47, 47, 100, 47, 97]⟩, ⟨#[47, 47, 100, 47, 98]⟩, ⟨#[47, 47, 100, 47, 97, 47, 97]⟩, ⟨#[47, 47, 100, 47, 97, 43]⟩, ⟨#[47, 47, 101, 47, 97]⟩] : List ByteArray).map Value.string).toArray 9)) := rfl
  obtain ⟨L, hL⟩ : ∃ L : List ByteArray, L = [⟨#[47, 47, 100, 47, 97]⟩, ⟨#[47, 47, 100, 47, 98]⟩, ⟨#[47, 47, 100, 47, 97, 47, 97]⟩, ⟨#[47, 47, 100, 47, 97, 43]⟩, ⟨#[47, 47, 101, 47, 97]⟩] := ⟨_, rfl⟩
  rw [← hL] at HX HR HT HE
  have HLL : Hid (L.length = 5 ∧ ∀ s ∈ L, s.size ≤ 300) := by rw [hL]; exact ⟨rfl, by decide⟩
  clear hx hr ht1 ht hL
  generalize g.lit w.heap.size (5 * 1) = g1 at *
  go_enter Tryz.func32, Tryz.ntmps32
  go_wp2_with fail
  rw [HE.out]
  generalize w.alloc (.cells (L.map Value.string).toArray 9) = w1 at *
  refine (next_any t m g1 w1 HT.out (by omega) 5 (by omega)).mono ?_
  rintro e w2 ⟨v, rfl, hv0, hv1, hx2, ht2⟩
  obtain ⟨k, rfl⟩ : ∃ k : Nat, v = (k : Int) := ⟨v.toNat, by omega⟩
  have hk : k < L.length := by rw [HLL.out.1]; omega
  obtain ⟨b, off, hb, _, _, hc⟩ := (HR.out.ext hx2).at_ (by omega)
  injection hb with hb
  injection hb with hb1 hb2
  subst hb1 hb2
  have hc0 := hc k _ (by rw [List.getElem?_map, List.getElem?_eq_getElem hk]; rfl)
  rw [Nat.zero_add] at hc0
  have hsz := HLL.out.2 _ (List.getElem_mem hk)
  generalize L[k] = s at *
  have HX2 := Lib.hid (HX.out.trans hx2)
  have HT2 := Lib.hid ht2
  have hk5 : k < 5 := by rw [← HLL.out.1]; exact hk
  have hk5' : (k : Int) < 5 := by omega
  clear hx2 ht2 hc hv0 hv1 hk
  go_wp2_with fail
  go_ret
  exact ⟨s, _, rfl, hsz, HX2.out, HT2.out⟩

set_option maxRecDepth 100000 in
set_option maxHeartbeats 1600000 in
theorem local_any (t m : Nat) (g : Gh) (w : World) (ht : TapeAt g w t m) (hm : m ≤ 1000000) :
    Calls Tryz.prog 33 #[.pointer (some ⟨t, 0, none⟩)] w (StrP t m g w) := by
  have hx := Ext.lit (· = t) g w (.cells (([⟨#[47, 47, 99, 47, 97]⟩, ⟨#[47, 47, 99, 47, 98]⟩, ⟨#[47, 47, 99, 47, 120, 47, 121]⟩, ⟨#[47, 47, 99, 47, 122]⟩] : List ByteArray).map Value.string).toArray 9) (4 * 1)
  have hr := Rd.lit 1 g w (([⟨#[47, 47, 99, 47, 97]⟩, ⟨#[47, 47, 99, 47, 98]⟩, ⟨#[47, 47, 99, 47, 120, 47, 121]⟩, ⟨#[47, 47, 99, 47, 122]⟩] : List ByteArray).map Value.string) 9 (0, 0) 4 rfl
  have ht1 := ht.ext (Ext.lit (fun _ => False) g w (.cells (([⟨#[47, 47, 99, 47, 97]⟩, ⟨#[47, 47, 99, 47, 98]⟩, ⟨#[47, 47, 99, 47, 120, 47, 121]⟩, ⟨#[47, 47, 99, 47, 122]⟩] : List ByteArray).map Value.string).toArray 9) (4 * 1)) (fun h => h)
  have HX := Lib.hid hx
  have HR := Lib.hid hr
  have HT := Lib.hid ht1
  have HE : Hid (w.alloc (.cells #[.string ⟨#[47, 47, 99, 47, 97]⟩, .string ⟨#[47, 47, 99, 47, 98]⟩, .string ⟨#[47, 47, 99, 47, 120, 47, 121]⟩, .string ⟨#[47, 47, 99, 47, 122]⟩] 9) = w.alloc (.cells (([⟨#[47, 47, 99, 47, 97]⟩, ⟨#[47, 47, 99, 47, 98]⟩, ⟨#[47, 47, 99, 47, 120, 47, 121]⟩, ⟨#[47, 47, 99, 47, 122]⟩] : List ByteArray).map Value.string).toArray 9)) := rfl
  obtain ⟨L, hL⟩ : ∃ L : List ByteArray, L = [⟨#[47, 47, 99, 47, 97]⟩, ⟨#[47, 47, 99, 47, 98]⟩, ⟨#[47, 47, 99, 47, 120, 47, 121]⟩, ⟨#[47, 47, 99, 47, 122]⟩] := ⟨_, rfl⟩
  rw [← hL] at HX HR HT HE
  have HLL : Hid (L.length = 4 ∧ ∀ s ∈ L, s.size ≤ 300) := by rw [hL]; exact ⟨rfl, by decide⟩
  clear hx hr ht1 ht hL
  generalize g.lit w.heap.size (4 * 1) = g1 at *
  go_enter Tryz.func33, Tryz.ntmps33
  go_wp2_with fail
  rw [HE.out]
  generalize w.alloc (.cells (L.map Value.string).toArray 9) = w1 at *
  refine (next_any t m g1 w1 HT.out (by omega) 4 (by omega)).mono ?_
  rintro e w2 ⟨v, rfl, hv0, hv1, hx2, ht2⟩
  obtain ⟨k, rfl⟩ : ∃ k : Nat, v = (k : Int) := ⟨v.toNat, by omega⟩
  have hk : k < L.length := by rw [HLL.out.1]; omega
  obtain ⟨b, off, hb, _, _, hc⟩ := (HR.out.ext hx2).at_ (by omega)
  injection hb with hb
  injection hb with hb1 hb2
  subst hb1 hb2
  have hc0 := hc k _ (by rw [List.getElem?_map, List.getElem?_eq_getElem hk]; rfl)
  rw [Nat.zero_add] at hc0
  have hsz := HLL.out.2 _ (List.getElem_mem hk)
  generalize L[k] = s at *
  have HX2 := Lib.hid (HX.out.trans hx2)
  have HT2 := Lib.hid ht2
  have hk5 : k < 4 := by rw [← HLL.out.1]; exact hk
  have hk5' : (k : Int) < 4 := by omega
  clear hx2 ht2 hc hv0 hv1 hk
  go_wp2_with fail
  go_ret
  exact ⟨s, _, rfl, hsz, HX2.out, HT2.out⟩


/-- A drawn entry. -/
def EntP (t m : Nat) (g : Gh) (w : World) (e : Ending) (w' : World) : Prop := ∃ p n lo g', e = .returned (.agg #[.string p, .int .i64 n, .string lo]) ∧ p.size ≤ 300 ∧ lo.size ≤ 300 ∧ 0 ≤ n ∧ n ≤ 4 ∧ Ext (· = t) g w g' w' ∧ TapeAt g' w' t (m + 5)
def EntOk (wrong : Bool) : Prop := ∀ (t m : Nat) (g : Gh) (w : World), TapeAt g w t m → m ≤ 900000 → Calls Tryz.prog 44 #[.pointer (some ⟨t, 0, none⟩), .bool wrong] w (EntP t m g w)

set_option maxRecDepth 100000 in
set_option maxHeartbeats 1600000 in
theorem entry_false : EntOk false := by
  intro t m g w ht hm
  have hx := Ext.box (· = t) g w (.cells #[.string ⟨#[]⟩, .int .i64 0, .string ⟨#[]⟩] 32)
  have hb0 : Blk w.heap.size 32 [.string ⟨#[]⟩, .int .i64 0, .string ⟨#[]⟩] (w.alloc (.cells #[.string ⟨#[]⟩, .int .i64 0, .string ⟨#[]⟩] 32)) := Blk.new w 32 [.string ⟨#[]⟩, .int .i64 0, .string ⟨#[]⟩]
  have ht1 := ht.ext (Ext.box (fun _ => False) g w (.cells #[.string ⟨#[]⟩, .int .i64 0, .string ⟨#[]⟩] 32)) (fun h => h)
  have htl := ht.lt
  have hO : (g.box w.heap.size).O w.heap.size = w.heap.size := g.box_O _
  have hF : (g.box w.heap.size).F w.heap.size = 0 := g.box_F _
  have HX := Lib.hid hx
  have HB := Lib.hid hb0
  have HT := Lib.hid ht1
  have hlt : w.heap.size < (w.alloc (.cells #[.string ⟨#[]⟩, .int .i64 0, .string ⟨#[]⟩] 32)).heap.size := by simp
  clear hx hb0 ht ht1
  generalize g.box w.heap.size = g0 at *
  go_enter Tryz.func44, Tryz.ntmps44
  go_wp2_with fail
  generalize w.alloc (.cells #[.string ⟨#[]⟩, .int .i64 0, .string ⟨#[]⟩] 32) = w0 at *
  refine (depot_any t m g0 w0 HT.out (by omega)).mono ?_
  rintro e w1 ⟨p, g1, rfl, hp, hx1, ht1⟩
  have HX1 := Lib.hid (HX.out.trans hx1)
  have HB1 := Lib.hid (HB.out.ext hx1 (by rw [hO]; omega))
  have hO1 := (hx1.own _ hlt).trans hO
  have hF1 := hx1.zero _ hlt hF
  have HT1 := Lib.hid ht1
  have hlt1 := Nat.lt_of_lt_of_le hlt hx1.size
  clear hx1 ht1 HX HB HT
  go_wp2_with fail
  refine (next_any t (m + 1) g1 w1 HT1.out (by omega) 4 (by omega)).mono ?_
  rintro e w2 ⟨v, rfl, hv0, hv1, hx2, ht2⟩
  have HX2 := Lib.hid (HX1.out.trans hx2)
  have HB2 := Lib.hid (HB1.out.ext hx2 (by rw [hO1]; omega))
  have hO2 := (hx2.own _ hlt1).trans hO1
  have hF2 := hx2.zero _ hlt1 hF1
  have HT2 := Lib.hid ht2
  have hlt2 := Nat.lt_of_lt_of_le hlt1 hx2.size
  have hv2 : v < 4 := by omega
  clear hx2 ht2 HX1 HB1 HT1 hv1
  go_wp2_with fail
  refine (local_any t (m + 1 + 1) g1 w2 HT2.out (by omega)).mono ?_
  rintro e w3 ⟨lo, g3, rfl, hlo, hx3, ht3⟩
  have hal : Ext (fun _ => False) g3 w3 g3 (w3.alloc (.cells #[.string p, .int .i64 (1 + v), .string lo] 32)) := (Ext.refl _ _ _).alloc _
  have HX3 := Lib.hid ((HX2.out.trans hx3).alloc (.cells #[.string p, .int .i64 (1 + v), .string lo] 32))
  have hb3 := (HB2.out.ext hx3 (by rw [hO2]; omega)).alloc (.cells #[.string p, .int .i64 (1 + v), .string lo] 32)
  have hk3 : Blk w3.heap.size 32 [.string p, .int .i64 (1 + v), .string lo] (w3.alloc (.cells #[.string p, .int .i64 (1 + v), .string lo] 32)) := Blk.new w3 32 [.string p, .int .i64 (1 + v), .string lo]
  have hO3 := (hx3.own _ hlt2).trans hO2
  have hF3 := hx3.zero _ hlt2 hF2
  have HT3 := Lib.hid (ht3.ext hal (fun h => h))
  have k0 := hk3.cell 0
  have k1 := hk3.cell 1
  have k2 := hk3.cell 2
  have b0 := hb3.cell 0
  have b1 := hb3.cell 1
  have b2 := hb3.cell 2
  dsimp only [List.getElem?_cons_zero, List.getElem?_cons_succ] at k0 k1 k2 b0 b1 b2
  have z := hb3.fz
  have hq := blk_set3 hb3 (.string p) (.int .i64 (1 + v)) (.string lo)
  have q0 := hq.cell 0
  have q1 := hq.cell 1
  have q2 := hq.cell 2
  dsimp only [List.getElem?_cons_zero, List.getElem?_cons_succ] at q0 q1 q2
  have HQ := Lib.hid (And.intro q0 (And.intro q1 q2))
  clear hx3 ht3 HX2 HB2 HT2 hk3 hb3 hq q0 q1 q2 hal
  go_wp2_with fail
  obtain ⟨q0, q1, q2⟩ := HQ.out
  refine bodyPost_ret (v := .agg #[.string p, .int .i64 (1 + v), .string lo]) (by simp only [results, Tryz.results44]; simp [go_sem, q0, q1, q2]) rfl ?_
  refine ⟨p, 1 + v, lo, g3, rfl, hp, hlo, by omega, by omega, ?_, ?_⟩
  · exact ((HX3.out.setCell (p := ⟨w.heap.size, 0, none⟩) (fun h => absurd h (Nat.lt_irrefl _)) hF3 _).setCell (p := ⟨w.heap.size, 1, none⟩) (fun h => absurd h (Nat.lt_irrefl _)) hF3 _).setCell (p := ⟨w.heap.size, 2, none⟩) (fun h => absurd h (Nat.lt_irrefl _)) hF3 _
  · have hs : Ext (· = w.heap.size) g3 (w3.alloc (.cells #[.string p, .int .i64 (1 + v), .string lo] 32)) g3 ((((w3.alloc (.cells #[.string p, .int .i64 (1 + v), .string lo] 32)).setCell ⟨w.heap.size, 0, none⟩ (.string p)).setCell ⟨w.heap.size, 1, none⟩ (.int .i64 (1 + v))).setCell ⟨w.heap.size, 2, none⟩ (.string lo)) :=
      (((Ext.refl _ _ _).setCell (p := ⟨w.heap.size, 0, none⟩) (fun _ => hO3) hF3 _).setCell (p := ⟨w.heap.size, 1, none⟩) (fun _ => hO3) hF3 _).setCell (p := ⟨w.heap.size, 2, none⟩) (fun _ => hO3) hF3 _
    exact (HT3.out.ext hs (by omega)).more (by omega)

end Go.Proofs.YtjjdffafibonhaaGreatDoor
