/-
  What the statements on drawn changes share.
-/
import Derived.Test.YtjjdffafibonhaaGreatDoorHvL3
import Derived.Test.YtjjdffafibonhaaGreatDoorOpenK
namespace Go.Proofs.YtjjdffafibonhaaGreatDoor
open Go.RowKit

set_option maxRecDepth 100000 in
set_option maxHeartbeats 800000 in
/-- A new device; its number is told. -/
theorem gnewD (g : Gh) (w : World) : Calls Tryz.prog 11 #[] w fun e w' => ∃ d g', e = .returned (.pointer (some ⟨d, 0, none⟩)) ∧ d = w.heap.size + 2 ∧ Ext (fun _ => False) g w g' w' ∧ DevAt g' w' d dev0 := by
  have hmm := @run_makeMap Tryz.prog
  have h := (new_any g w)
  go_enter Tryz.func11, Tryz.ntmps11
  go_wp2_with fail
  go_ret
  have hb2 : Blk (w.heap.size + 1 + 1) 73 (devCs w.heap.size (w.heap.size + 1) none 0 dev0) (((w.alloc (.map #[] 0)).alloc (.map #[] 0)).alloc (.cells #[.map (some w.heap.size), .map (some (w.heap.size + 1)), .slice none 0 0, .bool false, .int .i64 0] 73)) := by
    have := Blk.new ((w.alloc (.map #[] 0)).alloc (.map #[] 0)) 73 (devCs w.heap.size (w.heap.size + 1) none 0 dev0)
    simpa [devCs, dev0] using this
  have hm1 : MapIs w.heap.size [] (((w.alloc (.map #[] 0)).alloc (.map #[] 0)).alloc (.cells #[.map (some w.heap.size), .map (some (w.heap.size + 1)), .slice none 0 0, .bool false, .int .i64 0] 73)) := ((MapIs.new w).alloc _).alloc _
  have hm2 : MapIs (w.heap.size + 1) [] (((w.alloc (.map #[] 0)).alloc (.map #[] 0)).alloc (.cells #[.map (some w.heap.size), .map (some (w.heap.size + 1)), .slice none 0 0, .bool false, .int .i64 0] 73)) := by
    have := (MapIs.new (w.alloc (.map #[] 0))).alloc (.cells #[.map (some w.heap.size), .map (some (w.heap.size + 1)), .slice none 0 0, .bool false, .int .i64 0] 73)
    simpa using this
  have hbl : Below w.heap.size w (((w.alloc (.map #[] 0)).alloc (.map #[] 0)).alloc (.cells #[.map (some w.heap.size), .map (some (w.heap.size + 1)), .slice none 0 0, .bool false, .int .i64 0] 73)) := (((Below.refl _ _).alloc (Nat.le_refl _) _).alloc (by simp) _).alloc (by simp; omega) _
  refine ⟨w.heap.size + 1 + 1, ⟨fun b => if b < w.heap.size then g.F b else 0, fun b => if b < w.heap.size then g.O b else w.heap.size + 1 + 1⟩, rfl, rfl, (Ext.of_below (fun _ => False) g hbl).up (fun b hb => by simp [hb]) (fun b hb => by simp [hb]), w.heap.size, w.heap.size + 1, none, 0, [], hb2, ?_⟩
  refine ⟨by omega, by simp, by simp, ⟨[], hm1, rfl, fun _ _ => rfl, fun k v h => by simp [look] at h⟩, ⟨⟨[], hm2, rfl, fun _ _ => rfl, fun k v h => by simp [look] at h, fun k k' A n c A' n' c' h => by simp [look] at h⟩, (by dsimp only; rw [if_neg (by omega)]), (by dsimp only; rw [if_neg (by omega)])⟩, App.nil _ _ _ _ _, trivial, ?_, ?_, by simp [dev0], by simp [dev0]⟩
  · dsimp only; rw [if_neg (by omega)]
  · dsimp only; rw [if_neg (by omega)]


/-- A law that makes changes stands here: the list, what it is to be, the tape. -/
structure Lp (F : Int) (w : World) (b m n : Nat) (g : Gh) (x : World) (E : List Hv) (A : Option Addr) (c : Nat) : Prop where
  hx : Ext (fun q => w.heap.size ≤ q) (ghW w) w g x
  hv : HvG F g x b (w.heap.size + 3) ⟨#[104]⟩ n E
  ht : TapeAt g x w.heap.size m
  sl : Sl g x A c E
  gk : GK g x
  bd : w.heap.size + 3 < b
  ml : 0 < w.heap.size
/-- A change was cut off: the list is dead. -/
structure Dd (w : World) (b m n : Nat) (g : Gh) (x : World) (E : List Hv) (A : Option Addr) (c : Nat) (E' : List Hv) (A' : Option Addr) (c' : Nat) : Prop where
  hx : Ext (fun q => w.heap.size ≤ q) (ghW w) w g x
  hv : HvX g x b (w.heap.size + 3) ⟨#[104]⟩ n E (fun L => L = E ∨ L = E')
  ht : TapeAt g x w.heap.size m
  s0 : Sl g x A c E
  sl : Sl g x A' c' E'
  gk : GK g x
  bd : w.heap.size + 3 < b
  ml : 0 < w.heap.size
  l0 : E.length ≤ 1024
  l1 : E'.length ≤ 2000
section
variable {F : Int} {w : World} {b m n : Nat} {g : Gh} {x : World} {E : List Hv} {A : Option Addr} {c : Nat}
theorem Lp.chg (h : Lp F w b m n g x E A c) (wrong : Bool) (hok : EntOk wrong) (hn : n ≤ 250) (hm : m ≤ 700000) :
    Calls Tryz.prog 27 #[.pointer (some ⟨w.heap.size, 0, none⟩), .pointer (some ⟨b, 0, none⟩), .slice A E.length c, .bool wrong] x fun e x' => ∃ j i E' A' c' g', e = .returned (.tuple #[.int .i64 j, .slice A' E'.length c', .int .i64 i]) ∧ i ≠ 303 ∧
      ((j = i ∧ ∃ F', 0 ≤ F' ∧ (F = 0 → F' = 0) ∧ Lp F' w b (m + 100) (n + 1) g' x' E' A' c') ∨ (j = 303 ∧ F ≠ 0 ∧ Dd w b (m + 100) (n + 1) g' x' E A c E' A' c')) := by
  obtain ⟨hvb, hvd, _⟩ := h.hv.lt
  have hxs := h.hx.size
  have hbd := h.bd
  have hml := h.ml
  refine (change_law wrong hok F w.heap.size (w.heap.size + 1) b (w.heap.size + 3) m n _ g x E A c h.hv hn h.ht hm h.sl h.gk (by omega) (by omega) (by omega) (by omega) (by omega) (by omega) (by omega) (by omega) (by omega) (by omega)).mono ?_
  rintro e x' ⟨j, i, E', A', c', g', rfl, hi, hx, ht, hs, hnu, hor⟩
  have hX := h.hx.trans (hx.imp (fun q (hq : q = w.heap.size ∨ q = w.heap.size + 1 ∨ q = w.heap.size + 3 ∨ q = b ∨ x.heap.size ≤ q) => show w.heap.size ≤ q by omega))
  have hgk := h.gk.ext hx (by omega)
  refine ⟨j, i, E', A', c', g', rfl, hi, ?_⟩
  rcases hor with ⟨rfl, F', h1, h2, h3⟩ | ⟨rfl, h1, h2⟩
  · exact .inl ⟨rfl, F', h1, h2, hX, h3, ht, hs, hgk, hbd, hml⟩
  · exact .inr ⟨rfl, h1, hX, h2, ht, h.sl.ext hx, hs, hgk, hbd, hml, h.hv.ok.1.len, hnu.2⟩
theorem Lp.step (h : Lp F w b m n g x E A c) {g' : Gh} {x' : World} {M : Nat → Prop} (hx : Ext M g x g' x') (hM : ∀ q, M q → x.heap.size ≤ q) : Lp F w b m n g' x' E A c := by
  obtain ⟨hvb, hvd, _⟩ := h.hv.lt
  have hxs := h.hx.size
  have htl := h.ht.lt
  have hml := h.ml
  exact ⟨h.hx.trans (hx.imp (fun q hq => Nat.le_trans hxs (hM q hq))), h.hv.ext hx (fun e => absurd (hM _ e) (by omega)) (fun e => absurd (hM _ e) (by omega)), h.ht.ext hx (fun e => absurd (hM _ e) (by omega)), h.sl.ext hx, h.gk.ext hx (fun e => absurd (hM _ e) (by omega)), h.bd, h.ml⟩
theorem Lp.below (h : Lp F w b m n g x E A c) {x' : World} (hb : Below x.heap.size x x') : Lp F w b m n g x' E A c := h.step (M := fun _ => False) (Ext.of_below _ g hb) (fun _ h => h.elim)
theorem Lp.next (h : Lp F w b m n g x E A c) (hm : m ≤ 1000000) (k : Int) (hk : k ≤ 4611686018427387904) :
    Calls Tryz.prog 26 #[.pointer (some ⟨w.heap.size, 0, none⟩), .int .i64 k] x fun e x' => ∃ v, e = .returned (.int .i64 v) ∧ 0 ≤ v ∧ (v < k ∨ v = 0) ∧ ∃ g', Lp F w b (m + 1) n g' x' E A c := by
  obtain ⟨hvb, hvd, _⟩ := h.hv.lt
  have hxs := h.hx.size
  have hml := h.ml
  have hbd := h.bd
  refine (next_any w.heap.size m g x h.ht (by omega) k hk).mono ?_
  rintro e x' ⟨v, rfl, h0, h1, hx, ht⟩
  exact ⟨v, rfl, h0, h1, g, h.hx.trans (hx.imp (fun q (hq : q = w.heap.size) => by omega)), h.hv.ext hx (by omega) (by omega), ht, h.sl.ext hx, h.gk.ext hx (by omega), h.bd, h.ml⟩
end

theorem Lp.start {w w1 w2 : World} {g1 g2 : Gh} {b : Nat} (hG : GK (ghW w) w) (hX1 : Ext (fun _ => False) (ghW w) w g1 w1) (hT1 : TapeAt g1 w1 w.heap.size 0) (hd : w.heap.size + 3 < w1.heap.size) (hb : w1.heap.size ≤ b) (hx2 : Ext (fun o => w1.heap.size ≤ o) g1 w1 g2 w2) (hS : HvS g2 w2 b (w.heap.size + 3) ⟨#[104]⟩ 0 []) : Lp 0 w b 0 0 g2 w2 [] none 0 := by
  have hml := hG.2.2
  exact ⟨(hX1.imp (fun _ h => h.elim)).trans (hx2.imp (fun q hq => show w.heap.size ≤ q by omega)), hS.toG, hT1.ext hx2 (by omega), Sl.nil _ _, (hG.ext hX1 (fun h => h)).ext hx2 (by omega), by omega, hml⟩
theorem gk_start {w : World} (h : G0 w) : GK (ghW w) w := by
  refine ⟨h, rfl, ?_⟩
  obtain ⟨m, hm⟩ := h
  unfold World.cell? at hm
  split at hm
  · rename_i hh; exact (Array.getElem?_eq_some_iff.1 hh).1
  · cases hm

end Go.Proofs.YtjjdffafibonhaaGreatDoor
