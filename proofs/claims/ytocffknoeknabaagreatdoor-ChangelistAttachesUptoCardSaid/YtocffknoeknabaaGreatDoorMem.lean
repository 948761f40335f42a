/-
  Memory in which slices are only ever extended at their ends: a ghost tells of each block up to where it is written for good (F) and whose it is (O).
-/
import Derived.Test.YtocffknoeknabaaGreatDoorBase
import Derived.Laws.OwnMore
import Derived.Maps.AppendAt
import Derived.Deep.AppendSrc
import Derived.Deep.Draws
import Derived.Deep.RegionLaw
namespace Go.Proofs.YtocffknoeknabaaGreatDoor
open Go.RowKit

/-- F b: so many cells of block b are written for good. O b: the block to whose object block b belongs. -/
structure Gh where
  F : Nat → Nat
  O : Nat → Nat

/-- From w to w': blocks whose owner is not in M are as they were; of the others what is written for good stays. -/
structure Ext (M : Nat → Prop) (g : Gh) (w : World) (g' : Gh) (w' : World) : Prop where
  os : w'.os = w.os
  tape : w'.tape = w.tape
  output : w'.output = w.output
  size : w.heap.size ≤ w'.heap.size
  own : ∀ b, b < w.heap.size → g'.O b = g.O b
  mono : ∀ b, b < w.heap.size → g.F b ≤ g'.F b
  zero : ∀ b, b < w.heap.size → g.F b = 0 → g'.F b = 0
  keep : ∀ b, b < w.heap.size → ¬ M (g.O b) → w'.heap[b]? = w.heap[b]? ∧ g'.F b = g.F b
  row : ∀ b cs e fr, 0 < g.F b → w.heap[b]? = some (.cells cs e fr) → ∃ cs', w'.heap[b]? = some (.cells cs' e fr) ∧ cs'.size = cs.size ∧ ∀ o, o < g.F b → cs'[o]? = cs[o]?

theorem block_lt {w : World} {b : Nat} {o : Obj} (h : w.heap[b]? = some o) : b < w.heap.size := (Array.getElem?_eq_some_iff.1 h).1
theorem cell_block {w : World} {b o : Nat} {v : Value} (h : w.cell? ⟨b, o, none⟩ = some v) : ∃ cs e fr, w.heap[b]? = some (.cells cs e fr) ∧ cs[o]? = some v := by
  unfold World.cell? at h
  split at h
  · rename_i cs e fr hb
    exact ⟨cs, e, fr, hb, by simpa using h⟩
  · cases h
theorem cell_at {w : World} {b o : Nat} {cs : Array Value} {e : TypeId} {fr : Nat × Nat} (h : w.heap[b]? = some (.cells cs e fr)) : w.cell? ⟨b, o, none⟩ = cs[o]? := by
  simp [World.cell?, h]
theorem frozen_at {w : World} {b o : Nat} {cs : Array Value} {e : TypeId} (h : w.heap[b]? = some (.cells cs e (0, 0))) : w.frozen? ⟨b, o, none⟩ = false := by
  simp [World.frozen?, h]

section
variable {M : Nat → Prop} {g g' g1 g2 : Gh} {w w' w1 w2 : World}

theorem Ext.refl (M : Nat → Prop) (g : Gh) (w : World) : Ext M g w g w :=
  ⟨rfl, rfl, rfl, Nat.le_refl _, fun _ _ => rfl, fun _ _ => Nat.le_refl _, fun _ _ h => h, fun _ _ _ => ⟨rfl, rfl⟩, fun _ cs _ _ _ h => ⟨cs, h, rfl, fun _ _ => rfl⟩⟩
theorem Ext.trans (h : Ext M g w g1 w1) (k : Ext M g1 w1 g2 w2) : Ext M g w g2 w2 := by
  refine ⟨k.os.trans h.os, k.tape.trans h.tape, k.output.trans h.output, Nat.le_trans h.size k.size, fun b hb => ?_, fun b hb => ?_, fun b hb h0 => ?_, fun b hb hm => ?_, fun b cs e fr hF hc => ?_⟩
  · rw [k.own b (Nat.lt_of_lt_of_le hb h.size), h.own b hb]
  · exact Nat.le_trans (h.mono b hb) (k.mono b (Nat.lt_of_lt_of_le hb h.size))
  · exact k.zero b (Nat.lt_of_lt_of_le hb h.size) (h.zero b hb h0)
  · obtain ⟨e1, e2⟩ := h.keep b hb hm
    obtain ⟨e3, e4⟩ := k.keep b (Nat.lt_of_lt_of_le hb h.size) (by rw [h.own b hb]; exact hm)
    exact ⟨e3.trans e1, e4.trans e2⟩
  · obtain ⟨c1, hc1, hs1, he1⟩ := h.row b cs e fr hF hc
    have hle := h.mono b (block_lt hc)
    obtain ⟨c2, hc2, hs2, he2⟩ := k.row b c1 e fr (by omega) hc1
    exact ⟨c2, hc2, hs2.trans hs1, fun o ho => (he2 o (by omega)).trans (he1 o ho)⟩
theorem Ext.more {M' : Nat → Prop} (h : Ext M g w g' w') (hm : ∀ b, b < w.heap.size → M (g.O b) → M' (g.O b)) : Ext M' g w g' w' :=
  ⟨h.os, h.tape, h.output, h.size, h.own, h.mono, h.zero, fun b hb hn => h.keep b hb fun hh => hn (hm b hb hh), h.row⟩
theorem Ext.imp {M' : Nat → Prop} (h : Ext M g w g' w') (hm : ∀ o, M o → M' o) : Ext M' g w g' w' := h.more fun _ _ => hm _
/-- The ghost of new blocks may be chosen afterwards. -/
theorem Ext.up (h : Ext M g w g1 w') (hF : ∀ b, b < w.heap.size → g2.F b = g1.F b) (hO : ∀ b, b < w.heap.size → g2.O b = g1.O b) : Ext M g w g2 w' :=
  ⟨h.os, h.tape, h.output, h.size, fun b hb => (hO b hb).trans (h.own b hb), fun b hb => by rw [hF b hb]; exact h.mono b hb, fun b hb h0 => by rw [hF b hb]; exact h.zero b hb h0,
    fun b hb hn => ⟨(h.keep b hb hn).1, (hF b hb).trans (h.keep b hb hn).2⟩, h.row⟩
theorem Ext.of_below (M : Nat → Prop) (g : Gh) (h : Below w.heap.size w w') : Ext M g w g w' :=
  ⟨h.os, h.tape, h.output, h.size, fun _ _ => rfl, fun _ _ => Nat.le_refl _, fun _ _ h => h, fun b hb _ => ⟨h.block b hb, rfl⟩, fun b cs _ _ _ hc => ⟨cs, (h.block b (block_lt hc)).trans hc, rfl, fun _ _ => rfl⟩⟩
theorem Ext.below (h : Ext M g w g' w') (k : Below w'.heap.size w' w1) : Ext M g w g' w1 := h.trans (Ext.of_below M g' k)
theorem Ext.alloc (h : Ext M g w g' w') (o : Obj) : Ext M g w g' (w'.alloc o) := h.below ((Below.refl _ _).alloc (Nat.le_refl _) o)
theorem Ext.drew (h : Ext M g w g' w') : Ext M g w g' w'.drew := h.below (Below.refl _ _).drew
theorem Ext.drewN (h : Ext M g w g' w') (n : Nat) : Ext M g w g' (w'.drewN n) := h.below (below_drewN (Below.refl _ _) n)
/-- All blocks but one are as they were; that one is no row of a slice. -/
theorem Ext.one (h : Ext M g w g' w') {p : Nat} (hg : w'.grownBy w1 (some p)) (hp : p < w.heap.size → M (g.O p)) (hF : g'.F p = 0) : Ext M g w g' w1 := by
  refine ⟨hg.os.trans h.os, hg.tape.trans h.tape, hg.output.trans h.output, Nat.le_trans h.size hg.size, h.own, h.mono, h.zero, fun b hb hn => ?_, fun b cs e fr hFb hc => ?_⟩
  · obtain ⟨e1, e2⟩ := h.keep b hb hn
    refine ⟨(hg.block b (Nat.lt_of_lt_of_le hb h.size) fun e => ?_).trans e1, e2⟩
    injection e with e
    subst e
    exact hn (hp hb)
  · obtain ⟨c1, hc1, hs1, he1⟩ := h.row b cs e fr hFb hc
    have hle := h.mono b (block_lt hc)
    refine ⟨c1, (hg.block b (block_lt hc1) fun e => ?_).trans hc1, hs1, he1⟩
    injection e with e
    subst e
    omega
theorem grownBy_setCell (w : World) (p : Addr) (v : Value) : w.grownBy (w.setCell p v) (some p.block) :=
  ⟨rfl, rfl, rfl, by simp, fun k _ hk => Below.heap_setCell w p v k fun e => hk (by rw [e])⟩
theorem Ext.setCell (h : Ext M g w g' w') {p : Addr} (hp : p.block < w.heap.size → M (g.O p.block)) (hF : g'.F p.block = 0) (v : Value) : Ext M g w g' (w'.setCell p v) := h.one (grownBy_setCell w' p v) hp hF
theorem Ext.cell (h : Ext M g w g' w') {b o : Nat} {v : Value} (ho : o < g.F b) (hc : w.cell? ⟨b, o, none⟩ = some v) : w'.cell? ⟨b, o, none⟩ = some v := by
  obtain ⟨cs, e, fr, hb, hv⟩ := cell_block hc
  obtain ⟨cs', hb', _, he⟩ := h.row b cs e fr (by omega) hb
  rw [cell_at hb', he o ho, hv]
theorem Ext.block (h : Ext M g w g' w') {b : Nat} {o : Obj} (hn : ¬ M (g.O b)) (hb : w.heap[b]? = some o) : w'.heap[b]? = some o := ((h.keep b (block_lt hb) hn).1).trans hb
end

/-- Block b is known whole. -/
def Blk (b : Nat) (T : TypeId) (cs : List Value) (x : World) : Prop := x.heap[b]? = some (.cells cs.toArray T (0, 0))
section
variable {b : Nat} {T : TypeId} {cs : List Value} {x y : World}
theorem Blk.lt (h : Blk b T cs x) : b < x.heap.size := block_lt h
theorem Blk.cell (h : Blk b T cs x) (i : Nat) : x.cell? ⟨b, i, none⟩ = cs[i]? := by rw [cell_at h]; simp
theorem Blk.fz (h : Blk b T cs x) (i : Nat) : x.frozen? ⟨b, i, none⟩ = false := frozen_at h
theorem Blk.of (h : Blk b T cs x) (he : y.heap[b]? = x.heap[b]?) : Blk b T cs y := he.trans h
theorem Blk.below (h : Blk b T cs x) (hb : Below x.heap.size x y) : Blk b T cs y := h.of (hb.block b h.lt)
theorem Blk.alloc (h : Blk b T cs x) (o : Obj) : Blk b T cs (x.alloc o) := h.of (Below.heap_alloc x o b h.lt)
theorem Blk.drew (h : Blk b T cs x) : Blk b T cs x.drew := h
theorem Blk.drewN (h : Blk b T cs x) (n : Nat) : Blk b T cs (x.drewN n) := h
theorem Blk.new (x : World) (T : TypeId) (cs : List Value) : Blk x.heap.size T cs (x.alloc (.cells cs.toArray T)) := heap_alloc_new x _
theorem Blk.grown {row : Option Nat} (h : Blk b T cs x) (hg : x.grownBy y row) (hne : row ≠ some b) : Blk b T cs y := h.of (hg.block b h.lt fun e => hne e.symm)
theorem Blk.far (h : Blk b T cs x) {p : Addr} (hp : b ≠ p.block) (v : Value) : Blk b T cs (x.setCell p v) := h.of (Below.heap_setCell x p v b hp)
theorem Blk.set (h : Blk b T cs x) (i : Nat) (v : Value) : Blk b T (cs.set i v) (x.setCell ⟨b, i, none⟩ v) := by
  unfold Blk at h ⊢
  simp [World.setCell, Array.getElem?_modify, h]
theorem Blk.ext {M : Nat → Prop} {g g' : Gh} (h : Blk b T cs x) (hx : Ext M g x g' y) (hn : ¬ M (g.O b)) : Blk b T cs y := hx.block hn h
end

/-- The slice with address A and n elements of sz cells reads as xs. -/
structure Rd (sz : Nat) (g : Gh) (w : World) (A : Option Addr) (n : Nat) (xs : List Value) : Prop where
  len : xs.length = n * sz
  at_ : 0 < n → ∃ b off, A = some ⟨b, off, none⟩ ∧ off + n * sz ≤ g.F b ∧ b < w.heap.size ∧ ∀ j u, xs[j]? = some u → w.cell? ⟨b, off + j, none⟩ = some u
theorem Rd.nil (sz : Nat) (g : Gh) (w : World) (A : Option Addr) : Rd sz g w A 0 [] := ⟨by simp, fun h => absurd h (Nat.lt_irrefl _)⟩
theorem Rd.ext {sz : Nat} {g g' : Gh} {w w' : World} {A : Option Addr} {n : Nat} {xs : List Value} {M : Nat → Prop} (h : Rd sz g w A n xs) (hx : Ext M g w g' w') : Rd sz g' w' A n xs := by
  refine ⟨h.len, fun hn => ?_⟩
  obtain ⟨b, off, rfl, hF, hb, hc⟩ := h.at_ hn
  refine ⟨b, off, rfl, Nat.le_trans hF (hx.mono b hb), Nat.lt_of_lt_of_le hb hx.size, fun j u hu => hx.cell ?_ (hc j u hu)⟩
  have : j < xs.length := (List.getElem?_eq_some_iff.1 hu).1
  have := h.len
  omega

theorem add_lit (b off k : Nat) : (⟨b, off, none⟩ : Addr).add k = ⟨b, off + k, none⟩ := by
  unfold Addr.add
  split
  · subst_vars; rfl
  · rfl

theorem Rd.src {P : Program} {sz : Nat} {g : Gh} {w : World} {A : Option Addr} {n : Nat} {xs : List Value} (h : Rd sz g w A n xs) {tx e' : TypeId} (hk : P.underlying tx = some (.slice e')) (c : Nat) (h1 : ∀ u ∈ xs, u.oneCell' = true) (hz : A = none → n = 0) : Src P sz tx (.slice A n c) n xs w := by
  by_cases hn : 0 < n
  · obtain ⟨b, off, rfl, _, _, hc⟩ := h.at_ hn
    exact Src.ofSlice w hk _ n c xs h.len (fun j u hu => by rw [add_lit]; exact hc j u hu) h1
  · obtain rfl : n = 0 := by omega
    have hx : xs = [] := List.eq_nil_of_length_eq_zero (by simpa using h.len)
    subst hx
    cases A with
    | none => exact Src.ofNil w hk c
    | some a => exact Src.ofSlice w hk a 0 c [] (by simp) (by simp) (by simp)

/-- A slice that may be appended to: full, or at the end of what is written of its block, which belongs to o. -/
structure App (e : TypeId) (sz : Nat) (o : Nat) (g : Gh) (w : World) (A : Option Addr) (n cap : Nat) (xs : List Value) : Prop where
  rd : Rd sz g w A n xs
  le : n ≤ cap
  mx : cap ≤ maxLen
  nz : A = none → n = 0 ∧ cap = 0
  sp : n < cap → 0 < n ∧ ∃ b cs, A = some ⟨b, 0, none⟩ ∧ g.O b = o ∧ g.F b = n * sz ∧ w.heap[b]? = some (.cells cs e (0, 0)) ∧ cs.size = cap * sz
theorem App.nil (e : TypeId) (sz o : Nat) (g : Gh) (w : World) : App e sz o g w none 0 0 [] := ⟨Rd.nil _ _ _ _, Nat.le_refl _, Nat.zero_le _, fun _ => ⟨rfl, rfl⟩, fun h => absurd h (Nat.lt_irrefl _)⟩
theorem App.ext {e : TypeId} {sz o : Nat} {g g' : Gh} {w w' : World} {A : Option Addr} {n cap : Nat} {xs : List Value} {M : Nat → Prop} (h : App e sz o g w A n cap xs) (hx : Ext M g w g' w') (hm : ¬ M o) : App e sz o g' w' A n cap xs := by
  refine ⟨h.rd.ext hx, h.le, h.mx, h.nz, fun hlt => ?_⟩
  obtain ⟨h0, b, cs, hA, ho, hF, hb, hs⟩ := h.sp hlt
  obtain ⟨e1, e2⟩ := hx.keep b (block_lt hb) (by rw [ho]; exact hm)
  exact ⟨h0, b, cs, hA, (hx.own b (block_lt hb)).trans ho, e2.trans hF, e1.trans hb, hs⟩
section
variable {P : Program} {w : World} {ops : Array Oper} {rest : List Oper} {op : Oper} {a : Act} {Q : Exit → Act → World → Prop} {K : Act → World → Prop}

end

end Go.Proofs.YtocffknoeknabaaGreatDoor
