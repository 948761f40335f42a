
/-
  The base for seats without the journal (joined by a program of ours from our own texts).
-/
import Derived.Test.YtcfmkmhibghaoaaDoorPath
import Derived.Test.YtcfmkmhibghaoaaDoorMapG
import Derived.BigRegion
import Derived.StillTailTactics
namespace Go.Proofs.YtcfmkmhibghaoaaDoor
section
open Go.RowKit

structure Lease where
  path : ByteArray
  holder : ByteArray
  fence : Int
  since : Int
  til : Int
def Lease.val (l : Lease) : Value := .agg #[.string l.path, .string l.holder, .int .i64 l.fence, .int .i64 l.since, .int .i64 l.til]

/-- A table of leases lies at block b, its map at block m. -/
structure TabAt (b m : Nat) (clk : Int) (L : List (ByteArray × Value)) (w : World) : Prop where
  c0 : w.cell? ⟨b, 0, none⟩ = some (.int .i64 clk)
  c1 : w.cell? ⟨b, 1, none⟩ = some (.map (some m))
  f0 : w.frozen? ⟨b, 0, none⟩ = false
  f1 : w.frozen? ⟨b, 1, none⟩ = false
  mp : MapIs m L w
  lt : b < w.heap.size
  ne : b ≠ m

theorem TabAt.below {b m B : Nat} {clk : Int} {L : List (ByteArray × Value)} {w w' : World} (h : TabAt b m clk L w) (hb : Below B w w') (h1 : b < B) (h2 : m < B) : TabAt b m clk L w' :=
  ⟨(hb.cell (p := ⟨b, 0, none⟩) h1).trans h.c0, (hb.cell (p := ⟨b, 1, none⟩) h1).trans h.c1, (hb.frozen (p := ⟨b, 0, none⟩) h1).trans h.f0, (hb.frozen (p := ⟨b, 1, none⟩) h1).trans h.f1, h.mp.below hb h2, Nat.lt_of_lt_of_le h.lt hb.size, h.ne⟩
theorem TabAt.after {b m : Nat} {clk : Int} {L : List (ByteArray × Value)} {w w' : World} (h : TabAt b m clk L w) (hb : Below w.heap.size w w') : TabAt b m clk L w' := h.below hb h.lt h.mp.lt

def isPathB (p : ByteArray) : Bool := decide (p.size ≤ 200) && validB p.data.toList
def isNameB (p : ByteArray) : Bool := decide (p.size ≤ 24) && compB p.data.toList
def isTermB (t : Int) : Bool := decide (1 ≤ t) && decide (t ≤ 1048576)
def hNow (clk ls lu : Int) : Bool := decide (ls ≤ clk) && decide (clk < lu)
end

section
open Go.RowKit

def hldB (clk : Int) (lh : ByteArray) (lf ls lu : Int) (holder : ByteArray) (fence : Int) : Bool := hNow clk ls lu && (lh.toList == holder.toList) && (lf == fence)

/-- Nothing that was there has turned but blocks b and m. -/
structure Only (b m : Nat) (w w' : World) : Prop where
  os : w'.os = w.os
  tape : w'.tape = w.tape
  output : w'.output = w.output
  size : w.heap.size ≤ w'.heap.size
  block : ∀ k, k < w.heap.size → k ≠ b → k ≠ m → w'.heap[k]? = w.heap[k]?
theorem Only.of_below {b m : Nat} {w w' : World} (h : Below w.heap.size w w') : Only b m w w' := ⟨h.os, h.tape, h.output, h.size, fun k hk _ _ => h.block k hk⟩
theorem Only.refl (b m : Nat) (w : World) : Only b m w w := Only.of_below (Below.refl _ _)
theorem Only.trans {b m : Nat} {w x y : World} (h : Only b m w x) (k : Only b m x y) : Only b m w y :=
  ⟨k.os.trans h.os, k.tape.trans h.tape, k.output.trans h.output, Nat.le_trans h.size k.size, fun i hi h1 h2 => (k.block i (Nat.lt_of_lt_of_le hi h.size) h1 h2).trans (h.block i hi h1 h2)⟩
theorem Only.setCell {b m : Nat} {w x : World} (h : Only b m w x) (o : Nat) (u : Value) : Only b m w (x.setCell ⟨b, o, none⟩ u) :=
  ⟨h.os, h.tape, h.output, by simpa [World.setCell] using h.size, fun i hi h1 h2 => (Below.heap_setCell x _ u i h1).trans (h.block i hi h1 h2)⟩
theorem Only.far {b m : Nat} {w x : World} (h : Only b m w x) {p : Addr} (hp : w.heap.size ≤ p.block) (u : Value) : Only b m w (x.setCell p u) :=
  ⟨h.os, h.tape, h.output, by simpa [World.setCell] using h.size, fun i hi h1 h2 => (Below.heap_setCell x _ u i (by omega)).trans (h.block i hi h1 h2)⟩
theorem Only.alloc {b m : Nat} {w x : World} (h : Only b m w x) (o : Obj) : Only b m w (x.alloc o) :=
  h.trans (Only.of_below ((Below.refl _ _).alloc (Nat.le_refl _) o))
theorem Only.drew {b m : Nat} {w x : World} (h : Only b m w x) : Only b m w x.drew := ⟨h.os, h.tape, h.output, h.size, h.block⟩
theorem Only.grown {b m : Nat} {w x y : World} (h : Only b m w x) (hg : x.grownBy y (some m)) : Only b m w y :=
  h.trans ⟨hg.os, hg.tape, hg.output, hg.size, fun i hi _ h2 => hg.block i hi (fun e => h2 (by injection e))⟩
/-- All below a bound that both blocks are not below. -/
theorem Only.below {b m B : Nat} {w x : World} (h : Only b m w x) (hB : B ≤ w.heap.size) (hb : B ≤ b) (hm : B ≤ m) : Below B w x :=
  ⟨h.os, h.tape, h.output, h.size, fun k hk => h.block k (by omega) (by omega) (by omega)⟩

theorem TabAt.clock {b m : Nat} {clk : Int} {L : List (ByteArray × Value)} {w : World} (h : TabAt b m clk L w) (c : Int) : TabAt b m c L (w.setCell ⟨b, 0, none⟩ (.int .i64 c)) :=
  ⟨World.cell?_setCell_same _ _ _ h.c0, (World.cell?_setCell_other _ _ _ _ (by simp)).trans h.c1, by simp [go_sem, h.f0], by simp [go_sem, h.f1], h.mp.setCell (fun e => h.ne e.symm) _, by simpa [World.setCell] using h.lt, h.ne⟩
end

section
open Go.RowKit

/-- A region that draws its order: reads first, then a tail whose order is forced. -/
theorem wp_region_tail {P : Program} {id : Nat} {Q : Exit → Act → World → Prop} {a : Act} {w : World} {l : List Oper} (n : Nat) (hm : P.follows .mixedOrders = true) (hB : Region.lexTailB .any l.toArray n = true)
    (h : wpStill P l.toArray w.drew (fun a' => wpList P l.toArray Q (l.drop n) a' w.drew) (l.take n) a) : (Code.region id l.toArray true).wp P Q a w :=
  wp_region_still_tail n hm hB h

/-- Five cells of block b. -/
structure Cell5 (b : Nat) (v0 v1 v2 v3 v4 : Value) (x : World) : Prop where
  c0 : x.cell? ⟨b, 0, none⟩ = some v0
  c1 : x.cell? ⟨b, 1, none⟩ = some v1
  c2 : x.cell? ⟨b, 2, none⟩ = some v2
  c3 : x.cell? ⟨b, 3, none⟩ = some v3
  c4 : x.cell? ⟨b, 4, none⟩ = some v4
  lt : b < x.heap.size
  fz : ∀ o, x.frozen? ⟨b, o, none⟩ = false
theorem Cell5.of_block {b : Nat} {v0 v1 v2 v3 v4 : Value} {x y : World} (h : Cell5 b v0 v1 v2 v3 v4 x) (hb : y.heap[b]? = x.heap[b]?) (hs : x.heap.size ≤ y.heap.size) : Cell5 b v0 v1 v2 v3 v4 y := by
  have hc : ∀ o, y.cell? ⟨b, o, none⟩ = x.cell? ⟨b, o, none⟩ := fun o => by simp [World.cell?, hb]
  have hf : ∀ o, y.frozen? ⟨b, o, none⟩ = x.frozen? ⟨b, o, none⟩ := fun o => by simp [World.frozen?, hb]
  exact ⟨(hc 0).trans h.c0, (hc 1).trans h.c1, (hc 2).trans h.c2, (hc 3).trans h.c3, (hc 4).trans h.c4, Nat.lt_of_lt_of_le h.lt hs, fun o => (hf o).trans (h.fz o)⟩
theorem Box5.cell5 {w : World} {b : Nat} {v0 v1 v2 v3 v4 : Value} {x : World} (h : Box5 w b v0 v1 v2 v3 v4 x) : Cell5 b v0 v1 v2 v3 v4 x := ⟨h.c0, h.c1, h.c2, h.c3, h.c4, h.lt, h.fz⟩
theorem Cell5.grown {b m : Nat} {v0 v1 v2 v3 v4 : Value} {x y : World} (h : Cell5 b v0 v1 v2 v3 v4 x) (hg : x.grownBy y (some m)) (hne : b ≠ m) : Cell5 b v0 v1 v2 v3 v4 y :=
  h.of_block (hg.block b h.lt (fun e => hne (by injection e))) hg.size
theorem Cell5.below {b : Nat} {v0 v1 v2 v3 v4 : Value} {x y : World} (h : Cell5 b v0 v1 v2 v3 v4 x) (hb : Below x.heap.size x y) : Cell5 b v0 v1 v2 v3 v4 y := h.of_block (hb.block b h.lt) hb.size
theorem Cell5.alloc {b : Nat} {v0 v1 v2 v3 v4 : Value} {x : World} (h : Cell5 b v0 v1 v2 v3 v4 x) (o : Obj) : Cell5 b v0 v1 v2 v3 v4 (x.alloc o) := h.below ((Below.refl _ _).alloc (Nat.le_refl _) o)
theorem Cell5.drew {b : Nat} {v0 v1 v2 v3 v4 : Value} {x : World} (h : Cell5 b v0 v1 v2 v3 v4 x) : Cell5 b v0 v1 v2 v3 v4 x.drew := ⟨h.c0, h.c1, h.c2, h.c3, h.c4, h.lt, h.fz⟩
theorem Cell5.only {b m c : Nat} {v0 v1 v2 v3 v4 : Value} {x y : World} (h : Cell5 c v0 v1 v2 v3 v4 x) (ho : Only b m x y) (h1 : c ≠ b) (h2 : c ≠ m) : Cell5 c v0 v1 v2 v3 v4 y := h.of_block (ho.block c h.lt h1 h2) ho.size

/-- The table when its map has been written. -/
theorem TabAt.grown {b m : Nat} {clk : Int} {L L' : List (ByteArray × Value)} {w w' : World} (h : TabAt b m clk L w) (hg : w.grownBy w' (some m)) (hm : MapIs m L' w') : TabAt b m clk L' w' := by
  have hb : w'.heap[b]? = w.heap[b]? := hg.block b h.lt (fun e => h.ne (by injection e))
  have hc : ∀ o, w'.cell? ⟨b, o, none⟩ = w.cell? ⟨b, o, none⟩ := fun o => by simp [World.cell?, hb]
  have hf : ∀ o, w'.frozen? ⟨b, o, none⟩ = w.frozen? ⟨b, o, none⟩ := fun o => by simp [World.frozen?, hb]
  exact ⟨(hc 0).trans h.c0, (hc 1).trans h.c1, (hf 0).trans h.f0, (hf 1).trans h.f1, hm, Nat.lt_of_lt_of_le h.lt hg.size, h.ne⟩
theorem TabAt.far {b m : Nat} {clk : Int} {L : List (ByteArray × Value)} {w : World} (h : TabAt b m clk L w) {p : Addr} (h1 : b ≠ p.block) (h2 : m ≠ p.block) (u : Value) : TabAt b m clk L (w.setCell p u) := by
  have hb := Below.heap_setCell w p u b h1
  have hc : ∀ o, (w.setCell p u).cell? ⟨b, o, none⟩ = w.cell? ⟨b, o, none⟩ := fun o => by simp [World.cell?, hb]
  have hf : ∀ o, (w.setCell p u).frozen? ⟨b, o, none⟩ = w.frozen? ⟨b, o, none⟩ := fun o => by simp [World.frozen?, hb]
  exact ⟨(hc 0).trans h.c0, (hc 1).trans h.c1, (hf 0).trans h.f0, (hf 1).trans h.f1, h.mp.setCell h2 u, by simpa [World.setCell] using h.lt, h.ne⟩
theorem TabAt.alloc {b m : Nat} {clk : Int} {L : List (ByteArray × Value)} {w : World} (h : TabAt b m clk L w) (o : Obj) : TabAt b m clk L (w.alloc o) := h.after ((Below.refl _ _).alloc (Nat.le_refl _) o)
theorem TabAt.drew {b m : Nat} {clk : Int} {L : List (ByteArray × Value)} {w : World} (h : TabAt b m clk L w) : TabAt b m clk L w.drew := ⟨h.c0, h.c1, h.f0, h.f1, h.mp, h.lt, h.ne⟩
end

section
open Go.RowKit
end

section
open Go.RowKit

structure LOp where
  kind : Int
  p : ByteArray
  h : ByteArray
  fence : Int
  n : Int
structure Tab where
  clk : Int
  m : List (ByteArray × Lease)

def lk (m : List (ByteArray × Lease)) (p : ByteArray) : Option Lease := (m.find? (fun x => p == x.1)).map (·.2)
def pt (m : List (ByteArray × Lease)) (p : ByteArray) (l : Lease) : List (ByteArray × Lease) := match m with
  | [] => [(p, l)]
  | x :: r => if p == x.1 then (p, l) :: r else x :: pt r p l
def encL (m : List (ByteArray × Lease)) : List (ByteArray × Value) := m.map fun x => (x.1, x.2.val)
def zeroL : Lease := ⟨⟨#[]⟩, ⟨#[]⟩, 0, 0, 0⟩

theorem look_enc (m : List (ByteArray × Lease)) (p : ByteArray) : look (encL m) p = (lk m p).map Lease.val := by
  unfold look lk encL
  induction m with
  | nil => rfl
  | cons x r ih =>
    rw [List.map_cons, List.find?_cons, List.find?_cons]
    cases h : (p == x.1)
    · simpa [h] using ih
    · simp
theorem put_enc (m : List (ByteArray × Lease)) (p : ByteArray) (l : Lease) : put (encL m) p l.val = encL (pt m p l) := by
  unfold encL
  induction m with
  | nil => rfl
  | cons x r ih =>
    simp only [List.map_cons, put, pt]
    cases h : (p == x.1)
    · simp [ih]
    · simp
theorem enc_len (m : List (ByteArray × Lease)) : (encL m).length = m.length := by simp [encL]

def acqT (T : Tab) (p h : ByteArray) (n : Int) : Tab × Lease × Int :=
  if isPathB p = false then (T, zeroL, 190) else if isNameB h = false then (T, zeroL, 191) else if isTermB n = false then (T, zeroL, 192) else
  match lk T.m p with
  | none => if 64 ≤ T.m.length then (T, zeroL, 195) else (⟨T.clk, pt T.m p ⟨p, h, 1, T.clk, T.clk + n⟩⟩, ⟨p, h, 1, T.clk, T.clk + n⟩, 0)
  | some l => if hNow T.clk l.since l.til = true then (T, zeroL, 193) else if 1073741824 ≤ l.fence then (T, zeroL, 195) else (⟨T.clk, pt T.m p ⟨p, h, l.fence + 1, T.clk, T.clk + n⟩⟩, ⟨p, h, l.fence + 1, T.clk, T.clk + n⟩, 0)
def renT (T : Tab) (p h : ByteArray) (f n : Int) : Tab × Lease × Int :=
  if isTermB n = false then (T, zeroL, 192) else
  match lk T.m p with
  | none => (T, zeroL, 194)
  | some l => if hldB T.clk l.holder l.fence l.since l.til h f = true then (⟨T.clk, pt T.m p ⟨l.path, l.holder, l.fence, l.since, max l.til (T.clk + n)⟩⟩, ⟨l.path, l.holder, l.fence, l.since, max l.til (T.clk + n)⟩, 0) else (T, zeroL, 194)
def endT (T : Tab) (l : Lease) : Tab := ⟨T.clk, pt T.m l.path ⟨l.path, l.holder, l.fence, l.since, T.clk⟩⟩
def relT (T : Tab) (p h : ByteArray) (f : Int) : Tab × Int := match lk T.m p with
  | none => (T, 194)
  | some l => if hldB T.clk l.holder l.fence l.since l.til h f = true then (endT T l, 0) else (T, 194)
def brkT (T : Tab) (p : ByteArray) : Tab × Int := match lk T.m p with
  | none => (T, 194)
  | some l => if hNow T.clk l.since l.til = true then (endT T l, 0) else (T, 194)
def advT (T : Tab) (n : Int) : Tab × Int := if n < 0 ∨ 1099511627776 - T.clk < n then (T, 196) else (⟨T.clk + n, T.m⟩, 0)
def doT (T : Tab) (o : LOp) : Tab × Lease × Int :=
  if o.kind = 1 then acqT T o.p o.h o.n else if o.kind = 2 then renT T o.p o.h o.fence o.n
  else if o.kind = 3 then ((relT T o.p o.h o.fence).1, zeroL, (relT T o.p o.h o.fence).2) else if o.kind = 4 then ((brkT T o.p).1, zeroL, (brkT T o.p).2)
  else ((advT T o.n).1, zeroL, (advT T o.n).2)

/-- What holds of every table that calls make. -/
structure TabOk (T : Tab) : Prop where
  c0 : 0 ≤ T.clk
  c1 : T.clk ≤ 1099511627776
  f0 : ∀ x ∈ T.m, 0 ≤ x.2.fence
theorem lk_mem {m : List (ByteArray × Lease)} {p : ByteArray} {l : Lease} (h : lk m p = some l) : ∃ x ∈ m, p = x.1 ∧ x.2 = l := by
  unfold lk at h
  rw [Option.map_eq_some_iff] at h
  obtain ⟨x, hx, rfl⟩ := h
  have := List.find?_some hx
  exact ⟨x, List.mem_of_find?_eq_some hx, (ba_beq _ _).1 this, rfl⟩

/-- The table T lies at block b, its map at block m. -/
def TabT (b m : Nat) (T : Tab) (w : World) : Prop := TabAt b m T.clk (encL T.m) w

/-- How a call ends that returns a lease and an error, and leaves the table T. -/
def LeasePost (b m : Nat) (w : World) (r : Tab × Lease × Int) (e : Ending) (w' : World) : Prop := e = .returned (.tuple #[r.2.1.val, .int .i64 r.2.2]) ∧ TabT b m r.1 w' ∧ Only b m w w'
def ErrPost (b m : Nat) (w : World) (r : Tab × Int) (e : Ending) (w' : World) : Prop := e = .returned (.int .i64 r.2) ∧ TabT b m r.1 w' ∧ Only b m w w'

theorem post_same {b m : Nat} {w : World} {T : Tab} {e : Ending} {w' : World} {c : Int} (hT : TabT b m T w) (h : e = .returned (.tuple #[.agg #[.string ⟨#[]⟩, .string ⟨#[]⟩, .int .i64 0, .int .i64 0, .int .i64 0], .int .i64 c]) ∧ Below w.heap.size w w') : LeasePost b m w (T, zeroL, c) e w' :=
  ⟨h.1, TabAt.after hT h.2, Only.of_below h.2⟩
end

section
open Go.RowKit
end

section
open Go.RowKit

theorem mem_pt {m : List (ByteArray × Lease)} {p : ByteArray} {l : Lease} {x : ByteArray × Lease} (h : x ∈ pt m p l) : x = (p, l) ∨ x ∈ m := by
  induction m with
  | nil => simpa [pt] using h
  | cons y r ih =>
    unfold pt at h
    split at h
    · rcases List.mem_cons.1 h with h | h
      · exact .inl h
      · exact .inr (List.mem_cons_of_mem _ h)
    · rcases List.mem_cons.1 h with h | h
      · exact .inr (h ▸ List.mem_cons_self)
      · rcases ih h with h | h
        · exact .inl h
        · exact .inr (List.mem_cons_of_mem _ h)

/-- One lease of a table behind k calls. -/
structure LOk (k : Nat) (clk : Int) (x : ByteArray × Lease) : Prop where
  path : x.2.path = x.1
  isP : isPathB x.1 = true
  isN : isNameB x.2.holder = true
  f0 : 1 ≤ x.2.fence
  f1 : x.2.fence ≤ k
  s0 : 0 ≤ x.2.since
  s1 : x.2.since ≤ clk
structure TabInv (k : Nat) (T : Tab) : Prop where
  c0 : 0 ≤ T.clk
  c1 : T.clk ≤ 1099511627776
  all : ∀ x ∈ T.m, LOk k T.clk x
theorem TabInv.ok {k : Nat} {T : Tab} (h : TabInv k T) : TabOk T := ⟨h.c0, h.c1, fun x hx => by have := (h.all x hx).f0; omega⟩
theorem LOk.more {k k' : Nat} {c c' : Int} {x : ByteArray × Lease} (h : LOk k c x) (hk : k ≤ k') (hc : c ≤ c') : LOk k' c' x :=
  ⟨h.path, h.isP, h.isN, h.f0, by have := h.f1; omega, h.s0, by have := h.s1; omega⟩
theorem TabInv.more {k k' : Nat} {T : Tab} (h : TabInv k T) (hk : k ≤ k') : TabInv k' T := ⟨h.c0, h.c1, fun x hx => (h.all x hx).more hk (Int.le_refl _)⟩
theorem TabInv.put {k k' : Nat} {T : Tab} {p : ByteArray} {l : Lease} (h : TabInv k T) (hk : k ≤ k') (hl : LOk k' T.clk (p, l)) : TabInv k' ⟨T.clk, pt T.m p l⟩ :=
  ⟨h.c0, h.c1, fun x hx => by
    rcases mem_pt hx with rfl | hx
    · exact hl
    · exact (h.all x hx).more hk (Int.le_refl _)⟩
theorem TabInv.found {k : Nat} {T : Tab} {p : ByteArray} {l : Lease} (h : TabInv k T) (hl : lk T.m p = some l) : LOk k T.clk (p, l) := by
  obtain ⟨⟨q, l'⟩, hx, rfl, rfl⟩ := lk_mem hl
  exact h.all _ hx

theorem inv_acq {k : Nat} {T : Tab} (h : TabInv k T) (p hd : ByteArray) (n : Int) : TabInv (k + 1) (acqT T p hd n).1 := by
  unfold acqT
  split
  · exact h.more (by omega)
  split
  · exact h.more (by omega)
  split
  · exact h.more (by omega)
  rename_i h1 h2 h3
  simp only [Bool.not_eq_false] at h1 h2 h3
  split
  · split
    · exact h.more (by omega)
    · exact h.put (by omega) ⟨rfl, h1, h2, by simp, by dsimp only; omega, h.c0, Int.le_refl _⟩
  · rename_i l hl
    have hf := h.found hl
    split
    · exact h.more (by omega)
    split
    · exact h.more (by omega)
    · have := hf.f0
      have := hf.f1
      exact h.put (by omega) ⟨rfl, h1, h2, by dsimp only at *; omega, by dsimp only at *; omega, h.c0, Int.le_refl _⟩
theorem inv_ren {k : Nat} {T : Tab} (h : TabInv k T) (p hd : ByteArray) (f n : Int) : TabInv (k + 1) (renT T p hd f n).1 := by
  unfold renT
  split
  · exact h.more (by omega)
  split
  · exact h.more (by omega)
  · rename_i l hl
    have hf := h.found hl
    split
    · exact h.put (by omega) ⟨hf.path, hf.isP, hf.isN, hf.f0, by have := hf.f1; dsimp only at *; omega, hf.s0, hf.s1⟩
    · exact h.more (by omega)
theorem inv_end {k : Nat} {T : Tab} {p : ByteArray} {l : Lease} (h : TabInv k T) (hl : lk T.m p = some l) : TabInv (k + 1) (endT T l) := by
  have hf := h.found hl
  have hp : l.path = p := hf.path
  unfold endT
  exact h.put (by omega) ⟨rfl, by dsimp only; rw [hp]; exact hf.isP, hf.isN, hf.f0, by have := hf.f1; dsimp only at *; omega, hf.s0, hf.s1⟩
theorem inv_rel {k : Nat} {T : Tab} (h : TabInv k T) (p hd : ByteArray) (f : Int) : TabInv (k + 1) (relT T p hd f).1 := by
  unfold relT
  split
  · exact h.more (by omega)
  · rename_i l hl
    split
    · exact inv_end h hl
    · exact h.more (by omega)
theorem inv_brk {k : Nat} {T : Tab} (h : TabInv k T) (p : ByteArray) : TabInv (k + 1) (brkT T p).1 := by
  unfold brkT
  split
  · exact h.more (by omega)
  · rename_i l hl
    split
    · exact inv_end h hl
    · exact h.more (by omega)
theorem inv_adv {k : Nat} {T : Tab} (h : TabInv k T) (n : Int) : TabInv k (advT T n).1 := by
  unfold advT
  split
  · exact h
  · have := h.c0
    have := h.c1
    exact ⟨by dsimp only; omega, by dsimp only; omega, fun x hx => (h.all x hx).more (Nat.le_refl _) (by dsimp only; omega)⟩
theorem inv_do {k : Nat} {T : Tab} (h : TabInv k T) (o : LOp) : TabInv (k + 1) (doT T o).1 := by
  unfold doT
  split
  · exact inv_acq h _ _ _
  split
  · exact inv_ren h _ _ _ _
  split
  · exact inv_rel h _ _ _
  split
  · exact inv_brk h _
  · exact (inv_adv h _).more (by omega)
def runT (T : Tab) (l : List LOp) : Tab := l.foldl (fun T o => (doT T o).1) T
theorem inv_run {k : Nat} {T : Tab} (h : TabInv k T) (l : List LOp) : TabInv (k + l.length) (runT T l) := by
  induction l generalizing k T with
  | nil => exact h
  | cons o l ih =>
    have := ih (inv_do h o)
    rw [List.length_cons, show k + (l.length + 1) = k + 1 + l.length from by omega]
    exact this
theorem inv_new : TabInv 0 ⟨0, []⟩ := ⟨by simp, by simp, fun x hx => by cases hx⟩
end

section
open Go.RowKit

/-- The operations of a list lie at block b from cell off on, five cells each. -/
def OpsAt (b off : Nat) (l : List LOp) (w : World) : Prop := ∀ (i : Nat) (o : LOp), l[i]? = some o →
  w.cell? ⟨b, off + i * 5, none⟩ = some (.int .i64 o.kind) ∧ w.cell? ⟨b, off + i * 5 + 1, none⟩ = some (.string o.p) ∧ w.cell? ⟨b, off + i * 5 + 2, none⟩ = some (.string o.h) ∧ w.cell? ⟨b, off + i * 5 + 3, none⟩ = some (.int .i64 o.fence) ∧ w.cell? ⟨b, off + i * 5 + 4, none⟩ = some (.int .i64 o.n)
theorem OpsAt.below {b off B : Nat} {l : List LOp} {w w' : World} (h : OpsAt b off l w) (hb : Below B w w') (hB : b < B) : OpsAt b off l w' := fun i o ho => by
  obtain ⟨h0, h1, h2, h3, h4⟩ := h i o ho
  exact ⟨(hb.cell (p := ⟨b, _, none⟩) hB).trans h0, (hb.cell (p := ⟨b, _, none⟩) hB).trans h1, (hb.cell (p := ⟨b, _, none⟩) hB).trans h2, (hb.cell (p := ⟨b, _, none⟩) hB).trans h3, (hb.cell (p := ⟨b, _, none⟩) hB).trans h4⟩

/-- A slice of operations that reads as a list, nil let in. -/
def OpsIn (A : Option Addr) (l : List LOp) (w : World) : Prop := 0 < l.length → ∃ b off, A = some ⟨b, off, none⟩ ∧ b < w.heap.size ∧ OpsAt b off l w
theorem OpsIn.below {A : Option Addr} {l : List LOp} {w w' : World} (h : OpsIn A l w) (hb : Below w.heap.size w w') : OpsIn A l w' := fun hl => by
  obtain ⟨b, off, e, h1, h2⟩ := h hl
  exact ⟨b, off, e, Nat.lt_of_lt_of_le h1 hb.size, h2.below hb h1⟩

def smO (o : LOp) : Bool := decide (wrap64 (o.p.size + o.h.size) ≤ 400)
def smallB (l : List LOp) : Bool := l.all smO && decide (l.length ≤ 90)
theorem smallB_no {l : List LOp} {k : Nat} (hk : k < l.length) (h : 400 < wrap64 (l[k].p.size + l[k].h.size)) : smallB l = false := by
  have : l.all smO = false := by
    rw [List.all_eq_false]
    exact ⟨l[k], List.getElem_mem hk, by simp [smO]; omega⟩
  simp [smallB, this]
theorem take_all {l : List LOp} {k : Nat} (hk : k < l.length) (h : (l.take k).all smO = true) (h2 : wrap64 (l[k].p.size + l[k].h.size) ≤ 400) : (l.take (k + 1)).all smO = true := by
  rw [List.take_succ_eq_append_getElem hk, List.all_append, h]
  simp [smO, h2]

def bob19 : ByteArray := ⟨#[98, 111, 98]⟩
def ax19 : ByteArray := ⟨#[47, 47, 97, 47, 120]⟩
def ann19 : ByteArray := ⟨#[97, 110, 110]⟩
def awT : Tab := ⟨0, [(ax19, ⟨ax19, ann19, 1, 0, 10⟩)]⟩
theorem aw_1 : acqT ⟨0, []⟩ ax19 ann19 10 = (awT, ⟨ax19, ann19, 1, 0, 10⟩, 0) := by
  have h1 : isPathB ax19 = true := by decide
  have h2 : isNameB ann19 = true := by decide
  have h3 : isTermB 10 = true := by decide
  simp [acqT, h1, h2, h3, lk, pt, awT]
theorem aw_2 : acqT awT ax19 bob19 1 = (awT, zeroL, 193) := by
  have h1 : isPathB ax19 = true := by decide
  have h2 : isNameB bob19 = true := by decide
  have h3 : isTermB 1 = true := by decide
  have h4 : hNow 0 0 10 = true := by decide
  simp [acqT, h1, h2, h3, lk, awT, ba_self, h4]
end

end Go.Proofs.YtcfmkmhibghaoaaDoor
