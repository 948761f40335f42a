
/-
  The base for seats without the journal (joined by a program of ours from our own texts).
-/
import Derived.Test.YtocffknoeknabaaGreatDoorRow
import Derived.Test.YtocffknoeknabaaGreatDoorMapG
import Derived.OwnWalk
namespace Go.Proofs.YtocffknoeknabaaGreatDoor
section
open Go.RowKit

structure RowK (α : Type) where
  cells : α → List Value
  n : Nat
  pos : 0 < n
  len : ∀ x, (cells x).length = n
  one : ∀ x, ∀ u ∈ cells x, u.oneCell' = true
namespace RowK
variable {α : Type} (R : RowK α)
def flat (L : List α) : List Value := L.flatMap R.cells
theorem flat_cons (x : α) (r : List α) : R.flat (x :: r) = R.cells x ++ R.flat r := rfl
theorem flat_append (V W : List α) : R.flat (V ++ W) = R.flat V ++ R.flat W := by simp [flat]
theorem flat_one (x : α) : R.flat [x] = R.cells x := by simp [flat]
theorem flat_len : ∀ L : List α, (R.flat L).length = L.length * R.n
  | [] => by simp [flat]
  | x :: r => by
    rw [R.flat_cons, List.length_append, R.len, flat_len r, List.length_cons, Nat.add_mul, Nat.one_mul, Nat.add_comm]
theorem flat_get : ∀ (L : List α) (i j : Nat) (x : α), L[i]? = some x → j < R.n → (R.flat L)[i * R.n + j]? = (R.cells x)[j]?
  | [], _, _, _, h, _ => by cases h
  | y :: r, 0, j, x, h, hj => by
    have hz : y = x := by simpa using h
    subst hz
    rw [R.flat_cons, Nat.zero_mul, Nat.zero_add, List.getElem?_append_left (by rw [R.len]; exact hj)]
  | y :: r, i + 1, j, x, h, hj => by
    have e : (i + 1) * R.n + j - R.n = i * R.n + j := by rw [Nat.add_mul, Nat.one_mul]; omega
    rw [R.flat_cons, List.getElem?_append_right (by rw [R.len, Nat.add_mul, Nat.one_mul]; omega), R.len, e]
    exact flat_get r i j x (by simpa using h) hj
theorem flat_ones (L : List α) : ∀ u ∈ R.flat L, u.oneCell' = true := fun u hu => by
  obtain ⟨x, _, hx⟩ := List.mem_flatMap.1 hu
  exact R.one x u hx
/-- The structs of a list lie at block b from cell off on. -/
def At (b off : Nat) (l : List α) (w : World) : Prop := ∀ (j : Nat) (u : Value), (R.flat l)[j]? = some u → w.cell? ⟨b, off + j, none⟩ = some u
variable {R}
theorem At.get {b off : Nat} {l : List α} {w : World} (h : R.At b off l w) {i j : Nat} {x : α} {u : Value} (hi : l[i]? = some x) (hj : (R.cells x)[j]? = some u) : w.cell? ⟨b, off + i * R.n + j, none⟩ = some u := by
  have hn : j < R.n := by
    have := (List.getElem?_eq_some_iff.1 hj).1
    rwa [R.len] at this
  rw [Nat.add_assoc]
  exact h _ u ((R.flat_get l i j x hi hn).trans hj)
theorem At.of_block {b off : Nat} {l : List α} {w w' : World} (h : R.At b off l w) (hb : w'.heap[b]? = w.heap[b]?) : R.At b off l w' := fun j u hu => by
  have := h j u hu
  simpa [World.cell?, hb] using this
theorem At.below {b off B : Nat} {l : List α} {w w' : World} (h : R.At b off l w) (hb : Below B w w') (hB : b < B) : R.At b off l w' := h.of_block (hb.block b hB)
variable (R)
/-- A slice of structs that reads as a list, nil let in. -/
def In (A : Option Addr) (l : List α) (w : World) : Prop := 0 < l.length → ∃ b off, A = some ⟨b, off, none⟩ ∧ b < w.heap.size ∧ R.At b off l w
variable {R}
theorem In.nil (A : Option Addr) (w : World) : R.In A [] w := fun h => by simp at h
theorem In.below {A : Option Addr} {l : List α} {w w' : World} (h : R.In A l w) (hb : Below w.heap.size w w') : R.In A l w' := fun hl => by
  obtain ⟨b, off, e, h1, h2⟩ := h hl
  exact ⟨b, off, e, Nat.lt_of_lt_of_le h1 hb.size, h2.below hb h1⟩
/-- A row of its own reads as its list. -/
theorem In.of_row {w : World} {base m cap : Nat} {e : TypeId} {A : Option Addr} {l : List α} (ho : w.ownsRow base e R.n (.slice A m cap) m (R.flat l)) : R.In A l w := fun hl => by
  rcases ho.2 with ⟨h0, hm⟩ | ⟨g, cap', cs, h3, _, hb, _, _, hs, ht⟩
  · have h1 := ho.1
    rw [R.flat_len, hm, Nat.zero_mul] at h1
    have := Nat.mul_pos hl R.pos
    omega
  · injection h3 with e1 e2 e3
    subst e1
    refine ⟨g, 0, rfl, block_lt hb, fun j u hu => ?_⟩
    rw [Nat.zero_add, cell_at hb]
    have hj : j < m * R.n := by
      have h4 := (List.getElem?_eq_some_iff.1 hu).1
      rw [ho.1] at h4
      exact h4
    rw [← ht, List.getElem?_take_of_lt hj] at hu
    simpa using hu
variable (R)
theorem flat_snoc (V : List α) (x : α) : R.flat V ++ R.cells x = R.flat (V ++ [x]) := by rw [R.flat_append, R.flat_one]
/-- The one struct of an argument list of an append, laid in a block of its own. -/
theorem lit (w : World) (x : α) (T : TypeId) : (∀ j u, (R.cells x)[j]? = some u → (w.alloc (.cells (R.cells x).toArray T)).cell? ((⟨w.heap.size, 0, none⟩ : Addr).add j) = some u) ∧ ∀ u ∈ R.cells x, u.oneCell' = true :=
  ⟨fun j u hu => by
    have hh : (w.alloc (.cells (R.cells x).toArray T)).heap[w.heap.size]? = some (.cells (R.cells x).toArray T (0, 0)) := heap_alloc_new w _
    rw [add_lit, Nat.zero_add, cell_at hh]
    simpa using hu, R.one x⟩
theorem lit2 (w : World) (o : Obj) (x : α) (T : TypeId) : (∀ j u, (R.cells x)[j]? = some u → ((w.alloc o).alloc (.cells (R.cells x).toArray T)).cell? ((⟨w.heap.size + 1, 0, none⟩ : Addr).add j) = some u) ∧ ∀ u ∈ R.cells x, u.oneCell' = true := by
  have := R.lit (w.alloc o) x T
  have e : (w.alloc o).heap.size = w.heap.size + 1 := by simp
  rw [e] at this
  exact this
variable {R}
end RowK
section
variable {b : Nat} {T : TypeId} {x : World} {v0 v1 v2 v3 v4 v5 v6 v7 v8 v9 v10 v11 : Value}
theorem Blk.c2 (h : Blk b T [v0, v1] x) : x.cell? ⟨b, 0, none⟩ = some v0 ∧ x.cell? ⟨b, 1, none⟩ = some v1 := ⟨h.cell 0, h.cell 1⟩
theorem Blk.c5 (h : Blk b T [v0, v1, v2, v3, v4] x) : x.cell? ⟨b, 0, none⟩ = some v0 ∧ x.cell? ⟨b, 1, none⟩ = some v1 ∧ x.cell? ⟨b, 2, none⟩ = some v2 ∧ x.cell? ⟨b, 3, none⟩ = some v3 ∧ x.cell? ⟨b, 4, none⟩ = some v4 := ⟨h.cell 0, h.cell 1, h.cell 2, h.cell 3, h.cell 4⟩
theorem Blk.c6 (h : Blk b T [v0, v1, v2, v3, v4, v5] x) : x.cell? ⟨b, 0, none⟩ = some v0 ∧ x.cell? ⟨b, 1, none⟩ = some v1 ∧ x.cell? ⟨b, 2, none⟩ = some v2 ∧ x.cell? ⟨b, 3, none⟩ = some v3 ∧ x.cell? ⟨b, 4, none⟩ = some v4 ∧ x.cell? ⟨b, 5, none⟩ = some v5 := ⟨h.cell 0, h.cell 1, h.cell 2, h.cell 3, h.cell 4, h.cell 5⟩
theorem Blk.c12 (h : Blk b T [v0, v1, v2, v3, v4, v5, v6, v7, v8, v9, v10, v11] x) : x.cell? ⟨b, 0, none⟩ = some v0 ∧ x.cell? ⟨b, 1, none⟩ = some v1 ∧ x.cell? ⟨b, 2, none⟩ = some v2 ∧ x.cell? ⟨b, 3, none⟩ = some v3 ∧ x.cell? ⟨b, 4, none⟩ = some v4 ∧ x.cell? ⟨b, 5, none⟩ = some v5 ∧ x.cell? ⟨b, 6, none⟩ = some v6 ∧ x.cell? ⟨b, 7, none⟩ = some v7 ∧ x.cell? ⟨b, 8, none⟩ = some v8 ∧ x.cell? ⟨b, 9, none⟩ = some v9 ∧ x.cell? ⟨b, 10, none⟩ = some v10 ∧ x.cell? ⟨b, 11, none⟩ = some v11 :=
  ⟨h.cell 0, h.cell 1, h.cell 2, h.cell 3, h.cell 4, h.cell 5, h.cell 6, h.cell 7, h.cell 8, h.cell 9, h.cell 10, h.cell 11⟩
theorem Blk.f12 (h : Blk b T [v0, v1, v2, v3, v4, v5, v6, v7, v8, v9, v10, v11] x) : x.frozen? ⟨b, 0, none⟩ = false ∧ x.frozen? ⟨b, 1, none⟩ = false ∧ x.frozen? ⟨b, 2, none⟩ = false ∧ x.frozen? ⟨b, 3, none⟩ = false ∧ x.frozen? ⟨b, 4, none⟩ = false ∧ x.frozen? ⟨b, 5, none⟩ = false ∧ x.frozen? ⟨b, 6, none⟩ = false ∧ x.frozen? ⟨b, 7, none⟩ = false ∧ x.frozen? ⟨b, 8, none⟩ = false ∧ x.frozen? ⟨b, 9, none⟩ = false ∧ x.frozen? ⟨b, 10, none⟩ = false ∧ x.frozen? ⟨b, 11, none⟩ = false :=
  ⟨h.fz 0, h.fz 1, h.fz 2, h.fz 3, h.fz 4, h.fz 5, h.fz 6, h.fz 7, h.fz 8, h.fz 9, h.fz 10, h.fz 11⟩
end
section
variable {b : Nat} {T : TypeId} {x : World} {v0 v1 v2 v3 v4 v5 v6 v7 v8 v9 v10 v11 : Value}
theorem Blk.put12 (h : Blk b T [v0, v1, v2, v3, v4, v5, v6, v7, v8, v9, v10, v11] x) (u0 u1 u2 u3 u4 u5 u6 u7 u8 u9 u10 u11 : Value) :
    Blk b T [u0, u1, u2, u3, u4, u5, u6, u7, u8, u9, u10, u11] ((((((((((((x.setCell ⟨b, 0, none⟩ u0).setCell ⟨b, 1, none⟩ u1).setCell ⟨b, 2, none⟩ u2).setCell ⟨b, 3, none⟩ u3).setCell ⟨b, 4, none⟩ u4).setCell ⟨b, 5, none⟩ u5).setCell ⟨b, 6, none⟩ u6).setCell ⟨b, 7, none⟩ u7).setCell ⟨b, 8, none⟩ u8).setCell ⟨b, 9, none⟩ u9).setCell ⟨b, 10, none⟩ u10).setCell ⟨b, 11, none⟩ u11) := ((((((((((((h.set 0 u0).set 1 u1).set 2 u2).set 3 u3).set 4 u4).set 5 u5).set 6 u6).set 7 u7).set 8 u8).set 9 u9).set 10 u10).set 11 u11)
end
theorem Blk.new1 (w : World) (o : Obj) (T : TypeId) (cs : List Value) : Blk (w.heap.size + 1) T cs ((w.alloc o).alloc (.cells cs.toArray T)) := by
  have h := Blk.new (w.alloc o) T cs
  have e : (w.alloc o).heap.size = w.heap.size + 1 := by simp
  rwa [e] at h
theorem Blk.new2 (w : World) (o o2 : Obj) (T : TypeId) (cs : List Value) : Blk (w.heap.size + 1 + 1) T cs (((w.alloc o).alloc o2).alloc (.cells cs.toArray T)) := by
  have h := Blk.new1 (w.alloc o) o2 T cs
  have e : (w.alloc o).heap.size = w.heap.size + 1 := by simp
  rwa [e] at h
theorem Blk.new3 (w : World) (o o2 o3 : Obj) (T : TypeId) (cs : List Value) : Blk (w.heap.size + 1 + 1 + 1) T cs ((((w.alloc o).alloc o2).alloc o3).alloc (.cells cs.toArray T)) := by
  have h := Blk.new2 (w.alloc o) o2 o3 T cs
  have e : (w.alloc o).heap.size = w.heap.size + 1 := by simp
  rwa [e] at h
theorem fun_and12 {α : Type} {p0 p1 p2 p3 p4 p5 p6 p7 p8 p9 p10 p11 : α → Prop} (h : ∀ y, p0 y ∧ p1 y ∧ p2 y ∧ p3 y ∧ p4 y ∧ p5 y ∧ p6 y ∧ p7 y ∧ p8 y ∧ p9 y ∧ p10 y ∧ p11 y) :
    (∀ y, p0 y) ∧ (∀ y, p1 y) ∧ (∀ y, p2 y) ∧ (∀ y, p3 y) ∧ (∀ y, p4 y) ∧ (∀ y, p5 y) ∧ (∀ y, p6 y) ∧ (∀ y, p7 y) ∧ (∀ y, p8 y) ∧ (∀ y, p9 y) ∧ (∀ y, p10 y) ∧ ∀ y, p11 y :=
  ⟨fun y => (h y).1, fun y => (h y).2.1, fun y => (h y).2.2.1, fun y => (h y).2.2.2.1, fun y => (h y).2.2.2.2.1, fun y => (h y).2.2.2.2.2.1, fun y => (h y).2.2.2.2.2.2.1, fun y => (h y).2.2.2.2.2.2.2.1, fun y => (h y).2.2.2.2.2.2.2.2.1, fun y => (h y).2.2.2.2.2.2.2.2.2.1, fun y => (h y).2.2.2.2.2.2.2.2.2.2.1, fun y => (h y).2.2.2.2.2.2.2.2.2.2.2⟩
/-- A result that is a slice of structs, in memory that was there or is new. -/
def RetRows {α : Type} (R : RowK α) (l : List α) (w : World) (e : Ending) (w' : World) : Prop := ∃ A c, e = .returned (.slice A l.length c) ∧ R.In A l w' ∧ Below w.heap.size w w'
end

section
open Go.RowKit

structure FTy where
  base : Int
  kw : Bool
  ex : Bool
  xe : Bool
structure Cid where
  sum : Int
  size : Int
structure Rev where
  path : ByteArray
  num : Int
  chg : Int
  act : Int
  ty : FTy
  con : Cid
  src : ByteArray
  srcn : Int
structure Edt where
  path : ByteArray
  act : Int
  ty : FTy
  con : Cid
  base : Int
  src : ByteArray
  srcn : Int
  fence : Int
structure Rcd where
  src : ByteArray
  fst : Int
  lst : Int
  dst : ByteArray
  num : Int
  how : Int
def FTy.cells (t : FTy) : List Value := [.int .i64 t.base, .bool t.kw, .bool t.ex, .bool t.xe]
def Cid.cells (c : Cid) : List Value := [.int .u64 c.sum, .int .i64 c.size]
def Rev.cells (v : Rev) : List Value := [.string v.path, .int .i64 v.num, .int .i64 v.chg, .int .i64 v.act, .int .i64 v.ty.base, .bool v.ty.kw, .bool v.ty.ex, .bool v.ty.xe, .int .u64 v.con.sum, .int .i64 v.con.size, .string v.src, .int .i64 v.srcn]
def Edt.cells (x : Edt) : List Value := [.string x.path, .int .i64 x.act, .int .i64 x.ty.base, .bool x.ty.kw, .bool x.ty.ex, .bool x.ty.xe, .int .u64 x.con.sum, .int .i64 x.con.size, .int .i64 x.base, .string x.src, .int .i64 x.srcn, .int .i64 x.fence]
def Rcd.cells (r : Rcd) : List Value := [.string r.src, .int .i64 r.fst, .int .i64 r.lst, .string r.dst, .int .i64 r.num, .int .i64 r.how]
def FTy.val (t : FTy) : Value := .agg t.cells.toArray
def Cid.val (c : Cid) : Value := .agg c.cells.toArray
def Rev.val (v : Rev) : Value := .agg v.cells.toArray
def Edt.val (x : Edt) : Value := .agg x.cells.toArray
def Rcd.val (r : Rcd) : Value := .agg r.cells.toArray
def zeroTy : FTy := ⟨0, false, false, false⟩
def zeroCon : Cid := ⟨0, 0⟩
def zeroRev : Rev := ⟨⟨#[]⟩, 0, 0, 0, zeroTy, zeroCon, ⟨#[]⟩, 0⟩
def zeroEdt : Edt := ⟨⟨#[]⟩, 0, zeroTy, zeroCon, 0, ⟨#[]⟩, 0, 0⟩
def zeroRcd : Rcd := ⟨⟨#[]⟩, 0, 0, ⟨#[]⟩, 0, 0⟩
def revK : RowK Rev := ⟨Rev.cells, 12, by decide, fun _ => rfl, fun x u hu => by
  simp only [Rev.cells, List.mem_cons, List.not_mem_nil, or_false] at hu
  rcases hu with rfl | rfl | rfl | rfl | rfl | rfl | rfl | rfl | rfl | rfl | rfl | rfl <;> rfl⟩
def edtK : RowK Edt := ⟨Edt.cells, 12, by decide, fun _ => rfl, fun x u hu => by
  simp only [Edt.cells, List.mem_cons, List.not_mem_nil, or_false] at hu
  rcases hu with rfl | rfl | rfl | rfl | rfl | rfl | rfl | rfl | rfl | rfl | rfl | rfl <;> rfl⟩
def rcdK : RowK Rcd := ⟨Rcd.cells, 6, by decide, fun _ => rfl, fun x u hu => by
  simp only [Rcd.cells, List.mem_cons, List.not_mem_nil, or_false] at hu
  rcases hu with rfl | rfl | rfl | rfl | rfl | rfl <;> rfl⟩
/-- A change, its lists read. -/
structure Chg where
  num : Int
  client : ByteArray
  text : ByteArray
  edits : List Edt
  recs : List Rcd
structure Dep where
  revs : List Rev
  recs : List Rcd

/-! The reference's Log, Last, Get, Live. -/
def logD (d : List Rev) (p : ByteArray) : List Rev := d.filter fun v => v.path == p
def lastD (d : List Rev) (p : ByteArray) : Option Rev := (logD d p).getLast?
def getD' (d : List Rev) (p : ByteArray) (n : Int) : Option Rev := (logD d p).find? fun v => v.num == n
def goneA (a : Int) : Bool := a == 3 || a == 5
def lastN (d : List Rev) (p : ByteArray) : Int := match lastD d p with
  | none => 0
  | some v => v.num
/-- The numbers of each path run 1, 2, 3 and on. -/
def Asc (d : List Rev) : Prop := ∀ p, (logD d p).map (·.num) = (List.range (logD d p).length).map fun (i : Nat) => (i : Int) + 1
theorem asc_nil : Asc [] := fun _ => rfl
theorem log_snoc (d : List Rev) (v : Rev) (p : ByteArray) : logD (d ++ [v]) p = if (v.path == p) = true then logD d p ++ [v] else logD d p := by
  unfold logD
  rw [List.filter_append]
  cases h : (v.path == p) <;> simp [h]
theorem asc_last {d : List Rev} (h : Asc d) (p : ByteArray) : lastN d p = (logD d p).length := by
  have hp := h p
  unfold lastN lastD
  generalize logD d p = l at hp ⊢
  cases hl : l.getLast? with
  | none =>
    rw [List.getLast?_eq_none_iff] at hl
    subst hl
    rfl
  | some v =>
    rw [List.getLast?_eq_getElem?] at hl
    have h1 := congrArg (fun z => z[l.length - 1]?) hp
    simp only [List.getElem?_map, hl, Option.map_some] at h1
    have h2 : l.length - 1 < l.length := (List.getElem?_eq_some_iff.1 hl).1
    rw [List.getElem?_range h2] at h1
    simp only [Option.map_some, Option.some.injEq] at h1
    dsimp only
    rw [h1]
    omega
/-- A revision behind its path's last one. -/
theorem asc_snoc {d : List Rev} (h : Asc d) {v : Rev} (hv : v.num = lastN d v.path + 1) : Asc (d ++ [v]) := fun p => by
  rw [log_snoc]
  cases hp : (v.path == p)
  · exact h p
  · have e : v.path = p := by
      have := hp
      rcases v with ⟨vp, _⟩
      dsimp only at this ⊢
      exact (ba_beq _ _).1 this
    rw [if_pos rfl, List.map_append, h p, List.length_append, List.length_singleton, List.range_succ, List.map_append, List.map_singleton, List.map_singleton, hv, asc_last h, e]
end

end Go.Proofs.YtocffknoeknabaaGreatDoor
