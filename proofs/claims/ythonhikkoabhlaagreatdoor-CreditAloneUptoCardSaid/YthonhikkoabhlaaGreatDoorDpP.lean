/-
  The depot as plain data: revisions, records, edits, changes; their cells in memory.
-/
import Derived.Test.YthonhikkoabhlaaGreatDoorRwK
namespace Go.Proofs.YthonhikkoabhlaaGreatDoor
open Go.RowKit

structure FTy where
  base : Int
  kw : Bool
  ex : Bool
  xe : Bool
structure Cid where
  sum : Int
  size : Int
structure Rev where
  path : ByteArray
  num : Int
  chg : Int
  act : Int
  ty : FTy
  con : Cid
  src : ByteArray
  srcn : Int
structure Edt where
  path : ByteArray
  act : Int
  ty : FTy
  con : Cid
  base : Int
  src : ByteArray
  srcn : Int
  fence : Int
structure Rcd where
  src : ByteArray
  fst : Int
  lst : Int
  dst : ByteArray
  num : Int
  how : Int
def FTy.cells (t : FTy) : List Value := [.int .i64 t.base, .bool t.kw, .bool t.ex, .bool t.xe]
def Cid.cells (c : Cid) : List Value := [.int .u64 c.sum, .int .i64 c.size]
def Rev.cells (v : Rev) : List Value := [.string v.path, .int .i64 v.num, .int .i64 v.chg, .int .i64 v.act, .int .i64 v.ty.base, .bool v.ty.kw, .bool v.ty.ex, .bool v.ty.xe, .int .u64 v.con.sum, .int .i64 v.con.size, .string v.src, .int .i64 v.srcn]
def Edt.cells (x : Edt) : List Value := [.string x.path, .int .i64 x.act, .int .i64 x.ty.base, .bool x.ty.kw, .bool x.ty.ex, .bool x.ty.xe, .int .u64 x.con.sum, .int .i64 x.con.size, .int .i64 x.base, .string x.src, .int .i64 x.srcn, .int .i64 x.fence]
def Rcd.cells (r : Rcd) : List Value := [.string r.src, .int .i64 r.fst, .int .i64 r.lst, .string r.dst, .int .i64 r.num, .int .i64 r.how]
def FTy.val (t : FTy) : Value := .agg t.cells.toArray
def Cid.val (c : Cid) : Value := .agg c.cells.toArray
def Rev.val (v : Rev) : Value := .agg v.cells.toArray
def Edt.val (x : Edt) : Value := .agg x.cells.toArray
def Rcd.val (r : Rcd) : Value := .agg r.cells.toArray
def zeroTy : FTy := ⟨0, false, false, false⟩
def zeroCon : Cid := ⟨0, 0⟩
def zeroRev : Rev := ⟨⟨#[]⟩, 0, 0, 0, zeroTy, zeroCon, ⟨#[]⟩, 0⟩
def zeroEdt : Edt := ⟨⟨#[]⟩, 0, zeroTy, zeroCon, 0, ⟨#[]⟩, 0, 0⟩
def zeroRcd : Rcd := ⟨⟨#[]⟩, 0, 0, ⟨#[]⟩, 0, 0⟩
def revK : RowK Rev := ⟨Rev.cells, 12, by decide, fun _ => rfl, fun x u hu => by
  simp only [Rev.cells, List.mem_cons, List.not_mem_nil, or_false] at hu
  rcases hu with rfl | rfl | rfl | rfl | rfl | rfl | rfl | rfl | rfl | rfl | rfl | rfl <;> rfl⟩
def edtK : RowK Edt := ⟨Edt.cells, 12, by decide, fun _ => rfl, fun x u hu => by
  simp only [Edt.cells, List.mem_cons, List.not_mem_nil, or_false] at hu
  rcases hu with rfl | rfl | rfl | rfl | rfl | rfl | rfl | rfl | rfl | rfl | rfl | rfl <;> rfl⟩
def rcdK : RowK Rcd := ⟨Rcd.cells, 6, by decide, fun _ => rfl, fun x u hu => by
  simp only [Rcd.cells, List.mem_cons, List.not_mem_nil, or_false] at hu
  rcases hu with rfl | rfl | rfl | rfl | rfl | rfl <;> rfl⟩
/-- A change, its lists read. -/
structure Chg where
  num : Int
  client : ByteArray
  text : ByteArray
  edits : List Edt
  recs : List Rcd
structure Dep where
  revs : List Rev
  recs : List Rcd

/-! The reference's Log, Last, Get, Live. -/
def logD (d : List Rev) (p : ByteArray) : List Rev := d.filter fun v => v.path == p
def lastD (d : List Rev) (p : ByteArray) : Option Rev := (logD d p).getLast?
def getD' (d : List Rev) (p : ByteArray) (n : Int) : Option Rev := (logD d p).find? fun v => v.num == n
def goneA (a : Int) : Bool := a == 3 || a == 5
def lastN (d : List Rev) (p : ByteArray) : Int := match lastD d p with
  | none => 0
  | some v => v.num
/-- The numbers of each path run 1, 2, 3 and on. -/
def Asc (d : List Rev) : Prop := ∀ p, (logD d p).map (·.num) = (List.range (logD d p).length).map fun (i : Nat) => (i : Int) + 1
theorem asc_nil : Asc [] := fun _ => rfl
theorem log_snoc (d : List Rev) (v : Rev) (p : ByteArray) : logD (d ++ [v]) p = if (v.path == p) = true then logD d p ++ [v] else logD d p := by
  unfold logD
  rw [List.filter_append]
  cases h : (v.path == p) <;> simp [h]
theorem asc_last {d : List Rev} (h : Asc d) (p : ByteArray) : lastN d p = (logD d p).length := by
  have hp := h p
  unfold lastN lastD
  generalize logD d p = l at hp ⊢
  cases hl : l.getLast? with
  | none =>
    rw [List.getLast?_eq_none_iff] at hl
    subst hl
    rfl
  | some v =>
    rw [List.getLast?_eq_getElem?] at hl
    have h1 := congrArg (fun z => z[l.length - 1]?) hp
    simp only [List.getElem?_map, hl, Option.map_some] at h1
    have h2 : l.length - 1 < l.length := (List.getElem?_eq_some_iff.1 hl).1
    rw [List.getElem?_range h2] at h1
    simp only [Option.map_some, Option.some.injEq] at h1
    dsimp only
    rw [h1]
    omega
/-- A revision behind its path's last one. -/
theorem asc_snoc {d : List Rev} (h : Asc d) {v : Rev} (hv : v.num = lastN d v.path + 1) : Asc (d ++ [v]) := fun p => by
  rw [log_snoc]
  cases hp : (v.path == p)
  · exact h p
  · have e : v.path = p := by
      have := hp
      rcases v with ⟨vp, _⟩
      dsimp only at this ⊢
      exact (ba_beq _ _).1 this
    rw [if_pos rfl, List.map_append, h p, List.length_append, List.length_singleton, List.range_succ, List.map_append, List.map_singleton, List.map_singleton, hv, asc_last h, e]

end Go.Proofs.YthonhikkoabhlaaGreatDoor
