/-
  What became of a claim, plain; and what Return returns.
-/
import Derived.Test.YtcfmkmhibghaoaaDoorOr0
import Derived.Test.YtcfmkmhibghaoaaDoorDpU
import Derived.Test.YtcfmkmhibghaoaaDoorDpM
namespace Go.Proofs.YtcfmkmhibghaoaaDoor
open Go.RowKit

def fileK : RowK (ByteArray × Int) := ⟨fun x => [.string x.1, .int .i64 x.2], 2, by decide, fun _ => rfl, fun x u hu => by
  simp only [List.mem_cons, List.not_mem_nil, or_false] at hu
  rcases hu with rfl | rfl <;> rfl⟩
theorem Tryd.infoFile : (Tryd.prog.info? 41).map (fun i => (i.zero, i.size, i.bytes)) = some (some (.agg #[.string ⟨#[]⟩, .int .i64 0]), 2, 24) := by kernel_rfl
theorem Blk.c3 {b : Nat} {T : TypeId} {x : World} {v0 v1 v2 : Value} (h : Blk b T [v0, v1, v2] x) : x.cell? ⟨b, 0, none⟩ = some v0 ∧ x.cell? ⟨b, 1, none⟩ = some v1 ∧ x.cell? ⟨b, 2, none⟩ = some v2 := ⟨h.cell 0, h.cell 1, h.cell 2⟩
theorem fun_and3 {α : Type} {p0 p1 p2 : α → Prop} (h : ∀ y, p0 y ∧ p1 y ∧ p2 y) : (∀ y, p0 y) ∧ (∀ y, p1 y) ∧ ∀ y, p2 y := ⟨fun y => (h y).1, fun y => (h y).2.1, fun y => (h y).2.2⟩
/-- The revisions of a list that are later than a number. -/
def missL (l : List Rev) (base : Int) : List (ByteArray × Int) := (l.filter fun r => decide (base < r.num)).map fun r => (r.path, r.num)
def RetBad (c : Claim) (lp lh : ByteArray) (lf ls lu : Int) : Prop := soundB c = false ∨ (¬ (lp = ⟨#[]⟩ ∧ lh = ⟨#[]⟩ ∧ lf = 0 ∧ ls = 0 ∧ lu = 0) ∧ lp ≠ c.path)
def retKH (cf : Int) (client : ByteArray) (lf : Int) (lh : ByteArray) (holds : Bool) (n : Nat) : Int × ByteArray :=
  if (holds && lf == cf && lh.toList == client.toList) = true then (1, client) else if (!holds && n == 0) = true then (2, ⟨#[]⟩) else (3, if holds = true then lh else ⟨#[]⟩)
def RetPost (c : Claim) (client lp lh : ByteArray) (lf ls lu : Int) (holds : Bool) (d : List Rev) (base : Int) (w : World) (e : Ending) (w' : World) : Prop :=
  (RetBad c lp lh lf ls lu ∧ e = .returned (.tuple #[.agg #[.int .i64 0, .string ⟨#[]⟩, .slice none 0 0], .int .i64 200]) ∧ Below w.heap.size w w') ∨
  (¬ RetBad c lp lh lf ls lu ∧ ∃ (A : Option Addr) (cp : Nat), e = .returned (.tuple #[.agg #[.int .i64 (retKH c.fence client lf lh holds (missL (logD d c.path) base).length).1, .string (retKH c.fence client lf lh holds (missL (logD d c.path) base).length).2, .slice A (missL (logD d c.path) base).length cp], .int .i64 0]) ∧
    fileK.In A (missL (logD d c.path) base) w' ∧ Below w.heap.size w w')
theorem miss_take (l : List Rev) (base : Int) (k : Nat) (h : k < l.length) : missL (l.take (k + 1)) base = missL (l.take k) base ++ (if decide (base < l[k].num) = true then [(l[k].path, l[k].num)] else []) := by
  unfold missL
  rw [List.take_succ_eq_append_getElem h, List.filter_append, List.map_append]
  cases hd : decide (base < l[k].num) <;> simp [hd]
theorem miss_len (l : List Rev) (base : Int) : (missL l base).length ≤ l.length := by
  unfold missL
  rw [List.length_map]
  exact List.length_filter_le _ _
/-- Revisions do not lie where a verdict lies. -/
theorem in_not_verd {vb : Nat} {T : TypeId} {n : Int} {h : ByteArray} {A : Option Addr} {m c : Nat} {AL : Option Addr} {l : List Rev} {w : World} (hk : Blk vb T [.int .i64 n, .string h, .slice A m c] w) (hi : revK.In AL l w) :
    ∀ b off, AL = some ⟨b, off, none⟩ → 0 < l.length → b ≠ vb ∧ b < w.heap.size := by
  intro b off e h0
  obtain ⟨b', off', e', h1, h2⟩ := hi h0
  rw [e] at e'
  injection e' with e'
  injection e' with e1 e2 e3
  subst e1 e2
  refine ⟨?_, h1⟩
  rintro rfl
  have hg := List.getElem?_eq_getElem h0
  have c0 := h2.get (j := 0) (u := .string l[0].path) hg rfl
  have c1 := h2.get (j := 1) (u := .int .i64 l[0].num) hg rfl
  simp only [Nat.zero_mul, Nat.add_zero] at c0 c1
  rw [hk.cell] at c0 c1
  match off, c0, c1 with
  | 0, c0, _ => simp at c0
  | 1, _, c1 => simp at c1
  | 2, c0, _ => simp at c0
  | o + 3, c0, _ => simp at c0
end Go.Proofs.YtcfmkmhibghaoaaDoor
