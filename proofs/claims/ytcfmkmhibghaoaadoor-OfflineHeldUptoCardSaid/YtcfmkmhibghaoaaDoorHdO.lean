/-
  Operations that come in, and that no text in them is longer than what is read.
-/
import Derived.Test.YtcfmkmhibghaoaaDoorOpC
import Derived.Test.YtcfmkmhibghaoaaDoorGenS
namespace Go.Proofs.YtcfmkmhibghaoaaDoor
open Go.ChangeShapes Go.WideShapes Go.ChangeAt Go.RowKit Go.Joins Go.Deep

set_option maxRecDepth 100000 in
theorem Tryd.cellsOp : Tryd.prog.cellsOf 50 = 5 := by kernel_rfl
section
variable {H : Type} {enc : TypeId × Value → H} {w : World} {base : Nat} {spare : Nat → Bool} {held : Bool}
set_option maxRecDepth 100000 in
theorem op_el (n : Nat) (cs : List Value) (D : DataW H) (ps : List MemPlace) (hl : cs.length = 5) (h : DataW.trod enc Tryd.prog w base spare held n 50 cs = some (D, ps)) :
    ∃ x : LOp, cs = [.int .i64 x.kind, .string x.p, .string x.h, .int .i64 x.fence, .int .i64 x.n] ∧ x.p.size + x.h.size ≤ Rows.uptoBulk D := by
  obtain ⟨ys, n', _, hDi, _, hyl, hg⟩ := DataW.trod_struct Tryd.underlying50 h
  match cs, hl with
  | [v0, v1, v2, v3, v4], _ =>
    have hy : ∀ j, j < 5 → ∃ y, ys[j]? = some y := fun j hj => ⟨ys[j]'(by rw [hyl]; exact hj), List.getElem?_eq_getElem _⟩
    obtain ⟨y0, e0⟩ := hy 0 (by omega)
    obtain ⟨y1, e1⟩ := hy 1 (by omega)
    obtain ⟨y2, e2⟩ := hy 2 (by omega)
    obtain ⟨y3, e3⟩ := hy 3 (by omega)
    obtain ⟨y4, e4⟩ := hy 4 (by omega)
    obtain ⟨a, rfl⟩ := int_bulk ((hg 0 _ rfl).trans e0)
    obtain ⟨b, rfl, b1⟩ := str_bulk ((hg 1 _ rfl).trans e1)
    obtain ⟨c, rfl, b2⟩ := str_bulk ((hg 2 _ rfl).trans e2)
    obtain ⟨d, rfl⟩ := int_bulk ((hg 3 _ rfl).trans e3)
    obtain ⟨e, rfl⟩ := int_bulk ((hg 4 _ rfl).trans e4)
    refine ⟨⟨a, b, c, d, e⟩, rfl, ?_⟩
    rw [(Prod.mk.inj hDi).1]
    match ys, hyl, e1, e2 with
    | [z0, z1, z2, z3, z4], _, e1, e2 =>
      injection e1 with e1
      injection e2 with e2
      subst e1 e2
      simp only [List.map_cons, List.map_nil, Rows.uptoBulk, Rows.uptoBulkAll]
      show b.size + c.size ≤ _
      omega
set_option maxRecDepth 100000 in
theorem open_opsU {r : Reach} {b0 : Nat} {v : Value} {d : DataW H} {ps : List MemPlace}
    (hv : Value.okWide Tryd.prog w r b0 43 v) (h : DataW.Trod enc Tryd.prog w base spare held 43 v d ps) :
    ∃ (A : Option Addr) (c : Nat) (l : List LOp), v = .slice A l.length c ∧ OpsIn A l w ∧ l.length ≤ Rows.uptoBulk d ∧ ∀ o ∈ l, o.p.size ≤ Rows.uptoBulk d ∧ o.h.size ≤ Rows.uptoBulk d := by
  obtain ⟨A0, len0, c0, rfl⟩ := okWide_slice Tryd.underlying43 hv
  obtain ⟨fuel, hf⟩ := h
  obtain ⟨A, c, l, Ds, h1, h2, h3, h4⟩ := open_list (α := LOp) Tryd.underlying43 Tryd.cellsOp (fun cs x b => cs = [.int .i64 x.kind, .string x.p, .string x.h, .int .i64 x.fence, .int .i64 x.n] ∧ x.p.size + x.h.size ≤ b) op_el hf
  simp only [Value.cells, List.cons.injEq, Value.slice.injEq, and_true] at h1
  obtain ⟨rfl, rfl, rfl⟩ := h1
  refine ⟨A0, c0, l, rfl, fun h0 => ?_, by have := bulk_len Ds; omega, fun o ho => ?_⟩
  · obtain ⟨a, rfl, ha⟩ := h4 h0
    have hx0 := List.getElem?_eq_getElem h0
    obtain ⟨cs', D', _, _, e2, e3, _⟩ := ha 0 _ hx0
    have c0 := e2 0 (by omega)
    rw [e3, Nat.zero_mul, Nat.zero_add] at c0
    have c0' : w.cell? a = some (.int .i64 l[0].kind) := c0
    have hs := spot_none c0'
    have hlt := cell_lt c0'
    obtain ⟨ab, ao, asp⟩ := a
    dsimp only at hs hlt
    subst hs
    refine ⟨ab, ao, rfl, hlt, fun i x hx => ?_⟩
    obtain ⟨cs', D', _, _, e2, e3, _⟩ := ha i x hx
    subst e3
    have k0 := e2 0 (by omega)
    have k1 := e2 1 (by omega)
    have k2 := e2 2 (by omega)
    have k3 := e2 3 (by omega)
    have k4 := e2 4 (by omega)
    simp only [add_lit, ← Nat.add_assoc, Nat.add_zero] at k0 k1 k2 k3 k4
    exact ⟨k0, k1, k2, k3, k4⟩
  · obtain ⟨i, hi⟩ := List.mem_iff_getElem?.1 ho
    have h0 : 0 < l.length := by have := (List.getElem?_eq_some_iff.1 hi).1; omega
    obtain ⟨a, _, ha⟩ := h4 h0
    obtain ⟨cs', D, hD, _, _, _, e4⟩ := ha i o hi
    have := bulk_mem (List.mem_of_getElem? hD)
    omega
end
end Go.Proofs.YtcfmkmhibghaoaaDoor
