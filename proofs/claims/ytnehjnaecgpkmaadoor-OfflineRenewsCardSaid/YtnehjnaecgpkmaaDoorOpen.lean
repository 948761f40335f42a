/-
  Arguments opened: a struct by value, field by field.
-/
import Derived.Test.YtnehjnaecgpkmaaDoorRow
namespace Go.Proofs.YtnehjnaecgpkmaaDoor
open Go.ChangeShapes Go.WideShapes Go.ChangeAt Go.RowKit Go.Joins Go.Deep

section
variable {H : Type} {enc : TypeId × Value → H} {P : Program} {w : World} {base : Nat} {spare : Nat → Bool} {held : Bool}

/-- A struct value whose fields are one cell each: as many values as fields, each read at its field's type. -/
theorem struct_values {r : Reach} {b0 : Nat} {t : TypeId} {fs : Array Field} {v : Value} {d : DataW H} {ps : List MemPlace} (hs : P.underlying t = some (.struct fs)) (hone : oneCellFields P fs = true) (hC : P.cellsOf t = fs.size)
    (hv : Value.okWide P w r b0 t v) (h : DataW.Trod enc P w base spare held t v d ps) :
    ∃ vs : List Value, v = .agg vs.toArray ∧ vs.length = fs.size ∧ ∀ (j : Nat) (f : Field), fs[j]? = some f → ∃ (u : Value) (y : DataW H × List MemPlace) (n : Nat), vs[j]? = some u ∧ DataW.trod enc P w base spare held n f.type [u] = some y := by
  obtain ⟨⟨l⟩, rfl, hsz⟩ := okWide_struct hs hv
  obtain ⟨fuel, hf⟩ := h
  obtain ⟨ys, n, _, _, _, hyl, hg⟩ := DataW.trod_struct hs hf
  have hlen : l.length = fs.size := by simpa [hC] using hsz
  refine ⟨l, rfl, hlen, fun j f hj => ?_⟩
  obtain ⟨ho, hk⟩ := hone_of hone j f hj
  have hjl : j < fs.size := (Array.getElem?_eq_some_iff.1 hj).1
  have h1 := hg j f hj
  rw [ho, hk] at h1
  have e1 : ((Value.agg l.toArray).cells.toList.drop j).take 1 = [l[j]'(by omega)] := by
    show (l.drop j).take 1 = _
    rw [List.drop_eq_getElem_cons (by omega)]
    rfl
  rw [e1] at h1
  exact ⟨_, ys[j]'(by omega), n, List.getElem?_eq_getElem (by omega), h1.trans (List.getElem?_eq_getElem (by omega))⟩
end

set_option maxRecDepth 100000 in
theorem Tryd.cellsClaim : Tryd.prog.cellsOf 23 = 5 := by kernel_rfl

theorem wf_i64 {n : Int} (h : (Lit.int .i64 n).wf = true) : -9223372036854775808 ≤ n ∧ n ≤ 9223372036854775807 := by
  have h' : And (IntKind.i64.min ≤ n) (n ≤ 9223372036854775807) := by simpa [Lit.wf, IntKind.wrap_i64] using h
  have e : IntKind.i64.min = -9223372036854775808 := by decide
  rw [e] at h'
  exact h'

set_option maxRecDepth 100000 in
/-- A claim that comes in. -/
theorem open_claim {H : Type} {enc : TypeId × Value → H} {w : World} {base : Nat} {spare : Nat → Bool} {held : Bool} {r : Reach} {b0 : Nat} {v : Value} {d : DataW H} {ps : List MemPlace}
    (hv : Value.okWide Tryd.prog w r b0 23 v) (h : DataW.Trod enc Tryd.prog w base spare held 23 v d ps) :
    ∃ (p : ByteArray) (f s t d : Int), v = .agg #[.string p, .int .i64 f, .int .i64 s, .int .i64 t, .int .i64 d] := by
  obtain ⟨vs, rfl, hl, hg⟩ := struct_values Tryd.underlying23 (by kernel_rfl) Tryd.cellsClaim hv h
  match vs, hl with
  | [v0, v1, v2, v3, v4], _ =>
    obtain ⟨_, _, _, e0, t0⟩ := hg 0 _ rfl
    obtain ⟨_, _, _, e1, t1⟩ := hg 1 _ rfl
    obtain ⟨_, _, _, e2, t2⟩ := hg 2 _ rfl
    obtain ⟨_, _, _, e3, t3⟩ := hg 3 _ rfl
    obtain ⟨_, _, _, e4, t4⟩ := hg 4 _ rfl
    cases e0; cases e1; cases e2; cases e3; cases e4
    obtain ⟨p, e0, _⟩ := DataW.trod_string Tryd.underlying9 t0
    obtain ⟨f, e1, _⟩ := DataW.trod_int Tryd.underlying3 t1
    obtain ⟨s, e2, _⟩ := DataW.trod_int Tryd.underlying3 t2
    obtain ⟨t, e3, _⟩ := DataW.trod_int Tryd.underlying3 t3
    obtain ⟨d, e4, _⟩ := DataW.trod_int Tryd.underlying3 t4
    cases e0; cases e1; cases e2; cases e3; cases e4
    exact ⟨p, f, s, t, d, rfl⟩

end Go.Proofs.YtnehjnaecgpkmaaDoor
