/-
  An argument that is a slice of operations, opened.
-/
import Derived.Test.YtphoodnclmplhaaDoorRow
import Derived.Test.YtphoodnclmplhaaDoorSmall
import Derived.Deep.Slices
namespace Go.Proofs.YtphoodnclmplhaaDoor
open Go.ChangeShapes Go.WideShapes Go.ChangeAt Go.RowKit Go.Joins Go.Deep

theorem list_of {α : Type} (n : Nat) (Q : Nat → α → Prop) (h : ∀ i, i < n → ∃ a, Q i a) : ∃ l : List α, l.length = n ∧ ∀ (i : Nat) (a : α), l[i]? = some a → Q i a := by
  induction n with
  | zero => exact ⟨[], rfl, fun i a h => by simp at h⟩
  | succ n ih =>
    obtain ⟨l, hl, hq⟩ := ih (fun i hi => h i (by omega))
    obtain ⟨a, ha⟩ := h n (by omega)
    refine ⟨l ++ [a], by simp [hl], fun i b hb => ?_⟩
    rcases Nat.lt_trichotomy i n with hi | hi | hi
    · rw [List.getElem?_append_left (by omega)] at hb
      exact hq i b hb
    · subst hi
      rw [List.getElem?_append_right (by omega), hl] at hb
      simp at hb
      subst hb
      exact ha
    · rw [List.getElem?_eq_none (by simp; omega)] at hb
      cases hb

theorem add_none (b off k : Nat) : (⟨b, off, none⟩ : Addr).add k = ⟨b, off + k, none⟩ := by
  unfold Addr.add
  split
  · subst_vars; rfl
  · rfl
theorem spot_none {w : World} {a : Addr} {v : Value} (h : w.cell? a = some v) : a.spot = none := by
  unfold World.cell? at h
  split at h
  · split at h
    · cases h
    · rename_i hs
      cases e : a.spot
      · rfl
      · rw [e] at hs; simp at hs
  · cases h
theorem cell_lt {w : World} {a : Addr} {v : Value} (h : w.cell? a = some v) : a.block < w.heap.size := by
  unfold World.cell? at h
  split at h
  · rename_i hb
    exact (Array.getElem?_eq_some_iff.1 hb).1
  · cases h

set_option maxRecDepth 100000 in
theorem Tryd.cellsOp : Tryd.prog.cellsOf 32 = 5 := by kernel_rfl

set_option maxRecDepth 100000 in
theorem open_ops {H : Type} {enc : TypeId × Value → H} {w : World} {base : Nat} {spare : Nat → Bool} {held : Bool} {r : Reach} {b0 : Nat} {v : Value} {d : DataW H} {ps : List MemPlace}
    (hv : Value.okWide Tryd.prog w r b0 22 v) (h : DataW.Trod enc Tryd.prog w base spare held 22 v d ps) :
    ∃ (A : Option Addr) (c : Nat) (l : List LOp), v = .slice A l.length c ∧ OpsIn A l w ∧ l.length ≤ 9223372036854775807 := by
  obtain ⟨A, len, c, rfl⟩ := okWide_slice Tryd.underlying22 hv
  obtain ⟨fuel, hf⟩ := h
  rcases open_slice Tryd.underlying22 hf with ⟨hcs, _⟩ | ⟨a, len', cap, m, n, D, Pl, hcs, _, hl, hm, hmm, _, hi⟩
  · simp only [Value.cells, List.cons.injEq, Value.slice.injEq, and_true] at hcs
    obtain ⟨rfl, rfl, rfl⟩ := hcs
    exact ⟨none, 0, [], rfl, fun h => by simp at h, by simp⟩
  · simp only [Value.cells, List.cons.injEq, Value.slice.injEq, and_true] at hcs
    obtain ⟨rfl, rfl, rfl⟩ := hcs
    have hle : len ≤ m := by rw [hmm]; split <;> omega
    have key : ∀ i, i < len → ∃ o : LOp, w.cell? (a.add (i * 5)) = some (.int .i64 o.kind) ∧ w.cell? (a.add (i * 5 + 1)) = some (.string o.p) ∧ w.cell? (a.add (i * 5 + 2)) = some (.string o.h) ∧ w.cell? (a.add (i * 5 + 3)) = some (.int .i64 o.fence) ∧ w.cell? (a.add (i * 5 + 4)) = some (.int .i64 o.n) := by
      intro i hlt
      obtain ⟨cs', hc, ht⟩ := hi i (by omega)
      rw [Tryd.cellsOp] at hc
      obtain ⟨_, hcl, hat⟩ := World.cells?_some hc
      obtain ⟨ys, n', _, _, _, _, hg⟩ := DataW.trod_struct Tryd.underlying32 ht
      match cs', hcl with
      | [v0, v1, v2, v3, v4], _ =>
        have g0 := hg 0 _ rfl
        have g1 := hg 1 _ rfl
        have g2 := hg 2 _ rfl
        have g3 := hg 3 _ rfl
        have g4 := hg 4 _ rfl
        have hy : ∀ j, j < 5 → ∃ y, ys[j]? = some y := fun j hj => ⟨ys[j]'(by simp_all), List.getElem?_eq_getElem _⟩
        obtain ⟨y0, e0⟩ := hy 0 (by omega)
        obtain ⟨y1, e1⟩ := hy 1 (by omega)
        obtain ⟨y2, e2⟩ := hy 2 (by omega)
        obtain ⟨y3, e3⟩ := hy 3 (by omega)
        obtain ⟨y4, e4⟩ := hy 4 (by omega)
        obtain ⟨k, q0, _⟩ := DataW.trod_int Tryd.underlying3 (g0.trans e0)
        obtain ⟨p, q1, _⟩ := DataW.trod_string Tryd.underlying9 (g1.trans e1)
        obtain ⟨s, q2, _⟩ := DataW.trod_string Tryd.underlying9 (g2.trans e2)
        obtain ⟨f, q3, _⟩ := DataW.trod_int Tryd.underlying3 (g3.trans e3)
        obtain ⟨u, q4, _⟩ := DataW.trod_int Tryd.underlying3 (g4.trans e4)
        cases q0; cases q1; cases q2; cases q3; cases q4
        refine ⟨⟨k, p, s, f, u⟩, ?_, ?_, ?_, ?_, ?_⟩
        · exact hat 0 (by omega)
        · rw [← add_add]; exact hat 1 (by omega)
        · rw [← add_add]; exact hat 2 (by omega)
        · rw [← add_add]; exact hat 3 (by omega)
        · rw [← add_add]; exact hat 4 (by omega)
    obtain ⟨l, rfl, hq⟩ := list_of len _ key
    refine ⟨some a, c, l, rfl, fun h0 => ?_, by unfold maxLen at hm; omega⟩
    have c0 := (hq 0 l[0] (List.getElem?_eq_getElem h0)).1
    have hs := spot_none (a := a) c0
    obtain ⟨ab, ao, asp⟩ := a
    dsimp only at hs
    subst hs
    refine ⟨ab, ao, rfl, cell_lt (a := ⟨ab, ao, none⟩) c0, fun i o ho => ?_⟩
    have := hq i o ho
    simp only [add_none, ← Nat.add_assoc] at this
    exact this

end Go.Proofs.YtphoodnclmplhaaDoor
