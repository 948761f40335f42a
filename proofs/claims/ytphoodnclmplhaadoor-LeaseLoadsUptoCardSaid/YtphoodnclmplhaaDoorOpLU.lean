/-
  Leases that come in, and that no text in them is longer than what is read.
-/
import Derived.Test.YtphoodnclmplhaaDoorOpU
import Derived.Test.YtphoodnclmplhaaDoorLs
namespace Go.Proofs.YtphoodnclmplhaaDoor
open Go.ChangeShapes Go.WideShapes Go.ChangeAt Go.RowKit Go.Joins Go.Deep

theorem Tryd.cellsLs : Tryd.prog.cellsOf 34 = 5 := by kernel_rfl

set_option maxRecDepth 100000 in
theorem open_leasesU {H : Type} {enc : TypeId × Value → H} {w : World} {base : Nat} {spare : Nat → Bool} {held : Bool} {r : Reach} {b0 : Nat} {v : Value} {d : DataW H} {ps : List MemPlace}
    (hv : Value.okWide Tryd.prog w r b0 26 v) (h : DataW.Trod enc Tryd.prog w base spare held 26 v d ps) :
    ∃ (A : Option Addr) (c : Nat) (l : List Lease), v = .slice A l.length c ∧ LsIn A l w ∧ l.length ≤ 9223372036854775807 ∧ ∀ o ∈ l, o.path.size ≤ Rows.uptoBulk d ∧ o.holder.size ≤ Rows.uptoBulk d := by
  obtain ⟨A, len, c, rfl⟩ := okWide_slice Tryd.underlying26 hv
  obtain ⟨fuel, hf⟩ := h
  rcases open_slice Tryd.underlying26 hf with ⟨hcs, _⟩ | ⟨a, len', cap, m, n, D, Pl, hcs, _, hl, hm, hmm, hx, hi⟩
  · simp only [Value.cells, List.cons.injEq, Value.slice.injEq, and_true] at hcs
    obtain ⟨rfl, rfl, rfl⟩ := hcs
    exact ⟨none, 0, [], rfl, fun h => by simp at h, by simp, by simp⟩
  · simp only [Value.cells, List.cons.injEq, Value.slice.injEq, and_true] at hcs
    obtain ⟨rfl, rfl, rfl⟩ := hcs
    obtain ⟨hd, _⟩ := Prod.mk.inj hx
    have hle : len ≤ m := by rw [hmm]; split <;> omega
    have key : ∀ i, i < len → ∃ o : Lease, (w.cell? (a.add (i * 5)) = some (.string o.path) ∧ w.cell? (a.add (i * 5 + 1)) = some (.string o.holder) ∧ w.cell? (a.add (i * 5 + 2)) = some (.int .i64 o.fence) ∧ w.cell? (a.add (i * 5 + 3)) = some (.int .i64 o.since) ∧ w.cell? (a.add (i * 5 + 4)) = some (.int .i64 o.til)) ∧ o.path.size ≤ Rows.uptoBulk (D i) ∧ o.holder.size ≤ Rows.uptoBulk (D i) := by
      intro i hlt
      obtain ⟨cs', hc, ht⟩ := hi i (by omega)
      rw [Tryd.cellsLs] at hc
      obtain ⟨_, hcl, hat⟩ := World.cells?_some hc
      obtain ⟨ys, n', _, hDi, _, _, hg⟩ := DataW.trod_struct Tryd.underlying34 ht
      match cs', hcl with
      | [v0, v1, v2, v3, v4], _ =>
        have g0 := hg 0 _ rfl
        have g1 := hg 1 _ rfl
        have g2 := hg 2 _ rfl
        have g3 := hg 3 _ rfl
        have g4 := hg 4 _ rfl
        have hy : ∀ j, j < 5 → ∃ y, ys[j]? = some y := fun j hj => ⟨ys[j]'(by simp_all), List.getElem?_eq_getElem _⟩
        obtain ⟨y0, e0⟩ := hy 0 (by omega)
        obtain ⟨y1, e1⟩ := hy 1 (by omega)
        obtain ⟨y2, e2⟩ := hy 2 (by omega)
        obtain ⟨y3, e3⟩ := hy 3 (by omega)
        obtain ⟨y4, e4⟩ := hy 4 (by omega)
        obtain ⟨p, q0, r1, _⟩ := DataW.trod_string Tryd.underlying9 (g0.trans e0)
        obtain ⟨s, q1, r2, _⟩ := DataW.trod_string Tryd.underlying9 (g1.trans e1)
        obtain ⟨f, q2, _⟩ := DataW.trod_int Tryd.underlying3 (g2.trans e2)
        obtain ⟨k, q3, _⟩ := DataW.trod_int Tryd.underlying3 (g3.trans e3)
        obtain ⟨u, q4, _⟩ := DataW.trod_int Tryd.underlying3 (g4.trans e4)
        cases q0; cases q1; cases q2; cases q3; cases q4
        have hb : D i = .agg (ys.map (·.1)) := (Prod.mk.inj hDi).1
        have hp : Rows.uptoBulk y0.1 = p.size + 1 := by rw [r1]; simp only [Rows.uptoBulk, Array.length_toList]; rfl
        have hs : Rows.uptoBulk y1.1 = s.size + 1 := by rw [r2]; simp only [Rows.uptoBulk, Array.length_toList]; rfl
        have m1 := bulk_mem (List.mem_map.2 ⟨y0, List.mem_of_getElem? e0, rfl⟩ : y0.1 ∈ ys.map (·.1))
        have m2 := bulk_mem (List.mem_map.2 ⟨y1, List.mem_of_getElem? e1, rfl⟩ : y1.1 ∈ ys.map (·.1))
        refine ⟨⟨p, s, f, k, u⟩, ⟨?_, ?_, ?_, ?_, ?_⟩, ?_, ?_⟩
        · exact hat 0 (by omega)
        · rw [← add_add]; exact hat 1 (by omega)
        · rw [← add_add]; exact hat 2 (by omega)
        · rw [← add_add]; exact hat 3 (by omega)
        · rw [← add_add]; exact hat 4 (by omega)
        · rw [hb]; simp only [Rows.uptoBulk]; omega
        · rw [hb]; simp only [Rows.uptoBulk]; omega
    obtain ⟨l, rfl, hq⟩ := list_of len _ key
    have hD : ∀ i, i < l.length → Rows.uptoBulk (D i) ≤ Rows.uptoBulk d := fun i hi => by
      have := bulk_mem (List.mem_map.2 ⟨i, List.mem_range.2 hi, rfl⟩ : D i ∈ (List.range l.length).map D)
      rw [hd]
      simp only [Rows.uptoBulk]
      omega
    refine ⟨some a, c, l, rfl, fun h0 => ?_, by unfold maxLen at hm; omega, fun o hm => ?_⟩
    · have c0 := (hq 0 l[0] (List.getElem?_eq_getElem h0)).1.1
      have hs := spot_none (a := a) c0
      obtain ⟨ab, ao, asp⟩ := a
      dsimp only at hs
      subst hs
      refine ⟨ab, ao, rfl, cell_lt (a := ⟨ab, ao, none⟩) c0, fun i o ho => ?_⟩
      have := (hq i o ho).1
      simp only [add_none, ← Nat.add_assoc] at this
      exact this
    · obtain ⟨i, hi⟩ := List.getElem?_of_mem hm
      have h1 := (hq i o hi).2
      have h2 := hD i (List.getElem?_eq_some_iff.1 hi).1
      exact ⟨Nat.le_trans h1.1 h2, Nat.le_trans h1.2 h2⟩

end Go.Proofs.YtphoodnclmplhaaDoor
