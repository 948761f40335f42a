/-
  Arguments opened: slices of numbers; a byte.
-/
import Derived.Test.YtjjdffafibonhaaGreatDoorRow
import Derived.Test.YtjjdffafibonhaaGreatDoorGenT
import Derived.Deep.Slices
import Derived.ChangeSlices
namespace Go.Proofs.YtjjdffafibonhaaGreatDoor
open Go.ChangeShapes Go.WideShapes Go.ChangeAt Go.RowKit Go.Joins Go.Deep

theorem wf_u8 {n : Int} (h : (Lit.int .u8 n).wf = true) : ∃ x : UInt8, n = (x.toNat : Int) := by
  have h' : IntKind.u8.min ≤ n ∧ n ≤ IntKind.u8.max := by simpa [Lit.wf] using h
  have e1 : IntKind.u8.min = 0 := by decide
  have e2 : IntKind.u8.max = 255 := by decide
  rw [e1, e2] at h'
  refine ⟨UInt8.ofNat n.toNat, ?_⟩
  rw [toNat_ofNat (by omega)]
  omega
/-- All that there is when a law begins stays as it is. -/
def ghW (w : World) : Gh := ⟨fun b => match w.heap[b]? with | some (.cells cs _ _) => cs.size | _ => 0, fun b => b⟩
theorem ghW_new (w : World) {b : Nat} (h : w.heap.size ≤ b) : (ghW w).F b = 0 := by
  simp only [ghW]
  rw [Array.getElem?_eq_none h]
theorem ghW_cell {w : World} {b o : Nat} {v : Value} (h : w.cell? ⟨b, o, none⟩ = some v) : o < (ghW w).F b ∧ b < w.heap.size := by
  obtain ⟨cs, e, fr, hb, hv⟩ := cell_block h
  refine ⟨?_, Go.Proofs.YtjjdffafibonhaaGreatDoor.block_lt hb⟩
  simp only [ghW, hb]
  exact (Array.getElem?_eq_some_iff.1 hv).1
theorem Ext.finW {g' : Gh} {w w' : World} (h : Ext (fun o => w.heap.size ≤ o) (ghW w) w g' w') : Below w.heap.size w w' :=
  h.to_below (Nat.le_refl _) (fun b hb => by show ¬ w.heap.size ≤ b; omega)

theorem spot_none {w : World} {a : Addr} {v : Value} (h : w.cell? a = some v) : a.spot = none := by
  unfold World.cell? at h
  split at h
  · split at h
    · cases h
    · rename_i hs
      cases e : a.spot
      · rfl
      · rw [e] at hs; simp at hs
  · cases h

/-- A slice of numbers that comes in. -/
theorem open_nums {P : Program} {H : Type} {enc : TypeId × Value → H} {w : World} {base : Nat} {spare : Nat → Bool} {held : Bool} {r : Reach} {b0 : Nat} {v : Value} {d : DataW H} {ps : List MemPlace} {T e : TypeId} {k : IntKind}
    (ht : P.underlying T = some (.slice e)) (he : P.underlying e = some (.int k)) (hc : P.cellsOf e = 1) (hv : Value.okWide P w r b0 T v) (h : DataW.Trod enc P w base spare held T v d ps) :
    ∃ (A : Option Addr) (c : Nat) (zs : List Int), v = .slice A zs.length c ∧ zs.length ≤ c ∧ c ≤ maxLen ∧ (A = none → zs.length = 0) ∧ Rd 1 (ghW w) w A zs.length (zs.map (Value.int k)) ∧ ∀ n ∈ zs, (Lit.int k n).wf = true := by
  obtain ⟨A, len, c, rfl⟩ := okWide_slice ht hv
  obtain ⟨fuel, hf⟩ := h
  rcases open_ints ht he hc hf with ⟨hcs, _⟩ | ⟨a, len', cap, zs, hcs, _, hl, hm, hz, _, hx, hw⟩
  · simp only [Value.cells, List.cons.injEq, Value.slice.injEq, and_true] at hcs
    obtain ⟨rfl, rfl, rfl⟩ := hcs
    exact ⟨none, 0, [], rfl, Nat.le_refl _, Nat.zero_le _, fun _ => rfl, Rd.nil _ _ _ _, by simp⟩
  · simp only [Value.cells, List.cons.injEq, Value.slice.injEq, and_true] at hcs
    obtain ⟨rfl, rfl, rfl⟩ := hcs
    have hle : len ≤ zs.length := by rw [hz]; split <;> omega
    have hlt : (zs.take len).length = len := by rw [List.length_take]; omega
    refine ⟨some a, c, zs.take len, by rw [hlt], by omega, hm, (fun h => by cases h), ⟨by simp, fun h0 => ?_⟩, fun n hn => hw n (List.mem_of_mem_take hn)⟩
    rw [hlt] at h0
    have c0 := hx 0 (by omega)
    have hs := spot_none c0
    obtain ⟨ab, ao, asp⟩ := a
    have hs0 : asp = none := by simpa [Addr.add] using hs
    subst hs0
    have hall : ∀ i, i < len → w.cell? ⟨ab, ao + i, none⟩ = some (.int k (zs.getD i 0)) := fun i hi => by
      have := hx i (by omega)
      rwa [add_lit] at this
    have h1 := ghW_cell (hall (len - 1) (by omega))
    refine ⟨ab, ao, rfl, by rw [hlt]; omega, h1.2, fun i u hu => ?_⟩
    have hi : i < len := by
      have := (List.getElem?_eq_some_iff.1 hu).1
      rw [List.length_map, hlt] at this
      exact this
    rw [hall i hi]
    rw [List.getElem?_map, List.getElem?_take, if_pos hi, List.getElem?_eq_getElem (by omega)] at hu
    simp only [Option.map_some, Option.some.injEq] at hu
    rw [← hu]
    simp [List.getD, List.getElem?_eq_getElem (show i < zs.length by omega)]

end Go.Proofs.YtjjdffafibonhaaGreatDoor
