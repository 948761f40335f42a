/-
  Rows of structs in memory, for a sort that is written out: two elements exchanged.
-/
import Derived.Test.YthonhikkoabhlaaGreatDoorMem
import Derived.Shelf.SlSortCmp.InsertionK
import Derived.Sort.LotA
namespace Go.Proofs.YthonhikkoabhlaaGreatDoor
open Go.RowKit Go.Sort

section
variable {α : Type} [Inhabited α] {enc : α → List Value} {k : Nat} {w : World} {blk off : Nat} {d : Array α}
theorem swap_row (hk : ∀ x, (enc x).length = k) (h : HoldsK enc k w blk off d) {i j : Nat} (hi : i < d.size) (hj : j < d.size) :
    HoldsK enc k ((w.setCells blk (off + i * k) (enc d[j]!)).setCells blk (off + j * k) (enc d[i]!)) blk off (swp d i j) := by
  have e := swap_worldK enc k hk w 0 0 blk off d i j hi hj
  have e2 : (putRowK enc k (Sort.ahead w 0) blk off d).drewN 0 = w := putRowK_self enc k w blk off d h
  rw [e2] at e
  rw [e]
  exact holdsK_putRowK enc k _ blk off d _ h (size_swp d i j)
theorem swp_all {P : α → Prop} {i j : Nat} (hi : i < d.size) (hj : j < d.size) (h : ∀ q, q < d.size → P d[q]!) : ∀ q, q < d.size → P (swp d i j)[q]! := by
  intro q hq
  by_cases h2 : q = j
  · subst h2; rw [swp_right d i q hj]; exact h i hi
  · by_cases h1 : q = i
    · subst h1; rw [swp_left d q j hi h2]; exact h j hj
    · rw [swp_other d i j q h1 h2]; exact h q hq
theorem holdsK_drew (h : HoldsK enc k w blk off d) : HoldsK enc k w.drew blk off d := h
theorem lt_drew {g : Nat} {w : World} (h : g < w.heap.size) : g < w.drew.heap.size := h
theorem ins_zero (lt : α → α → Bool) (n : Nat) (d : Array α) : Sort.insOuter lt 0 n 0 d = Sort.insertionSort lt d 0 n := by
  unfold Sort.insertionSort
  by_cases h : 0 < n
  · rw [insOuter_go _ _ _ _ _ h]; rfl
  · rw [insOuter_stop _ _ _ _ _ h, insOuter_stop _ _ _ _ _ (by omega)]
theorem setCells_below {B : Nat} {w0 : World} (hb : Below B w0 w) (hB : B ≤ blk) (vs : List Value) (o : Nat) : Below B w0 (w.setCells blk o vs) := by
  induction vs generalizing w o with
  | nil => exact hb
  | cons v r ih => exact ih (hb.setCell (p := ⟨blk, o, none⟩) hB v) (o + 1)
theorem setCells_size (vs : List Value) (o : Nat) : (w.setCells blk o vs).heap.size = w.heap.size := by
  induction vs generalizing w o with
  | nil => rfl
  | cons v r ih => exact (ih (o := o + 1)).trans (by simp [World.setCell])
theorem holdsK_below {w' : World} {B : Nat} (h : HoldsK enc k w blk off d) (hb : Below B w w') (hB : blk < B) : HoldsK enc k w' blk off d := fun j hj => by
  obtain ⟨h1, h2⟩ := h j hj
  exact ⟨(hb.cell (p := ⟨blk, _, none⟩) hB).trans h1, (hb.frozen (p := ⟨blk, _, none⟩) hB).trans h2⟩
end
theorem ownsRow_below {w w' : World} {base size n : Nat} {e : TypeId} {v : Value} {xs : List Value} (h : w.ownsRow base e size v n xs) (hb : Below w.heap.size w w') : w'.ownsRow base e size v n xs := by
  obtain ⟨h1, h2⟩ := h
  refine ⟨h1, ?_⟩
  rcases h2 with h3 | ⟨g, cap, cur, h3, h4, h5, h6⟩
  · exact .inl h3
  · exact .inr ⟨g, cap, cur, h3, h4, (hb.block g (block_lt h5)).trans h5, h6⟩
theorem ownsRow_cases {w : World} {base size n : Nat} {e : TypeId} {v : Value} {xs : List Value} (h : w.ownsRow base e size v n xs) : (v = .slice none 0 0 ∧ n = 0) ∨ ∃ g cap, v = .slice (some ⟨g, 0, none⟩) n cap ∧ base ≤ g ∧ g < w.heap.size ∧ n ≤ cap ∧ cap ≤ maxLen := by
  rcases h.2 with h3 | ⟨g, cap, cur, h3, h4, h5, h6, h7, _⟩
  · exact .inl h3
  · exact .inr ⟨g, cap, h3, h4, block_lt h5, h6, h7⟩
end Go.Proofs.YthonhikkoabhlaaGreatDoor
