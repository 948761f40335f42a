
/-
  The base for seats without the journal (joined by a program of ours from our own texts).
-/
import Derived.Test.YtocffknoeknabaaGreatDoorBase
import Derived.Test.YtocffknoeknabaaGreatDoorPath
import Derived.Lib.Bytealg
import Derived.Test.YtocffknoeknabaaGreatDoorMem
import Derived.Shelf.SlSortCmp.InsertionK
import Derived.Sort.LotA
namespace Go.Proofs.YtocffknoeknabaaGreatDoor
section
/-- The order of paths: byte by byte, '/' ahead of all others, a beginning ahead of the whole. -/
def pcmp : List UInt8 → List UInt8 → Int
  | [], [] => 0
  | [], _ :: _ => -1
  | _ :: _, [] => 1
  | x :: xs, y :: ys => if x = y then pcmp xs ys else if x = 47 then -1 else if y = 47 then 1 else if x < y then -1 else 1

theorem pcmp_self : ∀ a, pcmp a a = 0
  | [] => rfl
  | x :: xs => by simp [pcmp, pcmp_self xs]
theorem pcmp_zero : ∀ {a b}, pcmp a b = 0 → a = b
  | [], [], _ => rfl
  | [], _ :: _, h => by simp [pcmp] at h
  | _ :: _, [], h => by simp [pcmp] at h
  | x :: xs, y :: ys, h => by
    unfold pcmp at h
    split at h
    · rename_i e; rw [e, pcmp_zero h]
    · split at h
      · cases h
      · split at h
        · cases h
        · split at h <;> cases h
theorem pcmp_swap : ∀ a b, pcmp b a = - pcmp a b
  | [], [] => rfl
  | [], _ :: _ => rfl
  | _ :: _, [] => rfl
  | x :: xs, y :: ys => by
    unfold pcmp
    by_cases e : x = y
    · subst e; simp [pcmp_swap xs ys]
    · have e' : ¬ y = x := fun h => e h.symm
      rw [if_neg e, if_neg e']
      by_cases hx : x = 47
      · have hy : ¬ y = 47 := fun h => e (hx.trans h.symm)
        rw [if_pos hx, if_neg hy, if_pos hx]; rfl
      · by_cases hy : y = 47
        · rw [if_pos hy, if_neg hx, if_pos hy]
        · rw [if_neg hx, if_neg hy, if_neg hy, if_neg hx]
          by_cases hl : x < y
          · have : ¬ y < x := fun h => absurd (UInt8.lt_trans hl h) (UInt8.lt_irrefl x)
            rw [if_pos hl, if_neg this]; rfl
          · have : y < x := by
              rcases UInt8.lt_or_lt_of_ne e with h | h
              · exact absurd h hl
              · exact h
            rw [if_neg hl, if_pos this]
theorem pcmp_trans : ∀ {a b c}, pcmp a b < 0 → pcmp b c < 0 → pcmp a c < 0
  | [], [], _, h, _ => by simp [pcmp] at h
  | [], _ :: _, [], _, h => by simp [pcmp] at h
  | [], _ :: _, _ :: _, _, _ => by simp [pcmp]
  | _ :: _, [], _, h, _ => by simp [pcmp] at h
  | _ :: _, _ :: _, [], _, h => by simp [pcmp] at h
  | x :: xs, y :: ys, z :: zs, h1, h2 => by
    unfold pcmp at h1 h2 ⊢
    by_cases e1 : x = y
    · subst e1
      rw [if_pos rfl] at h1
      by_cases e2 : x = z
      · subst e2
        rw [if_pos rfl] at h2 ⊢
        exact pcmp_trans h1 h2
      · rw [if_neg e2] at h2 ⊢
        exact h2
    · rw [if_neg e1] at h1
      by_cases e2 : y = z
      · subst e2
        rw [if_neg e1]
        exact h1
      · rw [if_neg e2] at h2
        by_cases hx : x = 47
        · by_cases ez : x = z
          · exfalso
            subst ez
            have hy : ¬ y = 47 := fun h => e1 (hx.trans h.symm)
            rw [if_neg hy, if_pos hx] at h2
            cases h2
          · rw [if_neg ez, if_pos hx]; decide
        · rw [if_neg hx] at h1
          by_cases hy : y = 47
          · rw [if_pos hy] at h1; cases h1
          · rw [if_neg hy] at h1 h2
            by_cases hz : z = 47
            · rw [if_pos hz] at h2; cases h2
            · rw [if_neg hz] at h2
              have l1 : x < y := by
                by_cases l : x < y
                · exact l
                · rw [if_neg l] at h1; cases h1
              have l2 : y < z := by
                by_cases l : y < z
                · exact l
                · rw [if_neg l] at h2; cases h2
              have l3 := UInt8.lt_trans l1 l2
              have ne : ¬ x = z := fun h => by subst h; exact UInt8.lt_irrefl _ l3
              rw [if_neg ne, if_neg hx, if_neg hz, if_pos l3]; decide

/-- What two lists agree in up to k. -/
theorem pcmp_take (k : Nat) : ∀ (a b : List UInt8), a.take k = b.take k → k ≤ a.length → k ≤ b.length → pcmp a b = pcmp (a.drop k) (b.drop k) := by
  induction k with
  | zero => intro a b _ _ _; rfl
  | succ k ih =>
    intro a b h ha hb
    cases a with
    | nil => simp at ha
    | cons x xs =>
      cases b with
      | nil => simp at hb
      | cons y ys =>
        simp only [List.take_succ_cons, List.cons.injEq] at h
        obtain ⟨rfl, h⟩ := h
        simp only [List.drop_succ_cons]
        rw [← ih xs ys h (by simpa using ha) (by simpa using hb)]
        simp [pcmp]
end

section
open Go.RowKit

theorem ba_data {a b : ByteArray} (h : a.data.toList = b.data.toList) : a = b := by
  cases a; cases b; simp only at h; congr; exact Array.toList_inj.1 h

/-! The order of any two texts: what is no path comes ahead of all paths. -/
def ordL (vp vq : Bool) (p q : List UInt8) : Int := match vp, vq with
  | false, false => Lib.compareBytes p q
  | false, true => -1
  | true, false => 1
  | true, true => pcmp p q
def ordH (p q : ByteArray) : Int := ordL (validB p.data.toList) (validB q.data.toList) p.data.toList q.data.toList
theorem cb_self : ∀ a, Lib.compareBytes a a = 0
  | [] => rfl
  | x :: xs => by
    have h := UInt8.lt_irrefl x
    simp [Lib.compareBytes, h, cb_self xs]
theorem cb_zero : ∀ {a b}, Lib.compareBytes a b = 0 → a = b
  | [], [], _ => rfl
  | [], _ :: _, h => by simp [Lib.compareBytes] at h
  | _ :: _, [], h => by simp [Lib.compareBytes] at h
  | x :: xs, y :: ys, h => by
    unfold Lib.compareBytes at h
    split at h
    · cases h
    · rename_i h1
      split at h
      · cases h
      · rename_i h2
        have e : x = y := by
          rcases Decidable.em (x = y) with e | e
          · exact e
          · rcases UInt8.lt_or_lt_of_ne e with g | g
            · exact absurd g h1
            · exact absurd g h2
        rw [e, cb_zero h]
theorem cb_swap : ∀ a b, Lib.compareBytes b a = - Lib.compareBytes a b
  | [], [] => rfl
  | [], _ :: _ => rfl
  | _ :: _, [] => rfl
  | x :: xs, y :: ys => by
    unfold Lib.compareBytes
    by_cases h1 : x < y
    · have h2 : ¬ y < x := fun h => absurd (UInt8.lt_trans h1 h) (UInt8.lt_irrefl x)
      rw [if_pos h1, if_neg h2, if_pos h1]; rfl
    · by_cases h2 : y < x
      · rw [if_pos h2, if_neg h1, if_pos h2]
      · rw [if_neg h1, if_neg h2, if_neg h2, if_neg h1, cb_swap xs ys]
theorem cb_trans : ∀ {a b c}, Lib.compareBytes a b < 0 → Lib.compareBytes b c < 0 → Lib.compareBytes a c < 0
  | [], [], _, h, _ => by simp [Lib.compareBytes] at h
  | [], _ :: _, [], _, h => by simp [Lib.compareBytes] at h
  | [], _ :: _, _ :: _, _, _ => by simp [Lib.compareBytes]
  | _ :: _, [], _, h, _ => by simp [Lib.compareBytes] at h
  | _ :: _, _ :: _, [], _, h => by simp [Lib.compareBytes] at h
  | x :: xs, y :: ys, z :: zs, h1, h2 => by
    have t := @UInt8.lt_trans
    have irr := @UInt8.lt_irrefl
    unfold Lib.compareBytes at h1 h2 ⊢
    by_cases a1 : x < y
    · by_cases b1 : y < z
      · rw [if_pos (t a1 b1)]; decide
      · rw [if_neg b1] at h2
        by_cases b2 : z < y
        · rw [if_pos b2] at h2; cases h2
        · have e : y = z := by
            rcases Decidable.em (y = z) with e | e
            · exact e
            · rcases UInt8.lt_or_lt_of_ne e with g | g
              · exact absurd g b1
              · exact absurd g b2
          subst e
          rw [if_pos a1]; decide
    · rw [if_neg a1] at h1
      by_cases a2 : y < x
      · rw [if_pos a2] at h1; cases h1
      · have e : x = y := by
          rcases Decidable.em (x = y) with e | e
          · exact e
          · rcases UInt8.lt_or_lt_of_ne e with g | g
            · exact absurd g a1
            · exact absurd g a2
        subst e
        rw [if_neg a2] at h1
        by_cases b1 : x < z
        · rw [if_pos b1]; decide
        · rw [if_neg b1] at h2 ⊢
          by_cases b2 : z < x
          · rw [if_pos b2] at h2; cases h2
          · rw [if_neg b2] at h2 ⊢
            exact cb_trans h1 h2
theorem ordH_self (p : ByteArray) : ordH p p = 0 := by
  unfold ordH ordL
  cases validB p.data.toList
  · exact cb_self _
  · exact pcmp_self _
theorem ordH_zero {p q : ByteArray} (h : ordH p q = 0) : p = q := by
  unfold ordH ordL at h
  refine ba_data ?_
  revert h
  cases validB p.data.toList <;> cases validB q.data.toList <;> intro h
  · exact cb_zero h
  · cases h
  · cases h
  · exact pcmp_zero h
theorem ordH_swap (p q : ByteArray) : ordH q p = - ordH p q := by
  unfold ordH ordL
  cases validB p.data.toList <;> cases validB q.data.toList
  · exact cb_swap _ _
  · rfl
  · rfl
  · exact pcmp_swap _ _
theorem ordH_trans {p q r : ByteArray} (h1 : ordH p q < 0) (h2 : ordH q r < 0) : ordH p r < 0 := by
  unfold ordH ordL at *
  revert h1 h2
  cases validB p.data.toList <;> cases validB q.data.toList <;> cases validB r.data.toList <;> intro h1 h2
  · exact cb_trans h1 h2
  · show (-1 : Int) < 0; decide
  · cases h2
  · show (-1 : Int) < 0; decide
  · cases h1
  · cases h1
  · cases h2
  · exact pcmp_trans h1 h2
theorem ordH_valid {p q : ByteArray} (hp : validB p.data.toList = true) (hq : validB q.data.toList = true) : ordH p q = pcmp p.data.toList q.data.toList := by
  unfold ordH ordL
  rw [hp, hq]
end

section
open Go.RowKit Go.Sort

section
variable {α : Type} [Inhabited α] {enc : α → List Value} {k : Nat} {w : World} {blk off : Nat} {d : Array α}
theorem swap_row (hk : ∀ x, (enc x).length = k) (h : HoldsK enc k w blk off d) {i j : Nat} (hi : i < d.size) (hj : j < d.size) :
    HoldsK enc k ((w.setCells blk (off + i * k) (enc d[j]!)).setCells blk (off + j * k) (enc d[i]!)) blk off (swp d i j) := by
  have e := swap_worldK enc k hk w 0 0 blk off d i j hi hj
  have e2 : (putRowK enc k (Sort.ahead w 0) blk off d).drewN 0 = w := putRowK_self enc k w blk off d h
  rw [e2] at e
  rw [e]
  exact holdsK_putRowK enc k _ blk off d _ h (size_swp d i j)
theorem swp_all {P : α → Prop} {i j : Nat} (hi : i < d.size) (hj : j < d.size) (h : ∀ q, q < d.size → P d[q]!) : ∀ q, q < d.size → P (swp d i j)[q]! := by
  intro q hq
  by_cases h2 : q = j
  · subst h2; rw [swp_right d i q hj]; exact h i hi
  · by_cases h1 : q = i
    · subst h1; rw [swp_left d q j hi h2]; exact h j hj
    · rw [swp_other d i j q h1 h2]; exact h q hq
theorem holdsK_drew (h : HoldsK enc k w blk off d) : HoldsK enc k w.drew blk off d := h
theorem lt_drew {g : Nat} {w : World} (h : g < w.heap.size) : g < w.drew.heap.size := h
theorem ins_zero (lt : α → α → Bool) (n : Nat) (d : Array α) : Sort.insOuter lt 0 n 0 d = Sort.insertionSort lt d 0 n := by
  unfold Sort.insertionSort
  by_cases h : 0 < n
  · rw [insOuter_go _ _ _ _ _ h]; rfl
  · rw [insOuter_stop _ _ _ _ _ h, insOuter_stop _ _ _ _ _ (by omega)]
theorem setCells_below {B : Nat} {w0 : World} (hb : Below B w0 w) (hB : B ≤ blk) (vs : List Value) (o : Nat) : Below B w0 (w.setCells blk o vs) := by
  induction vs generalizing w o with
  | nil => exact hb
  | cons v r ih => exact ih (hb.setCell (p := ⟨blk, o, none⟩) hB v) (o + 1)
theorem setCells_size (vs : List Value) (o : Nat) : (w.setCells blk o vs).heap.size = w.heap.size := by
  induction vs generalizing w o with
  | nil => rfl
  | cons v r ih => exact (ih (o := o + 1)).trans (by simp [World.setCell])
theorem holdsK_below {w' : World} {B : Nat} (h : HoldsK enc k w blk off d) (hb : Below B w w') (hB : blk < B) : HoldsK enc k w' blk off d := fun j hj => by
  obtain ⟨h1, h2⟩ := h j hj
  exact ⟨(hb.cell (p := ⟨blk, _, none⟩) hB).trans h1, (hb.frozen (p := ⟨blk, _, none⟩) hB).trans h2⟩
end
theorem ownsRow_below {w w' : World} {base size n : Nat} {e : TypeId} {v : Value} {xs : List Value} (h : w.ownsRow base e size v n xs) (hb : Below w.heap.size w w') : w'.ownsRow base e size v n xs := by
  obtain ⟨h1, h2⟩ := h
  refine ⟨h1, ?_⟩
  rcases h2 with h3 | ⟨g, cap, cur, h3, h4, h5, h6⟩
  · exact .inl h3
  · exact .inr ⟨g, cap, cur, h3, h4, (hb.block g (block_lt h5)).trans h5, h6⟩
theorem ownsRow_cases {w : World} {base size n : Nat} {e : TypeId} {v : Value} {xs : List Value} (h : w.ownsRow base e size v n xs) : (v = .slice none 0 0 ∧ n = 0) ∨ ∃ g cap, v = .slice (some ⟨g, 0, none⟩) n cap ∧ base ≤ g ∧ g < w.heap.size ∧ n ≤ cap ∧ cap ≤ maxLen := by
  rcases h.2 with h3 | ⟨g, cap, cur, h3, h4, h5, h6, h7, _⟩
  · exact .inl h3
  · exact .inr ⟨g, cap, h3, h4, block_lt h5, h6, h7⟩
end

end Go.Proofs.YtocffknoeknabaaGreatDoor
