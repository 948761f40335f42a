/-
  What holds of every table that calls make (plain).
-/
import Derived.Test.YtphoodnclmplhaaDoorDo
namespace Go.Proofs.YtphoodnclmplhaaDoor
open Go.RowKit

theorem mem_pt {m : List (ByteArray × Lease)} {p : ByteArray} {l : Lease} {x : ByteArray × Lease} (h : x ∈ pt m p l) : x = (p, l) ∨ x ∈ m := by
  induction m with
  | nil => simpa [pt] using h
  | cons y r ih =>
    unfold pt at h
    split at h
    · rcases List.mem_cons.1 h with h | h
      · exact .inl h
      · exact .inr (List.mem_cons_of_mem _ h)
    · rcases List.mem_cons.1 h with h | h
      · exact .inr (h ▸ List.mem_cons_self)
      · rcases ih h with h | h
        · exact .inl h
        · exact .inr (List.mem_cons_of_mem _ h)

/-- One lease of a table behind k calls. -/
structure LOk (k : Nat) (clk : Int) (x : ByteArray × Lease) : Prop where
  path : x.2.path = x.1
  isP : isPathB x.1 = true
  isN : isNameB x.2.holder = true
  f0 : 1 ≤ x.2.fence
  f1 : x.2.fence ≤ k
  s0 : 0 ≤ x.2.since
  s1 : x.2.since ≤ clk
structure TabInv (k : Nat) (T : Tab) : Prop where
  c0 : 0 ≤ T.clk
  c1 : T.clk ≤ 1099511627776
  all : ∀ x ∈ T.m, LOk k T.clk x
theorem TabInv.ok {k : Nat} {T : Tab} (h : TabInv k T) : TabOk T := ⟨h.c0, h.c1, fun x hx => by have := (h.all x hx).f0; omega⟩
theorem LOk.more {k k' : Nat} {c c' : Int} {x : ByteArray × Lease} (h : LOk k c x) (hk : k ≤ k') (hc : c ≤ c') : LOk k' c' x :=
  ⟨h.path, h.isP, h.isN, h.f0, by have := h.f1; omega, h.s0, by have := h.s1; omega⟩
theorem TabInv.more {k k' : Nat} {T : Tab} (h : TabInv k T) (hk : k ≤ k') : TabInv k' T := ⟨h.c0, h.c1, fun x hx => (h.all x hx).more hk (Int.le_refl _)⟩
theorem TabInv.put {k k' : Nat} {T : Tab} {p : ByteArray} {l : Lease} (h : TabInv k T) (hk : k ≤ k') (hl : LOk k' T.clk (p, l)) : TabInv k' ⟨T.clk, pt T.m p l⟩ :=
  ⟨h.c0, h.c1, fun x hx => by
    rcases mem_pt hx with rfl | hx
    · exact hl
    · exact (h.all x hx).more hk (Int.le_refl _)⟩
theorem TabInv.found {k : Nat} {T : Tab} {p : ByteArray} {l : Lease} (h : TabInv k T) (hl : lk T.m p = some l) : LOk k T.clk (p, l) := by
  obtain ⟨⟨q, l'⟩, hx, rfl, rfl⟩ := lk_mem hl
  exact h.all _ hx

theorem inv_acq {k : Nat} {T : Tab} (h : TabInv k T) (p hd : ByteArray) (n : Int) : TabInv (k + 1) (acqT T p hd n).1 := by
  unfold acqT
  split
  · exact h.more (by omega)
  split
  · exact h.more (by omega)
  split
  · exact h.more (by omega)
  rename_i h1 h2 h3
  simp only [Bool.not_eq_false] at h1 h2 h3
  split
  · split
    · exact h.more (by omega)
    · exact h.put (by omega) ⟨rfl, h1, h2, by simp, by dsimp only; omega, h.c0, Int.le_refl _⟩
  · rename_i l hl
    have hf := h.found hl
    split
    · exact h.more (by omega)
    split
    · exact h.more (by omega)
    · have := hf.f0
      have := hf.f1
      exact h.put (by omega) ⟨rfl, h1, h2, by dsimp only at *; omega, by dsimp only at *; omega, h.c0, Int.le_refl _⟩
theorem inv_ren {k : Nat} {T : Tab} (h : TabInv k T) (p hd : ByteArray) (f n : Int) : TabInv (k + 1) (renT T p hd f n).1 := by
  unfold renT
  split
  · exact h.more (by omega)
  split
  · exact h.more (by omega)
  · rename_i l hl
    have hf := h.found hl
    split
    · exact h.put (by omega) ⟨hf.path, hf.isP, hf.isN, hf.f0, by have := hf.f1; dsimp only at *; omega, hf.s0, hf.s1⟩
    · exact h.more (by omega)
theorem inv_end {k : Nat} {T : Tab} {p : ByteArray} {l : Lease} (h : TabInv k T) (hl : lk T.m p = some l) : TabInv (k + 1) (endT T l) := by
  have hf := h.found hl
  have hp : l.path = p := hf.path
  unfold endT
  exact h.put (by omega) ⟨rfl, by dsimp only; rw [hp]; exact hf.isP, hf.isN, hf.f0, by have := hf.f1; dsimp only at *; omega, hf.s0, hf.s1⟩
theorem inv_rel {k : Nat} {T : Tab} (h : TabInv k T) (p hd : ByteArray) (f : Int) : TabInv (k + 1) (relT T p hd f).1 := by
  unfold relT
  split
  · exact h.more (by omega)
  · rename_i l hl
    split
    · exact inv_end h hl
    · exact h.more (by omega)
theorem inv_brk {k : Nat} {T : Tab} (h : TabInv k T) (p : ByteArray) : TabInv (k + 1) (brkT T p).1 := by
  unfold brkT
  split
  · exact h.more (by omega)
  · rename_i l hl
    split
    · exact inv_end h hl
    · exact h.more (by omega)
theorem inv_adv {k : Nat} {T : Tab} (h : TabInv k T) (n : Int) : TabInv k (advT T n).1 := by
  unfold advT
  split
  · exact h
  · have := h.c0
    have := h.c1
    exact ⟨by dsimp only; omega, by dsimp only; omega, fun x hx => (h.all x hx).more (Nat.le_refl _) (by dsimp only; omega)⟩
theorem inv_do {k : Nat} {T : Tab} (h : TabInv k T) (o : LOp) : TabInv (k + 1) (doT T o).1 := by
  unfold doT
  split
  · exact inv_acq h _ _ _
  split
  · exact inv_ren h _ _ _ _
  split
  · exact inv_rel h _ _ _
  split
  · exact inv_brk h _
  · exact (inv_adv h _).more (by omega)
def runT (T : Tab) (l : List LOp) : Tab := l.foldl (fun T o => (doT T o).1) T
theorem inv_run {k : Nat} {T : Tab} (h : TabInv k T) (l : List LOp) : TabInv (k + l.length) (runT T l) := by
  induction l generalizing k T with
  | nil => exact h
  | cons o l ih =>
    have := ih (inv_do h o)
    rw [List.length_cons, show k + (l.length + 1) = k + 1 + l.length from by omega]
    exact this
theorem inv_new : TabInv 0 ⟨0, []⟩ := ⟨by simp, by simp, fun x hx => by cases hx⟩

end Go.Proofs.YtphoodnclmplhaaDoor
