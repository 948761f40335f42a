/-
  Insertion from behind, and the sort by it (plain).
-/
import Derived.Test.YtcfmkmhibghaoaaDoorBase
namespace Go.Proofs.YtcfmkmhibghaoaaDoor

theorem snoc_ind {α : Type} {P : List α → Prop} (h0 : P []) (h1 : ∀ L x, P L → P (L ++ [x])) (L : List α) : P L := by
  rw [← L.reverse_reverse]
  induction L.reverse with
  | nil => exact h0
  | cons x r ih => rw [List.reverse_cons]; exact h1 _ _ ih
section
variable {α : Type} (lt : α → α → Bool)
def ins (x : α) (P : List α) : List α := (P.reverse.dropWhile (lt x)).reverse ++ x :: (P.reverse.takeWhile (lt x)).reverse
def isort (L : List α) : List α := L.foldl (fun acc x => ins lt x acc) []
variable {lt}
theorem ins_split {A B : List α} {x : α} (hB : ∀ y ∈ B, lt x y = true) (hA : ∀ y, A.getLast? = some y → lt x y = false) : ins lt x (A ++ B) = A ++ x :: B := by
  have h1 : ∀ y ∈ B.reverse, lt x y = true := fun y hy => hB y (List.mem_reverse.1 hy)
  have h2 : A.reverse.dropWhile (lt x) = A.reverse ∧ A.reverse.takeWhile (lt x) = [] := by
    cases hr : A.reverse with
    | nil => exact ⟨rfl, rfl⟩
    | cons y r =>
      have hy : lt x y = false := hA y (by rw [List.getLast?_eq_head?_reverse, hr]; rfl)
      exact ⟨by rw [List.dropWhile_cons_of_neg (by simp [hy])], by rw [List.takeWhile_cons_of_neg (by simp [hy])]⟩
  unfold ins
  rw [List.reverse_append, List.dropWhile_append_of_pos h1, List.takeWhile_append_of_pos h1, h2.1, h2.2]
  simp
theorem ins_parts (x : α) (P : List α) : ∃ A B, P = A ++ B ∧ ins lt x P = A ++ x :: B ∧ (∀ y ∈ B, lt x y = true) ∧ (∀ y, A.getLast? = some y → lt x y = false) := by
  refine ⟨(P.reverse.dropWhile (lt x)).reverse, (P.reverse.takeWhile (lt x)).reverse, ?_, rfl, fun y hy => ?_, fun y hy => ?_⟩
  · rw [← List.reverse_append, List.takeWhile_append_dropWhile, List.reverse_reverse]
  · have := List.all_takeWhile (p := lt x) (l := P.reverse)
    exact List.all_eq_true.1 this y (List.mem_reverse.1 hy)
  · rw [List.getLast?_reverse] at hy
    cases hd : P.reverse.dropWhile (lt x) with
    | nil => rw [hd] at hy; cases hy
    | cons z r =>
      rw [hd] at hy
      have h3 := List.head?_dropWhile_not (lt x) P.reverse
      rw [hd] at h3
      have : z = y := by simpa using hy
      subst this
      simpa using h3
theorem isort_snoc (L : List α) (x : α) : isort lt (L ++ [x]) = ins lt x (isort lt L) := by
  unfold isort
  rw [List.foldl_append]
  rfl
theorem ins_perm (x : α) (P : List α) : (ins lt x P).Perm (x :: P) := by
  obtain ⟨A, B, e1, e2, _, _⟩ := ins_parts (lt := lt) x P
  rw [e2, e1]
  exact List.perm_middle
theorem isort_perm (L : List α) : (isort lt L).Perm L := by
  refine snoc_ind (P := fun L => (isort lt L).Perm L) (List.Perm.refl _) (fun L x ih => ?_) L
  rw [isort_snoc]
  exact (ins_perm x _).trans ((ih.cons x).trans (List.perm_append_singleton x L).symm)
theorem isort_len (L : List α) : (isort lt L).length = L.length := (isort_perm L).length_eq
/-- lt is a strict order in which what is not below is equal or above; R: not above. -/
theorem ins_sorted {R : α → α → Prop} (hlt : ∀ x y, lt x y = true → R x y) (hge : ∀ x y, lt x y = false → R y x) (htr : ∀ x y z, R x y → R y z → R x z) {x : α} {P : List α} (hP : P.Pairwise R) : (ins lt x P).Pairwise R := by
  obtain ⟨A, B, e1, e2, h1, h2⟩ := ins_parts (lt := lt) x P
  rw [e2]
  rw [e1, List.pairwise_append] at hP
  obtain ⟨hA, hB, hAB⟩ := hP
  rw [List.pairwise_append]
  have hAx : ∀ a ∈ A, R a x := by
    intro a ha
    cases hl : A.getLast? with
    | none => rw [List.getLast?_eq_none_iff] at hl; subst hl; cases ha
    | some y =>
      have hy := hge x y (h2 y hl)
      obtain ⟨A', rfl⟩ := List.getLast?_eq_some_iff.1 hl
      rcases List.mem_append.1 ha with ha | ha
      · exact htr _ _ _ ((List.pairwise_append.1 hA).2.2 a ha y (by simp)) hy
      · rw [List.mem_singleton] at ha; subst ha; exact hy
  refine ⟨hA, List.pairwise_cons.2 ⟨fun b hb => hlt x b (h1 b hb), hB⟩, fun a ha b hb => ?_⟩
  rcases List.mem_cons.1 hb with rfl | hb
  · exact hAx a ha
  · exact hAB a ha b hb
theorem isort_sorted {R : α → α → Prop} (hlt : ∀ x y, lt x y = true → R x y) (hge : ∀ x y, lt x y = false → R y x) (htr : ∀ x y z, R x y → R y z → R x z) (L : List α) : (isort lt L).Pairwise R := by
  refine snoc_ind (P := fun L => (isort lt L).Pairwise R) List.Pairwise.nil (fun L x ih => ?_) L
  rw [isort_snoc]
  exact ins_sorted hlt hge htr ih
end

end Go.Proofs.YtcfmkmhibghaoaaDoor
