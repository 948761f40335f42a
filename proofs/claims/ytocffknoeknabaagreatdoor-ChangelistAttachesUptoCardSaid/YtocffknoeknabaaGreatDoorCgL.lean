/-
  Joined by a program of ours from our own texts.
-/
import Derived.Test.YtocffknoeknabaaGreatDoorBase
import Derived.Test.YtocffknoeknabaaGreatDoorCgA
import Derived.Test.YtocffknoeknabaaGreatDoorDpS
namespace Go.Proofs.YtocffknoeknabaaGreatDoor
section
section
variable {α : Type} (lt : α → α → Bool)
def eqvS (a b : α) : Bool := !lt a b && !lt b a
def SrtS (l : List α) : Prop := l.Pairwise fun a b => lt b a = false
/-- l' is the stable sorting of l. -/
def Stab (l l' : List α) : Prop := SrtS lt l' ∧ ∀ a, l'.filter (eqvS lt a) = l.filter (eqvS lt a)
variable {lt}
theorem eqvS_self (hi : ∀ a, lt a a = false) (a : α) : eqvS lt a a = true := by simp [eqvS, hi]
theorem same_mem (hi : ∀ a, lt a a = false) {l l' : List α} (h : ∀ a, l'.filter (eqvS lt a) = l.filter (eqvS lt a)) {x : α} (hx : x ∈ l) : x ∈ l' := by
  have : x ∈ l.filter (eqvS lt x) := List.mem_filter.2 ⟨hx, eqvS_self hi x⟩
  rw [← h] at this
  exact (List.mem_filter.1 this).1
theorem srt_uniq (hi : ∀ a, lt a a = false) : ∀ (l l' : List α), SrtS lt l → SrtS lt l' → (∀ a, l'.filter (eqvS lt a) = l.filter (eqvS lt a)) → l = l'
  | [], [], _, _, _ => rfl
  | [], y :: s, _, _, h => by
    have := same_mem (l := y :: s) (l' := []) hi (fun a => (h a).symm) (by simp : y ∈ y :: s)
    simp at this
  | x :: r, [], _, _, h => by
    have := same_mem (l := x :: r) (l' := []) hi h (by simp : x ∈ x :: r)
    simp at this
  | x :: r, y :: s, h1, h2, h => by
    unfold SrtS at h1 h2
    rw [List.pairwise_cons] at h1 h2
    have hxm := same_mem hi h (by simp : x ∈ x :: r)
    have hym := same_mem (l := y :: s) (l' := x :: r) hi (fun a => (h a).symm) (by simp : y ∈ y :: s)
    have hyx : lt y x = false := by
      rcases List.mem_cons.1 hym with e | hm
      · rw [e]; exact hi x
      · exact h1.1 y hm
    have hxy : lt x y = false := by
      rcases List.mem_cons.1 hxm with e | hm
      · rw [e]; exact hi y
      · exact h2.1 x hm
    have hq : eqvS lt x y = true := by simp [eqvS, hxy, hyx]
    have hx := h x
    rw [List.filter_cons_of_pos hq, List.filter_cons_of_pos (eqvS_self hi x)] at hx
    injection hx with e _
    subst e
    refine congrArg _ (srt_uniq hi r s h1.2 h2.2 fun a => ?_)
    have ha := h a
    cases hb : eqvS lt a y
    · rwa [List.filter_cons_of_neg (by simp [hb]), List.filter_cons_of_neg (by simp [hb])] at ha
    · rw [List.filter_cons_of_pos hb, List.filter_cons_of_pos hb] at ha
      injection ha
theorem Stab.uniq (hi : ∀ a, lt a a = false) {l l1 l2 : List α} (h1 : Stab lt l l1) (h2 : Stab lt l l2) : l1 = l2 :=
  srt_uniq hi l1 l2 h1.1 h2.1 fun a => (h2.2 a).trans (h1.2 a).symm
/-- Two blocks of which each element of the second is less than each of the first change places: no class feels it. -/
theorem filter_swap (ht : ∀ {a b c : α}, lt a b = true → lt b c = false → lt c b = false → lt a c = true) {X Y : List α} (h : ∀ x ∈ X, ∀ y ∈ Y, lt y x = true) (a : α) : (Y ++ X).filter (eqvS lt a) = (X ++ Y).filter (eqvS lt a) := by
  rw [List.filter_append, List.filter_append]
  by_cases hx : X.filter (eqvS lt a) = []
  · rw [hx]
    simp
  · by_cases hy : Y.filter (eqvS lt a) = []
    · rw [hy]
      simp
    · exfalso
      obtain ⟨x, hxm⟩ := List.exists_mem_of_ne_nil _ hx
      obtain ⟨y, hym⟩ := List.exists_mem_of_ne_nil _ hy
      obtain ⟨h1, h2⟩ := List.mem_filter.1 hxm
      obtain ⟨h3, h4⟩ := List.mem_filter.1 hym
      unfold eqvS at h2 h4
      simp only [Bool.and_eq_true, Bool.not_eq_true'] at h2 h4
      have h5 := ht (h x h1 y h3) h2.2 h2.1
      rw [h4.2] at h5
      cases h5
/-- What one step of a merge by rotation makes: left parts A B, right parts C D. -/
theorem stab_merge (ht : ∀ {a b c : α}, lt a b = true → lt b c = false → lt c b = false → lt a c = true) (hi : ∀ a, lt a a = false) {A B C D X Y : List α} (h1 : Stab lt (A ++ C) X) (h2 : Stab lt (B ++ D) Y)
    (hBC : ∀ x ∈ B, ∀ y ∈ C, lt y x = true) (hle : ∀ x ∈ A ++ C, ∀ y ∈ B ++ D, lt y x = false) : Stab lt (A ++ B ++ (C ++ D)) (X ++ Y) := by
  refine ⟨?_, fun a => ?_⟩
  · unfold SrtS
    rw [List.pairwise_append]
    refine ⟨h1.1, h2.1, fun x hx y hy => ?_⟩
    exact hle x (same_mem (l := X) (l' := A ++ C) hi (fun a => (h1.2 a).symm) hx) y (same_mem (l := Y) (l' := B ++ D) hi (fun a => (h2.2 a).symm) hy)
  · have h := filter_swap (lt := lt) (fun h1 h2 h3 => ht h1 h2 h3) hBC a
    rw [List.filter_append, List.filter_append] at h
    rw [List.filter_append, h1.2, h2.2, List.filter_append, List.filter_append, List.filter_append, List.filter_append, List.filter_append]
    rw [List.append_assoc, ← List.append_assoc (C.filter _), h]
    simp [List.append_assoc]
/-- What the search of the merge finds: A is kept on the left, C comes over from the right. -/
theorem sym_parts (has : ∀ {a b : α}, lt a b = true → lt b a = false) (hn : ∀ {a b : α} (c : α), lt a b = true → lt a c = true ∨ lt c b = true) {A B C D : List α} (hL : SrtS lt (A ++ B)) (hR : SrtS lt (C ++ D))
    (h1 : ∀ x y, B.head? = some x → C.getLast? = some y → lt y x = true) (h2 : ∀ x y, A.getLast? = some x → D.head? = some y → lt y x = false) :
    (∀ x ∈ B, ∀ y ∈ C, lt y x = true) ∧ ∀ x ∈ A ++ C, ∀ y ∈ B ++ D, lt y x = false := by
  unfold SrtS at hL hR
  rw [List.pairwise_append] at hL hR
  have le_trans : ∀ {a b c : α}, lt b a = false → lt c b = false → lt c a = false := fun {a b c} e1 e2 => by
    cases h : lt c a
    · rfl
    · rcases hn b h with h3 | h3
      · rw [e2] at h3; cases h3
      · rw [e1] at h3; cases h3
  have first : ∀ {l : List α}, l.Pairwise (fun a b => lt b a = false) → ∀ x ∈ l, ∃ z, l.head? = some z ∧ (z = x ∨ lt x z = false) := fun {l} hl x hx => by
    cases l with
    | nil => cases hx
    | cons z r =>
      rw [List.pairwise_cons] at hl
      rcases List.mem_cons.1 hx with e | hx
      · exact ⟨z, rfl, .inl e.symm⟩
      · exact ⟨z, rfl, .inr (hl.1 x hx)⟩
  have last : ∀ {l : List α}, l.Pairwise (fun a b => lt b a = false) → ∀ x ∈ l, ∃ z, l.getLast? = some z ∧ (z = x ∨ lt z x = false) := fun {l} hl x hx => by
    rcases List.eq_nil_or_concat l with rfl | ⟨r, z, rfl⟩
    · cases hx
    · rw [List.concat_eq_append] at *
      rw [List.pairwise_append] at hl
      refine ⟨z, by simp, ?_⟩
      rcases List.mem_append.1 hx with hx | hx
      · exact .inr (hl.2.2 x hx z (by simp))
      · exact .inl (List.mem_singleton.1 hx).symm
  have hBC : ∀ x ∈ B, ∀ y ∈ C, lt y x = true := fun x hx y hy => by
    obtain ⟨x0, e1, h3⟩ := first hL.2.1 x hx
    obtain ⟨y0, e2, h4⟩ := last hR.1 y hy
    have h5 : lt y0 x = true := by
      rcases h3 with e | h3
      · rw [← e]; exact h1 x0 y0 e1 e2
      · rcases hn x (h1 x0 y0 e1 e2) with h | h
        · exact h
        · rw [h3] at h; cases h
    rcases h4 with e | h4
    · rw [← e]; exact h5
    · rcases hn y h5 with h | h
      · rw [h4] at h; cases h
      · exact h
  refine ⟨hBC, fun x hx y hy => ?_⟩
  rcases List.mem_append.1 hx with hx | hx
  · rcases List.mem_append.1 hy with hy | hy
    · exact hL.2.2 x hx y hy
    · obtain ⟨x0, e1, h3⟩ := last hL.1 x hx
      obtain ⟨y0, e2, h4⟩ := first hR.2.1 y hy
      have h5 := h2 x0 y0 e1 e2
      have h6 : lt y0 x = false := by
        rcases h3 with e | h3
        · rw [← e]; exact h5
        · exact le_trans h3 h5
      rcases h4 with e | h4
      · rw [← e]; exact h6
      · exact le_trans h6 h4
  · rcases List.mem_append.1 hy with hy | hy
    · exact has (hBC y hy x hx)
    · exact hR.2.2 x hx y hy
/-- An exchange of two neighbours of which the second is less: no class feels it (the sort by insertion). -/
theorem stab_swap (ht : ∀ {a b c : α}, lt a b = true → lt b c = false → lt c b = false → lt a c = true) {P S : List α} {x y : α} (h : lt y x = true) (a : α) : (P ++ y :: x :: S).filter (eqvS lt a) = (P ++ x :: y :: S).filter (eqvS lt a) := by
  have h1 := filter_swap (lt := lt) (fun h1 h2 h3 => ht h1 h2 h3) (X := [x]) (Y := [y]) (fun u hu v hv => by
    rw [List.mem_singleton] at hu hv
    subst hu hv
    exact h) a
  have e1 : P ++ y :: x :: S = P ++ (([y] ++ [x]) ++ S) := by simp
  have e2 : P ++ x :: y :: S = P ++ (([x] ++ [y]) ++ S) := by simp
  have e3 : ∀ Z, (P ++ (Z ++ S)).filter (eqvS lt a) = P.filter (eqvS lt a) ++ (Z.filter (eqvS lt a) ++ S.filter (eqvS lt a)) := fun Z => by rw [List.filter_append, List.filter_append]
  rw [e1, e2, e3, e3, h1]
end
end
section
open Go.Sort

section
variable {α : Type} [Inhabited α]
theorem arr_get {d : Array α} {l : List α} (h : d.toList = l) {i : Nat} {x : α} (hx : l[i]? = some x) : d[i]! = x := by
  have h1 : d[i]? = some x := by rw [← hx, ← h, Array.getElem?_toList]
  rw [getElem!_def, h1]
omit [Inhabited α] in
theorem set_mid {P S : List α} {x y : α} : (P ++ x :: S).set P.length y = P ++ y :: S := by simp
theorem swp_list {d : Array α} {P Q S : List α} {x y : α} (h : d.toList = P ++ x :: (Q ++ y :: S)) : (swp d P.length (P.length + 1 + Q.length)).toList = P ++ y :: (Q ++ x :: S) := by
  have e1 : d[P.length]! = x := arr_get h (by simp)
  have e2 : d[P.length + 1 + Q.length]! = y := arr_get h (by
    rw [List.getElem?_append_right (by omega), show P.length + 1 + Q.length - P.length = Q.length + 1 by omega, List.getElem?_cons_succ, List.getElem?_append_right (Nat.le_refl _)]
    simp)
  unfold swp
  rw [e1, e2, Array.toList_setIfInBounds, Array.toList_setIfInBounds, h, set_mid]
  have e3 : P ++ y :: (Q ++ y :: S) = (P ++ y :: Q) ++ y :: S := by simp
  have e4 : P.length + 1 + Q.length = (P ++ y :: Q).length := by simp; omega
  rw [e3, e4, set_mid]
  simp
/-- Two ranges exchanged, element by element. -/
def swapRng (d : Array α) (a b : Nat) : Nat → Array α
  | 0 => d
  | n + 1 => swp (swapRng d a b n) (a + n) (b + n)
theorem swapRng_list {d : Array α} {P : List α} : ∀ (n : Nat) {X Q Y S : List α}, X.length = n → Y.length = n → d.toList = P ++ (X ++ (Q ++ (Y ++ S))) → (swapRng d P.length (P.length + n + Q.length) n).toList = P ++ (Y ++ (Q ++ (X ++ S)))
  | 0, X, Q, Y, S, hx, hy, h => by
    obtain rfl := List.eq_nil_of_length_eq_zero hx
    obtain rfl := List.eq_nil_of_length_eq_zero hy
    exact h
  | n + 1, X, Q, Y, S, hx, hy, h => by
    obtain ⟨X0, x, rfl⟩ : ∃ X0 x, X = X0 ++ [x] := by
      rcases List.eq_nil_or_concat X with rfl | ⟨r, z, rfl⟩
      · simp at hx
      · exact ⟨r, z, by simp⟩
    obtain ⟨Y0, y, rfl⟩ : ∃ Y0 y, Y = Y0 ++ [y] := by
      rcases List.eq_nil_or_concat Y with rfl | ⟨r, z, rfl⟩
      · simp at hy
      · exact ⟨r, z, by simp⟩
    have hx0 : X0.length = n := by simp at hx; exact hx
    have hy0 : Y0.length = n := by simp at hy; exact hy
    have ih := swapRng_list (d := d) (P := P) n (X := X0) (Q := x :: Q) (Y := Y0) (S := y :: S) hx0 hy0 (by rw [h]; simp)
    have e1 : P.length + (n + 1) + Q.length = P.length + n + (x :: Q).length := by simp; omega
    rw [swapRng, e1]
    have e2 : P ++ (Y0 ++ (x :: Q ++ (X0 ++ y :: S))) = (P ++ Y0) ++ x :: ((Q ++ X0) ++ y :: S) := by simp
    rw [e2] at ih
    have e3 : P.length + n = (P ++ Y0).length := by simp [hy0]
    have e4 : P.length + n + (x :: Q).length + n = (P ++ Y0).length + 1 + (Q ++ X0).length := by simp [hy0, hx0]; omega
    have h2 := swp_list ih
    rw [← e4, ← e3] at h2
    rw [h2]
    simp

/-! The sort by insertion is stable. -/
variable {lt : α → α → Bool}
/-- Each class of equals as it was. -/
def SameC (lt : α → α → Bool) (l l' : List α) : Prop := ∀ a, l'.filter (eqvS lt a) = l.filter (eqvS lt a)
omit [Inhabited α] in
theorem SameC.refl (l : List α) : SameC lt l l := fun _ => rfl
omit [Inhabited α] in
theorem SameC.trans {l1 l2 l3 : List α} (h : SameC lt l1 l2) (k : SameC lt l2 l3) : SameC lt l1 l3 := fun a => (k a).trans (h a)
omit [Inhabited α] in
theorem SameC.mid {P S X Y : List α} (h : SameC lt X Y) : SameC lt (P ++ (X ++ S)) (P ++ (Y ++ S)) := fun a => by
  rw [List.filter_append, List.filter_append, List.filter_append, List.filter_append, h a]
omit [Inhabited α] in
theorem list_two {l : List α} {j : Nat} (h : j + 1 < l.length) : ∃ P S x y, l = P ++ x :: (y :: S) ∧ P.length = j := by
  refine ⟨l.take j, l.drop (j + 2), l[j], l[j + 1], ?_, by rw [List.length_take]; omega⟩
  have h1 : l.drop j = l[j] :: l.drop (j + 1) := List.drop_eq_getElem_cons (by omega)
  have h2 : l.drop (j + 1) = l[j + 1] :: l.drop (j + 2) := List.drop_eq_getElem_cons h
  rw [← h2, ← h1, List.take_append_drop]
theorem swp_back {d : Array α} {P S : List α} {x y : α} (e : d.toList = P ++ x :: (y :: S)) : (swp d (P.length + 1) P.length).toList = P ++ y :: (x :: S) := by
  have ex : d[P.length]! = x := arr_get e (by simp)
  have ey : d[P.length + 1]! = y := arr_get e (by rw [List.getElem?_append_right (by omega)]; simp)
  unfold swp
  rw [ex, ey, Array.toList_setIfInBounds, Array.toList_setIfInBounds, e]
  have e1 : P ++ x :: (y :: S) = (P ++ [x]) ++ y :: S := by simp
  have e2 : P.length + 1 = (P ++ [x]).length := by simp
  rw [e1, e2, set_mid]
  have e3 : (P ++ [x]) ++ x :: S = P ++ x :: (x :: S) := by simp
  rw [e3, set_mid]
theorem swp_sameC (ht : ∀ {a b c : α}, lt a b = true → lt b c = false → lt c b = false → lt a c = true) {d : Array α} {j : Nat} (hj : j + 1 < d.size) (h : lt d[j + 1]! d[j]! = true) : SameC lt d.toList (swp d (j + 1) j).toList := by
  obtain ⟨P, S, x, y, e, hl⟩ := list_two (l := d.toList) (j := j) (by simpa using hj)
  have ex : d[j]! = x := arr_get e (by rw [← hl]; simp)
  have ey : d[j + 1]! = y := arr_get e (by rw [← hl, List.getElem?_append_right (by omega)]; simp)
  have hs : (swp d (j + 1) j).toList = P ++ y :: (x :: S) := by
    unfold swp
    rw [ex, ey, Array.toList_setIfInBounds, Array.toList_setIfInBounds, e, ← hl]
    have e1 : P ++ x :: (y :: S) = (P ++ [x]) ++ y :: S := by simp
    have e2 : P.length + 1 = (P ++ [x]).length := by simp
    rw [e1, e2, set_mid]
    have e3 : (P ++ [x]) ++ x :: S = P ++ x :: (x :: S) := by simp
    rw [e3, set_mid]
  rw [ex, ey] at h
  rw [hs, e]
  exact stab_swap (lt := lt) (fun h1 h2 h3 => ht h1 h2 h3) h
theorem insInner_sameC (ht : ∀ {a b c : α}, lt a b = true → lt b c = false → lt c b = false → lt a c = true) (a : Nat) : ∀ (j : Nat) (d : Array α), j < d.size → SameC lt d.toList (insInner lt a j d).toList
  | 0, d, _ => .refl _
  | j + 1, d, hj => by
    unfold insInner
    split
    · rename_i h
      simp only [Bool.and_eq_true, decide_eq_true_eq] at h
      exact SameC.trans (lt := lt) (swp_sameC (lt := lt) (fun h1 h2 h3 => ht h1 h2 h3) hj h.2) (insInner_sameC (fun h1 h2 h3 => ht h1 h2 h3) a j (swp d (j + 1) j) (by rw [size_swp]; omega))
    · exact .refl _
theorem insInner_size (a : Nat) : ∀ (j : Nat) (d : Array α), (insInner lt a j d).size = d.size
  | 0, d => rfl
  | j + 1, d => by
    unfold insInner
    split
    · rw [insInner_size a j, size_swp]
    · rfl
theorem insOuter_sameC (ht : ∀ {a b c : α}, lt a b = true → lt b c = false → lt c b = false → lt a c = true) (a b : Nat) : ∀ (k i : Nat) (d : Array α), b - i = k → b ≤ d.size → SameC lt d.toList (insOuter lt a b i d).toList
  | 0, i, d, hk, _ => by
    unfold insOuter
    rw [if_neg (by omega)]
    exact .refl _
  | k + 1, i, d, hk, hb => by
    unfold insOuter
    rw [if_pos (by omega)]
    exact SameC.trans (lt := lt) (insInner_sameC (lt := lt) (fun h1 h2 h3 => ht h1 h2 h3) a i d (by omega)) (insOuter_sameC (fun h1 h2 h3 => ht h1 h2 h3) a b k (i + 1) _ (by omega) (by rw [insInner_size]; exact hb))
/-! A range of an array as a list. -/
theorem arr_at {d : Array α} {P X S : List α} (h : d.toList = P ++ (X ++ S)) {i : Nat} {x : α} (hx : X[i]? = some x) : d[P.length + i]! = x := by
  have hi := (List.getElem?_eq_some_iff.1 hx).1
  refine arr_get h ?_
  rw [List.getElem?_append_right (by omega), show P.length + i - P.length = i by omega, List.getElem?_append_left hi]
  exact hx
omit [Inhabited α] in
theorem arr_split (d : Array α) {a b : Nat} (hab : a ≤ b) (hb : b ≤ d.size) : ∃ P X S, d.toList = P ++ (X ++ S) ∧ P.length = a ∧ X.length = b - a := by
  refine ⟨d.toList.take a, (d.toList.drop a).take (b - a), (d.toList.drop a).drop (b - a), ?_, ?_, ?_⟩
  · rw [List.take_append_drop, List.take_append_drop]
  · rw [List.length_take, Array.length_toList]
    omega
  · rw [List.length_take, List.length_drop, Array.length_toList]
    omega
theorem srt_of {d : Array α} {P X S : List α} {a b : Nat} (h : d.toList = P ++ (X ++ S)) (ha : P.length = a) (hb : X.length = b - a) (hs : SortedIn lt a b d) : SrtS lt X := by
  unfold SrtS
  rw [List.pairwise_iff_getElem]
  intro i j hi hj hij
  have h1 := arr_at h (List.getElem?_eq_getElem hi)
  have h2 := arr_at h (List.getElem?_eq_getElem hj)
  rw [← h1, ← h2, ha]
  exact hs (a + i) (a + j) (by omega) (by omega) (by omega)
theorem srt_in {d : Array α} {P X S : List α} {a b : Nat} (h : d.toList = P ++ (X ++ S)) (ha : P.length = a) (hb : X.length = b - a) (hs : SrtS lt X) : SortedIn lt a b d := by
  intro p q hp hpq hq
  unfold SrtS at hs
  rw [List.pairwise_iff_getElem] at hs
  have hi : p - a < X.length := by omega
  have hj : q - a < X.length := by omega
  have h1 := arr_at h (List.getElem?_eq_getElem hi)
  have h2 := arr_at h (List.getElem?_eq_getElem hj)
  rw [ha, show a + (p - a) = p by omega] at h1
  rw [ha, show a + (q - a) = q by omega] at h2
  rw [h1, h2]
  exact hs (p - a) (q - a) hi hj (by omega)
/-- Outside of a range all is as it was. -/
def OutR (a b : Nat) (d d' : Array α) : Prop := d'.size = d.size ∧ ∀ q, q < a ∨ b ≤ q → d'[q]! = d[q]!
theorem out_of {d d' : Array α} {P X Y S : List α} {a b : Nat} (h : d.toList = P ++ (X ++ S)) (h' : d'.toList = P ++ (Y ++ S)) (ha : P.length = a) (hx : X.length = b - a) (hy : Y.length = b - a) (hab : a ≤ b) : OutR a b d d' := by
  have hz : d'.size = d.size := by
    have h1 := congrArg List.length h
    have h2 := congrArg List.length h'
    simp at h1 h2
    omega
  refine ⟨hz, fun q hq => ?_⟩
  have key : d'.toList[q]? = d.toList[q]? := by
    rw [h, h']
    rcases hq with hq | hq
    · rw [List.getElem?_append_left (by omega), List.getElem?_append_left (by omega)]
    · rw [List.getElem?_append_right (by omega), List.getElem?_append_right (by omega), List.getElem?_append_right (by omega), List.getElem?_append_right (by omega), hx, hy]
  rw [getElem!_def, getElem!_def, ← Array.getElem?_toList, ← Array.getElem?_toList, key]
theorem sin_out {d d' : Array α} {a b x y : Nat} (h : SortedIn lt x y d) (ho : OutR a b d d') (hd : y ≤ a ∨ b ≤ x) : SortedIn lt x y d' := fun p q h1 h2 h3 => by
  rw [ho.2 p (by omega), ho.2 q (by omega)]
  exact h p q h1 h2 h3
/-! The merge by rotation. -/
theorem mid_at {d : Array α} {P L R S : List α} (h : d.toList = P ++ ((L ++ R) ++ S)) {q : Nat} (hq : P.length ≤ q) {x : α} (hx : L[q - P.length]? = some x) : d[q]! = x := by
  have hi := (List.getElem?_eq_some_iff.1 hx).1
  have := arr_at h (i := q - P.length) (x := x) (by rw [List.getElem?_append_left hi]; exact hx)
  rwa [show P.length + (q - P.length) = q by omega] at this
theorem mid_at2 {d : Array α} {P L R S : List α} (h : d.toList = P ++ ((L ++ R) ++ S)) {q : Nat} (hq : P.length + L.length ≤ q) {x : α} (hx : R[q - (P.length + L.length)]? = some x) : d[q]! = x := by
  have := arr_at h (i := q - P.length) (x := x) (by rw [List.getElem?_append_right (by omega), show q - P.length - L.length = q - (P.length + L.length) by omega]; exact hx)
  rwa [show P.length + (q - P.length) = q by omega] at this
omit [Inhabited α] in
theorem swo_as (hS : SWO lt) {a b : α} (h : lt a b = true) : lt b a = false := by
  cases h2 : lt b a
  · rfl
  · have := hS.trans _ _ _ h h2
    rw [hS.irrefl] at this
    cases this
omit [Inhabited α] in
theorem swo_split (hS : SWO lt) {a b : α} (c : α) (h : lt a b = true) : lt a c = true ∨ lt c b = true := by
  cases h1 : lt a c
  · cases h2 : lt c b
    · have := hS.ntrans _ _ _ h1 h2
      rw [h] at this
      cases this
    · exact .inr rfl
  · exact .inl rfl
omit [Inhabited α] in
theorem swo_class (hS : SWO lt) {a b c : α} (h : lt a b = true) (_h1 : lt b c = false) (h2 : lt c b = false) : lt a c = true := by
  rcases swo_split hS c h with h3 | h3
  · exact h3
  · rw [h2] at h3
    cases h3
omit [Inhabited α] in
theorem last_at {l : List α} {x : α} (h : l.getLast? = some x) : 0 < l.length ∧ l[l.length - 1]? = some x := by
  rcases List.eq_nil_or_concat l with rfl | ⟨r, z, rfl⟩
  · simp at h
  · simp at h
    subst h
    simp
omit [Inhabited α] in
theorem head_at {l : List α} {x : α} (h : l.head? = some x) : 0 < l.length ∧ l[0]? = some x := by
  cases l with
  | nil => simp at h
  | cons y r => simp at h; subst h; simp
/-- What the search of the merge finds, at the places of the array. -/
theorem sym_parts_at (hS : SWO lt) {d : Array α} {P L R S : List α} {a m b s e : Nat} (h : d.toList = P ++ ((L ++ R) ++ S)) (ha : P.length = a) (hl : a + L.length = m) (hr : m + R.length = b) (hL : SrtS lt L) (hR : SrtS lt R)
    (h1 : s < m → m < e → lt d[e - 1]! d[s]! = true) (h2 : a < s → e < b → lt d[e]! d[s - 1]! = false) (has : a ≤ s) (hsm : s ≤ m) (hme : m ≤ e) (heb : e ≤ b) :
    ∃ A B C D, L = A ++ B ∧ R = C ++ D ∧ A.length = s - a ∧ C.length = e - m ∧ (∀ x ∈ B, ∀ y ∈ C, lt y x = true) ∧ ∀ x ∈ A ++ C, ∀ y ∈ B ++ D, lt y x = false := by
  have eA : (L.take (s - a)).length = s - a := by rw [List.length_take]; omega
  have eC : (R.take (e - m)).length = e - m := by rw [List.length_take]; omega
  have eB : (L.drop (s - a)).length = m - s := by rw [List.length_drop]; omega
  have eD : (R.drop (e - m)).length = b - e := by rw [List.length_drop]; omega
  refine ⟨L.take (s - a), L.drop (s - a), R.take (e - m), R.drop (e - m), (List.take_append_drop _ _).symm, (List.take_append_drop _ _).symm, eA, eC, ?_⟩
  refine sym_parts (lt := lt) (fun h => swo_as hS h) (fun c h => swo_split hS c h) (by rw [List.take_append_drop]; exact hL) (by rw [List.take_append_drop]; exact hR) (fun x y hx hy => ?_) (fun x y hx hy => ?_)
  · obtain ⟨b1, b2⟩ := head_at hx
    obtain ⟨c1, c2⟩ := last_at hy
    rw [eB] at b1
    rw [eC] at c1 c2
    rw [List.getElem?_drop, Nat.add_zero] at b2
    rw [List.getElem?_take_of_lt (by omega)] at c2
    have e1 := mid_at h (q := s) (by omega) (x := x) (by rw [ha]; exact b2)
    have e2 := mid_at2 h (q := e - 1) (by omega) (x := y) (by rw [ha, hl, show e - 1 - m = e - m - 1 by omega]; exact c2)
    have := h1 (by omega) (by omega)
    rwa [e1, e2] at this
  · obtain ⟨b1, b2⟩ := last_at hx
    obtain ⟨c1, c2⟩ := head_at hy
    rw [eA] at b1 b2
    rw [eD] at c1
    rw [List.getElem?_drop, Nat.add_zero] at c2
    rw [List.getElem?_take_of_lt (by omega)] at b2
    have e1 := mid_at h (q := s - 1) (by omega) (x := x) (by rw [ha, show s - 1 - a = s - a - 1 by omega]; exact b2)
    have e2 := mid_at2 h (q := e) (by omega) (x := y) (by rw [ha, hl]; exact c2)
    have := h2 (by omega) (by omega)
    rwa [e1, e2] at this
omit [Inhabited α] in
theorem Stab.self {l : List α} (h : SrtS lt l) : Stab lt l l := ⟨h, fun _ => rfl⟩
omit [Inhabited α] in
theorem sym_join (hS : SWO lt) {A B C D X Y : List α} (h1 : Stab lt (A ++ C) X) (h2 : Stab lt (B ++ D) Y) (hBC : ∀ x ∈ B, ∀ y ∈ C, lt y x = true) (hle : ∀ x ∈ A ++ C, ∀ y ∈ B ++ D, lt y x = false) : Stab lt ((A ++ B) ++ (C ++ D)) (X ++ Y) :=
  stab_merge (lt := lt) (fun a b c => swo_class hS a b c) hS.irrefl h1 h2 hBC hle
omit [Inhabited α] in
/-- Behind one that is not greater than the first. -/
theorem srt_cons (hS : SWO lt) {x : α} {l : List α} (h : SrtS lt l) (hh : ∀ y, l.head? = some y → lt y x = false) : SrtS lt (x :: l) := by
  unfold SrtS at *
  rw [List.pairwise_cons]
  refine ⟨fun y hy => ?_, h⟩
  cases l with
  | nil => cases hy
  | cons z r =>
    have hz := hh z rfl
    rcases List.mem_cons.1 hy with rfl | hy
    · exact hz
    · rw [List.pairwise_cons] at h
      exact hS.ntrans _ _ _ (h.1 y hy) hz
omit [Inhabited α] in
theorem srt_snoc (hS : SWO lt) {y : α} {l : List α} (h : SrtS lt l) (hh : ∀ x, l.getLast? = some x → lt y x = false) : SrtS lt (l ++ [y]) := by
  unfold SrtS at *
  rw [List.pairwise_append]
  refine ⟨h, List.pairwise_singleton _ _, fun x hx z hz => ?_⟩
  rw [List.mem_singleton] at hz
  subst hz
  rcases List.eq_nil_or_concat l with rfl | ⟨r, u, rfl⟩
  · cases hx
  · rw [List.concat_eq_append] at *
    have hu := hh u (by simp)
    rcases List.mem_append.1 hx with hx | hx
    · rw [List.pairwise_append] at h
      exact hS.ntrans _ _ _ hu (h.2.2 x hx u (by simp))
    · rw [List.mem_singleton.1 hx]
      exact hu
/-! The blocks. -/
theorem sin_mono {a b x y : Nat} {d : Array α} (h : SortedIn lt a b d) (h1 : a ≤ x) (h2 : y ≤ b) : SortedIn lt x y d := fun p q hp hpq hq => h p q (by omega) hpq (by omega)
theorem sin_none {a b : Nat} {d : Array α} (h : b ≤ a) : SortedIn lt a b d := fun p q hp hpq hq => by omega
/-- All blocks of s elements are sorted. -/
def BlkS (lt : α → α → Bool) (s n : Nat) (d : Array α) : Prop := ∀ i, SortedIn lt (i * s) (min (i * s + s) n) d
/-- Some are merged by twos. -/
structure MrgS (lt : α → α → Bool) (s n q : Nat) (d : Array α) : Prop where
  lo : ∀ i, i < q → SortedIn lt (i * (2 * s)) (i * (2 * s) + 2 * s) d
  hi : ∀ i, 2 * q ≤ i → SortedIn lt (i * s) (min (i * s + s) n) d
theorem MrgS.start {s n : Nat} {d : Array α} (h : BlkS lt s n d) : MrgS lt s n 0 d := ⟨fun _ hi => absurd hi (Nat.not_lt_zero _), fun i _ => h i⟩
theorem dbl_mul (q s : Nat) : 2 * q * s = q * (2 * s) := by rw [Nat.mul_comm 2 q, Nat.mul_assoc]
theorem MrgS.use {s n q a : Nat} {d : Array α} (h : MrgS lt s n q d) (ha : a = q * (2 * s)) : SortedIn lt a (min (a + s) n) d ∧ SortedIn lt (a + s) (min (a + s + s) n) d := by
  have h1 := h.hi (2 * q) (Nat.le_refl _)
  have h2 := h.hi (2 * q + 1) (by omega)
  rw [Nat.succ_mul, dbl_mul, ← ha] at h2
  rw [dbl_mul, ← ha] at h1
  exact ⟨h1, h2⟩
theorem MrgS.step {s n q a : Nat} {d d' : Array α} (h : MrgS lt s n q d) (ha : a = q * (2 * s)) (ho : OutR a (a + 2 * s) d d') (hs : SortedIn lt a (a + 2 * s) d') : MrgS lt s n (q + 1) d' := by
  refine ⟨fun i hi => ?_, fun i hi => ?_⟩
  · by_cases e : i = q
    · rw [e, ← ha]
      exact hs
    · refine sin_out (h.lo i (by omega)) ho (.inl ?_)
      have := Nat.mul_le_mul_right (2 * s) (show i + 1 ≤ q by omega)
      rw [Nat.succ_mul] at this
      omega
  · refine sin_out (h.hi i (by omega)) ho (.inr ?_)
    have := Nat.mul_le_mul_right s (show 2 * (q + 1) ≤ i by omega)
    rw [dbl_mul, Nat.succ_mul] at this
    omega
theorem MrgS.last {s n q a : Nat} {d d' : Array α} (h : MrgS lt s n q d) (ha : a = q * (2 * s)) (hn : n < a + 2 * s) (ho : OutR a n d d') (hs : SortedIn lt a n d') : BlkS lt (2 * s) n d' := fun i => by
  by_cases e : i = q
  · rw [e, ← ha]
    exact sin_mono hs (Nat.le_refl _) (Nat.min_le_right _ _)
  · by_cases h1 : i < q
    · refine sin_out (sin_mono (h.lo i h1) (Nat.le_refl _) (Nat.min_le_left _ _)) ho (.inl ?_)
      have := Nat.mul_le_mul_right (2 * s) (show i + 1 ≤ q by omega)
      rw [Nat.succ_mul] at this
      omega
    · refine sin_none ?_
      have := Nat.mul_le_mul_right (2 * s) (show q + 1 ≤ i by omega)
      rw [Nat.succ_mul] at this
      omega
/-- The first blocks. -/
def InsS (lt : α → α → Bool) (s q : Nat) (d : Array α) : Prop := ∀ i, i < q → SortedIn lt (i * s) (i * s + s) d
theorem InsS.step {s q a : Nat} {d d' : Array α} (h : InsS lt s q d) (ha : a = q * s) (ho : OutR a (a + s) d d') (hs : SortedIn lt a (a + s) d') : InsS lt s (q + 1) d' := fun i hi => by
  by_cases e : i = q
  · rw [e, ← ha]
    exact hs
  · refine sin_out (h i (by omega)) ho (.inl ?_)
    have := Nat.mul_le_mul_right s (show i + 1 ≤ q by omega)
    rw [Nat.succ_mul] at this
    omega
theorem InsS.last {s n q a : Nat} {d d' : Array α} (h : InsS lt s q d) (ha : a = q * s) (hn : n < a + s) (ho : OutR a n d d') (hs : SortedIn lt a n d') : BlkS lt s n d' := fun i => by
  by_cases e : i = q
  · rw [e, ← ha]
    exact sin_mono hs (Nat.le_refl _) (Nat.min_le_right _ _)
  · by_cases h1 : i < q
    · refine sin_out (sin_mono (h i h1) (Nat.le_refl _) (Nat.min_le_left _ _)) ho (.inl ?_)
      have := Nat.mul_le_mul_right s (show i + 1 ≤ q by omega)
      rw [Nat.succ_mul] at this
      omega
    · refine sin_none ?_
      have := Nat.mul_le_mul_right s (show q + 1 ≤ i by omega)
      rw [Nat.succ_mul] at this
      omega
theorem BlkS.all {s n : Nat} {d : Array α} (h : BlkS lt s n d) (hs : n ≤ s) : SortedIn lt 0 n d := by
  have := h 0
  rw [Nat.zero_mul, Nat.zero_add, Nat.min_eq_right hs] at this
  exact this
theorem OutR.perm {a b : Nat} {d d' : Array α} (h : PermIn a b d d') : OutR a b d d' := ⟨h.1, h.2.1⟩
/-- A merge, at the places of the array. -/
theorem sym_use {d : Array α} {a m b : Nat} (ham : a ≤ m) (hmb : m ≤ b) (hb : b ≤ d.size) : ∃ P L R S, d.toList = P ++ ((L ++ R) ++ S) ∧ P.length = a ∧ a + L.length = m ∧ m + R.length = b ∧ (SortedIn lt a m d → SrtS lt L) ∧ (SortedIn lt m b d → SrtS lt R) ∧
    ∀ (d' : Array α) (X : List α), d'.size = d.size → d'.toList = P ++ (X ++ S) → Stab lt (L ++ R) X → OutR a b d d' ∧ SortedIn lt a b d' ∧ SameC lt d.toList d'.toList := by
  obtain ⟨P, Z, S, h1, h2, h3⟩ := arr_split d (Nat.le_trans ham hmb) hb
  have hL : (Z.take (m - a)).length = m - a := by rw [List.length_take]; omega
  have hR : (Z.drop (m - a)).length = b - m := by rw [List.length_drop]; omega
  have hz : Z = Z.take (m - a) ++ Z.drop (m - a) := (List.take_append_drop _ _).symm
  generalize Z.take (m - a) = L at *
  generalize Z.drop (m - a) = R at *
  subst hz
  refine ⟨P, L, R, S, h1, h2, by omega, by omega, fun h => srt_of (d := d) (P := P) (X := L) (S := R ++ S) (by rw [h1]; simp) h2 hL h, fun h => srt_of (d := d) (P := P ++ L) (X := R) (S := S) (by rw [h1]; simp) (by rw [List.length_append]; omega) hR h, fun d' X hs hd hx => ?_⟩
  have hX : X.length = b - a := by
    have e1 := congrArg List.length h1
    have e2 := congrArg List.length hd
    simp only [List.length_append, Array.length_toList] at e1 e2
    omega
  refine ⟨out_of h1 hd h2 h3 hX (Nat.le_trans ham hmb), srt_in hd h2 hX hx.1, ?_⟩
  rw [h1, hd]
  exact SameC.mid hx.2
end
end
section
open Go.RowKit Go.Sort

/-- A comparison that is a total order. -/
structure CmpT {α : Type} (c : α → α → Int) : Prop where
  self : ∀ a, c a a = 0
  zero : ∀ a b, c a b = 0 → a = b
  swap : ∀ a b, c b a = - c a b
  trans : ∀ a b d, c a b < 0 → c b d < 0 → c a d < 0
def lexC {α β : Type} (c : α → α → Int) (e : β → β → Int) (p q : α × β) : Int := if c p.1 q.1 ≠ 0 then c p.1 q.1 else e p.2 q.2
theorem CmpT.lex {α β : Type} {c : α → α → Int} {e : β → β → Int} (hc : CmpT c) (he : CmpT e) : CmpT (lexC c e) where
  self p := by unfold lexC; rw [hc.self, if_neg (by omega), he.self]
  zero p q h := by
    unfold lexC at h
    split at h
    · omega
    · rename_i h1
      exact Prod.ext (hc.zero _ _ (by omega)) (he.zero _ _ h)
  swap p q := by
    unfold lexC
    rw [hc.swap p.1 q.1]
    by_cases h : c p.1 q.1 = 0
    · rw [if_neg (by omega), if_neg (by omega), he.swap]
    · rw [if_pos (by omega), if_pos (by omega)]
  trans p q r h1 h2 := by
    unfold lexC at *
    by_cases e1 : c p.1 q.1 = 0
    · rw [if_neg (by omega)] at h1
      by_cases e2 : c q.1 r.1 = 0
      · rw [if_neg (by omega)] at h2
        have e3 : c p.1 r.1 = 0 := by rw [hc.zero _ _ e1]; exact e2
        rw [if_neg (by omega)]
        exact he.trans _ _ _ h1 h2
      · rw [if_pos (by omega)] at h2
        rw [hc.zero _ _ e1, if_pos (by omega)]
        exact h2
    · rw [if_pos (by omega)] at h1
      by_cases e2 : c q.1 r.1 = 0
      · rw [← hc.zero _ _ e2, if_pos (by omega)]
        exact h1
      · rw [if_pos (by omega)] at h2
        have h3 := hc.trans _ _ _ h1 h2
        rw [if_pos (by omega)]
        exact h3
def cI (a b : Int) : Int := if a < b then -1 else if b < a then 1 else 0
theorem cmpT_int : CmpT cI where
  self a := by unfold cI; rw [if_neg (by omega), if_neg (by omega)]
  zero a b h := by
    unfold cI at h
    split at h
    · omega
    · split at h <;> omega
  swap a b := by
    unfold cI
    repeat' split
    all_goals omega
  trans a b d h1 h2 := by
    unfold cI at *
    repeat' split at h1
    all_goals repeat' split at h2
    all_goals first | omega | (rw [if_pos (by omega)]; omega)
theorem cmpT_ord : CmpT ordH := ⟨ordH_self, fun _ _ h => ordH_zero h, ordH_swap, fun _ _ _ h1 h2 => ordH_trans h1 h2⟩
/-- What the order of records looks at. -/
def keyR (r : Rcd) : ByteArray × Int × ByteArray × Int := (r.dst, r.num, r.src, r.fst)
def cmpRc : ByteArray × Int × ByteArray × Int → ByteArray × Int × ByteArray × Int → Int := lexC ordH (lexC cI (lexC ordH cI))
theorem cmpT_rec : CmpT cmpRc := cmpT_ord.lex (cmpT_int.lex (cmpT_ord.lex cmpT_int))
theorem cI_neg (a b : Int) : decide (cI a b < 0) = decide (a < b) := by
  unfold cI
  repeat' split
  all_goals simp_all
theorem befR_is (a b : Rcd) : befR a b = decide (cmpRc (keyR a) (keyR b) < 0) := by
  unfold befR cmpRc lexC keyR
  dsimp only
  by_cases h1 : ordH a.dst b.dst = 0
  · by_cases h2 : a.num = b.num
    · have e2 : cI a.num b.num = 0 := by rw [h2]; exact cmpT_int.self _
      by_cases h3 : ordH a.src b.src = 0
      · simp [h1, h2, h3, cI_neg, cmpT_int.self]
      · simp [h1, h2, h3, cmpT_int.self]
    · have e2 : cI a.num b.num ≠ 0 := fun h => h2 (cmpT_int.zero _ _ h)
      simp [h1, h2, e2, cI_neg]
  · simp [h1]
theorem swo_of {α κ : Type} {c : κ → κ → Int} (h : CmpT c) (k : α → κ) : SWO fun a b : α => decide (c (k a) (k b) < 0) := by
  refine ⟨fun x => ?_, fun x y z h1 h2 => ?_, fun x y z h1 h2 => ?_⟩
  · simp [h.self]
  · rw [decide_eq_true_eq] at *
    exact h.trans _ _ _ h1 h2
  · rw [decide_eq_false_iff_not] at *
    intro h3
    have s1 := h.swap (k x) (k y)
    by_cases e1 : c (k x) (k y) = 0
    · rw [h.zero _ _ e1] at h3
      exact h2 h3
    · exact h2 (h.trans _ _ _ (show c (k y) (k x) < 0 by omega) h3)
theorem swo_befR : SWO befR := by
  have e : befR = fun a b => decide (cmpRc (keyR a) (keyR b) < 0) := funext fun a => funext fun b => befR_is a b
  rw [e]
  exact swo_of cmpT_rec keyR
/-- The reference's Sorted is the stable sorting. -/
theorem sortR_stab (V : List Rcd) : Stab befR V (sortR V) := by
  have h := insertionSort_holds swo_befR V.toArray 0 V.length (Nat.zero_le _) (by simp)
  have e : sortR V = (insertionSort befR V.toArray 0 V.length).toList := by
    unfold sortR
    rw [ins_zero]
  have hs := insOuter_sameC (lt := befR) (fun h1 h2 h3 => swo_class swo_befR h1 h2 h3) 0 V.length (V.length - 0) 0 V.toArray rfl (by simp)
  have hz : (sortR V).length = V.length := by
    rw [e, Array.length_toList, h.1.1]
    simp
  refine ⟨?_, fun a => ?_⟩
  · refine srt_of (lt := befR) (d := insertionSort befR V.toArray 0 V.length) (P := []) (S := []) (a := 0) (b := V.length) (by rw [← e]; simp) rfl (by rw [hz]; omega) h.2
  · exact hs a
end
section
open Go.RowKit Go.Sort

/-- A record whose paths are paths. -/
def okR (r : Rcd) : Prop := (validB r.src.data.toList = true ∧ r.src.size ≤ 4294967281) ∧ validB r.dst.data.toList = true ∧ r.dst.size ≤ 4294967281
structure StS (n g B : Nat) (w0 : World) (d : Array Rcd) (w : World) : Prop where
  sz : d.size = n
  ok : ∀ q, q < n → okR d[q]!
  hold : HoldsK Rcd.cells 6 w g 0 d
  gl : g < w.heap.size
  grew : w0.grownBy w (some g)
section
variable {n g B : Nat} {w0 w w' : World} {d d' : Array Rcd}
theorem below_grown (hb : Below w.heap.size w w') : w.grownBy w' (some g) := ⟨hb.os, hb.tape, hb.output, hb.size, fun k hk _ => hb.block k hk⟩
theorem setCells_grown : ∀ (vs : List Value) (o : Nat) (w : World), w.grownBy (w.setCells g o vs) (some g)
  | [], _, w => ⟨rfl, rfl, rfl, Nat.le_refl _, fun _ _ _ => rfl⟩
  | v :: r, o, w => by
    refine World.grownBy.trans (b := w.setCell ⟨g, o, none⟩ v) ⟨rfl, rfl, rfl, by simp [World.setCell], fun k _ hk => Below.heap_setCell _ _ _ _ (fun e => hk (by rw [e]))⟩ ?_
    exact setCells_grown r (o + 1) _
theorem StS.below (h : StS n g B w0 d w) (hb : Below w.heap.size w w') (_hB : B ≤ g) : StS n g B w0 d w' :=
  ⟨h.sz, h.ok, holdsK_below h.hold hb h.gl, Nat.lt_of_lt_of_le h.gl hb.size, h.grew.trans (below_grown hb)⟩
theorem StS.drew (h : StS n g B w0 d w) : StS n g B w0 d w.drew := ⟨h.sz, h.ok, holdsK_drew h.hold, lt_drew h.gl, h.grew.trans (below_grown (Below.refl _ w).drew)⟩
theorem StS.swp (h : StS n g B w0 d w) (_hB : B ≤ g) {i j : Nat} (hi : i < n) (hj : j < n) : StS n g B w0 (swp d i j) ((w.setCells g (0 + i * 6) (d[j]!).cells).setCells g (0 + j * 6) (d[i]!).cells) := by
  have hi' : i < d.size := by rw [h.sz]; exact hi
  have hj' : j < d.size := by rw [h.sz]; exact hj
  refine ⟨by rw [size_swp]; exact h.sz, fun q hq => ?_, swap_row rcd_len h.hold hi' hj', ?_, (h.grew.trans (setCells_grown _ _ _)).trans (setCells_grown _ _ _)⟩
  · exact swp_all (P := fun y : Rcd => okR y) hi' hj' (fun q hq => h.ok q (by rw [← h.sz]; exact hq)) q (by rw [h.sz]; exact hq)
  · rw [setCells_size, setCells_size]
    exact h.gl
theorem StS.cell (h : StS n g B w0 d w) {i c : Nat} (hi : i < n) (hc : c < 6) : w.cell? ⟨g, i * 6 + c, none⟩ = some ((d[i]!).cells[c]!) ∧ w.frozen? ⟨g, i * 6 + c, none⟩ = false := by
  have := HoldsK.cell h.hold (i := i) (c := c) (by rw [h.sz]; exact hi) hc
  simpa using this
/-- The six cells of a record. -/
theorem StS.six (h : StS n g B w0 d w) {i : Nat} (hi : i < n) {r : Rcd} (hr : d[i]! = r) :
    (w.cell? ⟨g, i * 6, none⟩ = some (.string r.src) ∧ w.cell? ⟨g, i * 6 + 1, none⟩ = some (.int .i64 r.fst) ∧ w.cell? ⟨g, i * 6 + 2, none⟩ = some (.int .i64 r.lst) ∧ w.cell? ⟨g, i * 6 + 3, none⟩ = some (.string r.dst) ∧ w.cell? ⟨g, i * 6 + 4, none⟩ = some (.int .i64 r.num) ∧ w.cell? ⟨g, i * 6 + 5, none⟩ = some (.int .i64 r.how)) ∧
      w.frozen? ⟨g, i * 6, none⟩ = false ∧ w.frozen? ⟨g, i * 6 + 1, none⟩ = false ∧ w.frozen? ⟨g, i * 6 + 2, none⟩ = false ∧ w.frozen? ⟨g, i * 6 + 3, none⟩ = false ∧ w.frozen? ⟨g, i * 6 + 4, none⟩ = false ∧ w.frozen? ⟨g, i * 6 + 5, none⟩ = false := by
  subst hr
  have h0 := h.cell hi (c := 0) (by omega)
  have h1 := h.cell hi (c := 1) (by omega)
  have h2 := h.cell hi (c := 2) (by omega)
  have h3 := h.cell hi (c := 3) (by omega)
  have h4 := h.cell hi (c := 4) (by omega)
  have h5 := h.cell hi (c := 5) (by omega)
  exact ⟨⟨h0.1, h1.1, h2.1, h3.1, h4.1, h5.1⟩, h0.2, h1.2, h2.2, h3.2, h4.2, h5.2⟩
/-- .. in every world that goes on from here. -/
theorem StS.sixH (h : StS n g B w0 d w) (hB : B ≤ g) {i : Nat} (hi : i < n) {r : Rcd} (hr : d[i]! = r) :
    (∀ y : Held (Below w.heap.size w), y.w.cell? ⟨g, i * 6, none⟩ = some (.string r.src)) ∧ (∀ y : Held (Below w.heap.size w), y.w.cell? ⟨g, i * 6 + 1, none⟩ = some (.int .i64 r.fst)) ∧ (∀ y : Held (Below w.heap.size w), y.w.cell? ⟨g, i * 6 + 2, none⟩ = some (.int .i64 r.lst)) ∧ (∀ y : Held (Below w.heap.size w), y.w.cell? ⟨g, i * 6 + 3, none⟩ = some (.string r.dst)) ∧ (∀ y : Held (Below w.heap.size w), y.w.cell? ⟨g, i * 6 + 4, none⟩ = some (.int .i64 r.num)) ∧ (∀ y : Held (Below w.heap.size w), y.w.cell? ⟨g, i * 6 + 5, none⟩ = some (.int .i64 r.how)) ∧ ∀ y : Held (Below w.heap.size w), g < y.w.heap.size := by
  have k := fun y : Held (Below w.heap.size w) => ((h.below y.ok hB).six hi hr).1
  exact ⟨fun y => (k y).1, fun y => (k y).2.1, fun y => (k y).2.2.1, fun y => (k y).2.2.2.1, fun y => (k y).2.2.2.2.1, fun y => (k y).2.2.2.2.2, fun y => (h.below y.ok hB).gl⟩
end
end
end Go.Proofs.YtocffknoeknabaaGreatDoor
