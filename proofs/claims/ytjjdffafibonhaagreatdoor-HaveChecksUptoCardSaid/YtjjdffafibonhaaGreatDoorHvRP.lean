/-
  The reference's have-lists in plain words: what its loops test and build is what Check, Set, Drop and Replace make.
-/
import Derived.Test.YtjjdffafibonhaaGreatDoorHvK
namespace Go.Proofs.YtjjdffafibonhaaGreatDoor
open Go.RowKit

/-! Find and Put. -/
/-- The first entry that is this path or behind it. -/
def fndI : List Hv → ByteArray → Nat
  | [], _ => 0
  | a :: t, p => if a.path = p then 0 else if 0 < ordH a.path p then 0 else fndI t p + 1
def fndB : List Hv → ByteArray → Bool
  | [], _ => false
  | a :: t, p => if a.path = p then true else if 0 < ordH a.path p then false else fndB t p
theorem fnd_le : ∀ (E : List Hv) (p : ByteArray), fndI E p ≤ E.length
  | [], _ => Nat.le_refl _
  | a :: t, p => by
    have := fnd_le t p
    unfold fndI
    split
    · exact Nat.zero_le _
    · split
      · exact Nat.zero_le _
      · simp only [List.length_cons]; omega
theorem fnd_lt : ∀ (E : List Hv) (p : ByteArray), fndB E p = true → fndI E p < E.length
  | [], _, h => by cases h
  | a :: t, p, h => by
    unfold fndB at h
    unfold fndI
    split
    · simp
    · rename_i h1
      rw [if_neg h1] at h
      split
      · simp
      · rename_i h2
        rw [if_neg h2] at h
        have := fnd_lt t p h
        simp only [List.length_cons]; omega
theorem put_fnd : ∀ (E : List Hv) (h : Hv), putH E h = E.take (fndI E h.path) ++ h :: E.drop (fndI E h.path + (fndB E h.path).toNat)
  | [], h => rfl
  | a :: t, h => by
    unfold putH fndI fndB
    split
    · simp
    · split
      · simp
      · rw [put_fnd t h]
        simp only [List.take_succ_cons, List.cons_append]
        rw [show fndI t h.path + 1 + (fndB t h.path).toNat = (fndI t h.path + (fndB t h.path).toNat) + 1 by omega, List.drop_succ_cons]
/-- Find from place k on. -/
theorem fnd_at {E : List Hv} {p : ByteArray} {k : Nat} (hp : ∀ q ∈ E.take k, q.path ≠ p ∧ ¬ 0 < ordH q.path p) (hk : k ≤ E.length) : fndI E p = k + fndI (E.drop k) p ∧ fndB E p = fndB (E.drop k) p := by
  induction k generalizing E with
  | zero => simp
  | succ k ih =>
    cases E with
    | nil => simp at hk
    | cons a t =>
      have h1 := hp a (by simp)
      have h2 := ih (E := t) (fun q hq => hp q (by simp [hq])) (by simpa using hk)
      have e1 : fndI (a :: t) p = fndI t p + 1 := by rw [fndI, if_neg h1.1, if_neg h1.2]
      have e2 : fndB (a :: t) p = fndB t p := by rw [fndB, if_neg h1.1, if_neg h1.2]
      rw [e1, e2, List.drop_succ_cons, h2.1, h2.2]
      exact ⟨by omega, rfl⟩
theorem fnd_stop1 {E : List Hv} {p : ByteArray} {k : Nat} {h : Hv} (hg : E[k]? = some h) (hp : ∀ q ∈ E.take k, q.path ≠ p ∧ ¬ 0 < ordH q.path p) (he : h.path = p) : fndI E p = k ∧ fndB E p = true := by
  obtain ⟨hk, e⟩ := List.getElem?_eq_some_iff.1 hg
  obtain ⟨h1, h2⟩ := fnd_at hp (by omega)
  rw [h1, h2, List.drop_eq_getElem_cons hk, e]
  unfold fndI fndB
  rw [if_pos he, if_pos he]
  exact ⟨rfl, rfl⟩
theorem fnd_stop2 {E : List Hv} {p : ByteArray} {k : Nat} {h : Hv} (hg : E[k]? = some h) (hp : ∀ q ∈ E.take k, q.path ≠ p ∧ ¬ 0 < ordH q.path p) (he : h.path ≠ p) (ho : 0 < ordH h.path p) : fndI E p = k ∧ fndB E p = false := by
  obtain ⟨hk, e⟩ := List.getElem?_eq_some_iff.1 hg
  obtain ⟨h1, h2⟩ := fnd_at hp (by omega)
  rw [h1, h2, List.drop_eq_getElem_cons hk, e]
  unfold fndI fndB
  rw [if_neg he, if_neg he, if_pos ho, if_pos ho]
  exact ⟨rfl, rfl⟩
theorem fnd_end {E : List Hv} {p : ByteArray} (hp : ∀ q ∈ E, q.path ≠ p ∧ ¬ 0 < ordH q.path p) : fndI E p = E.length ∧ fndB E p = false := by
  obtain ⟨h1, h2⟩ := fnd_at (k := E.length) (by rwa [List.take_length]) (Nat.le_refl _)
  rw [h1, h2, List.drop_length]
  exact ⟨rfl, rfl⟩
theorem putAll_snoc (E l : List Hv) (k : Nat) (h : Hv) (hg : l[k]? = some h) : putAll E (l.take (k + 1)) = putH (putAll E (l.take k)) h := by
  unfold putAll
  rw [List.take_add_one, hg]
  simp
theorem putH_len (E : List Hv) (h : Hv) : (putH E h).length ≤ E.length + 1 := by
  rw [put_fnd]
  simp
  omega
theorem putAll_len : ∀ (l E : List Hv), (putAll E l).length ≤ E.length + l.length
  | [], E => by simp [putAll]
  | a :: t, E => by
    have h1 := putAll_len t (putH E a)
    have h2 := putH_len E a
    show (putAll (putH E a) t).length ≤ _
    simp only [List.length_cons]
    omega
theorem mem_put {E : List Hv} {h q : Hv} (hq : q ∈ putH E h) : q = h ∨ q ∈ E := by
  rw [put_fnd] at hq
  rcases List.mem_append.1 hq with hq | hq
  · exact .inr (List.mem_of_mem_take hq)
  · rcases List.mem_cons.1 hq with rfl | hq
    · exact .inl rfl
    · exact .inr (List.mem_of_mem_drop hq)

/-! The form of what is set. -/
theorem formF_take {l : List Hv} {k : Nat} {h : Hv} (hg : l[k]? = some h) : formF (l.take k) (l.drop k) = (!anyP (l.take k) h.path && okH h && formF (l.take (k + 1)) (l.drop (k + 1))) := by
  obtain ⟨hk, e⟩ := List.getElem?_eq_some_iff.1 hg
  rw [List.drop_eq_getElem_cons hk, e, List.take_add_one, hg]
  rfl
theorem form_bad1 {l : List Hv} {k : Nat} {h : Hv} (hg : l[k]? = some h) (hf : formB l = formF (l.take k) (l.drop k)) (ho : okH h = false) : formB l = false := by
  rw [hf, formF_take hg, ho]; simp
theorem form_bad2 {l : List Hv} {k j : Nat} {h q : Hv} (hg : l[k]? = some h) (hq : l[j]? = some q) (hj : j < k) (hf : formB l = formF (l.take k) (l.drop k)) (e : q.path = h.path) : formB l = false := by
  have : anyP (l.take k) h.path = true := anyP_iff.2 ⟨q, by rw [List.mem_iff_getElem?]; exact ⟨j, by rw [List.getElem?_take, if_pos hj]; exact hq⟩, e⟩
  rw [hf, formF_take hg, this]; simp
theorem form_next {l : List Hv} {k : Nat} {h : Hv} (hg : l[k]? = some h) (hf : formB l = formF (l.take k) (l.drop k)) (ho : okH h = true) (hn : ∀ j q, j < k → l[j]? = some q → q.path ≠ h.path) : formB l = formF (l.take (k + 1)) (l.drop (k + 1)) := by
  have : anyP (l.take k) h.path = false := anyP_false.2 fun q hq => by
    obtain ⟨j, hj⟩ := List.mem_iff_getElem?.1 hq
    rw [List.getElem?_take] at hj
    split at hj
    · rename_i h1; exact hn j q h1 hj
    · cases hj
  rw [hf, formF_take hg, this, ho]; simp
/-! Client paths, each once. -/
def LocTo (l : List Hv) (k : Nat) : Prop := ∀ i j h q, i < k → j < i → l[i]? = some h → l[j]? = some q → q.loc ≠ h.loc
theorem loc_nodup {l : List Hv} : LocTo l l.length → (l.map (·.loc)).Nodup := fun h => by
  unfold List.Nodup
  rw [List.pairwise_map, List.pairwise_iff_getElem]
  intro i j hi hj hij
  exact h j i _ _ hj hij (List.getElem?_eq_getElem hj) (List.getElem?_eq_getElem hi)
theorem loc_dup {l : List Hv} {i j : Nat} {h q : Hv} (hj : j < i) (h1 : l[i]? = some h) (h2 : l[j]? = some q) (e : q.loc = h.loc) : ¬ (l.map (·.loc)).Nodup := fun hn => by
  unfold List.Nodup at hn
  rw [List.pairwise_map, List.pairwise_iff_getElem] at hn
  obtain ⟨h3, h4⟩ := List.getElem?_eq_some_iff.1 h1
  obtain ⟨h5, h6⟩ := List.getElem?_eq_some_iff.1 h2
  exact hn j i h5 h3 hj (by rw [h4, h6, e])
/-! Check. -/
theorem chk_take {l : List Hv} {k : Nat} {h : Hv} (hg : l[k]? = some h) : chkH (l.take k) (l.drop k) = if (!okH h || match (l.take k).getLast? with | some q => decide (0 ≤ ordH q.path h.path) | none => false) then 340 else if (l.take k).any (fun q => q.loc == h.loc) then 341 else chkH (l.take (k + 1)) (l.drop (k + 1)) := by
  obtain ⟨hk, e⟩ := List.getElem?_eq_some_iff.1 hg
  rw [List.drop_eq_getElem_cons hk, e, List.take_add_one, hg]
  rfl
/-! Drop. -/
theorem drop_snoc (E : List Hv) (ps : List ByteArray) (k : Nat) (h : Hv) (hg : E[k]? = some h) : dropE (E.take (k + 1)) ps = dropE (E.take k) ps ++ if ps.any (fun p => p == h.path) then [] else [h] := by
  unfold dropE
  rw [List.take_add_one, hg, List.filter_append]
  congr 1
  by_cases e : (ps.any fun p => p == h.path) = true
  · rw [if_pos e]; simp [e]
  · rw [if_neg e]; simp at e; simp; exact e
theorem get_take {E : List Hv} {p : ByteArray} {k : Nat} {h : Hv} (hg : E[k]? = some h) (hp : ∀ q ∈ E.take k, q.path ≠ p) (e : h.path = p) : getH E p = some h := by
  obtain ⟨hk, e2⟩ := List.getElem?_eq_some_iff.1 hg
  unfold getH
  rw [← List.take_append_drop k E, List.find?_append, List.find?_eq_none.2 (fun q hq e => hp q hq ((ba_beq _ _).1 e)), List.drop_eq_getElem_cons hk, e2, List.find?_cons_of_pos]
  · rfl
  · exact (ba_beq _ _).2 e
theorem at_take {E : List Hv} {p : ByteArray} {k : Nat} {h : Hv} (hg : E[k]? = some h) (hp : ∀ q ∈ E.take k, q.loc ≠ p) (e : h.loc = p) : atH E p = some h := by
  obtain ⟨hk, e2⟩ := List.getElem?_eq_some_iff.1 hg
  unfold atH
  rw [← List.take_append_drop k E, List.find?_append, List.find?_eq_none.2 (fun q hq e => hp q hq ((ba_beq _ _).1 e)), List.drop_eq_getElem_cons hk, e2, List.find?_cons_of_pos]
  · rfl
  · exact (ba_beq _ _).2 e
theorem get_isSome {E : List Hv} {p : ByteArray} : (getH E p).isSome = anyP E p := by
  unfold getH anyP
  rw [Bool.eq_iff_iff, List.find?_isSome, List.any_eq_true]

end Go.Proofs.YtjjdffafibonhaaGreatDoor
