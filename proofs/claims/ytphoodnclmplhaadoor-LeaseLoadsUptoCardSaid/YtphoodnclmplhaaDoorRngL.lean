/-
  Ranging over a map with texts as keys: what has come, and that one more comes, or all have come.
-/
import Derived.Test.YtphoodnclmplhaaDoorMapG
namespace Go.Proofs.YtphoodnclmplhaaDoor
open Go.RowKit

def seenOf (r : Nat) (w : World) : Array Nat := match w.heap[r]? with
  | some (.mapIter _ _ seen _) => seen
  | _ => #[]
theorem setBlock_grown (w : World) (r : Nat) (o : Obj) : w.grownBy (ChangeMaps.setBlock w r o) (some r) :=
  ⟨rfl, rfl, rfl, by simp [ChangeMaps.setBlock], fun i _ hne => by
    have hri : r ≠ i := fun e => hne (by rw [e])
    simp [ChangeMaps.setBlock, hri]⟩
theorem setBlock_at {w : World} {r : Nat} {o0 : Obj} (h : w.heap[r]? = some o0) (o : Obj) : (ChangeMaps.setBlock w r o).heap[r]? = some o := by
  have := block_lt h
  simp [ChangeMaps.setBlock, this]

def unk (e : MapEntry) : ByteArray × Value := (match e.key with | .string s => s | _ => ⟨#[]⟩, e.val)
theorem unk_list : ∀ {es : List MapEntry} {L : List (ByteArray × Value)}, es.map (fun e => (e.key, e.val)) = L.map (fun x => (Value.string x.1, x.2)) → es.map unk = L
  | [], [], _ => rfl
  | [], _ :: _, h => by simp at h
  | _ :: _, [], h => by simp at h
  | e :: es, x :: L, h => by
    simp only [List.map_cons, List.cons.injEq, Prod.mk.injEq] at h
    obtain ⟨⟨h1, h2⟩, h3⟩ := h
    rw [List.map_cons, unk_list h3]
    congr 1
    unfold unk
    rw [h1, h2]
theorem unk_key {es : List MapEntry} {L : List (ByteArray × Value)} (h : es.map (fun e => (e.key, e.val)) = L.map (fun x => (Value.string x.1, x.2))) : ∀ e ∈ es, ∃ q, e.key = .string q := fun e he => by
  have h1 : (e.key, e.val) ∈ L.map (fun x => (Value.string x.1, x.2)) := by rw [← h]; exact List.mem_map.2 ⟨e, he, rfl⟩
  obtain ⟨x, _, hx⟩ := List.mem_map.1 h1
  simp only [Prod.mk.injEq] at hx
  exact ⟨x.1, hx.1.symm⟩
theorem filter_out (p : MapEntry → Bool) (e : MapEntry) : ∀ (l : List MapEntry), (l.map (·.born)).Nodup → e ∈ l → p e = true → (l.filter p).Perm (e :: l.filter fun x => p x && !(x.born == e.born))
  | [], _, h, _ => by cases h
  | a :: t, hn, he, hp => by
    rw [List.map_cons, List.nodup_cons] at hn
    rcases List.mem_cons.1 he with rfl | ht
    · have h1 : (t.filter fun x => p x && !(x.born == e.born)) = t.filter p := by
        refine List.filter_congr fun x hx => ?_
        have : ¬ x.born = e.born := fun h => hn.1 (List.mem_map.2 ⟨x, hx, h⟩)
        simp [this]
      rw [List.filter_cons_of_pos hp, List.filter_cons_of_neg (by simp), h1]
    · have h1 : ¬ a.born = e.born := fun h => hn.1 (List.mem_map.2 ⟨e, ht, h.symm⟩)
      have ih := filter_out p e t hn.2 ht hp
      by_cases ha : p a = true
      · rw [List.filter_cons_of_pos ha, List.filter_cons_of_pos (by simp [ha, h1])]
        exact (List.Perm.cons a ih).trans (List.Perm.swap ..)
      · rw [List.filter_cons_of_neg ha, List.filter_cons_of_neg (by simp [ha])]
        exact ih
theorem leftOf_list (es : Array MapEntry) (seen : Array Nat) : (leftOf es seen).toList = es.toList.filter fun e => !seen.contains e.born := by
  unfold leftOf
  exact Array.toList_filter
theorem left_push {es : Array MapEntry} {seen : Array Nat} {e : MapEntry} (hn : (es.toList.map (·.born)).Nodup) (he : e ∈ (leftOf es seen).toList) : (leftOf es seen).toList.Perm (e :: (leftOf es (seen.push e.born)).toList) := by
  obtain ⟨h1, h2⟩ := mem_left he
  rw [leftOf_list, leftOf_list]
  have h3 : (es.toList.filter fun x => !(seen.push e.born).contains x.born) = es.toList.filter fun x => !seen.contains x.born && !(x.born == e.born) := by
    refine List.filter_congr fun x _ => ?_
    rw [contains_push, Bool.not_or]
  rw [h3]
  exact filter_out _ e _ hn h1 (by rw [h2]; rfl)

/-- A loop over the map b stands at the iterator r; V has come. -/
structure Rng (b r clock : Nat) (es : Array MapEntry) (V : List (ByteArray × Value)) (w : World) : Prop where
  it : ∃ seen last, w.heap[r]? = some (.mapIter (some b) clock seen last) ∧ clock ≤ last ∧ (V ++ (leftOf es seen).toList.map unk).Perm (es.toList.map unk)
  mb : w.heap[b]? = some (.map es clock)
theorem Rng.start {b r clock : Nat} {es : Array MapEntry} {w : World} (h1 : w.heap[r]? = some (.mapIter (some b) clock #[] clock)) (h2 : w.heap[b]? = some (.map es clock)) : Rng b r clock es [] w :=
  ⟨⟨#[], clock, h1, Nat.le_refl _, by
    rw [List.nil_append, leftOf_list, List.filter_eq_self.2 (fun e _ => by simp)]⟩, h2⟩
theorem Rng.of {b r clock : Nat} {es : Array MapEntry} {V : List (ByteArray × Value)} {w w' : World} (h : Rng b r clock es V w) (h1 : w'.heap[r]? = w.heap[r]?) (h2 : w'.heap[b]? = w.heap[b]?) : Rng b r clock es V w' := by
  obtain ⟨seen, last, a, c, d⟩ := h.it
  exact ⟨⟨seen, last, h1.trans a, c, d⟩, h2.trans h.mb⟩
theorem Rng.len {b r clock : Nat} {es : Array MapEntry} {V : List (ByteArray × Value)} {w : World} (h : Rng b r clock es V w) : V.length ≤ es.size := by
  obtain ⟨seen, last, _, _, d⟩ := h.it
  have := d.length_eq
  simp at this
  omega
theorem Rng.lt {b r clock : Nat} {es : Array MapEntry} {V : List (ByteArray × Value)} {w : World} (h : Rng b r clock es V w) : r < w.heap.size := by
  obtain ⟨seen, last, a, _⟩ := h.it
  exact block_lt a
theorem Rng.left {b r clock : Nat} {es : Array MapEntry} {V : List (ByteArray × Value)} {w : World} (h : Rng b r clock es V w) : (leftOf es (seenOf r w)).size = es.size - V.length := by
  obtain ⟨seen, last, a, _, d⟩ := h.it
  have e : seenOf r w = seen := by unfold seenOf; rw [a]
  rw [e]
  have := d.length_eq
  simp at this
  omega
theorem Rng.step {P : Program} {b r clock : Nat} {es : Array MapEntry} {V : List (ByteArray × Value)} {w : World} (h : Rng b r clock es V w) (ty : TypeId) (hn : (es.toList.map (·.born)).Nodup) (hbc : ∀ e ∈ es.toList, e.born < clock) (hk : ∀ e ∈ es.toList, ∃ q, e.key = .string q) (hbr : b ≠ r) :
    (V.Perm (es.toList.map unk) ∧ (Instr.next (.pointer (some ⟨r, 0, none⟩)) false ty).run P w = .ok (.tuple #[.bool false]) w) ∨
    ∃ (x : ByteArray × Value) (W : World), x ∈ es.toList.map unk ∧ V.length < es.size ∧ (Instr.next (.pointer (some ⟨r, 0, none⟩)) false ty).run P w = .ok (.tuple #[.bool true, .string x.1, x.2]) W ∧
      (Instr.entry (.pointer (some ⟨r, 0, none⟩))).run P W = .ok (.tuple #[.string x.1, x.2]) W ∧ Rng b r clock es (V ++ [x]) W ∧ (∃ w1, (w1 = w ∨ w1 = w.drew) ∧ w1.grownBy W (some r)) := by
  obtain ⟨seen, last, hit, hlast, hp⟩ := h.it
  rcases run_next_at (P := P) w ty r b clock last seen es clock hit h.mb hbc hlast with ⟨h0, hnx⟩ | ⟨e, hel, w1, hw1, hnx⟩
  · refine .inl ⟨?_, hnx⟩
    have : (leftOf es seen).toList = [] := List.eq_nil_of_length_eq_zero (by simpa using h0)
    rw [this] at hp
    simpa using hp
  · obtain ⟨hem, _⟩ := mem_left hel
    obtain ⟨q, hq⟩ := hk e hem
    have hx : unk e = (q, e.val) := by unfold unk; rw [hq]
    have hw1h : w1.heap = w.heap := by rcases hw1 with rfl | rfl <;> rfl
    have hg := setBlock_grown w1 r (.mapIter (some b) clock (seen.push e.born) clock)
    have hit1 := setBlock_at (w := w1) (r := r) (by rw [hw1h]; exact hit) (.mapIter (some b) clock (seen.push e.born) clock)
    have hmb1 : (ChangeMaps.setBlock w1 r (.mapIter (some b) clock (seen.push e.born) clock)).heap[b]? = some (.map es clock) :=
      (hg.block b (by rw [hw1h]; exact block_lt h.mb) (fun k => hbr (by injection k))).trans (by rw [hw1h]; exact h.mb)
    have hen := run_entry_at (P := P) _ r b clock seen es clock e hit1 hmb1 hem hn
    rw [hq] at hnx hen
    have hpp := left_push hn hel
    have hp2 : ((V ++ [unk e]) ++ (leftOf es (seen.push e.born)).toList.map unk).Perm (es.toList.map unk) := by
      have h1 : (V ++ (leftOf es seen).toList.map unk).Perm (V ++ (e :: (leftOf es (seen.push e.born)).toList).map unk) := List.Perm.append_left V (hpp.map unk)
      rw [List.map_cons] at h1
      rw [List.append_assoc]
      exact h1.symm.trans hp
    refine .inr ⟨(q, e.val), _, ?_, ?_, hnx, hen, ⟨⟨seen.push e.born, clock, hit1, Nat.le_refl _, by rw [← hx]; exact hp2⟩, hmb1⟩, w1, hw1, hg⟩
    · rw [← hx]; exact List.mem_map.2 ⟨e, hem, rfl⟩
    · have := hp2.length_eq
      simp at this
      omega

end Go.Proofs.YtphoodnclmplhaaDoor
