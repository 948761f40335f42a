/-
  Have-lists in plain words: entries, their order, what Check, Set, Drop and Replace make, and that a list in order is told by its members.
-/
import Derived.Test.YtjjdffafibonhaaGreatDoorOrd
import Derived.Test.YtjjdffafibonhaaGreatDoorPath
import Derived.Lib.Bytealg
namespace Go.Proofs.YtjjdffafibonhaaGreatDoor
open Go.RowKit

structure Hv where
  path : ByteArray
  num : Int
  loc : ByteArray
def Hv.val (h : Hv) : Value := .agg #[.string h.path, .int .i64 h.num, .string h.loc]
def Hv.cells (h : Hv) : List Value := [.string h.path, .int .i64 h.num, .string h.loc]
theorem ba_data {a b : ByteArray} (h : a.data.toList = b.data.toList) : a = b := by
  cases a; cases b; simp only at h; congr; exact Array.toList_inj.1 h

/-! The order of any two texts: what is no path comes ahead of all paths. -/
def ordL (vp vq : Bool) (p q : List UInt8) : Int := match vp, vq with
  | false, false => Lib.compareBytes p q
  | false, true => -1
  | true, false => 1
  | true, true => pcmp p q
def ordH (p q : ByteArray) : Int := ordL (validB p.data.toList) (validB q.data.toList) p.data.toList q.data.toList
theorem cb_self : ∀ a, Lib.compareBytes a a = 0
  | [] => rfl
  | x :: xs => by
    have h := UInt8.lt_irrefl x
    simp [Lib.compareBytes, h, cb_self xs]
theorem cb_zero : ∀ {a b}, Lib.compareBytes a b = 0 → a = b
  | [], [], _ => rfl
  | [], _ :: _, h => by simp [Lib.compareBytes] at h
  | _ :: _, [], h => by simp [Lib.compareBytes] at h
  | x :: xs, y :: ys, h => by
    unfold Lib.compareBytes at h
    split at h
    · cases h
    · rename_i h1
      split at h
      · cases h
      · rename_i h2
        have e : x = y := by
          rcases Decidable.em (x = y) with e | e
          · exact e
          · rcases UInt8.lt_or_lt_of_ne e with g | g
            · exact absurd g h1
            · exact absurd g h2
        rw [e, cb_zero h]
theorem cb_swap : ∀ a b, Lib.compareBytes b a = - Lib.compareBytes a b
  | [], [] => rfl
  | [], _ :: _ => rfl
  | _ :: _, [] => rfl
  | x :: xs, y :: ys => by
    unfold Lib.compareBytes
    by_cases h1 : x < y
    · have h2 : ¬ y < x := fun h => absurd (UInt8.lt_trans h1 h) (UInt8.lt_irrefl x)
      rw [if_pos h1, if_neg h2, if_pos h1]; rfl
    · by_cases h2 : y < x
      · rw [if_pos h2, if_neg h1, if_pos h2]
      · rw [if_neg h1, if_neg h2, if_neg h2, if_neg h1, cb_swap xs ys]
theorem cb_trans : ∀ {a b c}, Lib.compareBytes a b < 0 → Lib.compareBytes b c < 0 → Lib.compareBytes a c < 0
  | [], [], _, h, _ => by simp [Lib.compareBytes] at h
  | [], _ :: _, [], _, h => by simp [Lib.compareBytes] at h
  | [], _ :: _, _ :: _, _, _ => by simp [Lib.compareBytes]
  | _ :: _, [], _, h, _ => by simp [Lib.compareBytes] at h
  | _ :: _, _ :: _, [], _, h => by simp [Lib.compareBytes] at h
  | x :: xs, y :: ys, z :: zs, h1, h2 => by
    have t := @UInt8.lt_trans
    have irr := @UInt8.lt_irrefl
    unfold Lib.compareBytes at h1 h2 ⊢
    by_cases a1 : x < y
    · by_cases b1 : y < z
      · rw [if_pos (t a1 b1)]; decide
      · rw [if_neg b1] at h2
        by_cases b2 : z < y
        · rw [if_pos b2] at h2; cases h2
        · have e : y = z := by
            rcases Decidable.em (y = z) with e | e
            · exact e
            · rcases UInt8.lt_or_lt_of_ne e with g | g
              · exact absurd g b1
              · exact absurd g b2
          subst e
          rw [if_pos a1]; decide
    · rw [if_neg a1] at h1
      by_cases a2 : y < x
      · rw [if_pos a2] at h1; cases h1
      · have e : x = y := by
          rcases Decidable.em (x = y) with e | e
          · exact e
          · rcases UInt8.lt_or_lt_of_ne e with g | g
            · exact absurd g a1
            · exact absurd g a2
        subst e
        rw [if_neg a2] at h1
        by_cases b1 : x < z
        · rw [if_pos b1]; decide
        · rw [if_neg b1] at h2 ⊢
          by_cases b2 : z < x
          · rw [if_pos b2] at h2; cases h2
          · rw [if_neg b2] at h2 ⊢
            exact cb_trans h1 h2
theorem ordH_self (p : ByteArray) : ordH p p = 0 := by
  unfold ordH ordL
  cases validB p.data.toList
  · exact cb_self _
  · exact pcmp_self _
theorem ordH_zero {p q : ByteArray} (h : ordH p q = 0) : p = q := by
  unfold ordH ordL at h
  refine ba_data ?_
  revert h
  cases validB p.data.toList <;> cases validB q.data.toList <;> intro h
  · exact cb_zero h
  · cases h
  · cases h
  · exact pcmp_zero h
theorem ordH_swap (p q : ByteArray) : ordH q p = - ordH p q := by
  unfold ordH ordL
  cases validB p.data.toList <;> cases validB q.data.toList
  · exact cb_swap _ _
  · rfl
  · rfl
  · exact pcmp_swap _ _
theorem ordH_trans {p q r : ByteArray} (h1 : ordH p q < 0) (h2 : ordH q r < 0) : ordH p r < 0 := by
  unfold ordH ordL at *
  revert h1 h2
  cases validB p.data.toList <;> cases validB q.data.toList <;> cases validB r.data.toList <;> intro h1 h2
  · exact cb_trans h1 h2
  · show (-1 : Int) < 0; decide
  · cases h2
  · show (-1 : Int) < 0; decide
  · cases h1
  · cases h1
  · cases h2
  · exact pcmp_trans h1 h2
theorem ordH_valid {p q : ByteArray} (hp : validB p.data.toList = true) (hq : validB q.data.toList = true) : ordH p q = pcmp p.data.toList q.data.toList := by
  unfold ordH ordL
  rw [hp, hq]

/-! Entries. -/
def useH (p : ByteArray) : Bool := decide (p.size ≤ 200) && validB p.data.toList
def okH (h : Hv) : Bool := useH h.path && useH h.loc && decide (1 ≤ h.num)
theorem okH_path {h : Hv} (k : okH h = true) : validB h.path.data.toList = true := by
  simp only [okH, useH, Bool.and_eq_true] at k; exact k.1.1.2
theorem okH_size {h : Hv} (k : okH h = true) : h.path.size ≤ 200 ∧ h.loc.size ≤ 200 := by
  simp only [okH, useH, Bool.and_eq_true, decide_eq_true_eq] at k; exact ⟨k.1.1.1, k.1.2.1⟩

/-- In order, each path once. -/
def Srt (E : List Hv) : Prop := E.Pairwise fun a b => ordH a.path b.path < 0
theorem Srt.tail {a : Hv} {E : List Hv} (h : Srt (a :: E)) : Srt E := (List.pairwise_cons.1 h).2
theorem Srt.head {a : Hv} {E : List Hv} (h : Srt (a :: E)) : ∀ b ∈ E, ordH a.path b.path < 0 := (List.pairwise_cons.1 h).1
theorem Srt.inj {E : List Hv} (h : Srt E) {a b : Hv} (ha : a ∈ E) (hb : b ∈ E) (e : a.path = b.path) : a = b := by
  induction E with
  | nil => cases ha
  | cons x E ih =>
    have hx := h.head
    rcases List.mem_cons.1 ha with ea | ha2
    · rcases List.mem_cons.1 hb with eb | hb2
      · rw [ea, eb]
      · have := hx b hb2; rw [← e, ea, ordH_self] at this; exact absurd this (by decide)
    · rcases List.mem_cons.1 hb with eb | hb2
      · have := hx a ha2; rw [e, eb, ordH_self] at this; exact absurd this (by decide)
      · exact ih h.tail ha2 hb2
/-- A list in order is told by its members. -/
theorem Srt.ext : ∀ {E F : List Hv}, Srt E → Srt F → (∀ h, h ∈ E ↔ h ∈ F) → E = F
  | [], [], _, _, _ => rfl
  | [], b :: F, _, _, h => absurd ((h b).2 (List.mem_cons_self ..)) (by simp)
  | a :: E, [], _, _, h => absurd ((h a).1 (List.mem_cons_self ..)) (by simp)
  | a :: E, b :: F, hE, hF, h => by
    have e : a = b := by
      rcases List.mem_cons.1 ((h a).1 (List.mem_cons_self ..)) with e | ha
      · exact e
      · rcases List.mem_cons.1 ((h b).2 (List.mem_cons_self ..)) with e | hb
        · exact e.symm
        · exact absurd (ordH_trans (hF.head a ha) (hE.head b hb)) (by rw [ordH_self]; decide)
    subst e
    congr 1
    refine Srt.ext hE.tail hF.tail fun q => ⟨fun hq => ?_, fun hq => ?_⟩
    · rcases List.mem_cons.1 ((h q).1 (List.mem_cons_of_mem _ hq)) with e | k
      · subst e; exact absurd (hE.head q hq) (by rw [ordH_self]; decide)
      · exact k
    · rcases List.mem_cons.1 ((h q).2 (List.mem_cons_of_mem _ hq)) with e | k
      · subst e; exact absurd (hF.head q hq) (by rw [ordH_self]; decide)
      · exact k

/-- A list with one entry more, in the place of that of the same path. -/
def putH : List Hv → Hv → List Hv
  | [], h => [h]
  | a :: t, h => if a.path = h.path then h :: t else if 0 < ordH a.path h.path then h :: a :: t else a :: putH t h
theorem mem_putH : ∀ {E : List Hv} (h : Hv) (_hE : Srt E) (q : Hv), q ∈ putH E h ↔ q = h ∨ (q ∈ E ∧ q.path ≠ h.path)
  | [], h, _, q => by simp [putH]
  | a :: t, h, hE, q => by
    unfold putH
    by_cases e : a.path = h.path
    · rw [if_pos e]
      constructor
      · intro hq
        rcases List.mem_cons.1 hq with rfl | hq
        · exact .inl rfl
        · refine .inr ⟨List.mem_cons_of_mem _ hq, fun k => ?_⟩
          have := hE.head q hq
          rw [k, e, ordH_self] at this
          exact absurd this (by decide)
      · rintro (rfl | ⟨hq, k⟩)
        · exact List.mem_cons_self ..
        · rcases List.mem_cons.1 hq with rfl | hq
          · exact absurd e k
          · exact List.mem_cons_of_mem _ hq
    · rw [if_neg e]
      by_cases g : 0 < ordH a.path h.path
      · rw [if_pos g]
        constructor
        · intro hq
          rcases List.mem_cons.1 hq with rfl | hq
          · exact .inl rfl
          · refine .inr ⟨hq, fun k => ?_⟩
            rcases List.mem_cons.1 hq with rfl | hq2
            · exact e k
            · have h1 := hE.head q hq2
              rw [k] at h1
              omega
        · rintro (rfl | ⟨hq, _⟩)
          · exact List.mem_cons_self ..
          · exact List.mem_cons_of_mem _ hq
      · rw [if_neg g, List.mem_cons, mem_putH h hE.tail q, List.mem_cons]
        constructor
        · rintro (rfl | rfl | ⟨hq, k⟩)
          · exact .inr ⟨.inl rfl, e⟩
          · exact .inl rfl
          · exact .inr ⟨.inr hq, k⟩
        · rintro (rfl | ⟨rfl | hq, k⟩)
          · exact .inr (.inl rfl)
          · exact .inl rfl
          · exact .inr (.inr ⟨hq, k⟩)
theorem srt_putH : ∀ {E : List Hv} (h : Hv), Srt E → Srt (putH E h)
  | [], h, _ => by simp [putH, Srt]
  | a :: t, h, hE => by
    unfold putH
    by_cases e : a.path = h.path
    · rw [if_pos e]
      refine List.pairwise_cons.2 ⟨fun b hb => ?_, hE.tail⟩
      have := hE.head b hb
      rwa [e] at this
    · rw [if_neg e]
      by_cases g : 0 < ordH a.path h.path
      · rw [if_pos g]
        have h1 : ordH h.path a.path < 0 := by rw [ordH_swap]; omega
        refine List.pairwise_cons.2 ⟨fun b hb => ?_, hE⟩
        rcases List.mem_cons.1 hb with rfl | hb
        · exact h1
        · exact ordH_trans h1 (hE.head b hb)
      · rw [if_neg g]
        refine List.pairwise_cons.2 ⟨fun b hb => ?_, srt_putH h hE.tail⟩
        rcases (mem_putH h hE.tail b).1 hb with rfl | ⟨hb, _⟩
        · have h1 : ordH a.path b.path ≠ 0 := fun k => e (ordH_zero k)
          omega
        · exact hE.head b hb
def putAll (E l : List Hv) : List Hv := l.foldl putH E
theorem srt_putAll {l : List Hv} : ∀ {E : List Hv}, Srt E → Srt (putAll E l) := by
  induction l with
  | nil => intro E h; exact h
  | cons a t ih => intro E h; exact ih (srt_putH a h)
/-- Each path once. -/
def Once (l : List Hv) : Prop := l.Pairwise fun a b => a.path ≠ b.path
theorem mem_putAll {l : List Hv} : ∀ {E : List Hv}, Srt E → Once l → ∀ q, q ∈ putAll E l ↔ q ∈ l ∨ (q ∈ E ∧ ∀ a ∈ l, q.path ≠ a.path) := by
  induction l with
  | nil => intro E h _ q; simp [putAll]
  | cons a t ih =>
    intro E h ho q
    obtain ⟨ha, ht⟩ := List.pairwise_cons.1 ho
    have := ih (srt_putH a h) ht q
    rw [show putAll E (a :: t) = putAll (putH E a) t from rfl, this, mem_putH a h q]
    constructor
    · rintro (h1 | ⟨rfl | ⟨h1, h2⟩, h3⟩)
      · exact .inl (List.mem_cons_of_mem _ h1)
      · exact .inl (List.mem_cons_self ..)
      · refine .inr ⟨h1, fun b hb => ?_⟩
        rcases List.mem_cons.1 hb with rfl | hb
        · exact h2
        · exact h3 b hb
    · rintro (h1 | ⟨h1, h2⟩)
      · rcases List.mem_cons.1 h1 with rfl | h1
        · exact .inr ⟨.inl rfl, fun b hb k => ha b hb k⟩
        · exact .inl h1
      · exact .inr ⟨.inr ⟨h1, h2 a (List.mem_cons_self ..)⟩, fun b hb => h2 b (List.mem_cons_of_mem _ hb)⟩

/-! Check. -/
def chkH (dn : List Hv) : List Hv → Int
  | [] => 0
  | h :: t => if (!okH h || match dn.getLast? with | some q => decide (0 ≤ ordH q.path h.path) | none => false) then 340 else if dn.any (fun q => q.loc == h.loc) then 341 else chkH (dn ++ [h]) t
def checkH (l : List Hv) : Int := if 1024 < l.length then 342 else chkH [] l

end Go.Proofs.YtjjdffafibonhaaGreatDoor
