/-
  What Set, Drop and Replace make of a list, in plain words.
-/
import Derived.Test.YtjjdffafibonhaaGreatDoorHvO
namespace Go.Proofs.YtjjdffafibonhaaGreatDoor
open Go.RowKit

def anyP (l : List Hv) (p : ByteArray) : Bool := l.any fun q => q.path == p
theorem anyP_iff {l : List Hv} {p : ByteArray} : anyP l p = true ↔ ∃ q ∈ l, q.path = p := by
  unfold anyP
  rw [List.any_eq_true]
  exact ⟨fun ⟨q, h1, h2⟩ => ⟨q, h1, (ba_beq _ _).1 h2⟩, fun ⟨q, h1, h2⟩ => ⟨q, h1, (ba_beq _ _).2 h2⟩⟩
theorem anyP_false {l : List Hv} {p : ByteArray} : anyP l p = false ↔ ∀ q ∈ l, q.path ≠ p := by
  rw [← Bool.not_eq_true, anyP_iff]
  exact ⟨fun h q hq e => h ⟨q, hq, e⟩, fun h ⟨q, hq, e⟩ => h q hq e⟩
/-- The entries are valid, each path once. -/
def formF (dn : List Hv) : List Hv → Bool
  | [] => true
  | h :: t => !anyP dn h.path && okH h && formF (dn ++ [h]) t
def formB (l : List Hv) : Bool := formF [] l
theorem formF_ok : ∀ {l dn : List Hv}, formF dn l = true → (∀ h ∈ l, okH h = true) ∧ (Once dn → Once (dn ++ l))
  | [], dn, _ => ⟨(fun h hh => by cases hh), (fun h => by rwa [List.append_nil])⟩
  | a :: t, dn, h => by
    simp only [formF, Bool.and_eq_true, Bool.not_eq_true'] at h
    obtain ⟨⟨h1, h2⟩, h3⟩ := h
    obtain ⟨i1, i2⟩ := formF_ok h3
    refine ⟨fun q hq => ?_, fun ho => ?_⟩
    · rcases List.mem_cons.1 hq with rfl | hq
      · exact h2
      · exact i1 q hq
    · have : Once (dn ++ [a]) := by
        refine List.pairwise_append.2 ⟨ho, List.pairwise_singleton .., fun x hx y hy => ?_⟩
        rw [List.mem_singleton] at hy
        subst hy
        exact anyP_false.1 h1 x hx
      have := i2 this
      rwa [List.append_assoc, List.singleton_append] at this
theorem formB_ok {l : List Hv} (h : formB l = true) : (∀ q ∈ l, okH q = true) ∧ Once l := by
  obtain ⟨h1, h2⟩ := formF_ok h
  exact ⟨h1, h2 List.Pairwise.nil⟩
theorem Once.nodup {l : List Hv} (h : Once l) : l.Nodup := h.imp fun hne e => hne (by rw [e])
theorem Srt.once {l : List Hv} (h : Srt l) : Once l := h.imp fun hlt e => by rw [e, ordH_self] at hlt; exact absurd hlt (by decide)
/-- What Set adds of the old entries. -/
def restOf (l V : List Hv) : List Hv := V.filter fun h => !anyP l h.path
theorem once_rest {l V : List Hv} (h1 : Once l) (h2 : Once V) : Once (l ++ restOf l V) := by
  refine List.pairwise_append.2 ⟨h1, h2.filter _, fun x hx y hy => ?_⟩
  have h3 := (List.mem_filter.1 hy).2
  rw [Bool.not_eq_true'] at h3
  exact anyP_false.1 h3 x hx
theorem set_perm {E l V : List Hv} (hE : Srt E) (hf : Once l) (hV : V.Perm E) : (l ++ restOf l V).Perm (putAll E l) := by
  have hVo : Once V := (hV.pairwise_iff (fun h => h.symm)).2 hE.once
  refine (List.perm_ext_iff_of_nodup (once_rest hf hVo).nodup (srt_putAll hE).once.nodup).2 fun q => ?_
  rw [mem_putAll hE hf, List.mem_append]
  refine or_congr Iff.rfl ?_
  unfold restOf
  rw [List.mem_filter, Bool.not_eq_true', anyP_false, hV.mem_iff]
  exact and_congr Iff.rfl ⟨fun h a ha e => h a ha e.symm, fun h a ha e => h a ha e.symm⟩
noncomputable def setI (E l : List Hv) : Int := if formB l = false then 340 else if ¬ ((putAll E l).map (·.loc)).Nodup then 341 else if 1024 < (putAll E l).length then 342 else 0
theorem HvOk.set {E l : List Hv} (h : HvOk E) (hi : setI E l = 0) : HvOk (putAll E l) := by
  unfold setI at hi
  split at hi
  · cases hi
  · rename_i h1
    split at hi
    · cases hi
    · rename_i h2
      split at hi
      · cases hi
      · rename_i h3
        obtain ⟨f1, f2⟩ := formB_ok (by simpa using h1)
        refine ⟨srt_putAll h.srt, fun q hq => ?_, Decidable.not_not.1 h2, by omega⟩
        rcases (mem_putAll h.srt f2 q).1 hq with hq | ⟨hq, _⟩
        · exact f1 q hq
        · exact h.ok q hq
theorem shorter : ∀ {M : List ByteArray}, ¬ M.Nodup → ∃ M' : List ByteArray, M'.length < M.length ∧ ∀ x, x ∈ M ↔ x ∈ M'
  | [], h => absurd List.nodup_nil h
  | a :: t, h => by
    by_cases ha : a ∈ t
    · refine ⟨t, by simp, fun x => ⟨fun hx => ?_, fun hx => List.mem_cons_of_mem _ hx⟩⟩
      rcases List.mem_cons.1 hx with rfl | hx
      · exact ha
      · exact hx
    · obtain ⟨t', h1, h2⟩ := shorter (M := t) (fun hn => h (List.nodup_cons.2 ⟨ha, hn⟩))
      refine ⟨a :: t', by simpa using h1, fun x => ?_⟩
      rw [List.mem_cons, List.mem_cons, h2]
/-- Keys that are there for these texts, each once. -/
structure KeysOf (K M : List ByteArray) : Prop where
  nd : K.Nodup
  mem : ∀ k, k ∈ K ↔ k ∈ M
theorem KeysOf.lt {K M : List ByteArray} (h : KeysOf K M) : K.length < M.length ↔ ¬ M.Nodup := by
  constructor
  · intro hl hn
    have := nodup_le M K hn (fun x hx => (h.mem x).2 hx)
    omega
  · intro hn
    obtain ⟨M', h1, h2⟩ := shorter hn
    exact Nat.lt_of_le_of_lt (nodup_le K M' h.nd (fun x hx => (h2 x).1 ((h.mem x).1 hx))) h1

def dropI (E : List Hv) (ps : List ByteArray) : Int := if ps.all (fun p => anyP E p) then 0 else 343
def dropE (E : List Hv) (ps : List ByteArray) : List Hv := E.filter fun h => !ps.any (fun p => p == h.path)
theorem HvOk.drop {E : List Hv} (h : HvOk E) (ps : List ByteArray) : HvOk (dropE E ps) := by
  refine ⟨h.srt.filter _, fun q hq => h.ok q (List.mem_filter.1 hq).1, ?_, Nat.le_trans (List.length_filter_le _ _) h.len⟩
  exact h.locs.sublist (List.filter_sublist.map _)

theorem srt_snoc {dn : List Hv} {h : Hv} (hs : Srt dn) (hl : ∀ q, dn.getLast? = some q → ordH q.path h.path < 0) : Srt (dn ++ [h]) := by
  refine List.pairwise_append.2 ⟨hs, List.pairwise_singleton .., fun x hx y hy => ?_⟩
  rw [List.mem_singleton] at hy
  subst hy
  rcases List.eq_nil_or_concat dn with rfl | ⟨t, q, rfl⟩
  · cases hx
  · rw [List.concat_eq_append] at hs hx hl
    have h1 := hl q (by simp)
    rcases List.mem_append.1 hx with hx | hx
    · have h2 := (List.pairwise_append.1 hs).2.2 x hx q (List.mem_singleton.2 rfl)
      exact ordH_trans h2 h1
    · rw [List.mem_singleton] at hx
      subst hx
      exact h1
theorem chkH_bad (dn : List Hv) (h : Hv) (t : List Hv) : ∃ bad : Bool, chkH dn (h :: t) = (if bad = true then 340 else if (dn.any fun q => q.loc == h.loc) = true then 341 else chkH (dn ++ [h]) t) ∧ (bad = false → okH h = true ∧ ∀ q, dn.getLast? = some q → ordH q.path h.path < 0) := by
  refine ⟨_, chkH_step dn h t, fun hb => ?_⟩
  rw [Bool.or_eq_false_iff] at hb
  refine ⟨by simpa using hb.1, fun q hq => ?_⟩
  have h2 := hb.2
  rw [hq] at h2
  simp only [decide_eq_false_iff_not] at h2
  omega
theorem chkH_ok : ∀ {l dn : List Hv}, chkH dn l = 0 → Srt dn → (∀ h ∈ dn, okH h = true) → (dn.map (·.loc)).Nodup → Srt (dn ++ l) ∧ (∀ h ∈ dn ++ l, okH h = true) ∧ ((dn ++ l).map (·.loc)).Nodup
  | [], dn, _, h1, h2, h3 => by rw [List.append_nil]; exact ⟨h1, h2, h3⟩
  | a :: t, dn, h, h1, h2, h3 => by
    obtain ⟨bad, he, hbad⟩ := chkH_bad dn a t
    rw [he] at h
    cases bad
    · obtain ⟨ho, hlast⟩ := hbad rfl
      rw [if_neg (by decide)] at h
      by_cases hloc : (dn.any fun q => q.loc == a.loc) = true
      · rw [if_pos hloc] at h
        exact absurd h (by decide)
      · rw [if_neg hloc] at h
        have hs : Srt (dn ++ [a]) := srt_snoc h1 hlast
        have hl : ((dn ++ [a]).map (·.loc)).Nodup := by
          rw [List.map_append, List.map_singleton, List.nodup_append]
          refine ⟨h3, by simp, fun x hx y hy e => ?_⟩
          rw [List.mem_singleton] at hy
          subst hy
          subst e
          obtain ⟨q, hq, e2⟩ := List.mem_map.1 hx
          exact hloc (List.any_eq_true.2 ⟨q, hq, (ba_beq _ _).2 e2⟩)
        have := chkH_ok h hs (fun q hq => by
          rcases List.mem_append.1 hq with hq | hq
          · exact h2 q hq
          · rw [List.mem_singleton] at hq
            subst hq
            exact ho) hl
        rwa [List.append_assoc, List.singleton_append] at this
    · rw [if_pos rfl] at h
      exact absurd h (by decide)
theorem HvOk.of_check {l : List Hv} (h : checkH l = 0) : HvOk l := by
  unfold checkH at h
  split at h
  · cases h
  · obtain ⟨h1, h2, h3⟩ := chkH_ok h List.Pairwise.nil (fun q hq => by cases hq) List.nodup_nil
    exact ⟨h1, h2, h3, by omega⟩

end Go.Proofs.YtjjdffafibonhaaGreatDoor
