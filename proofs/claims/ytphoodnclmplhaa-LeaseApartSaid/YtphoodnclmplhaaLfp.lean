/-
  What a call may do to the leases of a table; a map that follows them (plain).
-/
import Derived.Test.YtphoodnclmplhaaSam0
import Derived.Test.YtphoodnclmplhaaPtm
namespace Go.Proofs.Ytphoodnclmplhaa
open Go.RowKit

/-- The leases of each path go on. -/
def Mono (T T' : Tab) : Prop := ∀ p was, lk T.m p = some was → ∃ y, lk T'.m p = some y ∧ was.fence ≤ y.fence ∧ (was.fence = y.fence → was.holder = y.holder ∧ was.since = y.since)
theorem Mono.same {T T' : Tab} (h : T'.m = T.m) : Mono T T' := fun p was hl => ⟨was, h ▸ hl, Int.le_refl _, fun _ => ⟨rfl, rfl⟩⟩
theorem Mono.put {T : Tab} {c : Int} {p : ByteArray} {l : Lease} (h : ∀ was, lk T.m p = some was → was.fence ≤ l.fence ∧ (was.fence = l.fence → was.holder = l.holder ∧ was.since = l.since)) : Mono T ⟨c, pt T.m p l⟩ := fun q was hl => by
  dsimp only
  rw [lk_pt]
  cases hq : (q == p)
  · exact ⟨was, hl, Int.le_refl _, fun _ => ⟨rfl, rfl⟩⟩
  · rw [(ba_beq _ _).1 hq] at hl
    exact ⟨l, rfl, h was hl⟩
theorem mono_do {k : Nat} {T : Tab} (hi : TabInv k T) (o : LOp) : Mono T (doT T o).1 := by
  have he : ∀ {p : ByteArray} {l : Lease}, lk T.m p = some l → Mono T (endT T l) := fun {p l} hl => by
    have e : l.path = p := (hi.found hl).path
    unfold endT
    rw [e]
    exact Mono.put fun was hw => by
      rw [hl] at hw
      cases hw
      exact ⟨Int.le_refl _, fun _ => ⟨rfl, rfl⟩⟩
  unfold doT
  split
  · unfold acqT
    split
    · exact Mono.same rfl
    split
    · exact Mono.same rfl
    split
    · exact Mono.same rfl
    split
    · rename_i hl
      split
      · exact Mono.same rfl
      · exact Mono.put fun was hw => by rw [hl] at hw; cases hw
    · rename_i l hl
      split
      · exact Mono.same rfl
      split
      · exact Mono.same rfl
      · exact Mono.put fun was hw => by
          rw [hl] at hw
          cases hw
          dsimp only
          exact ⟨by omega, fun h => by omega⟩
  split
  · unfold renT
    split
    · exact Mono.same rfl
    split
    · exact Mono.same rfl
    · rename_i l hl
      split
      · exact Mono.put fun was hw => by
          rw [hl] at hw
          cases hw
          exact ⟨Int.le_refl _, fun _ => ⟨rfl, rfl⟩⟩
      · exact Mono.same rfl
  split
  · dsimp only
    unfold relT
    split
    · exact Mono.same rfl
    · rename_i l hl
      split
      · exact he hl
      · exact Mono.same rfl
  split
  · dsimp only
    unfold brkT
    split
    · exact Mono.same rfl
    · rename_i l hl
      split
      · exact he hl
      · exact Mono.same rfl
  · dsimp only
    unfold advT
    split
    · exact Mono.same rfl
    · exact Mono.same rfl

/-- What is granted begins where the last one has ended, with the next number. -/
theorem acq_ok {k : Nat} {T : Tab} (hi : TabInv k T) {p hd : ByteArray} {n : Int} {lp lh : ByteArray} {lf ls lu : Int} (hx : (acqT T p hd n).2.1 = ⟨lp, lh, lf, ls, lu⟩) (h : (acqT T p hd n).2.2 = 0) :
    lp = p ∧ lh = hd ∧ ls = T.clk ∧ (acqT T p hd n).1.clk = T.clk ∧ ls < lu ∧ (lk T.m p = none → lf = 1) ∧ (∀ l, lk T.m p = some l → lf = l.fence + 1 ∧ l.til ≤ ls ∧ 0 ≤ l.fence ∧ l.fence ≤ k) := by
  unfold acqT at hx h ⊢
  split at h
  · simp at h
  rename_i h1
  rw [if_neg h1] at hx ⊢
  split at h
  · simp at h
  rename_i h2
  rw [if_neg h2] at hx ⊢
  split at h
  · simp at h
  rename_i h3
  rw [if_neg h3] at hx ⊢
  have hn : 1 ≤ n ∧ n ≤ 1048576 := by simpa [isTermB] using h3
  cases hl : lk T.m p with
  | none =>
    simp only [hl] at hx h ⊢
    split at h
    · simp at h
    · rename_i h4
      rw [if_neg h4] at hx ⊢
      dsimp only at hx ⊢
      cases hx
      exact ⟨rfl, rfl, rfl, rfl, by omega, fun _ => rfl, fun l hl => by cases hl⟩
  | some l =>
    simp only [hl] at hx h ⊢
    split at h
    · simp at h
    · rename_i h4
      rw [if_neg h4] at hx ⊢
      split at h
      · simp at h
      · rename_i h5
        rw [if_neg h5] at hx ⊢
        dsimp only at hx ⊢
        cases hx
        have hf := hi.found hl
        have hs := hf.s1
        have hf0 := hf.f0
        have hf1 := hf.f1
        dsimp only at hs hf0 hf1
        have h6 : ¬ (l.since ≤ T.clk ∧ T.clk < l.til) := by simpa [hNow] using h4
        refine ⟨rfl, rfl, rfl, rfl, by omega, fun h => (by cases h), fun l' hl' => ?_⟩
        cases hl'
        exact ⟨rfl, by omega, by omega, hf1⟩

/-- A map behind the leases of a list. -/
def putL (M : List (ByteArray × Lease)) (E : List Lease) : List (ByteArray × Lease) := E.foldl (fun M x => pt M x.path x) M
theorem putL_snoc (M : List (ByteArray × Lease)) (E : List Lease) (x : Lease) : putL M (E ++ [x]) = pt (putL M E) x.path x := by simp [putL]
theorem putL_take {M : List (ByteArray × Lease)} {E : List Lease} {j : Nat} (h : j < E.length) : putL M (E.take (j + 1)) = pt (putL M (E.take j)) E[j].path E[j] := by
  rw [List.take_succ_eq_append_getElem h, putL_snoc]
theorem lk_putL (p : ByteArray) : ∀ (E : List Lease) (M : List (ByteArray × Lease)), (∀ x ∈ E, x.path ≠ p) → lk (putL M E) p = lk M p
  | [], _, _ => rfl
  | x :: r, M, h => by
    show lk (putL (pt M x.path x) r) p = _
    rw [lk_putL p r _ (fun y hy => h y (List.mem_cons_of_mem _ hy)), lk_pt, if_neg]
    intro e
    exact h x (by simp) ((ba_beq _ _).1 e).symm
theorem lk_putL_mem : ∀ (E : List Lease) (M : List (ByteArray × Lease)), (E.map (·.path)).Nodup → ∀ x ∈ E, lk (putL M E) x.path = some x
  | [], _, _, _, h => by cases h
  | y :: r, M, hn, x, hx => by
    rw [List.map_cons, List.nodup_cons] at hn
    show lk (putL (pt M y.path y) r) x.path = _
    rcases List.mem_cons.1 hx with rfl | hx
    · rw [lk_putL x.path r _ (fun z hz e => hn.1 (List.mem_map.2 ⟨z, hz, e⟩)), lk_pt, if_pos ((ba_beq _ _).2 rfl)]
    · exact lk_putL_mem r _ hn.2 x hx
theorem SrtL.paths {E : List Lease} (h : SrtL E) : (E.map (·.path)).Nodup := by
  refine List.Pairwise.map _ (fun a b hab e => ?_) h
  rw [e, ordH_self] at hab
  omega
theorem lk_putL_next {M : List (ByteArray × Lease)} {E : List Lease} (h : SrtL E) {j : Nat} (hj : j < E.length) : lk (putL M (E.take j)) E[j].path = lk M E[j].path :=
  lk_putL _ _ _ fun x hx e => by
    have hn := h.paths
    rw [← List.take_append_drop j E, List.map_append, List.nodup_append] at hn
    refine hn.2.2 x.path (List.mem_map.2 ⟨x, hx, rfl⟩) E[j].path (List.mem_map.2 ⟨E[j], ?_, rfl⟩) e
    rw [List.drop_eq_getElem_cons hj]
    exact List.mem_cons_self
theorem lk_putL_all {M : List (ByteArray × Lease)} {T T' : Tab} {E : List Lease} (hM : ∀ p, lk M p = lk T.m p) (hmo : Mono T T') (hok : TOk T') (h1 : SrtL E) (h2 : E.Perm (T'.m.map (·.2))) : ∀ p, lk (putL M E) p = lk T'.m p := fun p => by
  cases hl : lk T'.m p with
  | some y =>
    obtain ⟨x, hx, rfl, rfl⟩ := lk_mem hl
    have hp := hok.path x hx
    have := lk_putL_mem E M h1.paths x.2 (h2.mem_iff.2 (List.mem_map.2 ⟨x, hx, rfl⟩))
    rw [hp] at this
    exact this
  | none =>
    rw [lk_putL p E M, hM]
    · cases hl2 : lk T.m p with
      | none => rfl
      | some was =>
        obtain ⟨y, hy, _⟩ := hmo p was hl2
        rw [hl] at hy
        cases hy
    · intro x hx e
      obtain ⟨z, hz, rfl⟩ := List.mem_map.1 (h2.mem_iff.1 hx)
      have hp := hok.path z hz
      have := lk_of_mem hok.once hz
      rw [← hp, e, hl] at this
      cases this
theorem lk_E {T' : Tab} {E : List Lease} (hok : TOk T') (h2 : E.Perm (T'.m.map (·.2))) {x : Lease} (hx : x ∈ E) : lk T'.m x.path = some x := by
  obtain ⟨z, hz, rfl⟩ := List.mem_map.1 (h2.mem_iff.1 hx)
  have hp := hok.path z hz
  have := lk_of_mem hok.once hz
  rw [← hp] at this
  exact this

end Go.Proofs.Ytphoodnclmplhaa
