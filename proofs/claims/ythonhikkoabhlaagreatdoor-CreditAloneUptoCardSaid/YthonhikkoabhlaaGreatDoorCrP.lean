/-
  The plain part of credit: what a member of a line carries, adds and is credited with; the depots that changes build.
-/
import Derived.Test.YthonhikkoabhlaaGreatDoorDpV
namespace Go.Proofs.YthonhikkoabhlaaGreatDoor
open Go.RowKit

instance : LawfulBEq ByteArray where
  eq_of_beq h := (ba_beq _ _).1 h
  rfl := ba_self _
abbrev Fil := ByteArray × Int
def Rev.fil (v : Rev) : Fil := (v.path, v.num)
/-- The sets of a member. -/
structure PS where
  car : Fil → Prop
  con : Fil → Prop
  cre : Fil → Prop
def noPS : PS := ⟨fun _ => False, fun _ => False, fun _ => False⟩
def isM (f : Fil) (v : Rev) : Bool := v.act != 5 && v.fil == f
def memD (d : List Rev) (f : Fil) : Option Rev := d.find? (isM f)
def rkD (d : List Rev) (f : Fil) : Nat := d.findIdx (isM f)
def recsD (R : List Rcd) (f : Fil) : List Rcd := R.filter fun r => (r.dst, r.num) == f
def origD (R : List Rcd) (f : Fil) : Bool := (recsD R f).isEmpty || (recsD R f).any fun r => r.how == 4
def beforeF (v : Rev) : Option Fil := if v.act == 1 then none else if v.act == 4 then some (v.src, v.srcn) else some (v.path, v.num - 1)
def prevF (d : List Rev) (f : Fil) : Option Fil := match memD d f with
  | none => none
  | some v => (beforeF v).filter fun u => (memD d u).isSome
/-- The sets of a member, out of those of the members that it hangs on. -/
def stepCar (d : Dep) (t : Fil → PS) (v : Fil) : Fil → Prop := fun f =>
  (origD d.recs v = true ∧ f = v) ∨ (∃ u, prevF d.revs v = some u ∧ (t u).car f) ∨
    ∃ r, r ∈ recsD d.recs v ∧ ((r.how = 1 ∧ (t (r.src, r.lst)).car f) ∨ ((r.how = 2 ∨ r.how = 4) ∧ ∃ n, (r.fst ≤ n ∧ n ≤ r.lst) ∧ (t (r.src, n)).con f))
def stepS (d : Dep) (t : Fil → PS) (v : Fil) : PS :=
  ⟨stepCar d t v, fun f => stepCar d t v f ∧ ¬ ∃ u, prevF d.revs v = some u ∧ (t u).car f,
   fun f => (∃ u, prevF d.revs v = some u ∧ (t u).cre f) ∨ stepCar d t v f ∨ ∃ r, r ∈ recsD d.recs v ∧ r.how = 3 ∧ ∃ n, (r.fst ≤ n ∧ n ≤ r.lst) ∧ (t (r.src, n)).con f⟩
def tabN (d : Dep) : Nat → Fil → PS
  | 0, _ => noPS
  | k + 1, f => if (memD d.revs f).isSome = true then stepS d (tabN d k) f else noPS
def tabD (d : Dep) (f : Fil) : PS := tabN d d.revs.length f

/-- What a depot's history gives: what a member hangs on came before it. -/
structure Hist (d : Dep) : Prop where
  uniq : d.revs.Pairwise fun a b => a.fil ≠ b.fil
  prev : ∀ f u, prevF d.revs f = some u → rkD d.revs u < rkD d.revs f
  has : ∀ f v, memD d.revs f = some v → v.act ≠ 1 → (prevF d.revs f).isSome = true
  goes : ∀ r ∈ d.recs, (memD d.revs (r.dst, r.num)).isSome = true
  span : ∀ r ∈ d.recs, 1 ≤ r.fst ∧ r.fst ≤ r.lst
  src : ∀ r ∈ d.recs, ∀ n, r.fst ≤ n → n ≤ r.lst → (memD d.revs (r.src, n)).isSome = true ∧ rkD d.revs (r.src, n) < rkD d.revs (r.dst, r.num)
  how : ∀ r ∈ d.recs, 1 ≤ r.how ∧ r.how ≤ 4

theorem isM_iff {f : Fil} {v : Rev} : isM f v = true ↔ v.act ≠ 5 ∧ v.fil = f := by
  unfold isM
  rw [Bool.and_eq_true, bne_iff_ne, beq_iff_eq]
theorem mem_some {d : List Rev} {f : Fil} {v : Rev} (h : memD d f = some v) : v ∈ d ∧ v.act ≠ 5 ∧ v.fil = f := ⟨List.mem_of_find?_eq_some h, isM_iff.1 (List.find?_some h)⟩
theorem rk_lt {d : List Rev} {f : Fil} (h : (memD d f).isSome = true) : rkD d f < d.length := by
  unfold memD at h
  rw [List.find?_isSome] at h
  exact List.findIdx_lt_length.2 h
theorem rk_at {d : List Rev} {f : Fil} (h : (memD d f).isSome = true) : ∃ v, d[rkD d f]? = some v ∧ memD d f = some v := by
  have hl := rk_lt h
  have h1 : isM f d[rkD d f] = true := List.findIdx_getElem (w := hl)
  refine ⟨d[rkD d f], List.getElem?_eq_getElem hl, ?_⟩
  unfold memD
  rw [List.find?_eq_some_iff_getElem]
  refine ⟨h1, rkD d f, hl, rfl, fun j hj => ?_⟩
  have := List.not_of_lt_findIdx hj
  simpa using this
/-- A member stands where its name says. -/
theorem uniq_at {d : List Rev} (hu : d.Pairwise fun a b => a.fil ≠ b.fil) {i : Nat} {v : Rev} (h : d[i]? = some v) (ha : v.act ≠ 5) : memD d v.fil = some v ∧ rkD d v.fil = i := by
  have hi := (List.getElem?_eq_some_iff.1 h).1
  have hv := (List.getElem?_eq_some_iff.1 h).2
  have hm : isM v.fil d[i] = true := by rw [hv]; exact isM_iff.2 ⟨ha, rfl⟩
  have hno : ∀ j, (hj : j < i) → isM v.fil (d[j]'(by omega)) = false := fun j hj => by
    cases hb : isM v.fil (d[j]'(by omega))
    · rfl
    · have h1 := (isM_iff.1 hb).2
      have h2 := List.pairwise_iff_getElem.1 hu j i (by omega) hi hj
      rw [hv] at h2
      exact absurd h1 h2
  refine ⟨?_, ?_⟩
  · unfold memD
    rw [List.find?_eq_some_iff_getElem]
    exact ⟨isM_iff.2 ⟨ha, rfl⟩, i, hi, hv, fun j hj => by rw [hno j hj]; rfl⟩
  · unfold rkD
    rw [List.findIdx_eq hi]
    exact ⟨hm, fun j hj => by rw [hno j hj]⟩
theorem prevF_mem {d : List Rev} {f u : Fil} (h : prevF d f = some u) : (memD d u).isSome = true ∧ (memD d f).isSome = true := by
  unfold prevF at h
  cases hm : memD d f with
  | none => rw [hm] at h; cases h
  | some v =>
    rw [hm] at h
    have := (Option.filter_eq_some_iff.1 h).2
    exact ⟨this, rfl⟩
theorem recsD_mem {R : List Rcd} {f : Fil} {r : Rcd} : r ∈ recsD R f ↔ r ∈ R ∧ (r.dst, r.num) = f := by
  unfold recsD
  rw [List.mem_filter, beq_iff_eq]

section
variable {d : Dep} (H : Hist d)
include H
theorem step_car {t t' : Fil → PS} {f : Fil} (ht : ∀ u, rkD d.revs u < rkD d.revs f → (memD d.revs u).isSome = true → t u = t' u) : stepCar d t f = stepCar d t' f := by
  funext g
  unfold stepCar
  refine propext (or_congr Iff.rfl (or_congr ?_ ?_))
  · refine exists_congr fun u => and_congr_right fun hu => ?_
    rw [ht u (H.prev f u hu) (prevF_mem hu).1]
  · refine exists_congr fun r => and_congr_right fun hr => ?_
    obtain ⟨hr, e⟩ := recsD_mem.1 hr
    have hs := H.span r hr
    refine or_congr (and_congr_right fun _ => ?_) (and_congr_right fun _ => exists_congr fun n => and_congr_right fun hn => ?_)
    · have h1 := H.src r hr r.lst hs.2 (Int.le_refl _)
      rw [e] at h1
      rw [ht _ h1.2 h1.1]
    · have h1 := H.src r hr n hn.1 hn.2
      rw [e] at h1
      rw [ht _ h1.2 h1.1]
theorem step_congr {t t' : Fil → PS} {f : Fil} (ht : ∀ u, rkD d.revs u < rkD d.revs f → (memD d.revs u).isSome = true → t u = t' u) : stepS d t f = stepS d t' f := by
  unfold stepS
  rw [step_car H ht]
  have e1 : ∀ g, (∃ u, prevF d.revs f = some u ∧ (t u).car g) ↔ ∃ u, prevF d.revs f = some u ∧ (t' u).car g := fun g =>
    exists_congr fun u => and_congr_right fun hu => by rw [ht u (H.prev f u hu) (prevF_mem hu).1]
  have e2 : ∀ g, (∃ u, prevF d.revs f = some u ∧ (t u).cre g) ↔ ∃ u, prevF d.revs f = some u ∧ (t' u).cre g := fun g =>
    exists_congr fun u => and_congr_right fun hu => by rw [ht u (H.prev f u hu) (prevF_mem hu).1]
  have e3 : ∀ g, (∃ r, r ∈ recsD d.recs f ∧ r.how = 3 ∧ ∃ n, (r.fst ≤ n ∧ n ≤ r.lst) ∧ (t (r.src, n)).con g) ↔ ∃ r, r ∈ recsD d.recs f ∧ r.how = 3 ∧ ∃ n, (r.fst ≤ n ∧ n ≤ r.lst) ∧ (t' (r.src, n)).con g := fun g =>
    exists_congr fun r => and_congr_right fun hr => and_congr_right fun _ => exists_congr fun n => and_congr_right fun hn => by
      obtain ⟨hr, e⟩ := recsD_mem.1 hr
      have h1 := H.src r hr n hn.1 hn.2
      rw [e] at h1
      rw [ht _ h1.2 h1.1]
  congr 1
  · funext g
    exact propext (and_congr_right fun _ => not_congr (e1 g))
  · funext g
    exact propext (or_congr (e2 g) (or_congr Iff.rfl (e3 g)))
theorem tab_stable : ∀ (k k' : Nat) (f : Fil), rkD d.revs f < k → rkD d.revs f < k' → (memD d.revs f).isSome = true → tabN d k f = tabN d k' f
  | 0, _, _, h, _, _ => absurd h (by omega)
  | _ + 1, 0, _, _, h, _ => absurd h (by omega)
  | k + 1, k' + 1, f, h, h', hm => by
    unfold tabN
    rw [if_pos hm, if_pos hm]
    exact step_congr H fun u hu hmu => tab_stable k k' u (by omega) (by omega) hmu
theorem tab_fix {f : Fil} (hm : (memD d.revs f).isSome = true) : tabD d f = stepS d (tabD d) f := by
  have hl := rk_lt hm
  have h1 : tabD d f = tabN d (d.revs.length + 1) f := tab_stable H _ _ f hl (by omega) hm
  rw [h1]
  show (if (memD d.revs f).isSome = true then stepS d (tabN d d.revs.length) f else noPS) = _
  rw [if_pos hm]
  rfl
omit H in
theorem tab_out {f : Fil} (hm : memD d.revs f = none) : tabD d f = noPS := by
  unfold tabD
  cases d.revs.length with
  | zero => rfl
  | succ k =>
    unfold tabN
    rw [if_neg (by rw [hm]; decide)]
/-- Whatever is carried or credited is an original member that is not later. -/
theorem tab_mem : ∀ (k : Nat) (v : Fil), rkD d.revs v ≤ k → ∀ f, ((tabD d v).car f ∨ (tabD d v).con f ∨ (tabD d v).cre f) → (memD d.revs f).isSome = true ∧ rkD d.revs f ≤ rkD d.revs v ∧ origD d.recs f = true := by
  intro k
  induction k using Nat.strongRecOn with
  | ind k ih =>
    intro v hv f hf
    have hmv : (memD d.revs v).isSome = true := by
      cases hm : memD d.revs v with
      | some _ => rfl
      | none =>
        rw [tab_out hm] at hf
        rcases hf with hf | hf | hf <;> exact hf.elim
    have below : ∀ u, rkD d.revs u < rkD d.revs v → ((tabD d u).car f ∨ (tabD d u).con f ∨ (tabD d u).cre f) → (memD d.revs f).isSome = true ∧ rkD d.revs f ≤ rkD d.revs v ∧ origD d.recs f = true := fun u hu h => by
      obtain ⟨h1, h2, h3⟩ := ih (rkD d.revs u) (by omega) u (Nat.le_refl _) f h
      exact ⟨h1, by omega, h3⟩
    have car : stepCar d (tabD d) v f → (memD d.revs f).isSome = true ∧ rkD d.revs f ≤ rkD d.revs v ∧ origD d.recs f = true := fun h => by
      rcases h with ⟨ho, rfl⟩ | ⟨u, hu, h⟩ | ⟨r, hr, ⟨_, h⟩ | ⟨_, n, hn, h⟩⟩
      · exact ⟨hmv, Nat.le_refl _, ho⟩
      · exact below u (H.prev v u hu) (.inl h)
      · obtain ⟨hr, e⟩ := recsD_mem.1 hr
        have h1 := (H.src r hr r.lst (H.span r hr).2 (Int.le_refl _)).2
        rw [e] at h1
        exact below _ h1 (.inl h)
      · obtain ⟨hr, e⟩ := recsD_mem.1 hr
        have h1 := (H.src r hr n hn.1 hn.2).2
        rw [e] at h1
        exact below _ h1 (.inr (.inl h))
    rw [tab_fix H hmv] at hf
    rcases hf with hf | hf | hf
    · exact car hf
    · exact car hf.1
    · rcases hf with ⟨u, hu, h⟩ | h | ⟨r, hr, _, n, hn, h⟩
      · exact below u (H.prev v u hu) (.inr (.inr h))
      · exact car h
      · obtain ⟨hr, e⟩ := recsD_mem.1 hr
        have h1 := (H.src r hr n hn.1 hn.2).2
        rw [e] at h1
        exact below _ h1 (.inr (.inl h))
end

/-! The depots that changes build have such a history. -/
theorem asc_uniq {d : List Rev} (h : Asc d) : d.Pairwise fun a b => a.fil ≠ b.fil := by
  rw [List.pairwise_iff_getElem]
  intro i j hi hj hij e
  have h1 : (logD d d[i].path).Pairwise fun a b => a.num ≠ b.num := by
    have h2 : ((logD d d[i].path).map (·.num)).Pairwise (· ≠ ·) := by
      rw [h d[i].path, List.pairwise_map]
      exact (List.nodup_range (n := (logD d d[i].path).length)).imp fun hne e => hne (by omega)
    exact List.pairwise_map.1 h2
  unfold logD at h1
  rw [List.pairwise_filter, List.pairwise_iff_getElem] at h1
  have h3 := h1 i j hi hj hij (ba_self _) ((ba_beq _ _).2 (congrArg Prod.fst e).symm)
  exact h3 (congrArg Prod.snd e)
theorem asc_get {d : List Rev} (h : Asc d) {p : ByteArray} {n : Int} (h1 : 1 ≤ n) (h2 : n ≤ (logD d p).length) : ∃ v, getD' d p n = some v ∧ v ∈ d ∧ v.fil = (p, n) := by
  have hk : (n - 1).toNat < (logD d p).length := by omega
  have h3 := congrArg (fun l => l[(n - 1).toNat]?) (h p)
  simp only [List.getElem?_map, List.getElem?_eq_getElem hk, List.getElem?_range hk, Option.map_some, Option.some.injEq] at h3
  have hn : (logD d p)[(n - 1).toNat].num = n := by omega
  have hmem : (logD d p)[(n - 1).toNat] ∈ logD d p := List.getElem_mem hk
  cases hg : getD' d p n with
  | none =>
    unfold getD' at hg
    rw [List.find?_eq_none] at hg
    exact absurd (by simpa using hn) (hg _ hmem)
  | some v =>
    have hv := List.find?_some hg
    obtain ⟨h4, h5⟩ := log_mem (List.mem_of_find?_eq_some hg)
    exact ⟨v, rfl, h4, by unfold Rev.fil; rw [h5, show v.num = n from by simpa using hv]⟩
theorem get_fil {d : List Rev} {p : ByteArray} {n : Int} {v : Rev} (h : getD' d p n = some v) : v ∈ d ∧ v.fil = (p, n) := by
  have hv := List.find?_some h
  obtain ⟨h4, h5⟩ := log_mem (List.mem_of_find?_eq_some h)
  exact ⟨h4, by unfold Rev.fil; rw [h5, show v.num = n from by simpa using hv]⟩
theorem mem_of {d : List Rev} (hu : d.Pairwise fun a b => a.fil ≠ b.fil) {v : Rev} (hv : v ∈ d) (ha : v.act ≠ 5) : memD d v.fil = some v := by
  obtain ⟨i, hi⟩ := List.mem_iff_getElem?.1 hv
  exact (uniq_at hu hi ha).1
/-- The reference's look-up by the depot's log finds the same member. -/
theorem get_mem' {d : List Rev} (hu : d.Pairwise fun a b => a.fil ≠ b.fil) (p : ByteArray) (n : Int) : memD d (p, n) = (getD' d p n).filter fun v => v.act != 5 := by
  cases hm : memD d (p, n) with
  | some v =>
    obtain ⟨h1, h2, h3⟩ := mem_some hm
    cases hg : getD' d p n with
    | none =>
      unfold getD' at hg
      rw [List.find?_eq_none] at hg
      have h4 : v ∈ logD d p := List.mem_filter.2 ⟨h1, (ba_beq _ _).2 (congrArg Prod.fst h3)⟩
      have h5 : v.num = n := congrArg Prod.snd h3
      exact absurd (beq_iff_eq.2 h5) (hg v h4)
    | some u =>
      obtain ⟨h4, h5⟩ := get_fil hg
      by_cases ha : u.act = 5
      · obtain ⟨i, hi⟩ := List.mem_iff_getElem?.1 h1
        obtain ⟨j, hj⟩ := List.mem_iff_getElem?.1 h4
        have e : v.fil = u.fil := h3.trans h5.symm
        have hi' := (List.getElem?_eq_some_iff.1 hi)
        have hj' := (List.getElem?_eq_some_iff.1 hj)
        rcases Nat.lt_trichotomy i j with hlt | rfl | hlt
        · have := List.pairwise_iff_getElem.1 hu i j hi'.1 hj'.1 hlt
          rw [hi'.2, hj'.2] at this
          exact absurd e this
        · rw [hi] at hj
          cases hj
          exact absurd ha h2
        · have := List.pairwise_iff_getElem.1 hu j i hj'.1 hi'.1 hlt
          rw [hi'.2, hj'.2] at this
          exact absurd e.symm this
      · have h6 := mem_of hu h4 ha
        rw [h5, hm] at h6
        cases h6
        rw [Option.filter_some, if_pos (by simpa using h2)]
  | none =>
    cases hg : getD' d p n with
    | none => rfl
    | some u =>
      obtain ⟨h4, h5⟩ := get_fil hg
      by_cases ha : u.act = 5
      · rw [Option.filter_some, if_neg (by simp [ha])]
      · have h6 := mem_of hu h4 ha
        rw [h5, hm] at h6
        cases h6
theorem mem_app {d e : List Rev} {f : Fil} (h : (memD d f).isSome = true) : memD (d ++ e) f = memD d f ∧ rkD (d ++ e) f = rkD d f := by
  unfold memD rkD at *
  refine ⟨?_, ?_⟩
  · rw [List.find?_append]
    obtain ⟨v, hv⟩ := Option.isSome_iff_exists.1 h
    rw [hv]
    rfl
  · rw [List.find?_isSome] at h
    rw [List.findIdx_append, if_pos (List.findIdx_lt_length.2 h)]
theorem rk_app {d e : List Rev} {f : Fil} (h : memD d f = none) : d.length ≤ rkD (d ++ e) f := by
  unfold memD at h
  unfold rkD
  rw [List.findIdx_append, if_neg]
  · omega
  · intro h1
    obtain ⟨x, hx, hp⟩ := List.findIdx_lt_length.1 h1
    rw [List.find?_eq_none] at h
    exact h x hx hp
theorem mem_made {d : List Rev} {c : Chg} {f : Fil} {v : Rev} (h : memD (d ++ c.edits.map (madeR c.num)) f = some v) (hn : memD d f = none) : ∃ x ∈ c.edits, v = madeR c.num x ∧ x.act ≠ 5 ∧ f = (x.path, x.base + 1) := by
  unfold memD at h hn
  rw [List.find?_append, hn, Option.none_or] at h
  have h1 := List.mem_of_find?_eq_some h
  obtain ⟨h2, h3⟩ := isM_iff.1 (List.find?_some h)
  obtain ⟨x, hx, rfl⟩ := List.mem_map.1 h1
  exact ⟨x, hx, rfl, h2, h3.symm⟩
theorem last_mem {d : List Rev} (ha : Asc d) {p : ByteArray} (hl : liveD d p = true) : ∃ v, memD d (p, lastN d p) = some v := by
  unfold liveD at hl
  unfold lastN
  cases hq : lastD d p with
  | none => rw [hq] at hl; cases hl
  | some v =>
    rw [hq] at hl
    obtain ⟨h1, rfl⟩ := log_mem (List.mem_of_getLast? hq)
    have h2 : v.act ≠ 5 := by
      intro e
      simp [goneR, goneA, e] at hl
    exact ⟨v, mem_of (asc_uniq ha) h1 h2⟩
/-- No revision that there was has a number behind its path's last one. -/
theorem mem_le {d : List Rev} (ha : Asc d) {p : ByteArray} {n : Int} {v : Rev} (h : memD d (p, n) = some v) : 1 ≤ n ∧ n ≤ lastN d p := by
  obtain ⟨h1, _, h3⟩ := mem_some h
  have h4 : v ∈ logD d p := List.mem_filter.2 ⟨h1, (ba_beq _ _).2 (congrArg Prod.fst h3)⟩
  have h5 : v.num ∈ (logD d p).map (·.num) := List.mem_map_of_mem h4
  rw [ha p] at h5
  obtain ⟨i, hi, he⟩ := List.mem_map.1 h5
  rw [List.mem_range] at hi
  have h6 : v.num = n := congrArg Prod.snd h3
  rw [asc_last ha]
  omega
theorem Hist.nil : Hist ⟨[], []⟩ := ⟨.nil, fun f u h => by simp [prevF, memD] at h, fun f v h => by simp [memD] at h, fun r h => by simp at h, fun r h => by simp at h, fun r h => by simp at h, fun r h => by simp at h⟩
theorem beforeF_act {v : Rev} {u : Fil} (h : beforeF v = some u) : v.act ≠ 1 ∧ ((v.act = 4 ∧ u = (v.src, v.srcn)) ∨ (v.act ≠ 4 ∧ u = (v.path, v.num - 1))) := by
  unfold beforeF at h
  split at h
  · cases h
  · rename_i h1
    split at h
    · rename_i h4
      injection h with h
      exact ⟨by simpa using h1, .inl ⟨by simpa using h4, h.symm⟩⟩
    · rename_i h4
      injection h with h
      exact ⟨by simpa using h1, .inr ⟨by simpa using h4, h.symm⟩⟩
theorem prevF_of {d : List Rev} {f : Fil} {v : Rev} (hm : memD d f = some v) {u : Fil} (hb : beforeF v = some u) (hu : (memD d u).isSome = true) : prevF d f = some u := by
  unfold prevF
  rw [hm]
  exact Option.filter_eq_some_iff.2 ⟨hb, hu⟩
theorem prevF_before {d : List Rev} {f : Fil} {v : Rev} (hm : memD d f = some v) {u : Fil} (h : prevF d f = some u) : beforeF v = some u := by
  unfold prevF at h
  rw [hm] at h
  exact (Option.filter_eq_some_iff.1 h).1
/-- What a revision that is made hangs on was there. -/
theorem made_before {d : Dep} (hok : DepOk d) {c : Chg} (hc : ChkOk d.revs d.recs.length c) {x : Edt} (hx : x ∈ c.edits) {u : Fil} (hb : beforeF (madeR c.num x) = some u) : (memD d.revs u).isSome = true := by
  obtain ⟨i, hi⟩ := hc.at hx
  obtain ⟨h1, ⟨h4, rfl⟩ | ⟨h4, rfl⟩⟩ := beforeF_act hb
  · have h4' : x.act = 4 := h4
    obtain ⟨hl, hn, _⟩ := hi.here h4'
    obtain ⟨v, hv⟩ := last_mem hok.asc hl
    show (memD d.revs (x.src, x.srcn)).isSome = true
    rw [← hn, hv]
    rfl
  · have h1' : x.act ≠ 1 := h1
    have h4' : x.act ≠ 4 := h4
    have hl : liveD d.revs x.path = true := by
      rw [hi.live]
      simp [h1', h4']
    obtain ⟨v, hv⟩ := last_mem hok.asc hl
    show (memD d.revs (x.path, x.base + 1 - 1)).isSome = true
    rw [Int.add_sub_cancel, hi.base, hv]
    rfl
theorem Hist.step {d : Dep} {c : Chg} (H : Hist d) (hok : DepOk d) (hc : ChkOk d.revs d.recs.length c) (hm : ∀ x ∈ sortR (d.recs ++ c.recs), x ∈ d.recs ++ c.recs) (hl : (sortR (d.recs ++ c.recs)).length = (d.recs ++ c.recs).length) : Hist (appD d c) := by
  have hok' := hok.step hc hm hl
  have hu' : (d.revs ++ c.edits.map (madeR c.num)).Pairwise fun a b => a.fil ≠ b.fil := asc_uniq hok'.asc
  have new : ∀ f v, memD (d.revs ++ c.edits.map (madeR c.num)) f = some v → memD d.revs f = none → ∀ u, beforeF v = some u → (memD d.revs u).isSome = true := fun f v h hn u hb => by
    obtain ⟨x, hx, rfl, h5, _⟩ := mem_made h hn
    exact made_before hok hc hx hb
  have old : ∀ f v, memD d.revs f = some v → ∀ u, prevF (d.revs ++ c.edits.map (madeR c.num)) f = some u → prevF d.revs f = some u := fun f v h u hu => by
    have h1 := (mem_app (e := c.edits.map (madeR c.num)) (show (memD d.revs f).isSome = true by rw [h]; rfl)).1
    have hb := prevF_before (h1.trans h) hu
    have h2 := H.has f v h (beforeF_act hb).1
    obtain ⟨u', hu'⟩ := Option.isSome_iff_exists.1 h2
    have := prevF_before h hu'
    rw [hb] at this
    cases this
    exact hu'
  have recOld : ∀ r ∈ (appD d c).recs, r ∈ d.recs ∨ r ∈ c.recs := fun r hr => List.mem_append.1 (hm r hr)
  have recNew : ∀ r ∈ c.recs, ∃ t i, RecOk d.revs c i r t := fun r hr => by
    obtain ⟨i, hi⟩ := List.mem_iff_getElem?.1 hr
    obtain ⟨t, ht⟩ := hc.record i r hi
    exact ⟨t, i, ht⟩
  have target : ∀ r t i, RecOk d.revs c i r t → memD (d.revs ++ c.edits.map (madeR c.num)) (r.dst, r.num) = some (madeR c.num t) ∧ memD d.revs (r.dst, r.num) = none := fun r t i ht => by
    have h1 : (madeR c.num t).fil = (r.dst, r.num) := by
      show (t.path, t.base + 1) = _
      rw [ht.path, ht.num]
    refine ⟨?_, ?_⟩
    · rw [← h1]
      exact mem_of hu' (List.mem_append_right _ (List.mem_map_of_mem ht.mem)) ht.act
    · cases hm' : memD d.revs (r.dst, r.num) with
      | none => rfl
      | some v =>
        have h2 := mem_le hok.asc hm'
        obtain ⟨j, hj⟩ := hc.at ht.mem
        have h3 := hj.base
        have h4 := ht.num
        rw [ht.path] at h3
        omega
  have srcOld : ∀ r t i, RecOk d.revs c i r t → ∀ n, r.fst ≤ n → n ≤ r.lst → (memD d.revs (r.src, n)).isSome = true := fun r t i ht n h1 h2 => by
    have hs := ht.span
    obtain ⟨v, hv, hvd, hvf⟩ := asc_get hok.asc (p := r.src) (n := n) (by omega) (by omega)
    have h3 := (ht.each n h1 h2).1
    unfold getR at h3
    rw [hv] at h3
    rw [← hvf, mem_of H.uniq hvd h3]
    rfl
  refine ⟨hu', fun f u hu => ?_, fun f v hv ha => ?_, fun r hr => ?_, fun r hr => ?_, fun r hr n h1 h2 => ?_, fun r hr => ?_⟩
  · change prevF (d.revs ++ c.edits.map (madeR c.num)) f = some u at hu
    show rkD (d.revs ++ c.edits.map (madeR c.num)) u < rkD (d.revs ++ c.edits.map (madeR c.num)) f
    cases hf : memD d.revs f with
    | some v =>
      have h1 := old f v hf u hu
      have h2 := H.prev f u h1
      rw [(mem_app (prevF_mem h1).1).2, (mem_app (show (memD d.revs f).isSome = true by rw [hf]; rfl)).2]
      exact h2
    | none =>
      obtain ⟨v, hv⟩ := Option.isSome_iff_exists.1 (prevF_mem hu).2
      have h1 := new f v hv hf u (prevF_before hv hu)
      have h2 := rk_app (e := c.edits.map (madeR c.num)) hf
      rw [(mem_app h1).2]
      have := rk_lt h1
      omega
  · change memD (d.revs ++ c.edits.map (madeR c.num)) f = some v at hv
    show (prevF (d.revs ++ c.edits.map (madeR c.num)) f).isSome = true
    cases hf : memD d.revs f with
    | some v' =>
      have h1 := mem_app (e := c.edits.map (madeR c.num)) (show (memD d.revs f).isSome = true by rw [hf]; rfl)
      rw [h1.1, hf] at hv
      cases hv
      obtain ⟨u, hu⟩ := Option.isSome_iff_exists.1 (H.has f v hf ha)
      rw [prevF_of (h1.1.trans hf) (prevF_before hf hu) (by rw [(mem_app (prevF_mem hu).1).1]; exact (prevF_mem hu).1)]
      rfl
    | none =>
      cases hb : beforeF v with
      | none =>
        unfold beforeF at hb
        rw [if_neg (by simpa using ha)] at hb
        split at hb <;> cases hb
      | some u =>
        have h1 := new f v hv hf u hb
        rw [prevF_of hv hb (by rw [(mem_app h1).1]; exact h1)]
        rfl
  · show (memD (d.revs ++ c.edits.map (madeR c.num)) (r.dst, r.num)).isSome = true
    rcases recOld r hr with hr | hr
    · rw [(mem_app (H.goes r hr)).1]
      exact H.goes r hr
    · obtain ⟨t, i, ht⟩ := recNew r hr
      rw [(target r t i ht).1]
      rfl
  · rcases recOld r hr with hr | hr
    · exact H.span r hr
    · obtain ⟨t, i, ht⟩ := recNew r hr
      exact ⟨ht.span.1, ht.span.2.1⟩
  · show (memD (d.revs ++ c.edits.map (madeR c.num)) (r.src, n)).isSome = true ∧ rkD (d.revs ++ c.edits.map (madeR c.num)) (r.src, n) < rkD (d.revs ++ c.edits.map (madeR c.num)) (r.dst, r.num)
    rcases recOld r hr with hr | hr
    · have h3 := H.src r hr n h1 h2
      rw [(mem_app h3.1).1, (mem_app h3.1).2, (mem_app (H.goes r hr)).2]
      exact h3
    · obtain ⟨t, i, ht⟩ := recNew r hr
      have h3 := srcOld r t i ht n h1 h2
      rw [(mem_app h3).1, (mem_app h3).2]
      have h4 := rk_app (e := c.edits.map (madeR c.num)) (target r t i ht).2
      have := rk_lt h3
      exact ⟨h3, by omega⟩
  · rcases recOld r hr with hr | hr
    · exact H.how r hr
    · obtain ⟨t, i, ht⟩ := recNew r hr
      exact ht.how
theorem Blt.hist {d : Dep} (h : Blt d) : Hist d := by
  induction h with
  | nil => exact Hist.nil
  | step hb h1 h2 h3 ih => exact ih.step hb.ok h1 h2 h3
end Go.Proofs.YthonhikkoabhlaaGreatDoor
