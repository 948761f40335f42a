/-
  The depots that changes build (plain): what they keep.
-/
import Derived.Test.YthonhikkoabhlaaGreatDoorDpK
import Derived.Test.YthonhikkoabhlaaGreatDoorDpS
namespace Go.Proofs.YthonhikkoabhlaaGreatDoor
open Go.RowKit

def appD (d : Dep) (c : Chg) : Dep := ⟨d.revs ++ c.edits.map (madeR c.num), sortR (d.recs ++ c.recs)⟩
inductive Blt : Dep → Prop
  | nil : Blt ⟨[], []⟩
  | step {d : Dep} {c : Chg} : Blt d → ChkOk d.revs d.recs.length c → (∀ x ∈ sortR (d.recs ++ c.recs), x ∈ d.recs ++ c.recs) → (sortR (d.recs ++ c.recs)).length = (d.recs ++ c.recs).length → Blt (appD d c)

theorem ord_all : ∀ {E : List Edt}, (∀ i y x, E[i]? = some y → E[i + 1]? = some x → ordH y.path x.path < 0) → E.Pairwise (fun a b => ordH a.path b.path < 0)
  | [], _ => .nil
  | [x], _ => by simp
  | x :: y :: r, h => by
    have ih := ord_all (E := y :: r) fun i a b h1 h2 => h (i + 1) a b h1 h2
    refine List.pairwise_cons.2 ⟨fun b hb => ?_, ih⟩
    have h0 := h 0 x y rfl rfl
    rcases List.mem_cons.1 hb with rfl | hb
    · exact h0
    · exact ordH_trans h0 (List.rel_of_pairwise_cons ih hb)
theorem lastN_snoc_ne {d : List Rev} {v : Rev} {p : ByteArray} (h : v.path ≠ p) : lastN (d ++ [v]) p = lastN d p := by
  unfold lastN lastD
  rw [log_snoc, if_neg (fun e => h ((ba_beq _ _).1 e))]
theorem asc_made (n : Int) : ∀ (E : List Edt) {d : List Rev}, Asc d → E.Pairwise (fun a b => ordH a.path b.path < 0) → (∀ x ∈ E, x.base = lastN d x.path) → Asc (d ++ E.map (madeR n))
  | [], d, h, _, _ => by simpa using h
  | x :: r, d, h, hp, hb => by
    rw [List.pairwise_cons] at hp
    have h1 : Asc (d ++ [madeR n x]) := asc_snoc h (by show x.base + 1 = lastN d x.path + 1; rw [hb x (by simp)])
    have h2 := asc_made n r h1 hp.2 fun y hy => by
      have hne : (madeR n x).path ≠ y.path := by
        intro e
        have := hp.1 y hy
        rw [show x.path = y.path from e, ordH_self] at this
        exact absurd this (by decide)
      rw [lastN_snoc_ne hne]
      exact hb y (by simp [hy])
    simpa using h2

structure DepOk (d : Dep) : Prop where
  asc : Asc d.revs
  few : d.revs.length ≤ 512
  fewr : d.recs.length ≤ 512
  chg : ∀ v ∈ d.revs, 1 ≤ v.chg ∧ v.chg ≤ 1073741824
  path : ∀ v ∈ d.revs, validB v.path.data.toList = true ∧ v.path.size ≤ 200
  src : ∀ v ∈ d.revs, v.src.size ≤ 200
  act : ∀ v ∈ d.revs, 1 ≤ v.act ∧ v.act ≤ 5
  recs : ∀ r ∈ d.recs, r.src.size ≤ 200 ∧ r.dst.size ≤ 200
theorem DepOk.nil : DepOk ⟨[], []⟩ := ⟨asc_nil, by decide, by decide, fun v h => by simp at h, fun v h => by simp at h, fun v h => by simp at h, fun v h => by simp at h, fun v h => by simp at h⟩
theorem log_mem {d : List Rev} {p : ByteArray} {v : Rev} (h : v ∈ logD d p) : v ∈ d ∧ v.path = p := by
  have := List.mem_filter.1 h
  exact ⟨this.1, (ba_beq _ _).1 this.2⟩
theorem DepOk.num {d : Dep} (h : DepOk d) {v : Rev} (hv : v ∈ d.revs) : 1 ≤ v.num ∧ v.num ≤ 512 := by
  have hl : v ∈ logD d.revs v.path := List.mem_filter.2 ⟨hv, ba_self _⟩
  have h1 : v.num ∈ (logD d.revs v.path).map (·.num) := List.mem_map_of_mem hl
  rw [h.asc v.path] at h1
  obtain ⟨i, hi, he⟩ := List.mem_map.1 h1
  rw [List.mem_range] at hi
  have h2 := log_len d.revs v.path
  have h3 := h.few
  omega
theorem DepOk.okR {d : Dep} (h : DepOk d) : OkR d.revs := fun v hv => by
  have h1 := h.num hv
  have h2 := h.chg v hv
  omega
theorem ChkOk.ord {d : List Rev} {nb : Nat} {c : Chg} (h : ChkOk d nb c) : c.edits.Pairwise (fun a b => ordH a.path b.path < 0) :=
  ord_all fun i y x h1 h2 => (h.edit (i + 1) x h2).order y (by omega) (by simpa using h1)
theorem ChkOk.at {d : List Rev} {nb : Nat} {c : Chg} (h : ChkOk d nb c) {x : Edt} (hx : x ∈ c.edits) : ∃ i, EditOk d c.edits i x := by
  obtain ⟨i, hi⟩ := List.mem_iff_getElem?.1 hx
  exact ⟨i, h.edit i x hi⟩
theorem DepOk.step {d : Dep} {c : Chg} (h : DepOk d) (hc : ChkOk d.revs d.recs.length c) (hm : ∀ x ∈ sortR (d.recs ++ c.recs), x ∈ d.recs ++ c.recs) (hl : (sortR (d.recs ++ c.recs)).length = (d.recs ++ c.recs).length) : DepOk (appD d c) := by
  have live : ∀ p, liveD d.revs p = true → p.size ≤ 200 := fun p hp => by
    unfold liveD at hp
    cases hq : lastD d.revs p with
    | none => rw [hq] at hp; cases hp
    | some v =>
      obtain ⟨h1, rfl⟩ := log_mem (List.mem_of_getLast? hq)
      exact (h.path v h1).2
  have made : ∀ v ∈ c.edits.map (madeR c.num), ∃ x i, x ∈ c.edits ∧ v = madeR c.num x ∧ EditOk d.revs c.edits i x := fun v hv => by
    obtain ⟨x, hx, rfl⟩ := List.mem_map.1 hv
    obtain ⟨i, hi⟩ := hc.at hx
    exact ⟨x, i, hx, rfl, hi⟩
  refine ⟨asc_made _ _ h.asc hc.ord fun x hx => (hc.at hx).elim fun _ h => h.base, ?_, ?_, ?_, ?_, ?_, ?_, ?_⟩
  · show (d.revs ++ c.edits.map (madeR c.num)).length ≤ 512
    have := hc.room
    simpa using this
  · show (sortR (d.recs ++ c.recs)).length ≤ 512
    have := hc.roomr
    rw [hl, List.length_append]
    exact this
  · intro v hv
    rcases List.mem_append.1 hv with hv | hv
    · exact h.chg v hv
    · obtain ⟨x, i, _, rfl, _⟩ := made v hv
      exact hc.num
  · intro v hv
    rcases List.mem_append.1 hv with hv | hv
    · exact h.path v hv
    · obtain ⟨x, i, _, rfl, hi⟩ := made v hv
      exact ⟨hi.valid, hi.short⟩
  · intro v hv
    rcases List.mem_append.1 hv with hv | hv
    · exact h.src v hv
    · obtain ⟨x, i, _, rfl, hi⟩ := made v hv
      show x.src.size ≤ 200
      by_cases h4 : x.act = 4
      · exact live _ (hi.here h4).1
      · have := (hi.none h4).1
        omega
  · intro v hv
    rcases List.mem_append.1 hv with hv | hv
    · exact h.act v hv
    · obtain ⟨x, i, _, rfl, hi⟩ := made v hv
      exact hi.act
  · intro r hr
    rcases List.mem_append.1 (hm r hr) with hr | hr
    · exact h.recs r hr
    · obtain ⟨i, hi⟩ := List.mem_iff_getElem?.1 hr
      obtain ⟨t, ht⟩ := hc.record i r hi
      refine ⟨?_, ?_⟩
      · have h1 := ht.span
        have : 0 < (logD d.revs r.src).length := by omega
        obtain ⟨h2, h3⟩ := log_mem (List.getElem_mem this)
        rw [← h3]
        exact (h.path _ h2).2
      · obtain ⟨j, hj⟩ := hc.at ht.mem
        rw [← ht.path]
        exact hj.short
theorem Blt.ok {d : Dep} (h : Blt d) : DepOk d := by
  induction h with
  | nil => exact DepOk.nil
  | step _ h1 h2 h3 ih => exact ih.step h1 h2 h3
end Go.Proofs.YthonhikkoabhlaaGreatDoor
