/-
  Two tables that say the same, and that a table's list loads (plain).
-/
import Derived.Test.YtphoodnclmplhaaLod
import Derived.Test.YtphoodnclmplhaaSam0
namespace Go.Proofs.Ytphoodnclmplhaa
open Go.RowKit

/-- Two tables that say the same. -/
structure TEq (T T' : Tab) : Prop where
  clk : T.clk = T'.clk
  lk : ∀ p, lk T.m p = lk T'.m p
  len : T.m.length = T'.m.length
theorem TEq.refl (T : Tab) : TEq T T := ⟨rfl, fun _ => rfl, rfl⟩
theorem TEq.pt {T T' : Tab} (h : TEq T T') {c c' : Int} (hc : c = c') (p : ByteArray) (l : Lease) : TEq ⟨c, pt T.m p l⟩ ⟨c', Go.Proofs.Ytphoodnclmplhaa.pt T'.m p l⟩ :=
  ⟨hc, fun q => by dsimp only; rw [lk_pt, lk_pt, h.lk], by dsimp only; rw [pt_len, pt_len, h.lk, h.len]⟩
def TAg (a b : Tab × Lease × Int) : Prop := a.2 = b.2 ∧ TEq a.1 b.1
theorem teq_acq {T T' : Tab} (h : TEq T T') (p hd : ByteArray) (n : Int) : TAg (acqT T p hd n) (acqT T' p hd n) := by
  unfold acqT
  rw [← h.lk, ← h.len, ← h.clk]
  split
  · exact ⟨rfl, h⟩
  split
  · exact ⟨rfl, h⟩
  split
  · exact ⟨rfl, h⟩
  split
  · split
    · exact ⟨rfl, h⟩
    · exact ⟨rfl, h.pt rfl _ _⟩
  · split
    · exact ⟨rfl, h⟩
    split
    · exact ⟨rfl, h⟩
    · exact ⟨rfl, h.pt rfl _ _⟩
theorem teq_ren {T T' : Tab} (h : TEq T T') (p hd : ByteArray) (f n : Int) : TAg (renT T p hd f n) (renT T' p hd f n) := by
  unfold renT
  rw [← h.lk, ← h.clk]
  split
  · exact ⟨rfl, h⟩
  split
  · exact ⟨rfl, h⟩
  · split
    · exact ⟨rfl, h.pt rfl _ _⟩
    · exact ⟨rfl, h⟩
theorem teq_end {T T' : Tab} (h : TEq T T') (l : Lease) : TEq (endT T l) (endT T' l) := by
  unfold endT
  rw [← h.clk]
  exact h.pt rfl _ _
theorem teq_do {T T' : Tab} (h : TEq T T') (o : LOp) : TAg (doT T o) (doT T' o) := by
  unfold doT
  split
  · exact teq_acq h _ _ _
  split
  · exact teq_ren h _ _ _ _
  split
  · unfold relT
    rw [← h.lk, ← h.clk]
    split
    · exact ⟨rfl, h⟩
    · split
      · exact ⟨rfl, teq_end h _⟩
      · exact ⟨rfl, h⟩
  split
  · unfold brkT
    rw [← h.lk, ← h.clk]
    split
    · exact ⟨rfl, h⟩
    · split
      · exact ⟨rfl, teq_end h _⟩
      · exact ⟨rfl, h⟩
  · unfold advT
    rw [← h.clk]
    split
    · exact ⟨rfl, h⟩
    · exact ⟨rfl, rfl, h.lk, h.len⟩
theorem TEq.perm {T T' : Tab} (h : TEq T T') (h1 : (T.m.map (·.1)).Nodup) (h2 : (T'.m.map (·.1)).Nodup) : T.m.Perm T'.m := by
  refine (List.perm_ext_iff_of_nodup (nodup_map h1) (nodup_map h2)).2 fun x => ?_
  have hm : ∀ {m : List (ByteArray × Lease)}, (m.map (·.1)).Nodup → (x ∈ m ↔ Go.Proofs.Ytphoodnclmplhaa.lk m x.1 = some x.2) := fun {m} hn => by
    constructor
    · intro hx
      exact lk_of_mem hn hx
    · intro hl
      obtain ⟨y, hy, h3, h4⟩ := lk_mem hl
      have : y = x := Prod.ext h3.symm h4
      exact this ▸ hy
  rw [hm h1, hm h2, h.lk]

/-- How far leases of a table reach. -/
def TL (T : Tab) : Prop := ∀ x ∈ T.m, x.2.since ≤ x.2.til ∧ x.2.til ≤ T.clk + 1048576
theorem isTermB_le {n : Int} (h : ¬ isTermB n = false) : 1 ≤ n ∧ n ≤ 1048576 := by simpa [isTermB] using h
theorem TL.put {T : Tab} (h : TL T) {p : ByteArray} {l : Lease} (hl : l.since ≤ l.til ∧ l.til ≤ T.clk + 1048576) : TL ⟨T.clk, pt T.m p l⟩ := fun x hx => by
  rcases mem_pt hx with rfl | hx
  · exact hl
  · exact h x hx
theorem tl_do {k : Nat} {T : Tab} (h : TL T) (hi : TabInv k T) (o : LOp) : TL (doT T o).1 := by
  have he : ∀ {p : ByteArray} {l : Lease}, lk T.m p = some l → TL (endT T l) := fun {p l} hl => by
    have hs := (hi.found hl).s1
    unfold endT
    exact h.put ⟨hs, by dsimp only; omega⟩
  unfold doT
  split
  · unfold acqT
    split
    · exact h
    split
    · exact h
    split
    · exact h
    rename_i hn
    have := isTermB_le hn
    split
    · split
      · exact h
      · exact h.put ⟨by dsimp only; omega, by dsimp only; omega⟩
    · split
      · exact h
      split
      · exact h
      · exact h.put ⟨by dsimp only; omega, by dsimp only; omega⟩
  split
  · unfold renT
    split
    · exact h
    rename_i hn
    have := isTermB_le hn
    split
    · exact h
    · rename_i l hl
      obtain ⟨x, hx, _, hxl⟩ := lk_mem hl
      have hx2 := h x hx
      rw [hxl] at hx2
      split
      · exact h.put ⟨by dsimp only; omega, by dsimp only; omega⟩
      · exact h
  split
  · dsimp only
    unfold relT
    split
    · exact h
    · rename_i l hl
      split
      · exact he hl
      · exact h
  split
  · dsimp only
    unfold brkT
    split
    · exact h
    · rename_i l hl
      split
      · exact he hl
      · exact h
  · dsimp only
    unfold advT
    split
    · exact h
    · exact fun x hx => ⟨(h x hx).1, by have := (h x hx).2; dsimp only; omega⟩

/-- What holds of a table that k calls have made. -/
structure TT (k : Nat) (T : Tab) : Prop where
  inv : TabInv k T
  pt : PT T
  tl : TL T
theorem TT.new : TT 0 ⟨0, []⟩ := ⟨inv_new, pt_new, fun x hx => by cases hx⟩
theorem TT.next {k : Nat} {T : Tab} (h : TT k T) (o : LOp) : TT (k + 1) (doT T o).1 := ⟨inv_do h.inv o, pt_do h.pt h.inv o, tl_do h.tl h.inv o⟩
theorem TT.tok {k : Nat} {T : Tab} (h : TT k T) : TOk T := h.inv.tok h.pt.once

theorem ldOk_of {clk : Int} : ∀ {l : List Lease}, (∀ x ∈ l, possB x clk = true) → l.Pairwise (fun a b => pcmp a.path.data.toList b.path.data.toList < 0) → ldOk clk l = true
  | [], _, _ => rfl
  | [x], h, _ => h x (by simp)
  | x :: y :: r, h, hp => by
    have ih := ldOk_of (l := y :: r) (fun z hz => h z (List.mem_cons_of_mem _ hz)) (List.pairwise_cons.1 hp).2
    have h1 := h x (by simp)
    have h2 := (List.pairwise_cons.1 hp).1 y (by simp)
    simp only [ldOk, h1, ih, decide_eq_true h2, Bool.and_self]
theorem TT.poss {k : Nat} {T : Tab} (h : TT k T) (hk : k ≤ 1000) : ∀ x ∈ T.m.map (·.2), possB x T.clk = true := fun x hx => by
  obtain ⟨y, hy, rfl⟩ := List.mem_map.1 hx
  have h1 := h.inv.all y hy
  have h2 := h.tl y hy
  have f0 := h1.f0
  have f1 := h1.f1
  have s0 := h1.s0
  have s1 := h1.s1
  unfold possB
  rw [h1.path, h1.isP, h1.isN, decide_eq_true f0, decide_eq_true (by omega : y.2.fence ≤ 1073741824), decide_eq_true s0, decide_eq_true s1, decide_eq_true h2.1, decide_eq_true h2.2]
  rfl
/-- A table's list loads. -/
theorem TT.load {k : Nat} {T : Tab} {E : List Lease} (h : TT k T) (hk : k ≤ 1000) (h1 : SrtL E) (h2 : E.Perm (T.m.map (·.2))) : loadB T.clk E = true := by
  have hl : E.length ≤ 64 := by
    have := h2.length_eq
    have h3 := h.pt.len
    simp at this
    omega
  have hp : ∀ x ∈ E, possB x T.clk = true := fun x hx => h.poss hk x (h2.mem_iff.1 hx)
  have hld : ldOk T.clk E = true := by
    refine ldOk_of hp (List.Pairwise.imp_of_mem (fun {a b} ha hb hab => ?_) h1)
    rw [← ordH_valid (okP_path (possB_path (hp a ha))).2 (okP_path (possB_path (hp b hb))).2]
    exact hab
  unfold loadB
  rw [decide_eq_true h.inv.c0, decide_eq_true h.inv.c1, decide_eq_true hl, hld]
  rfl
/-- The loaded table says the same. -/
theorem TT.loaded {k : Nat} {T : Tab} {E : List Lease} (h : TT k T) (h2 : E.Perm (T.m.map (·.2))) : TEq T (tabOf T.clk E) ∧ TT k (tabOf T.clk E) := by
  have hpth : ∀ x ∈ T.m, x.2.path = x.1 := fun x hx => (h.inv.all x hx).path
  have hpm : (tabOf T.clk E).m.Perm T.m := by
    have h3 := h2.map (fun x : Lease => (x.path, x))
    rw [List.map_map] at h3
    have h4 : T.m.map ((fun x : Lease => (x.path, x)) ∘ fun x => x.2) = T.m := by
      conv => rhs; rw [← List.map_id T.m]
      exact List.map_congr_left fun x hx => Prod.ext (hpth x hx) rfl
    rw [h4] at h3
    exact h3
  have hn2 : ((tabOf T.clk E).m.map (·.1)).Nodup := ((hpm.map (·.1)).nodup_iff).2 h.pt.once
  refine ⟨⟨rfl, fun p => ?_, hpm.length_eq.symm⟩, ⟨h.inv.c0, h.inv.c1, fun x hx => h.inv.all x (hpm.mem_iff.1 hx)⟩, ⟨hn2, by rw [hpm.length_eq]; exact h.pt.len⟩, fun x hx => h.tl x (hpm.mem_iff.1 hx)⟩
  cases hl : lk T.m p with
  | some l =>
    obtain ⟨x, hx, rfl, rfl⟩ := lk_mem hl
    exact (lk_of_mem hn2 (hpm.mem_iff.2 hx)).symm
  | none =>
    cases hl2 : lk (tabOf T.clk E).m p with
    | none => rfl
    | some l =>
      obtain ⟨x, hx, rfl, rfl⟩ := lk_mem hl2
      rw [lk_of_mem h.pt.once (hpm.mem_iff.1 hx)] at hl
      cases hl

end Go.Proofs.Ytphoodnclmplhaa
