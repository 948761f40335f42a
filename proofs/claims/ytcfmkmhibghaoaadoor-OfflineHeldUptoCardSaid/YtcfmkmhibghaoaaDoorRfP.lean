/-
  The reference's table of leases as plain data, and that it answers as the table does.
-/
import Derived.Test.YtcfmkmhibghaoaaDoorGenS
import Derived.Test.YtcfmkmhibghaoaaDoorIns
import Derived.Test.YtcfmkmhibghaoaaDoorOrdH
namespace Go.Proofs.YtcfmkmhibghaoaaDoor
open Go.RowKit

structure RTab where
  clk : Int
  log : List Lease

/-- The place of the last lease of a path. -/
def rcur (p : ByteArray) : List Lease → Option Nat
  | [] => none
  | x :: r => match rcur p r with
    | some j => some (j + 1)
    | none => if (x.path == p) = true then some 0 else none
theorem rcur_snoc (p : ByteArray) (x : Lease) : ∀ l : List Lease, rcur p (l ++ [x]) = if (x.path == p) = true then some l.length else rcur p l
  | [] => by simp [rcur]
  | y :: r => by
    rw [List.cons_append, rcur, rcur_snoc p x r, rcur]
    cases h : (x.path == p) <;> simp
theorem rcur_lt {p : ByteArray} : ∀ {l : List Lease} {i : Nat}, rcur p l = some i → i < l.length
  | [], _, h => by cases h
  | x :: r, i, h => by
    rw [rcur] at h
    rw [List.length_cons]
    cases hr : rcur p r with
    | some j =>
      rw [hr] at h
      have := rcur_lt hr
      have : j + 1 = i := by simpa using h
      omega
    | none => rw [hr] at h; dsimp only at h; split at h <;> simp at h; omega
def rlk (l : List Lease) (p : ByteArray) : Option Lease := (rcur p l).bind (l[·]?)
theorem rlk_nil (p : ByteArray) : rlk [] p = none := rfl
theorem rlk_cons (x : Lease) (r : List Lease) (p : ByteArray) : rlk (x :: r) p = match rlk r p with | some y => some y | none => if (x.path == p) = true then some x else none := by
  unfold rlk
  rw [rcur]
  cases hr : rcur p r with
  | some j =>
    have := rcur_lt hr
    simp [this]
  | none => cases h : (x.path == p) <;> simp
theorem rlk_snoc (l : List Lease) (x : Lease) (p : ByteArray) : rlk (l ++ [x]) p = if (x.path == p) = true then some x else rlk l p := by
  induction l with
  | nil => rw [List.nil_append, rlk_cons, rlk_nil]
  | cons y r ih =>
    rw [List.cons_append, rlk_cons, ih, rlk_cons]
    cases h : (x.path == p) <;> simp
theorem rlk_some {l : List Lease} {p : ByteArray} {i : Nat} (h : rcur p l = some i) : rlk l p = l[i]? := by unfold rlk; rw [h]; rfl
theorem rlk_none {l : List Lease} {p : ByteArray} : rlk l p = none ↔ rcur p l = none := by
  unfold rlk
  cases h : rcur p l with
  | none => simp
  | some i => have := rcur_lt h; simp [this]
theorem rlk_path {l : List Lease} {p : ByteArray} {x : Lease} (h : rlk l p = some x) : x.path = p ∧ x ∈ l := by
  induction l with
  | nil => cases h
  | cons y r ih =>
    rw [rlk_cons] at h
    cases hr : rlk r p with
    | some z =>
      rw [hr] at h
      have hz : z = x := by simpa using h
      subst hz
      exact ⟨(ih hr).1, List.mem_cons_of_mem _ (ih hr).2⟩
    | none =>
      rw [hr] at h
      dsimp only at h
      split at h
      · rename_i hp
        have hz : y = x := by simpa using h
        subst hz
        exact ⟨(ba_beq _ _).1 hp, List.mem_cons_self⟩
      · cases h
theorem rlk_mem {l : List Lease} {x : Lease} (h : x ∈ l) : ∃ y, rlk l x.path = some y := by
  cases hr : rlk l x.path with
  | some y => exact ⟨y, rfl⟩
  | none =>
    exfalso
    induction l with
    | nil => cases h
    | cons y r ih =>
      rw [rlk_cons] at hr
      cases hq : rlk r x.path with
      | some z => rw [hq] at hr; cases hr
      | none =>
        rw [hq] at hr
        rcases List.mem_cons.1 h with rfl | h
        · dsimp only at hr; rw [if_pos ((ba_beq _ _).2 rfl)] at hr; cases hr
        · exact ih h hq
def setR (l : List Lease) (p : ByteArray) (x : Lease) : List Lease := match rcur p l with
  | none => l
  | some i => l.set i x
theorem rcur_set (p : ByteArray) (x : Lease) (q : ByteArray) : ∀ (l : List Lease) (i : Nat) (y : Lease), l[i]? = some y → y.path = x.path → rcur q (l.set i x) = rcur q l
  | [], _, _, h, _ => by cases h
  | z :: r, 0, y, h, hp => by
    have hz : z = y := by simpa using h
    subst hz
    rw [List.set_cons_zero, rcur, rcur, hp]
  | z :: r, i + 1, y, h, hp => by
    rw [List.set_cons_succ, rcur, rcur, rcur_set p x q r i y (by simpa using h) hp]
theorem rlk_setR {l : List Lease} {p : ByteArray} {x y : Lease} (h : rlk l p = some y) (hp : x.path = p) (q : ByteArray) : rlk (setR l p x) q = if (q == p) = true then some x else rlk l q := by
  cases hc : rcur p l with
  | none => rw [rlk_none.2 hc] at h; cases h
  | some i =>
    have hy := rlk_path h
    rw [rlk_some hc] at h
    have hlt := rcur_lt hc
    have hcs := rcur_set p x q l i y h (by rw [hy.1, hp])
    unfold setR
    rw [hc]
    dsimp only
    unfold rlk
    rw [hcs]
    cases hq : rcur q l with
    | none =>
      rw [if_neg]
      · rfl
      · intro e
        rw [(ba_beq _ _).1 e, hc] at hq
        cases hq
    | some j =>
      by_cases e : (q == p) = true
      · rw [if_pos e]
        rw [(ba_beq _ _).1 e, hc] at hq
        cases hq
        simp [hlt]
      · rw [if_neg e]
        have hne : i ≠ j := by
          intro hij
          subst hij
          have h1 := rlk_some hq
          rw [h] at h1
          have h2 := (rlk_path h1).1
          exact e ((ba_beq _ _).2 (by rw [← h2, hy.1]))
        simp [List.getElem?_set_ne hne]

/-- The leases of pre behind which no other one of their path comes, neither in pre nor in suf. -/
def curP (suf : List Lease) : List Lease → List Lease
  | [] => []
  | x :: r => if (rlk (r ++ suf) x.path).isNone = true then x :: curP suf r else curP suf r
def curs (l : List Lease) : List Lease := curP [] l
theorem curP_snoc (suf : List Lease) (x : Lease) : ∀ pre : List Lease, curP suf (pre ++ [x]) = curP (x :: suf) pre ++ (if (rlk suf x.path).isNone = true then [x] else [])
  | [] => by simp only [List.nil_append, curP]
  | y :: r => by
    rw [List.cons_append, curP, curP, curP_snoc suf x r, List.append_assoc, List.singleton_append]
    split <;> simp
theorem rcur_at : ∀ (l : List Lease) (k : Nat) (x : Lease), l[k]? = some x → ((rcur x.path l == some k) = (rlk (l.drop (k + 1)) x.path).isNone)
  | [], _, _, h => by cases h
  | y :: r, 0, x, h => by
    have hz : y = x := by simpa using h
    subst hz
    rw [rcur, List.drop_succ_cons, List.drop_zero]
    cases hr : rcur y.path r with
    | some j =>
      have := rcur_lt hr
      rw [rlk_some hr]
      simp [this]
    | none =>
      rw [rlk_none.2 hr]
      simp [(ba_beq y.path y.path).2 rfl]
  | y :: r, k + 1, x, h => by
    have hx : r[k]? = some x := by simpa using h
    have ih := rcur_at r k x hx
    rw [rcur, List.drop_succ_cons, ← ih]
    cases hr : rcur x.path r with
    | some j => simp
    | none =>
      have hm := rlk_mem (List.mem_of_getElem? hx)
      rw [rlk_none.2 hr] at hm
      obtain ⟨_, h⟩ := hm
      cases h
theorem curs_mem : ∀ (l : List Lease) (x : Lease), x ∈ curs l ↔ rlk l x.path = some x := by
  intro l
  unfold curs
  induction l with
  | nil => intro x; simp [curP, rlk_nil]
  | cons y r ih =>
    intro x
    rw [curP, List.append_nil, rlk_cons]
    cases hy : rlk r y.path with
    | some z =>
      rw [if_neg (by simp)]
      rw [ih]
      cases hx : rlk r x.path with
      | some u => simp
      | none =>
        dsimp only
        constructor
        · intro h; cases h
        · intro h
          split at h
          · rename_i e
            rw [(ba_beq _ _).1 e] at hy
            rw [hx] at hy; cases hy
          · cases h
    | none =>
      rw [if_pos (by simp), List.mem_cons, ih]
      constructor
      · rintro (rfl | h)
        · rw [hy]; dsimp only; rw [if_pos ((ba_beq _ _).2 rfl)]
        · rw [h]
      · intro h
        cases hx : rlk r x.path with
        | some u => rw [hx] at h; exact .inr (by simpa using h)
        | none =>
          rw [hx] at h
          dsimp only at h
          split at h
          · exact .inl (by simpa using h.symm)
          · cases h
theorem curs_once (l : List Lease) : ((curs l).map (·.path)).Nodup := by
  unfold curs
  induction l with
  | nil => simp [curP]
  | cons y r ih =>
    rw [curP, List.append_nil]
    cases hy : rlk r y.path with
    | some z => rw [if_neg (by simp)]; exact ih
    | none =>
      rw [if_pos (by simp), List.map_cons, List.nodup_cons]
      refine ⟨fun h => ?_, ih⟩
      obtain ⟨x, hx, he⟩ := List.mem_map.1 h
      have := (curs_mem r x).1 hx
      rw [he, hy] at this
      cases this

def racq (R : RTab) (p h : ByteArray) (n : Int) : RTab × Lease × Int :=
  if isPathB p = false then (R, zeroL, 190) else if isNameB h = false then (R, zeroL, 191) else if isTermB n = false then (R, zeroL, 192) else
  match rlk R.log p with
  | none => if 64 ≤ (curs R.log).length then (R, zeroL, 195) else (⟨R.clk, R.log ++ [⟨p, h, 1, R.clk, R.clk + n⟩]⟩, ⟨p, h, 1, R.clk, R.clk + n⟩, 0)
  | some l => if hNow R.clk l.since l.til = true then (R, zeroL, 193) else if 1073741824 ≤ l.fence then (R, zeroL, 195) else (⟨R.clk, R.log ++ [⟨p, h, l.fence + 1, R.clk, R.clk + n⟩]⟩, ⟨p, h, l.fence + 1, R.clk, R.clk + n⟩, 0)
def rhas (R : RTab) (p h : ByteArray) (f : Int) : Bool := match rlk R.log p with
  | none => false
  | some l => hldB R.clk l.holder l.fence l.since l.til h f
def rren (R : RTab) (p h : ByteArray) (f n : Int) : RTab × Lease × Int :=
  if isTermB n = false then (R, zeroL, 192) else
  match rlk R.log p with
  | none => (R, zeroL, 194)
  | some l => if hldB R.clk l.holder l.fence l.since l.til h f = true then (⟨R.clk, setR R.log p ⟨l.path, l.holder, l.fence, l.since, max l.til (R.clk + n)⟩⟩, ⟨l.path, l.holder, l.fence, l.since, max l.til (R.clk + n)⟩, 0) else (R, zeroL, 194)
def rend19 (R : RTab) (p : ByteArray) (l : Lease) : RTab := ⟨R.clk, setR R.log p ⟨l.path, l.holder, l.fence, l.since, R.clk⟩⟩
def rrel (R : RTab) (p h : ByteArray) (f : Int) : RTab × Int := match rlk R.log p with
  | none => (R, 194)
  | some l => if hldB R.clk l.holder l.fence l.since l.til h f = true then (rend19 R p l, 0) else (R, 194)
def rbrk (R : RTab) (p : ByteArray) : RTab × Int := match rlk R.log p with
  | none => (R, 194)
  | some l => if hNow R.clk l.since l.til = true then (rend19 R p l, 0) else (R, 194)
def radv (R : RTab) (n : Int) : RTab × Int := if n < 0 ∨ 1099511627776 - R.clk < n then (R, 196) else (⟨R.clk + n, R.log⟩, 0)
def rdo (R : RTab) (o : LOp) : RTab × Lease × Int :=
  if o.kind = 1 then racq R o.p o.h o.n else if o.kind = 2 then rren R o.p o.h o.fence o.n
  else if o.kind = 3 then ((rrel R o.p o.h o.fence).1, zeroL, (rrel R o.p o.h o.fence).2) else if o.kind = 4 then ((rbrk R o.p).1, zeroL, (rbrk R o.p).2)
  else ((radv R o.n).1, zeroL, (radv R o.n).2)

theorem lk_pt (m : List (ByteArray × Lease)) (p : ByteArray) (l : Lease) (q : ByteArray) : lk (pt m p l) q = if (q == p) = true then some l else lk m q := by
  unfold lk
  induction m with
  | nil => unfold pt; simp only [List.find?_cons, List.find?_nil]; cases h : (q == p) <;> simp
  | cons y r ih =>
    unfold pt
    split
    · rename_i e
      have e' := (ba_beq _ _).1 e
      simp only [List.find?_cons]
      rw [← e']
      cases h : (q == p) <;> simp
    · rename_i e
      simp only [List.find?_cons]
      cases h : (q == y.1)
      · simpa using ih
      · have : (q == p) = false := by
          cases hq : (q == p)
          · rfl
          · exfalso
            rw [(ba_beq _ _).1 hq] at h
            exact e h
        simp [this]
theorem keys_pt {m : List (ByteArray × Lease)} {p : ByteArray} {l : Lease} : (m.map (·.1)).Nodup → ((pt m p l).map (·.1)).Nodup := by
  intro h
  induction m with
  | nil => simp [pt]
  | cons y r ih =>
    unfold pt
    rw [List.map_cons, List.nodup_cons] at h
    split
    · rename_i e
      rw [(ba_beq _ _).1 e, List.map_cons, List.nodup_cons]
      exact h
    · rename_i e
      rw [List.map_cons, List.nodup_cons]
      refine ⟨fun hm => ?_, ih h.2⟩
      obtain ⟨x, hx, he⟩ := List.mem_map.1 hm
      rcases mem_pt hx with rfl | hx
      · exact e ((ba_beq _ _).2 he)
      · exact h.1 (List.mem_map.2 ⟨x, hx, he⟩)
theorem lk_of_mem {m : List (ByteArray × Lease)} (h : (m.map (·.1)).Nodup) {x : ByteArray × Lease} (hx : x ∈ m) : lk m x.1 = some x.2 := by
  unfold lk
  induction m with
  | nil => cases hx
  | cons y r ih =>
    rw [List.map_cons, List.nodup_cons] at h
    rw [List.find?_cons]
    rcases List.mem_cons.1 hx with rfl | hx
    · simp [(ba_beq x.1 x.1).2 rfl]
    · have : (x.1 == y.1) = false := by
        cases hq : (x.1 == y.1)
        · rfl
        · exact absurd (List.mem_map.2 ⟨x, hx, (ba_beq _ _).1 hq⟩) h.1
      rw [this]
      exact ih h.2 hx

/-- The two tables say the same. -/
structure Sim (T : Tab) (R : RTab) : Prop where
  clk : T.clk = R.clk
  lk : ∀ p, lk T.m p = rlk R.log p
  once : (T.m.map (·.1)).Nodup
theorem Sim.new : Sim ⟨0, []⟩ ⟨0, []⟩ := ⟨rfl, fun _ => rfl, by simp⟩
theorem nodup_map {α β : Type} {f : α → β} : ∀ {l : List α}, (l.map f).Nodup → l.Nodup
  | [], _ => List.nodup_nil
  | x :: r, h => by
    rw [List.map_cons, List.nodup_cons] at h
    exact List.nodup_cons.2 ⟨fun hx => h.1 (List.mem_map.2 ⟨x, hx, rfl⟩), nodup_map h.2⟩
theorem Sim.perm {T : Tab} {R : RTab} (h : Sim T R) (hp : ∀ x ∈ T.m, x.2.path = x.1) : (T.m.map (·.2)).Perm (curs R.log) := by
  have h1 : ((T.m.map (·.2)).map (·.path)).Nodup := by
    rw [List.map_map]
    have : T.m.map ((fun l : Lease => l.path) ∘ fun x => x.2) = T.m.map (·.1) := List.map_congr_left fun x hx => hp x hx
    rw [this]
    exact h.once
  have h2 := curs_once R.log
  refine (List.perm_ext_iff_of_nodup (nodup_map h1) (nodup_map h2)).2 fun l => ?_
  rw [curs_mem, ← h.lk]
  constructor
  · intro hl
    obtain ⟨x, hx, rfl⟩ := List.mem_map.1 hl
    rw [hp x hx]
    exact lk_of_mem h.once hx
  · intro hl
    obtain ⟨x, hx, _, he⟩ := lk_mem hl
    exact List.mem_map.2 ⟨x, hx, he⟩
theorem Sim.len {T : Tab} {R : RTab} (h : Sim T R) (hp : ∀ x ∈ T.m, x.2.path = x.1) : T.m.length = (curs R.log).length := by
  have := (h.perm hp).length_eq
  simpa using this
theorem Sim.add {T : Tab} {R : RTab} (h : Sim T R) (p : ByteArray) (l : Lease) (hl : l.path = p) : Sim ⟨T.clk, pt T.m p l⟩ ⟨R.clk, R.log ++ [l]⟩ :=
  ⟨h.clk, fun q => by
    show Go.Proofs.YtcfmkmhibghaoaaDoor.lk (pt T.m p l) q = rlk (R.log ++ [l]) q
    rw [lk_pt, rlk_snoc, h.lk, hl]
    have : (q == p) = (p == q) := by rw [Bool.eq_iff_iff, ba_beq, ba_beq]; exact eq_comm
    rw [this], keys_pt h.once⟩
theorem Sim.set {T : Tab} {R : RTab} (h : Sim T R) {p : ByteArray} {l y : Lease} (hy : rlk R.log p = some y) (hl : l.path = p) : Sim ⟨T.clk, pt T.m p l⟩ ⟨R.clk, setR R.log p l⟩ :=
  ⟨h.clk, fun q => by
    show Go.Proofs.YtcfmkmhibghaoaaDoor.lk (pt T.m p l) q = rlk (setR R.log p l) q
    rw [lk_pt, rlk_setR hy hl, h.lk], keys_pt h.once⟩
/-- What the two answer, and that they still say the same. -/
def Agree (a : Tab × Lease × Int) (b : RTab × Lease × Int) : Prop := a.2 = b.2 ∧ Sim a.1 b.1
theorem sim_acq {T : Tab} {R : RTab} (h : Sim T R) (hp : ∀ x ∈ T.m, x.2.path = x.1) (p hd : ByteArray) (n : Int) : Agree (acqT T p hd n) (racq R p hd n) := by
  have hlen := h.len hp
  have hlk := h.lk p
  have hck := h.clk
  unfold acqT racq
  split
  · exact ⟨rfl, h⟩
  split
  · exact ⟨rfl, h⟩
  split
  · exact ⟨rfl, h⟩
  rw [hlk, hlen, hck]
  cases hr : rlk R.log p with
  | none =>
    dsimp only
    split
    · exact ⟨rfl, h⟩
    · have := h.add p ⟨p, hd, 1, R.clk, R.clk + n⟩ rfl
      rw [hck] at this
      exact ⟨rfl, this⟩
  | some l =>
    dsimp only
    split
    · exact ⟨rfl, h⟩
    split
    · exact ⟨rfl, h⟩
    · have := h.add p ⟨p, hd, l.fence + 1, R.clk, R.clk + n⟩ rfl
      rw [hck] at this
      exact ⟨rfl, this⟩
theorem sim_ren {T : Tab} {R : RTab} (h : Sim T R) (p hd : ByteArray) (f n : Int) : Agree (renT T p hd f n) (rren R p hd f n) := by
  have hlk := h.lk p
  have hck := h.clk
  unfold renT rren
  split
  · exact ⟨rfl, h⟩
  rw [hlk, hck]
  cases hr : rlk R.log p with
  | none => exact ⟨rfl, h⟩
  | some l =>
    dsimp only
    split
    · have := h.set (l := ⟨l.path, l.holder, l.fence, l.since, max l.til (R.clk + n)⟩) hr (rlk_path hr).1
      rw [hck] at this
      exact ⟨rfl, this⟩
    · exact ⟨rfl, h⟩
theorem sim_end {T : Tab} {R : RTab} (h : Sim T R) {p : ByteArray} {l : Lease} (hr : rlk R.log p = some l) : Sim (endT T l) (rend19 R p l) := by
  have hck := h.clk
  unfold endT rend19
  have := h.set (l := ⟨l.path, l.holder, l.fence, l.since, R.clk⟩) hr (rlk_path hr).1
  have e : l.path = p := (rlk_path hr).1
  rw [hck] at this ⊢
  rw [e] at this ⊢
  exact this
theorem sim_rel {T : Tab} {R : RTab} (h : Sim T R) (p hd : ByteArray) (f : Int) : (relT T p hd f).2 = (rrel R p hd f).2 ∧ Sim (relT T p hd f).1 (rrel R p hd f).1 := by
  have hlk := h.lk p
  have hck := h.clk
  unfold relT rrel
  rw [hlk, hck]
  cases hr : rlk R.log p with
  | none => exact ⟨rfl, h⟩
  | some l =>
    dsimp only
    split
    · exact ⟨rfl, sim_end h hr⟩
    · exact ⟨rfl, h⟩
theorem sim_brk {T : Tab} {R : RTab} (h : Sim T R) (p : ByteArray) : (brkT T p).2 = (rbrk R p).2 ∧ Sim (brkT T p).1 (rbrk R p).1 := by
  have hlk := h.lk p
  have hck := h.clk
  unfold brkT rbrk
  rw [hlk, hck]
  cases hr : rlk R.log p with
  | none => exact ⟨rfl, h⟩
  | some l =>
    dsimp only
    split
    · exact ⟨rfl, sim_end h hr⟩
    · exact ⟨rfl, h⟩
theorem sim_adv {T : Tab} {R : RTab} (h : Sim T R) (n : Int) : (advT T n).2 = (radv R n).2 ∧ Sim (advT T n).1 (radv R n).1 := by
  have hck := h.clk
  unfold advT radv
  rw [hck]
  split
  · exact ⟨rfl, h⟩
  · exact ⟨rfl, rfl, h.lk, h.once⟩
theorem sim_do {T : Tab} {R : RTab} (h : Sim T R) (hp : ∀ x ∈ T.m, x.2.path = x.1) (o : LOp) : Agree (doT T o) (rdo R o) := by
  unfold doT rdo
  split
  · exact sim_acq h hp _ _ _
  split
  · exact sim_ren h _ _ _ _
  split
  · obtain ⟨h1, h2⟩ := sim_rel h o.p o.h o.fence
    exact ⟨by rw [h1], h2⟩
  split
  · obtain ⟨h1, h2⟩ := sim_brk h o.p
    exact ⟨by rw [h1], h2⟩
  · obtain ⟨h1, h2⟩ := sim_adv h o.n
    exact ⟨by rw [h1], h2⟩
theorem sim_has {T : Tab} {R : RTab} (h : Sim T R) (p hd : ByteArray) (f : Int) : (match lk T.m p with | none => false | some l => hldB T.clk l.holder l.fence l.since l.til hd f) = rhas R p hd f := by
  unfold rhas
  rw [h.lk, h.clk]
end Go.Proofs.YtcfmkmhibghaoaaDoor
