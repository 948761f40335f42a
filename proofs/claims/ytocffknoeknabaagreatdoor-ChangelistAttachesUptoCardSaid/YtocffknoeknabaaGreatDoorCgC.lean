
/-
  The base for seats without the journal (joined by a program of ours from our own texts).
-/
import Derived.Test.YtocffknoeknabaaGreatDoorDpE
import Derived.Test.YtocffknoeknabaaGreatDoorCgA
import Derived.OrdersHeld
namespace Go.Proofs.YtocffknoeknabaaGreatDoor
section
open Go.RowKit

structure Pnd where
  num : Int
  client : ByteArray
  text : ByteArray
  shv : Bool
  edits : List Edt
def pndC (p : Pnd) (E : Option Addr) (ec : Nat) (R : Option Addr) (rc : Nat) : List Value := [.int .i64 p.num, .string p.client, .string p.text, .bool p.shv, .slice E p.edits.length ec, .slice R 0 rc]
def pndV (p : Pnd) (E : Option Addr) (ec : Nat) (R : Option Addr) (rc : Nat) : Value := .agg (pndC p E ec R rc).toArray
def zeroP : Pnd := ⟨0, ⟨#[]⟩, ⟨#[]⟩, false, []⟩

/-- Edits in the order of their paths, each once. -/
def SrtE (E : List Edt) : Prop := E.Pairwise fun a b => ordH a.path b.path < 0
structure EOk (E : List Edt) : Prop where
  srt : SrtE E
  use : ∀ x ∈ E, useB x.path = true
  act : ∀ x ∈ E, 1 ≤ x.act ∧ x.act ≤ 5
  base : ∀ x ∈ E, 0 ≤ x.base ∧ x.base ≤ 1000000
  len : E.length ≤ 64
/-- What the search for a place needs. -/
structure EPl (E : List Edt) : Prop where
  srt : SrtE E
  use : ∀ x ∈ E, validB x.path.data.toList = true ∧ x.path.size ≤ 4294967281
  len : E.length ≤ 1000
theorem EOk.nil : EOk [] := ⟨.nil, (fun _ h => by cases h), (fun _ h => by cases h), (fun _ h => by cases h), by decide⟩
theorem use_valid {s : ByteArray} (h : useB s = true) : validB s.data.toList = true ∧ s.size ≤ 200 := by
  unfold useB at h
  rw [Bool.and_eq_true, decide_eq_true_eq] at h
  exact ⟨h.2, h.1⟩
theorem use_wide {s : ByteArray} (h : useB s = true) : validB s.data.toList = true ∧ s.size ≤ 4294967281 := ⟨(use_valid h).1, Nat.le_trans (use_valid h).2 (by decide)⟩
theorem EOk.pl {E : List Edt} (h : EOk E) : EPl E := ⟨h.srt, fun x hx => use_wide (h.use x hx), Nat.le_trans h.len (by decide)⟩
theorem srt_ext : ∀ {E F : List Edt}, SrtE E → SrtE F → (∀ x, x ∈ E ↔ x ∈ F) → E = F
  | [], [], _, _, _ => rfl
  | [], y :: _, _, _, h => absurd ((h y).2 (by simp)) (by simp)
  | x :: _, [], _, _, h => absurd ((h x).1 (by simp)) (by simp)
  | x :: r, y :: s, h1, h2, h => by
    unfold SrtE at h1 h2
    rw [List.pairwise_cons] at h1 h2
    have e : x = y := by
      rcases List.mem_cons.1 ((h x).1 (by simp)) with e | hx
      · exact e
      · rcases List.mem_cons.1 ((h y).2 (by simp)) with e | hy
        · exact e.symm
        · have a := h2.1 x hx
          have b := h1.1 y hy
          have := ordH_swap x.path y.path
          omega
    subst e
    refine congrArg _ (srt_ext h1.2 h2.2 fun z => ⟨fun hz => ?_, fun hz => ?_⟩)
    · rcases List.mem_cons.1 ((h z).1 (by simp [hz])) with e | h3
      · subst e
        have := h1.1 z hz
        rw [ordH_self] at this
        omega
      · exact h3
    · rcases List.mem_cons.1 ((h z).2 (by simp [hz])) with e | h3
      · subst e
        have := h2.1 z hz
        rw [ordH_self] at this
        omega
      · exact h3
theorem srt_one {E : List Edt} (h : SrtE E) {x y : Edt} (hx : x ∈ E) (hy : y ∈ E) (e : x.path = y.path) : x = y := by
  obtain ⟨i, hi, rfl⟩ := List.getElem_of_mem hx
  obtain ⟨j, hj, rfl⟩ := List.getElem_of_mem hy
  have h3 := List.pairwise_iff_getElem.1 h
  rcases Nat.lt_trichotomy i j with hlt | rfl | hlt
  · have := h3 i j hi hj hlt
    rw [e, ordH_self] at this
    omega
  · rfl
  · have := h3 j i hj hi hlt
    rw [e, ordH_self] at this
    omega

/-! The place of a path. -/
def ltE (s : ByteArray) (x : Edt) : Bool := decide (ordH x.path s < 0)
def posE (E : List Edt) (s : ByteArray) : Nat := (E.takeWhile (ltE s)).length
def posP (E : List Edt) (s : ByteArray) : Nat := if validB s.data.toList = true then posE E s else 0
def fndE (E : List Edt) (s : ByteArray) : Option Edt := E.find? fun x => x.path == s
def hasE (E : List Edt) (s : ByteArray) : Bool := (fndE E s).isSome
theorem pos_le (E : List Edt) (s : ByteArray) : posE E s ≤ E.length := (List.takeWhile_sublist _).length_le
theorem posP_le (E : List Edt) (s : ByteArray) : posP E s ≤ E.length := by
  unfold posP
  split
  · exact pos_le E s
  · exact Nat.zero_le _
theorem pos_split : ∀ {E : List Edt} (_ : SrtE E) (s : ByteArray), (∀ x ∈ E.take (posE E s), ordH x.path s < 0) ∧ ∀ x ∈ E.drop (posE E s), 0 ≤ ordH x.path s
  | [], _, s => ⟨fun x h => by simp at h, fun x h => by simp at h⟩
  | x :: r, h, s => by
    unfold SrtE at h
    rw [List.pairwise_cons] at h
    unfold posE
    rw [List.takeWhile_cons]
    cases hx : ltE s x
    · rw [if_neg (by decide)]
      refine ⟨fun y hy => by simp at hy, fun y hy => ?_⟩
      unfold ltE at hx
      rw [decide_eq_false_iff_not] at hx
      rcases List.mem_cons.1 (by simpa using hy) with rfl | hy
      · omega
      · have h1 := h.1 y hy
        by_cases h2 : ordH y.path s < 0
        · exact absurd (ordH_trans h1 h2) hx
        · omega
    · rw [if_pos rfl]
      obtain ⟨h1, h2⟩ := pos_split (E := r) h.2 s
      unfold ltE at hx
      rw [decide_eq_true_eq] at hx
      refine ⟨fun y hy => ?_, fun y hy => ?_⟩
      · rcases List.mem_cons.1 (by simpa [List.take_succ_cons] using hy) with rfl | hy
        · exact hx
        · exact h1 y hy
      · refine h2 y ?_
        unfold posE
        simpa using hy
theorem pos_at {E : List Edt} (h : SrtE E) (s : ByteArray) {i : Nat} (hi : i < E.length) : ordH E[i].path s < 0 ↔ i < posE E s := by
  obtain ⟨h1, h2⟩ := pos_split h s
  have h3 := pos_le E s
  constructor
  · intro h4
    by_cases h5 : i < posE E s
    · exact h5
    · have := h2 E[i] (by
        rw [List.mem_iff_getElem]
        exact ⟨i - posE E s, by rw [List.length_drop]; omega, by rw [List.getElem_drop]; congr 1; omega⟩)
      omega
  · intro h4
    exact h1 E[i] (by
      rw [List.mem_iff_getElem]
      exact ⟨i, by rw [List.length_take]; omega, by rw [List.getElem_take]⟩)
theorem fnd_some {E : List Edt} {s : ByteArray} {x : Edt} (h : fndE E s = some x) : x ∈ E ∧ x.path = s := by
  have h1 := List.mem_of_find?_eq_some h
  have h2 := List.find?_some h
  exact ⟨h1, (ba_beq _ _).1 h2⟩
theorem fnd_none {E : List Edt} {s : ByteArray} (h : fndE E s = none) : ∀ x ∈ E, x.path ≠ s := fun x hx e => by
  have := List.find?_eq_none.1 h x hx
  exact this ((ba_beq _ _).2 e)
theorem fnd_is {E : List Edt} (h : SrtE E) {s : ByteArray} {x : Edt} (hx : x ∈ E) (e : x.path = s) : fndE E s = some x := by
  cases hf : fndE E s with
  | none => exact absurd e (fnd_none hf x hx)
  | some y =>
    obtain ⟨h1, h2⟩ := fnd_some hf
    rw [srt_one h h1 hx (by rw [h2, e])]
/-- Where the path is open: at its place. -/
theorem pos_has {E : List Edt} (h : SrtE E) {s : ByteArray} {x : Edt} (hf : fndE E s = some x) : posE E s < E.length ∧ E[posE E s]? = some x := by
  obtain ⟨h1, h2⟩ := fnd_some hf
  obtain ⟨i, hi, rfl⟩ := List.getElem_of_mem h1
  have a : ¬ i < posE E s := by
    rw [← pos_at h s hi, h2, ordH_self]
    omega
  have b : posE E s < E.length := by omega
  refine ⟨b, ?_⟩
  rw [List.getElem?_eq_getElem b]
  congr 1
  by_cases e : posE E s = i
  · simp [e]
  · have hlt : posE E s < i := by omega
    have c := List.pairwise_iff_getElem.1 h _ _ b hi hlt
    rw [h2, pos_at h s b] at c
    omega
theorem posP_has {E : List Edt} (h : EPl E) {s : ByteArray} {x : Edt} (hf : fndE E s = some x) : posP E s = posE E s := by
  obtain ⟨h1, h2⟩ := fnd_some hf
  have := (h.use x h1).1
  rw [h2] at this
  unfold posP
  rw [if_pos this]
/-- What the program asks at the place. -/
theorem place_is {E : List Edt} (h : EPl E) (s : ByteArray) : hasE E s = (match E[posP E s]? with | some x => x.path == s | none => false) := by
  unfold hasE
  cases hf : fndE E s with
  | some x =>
    rw [posP_has h hf, (pos_has h.srt hf).2]
    exact ((ba_beq _ _).2 (fnd_some hf).2).symm
  | none =>
    cases hg : E[posP E s]? with
    | none => rfl
    | some x =>
      have := fnd_none hf x (List.mem_of_getElem? hg)
      dsimp only
      cases hb : (x.path == s)
      · rfl
      · exact absurd ((ba_beq _ _).1 hb) this

/-! One more, one less, one changed. -/
def insE (E : List Edt) (x : Edt) : List Edt := E.take (posE E x.path) ++ x :: E.drop (posE E x.path)
def delE (E : List Edt) (s : ByteArray) : List Edt := E.take (posE E s) ++ E.drop (posE E s + 1)
def setX (E : List Edt) (s : ByteArray) (x : Edt) : List Edt := E.set (posE E s) x
theorem mem_ins {E : List Edt} {x y : Edt} : y ∈ insE E x ↔ y = x ∨ y ∈ E := by
  have h : y ∈ E ↔ y ∈ E.take (posE E x.path) ∨ y ∈ E.drop (posE E x.path) := by
    rw [← List.mem_append, List.take_append_drop]
  unfold insE
  rw [List.mem_append, List.mem_cons, h]
  constructor
  · rintro (h | h | h)
    · exact .inr (.inl h)
    · exact .inl h
    · exact .inr (.inr h)
  · rintro (h | h | h)
    · exact .inr (.inl h)
    · exact .inl h
    · exact .inr (.inr h)
theorem ins_len (E : List Edt) (x : Edt) : (insE E x).length = E.length + 1 := by
  unfold insE
  have := pos_le E x.path
  rw [List.length_append, List.length_cons, List.length_take, List.length_drop]
  omega
theorem ins_srt {E : List Edt} (h : SrtE E) {x : Edt} (hx : ∀ y ∈ E, y.path ≠ x.path) : SrtE (insE E x) := by
  obtain ⟨h1, h2⟩ := pos_split h x.path
  unfold SrtE insE
  rw [List.pairwise_append]
  refine ⟨h.sublist (List.take_sublist _ _), ?_, fun a ha b hb => ?_⟩
  · rw [List.pairwise_cons]
    refine ⟨fun b hb => ?_, h.sublist (List.drop_sublist _ _)⟩
    have a1 := h2 b hb
    have a2 := hx b (List.mem_of_mem_drop hb)
    have a3 := ordH_swap b.path x.path
    by_cases e : ordH b.path x.path = 0
    · exact absurd (ordH_zero e) a2
    · omega
  · have a1 := h1 a ha
    rcases List.mem_cons.1 hb with rfl | hb
    · exact a1
    · have a2 := h2 b hb
      have a3 := hx b (List.mem_of_mem_drop hb)
      have a4 := ordH_swap b.path x.path
      have a5 : ordH x.path b.path < 0 := by
        by_cases e : ordH b.path x.path = 0
        · exact absurd (ordH_zero e) a3
        · omega
      exact ordH_trans a1 a5
theorem del_sublist (E : List Edt) (s : ByteArray) : (delE E s).Sublist E := by
  unfold delE
  conv => rhs; rw [← List.take_append_drop (posE E s) E]
  exact List.Sublist.append (List.Sublist.refl _) (List.drop_sublist_drop_left _ (Nat.le_succ _))
theorem del_srt {E : List Edt} (h : SrtE E) (s : ByteArray) : SrtE (delE E s) := h.sublist (del_sublist E s)
theorem mem_del {E : List Edt} (h : SrtE E) {s : ByteArray} {x : Edt} (hf : fndE E s = some x) {y : Edt} : y ∈ delE E s ↔ y ∈ E ∧ y.path ≠ s := by
  obtain ⟨h1, h2⟩ := pos_has h hf
  have e : E = E.take (posE E s) ++ x :: E.drop (posE E s + 1) := by
    have h3 := (List.getElem?_eq_some_iff.1 h2).2
    conv => lhs; rw [← List.take_append_drop (posE E s) E, List.drop_eq_getElem_cons h1, h3]
  have hs := fnd_some hf
  constructor
  · intro hy
    refine ⟨(del_sublist E s).subset hy, fun hp => ?_⟩
    have hxy := srt_one h ((del_sublist E s).subset hy) hs.1 (by rw [hp, hs.2])
    subst hxy
    have hn : SrtE (E.take (posE E s) ++ y :: E.drop (posE E s + 1)) := by rw [← e]; exact h
    unfold SrtE at hn
    rw [List.pairwise_append, List.pairwise_cons] at hn
    unfold delE at hy
    rcases List.mem_append.1 hy with hy | hy
    · have := hn.2.2 y hy y (by simp)
      rw [ordH_self] at this
      omega
    · have := hn.2.1.1 y hy
      rw [ordH_self] at this
      omega
  · rintro ⟨hy, hp⟩
    rw [e] at hy
    unfold delE
    rcases List.mem_append.1 hy with hy | hy
    · exact List.mem_append_left _ hy
    · rcases List.mem_cons.1 hy with rfl | hy
      · exact absurd hs.2 hp
      · exact List.mem_append_right _ hy
theorem delE_len {E : List Edt} (h : SrtE E) {s : ByteArray} {x : Edt} (hf : fndE E s = some x) : (delE E s).length + 1 = E.length := by
  have := (pos_has h hf).1
  unfold delE
  rw [List.length_append, List.length_take, List.length_drop]
  omega
theorem set_srt {E : List Edt} (h : SrtE E) {s : ByteArray} {x x' : Edt} (hf : fndE E s = some x) (hp : x'.path = x.path) : SrtE (setX E s x') := by
  obtain ⟨h1, h2⟩ := pos_has h hf
  have h3 := (List.getElem?_eq_some_iff.1 h2).2
  unfold SrtE setX
  rw [List.pairwise_iff_getElem]
  intro i j hi hj hij
  rw [List.length_set] at hi hj
  have h4 := List.pairwise_iff_getElem.1 h i j hi hj hij
  rw [List.getElem_set, List.getElem_set]
  split
  · rename_i e
    rw [if_neg (by omega), hp, ← h3]
    simp only [e]
    exact h4
  · split
    · rename_i e
      rw [hp, ← h3]
      simp only [e]
      exact h4
    · exact h4
theorem mem_set' {E : List Edt} (h : SrtE E) {s : ByteArray} {x x' : Edt} (hf : fndE E s = some x) {y : Edt} : y ∈ setX E s x' ↔ y = x' ∨ (y ∈ E ∧ y.path ≠ s) := by
  obtain ⟨h1, h2⟩ := pos_has h hf
  have e : setX E s x' = E.take (posE E s) ++ x' :: E.drop (posE E s + 1) := by
    unfold setX
    rw [List.set_eq_take_append_cons_drop, if_pos h1]
  rw [e, ← mem_del h hf]
  unfold delE
  rw [List.mem_append, List.mem_cons, List.mem_append]
  constructor
  · rintro (h | h | h)
    · exact .inr (.inl h)
    · exact .inl h
    · exact .inr (.inr h)
  · rintro (h | h | h)
    · exact .inr (.inl h)
    · exact .inl h
    · exact .inr (.inr h)

theorem EPl.insW {E : List Edt} (h : EPl E) {x : Edt} (hu : validB x.path.data.toList = true ∧ x.path.size ≤ 4294967281) (hn : ∀ y ∈ E, y.path ≠ x.path) (hl : E.length < 1000) : EPl (insE E x) :=
  ⟨ins_srt h.srt hn, (fun y hy => by rcases mem_ins.1 hy with rfl | hy <;> first | exact hu | exact h.use y hy), by rw [ins_len]; omega⟩
theorem EPl.ins {E : List Edt} (h : EPl E) {x : Edt} (hu : useB x.path = true) (hn : ∀ y ∈ E, y.path ≠ x.path) (hl : E.length < 1000) : EPl (insE E x) := h.insW (use_wide hu) hn hl
theorem EPl.sub {E F : List Edt} (h : EPl E) (hs : F.Sublist E) : EPl F :=
  ⟨h.srt.sublist hs, fun y hy => h.use y (hs.subset hy), Nat.le_trans hs.length_le h.len⟩
/-! The calls. -/
def badTC (t : FTy) (c : Cid) : Bool := decide (tyErr t ≠ 0) || decide (c.size < 0)
def newE (d : List Rev) (s : ByteArray) (act : Int) (t : FTy) (c : Cid) : Edt :=
  ⟨s, act, if act = 3 then (lastR d s).ty else t, if act = 3 then zeroCon else c, (lastR d s).num, ⟨#[]⟩, 0, 0⟩
def openP (d : List Rev) (p : Pnd) (s : ByteArray) (act : Int) (t : FTy) (c : Cid) : Pnd × Int :=
  if useB s = false then (zeroP, 180)
  else if hasE p.edits s = true then (zeroP, 181)
  else if liveD d s = decide (act = 1) ∨ (act ≠ 3 ∧ badTC t c = true) then (zeroP, 183)
  else if 64 ≤ p.edits.length then (zeroP, 184)
  else ({ p with edits := insE p.edits (newE d s act t c) }, 0)
def awayE (d : List Rev) (s : ByteArray) : Edt := ⟨s, 5, (lastR d s).ty, zeroCon, (lastR d s).num, ⟨#[]⟩, 0, 0⟩
def hereE (d : List Rev) (s t : ByteArray) (ty : FTy) (c : Cid) : Edt := ⟨t, 4, ty, c, (lastR d t).num, s, (lastR d s).num, 0⟩
def movedL (d : List Rev) (E : List Edt) (s t : ByteArray) : List Edt := match fndE E s with
  | none => insE (insE E (awayE d s)) (hereE d s t (lastR d s).ty (lastR d s).con)
  | some x => if x.act = 2 then insE (insE (delE E s) (awayE d s)) (hereE d s t x.ty x.con) else insE (delE E s) { x with path := t, base := (lastR d t).num }
def movBad (d : List Rev) (E : List Edt) (s t : ByteArray) : Bool := liveD d t || s == t || (match fndE E s with
  | none => !liveD d s
  | some x => x.act == 3 || x.act == 5)
def moveP (d : List Rev) (p : Pnd) (s t : ByteArray) : Pnd × Int :=
  if useB s = false ∨ useB t = false then (zeroP, 180)
  else if hasE p.edits t = true then (zeroP, 181)
  else if movBad d p.edits s t = true then (zeroP, 183)
  else if 64 < (movedL d p.edits s t).length then (zeroP, 184)
  else ({ p with edits := movedL d p.edits s t }, 0)
def setP (p : Pnd) (s : ByteArray) (t : FTy) (c : Cid) : Pnd × Int := match fndE p.edits s with
  | none => (zeroP, 182)
  | some x => if (x.act = 3 ∨ x.act = 5) ∨ badTC t c = true then (zeroP, 183) else ({ p with edits := setX p.edits s { x with ty := t, con := c } }, 0)
def ctrE (x y : Edt) : Bool := (x.act == 4 && y.act == 5 && y.path == x.src) || (x.act == 5 && y.act == 4 && y.src == x.path)
def keepE (x y : Edt) : Bool := !(y.path == x.path || ctrE x y)
def revP (p : Pnd) (s : ByteArray) : Pnd × Int := match fndE p.edits s with
  | none => (zeroP, 182)
  | some x => ({ p with edits := p.edits.filter (keepE x) }, 0)
structure Opr where
  kind : Int
  s : ByteArray
  t : ByteArray
  ty : FTy
  con : Cid
def doP (d : List Rev) (p : Pnd) (o : Opr) : Pnd × Int :=
  if o.kind = 1 then openP d p o.s 1 o.ty o.con
  else if o.kind = 2 then openP d p o.s 2 o.ty o.con
  else if o.kind = 3 then openP d p o.s 3 zeroTy zeroCon
  else if o.kind = 4 then moveP d p o.s o.t
  else if o.kind = 5 then setP p o.s o.ty o.con
  else revP p o.s
/-- What any calls make of a pending: those that are refused leave it. -/
def runP (d : List Rev) : Pnd → List Opr → Pnd
  | p, [] => p
  | p, o :: r => runP d (if (doP d p o).2 = 0 then (doP d p o).1 else p) r
end

section
open Go.RowKit

theorem EOk.ins {E : List Edt} (h : EOk E) {x : Edt} (hu : useB x.path = true) (ha : 1 ≤ x.act ∧ x.act ≤ 5) (hb : 0 ≤ x.base ∧ x.base ≤ 1000000) (hn : ∀ y ∈ E, y.path ≠ x.path) (hl : E.length < 64) : EOk (insE E x) :=
  ⟨ins_srt h.srt hn, (fun y hy => by rcases mem_ins.1 hy with rfl | hy <;> first | exact hu | exact h.use y hy), (fun y hy => by rcases mem_ins.1 hy with rfl | hy <;> first | exact ha | exact h.act y hy),
    (fun y hy => by rcases mem_ins.1 hy with rfl | hy <;> first | exact hb | exact h.base y hy), by rw [ins_len]; omega⟩
theorem EOk.sub {E F : List Edt} (h : EOk E) (hs : F.Sublist E) : EOk F :=
  ⟨h.srt.sublist hs, fun y hy => h.use y (hs.subset hy), fun y hy => h.act y (hs.subset hy), fun y hy => h.base y (hs.subset hy), Nat.le_trans hs.length_le h.len⟩
theorem EOk.set {E : List Edt} (h : EOk E) {s : ByteArray} {x x' : Edt} (hf : fndE E s = some x) (hp : x'.path = x.path) (ha : x'.act = x.act) (hb : x'.base = x.base) : EOk (setX E s x') := by
  have hx := (fnd_some hf).1
  refine ⟨set_srt h.srt hf hp, fun y hy => ?_, fun y hy => ?_, fun y hy => ?_, by unfold setX; rw [List.length_set]; exact h.len⟩
  · rcases (mem_set' h.srt hf).1 hy with rfl | hy
    · rw [hp]; exact h.use _ hx
    · exact h.use y hy.1
  · rcases (mem_set' h.srt hf).1 hy with rfl | hy
    · rw [ha]; exact h.act _ hx
    · exact h.act y hy.1
  · rcases (mem_set' h.srt hf).1 hy with rfl | hy
    · rw [hb]; exact h.base _ hx
    · exact h.base y hy.1
theorem last_bd {d : List Rev} (ha : Asc d) (hn : d.length ≤ 512) (p : ByteArray) : 0 ≤ (lastR d p).num ∧ (lastR d p).num ≤ 1000000 := by
  have h1 := asc_last ha p
  rw [lastN_is] at h1
  have h2 := log_len d p
  omega
theorem has_none {E : List Edt} {s : ByteArray} (h : hasE E s = false) : ∀ y ∈ E, y.path ≠ s := by
  unfold hasE at h
  cases hf : fndE E s with
  | none => exact fnd_none hf
  | some x => rw [hf] at h; cases h
theorem none_has {E : List Edt} {s : ByteArray} (h : fndE E s = none) : hasE E s = false := by unfold hasE; rw [h]; rfl
theorem has_of {E : List Edt} {s : ByteArray} (h : ∀ y ∈ E, y.path ≠ s) : fndE E s = none := by
  cases hf : fndE E s with
  | none => rfl
  | some x => exact absurd (fnd_some hf).2 (h x (fnd_some hf).1)
section
variable {d : List Rev} (hd : Asc d) (hdn : d.length ≤ 512)
include hd hdn
theorem open_ok {p : Pnd} (h : EOk p.edits) (s : ByteArray) {act : Int} (ha : 1 ≤ act ∧ act ≤ 3) (t : FTy) (c : Cid) : EOk (openP d p s act t c).1.edits := by
  unfold openP
  split
  · exact EOk.nil
  rename_i h1
  split
  · exact EOk.nil
  rename_i h2
  split
  · exact EOk.nil
  split
  · exact EOk.nil
  rename_i h3
  exact h.ins (x := newE d s act t c) (show useB s = true by simpa using h1) ⟨ha.1, Int.le_trans ha.2 (by decide)⟩ (last_bd hd hdn s) (has_none (s := s) (by simpa using h2)) (by omega)
theorem moved_ok {E : List Edt} (h : EOk E) {s t : ByteArray} (hs : useB s = true) (ht : useB t = true) (ho : hasE E t = false) (hb : movBad d E s t = false) (hl : (movedL d E s t).length ≤ 64) : EOk (movedL d E s t) := by
  have hne : s ≠ t := by
    intro e
    subst e
    unfold movBad at hb
    rw [ba_self] at hb
    simp at hb
  have hnt := has_none ho
  unfold movedL at hl ⊢
  cases hf : fndE E s with
  | none =>
    rw [hf] at hl
    dsimp only at hl ⊢
    rw [ins_len, ins_len] at hl
    have h1 := h.ins (x := awayE d s) hs ⟨(by decide : (1 : Int) ≤ 5), (by decide : (5 : Int) ≤ 5)⟩ (last_bd hd hdn s) (fnd_none hf) (by omega)
    refine h1.ins ht ⟨(by decide : (1 : Int) ≤ 4), (by decide : (4 : Int) ≤ 5)⟩ (last_bd hd hdn t) (fun y hy => ?_) (by rw [ins_len]; omega)
    rcases mem_ins.1 hy with rfl | hy
    · exact hne
    · exact hnt y hy
  | some x =>
    rw [hf] at hl
    dsimp only at hl ⊢
    have hlen := delE_len h.srt hf
    have hh := h.len
    have hd1 := h.sub (del_sublist E s)
    split
    · rename_i h2
      rw [if_pos h2, ins_len, ins_len] at hl
      have h1 := hd1.ins (x := awayE d s) hs ⟨(by decide : (1 : Int) ≤ 5), (by decide : (5 : Int) ≤ 5)⟩ (last_bd hd hdn s) (fun y hy => ((mem_del h.srt hf).1 hy).2) (by omega)
      refine h1.ins ht ⟨(by decide : (1 : Int) ≤ 4), (by decide : (4 : Int) ≤ 5)⟩ (last_bd hd hdn t) (fun y hy => ?_) (by rw [ins_len]; omega)
      rcases mem_ins.1 hy with rfl | hy
      · exact hne
      · exact hnt y ((mem_del h.srt hf).1 hy).1
    · have hx := (fnd_some hf).1
      exact hd1.ins ht (h.act x hx) (last_bd hd hdn t) (fun y hy => hnt y ((mem_del h.srt hf).1 hy).1) (by omega)
theorem move_ok {p : Pnd} (h : EOk p.edits) (s t : ByteArray) : EOk (moveP d p s t).1.edits := by
  unfold moveP
  split
  · exact EOk.nil
  rename_i h1
  split
  · exact EOk.nil
  rename_i h2
  split
  · exact EOk.nil
  rename_i h3
  split
  · exact EOk.nil
  rename_i h4
  simp only [not_or, Bool.not_eq_false] at h1
  exact moved_ok hd hdn h h1.1 h1.2 (by simpa using h2) (by simpa using h3) (by omega)
omit hd hdn in
theorem set_ok {p : Pnd} (h : EOk p.edits) (s : ByteArray) (t : FTy) (c : Cid) : EOk (setP p s t c).1.edits := by
  unfold setP
  split
  · exact EOk.nil
  · rename_i x hf
    split
    · exact EOk.nil
    · exact h.set hf rfl rfl rfl
omit hd hdn in
theorem rev_ok {p : Pnd} (h : EOk p.edits) (s : ByteArray) : EOk (revP p s).1.edits := by
  unfold revP
  split
  · exact EOk.nil
  · exact h.sub List.filter_sublist
theorem do_ok {p : Pnd} (h : EOk p.edits) (o : Opr) : EOk (doP d p o).1.edits := by
  unfold doP
  split
  · exact open_ok hd hdn h _ (by decide) _ _
  split
  · exact open_ok hd hdn h _ (by decide) _ _
  split
  · exact open_ok hd hdn h _ (by decide) _ _
  split
  · exact move_ok hd hdn h _ _
  split
  · exact set_ok h _ _ _
  · exact rev_ok h _
theorem run_ok : ∀ (l : List Opr) {p : Pnd}, EOk p.edits → EOk (runP d p l).edits
  | [], _, h => h
  | o :: r, p, h => by
    unfold runP
    split
    · exact run_ok r (do_ok hd hdn h o)
    · exact run_ok r h
end
theorem run_snoc (d : List Rev) : ∀ (l : List Opr) (p : Pnd) (o : Opr), runP d p (l ++ [o]) = if (doP d (runP d p l) o).2 = 0 then (doP d (runP d p l) o).1 else runP d p l
  | [], _, _ => rfl
  | a :: r, p, o => by
    show runP d _ (r ++ [o]) = _
    rw [run_snoc d r]
    rfl
/-- What a pending keeps of its head. -/
def SameHd (p q : Pnd) : Prop := q.num = p.num ∧ q.client = p.client ∧ q.text = p.text ∧ q.shv = p.shv
/-! The order that a sort by insertion makes. -/
instance : Inhabited Edt := ⟨zeroEdt⟩
def ltO (x y : Edt) : Bool := decide (ordH x.path y.path < 0)
theorem swoE : Sort.SWO ltO := by
  refine ⟨fun x => ?_, fun x y z h1 h2 => ?_, fun x y z h1 h2 => ?_⟩
  · unfold ltO; rw [ordH_self]; rfl
  · unfold ltO at *
    rw [decide_eq_true_eq] at *
    exact ordH_trans h1 h2
  · unfold ltO at *
    rw [decide_eq_false_iff_not] at *
    intro h
    have s1 := ordH_swap x.path y.path
    by_cases e1 : ordH x.path y.path = 0
    · rw [ordH_zero e1] at h; exact h2 h
    · have h3 : ordH y.path x.path < 0 := by omega
      exact h2 (ordH_trans h3 h)
theorem sortE_is {V S : List Edt} (hS : SrtE S) (hp : S.Perm V) : (Sort.insOuter ltO 0 V.length 0 V.toArray).toList = S := by
  rw [ins_zero]
  obtain ⟨h1, h2⟩ := Sort.insertionSort_holds (lt := ltO) swoE V.toArray 0 V.length (Nat.zero_le _) (by simp)
  generalize Sort.insertionSort ltO V.toArray 0 V.length = d' at *
  obtain ⟨hs, _, hp'⟩ := h1
  have hs' : d'.size = V.length := by simpa using hs
  have e1 : V.toArray.extract 0 V.length = V.toArray := by simp
  have e2 : d'.extract 0 V.length = d' := by rw [← hs']; simp
  rw [e1, e2] at hp'
  have hp2 : d'.toList.Perm V := hp'
  have hne0 : S.Pairwise (fun a b => a.path ≠ b.path) := hS.imp (fun {a b} h e => by rw [e, ordH_self] at h; omega)
  have hon : d'.toList.Pairwise (fun a b => a.path ≠ b.path) := ((hp2.trans hp.symm).pairwise_iff (fun h => h.symm)).2 hne0
  have hsd : SrtE d'.toList := by
    unfold SrtE
    rw [List.pairwise_iff_getElem]
    intro i j hi hj hij
    simp only [Array.length_toList] at hi hj
    have h3 := h2 i j (Nat.zero_le _) hij (by omega)
    unfold ltO at h3
    rw [getElem!_pos d' i hi, getElem!_pos d' j hj, decide_eq_false_iff_not] at h3
    have hne := List.pairwise_iff_getElem.1 hon i j (by simpa using hi) (by simpa using hj) hij
    simp only [Array.getElem_toList] at hne ⊢
    have h4 := ordH_swap d'[i].path d'[j].path
    have h5 : ordH d'[i].path d'[j].path ≠ 0 := fun e => hne (ordH_zero e)
    omega
  exact srt_ext hsd hS fun x => (hp2.trans hp.symm).mem_iff
theorem ins_perm (E : List Edt) (x : Edt) : (insE E x).Perm (E ++ [x]) := by
  unfold insE
  have h : (E.take (posE E x.path) ++ x :: E.drop (posE E x.path)).Perm (x :: (E.take (posE E x.path) ++ E.drop (posE E x.path))) := List.perm_middle
  rw [List.take_append_drop] at h
  exact h.trans (List.perm_append_singleton x E).symm
theorem ins_perm2 (E : List Edt) (x y : Edt) : (insE (insE E x) y).Perm (E ++ [x, y]) := by
  refine (ins_perm _ y).trans ?_
  rw [show E ++ [x, y] = (E ++ [x]) ++ [y] by simp]
  exact (ins_perm E x).append_right [y]
end

section
open Go.RowKit

theorem move_parts {d : List Rev} {p : Pnd} {s t : ByteArray} (h : (moveP d p s t).2 = 0) : useB s = true ∧ useB t = true ∧ hasE p.edits t = false ∧ movBad d p.edits s t = false ∧ (movedL d p.edits s t).length ≤ 64 ∧ (moveP d p s t).1 = { p with edits := movedL d p.edits s t } := by
  unfold moveP at h ⊢
  split at h
  · exact absurd h (by decide)
  rename_i h1
  split at h
  · exact absurd h (by decide)
  rename_i h2
  split at h
  · exact absurd h (by decide)
  rename_i h3
  split at h
  · exact absurd h (by decide)
  rename_i h4
  rw [if_neg h1, if_neg h2, if_neg h3, if_neg h4]
  simp only [not_or, Bool.not_eq_false, Bool.not_eq_true] at h1 h2 h3
  exact ⟨h1.1, h1.2, h2, h3, by omega, rfl⟩
theorem movBad_no {d : List Rev} {E : List Edt} {s t : ByteArray} (h : movBad d E s t = false) : liveD d t = false ∧ s ≠ t ∧ (match fndE E s with
  | none => liveD d s = true
  | some x => x.act ≠ 3 ∧ x.act ≠ 5) := by
  unfold movBad at h
  rw [Bool.or_eq_false_iff, Bool.or_eq_false_iff] at h
  obtain ⟨⟨h1, h2⟩, h3⟩ := h
  refine ⟨h1, fun e => ?_, ?_⟩
  · rw [e, ba_self] at h2
    cases h2
  · cases hf : fndE E s with
    | none => rw [hf] at h3; simpa using h3
    | some x => rw [hf] at h3; simpa using h3
theorem mem_moved {d : List Rev} {E : List Edt} (h : SrtE E) {s t : ByteArray} {y : Edt} : y ∈ movedL d E s t ↔ (match fndE E s with
  | none => y = hereE d s t (lastR d s).ty (lastR d s).con ∨ y = awayE d s ∨ y ∈ E
  | some x => if x.act = 2 then y = hereE d s t x.ty x.con ∨ y = awayE d s ∨ (y ∈ E ∧ y.path ≠ s) else y = { x with path := t, base := (lastR d t).num } ∨ (y ∈ E ∧ y.path ≠ s)) := by
  unfold movedL
  cases hf : fndE E s with
  | none => dsimp only; rw [mem_ins, mem_ins]
  | some x =>
    dsimp only
    split
    · rw [mem_ins, mem_ins, mem_del h hf]
    · rw [mem_ins, mem_del h hf]

theorem open_parts {d : List Rev} {p : Pnd} {s : ByteArray} {act : Int} {t : FTy} {c : Cid} (h : (openP d p s act t c).2 = 0) : hasE p.edits s = false ∧ (openP d p s act t c).1 = { p with edits := insE p.edits (newE d s act t c) } := by
  unfold openP at h ⊢
  split at h
  · exact absurd h (by decide)
  rename_i h1
  split at h
  · exact absurd h (by decide)
  rename_i h2
  split at h
  · exact absurd h (by decide)
  rename_i h3
  split at h
  · exact absurd h (by decide)
  rename_i h4
  rw [if_neg h1, if_neg h2, if_neg h3, if_neg h4]
  exact ⟨by simpa using h2, rfl⟩
theorem do_head (d : List Rev) (p : Pnd) (o : Opr) (h : (doP d p o).2 = 0) : SameHd p (doP d p o).1 := by
  unfold doP at h ⊢
  split
  · rename_i k
    rw [if_pos k] at h
    rw [(open_parts h).2]
    exact ⟨rfl, rfl, rfl, rfl⟩
  rename_i k1
  rw [if_neg k1] at h
  split
  · rename_i k
    rw [if_pos k] at h
    rw [(open_parts h).2]
    exact ⟨rfl, rfl, rfl, rfl⟩
  rename_i k2
  rw [if_neg k2] at h
  split
  · rename_i k
    rw [if_pos k] at h
    rw [(open_parts h).2]
    exact ⟨rfl, rfl, rfl, rfl⟩
  rename_i k3
  rw [if_neg k3] at h
  split
  · rename_i k
    rw [if_pos k] at h
    rw [(move_parts h).2.2.2.2.2]
    exact ⟨rfl, rfl, rfl, rfl⟩
  rename_i k4
  rw [if_neg k4] at h
  split
  · rename_i k
    rw [if_pos k] at h
    unfold setP at h ⊢
    cases hf : fndE p.edits o.s with
    | none => rw [hf] at h; exact absurd h (by dsimp only; decide)
    | some z =>
      rw [hf] at h
      dsimp only at h ⊢
      split
      · rename_i q
        rw [if_pos q] at h
        exact absurd h (by decide)
      · exact ⟨rfl, rfl, rfl, rfl⟩
  · rename_i k5
    rw [if_neg k5] at h
    unfold revP at h ⊢
    cases hf : fndE p.edits o.s with
    | none => rw [hf] at h; exact absurd h (by dsimp only; decide)
    | some z => exact ⟨rfl, rfl, rfl, rfl⟩
theorem run_head (d : List Rev) : ∀ (l : List Opr) (p : Pnd), SameHd p (runP d p l)
  | [], _ => ⟨rfl, rfl, rfl, rfl⟩
  | o :: r, p => by
    unfold runP
    split
    · rename_i h
      obtain ⟨a1, a2, a3, a4⟩ := do_head d p o h
      obtain ⟨b1, b2, b3, b4⟩ := run_head d r (doP d p o).1
      exact ⟨b1.trans a1, b2.trans a2, b3.trans a3, b4.trans a4⟩
    · exact run_head d r p

section
variable {d : List Rev} (hd : Asc d) (hdn : d.length ≤ 512)
include hd hdn
omit hd hdn in
theorem rev_of {p q : Pnd} {s : ByteArray} {x : Edt} (hf : fndE p.edits s = some x) (hq : SrtE q.edits) (hp : SrtE p.edits) (hh : SameHd q p) (hm : ∀ y, y ∈ q.edits ↔ y ∈ p.edits ∧ keepE x y = true) : revP p s = (q, 0) := by
  unfold revP
  rw [hf]
  obtain ⟨h1, h2, h3, h4⟩ := hh
  have e : p.edits.filter (keepE x) = q.edits := srt_ext (hp.sublist List.filter_sublist) hq fun y => by rw [List.mem_filter]; exact (hm y).symm
  rcases p with ⟨pn, pc, pt, ps, pe⟩
  rcases q with ⟨qn, qc, qt, qs, qe⟩
  dsimp only at *
  subst h1 h2 h3 h4 e
  rfl
omit hd hdn in
theorem keep_not4 {x y : Edt} (h4 : x.act ≠ 4) (h5 : x.act ≠ 5) : keepE x y = true ↔ y.path ≠ x.path := by
  unfold keepE ctrE
  have e4 : (x.act == 4) = false := by simpa using h4
  have e5 : (x.act == 5) = false := by simpa using h5
  rw [e4, e5]
  simp only [Bool.false_and, Bool.or_false, Bool.not_eq_true', ne_eq]
  constructor
  · intro h e
    rw [e, ba_self] at h
    cases h
  · intro h
    cases hb : (y.path == x.path)
    · rfl
    · exact absurd ((ba_beq _ _).1 hb) h
omit hd hdn in
theorem back_open {p : Pnd} (h : EOk p.edits) {s : ByteArray} {act : Int} (ha : act ≠ 4 ∧ act ≠ 5) {t : FTy} {c : Cid} (h1 : (openP d p s act t c).2 = 0) : revP (openP d p s act t c).1 s = (p, 0) := by
  obtain ⟨h2, h3⟩ := open_parts h1
  rw [h3]
  have hn := has_none h2
  have hs : SrtE (insE p.edits (newE d s act t c)) := ins_srt h.srt hn
  refine rev_of (x := newE d s act t c) (fnd_is hs (mem_ins.2 (.inl rfl)) rfl) h.srt hs ⟨rfl, rfl, rfl, rfl⟩ fun y => ?_
  dsimp only
  rw [keep_not4 ha.1 ha.2, mem_ins]
  constructor
  · intro hy
    exact ⟨.inr hy, hn y hy⟩
  · rintro ⟨rfl | hy, hp⟩
    · exact absurd rfl hp
    · exact hy
theorem back_move {p : Pnd} (h : EOk p.edits) {s t : ByteArray} (hs : ∀ x ∈ p.edits, x.path ≠ s) (h1 : (moveP d p s t).2 = 0) : revP (moveP d p s t).1 t = (p, 0) := by
  obtain ⟨a1, a2, a3, a4, a5, a6⟩ := move_parts h1
  rw [a6]
  have hE1 := moved_ok hd hdn h a1 a2 a3 a4 a5
  have hf := has_of hs
  have c3 := has_none a3
  have hst := (movBad_no a4).2.1
  have hm : hereE d s t (lastR d s).ty (lastR d s).con ∈ movedL d p.edits s t := (mem_moved h.srt).2 (by rw [hf]; exact .inl rfl)
  refine rev_of (x := hereE d s t (lastR d s).ty (lastR d s).con) (fnd_is hE1.srt hm rfl) h.srt hE1.srt ⟨rfl, rfl, rfl, rfl⟩ fun y => ?_
  dsimp only
  rw [mem_moved h.srt, hf]
  dsimp only
  unfold keepE ctrE hereE
  dsimp only
  constructor
  · intro hy
    refine ⟨.inr (.inr hy), ?_⟩
    have e1 : (y.path == t) = false := by
      cases hb : (y.path == t)
      · rfl
      · exact absurd ((ba_beq _ _).1 hb) (c3 y hy)
    have e2 : (y.path == s) = false := by
      cases hb : (y.path == s)
      · rfl
      · exact absurd ((ba_beq _ _).1 hb) (hs y hy)
    rw [e1, e2]
    simp
  · rintro ⟨rfl | rfl | hy, hp⟩
    · rw [ba_self] at hp
      simp at hp
    · unfold awayE at hp
      dsimp only at hp
      rw [ba_self] at hp
      simp at hp
    · exact hy
omit hd hdn in
/-- What a call leaves of the edits that it does not name. -/
theorem order_law {p : Pnd} (h : EOk p.edits) (o : Opr) (h1 : (doP d p o).2 = 0) {x : Edt} (hx : x ∈ p.edits) (hs : x.path ≠ o.s) (_ht : x.path ≠ o.t) (hm : (x.act = 4 ∨ x.act = 5) → 1 ≤ o.kind ∧ o.kind ≤ 5) : x ∈ (doP d p o).1.edits := by
  unfold doP at h1 ⊢
  split
  · rename_i k
    rw [if_pos k] at h1
    rw [(open_parts h1).2]
    exact mem_ins.2 (.inr hx)
  rename_i k1
  rw [if_neg k1] at h1
  split
  · rename_i k
    rw [if_pos k] at h1
    rw [(open_parts h1).2]
    exact mem_ins.2 (.inr hx)
  rename_i k2
  rw [if_neg k2] at h1
  split
  · rename_i k
    rw [if_pos k] at h1
    rw [(open_parts h1).2]
    exact mem_ins.2 (.inr hx)
  rename_i k3
  rw [if_neg k3] at h1
  split
  · rename_i k
    rw [if_pos k] at h1
    rw [(move_parts h1).2.2.2.2.2]
    refine (mem_moved h.srt).2 ?_
    cases hf : fndE p.edits o.s with
    | none => exact .inr (.inr hx)
    | some z =>
      dsimp only
      split
      · exact .inr (.inr ⟨hx, hs⟩)
      · exact .inr ⟨hx, hs⟩
  rename_i k4
  rw [if_neg k4] at h1
  split
  · rename_i k
    rw [if_pos k] at h1
    unfold setP at h1 ⊢
    cases hf : fndE p.edits o.s with
    | none => rw [hf] at h1; exact absurd h1 (by dsimp only; decide)
    | some z =>
      rw [hf] at h1
      dsimp only at h1 ⊢
      split
      · rename_i q
        rw [if_pos q] at h1
        exact absurd h1 (by decide)
      · exact (mem_set' h.srt hf).2 (.inr ⟨hx, hs⟩)
  · rename_i k5
    rw [if_neg k5] at h1
    unfold revP at h1 ⊢
    cases hf : fndE p.edits o.s with
    | none => rw [hf] at h1; exact absurd h1 (by dsimp only; decide)
    | some z =>
      dsimp only
      rw [List.mem_filter]
      refine ⟨hx, ?_⟩
      have e1 : (x.path == z.path) = false := by
        cases hb : (x.path == z.path)
        · rfl
        · exact absurd (((ba_beq _ _).1 hb).trans (fnd_some hf).2) hs
      have e4 : (x.act == 4) = false := by
        cases hb : (x.act == 4)
        · rfl
        · have := hm (.inl (by simpa using hb)); omega
      have e5 : (x.act == 5) = false := by
        cases hb : (x.act == 5)
        · rfl
        · have := hm (.inr (by simpa using hb)); omega
      unfold keepE ctrE
      rw [e1, e4, e5]
      simp
end
end

end Go.Proofs.YtocffknoeknabaaGreatDoor
