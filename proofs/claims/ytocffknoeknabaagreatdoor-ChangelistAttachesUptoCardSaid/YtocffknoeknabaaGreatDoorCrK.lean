/-
  A map from keys of any type that Go lets the reader read, as a list of pairs in the order of its entries; ranging over it.
-/
import Derived.Test.YtocffknoeknabaaGreatDoorMapG
import Derived.Maps.OwnSet
import Derived.Maps.RangeRun
import Derived.WideKeyEntry
namespace Go.Proofs.YtocffknoeknabaaGreatDoor
open Go.RowKit

/-- A type of keys, by a plain type. -/
structure KeyT (P : Program) (k : TypeId) (κ : Type) where
  val : κ → Value
  ok : κ → Prop
  inj : ∀ {x y}, val x = val y → x = y
  lit : ∀ {x}, ok x → ∃ l, keyOf P k (val x) = some l
  law : Maps.Keyed P k

section
variable {P : Program} {k : TypeId} {κ : Type} [BEq κ] [LawfulBEq κ]

def kget (L : List (κ × Value)) (x : κ) : Option Value := (L.find? (fun y => x == y.1)).map (·.2)
/-- The entry of x replaced, or added at the end. -/
def kput (L : List (κ × Value)) (x : κ) (v : Value) : List (κ × Value) := match L with
  | [] => [(x, v)]
  | y :: r => if x == y.1 then (x, v) :: r else y :: kput r x v

theorem kget_none {L : List (κ × Value)} {x : κ} (h : kget L x = none) : L.findIdx? (fun y => x == y.1) = none := by
  unfold kget at h
  rw [Option.map_eq_none_iff, List.find?_eq_none] at h
  rw [List.findIdx?_eq_none_iff]
  intro y hy
  simpa using h y hy
omit [LawfulBEq κ] in
theorem kput_none {L : List (κ × Value)} {x : κ} {v : Value} (h : L.findIdx? (fun y => x == y.1) = none) : kput L x v = L ++ [(x, v)] := by
  induction L with
  | nil => rfl
  | cons y r ih =>
    rw [List.findIdx?_cons] at h
    cases hb : (x == y.1)
    · simp only [hb, Bool.false_eq_true, if_false, Option.map_eq_none_iff] at h
      simp [kput, hb, ih h]
    · simp [hb] at h
omit [LawfulBEq κ] in
theorem kput_some {L : List (κ × Value)} {x : κ} {v : Value} {j : Nat} (h : L.findIdx? (fun y => x == y.1) = some j) : kput L x v = L.set j (x, v) := by
  induction L generalizing j with
  | nil => simp at h
  | cons y r ih =>
    rw [List.findIdx?_cons] at h
    cases hb : (x == y.1)
    · simp only [hb, Bool.false_eq_true, if_false, Option.map_eq_some_iff] at h
      obtain ⟨i, hi, rfl⟩ := h
      simp [kput, hb, ih hi]
    · simp only [hb, if_true, Option.some.injEq] at h
      subst h
      simp [kput, hb]
theorem kput_keys (L : List (κ × Value)) (x : κ) (v : Value) : (kput L x v).map (·.1) = if (kget L x).isSome then L.map (·.1) else L.map (·.1) ++ [x] := by
  induction L with
  | nil => simp [kput, kget]
  | cons y r ih =>
    cases hb : (x == y.1)
    · have e1 : kget (y :: r) x = kget r x := by simp [kget, hb]
      rw [e1]
      simp only [kput, hb, Bool.false_eq_true, if_false, List.map_cons, ih]
      split <;> simp
    · have e1 : (kget (y :: r) x).isSome = true := by simp [kget, hb]
      rw [e1, if_pos rfl]
      simp only [kput, hb, if_true, List.map_cons]
      rw [eq_of_beq hb]
theorem kget_isSome (L : List (κ × Value)) (x : κ) : (kget L x).isSome = true ↔ x ∈ L.map (·.1) := by
  induction L with
  | nil => simp [kget]
  | cons y r ih =>
    cases hb : (x == y.1)
    · have e1 : kget (y :: r) x = kget r x := by simp [kget, hb]
      have hne : x ≠ y.1 := fun e => by rw [e, beq_self_eq_true] at hb; cases hb
      rw [e1, ih]
      simp [hne]
    · have e1 : (kget (y :: r) x).isSome = true := by simp [kget, hb]
      rw [e1]
      simp [eq_of_beq hb]
theorem kput_nodup {L : List (κ × Value)} (h : (L.map (·.1)).Nodup) (x : κ) (v : Value) : ((kput L x v).map (·.1)).Nodup := by
  rw [kput_keys]
  split
  · exact h
  · rename_i hn
    rw [kget_isSome] at hn
    rw [List.nodup_append]
    refine ⟨h, by simp, fun a ha b hb e => ?_⟩
    simp at hb
    subst hb; subst e
    exact hn ha
omit [LawfulBEq κ] in
theorem kput_mem {L : List (κ × Value)} {x : κ} {v : Value} {y : κ × Value} (h : y ∈ kput L x v) : y = (x, v) ∨ y ∈ L := by
  induction L with
  | nil => exact .inl (by simpa [kput] using h)
  | cons z r ih =>
    unfold kput at h
    split at h
    · rcases List.mem_cons.1 h with h | h
      · exact .inl h
      · exact .inr (List.mem_cons_of_mem _ h)
    · rcases List.mem_cons.1 h with h | h
      · exact .inr (by rw [h]; exact List.mem_cons_self ..)
      · exact (ih h).imp id (List.mem_cons_of_mem _)
theorem kget_mem {L : List (κ × Value)} (hn : (L.map (·.1)).Nodup) {x : κ} {v : Value} : kget L x = some v ↔ (x, v) ∈ L := by
  induction L with
  | nil => simp [kget]
  | cons y r ih =>
    rw [List.map_cons, List.nodup_cons] at hn
    cases hb : (x == y.1)
    · have e1 : kget (y :: r) x = kget r x := by simp [kget, hb]
      have hne : x ≠ y.1 := fun e => by rw [e, beq_self_eq_true] at hb; cases hb
      rw [e1, ih hn.2, List.mem_cons]
      refine ⟨.inr, fun h => h.resolve_left fun e => hne (by rw [← e])⟩
    · have e1 : kget (y :: r) x = some y.2 := by simp [kget, hb]
      have hxe := eq_of_beq hb
      rw [e1, List.mem_cons]
      constructor
      · intro e
        injection e with e
        exact .inl (by rw [← e, hxe])
      · rintro (e | e)
        · rw [← e]
        · exact absurd (List.mem_map.2 ⟨_, e, hxe⟩) hn.1

variable (T : KeyT P k κ)
/-- Block b of w is a map whose entries are these, in this order. -/
def KM (b : Nat) (L : List (κ × Value)) (w : World) : Prop :=
  ∃ es clock, w.heap[b]? = some (.map es clock) ∧ es.toList.map (fun e => (e.key, e.val)) = L.map (fun x => (T.val x.1, x.2)) ∧ (es.toList.map (·.born)).Nodup ∧ (∀ e ∈ es.toList, e.born < clock) ∧ (L.map (·.1)).Nodup ∧ ∀ x ∈ L, T.ok x.1
variable {T} {b : Nat} {L : List (κ × Value)} {w : World}
omit [BEq κ] [LawfulBEq κ] in
theorem KM.lt (h : KM T b L w) : b < w.heap.size := by
  obtain ⟨es, clock, hb, _⟩ := h
  exact block_lt hb
omit [BEq κ] [LawfulBEq κ] in
theorem KM.oks (h : KM T b L w) : ∀ x ∈ L, T.ok x.1 := by
  obtain ⟨es, clock, _, _, _, _, _, h⟩ := h
  exact h
omit [BEq κ] [LawfulBEq κ] in
theorem KM.of_block {w' : World} (h : KM T b L w) (hb : w'.heap[b]? = w.heap[b]?) : KM T b L w' := by
  obtain ⟨es, clock, h1, h2⟩ := h
  exact ⟨es, clock, hb.trans h1, h2⟩
omit [BEq κ] [LawfulBEq κ] in
theorem KM.below {B : Nat} {w' : World} (h : KM T b L w) (hb : Below B w w') (hB : b < B) : KM T b L w' := h.of_block (hb.block b hB)
omit [BEq κ] [LawfulBEq κ] in
theorem KM.alloc (h : KM T b L w) (o : Obj) : KM T b L (w.alloc o) := h.of_block (Below.heap_alloc w o b h.lt)
omit [BEq κ] [LawfulBEq κ] in
theorem KM.drew (h : KM T b L w) : KM T b L w.drew := h
omit [BEq κ] [LawfulBEq κ] in
theorem KM.setCell (h : KM T b L w) {p : Addr} (hp : b ≠ p.block) (u : Value) : KM T b L (w.setCell p u) := h.of_block (Below.heap_setCell w p u b hp)
omit [BEq κ] [LawfulBEq κ] in
theorem KM.grown {w' : World} {row : Option Nat} (h : KM T b L w) (hg : w.grownBy w' row) (hne : some b ≠ row) : KM T b L w' := h.of_block (hg.block b h.lt hne)
omit [BEq κ] [LawfulBEq κ] in
theorem KM.new (w : World) (T : KeyT P k κ) : KM T w.heap.size [] (w.alloc (.map #[] 0)) := ⟨#[], 0, (MapKept.heap_alloc w _).1, rfl, by simp, by simp, by simp, by simp⟩

theorem km_find (w : World) {es : List MapEntry} (he : es.map (fun e => (e.key, e.val)) = L.map (fun x => (T.val x.1, x.2))) (hok : ∀ x ∈ L, T.ok x.1) (hn : (L.map (·.1)).Nodup) {x : κ} (hx : T.ok x) :
    (kget L x = none ∧ (Instr.findKey k (T.val x) es).run P w = .ok none w) ∨
    ∃ j v, kget L x = some v ∧ (Instr.findKey k (T.val x) es).run P w = .ok (some (j, v)) w ∧ L.findIdx? (fun y => x == y.1) = some j ∧ L[j]? = some (x, v) := by
  obtain ⟨l, hl⟩ := T.lit hx
  have hkeys : ∀ e ∈ es, ∃ l, keyOf P k e.key = some l := fun e he' => by
    have h1 : (e.key, e.val) ∈ L.map (fun x => (T.val x.1, x.2)) := by rw [← he]; exact List.mem_map.2 ⟨e, he', rfl⟩
    obtain ⟨y, hy, e1⟩ := List.mem_map.1 h1
    simp only [Prod.mk.injEq] at e1
    rw [← e1.1]
    exact T.lit (hok y hy)
  rcases T.law.find w hl es hkeys with ⟨h1, h2⟩ | ⟨j, e, h1, h2, h3⟩
  · refine .inl ⟨?_, h1⟩
    cases hg : kget L x with
    | none => rfl
    | some v =>
      have hm := (kget_mem hn).1 hg
      have h4 : (T.val x, v) ∈ es.map (fun e => (e.key, e.val)) := by rw [he]; exact List.mem_map.2 ⟨_, hm, rfl⟩
      obtain ⟨e, he', e1⟩ := List.mem_map.1 h4
      simp only [Prod.mk.injEq] at e1
      exact absurd e1.1 (h2 e he')
  · have h4 := congrArg (fun l => l[j]?) he
    simp only [List.getElem?_map, h2, Option.map_some] at h4
    cases hj : L[j]? with
    | none => rw [hj] at h4; simp at h4
    | some y =>
      rw [hj] at h4
      simp only [Option.map_some, Option.some.injEq, Prod.mk.injEq] at h4
      have hyx : y.1 = x := T.inj (h4.1.symm.trans h3)
      have hm : (x, e.val) ∈ L := by
        have := List.mem_of_getElem? hj
        rw [h4.2, ← hyx]
        exact this
      have hjl := (List.getElem?_eq_some_iff.1 hj).1
      refine .inr ⟨j, e.val, (kget_mem hn).2 hm, h1, ?_, by rw [hj, ← hyx, h4.2]⟩
      rw [List.findIdx?_eq_some_iff_getElem]
      have hj2 := (List.getElem?_eq_some_iff.1 hj).2
      refine ⟨hjl, by rw [hj2, hyx]; exact beq_self_eq_true x, fun i hi hb => ?_⟩
      have h5 := eq_of_beq hb
      have h6 := List.pairwise_iff_getElem.1 hn i j (by simp; omega) (by simpa using hjl) hi
      simp only [List.getElem_map] at h6
      rw [hj2, hyx] at h6
      exact h6 h5.symm

variable {t et : TypeId}
theorem KM.run_none (h : KM T b L w) (ht : P.underlying t = some (.map k et)) {z : Value} (hz : (zeroValue et).run P w = .ok z w) {x : κ} (hx : T.ok x) (hl : kget L x = none) (c : Bool) :
    (Instr.lookup t (.map (some b)) (T.val x) c).run P w = .ok (if c then .tuple #[z, .bool false] else z) w := by
  obtain ⟨es, clock, hb, he, _, _, hn, hok⟩ := h
  obtain ⟨l, hl'⟩ := T.lit hx
  rcases km_find w he hok hn hx with ⟨_, hf⟩ | ⟨j, v, h1, _⟩
  · cases c <;> simp [Instr.lookup, run_underlying ht, MapKept.run_getObj_map hb, T.law.check w _ hl', hf, hz, Result.andThen]
  · rw [hl] at h1; cases h1
theorem KM.run_some (h : KM T b L w) (ht : P.underlying t = some (.map k et)) {x : κ} (hx : T.ok x) {v : Value} (hl : kget L x = some v) (c : Bool) :
    (Instr.lookup t (.map (some b)) (T.val x) c).run P w = .ok (if c then .tuple #[v, .bool true] else v) w := by
  obtain ⟨es, clock, hb, he, _, _, hn, hok⟩ := h
  obtain ⟨l, hl'⟩ := T.lit hx
  rcases km_find w he hok hn hx with ⟨h1, _⟩ | ⟨j, u, h1, hf, _, _⟩
  · rw [hl] at h1; cases h1
  · rw [hl] at h1
    cases h1
    cases c <;> simp [Instr.lookup, run_underlying ht, MapKept.run_getObj_map hb, T.law.check w _ hl', hf, Result.andThen]
/-- A look-up, in one word: what is there, or the element's zero value z. -/
theorem KM.run_get (h : KM T b L w) (ht : P.underlying t = some (.map k et)) {z : Value} (hz : (zeroValue et).run P w = .ok z w) {x : κ} (hx : T.ok x) (c : Bool) :
    (Instr.lookup t (.map (some b)) (T.val x) c).run P w = .ok (if c then .tuple #[(kget L x).getD z, .bool (kget L x).isSome] else (kget L x).getD z) w := by
  cases hl : kget L x with
  | none => exact h.run_none ht hz hx hl c
  | some v => exact h.run_some ht hx hl c
theorem KM.run_put (h : KM T b L w) (ht : P.underlying t = some (.map k et)) {x : κ} (hx : T.ok x) (v : Value) :
    ∃ w', (Instr.mapUpdate t (.map (some b)) (T.val x) v).run P w = .ok () w' ∧ KM T b (kput L x v) w' ∧ w.grownBy w' (some b) ∧ w'.heap.size = w.heap.size := by
  obtain ⟨es, clock, hb, he, hbn, hbc, hkn, hok⟩ := h
  obtain ⟨l, hl'⟩ := T.lit hx
  have hlen : es.size = L.length := by have := congrArg List.length he; simpa using this
  have hok' : ∀ y ∈ kput L x v, T.ok y.1 := fun y hy => by
    rcases kput_mem hy with rfl | hy
    · exact hx
    · exact hok y hy
  rcases km_find w he hok hkn hx with ⟨h1, hf⟩ | ⟨j, u, h1, hf, hi, hj0⟩
  · have hi := kget_none h1
    have hno : ∀ e ∈ es.toList, e.key ≠ T.val x := fun e he' e1 => by
      have h2 : (e.key, e.val) ∈ L.map (fun x => (T.val x.1, x.2)) := by rw [← he]; exact List.mem_map.2 ⟨e, he', rfl⟩
      obtain ⟨y, hy, e2⟩ := List.mem_map.1 h2
      simp only [Prod.mk.injEq] at e2
      have hyx : y.1 = x := T.inj (e2.1.trans e1)
      have : (kget L x).isSome = true := (kget_isSome L x).2 (List.mem_map.2 ⟨y, hy, hyx⟩)
      rw [h1] at this
      cases this
    refine ⟨ChangeMaps.setBlock w b (.map (es.push { key := T.val x, val := v, born := clock }) (clock + 1)), ?_, ⟨_, _, ChangeMaps.heap_setBlock_same hb _, ?_, ?_, ?_, kput_nodup hkn x v, hok'⟩, ⟨rfl, rfl, rfl, by simp [ChangeMaps.setBlock], fun i _ hne => ChangeMaps.heap_setBlock_other hb _ (fun e => hne (by rw [e]))⟩, by simp [ChangeMaps.setBlock]⟩
    · simp [Instr.mapUpdate, run_underlying ht, MapKept.run_getObj_map hb, T.law.check w false hl', hf, MapKept.run_setObj_map _ hb, Result.andThen, ChangeMaps.setBlock]
    · rw [kput_none hi]
      simp [he]
    · simp only [Array.toList_push, List.map_append, List.map_cons, List.map_nil]
      rw [List.nodup_append]
      refine ⟨hbn, by simp, fun a ha b hb' e => ?_⟩
      simp at hb'
      obtain ⟨x, hx, rfl⟩ := List.mem_map.1 ha
      have := hbc x hx
      omega
    · intro e he'
      simp at he'
      rcases he' with he' | rfl
      · have := hbc e (by simpa using he'); omega
      · exact Nat.lt_succ_self _
  · have hj : j < L.length := (List.getElem?_eq_some_iff.1 hj0).1
    have hj2 : j < es.size := by omega
    have hkey : es[j].key = T.val x := by
      have e1 := congrArg (fun l => l[j]?) he
      simp [hj2, hj0] at e1
      exact e1.1
    refine ⟨ChangeMaps.setBlock w b (.map (es.modify j fun e => { e with key := T.val x, val := v }) clock), ?_, ⟨_, _, ChangeMaps.heap_setBlock_same hb _, ?_, ?_, ?_, kput_nodup hkn x v, hok'⟩, ⟨rfl, rfl, rfl, by simp [ChangeMaps.setBlock], fun i _ hne => ChangeMaps.heap_setBlock_other hb _ (fun e => hne (by rw [e]))⟩, by simp [ChangeMaps.setBlock]⟩
    · simp [Instr.mapUpdate, run_underlying ht, MapKept.run_getObj_map hb, T.law.check w false hl', hf, MapKept.run_setObj_map _ hb, Result.andThen, ChangeMaps.setBlock, hj2, hkey, T.law.stays w hl']
    · rw [kput_some hi, List.map_set, ← he, Array.toList_modify]
      apply List.ext_getElem?
      intro i
      by_cases hij : j = i
      · subst hij
        simp [hj2]
      · simp [hij]
    · rw [modify_born]; exact hbn
    · intro e he'
      exact modify_mem hbc he'
end

/-! At the operation, for the walk. -/
section
variable {P : Program} {k : TypeId} {κ : Type} [BEq κ] [LawfulBEq κ] {T : KeyT P k κ} {w : World} {ops : Array Oper} {rest : List Oper} {o : Oper} {a : Act} {Q : Exit → Act → World → Prop}
theorem wpList_kput (hg : o.guard = none) (m x v : Operand) (t : TypeId) (hop : o.op = Op.mapUpdate t m x v) (et : TypeId) (ht : P.underlying t = some (.map k et))
    (b : Nat) (L : List (κ × Value)) (hm : a.eval m = .map (some b)) (hown : KM T b L w) (y : κ) (hx : a.eval x = T.val y) (hy : T.ok y) (u : Value) (hv : a.eval v = u)
    (hK : ∀ w', KM T b (kput L y u) w' → w.grownBy w' (some b) → w'.heap.size = w.heap.size → wpList P ops Q rest (a.put o.dst undef) w') : wpList P ops Q (o :: rest) a w := by
  refine wpList_plain hg fun K' hK' => ?_
  obtain ⟨w', hrun, r1, r2, r3⟩ := hown.run_put ht hy u
  unfold Oper.wp
  simp [execOp, hop, hm, hx, hv, hrun, Result.andThen]
  exact hK' _ _ (hK w' r1 r2 r3)
end

/-! Ranging. -/
def rgSeen (r : Nat) (w : World) : Array Nat := match w.heap[r]? with
  | some (.mapIter _ _ seen _) => seen
  | _ => #[]
theorem rg_setGrown (w : World) (r : Nat) (o : Obj) : w.grownBy (ChangeMaps.setBlock w r o) (some r) :=
  ⟨rfl, rfl, rfl, by simp [ChangeMaps.setBlock], fun i _ hne => by
    have hri : r ≠ i := fun e => hne (by rw [e])
    simp [ChangeMaps.setBlock, hri]⟩
theorem rg_setAt {w : World} {r : Nat} {o0 : Obj} (h : w.heap[r]? = some o0) (o : Obj) : (ChangeMaps.setBlock w r o).heap[r]? = some o := by
  have := block_lt h
  simp [ChangeMaps.setBlock, this]
theorem rg_out (p : MapEntry → Bool) (e : MapEntry) : ∀ (l : List MapEntry), (l.map (·.born)).Nodup → e ∈ l → p e = true → (l.filter p).Perm (e :: l.filter fun x => p x && !(x.born == e.born))
  | [], _, h, _ => by cases h
  | a :: t, hn, he, hp => by
    rw [List.map_cons, List.nodup_cons] at hn
    rcases List.mem_cons.1 he with rfl | ht
    · have h1 : (t.filter fun x => p x && !(x.born == e.born)) = t.filter p := by
        refine List.filter_congr fun x hx => ?_
        have : ¬ x.born = e.born := fun h => hn.1 (List.mem_map.2 ⟨x, hx, h⟩)
        simp [this]
      rw [List.filter_cons_of_pos hp, List.filter_cons_of_neg (by simp), h1]
    · have h1 : ¬ a.born = e.born := fun h => hn.1 (List.mem_map.2 ⟨e, ht, h.symm⟩)
      have ih := rg_out p e t hn.2 ht hp
      by_cases ha : p a = true
      · rw [List.filter_cons_of_pos ha, List.filter_cons_of_pos (by simp [ha, h1])]
        exact (List.Perm.cons a ih).trans (List.Perm.swap ..)
      · rw [List.filter_cons_of_neg ha, List.filter_cons_of_neg (by simp [ha])]
        exact ih
theorem rg_leftOf (es : Array MapEntry) (seen : Array Nat) : (leftOf es seen).toList = es.toList.filter fun e => !seen.contains e.born := by
  unfold leftOf
  exact Array.toList_filter
theorem rg_push {es : Array MapEntry} {seen : Array Nat} {e : MapEntry} (hn : (es.toList.map (·.born)).Nodup) (he : e ∈ (leftOf es seen).toList) : (leftOf es seen).toList.Perm (e :: (leftOf es (seen.push e.born)).toList) := by
  obtain ⟨h1, h2⟩ := mem_left he
  rw [rg_leftOf, rg_leftOf]
  have h3 : (es.toList.filter fun x => !(seen.push e.born).contains x.born) = es.toList.filter fun x => !seen.contains x.born && !(x.born == e.born) := by
    refine List.filter_congr fun x _ => ?_
    rw [contains_push, Bool.not_or]
  rw [h3]
  exact rg_out _ e _ hn h1 (by rw [h2]; rfl)
theorem map_perm_inj {α β : Type} {f : α → β} (hf : ∀ x y, f x = f y → x = y) {l l' : List α} (h : (l.map f).Perm (l'.map f)) : l.Perm l' := by
  classical
  cases l with
  | nil =>
    have := h.length_eq
    simp at this
    rw [List.eq_nil_of_length_eq_zero this.symm]
  | cons a r =>
    have hg : ∀ x, (fun p => if h : ∃ x, f x = p then h.choose else a) (f x) = x := fun x => by
      have hx : ∃ y, f y = f x := ⟨x, rfl⟩
      simp only [hx, dif_pos]
      exact hf _ _ hx.choose_spec
    have h1 := h.map (fun p => if h : ∃ x, f x = p then h.choose else a)
    rw [List.map_map, List.map_map] at h1
    have e : ∀ l : List α, l.map ((fun p => if h : ∃ x, f x = p then h.choose else a) ∘ f) = l := fun l => by
      conv => rhs; rw [← List.map_id l]
      exact List.map_congr_left fun x _ => hg x
    rw [e, e] at h1
    exact h1
def kvE (e : MapEntry) : Value × Value := (e.key, e.val)

/-- A loop over the map b stands at the iterator r; V has come. -/
structure KR {P : Program} {k : TypeId} {κ : Type} (T : KeyT P k κ) (b r clock : Nat) (es : Array MapEntry) (V : List (κ × Value)) (w : World) : Prop where
  it : ∃ seen last, w.heap[r]? = some (.mapIter (some b) clock seen last) ∧ clock ≤ last ∧ (V.map (fun x => (T.val x.1, x.2)) ++ (leftOf es seen).toList.map kvE).Perm (es.toList.map kvE)
  mb : w.heap[b]? = some (.map es clock)
section
variable {P : Program} {k : TypeId} {κ : Type} {T : KeyT P k κ} {b r clock : Nat} {es : Array MapEntry} {V : List (κ × Value)} {w : World}
theorem KR.start (h1 : w.heap[r]? = some (.mapIter (some b) clock #[] clock)) (h2 : w.heap[b]? = some (.map es clock)) : KR T b r clock es [] w :=
  ⟨⟨#[], clock, h1, Nat.le_refl _, by
    rw [List.map_nil, List.nil_append, rg_leftOf, List.filter_eq_self.2 (fun e _ => by simp)]⟩, h2⟩
theorem KR.of {w' : World} (h : KR T b r clock es V w) (h1 : w'.heap[r]? = w.heap[r]?) (h2 : w'.heap[b]? = w.heap[b]?) : KR T b r clock es V w' := by
  obtain ⟨seen, last, a, c, d⟩ := h.it
  exact ⟨⟨seen, last, h1.trans a, c, d⟩, h2.trans h.mb⟩
theorem KR.len (h : KR T b r clock es V w) : V.length ≤ es.size := by
  obtain ⟨seen, last, _, _, d⟩ := h.it
  have := d.length_eq
  simp at this
  omega
theorem KR.left (h : KR T b r clock es V w) : (leftOf es (rgSeen r w)).size = es.size - V.length := by
  obtain ⟨seen, last, a, _, d⟩ := h.it
  have e : rgSeen r w = seen := by unfold rgSeen; rw [a]
  rw [e]
  have := d.length_eq
  simp at this
  omega
/-- The map that is ranged over, its entries read as L. -/
structure KMes (T : KeyT P k κ) (es : Array MapEntry) (clock : Nat) (L : List (κ × Value)) : Prop where
  rows : es.toList.map kvE = L.map (fun x => (T.val x.1, x.2))
  born : (es.toList.map (·.born)).Nodup
  old : ∀ e ∈ es.toList, e.born < clock
  keys : (L.map (·.1)).Nodup
  oks : ∀ x ∈ L, T.ok x.1
theorem KMes.size {L : List (κ × Value)} (h : KMes T es clock L) : es.size = L.length := by
  have := congrArg List.length h.rows
  simpa using this
theorem KR.step {L : List (κ × Value)} (h : KR T b r clock es V w) (hL : KMes T es clock L) (ty : TypeId) (hbr : b ≠ r) :
    (V.Perm L ∧ (Instr.next (.pointer (some ⟨r, 0, none⟩)) false ty).run P w = .ok (.tuple #[.bool false]) w) ∨
    ∃ (x : κ × Value) (W : World), x ∈ L ∧ V.length < es.size ∧ (Instr.next (.pointer (some ⟨r, 0, none⟩)) false ty).run P w = .ok (.tuple #[.bool true, T.val x.1, x.2]) W ∧
      (Instr.entry (.pointer (some ⟨r, 0, none⟩))).run P W = .ok (.tuple #[T.val x.1, x.2]) W ∧ KR T b r clock es (V ++ [x]) W ∧ (∃ w1, (w1 = w ∨ w1 = w.drew) ∧ w1.grownBy W (some r)) ∧ W.heap.size = w.heap.size := by
  obtain ⟨seen, last, hit, hlast, hp⟩ := h.it
  rcases run_next_at (P := P) w ty r b clock last seen es clock hit h.mb hL.old hlast with ⟨h0, hnx⟩ | ⟨e, hel, w1, hw1, hnx⟩
  · refine .inl ⟨?_, hnx⟩
    have : (leftOf es seen).toList = [] := List.eq_nil_of_length_eq_zero (by simpa using h0)
    rw [this, List.map_nil, List.append_nil, hL.rows] at hp
    exact map_perm_inj (fun x y e => by
      rcases x with ⟨x1, x2⟩
      rcases y with ⟨y1, y2⟩
      simp only [Prod.mk.injEq] at e
      rw [T.inj e.1, e.2]) hp
  · obtain ⟨hem, _⟩ := mem_left hel
    have hmem : kvE e ∈ L.map (fun x => (T.val x.1, x.2)) := by rw [← hL.rows]; exact List.mem_map.2 ⟨e, hem, rfl⟩
    obtain ⟨x, hxL, hxe⟩ := List.mem_map.1 hmem
    have ek : e.key = T.val x.1 := (congrArg Prod.fst hxe).symm
    have ev : e.val = x.2 := (congrArg Prod.snd hxe).symm
    have hw1h : w1.heap = w.heap := by rcases hw1 with rfl | rfl <;> rfl
    have hg := rg_setGrown w1 r (.mapIter (some b) clock (seen.push e.born) clock)
    have hit1 := rg_setAt (w := w1) (r := r) (by rw [hw1h]; exact hit) (.mapIter (some b) clock (seen.push e.born) clock)
    have hmb1 : (ChangeMaps.setBlock w1 r (.mapIter (some b) clock (seen.push e.born) clock)).heap[b]? = some (.map es clock) :=
      (hg.block b (by rw [hw1h]; exact block_lt h.mb) (fun k => hbr (by injection k))).trans (by rw [hw1h]; exact h.mb)
    have hen := run_entry_at (P := P) _ r b clock seen es clock e hit1 hmb1 hem hL.born
    rw [ek, ev] at hnx hen
    have hpp := rg_push hL.born hel
    have hp2 : ((V ++ [x]).map (fun x => (T.val x.1, x.2)) ++ (leftOf es (seen.push e.born)).toList.map kvE).Perm (es.toList.map kvE) := by
      have h1 : (V.map (fun x => (T.val x.1, x.2)) ++ (leftOf es seen).toList.map kvE).Perm (V.map (fun x => (T.val x.1, x.2)) ++ (e :: (leftOf es (seen.push e.born)).toList).map kvE) := List.Perm.append_left _ (hpp.map kvE)
      rw [List.map_cons, ← hxe] at h1
      rw [List.map_append, List.map_singleton, List.append_assoc]
      exact h1.symm.trans hp
    refine .inr ⟨x, _, hxL, ?_, hnx, hen, ⟨⟨seen.push e.born, clock, hit1, Nat.le_refl _, hp2⟩, hmb1⟩, ⟨w1, hw1, hg⟩, by simp [ChangeMaps.setBlock, hw1h]⟩
    have := hp2.length_eq
    simp at this
    omega
end

end Go.Proofs.YtocffknoeknabaaGreatDoor
