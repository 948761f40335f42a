/-
  A map from strings, as a list of pairs in the order of its entries: what a look-up, a store and len do to it.
-/
import Derived.Test.YtocffknoeknabaaGreatDoorMem
import Derived.Maps.RangeRun
import Derived.Shelf.SlMaps.Clone
import Derived.Maps.OwnOps
namespace Go.Proofs.YtocffknoeknabaaGreatDoor
open Go.RowKit

theorem ba_beq (a b : ByteArray) : (a == b) = true ↔ a = b := by
  rw [beq_toListBytes, beq_iff_eq, toList_eq, toList_eq]
  constructor
  · intro h
    rcases a with ⟨⟨a⟩⟩
    rcases b with ⟨⟨b⟩⟩
    have h' : a = b := h
    rw [h']
  · rintro rfl; rfl
theorem ba_self (a : ByteArray) : (a == a) = true := (ba_beq a a).2 rfl

/-- Block b of w is a map whose entries are these, in this order. -/
def MapIs (b : Nat) (L : List (ByteArray × Value)) (w : World) : Prop :=
  ∃ es clock, w.heap[b]? = some (.map es clock) ∧ es.toList.map (fun e => (e.key, e.val)) = L.map (fun x => (Value.string x.1, x.2)) ∧ (es.toList.map (·.born)).Nodup ∧ (∀ e ∈ es.toList, e.born < clock) ∧ (L.map (·.1)).Nodup

def look (L : List (ByteArray × Value)) (k : ByteArray) : Option Value := (L.find? (fun x => k == x.1)).map (·.2)
/-- The entry of k replaced, or added at the end. -/
def put (L : List (ByteArray × Value)) (k : ByteArray) (v : Value) : List (ByteArray × Value) := match L with
  | [] => [(k, v)]
  | x :: r => if k == x.1 then (k, v) :: r else x :: put r k v

theorem MapIs.lt {b : Nat} {L : List (ByteArray × Value)} {w : World} (h : MapIs b L w) : b < w.heap.size := by
  obtain ⟨es, clock, hb, _⟩ := h
  exact block_lt hb
theorem MapIs.of_block {b : Nat} {L : List (ByteArray × Value)} {w w' : World} (h : MapIs b L w) (hb : w'.heap[b]? = w.heap[b]?) : MapIs b L w' := by
  obtain ⟨es, clock, h1, h2⟩ := h
  exact ⟨es, clock, hb.trans h1, h2⟩
theorem MapIs.below {b B : Nat} {L : List (ByteArray × Value)} {w w' : World} (h : MapIs b L w) (hb : Below B w w') (hB : b < B) : MapIs b L w' := h.of_block (hb.block b hB)
theorem MapIs.alloc {b : Nat} {L : List (ByteArray × Value)} {w : World} (h : MapIs b L w) (o : Obj) : MapIs b L (w.alloc o) := h.of_block (Below.heap_alloc w o b h.lt)
theorem MapIs.drew {b : Nat} {L : List (ByteArray × Value)} {w : World} (h : MapIs b L w) : MapIs b L w.drew := h
theorem MapIs.setCell {b : Nat} {L : List (ByteArray × Value)} {w : World} (h : MapIs b L w) {p : Addr} (hp : b ≠ p.block) (u : Value) : MapIs b L (w.setCell p u) := h.of_block (Below.heap_setCell w p u b hp)
theorem MapIs.new (w : World) : MapIs w.heap.size [] (w.alloc (.map #[] 0)) := ⟨#[], 0, (MapKept.heap_alloc w _).1, rfl, by simp, by simp, by simp⟩

theorem findNow_is (k : ByteArray) : ∀ (es : List MapEntry) (L : List (ByteArray × Value)) (i : Nat), es.map (fun e => (e.key, e.val)) = L.map (fun x => (Value.string x.1, x.2)) →
    Instr.findNow .string (.string k) es i = some ((L.findIdx? (fun x => k == x.1)).bind fun j => (L[j]?).map fun x => (i + j, x.2))
  | [], [], i, _ => by simp [Instr.findNow]
  | [], _ :: _, _, h => by simp at h
  | _ :: _, [], _, h => by simp at h
  | e :: es, x :: L, i, h => by
    simp only [List.map_cons, List.cons.injEq, Prod.mk.injEq] at h
    obtain ⟨⟨hk, hv⟩, hr⟩ := h
    unfold Instr.findNow
    rw [hk]
    simp only [Instr.sameNow]
    cases hb : (k == x.1)
    · simp only
      rw [findNow_is k es L (i + 1) hr]
      simp only [List.findIdx?_cons, hb, Bool.false_eq_true, if_false]
      cases L.findIdx? (fun x => k == x.1) with
      | none => rfl
      | some j => simp; rw [show i + 1 + j = i + (j + 1) from by omega]
    · simp [List.findIdx?_cons, hb, hv]

theorem look_some {L : List (ByteArray × Value)} {k : ByteArray} {v : Value} (h : look L k = some v) : ∃ j x, L.findIdx? (fun x => k == x.1) = some j ∧ L[j]? = some x ∧ x.2 = v := by
  induction L with
  | nil => simp [look] at h
  | cons x r ih =>
    by_cases hb : (k == x.1) = true
    · refine ⟨0, x, by simp [List.findIdx?_cons, hb], rfl, ?_⟩
      simpa [look, List.find?_cons, hb] using h
    · simp only [Bool.not_eq_true] at hb
      obtain ⟨j, y, h1, h2, h3⟩ := ih (by simpa [look, List.find?_cons, hb] using h)
      exact ⟨j + 1, y, by simp [List.findIdx?_cons, hb, h1], by simpa using h2, h3⟩

section
variable {P : Program} {w : World} {t kt et : TypeId} {b : Nat} {L : List (ByteArray × Value)}

theorem MapIs.run_look_some (h : MapIs b L w) (ht : P.underlying t = some (.map kt et)) (hk : P.underlying kt = some .string) {k : ByteArray} {v : Value} (hl : look L k = some v) (ok : Bool) :
    (Instr.lookup t (.map (some b)) (.string k) ok).run P w = .ok (if ok then .tuple #[v, .bool true] else v) w := by
  obtain ⟨es, clock, hb, he, _⟩ := h
  obtain ⟨j, x, h1, h2, h3⟩ := look_some hl
  have hf : Instr.findNow .string (.string k) es.toList 0 = some (some (0 + j, v)) := by rw [findNow_is k es.toList L 0 he, h1]; simp [h2, h3]
  have hc : ∀ e, (Instr.checkKey e 10000 kt (.string k)).run P w = .ok () w := fun e => MapKept.run_checkKey (k := .string k) hk (by simp [MapKept.IsKey]) e 9999
  cases ok <;> simp [Instr.lookup, run_underlying ht, MapKept.run_getObj_map hb, hc, MapKept.run_findKey hk hf, Result.andThen]
theorem put_none {L : List (ByteArray × Value)} {k : ByteArray} {v : Value} (h : L.findIdx? (fun x => k == x.1) = none) : put L k v = L ++ [(k, v)] := by
  induction L with
  | nil => rfl
  | cons x r ih =>
    rw [List.findIdx?_cons] at h
    cases hb : (k == x.1)
    · simp only [hb, Bool.false_eq_true, if_false, Option.map_eq_none_iff] at h
      simp [put, hb, ih h]
    · simp [hb] at h
theorem put_some {L : List (ByteArray × Value)} {k : ByteArray} {v : Value} {j : Nat} (h : L.findIdx? (fun x => k == x.1) = some j) : put L k v = L.set j (k, v) := by
  induction L generalizing j with
  | nil => simp at h
  | cons x r ih =>
    rw [List.findIdx?_cons] at h
    cases hb : (k == x.1)
    · simp only [hb, Bool.false_eq_true, if_false, Option.map_eq_some_iff] at h
      obtain ⟨i, hi, rfl⟩ := h
      simp [put, hb, ih hi]
    · simp only [hb, if_true, Option.some.injEq] at h
      subst h
      simp [put, hb]

theorem put_keys (L : List (ByteArray × Value)) (k : ByteArray) (v : Value) : (put L k v).map (·.1) = if (look L k).isSome then L.map (·.1) else L.map (·.1) ++ [k] := by
  induction L with
  | nil => simp [put, look]
  | cons x r ih =>
    cases hb : (k == x.1)
    · have e1 : look (x :: r) k = look r k := by simp [look, hb]
      rw [e1]
      simp only [put, hb, Bool.false_eq_true, if_false, List.map_cons, ih]
      split <;> simp
    · have e1 : (look (x :: r) k).isSome = true := by simp [look, hb]
      rw [e1, if_pos rfl]
      simp only [put, hb, if_true, List.map_cons]
      rw [(ba_beq _ _).1 hb]
theorem look_isSome (L : List (ByteArray × Value)) (k : ByteArray) : (look L k).isSome = true ↔ k ∈ L.map (·.1) := by
  induction L with
  | nil => simp [look]
  | cons x r ih =>
    cases hb : (k == x.1)
    · have e1 : look (x :: r) k = look r k := by simp [look, hb]
      have hne : k ≠ x.1 := fun e => by rw [e, ba_self] at hb; cases hb
      rw [e1, ih]
      simp [hne]
    · have e1 : (look (x :: r) k).isSome = true := by simp [look, hb]
      rw [e1]
      simp [(ba_beq _ _).1 hb]
theorem put_nodup {L : List (ByteArray × Value)} (h : (L.map (·.1)).Nodup) (k : ByteArray) (v : Value) : ((put L k v).map (·.1)).Nodup := by
  rw [put_keys]
  split
  · exact h
  · rename_i hn
    rw [look_isSome] at hn
    rw [List.nodup_append]
    refine ⟨h, by simp, fun a ha b hb e => ?_⟩
    simp at hb
    subst hb; subst e
    exact hn ha
theorem look_put (L : List (ByteArray × Value)) (k : ByteArray) (v : Value) (q : ByteArray) : look (put L k v) q = if q = k then some v else look L q := by
  induction L with
  | nil =>
    simp only [put, look, List.find?_cons, List.find?_nil]
    by_cases e : q = k
    · subst e; simp [ba_self]
    · have : (q == k) = false := by
        cases hb : (q == k)
        · rfl
        · exact absurd ((ba_beq _ _).1 hb) e
      simp [e, this]
  | cons x r ih =>
    cases hb : (k == x.1)
    · simp only [put, hb, Bool.false_eq_true, if_false]
      cases hq : (q == x.1)
      · have e1 : look (x :: put r k v) q = look (put r k v) q := by simp [look, hq]
        have e2 : look (x :: r) q = look r q := by simp [look, hq]
        rw [e1, e2, ih]
      · have e1 : look (x :: put r k v) q = some x.2 := by simp [look, hq]
        have e2 : look (x :: r) q = some x.2 := by simp [look, hq]
        rw [e1, e2, if_neg]
        intro e
        rw [(ba_beq _ _).1 hq] at e
        rw [e, ba_self] at hb
        cases hb
    · simp only [put, hb, if_true]
      have hkx := (ba_beq _ _).1 hb
      by_cases e : q = k
      · rw [e]; simp [look, ba_self]
      · have hq : (q == k) = false := by
          cases hb : (q == k)
          · rfl
          · exact absurd ((ba_beq _ _).1 hb) e
        have hq2 : (q == x.1) = false := by rw [← hkx]; exact hq
        rw [if_neg e]
        simp [look, hq, hq2]
theorem modify_born {es : Array MapEntry} {j : Nat} {k v : Value} : ((es.modify j fun e => { e with key := k, val := v }).toList.map (·.born)) = es.toList.map (·.born) := by
  rw [Array.toList_modify]
  apply List.ext_getElem?
  intro i
  by_cases hij : j = i
  · subst hij
    simp only [List.getElem?_map, List.getElem?_modify_eq]
    cases es.toList[j]? <;> rfl
  · simp [hij]
theorem modify_mem {es : Array MapEntry} {j clock : Nat} {k v : Value} (h : ∀ e ∈ es.toList, e.born < clock) {e : MapEntry} (he : e ∈ (es.modify j fun e => { e with key := k, val := v }).toList) : e.born < clock := by
  have h1 : e.born ∈ (es.modify j fun e => { e with key := k, val := v }).toList.map (·.born) := List.mem_map_of_mem he
  rw [modify_born] at h1
  obtain ⟨x, hx, hxe⟩ := List.mem_map.1 h1
  rw [← hxe]
  exact h x hx
theorem MapIs.run_put (h : MapIs b L w) (ht : P.underlying t = some (.map kt et)) (hk : P.underlying kt = some .string) (k : ByteArray) (v : Value) :
    ∃ w', (Instr.mapUpdate t (.map (some b)) (.string k) v).run P w = .ok () w' ∧ MapIs b (put L k v) w' ∧ w.grownBy w' (some b) := by
  obtain ⟨es, clock, hb, he, hbn, hbc, hkn⟩ := h
  have hlen : es.size = L.length := by have := congrArg List.length he; simpa using this
  have hc : ∀ e, (Instr.checkKey e 10000 kt (.string k)).run P w = .ok () w := fun e => MapKept.run_checkKey (k := .string k) hk (by simp [MapKept.IsKey]) e 9999
  have hf0 := findNow_is k es.toList L 0 he
  cases hi : L.findIdx? (fun x => k == x.1) with
  | none =>
    rw [hi] at hf0
    have hf : Instr.findNow .string (.string k) es.toList 0 = some none := hf0
    refine ⟨ChangeMaps.setBlock w b (.map (es.push { key := .string k, val := v, born := clock }) (clock + 1)), ?_, ⟨_, _, ChangeMaps.heap_setBlock_same hb _, ?_, ?_, ?_, put_nodup hkn k v⟩, ⟨rfl, rfl, rfl, by simp [ChangeMaps.setBlock], fun i _ hne => ChangeMaps.heap_setBlock_other hb _ (fun e => hne (by rw [e]))⟩⟩
    · simp [Instr.mapUpdate, run_underlying ht, MapKept.run_getObj_map hb, hc, MapKept.run_findKey hk hf, MapKept.run_setObj_map _ hb, Result.andThen, ChangeMaps.setBlock]
    · rw [put_none hi]
      simp [he]
    · simp only [Array.toList_push, List.map_append, List.map_cons, List.map_nil]
      rw [List.nodup_append]
      refine ⟨hbn, by simp, fun a ha b hb' e => ?_⟩
      simp at hb'
      obtain ⟨x, hx, rfl⟩ := List.mem_map.1 ha
      have := hbc x hx
      omega
    · intro e he'
      simp at he'
      rcases he' with he' | rfl
      · have := hbc e (by simpa using he'); omega
      · exact Nat.lt_succ_self _
  | some j =>
    have hj : j < L.length := by
      have := List.findIdx?_eq_some_iff_getElem.1 hi
      exact this.1
    have hkx : (k == L[j].1) = true := (List.findIdx?_eq_some_iff_getElem.1 hi).2.1
    rw [hi] at hf0
    have hf : Instr.findNow .string (.string k) es.toList 0 = some (some (j, L[j].2)) := by rw [hf0]; simp [hj]
    have hj2 : j < es.size := by omega
    have hkey : es[j].key = .string k := by
      have e1 := congrArg (fun l => l[j]?) he
      simp [hj, hj2] at e1
      rw [e1.1]
      rw [← (ba_beq _ _).1 hkx]
    refine ⟨ChangeMaps.setBlock w b (.map (es.modify j fun e => { e with key := .string k, val := v }) clock), ?_, ⟨_, _, ChangeMaps.heap_setBlock_same hb _, ?_, ?_, ?_, put_nodup hkn k v⟩, ⟨rfl, rfl, rfl, by simp [ChangeMaps.setBlock], fun i _ hne => ChangeMaps.heap_setBlock_other hb _ (fun e => hne (by rw [e]))⟩⟩
    · simp [Instr.mapUpdate, run_underlying ht, MapKept.run_getObj_map hb, hc, MapKept.run_findKey hk hf, MapKept.run_setObj_map _ hb, Result.andThen, ChangeMaps.setBlock, Instr.keyThatStays, Instr.sameBits, hj2, hkey, ba_self]
    · rw [put_some hi, List.map_set, ← he, Array.toList_modify]
      apply List.ext_getElem?
      intro i
      by_cases hij : j = i
      · subst hij
        simp [hj2]
      · simp [hij]
    · rw [modify_born]; exact hbn
    · intro e he'
      exact modify_mem hbc he'
end

/-! At the operation, for the walk. -/
section
variable {P : Program} {w : World} {ops : Array Oper} {rest : List Oper} {o : Oper} {a : Act} {Q : Exit → Act → World → Prop}

theorem wpList_put (hg : o.guard = none) (m x v : Operand) (t : TypeId) (hop : o.op = Op.mapUpdate t m x v) (kt et : TypeId) (ht : P.underlying t = some (.map kt et)) (hk : P.underlying kt = some .string)
    (b : Nat) (L : List (ByteArray × Value)) (hm : a.eval m = .map (some b)) (hown : MapIs b L w) (k : ByteArray) (hx : a.eval x = .string k) (u : Value) (hv : a.eval v = u)
    (hK : ∀ w', MapIs b (put L k u) w' → w.grownBy w' (some b) → wpList P ops Q rest (a.put o.dst undef) w') : wpList P ops Q (o :: rest) a w := by
  refine wpList_plain hg fun K' hK' => ?_
  obtain ⟨w', hrun, r1, r2⟩ := hown.run_put ht hk k u
  unfold Oper.wp
  simp [execOp, hop, hm, hx, hv, hrun, Result.andThen]
  exact hK' _ _ (hK w' r1 r2)
end

end Go.Proofs.YtocffknoeknabaaGreatDoor
