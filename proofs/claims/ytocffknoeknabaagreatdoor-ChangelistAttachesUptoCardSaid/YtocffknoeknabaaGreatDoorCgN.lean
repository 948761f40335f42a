/-
  Joined by a program of ours from our own texts.
-/
import Derived.Test.YtocffknoeknabaaGreatDoorCgC
import Derived.Test.YtocffknoeknabaaGreatDoorCgL
import Derived.Test.YtocffknoeknabaaGreatDoorCrK
import Derived.Maps.Own
import Derived.Test.YtocffknoeknabaaGreatDoorCgE
import Derived.Maps.AppendAt
namespace Go.Proofs.YtocffknoeknabaaGreatDoor
section
open Go.RowKit

/-- A path is among those of some edits. -/
def hasP (E : List Edt) (s : ByteArray) : Bool := E.any fun y => y.path == s
/-- Each edit's path is new to those that are open and to the edits ahead of it. -/
def freshE : List Edt → List Edt → Bool
  | _, [] => true
  | E, x :: r => !hasP E x.path && freshE (E ++ [x]) r
def addE (E X : List Edt) : List Edt := X.foldl insE E
theorem hasP_iff {E : List Edt} {s : ByteArray} : hasP E s = true ↔ ∃ y ∈ E, y.path = s := by
  unfold hasP
  rw [List.any_eq_true]
  exact ⟨fun ⟨y, h1, h2⟩ => ⟨y, h1, (ba_beq _ _).1 h2⟩, fun ⟨y, h1, h2⟩ => ⟨y, h1, (ba_beq _ _).2 h2⟩⟩
theorem hasP_app (E F : List Edt) (s : ByteArray) : hasP (E ++ F) s = (hasP E s || hasP F s) := by unfold hasP; rw [List.any_append]
theorem hasP_congr {E F : List Edt} (h : ∀ y, y ∈ E ↔ y ∈ F) (s : ByteArray) : hasP E s = hasP F s := by
  rw [Bool.eq_iff_iff, hasP_iff, hasP_iff]
  exact ⟨fun ⟨y, h1, h2⟩ => ⟨y, (h y).1 h1, h2⟩, fun ⟨y, h1, h2⟩ => ⟨y, (h y).2 h1, h2⟩⟩
theorem freshE_congr : ∀ (X : List Edt) {E F : List Edt}, (∀ s, hasP E s = hasP F s) → freshE E X = freshE F X
  | [], _, _, _ => rfl
  | x :: r, E, F, h => by
    unfold freshE
    rw [h x.path, freshE_congr r (E := E ++ [x]) (F := F ++ [x]) fun s => by rw [hasP_app, hasP_app, h s]]
theorem add_ok : ∀ (X : List Edt) {E : List Edt}, EPl E → (∀ x ∈ X, validB x.path.data.toList = true ∧ x.path.size ≤ 4294967281) → freshE E X = true → E.length + X.length ≤ 1000 → EPl (addE E X) ∧ (addE E X).Perm (E ++ X)
  | [], E, h, _, _, _ => ⟨h, by simp [addE]⟩
  | x :: r, E, h, hx, hn, hl => by
    unfold freshE at hn
    rw [Bool.and_eq_true, Bool.not_eq_true'] at hn
    have hno : ∀ y ∈ E, y.path ≠ x.path := fun y hy e => by
      have : hasP E x.path = true := hasP_iff.2 ⟨y, hy, e⟩
      rw [hn.1] at this
      cases this
    rw [List.length_cons] at hl
    have h1 := h.insW (hx x (List.mem_cons_self ..)) hno (by omega)
    have h2 := add_ok r h1 (fun y hy => hx y (List.mem_cons_of_mem _ hy)) (by
      rw [freshE_congr r (F := E ++ [x]) fun s => hasP_congr (fun y => by rw [mem_ins, List.mem_append, List.mem_singleton]; exact Or.comm) s]
      exact hn.2) (by rw [ins_len]; omega)
    refine ⟨h2.1, h2.2.trans ?_⟩
    have h3 := (ins_perm E x).append_right r
    rw [List.append_assoc] at h3
    exact h3
/-- The first edit that is not new stands behind k new ones. -/
theorem freshE_take {E X : List Edt} : ∀ k, k ≤ X.length → freshE E (X.take k) = true → (∀ x, X[k]? = some x → hasP (E ++ X.take k) x.path = false → freshE E (X.take (k + 1)) = true) := by
  intro k
  induction k generalizing E X with
  | zero =>
    intro _ _ x hx h
    cases X with
    | nil => simp at hx
    | cons y r =>
      simp at hx
      subst hx
      simp at h
      simp [freshE, h]
  | succ k ih =>
    intro hk h1 x hx h2
    cases X with
    | nil => simp at hx
    | cons y r =>
      rw [List.take_succ_cons] at h1 h2 ⊢
      unfold freshE at h1 ⊢
      rw [Bool.and_eq_true] at h1 ⊢
      refine ⟨h1.1, ih (E := E ++ [y]) (X := r) (by simpa using hk) h1.2 x (by simpa using hx) ?_⟩
      rw [List.append_assoc]
      exact h2
theorem freshE_not {E X : List Edt} : ∀ k x, X[k]? = some x → hasP (E ++ X.take k) x.path = true → freshE E X = false := by
  intro k
  induction k generalizing E X with
  | zero =>
    intro x hx h
    cases X with
    | nil => simp at hx
    | cons y r =>
      simp at hx
      subst hx
      simp at h
      simp [freshE, h]
  | succ k ih =>
    intro x hx h
    cases X with
    | nil => simp at hx
    | cons y r =>
      rw [List.take_succ_cons] at h
      unfold freshE
      rw [ih (E := E ++ [y]) (X := r) x (by simpa using hx) (by rw [List.append_assoc]; exact h), Bool.and_false]
/-- A pending with records, in memory. -/
def pnrC (p : Pnd) (L : List Edt) (Q : List Rcd) (E R : Option Addr) (ec rc : Nat) : List Value := [.int .i64 p.num, .string p.client, .string p.text, .bool p.shv, .slice E L.length ec, .slice R Q.length rc]
def pnrV (p : Pnd) (L : List Edt) (Q : List Rcd) (E R : Option Addr) (ec rc : Nat) : Value := .agg (pnrC p L Q E R ec rc).toArray
/-- What Attach answers. -/
def attP (p : Pnd) (X : List Edt) (Q : List Rcd) : Pnd × List Edt × List Rcd × Int :=
  if freshE p.edits X = false then (zeroP, [], [], 181) else
  if 64 < p.edits.length + X.length ∨ 64 < Q.length then (zeroP, [], [], 184) else (p, addE p.edits X, sortR Q, 0)
def AtRet (q : Pnd × List Edt × List Rcd × Int) (w : World) (e : Ending) (w' : World) : Prop :=
  ∃ E ec R rc, e = .returned (.tuple #[pnrV q.1 q.2.1 q.2.2.1 E R ec rc, .int .i64 q.2.2.2]) ∧ edtK.In E q.2.1 w' ∧ rcdK.In R q.2.2.1 w' ∧ Below w.heap.size w w'
end
section
open Go.RowKit

instance : LawfulBEq ByteArray where
  eq_of_beq h := (ba_beq _ _).1 h
  rfl := ba_self _
def strT : KeyT Tryz.prog 9 ByteArray where
  val := .string
  ok s := s.size ≤ 4294967281
  inj h := by injection h
  lit {x} h := ⟨_, Go.WideMaps.keyOf_string_mk Tryz.underlying9 (Nat.le_trans h (by unfold maxLen; omega))⟩
  law := Maps.string_keyed Tryz.underlying9
/-- Block b is a set of these texts. -/
def StrS (b : Nat) (S : ByteArray → Prop) (w : World) : Prop := ∃ L : List ByteArray, KM strT b (L.map fun f => (f, Value.bool true)) w ∧ ∀ f, f ∈ L ↔ S f
theorem StrS.lt {b : Nat} {S : ByteArray → Prop} {w : World} (h : StrS b S w) : b < w.heap.size := by
  obtain ⟨L, h, _⟩ := h
  exact h.lt
theorem StrS.of_block {b : Nat} {S : ByteArray → Prop} {w w' : World} (h : StrS b S w) (hb : w'.heap[b]? = w.heap[b]?) : StrS b S w' := by
  obtain ⟨L, h, h2⟩ := h
  exact ⟨L, h.of_block hb, h2⟩
theorem StrS.below {b B : Nat} {S : ByteArray → Prop} {w w' : World} (h : StrS b S w) (hk : Below B w w') (hb : b < B) : StrS b S w' := h.of_block (hk.block b hb)
theorem StrS.congr {b : Nat} {S S' : ByteArray → Prop} {w : World} (h : StrS b S w) (he : ∀ f, S f ↔ S' f) : StrS b S' w := by
  obtain ⟨L, h, h2⟩ := h
  exact ⟨L, h, fun f => (h2 f).trans (he f)⟩
theorem StrS.new (w : World) : StrS w.heap.size (fun _ => False) (w.alloc (.map #[] 0)) := ⟨[], KM.new w strT, fun f => by simp⟩
theorem str_get {L : List ByteArray} {f : ByteArray} : (kget (L.map fun f => (f, Value.bool true)) f).getD (.bool false) = .bool (L.contains f) := by
  induction L with
  | nil => rfl
  | cons x r ih =>
    rw [List.map_cons, List.contains_cons]
    cases hb : (f == x)
    · rw [Bool.false_or, ← ih]
      simp [kget, hb]
    · simp [kget, hb]
theorem strZero (w : World) : (zeroValue 4).run Tryz.prog w = .ok (.bool false) w := by kernel_rfl
theorem StrS.run_has {b : Nat} {S : ByteArray → Prop} {w : World} (h : StrS b S w) {f : ByteArray} (hf : f.size ≤ 4294967281) :
    ∃ c : Bool, (Instr.lookup 64 (.map (some b)) (.string f) false).run Tryz.prog w = .ok (.bool c) w ∧ (c = true ↔ S f) := by
  obtain ⟨L, h, h2⟩ := h
  refine ⟨L.contains f, ?_, by rw [← h2 f]; simp⟩
  have := h.run_get (T := strT) (x := f) Tryz.underlying64 (strZero w) hf false
  rw [str_get] at this
  exact this
theorem str_put (L : List ByteArray) (f : ByteArray) : kput (L.map fun f => (f, Value.bool true)) f (.bool true) = (if L.contains f = true then L else L ++ [f]).map fun f => (f, Value.bool true) := by
  induction L with
  | nil => rfl
  | cons x r ih =>
    rw [List.map_cons, List.contains_cons]
    unfold kput
    cases hb : (f == x)
    · rw [Bool.false_or]
      simp only [Bool.false_eq_true, if_false]
      rw [ih]
      split <;> simp
    · have := eq_of_beq hb
      subst this
      simp
theorem StrS.kput {b : Nat} {L : List ByteArray} {f : ByteArray} {w : World} (h : KM strT b (kput (L.map fun f => (f, Value.bool true)) f (.bool true)) w) {S : ByteArray → Prop} (hL : ∀ f, f ∈ L ↔ S f) : StrS b (fun g => S g ∨ g = f) w := by
  rw [str_put] at h
  refine ⟨_, h, fun g => ?_⟩
  split
  · rename_i hc
    rw [hL g]
    refine ⟨.inl, fun h => h.elim id fun e => ?_⟩
    rw [e, ← hL f]
    simpa using hc
  · rw [List.mem_append, List.mem_singleton, hL g]
theorem run_makeOpen (n : Int) (w : World) : (Instr.makeMap 64 (some (.int .i64 n))).run Tryz.prog w = .ok (.map (some w.heap.size)) (w.alloc (.map #[] 0)) := by
  simp [Instr.makeMap, run_underlying Tryz.underlying64, asInt, asIntOf, Result.andThen]
section
variable {P : Program}
theorem wp_append_anyA {o : Oper} {a : Act} {w : World} {K : Act → World → Prop} {Q : Exit → Act → World → Prop} (s x : Operand) (t : TypeId)
    (ho : o.op = .call { callee := .builtin .append, args := #[s, x], argTypes := #[t, t] })
    (base : Nat) (e : TypeId) (i : TypeInfo) (z : Value) (size bytes : Nat) (ht : P.underlying t = some (.slice e)) (hi : P.info? e = some i) (hz : i.zero = some z)
    (hsize : i.size = size) (hby : i.bytes = bytes) (hzs : z.cells.size = size) (hsz : 0 < size)
    (v : Value) (n : Nat) (xs : List Value) (hs : a.eval s = v) (hown : w.ownsRow base e size v n xs)
    (A : Option Addr) (m c : Nat) (news : List Value) (hx : a.eval x = .slice A m c) (hl : news.length = m * size) (hnews : 0 < m → ∃ ad, A = some ad ∧ ∀ j u, news[j]? = some u → w.cell? (ad.add j) = some u) (h1 : ∀ u ∈ news, u.oneCell' = true)
    (h63 : n + m ≤ maxLen) (hbytes : (n + m) * bytes ≤ 140737488355328) (hbase : base ≤ w.heap.size)
    (h : ∀ v' w', w'.ownsRow base e size v' (n + m) (xs ++ news) → w.grownBy w' v.ownBlock → (v'.ownBlock = v.ownBlock ∨ v'.ownBlock = some w.heap.size) → K (a.put o.dst v') w') : o.wp P a w K Q := by
  have go : ∃ v' w', (Builtin.append_ #[t, t] o.type #[v, .slice A m c]).run P w = .ok v' w' ∧ w'.ownsRow base e size v' (n + m) (xs ++ news) ∧ w.grownBy w' v.ownBlock ∧ (v'.ownBlock = v.ownBlock ∨ v'.ownBlock = some w.heap.size) := by
    by_cases hm : m = 0
    · subst hm
      have hn : news = [] := List.eq_nil_of_length_eq_zero (by simpa using hl)
      subst hn
      cases A with
      | none =>
        have hg : w.grownBy w v.ownBlock := ⟨rfl, rfl, rfl, Nat.le_refl _, fun _ _ _ => rfl⟩
        have ho2 : w.ownsRow base e size v (n + 0) (xs ++ []) := by rw [List.append_nil]; exact hown
        rcases hown.2 with ⟨rfl, rfl⟩ | ⟨g, cap, cur, rfl, _, _, hnc, _⟩
        · exact ⟨_, w, run_append_none0 w t o.type e i ht hi c, ho2, hg, .inl rfl⟩
        · exact ⟨_, w, run_append_none1 w t o.type e i ht hi c g n cap hnc, ho2, hg, .inl rfl⟩
      | some ad =>
        obtain ⟨v', w', hr, h2, h3, _, h5⟩ := run_append_own_at (P := P) w base t o.type e i z size bytes ht hi hz hsize hby hzs hsz v n xs hown ad 0 c [] hl (by simp) h1 h63 hbytes hbase
        exact ⟨v', w', hr, h2, h3, h5⟩
    · obtain ⟨ad, rfl, hc⟩ := hnews (by omega)
      obtain ⟨v', w', hr, h2, h3, _, h5⟩ := run_append_own_at (P := P) w base t o.type e i z size bytes ht hi hz hsize hby hzs hsz v n xs hown ad m c news hl hc h1 h63 hbytes hbase
      exact ⟨v', w', hr, h2, h3, h5⟩
  obtain ⟨v', w', hr, h2, h3, h5⟩ := go
  unfold Oper.wp execOp
  simp only [ho, resolve, invoke, builtin, Sem.run_bind, Sem.run_pure, Result.andThen_ok, List.map_toArray, List.map_cons, List.map_nil, hs, hx, hr]
  exact h v' w' h2 h3 h5
theorem wpList_append_anyA {ops : Array Oper} {rest : List Oper} {o : Oper} {a : Act} {w : World} {Q : Exit → Act → World → Prop} (hgd : o.guard = none) (s x : Operand) (t : TypeId)
    (ho : o.op = .call { callee := .builtin .append, args := #[s, x], argTypes := #[t, t] })
    (base : Nat) (e : TypeId) (i : TypeInfo) (z : Value) (size bytes : Nat) (ht : P.underlying t = some (.slice e)) (hi : P.info? e = some i) (hz : i.zero = some z)
    (hsize : i.size = size) (hby : i.bytes = bytes) (hzs : z.cells.size = size) (hsz : 0 < size)
    (v : Value) (n : Nat) (xs : List Value) (hs : a.eval s = v) (hown : w.ownsRow base e size v n xs)
    (A : Option Addr) (m c : Nat) (news : List Value) (hx : a.eval x = .slice A m c) (hl : news.length = m * size) (hnews : 0 < m → ∃ ad, A = some ad ∧ ∀ j u, news[j]? = some u → w.cell? (ad.add j) = some u) (h1 : ∀ u ∈ news, u.oneCell' = true)
    (h63 : n + m ≤ maxLen) (hbytes : (n + m) * bytes ≤ 140737488355328) (hbase : base ≤ w.heap.size)
    (h : ∀ v' w', w'.ownsRow base e size v' (n + m) (xs ++ news) → w.grownBy w' v.ownBlock → (v'.ownBlock = v.ownBlock ∨ v'.ownBlock = some w.heap.size) → wpList P ops Q rest (a.put o.dst v') w') : wpList P ops Q (o :: rest) a w :=
  wpList_plain hgd fun _ hK => wp_append_anyA s x t ho base e i z size bytes ht hi hz hsize hby hzs hsz v n xs hs hown A m c news hx hl hnews h1 h63 hbytes hbase fun v' w' h2 h3 h4 => hK _ _ (h v' w' h2 h3 h4)
end
end
end Go.Proofs.YtocffknoeknabaaGreatDoor
