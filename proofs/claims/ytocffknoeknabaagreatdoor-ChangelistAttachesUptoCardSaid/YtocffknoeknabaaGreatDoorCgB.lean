
/-
  The base for seats without the journal (joined by a program of ours from our own texts).
-/
import Derived.Test.YtocffknoeknabaaGreatDoorBase
import Derived.OrdersHeld
namespace Go.Proofs.YtocffknoeknabaaGreatDoor
section
open Go.RowKit

def readerB : Op → Bool
  | .move _ | .assign _ | .pick .. | .load .. | .nilCheck _ | .binOp .. | .unOp .. | .convert .. | .slice .. | .fieldAddr .. | .field .. | .indexAddr .. | .index .. | .lookup .. | .extract .. | .build .. | .makeFunc .. | .makeInterface .. => true
  | .call { callee := .builtin .len, .. } | .call { callee := .builtin .cap, .. } | .call { callee := .builtin .min, .. } | .call { callee := .builtin .max, .. } => true
  | _ => false

section
variable {P : Program}
theorem val_bind {m : Sem Value} {w w' : World} {n : Next} (h : (do pure (Next.value (← m)) : Sem Next).run P w = .ok n w') : ∃ x, n = .value x := by
  rw [Sem.run_bind] at h
  cases hm : m.run P w with
  | ok x w1 =>
    rw [hm] at h
    simp only [Result.andThen, Sem.run_pure] at h
    injection h with h1 _
    exact ⟨x, h1.symm⟩
  | halt x w1 => rw [hm] at h; simp [Result.andThen] at h
theorem bind_val {α : Type} {m : Sem α} {k : α → Sem Next} {w w' : World} {n : Next} (hk : ∀ x w1, (k x).run P w1 = .ok n w' → ∃ x, n = .value x) (h : (m >>= k).run P w = .ok n w') : ∃ x, n = .value x := by
  rw [Sem.run_bind] at h
  cases hm : m.run P w with
  | ok x w1 =>
    rw [hm] at h
    exact hk x w1 h
  | halt x w1 => rw [hm] at h; simp [Result.andThen] at h
theorem val_pure {x : Value} {w w' : World} {n : Next} (h : (pure (Next.value x) : Sem Next).run P w = .ok n w') : ∃ x, n = .value x := by
  rw [Sem.run_pure] at h
  injection h with h1 _
  exact ⟨x, h1.symm⟩
theorem reader_val {ρ : Operand → Value} {o : Oper} (hr : readerB o.op = true) {w w' : World} {n : Next} (h : (execOp ρ o).run P w = .ok n w') : ∃ x, n = .value x := by
  obtain ⟨dst, op, ty, pos, after, guard⟩ := o
  dsimp only at hr
  cases op <;> try (first | (exact val_pure h) | (exact val_bind h) | (simp [readerB] at hr; done))
  case pick c a b =>
    simp only [execOp] at h
    rw [Sem.run_bind] at h
    cases hm : (asBool (ρ c)).run P w with
    | ok x w1 =>
      rw [hm] at h
      exact val_pure (P := P) h
    | halt x w1 => rw [hm] at h; simp [Result.andThen] at h
  case nilCheck x =>
    simp only [execOp] at h
    split at h
    · simp [runtimePanic, go_sem] at h
    · simp [runtimePanic, go_sem] at h
    · simp [runtimePanic, go_sem] at h
    · split at h
      · simp [runtimePanic, go_sem] at h
      · refine bind_val (P := P) (fun _ _ h => ?_) h
        refine bind_val (P := P) (fun _ _ h => ?_) h
        split at h
        · refine bind_val (P := P) (fun _ _ h => ?_) h
          exact val_pure (P := P) h
        · exact val_pure (P := P) h
      · exact val_pure (P := P) h
    · exact val_pure (P := P) h
  case call c =>
    obtain ⟨callee, args, ats⟩ := c
    cases callee with
    | value f => simp [readerB] at hr
    | invoke r m => simp [readerB] at hr
    | builtin b =>
      cases b <;> try (simp [readerB] at hr; done)
      all_goals
        simp only [execOp, resolve, Sem.run_bind, Sem.run_pure, Result.andThen_ok, invoke, builtin] at h
        exact val_bind (P := P) (by rw [Sem.run_bind]; exact h)

variable {ops : Array Oper} {S : World → Prop} {Q : Exit → Act → World → Prop}

/-- Readers, named by their places, each yielding one value in every world of the class; then what follows. -/
def wpRd (P : Program) (ops : Array Oper) (S : World → Prop) (K : Act → Prop) (rs : List Nat) (a : Act) : Prop := wpQuiet P ops (fun w' => ∃ y : Held S, w' = y.w) K (rs.filterMap (ops[·]?)) a

/-- The plan: before each operation that acts some that read; at the end the rest. -/
def wpMix (P : Program) (ops : Array Oper) (S : World → Prop) (Q : Exit → Act → World → Prop) (last : List Nat) : List (List Nat × Nat) → Act → World → Prop
  | [], a, w => wpRd P ops S (fun a' => Q .normal a' w) last a
  | (rs, e) :: rest, a, w => wpRd P ops S (fun a' => match ops[e]? with
      | some o => wpList P ops (Exit.then (fun a2 w2 => S w2 ∧ wpMix P ops S Q last rest a2 w2) Q) [o] a' w
      | none => False) rs a

/-- Readers may be taken one after the other. -/
def takeB (md : Region.Mode) (ops : Array Oper) : List Nat → Array Bool → Bool
  | [], _ => true
  | i :: rs, listed => (match ops[i]? with | some o => readerB o.op | none => false) && (Region.ready md ops listed).contains i && Region.free md ops listed i && takeB md ops rs (listed.setIfInBounds i true)
def listAll (rs : List Nat) (listed : Array Bool) : Array Bool := rs.foldl (fun l i => l.setIfInBounds i true) listed
def mixB (md : Region.Mode) (ops : Array Oper) (last : List Nat) : List (List Nat × Nat) → Array Bool → Bool
  | [], listed => takeB md ops last listed && (Region.ready md ops (listAll last listed)).isEmpty
  | (rs, e) :: rest, listed => takeB md ops rs listed && decide (Region.ready md ops (listAll rs listed) = [e]) && mixB md ops last rest ((listAll rs listed).setIfInBounds e true)
def planLen (last : List Nat) : List (List Nat × Nat) → Nat
  | [] => last.length
  | (rs, _) :: rest => rs.length + (1 + planLen last rest)

theorem take_rd {md : Region.Mode} (hs : Region.noSelect ops = true) (hQ : ∀ c (a : Act) (d : Option Tmp) (v : Value) w, Q (.panic c) (a.put d v) w → Q (.panic c) a w) {w : World} (hS : S w) {K : Act → Prop} {f : Nat} :
    ∀ (rs : List Nat) (listed : Array Bool) (a : Act), takeB md ops rs listed = true → wpRd P ops S K rs a → (∀ a', K a' → wpAnyH P md ops Q S f (listAll rs listed) a' w) → wpAnyH P md ops Q S (rs.length + f) listed a w
  | [], listed, a, _, h, hk => by
    rw [List.length_nil, Nat.zero_add]
    exact hk a h
  | i :: rs, listed, a, hb, h, hk => by
    simp only [takeB, Bool.and_eq_true] at hb
    obtain ⟨⟨⟨h1, h2⟩, h3⟩, h4⟩ := hb
    cases hi : ops[i]? with
    | none => rw [hi] at h1; cases h1
    | some o =>
      rw [hi] at h1
      have h1' : readerB o.op = true := h1
      unfold wpRd at h
      rw [List.filterMap_cons_some hi] at h
      rw [List.length_cons, show rs.length + 1 + f = rs.length + f + 1 by omega]
      by_cases hw : Region.wanted o (yielded ops a.tmps) = true
      · simp only [wpQuiet, hw, if_true] at h
        obtain ⟨v, hv, hn⟩ := h
        have hy : YieldsIf P ops S o v a := .inl ⟨hw, fun w' hw' => by
          have := hv w' ⟨⟨w', hw'⟩, rfl⟩
          unfold Oper.quietAt at this
          cases hr : (execOp a.eval o).run P w' with
          | ok n w2 =>
            obtain ⟨x, rfl⟩ := reader_val h1' hr
            rw [hr] at this
            obtain ⟨e1, e2⟩ := this
            rw [e1, e2]
          | halt x w2 => rw [hr] at this; exact this.elim⟩
        exact wpAnyH_take hi hs h3 h2 (fun c a w => hQ c a _ _ w) hy hS (take_rd hs hQ hS rs _ _ h4 hn hk)
      · have hw' : Region.wanted o (yielded ops a.tmps) = false := by simpa using hw
        simp only [wpQuiet, hw', Bool.false_eq_true, if_false] at h
        exact wpAnyH_take hi hs h3 h2 (fun c a w => hQ c a _ _ w) (.inr ⟨hw', rfl⟩) hS (take_rd hs hQ hS rs _ _ h4 h hk)

theorem wp_then {o : Oper} {a : Act} {w : World} {K K' K2 : Act → World → Prop} (hK : ∀ a w, K a w → K' a w) (h : o.wp P a w K (Exit.then K2 Q)) : o.wp P a w K' Q := by
  unfold Oper.wp at *
  generalize (execOp a.eval o).run P w = r at *
  cases r with
  | ok n w' =>
    cases n with
    | value v => exact hK _ _ h
    | skip => exact hK _ _ h
    | defer d => exact hK _ _ h
    | enter f args => exact Calls.mono h (fun e w'' h => by cases e with
        | returned v => exact hK _ _ h
        | panicked c => exact h
        | outgrown => exact h)
    | row r args => exact Rows.mono h (fun v w'' h => hK _ _ h)
    | _ => exact h
  | halt x w' =>
    cases x with
    | panic v => exact h
    | _ => exact h

theorem mix_any {md : Region.Mode} (hs : Region.noSelect ops = true) (hQ : ∀ c (a : Act) (d : Option Tmp) (v : Value) w, Q (.panic c) (a.put d v) w → Q (.panic c) a w) (last : List Nat) :
    ∀ (plan : List (List Nat × Nat)) (listed : Array Bool) (a : Act) (w : World), S w → mixB md ops last plan listed = true → wpMix P ops S Q last plan a w → wpAnyH P md ops Q S (planLen last plan) listed a w
  | [], listed, a, w, hS, hb, h => by
    simp only [mixB, Bool.and_eq_true, List.isEmpty_iff] at hb
    exact take_rd (f := 0) hs hQ hS last listed a hb.1 h (fun a' hk => ⟨hb.2, hk⟩)
  | (rs, e) :: rest, listed, a, w, hS, hb, h => by
    simp only [mixB, Bool.and_eq_true, decide_eq_true_eq] at hb
    refine take_rd (f := 1 + planLen last rest) hs hQ hS rs listed a hb.1.1 h (fun a' hk => ?_)
    rw [Nat.add_comm]
    cases he : ops[e]? with
    | none => rw [he] at hk; exact hk.elim
    | some o =>
      rw [he] at hk
      refine wpAnyH_all hb.1.2 (by simp) (fun i hi => ?_)
      have hie : i = e := by simpa using hi
      subst hie
      unfold wpOp
      simp only [he]
      have hk' : (if Region.wanted o (yielded ops a'.tmps) then o.wp P a' w (fun a2 w2 => S w2 ∧ wpMix P ops S Q last rest a2 w2) (Exit.then (fun a2 w2 => S w2 ∧ wpMix P ops S Q last rest a2 w2) Q) ∨ (o.asks P a' w ∧ LetsOut Q) else S w ∧ wpMix P ops S Q last rest (a'.put o.dst undef) w) := hk
      split
      · rename_i hw
        rw [if_pos hw] at hk'
        rcases hk' with hk' | hk'
        · exact .inl (wp_then (fun a2 w2 h => ⟨h.1, mix_any hs hQ last rest _ a2 w2 h.1 hb.2 h.2⟩) hk')
        · exact .inr hk'
      · rename_i hw
        rw [if_neg hw] at hk'
        exact ⟨hk'.1, mix_any hs hQ last rest _ _ w hk'.1 hb.2 hk'.2⟩

theorem wp_region_mix {id : Nat} {a : Act} {w : World} {l : List Oper} (last : List Nat) (plan : List (List Nat × Nat)) (hm : P.follows .mixedOrders = true) (hb : (Region.noSelect l.toArray && mixB .any l.toArray last plan (Array.replicate l.toArray.size false) && decide (planLen last plan = l.toArray.size)) = true)
    (hQ : ∀ c (a : Act) (d : Option Tmp) (v : Value) w, Q (.panic c) (a.put d v) w → Q (.panic c) a w) (hS : S w.drew) (h : wpMix P l.toArray S Q last plan a w.drew) : (Code.region id l.toArray true).wp P Q a w := by
  simp only [Bool.and_eq_true, decide_eq_true_eq] at hb
  refine wp_region_held (S := S) hm ?_
  have := mix_any hb.1.1 hQ last plan _ a w.drew hS hb.1.2 h
  rw [hb.2] at this
  exact this

/-! The same where the last operation waits for all others: behind it the class need not be shown. -/
def wpAnyG (P : Program) (md : Region.Mode) (ops : Array Oper) (Q : Exit → Act → World → Prop) (S : World → Prop) (z : Nat) : Nat → Array Bool → Act → World → Prop
  | 0, listed, a, w => Region.ready md ops listed = [] ∧ Q .normal a w
  | fuel + 1, listed, a, w =>
    (Region.ready md ops listed = [] → Q .normal a w) ∧
    ∀ i ∈ Region.ready md ops listed, wpOp P ops Q i (fun a' w' => (i ≠ z → S w') ∧ wpAnyG P md ops Q S z fuel (listed.setIfInBounds i true) a' w') a w
theorem wpAny_of_G {md : Region.Mode} {z : Nat} : ∀ (fuel : Nat) (listed : Array Bool) (a : Act) (w : World), wpAnyG P md ops Q S z fuel listed a w → wpAny P md ops Q fuel listed a w
  | 0, _, _, _, h => h
  | fuel + 1, _, _, _, h => ⟨h.1, fun i hi => wpOp_mono (fun a' w' h' => wpAny_of_G fuel _ a' w' h'.2) (h.2 i hi)⟩
/-- What is listed waits for nothing that is not listed. -/
def Closed (md : Region.Mode) (ops : Array Oper) (listed : Array Bool) : Prop := ∀ j oj, ops[j]? = some oj → listed.getD j false = true → ∀ e ∈ oj.after, Region.binds md e = true → listed.getD e.on false = true
theorem Closed.set {md : Region.Mode} {listed : Array Bool} {i : Nat} (h : Closed md ops listed) (hi : i ∈ Region.ready md ops listed) : Closed md ops (listed.setIfInBounds i true) := by
  obtain ⟨_, oi, hoi, hall⟩ := mem_ready.1 hi
  intro j oj hj hl e he hb
  by_cases hij : i = j
  · subst hij
    have : oj = oi := Option.some.inj (hj.symm.trans hoi)
    subst this
    exact getD_set_true (hall e he hb)
  · rw [getD_set_ne false hij] at hl
    exact getD_set_true (h j oj hj hl e he hb)
theorem Closed.none (md : Region.Mode) (ops : Array Oper) (n : Nat) : Closed md ops (Array.replicate n false) := fun j oj _ hl => by
  have : (Array.replicate n false).getD j false = false := by
    rcases Nat.lt_or_ge j n with h | h
    · simp [h]
    · simp [h]
  rw [this] at hl
  cases hl
def waitsB (md : Region.Mode) (ops : Array Oper) (j i : Nat) : Bool := match ops[j]? with
  | some oj => oj.after.any fun e => Region.binds md e && e.on == i
  | none => false
theorem waitsB_spec {md : Region.Mode} {j i : Nat} (h : waitsB md ops j i = true) : ∃ oj, ops[j]? = some oj ∧ ∃ e ∈ oj.after, Region.binds md e = true ∧ e.on = i := by
  unfold waitsB at h
  split at h
  · rename_i oj hj
    obtain ⟨e, he, hb⟩ := Array.any_eq_true'.1 h
    simp only [Bool.and_eq_true, beq_iff_eq] at hb
    exact ⟨oj, hj, e, he, hb.1, hb.2⟩
  · cases h
/-- Operation z waits for every other one, at first or at second hand. -/
def sinkZ (md : Region.Mode) (ops : Array Oper) (z : Nat) : Bool := (List.range ops.size).all fun i => i == z || waitsB md ops z i || (List.range ops.size).any fun j => waitsB md ops z j && waitsB md ops j i
theorem sinkZ_spec {md : Region.Mode} {z : Nat} (h : sinkZ md ops z = true) {listed : Array Bool} (hc : Closed md ops listed) (hr : z ∈ Region.ready md ops listed) {i : Nat} (hi : i < ops.size) (hne : i ≠ z) : listed.getD i false = true := by
  obtain ⟨_, oz, hz, hall⟩ := mem_ready.1 hr
  have hd : ∀ k, waitsB md ops z k = true → listed.getD k false = true := fun k hk => by
    obtain ⟨o, ho, e, he, hb, hon⟩ := waitsB_spec hk
    have : o = oz := Option.some.inj (ho.symm.trans hz)
    subst this
    rw [← hon]
    exact hall e he hb
  have h1 := List.all_eq_true.1 h i (List.mem_range.2 hi)
  simp only [Bool.or_eq_true, beq_iff_eq, hne, false_or] at h1
  rcases h1 with h1 | h1
  · exact hd i h1
  · obtain ⟨j, _, hj⟩ := List.any_eq_true.1 h1
    simp only [Bool.and_eq_true] at hj
    obtain ⟨o, ho, e, he, hb, hon⟩ := waitsB_spec hj.2
    rw [← hon]
    exact hc j o ho (hd j hj.1) e he hb
theorem wpAnyG_first {md : Region.Mode} {z i : Nat} {oi : Oper} {v : Value} (hz : sinkZ md ops z = true) (hi : ops[i]? = some oi) (hiz : i ≠ z) (hsel : ∀ (j : Nat) (o : Oper) cs b, ops[j]? = some o → o.op ≠ .select cs b)
    (hQ : ∀ c a w, Q (.panic c) (a.put oi.dst v) w → Q (.panic c) a w) :
    ∀ (fuel : Nat) (listed : Array Bool) (a : Act) (w : World), Closed md ops listed →
      (∀ j oj, ops[j]? = some oj → j ≠ i → listed.getD j true = false → (∀ e ∈ oj.after, Region.binds md e = true → e.on ≠ i) → oi.apart ops oj = true) →
      i ∈ Region.ready md ops listed → YieldsIf P ops S oi v a → S w →
      wpAnyG P md ops Q S z fuel (listed.setIfInBounds i true) (a.put oi.dst v) w → wpAnyG P md ops Q S z (fuel + 1) listed a w := by
  have hilt : i < ops.size := (Array.getElem?_eq_some_iff.1 hi).1
  intro fuel
  induction fuel with
  | zero =>
    intro listed a w _ _ hr hy hS H
    refine ⟨fun h => (by rw [h] at hr; cases hr), fun j hj => ?_⟩
    by_cases hji : j = i
    · subst hji; exact hy.wpOp hi hS ⟨fun _ => hS, H⟩
    · have := ready_mono hj hji
      rw [H.1] at this
      cases this
  | succ fuel ih =>
    intro listed a w hcl hfree hr hy hS H
    refine ⟨fun h => (by rw [h] at hr; cases hr), fun j hj => ?_⟩
    by_cases hji : j = i
    · subst hji; exact hy.wpOp hi hS ⟨fun _ => hS, H⟩
    · have h0 := (mem_ready.1 hr).1
      have hjz : j ≠ z := fun e => by
        subst e
        have := sinkZ_spec hz hcl hj hilt hiz
        rcases Nat.lt_or_ge i listed.size with h' | h'
        · simp [h'] at h0 this; rw [h0] at this; cases this
        · simp [Array.getElem?_eq_none h'] at this
      have h1 := H.2 j (ready_mono hj hji)
      obtain ⟨hjun, oj, hoj, hall⟩ := mem_ready.1 hj
      have hnot : ∀ e ∈ oj.after, Region.binds md e = true → e.on ≠ i := fun e he hb heq => by
        have h1 := hall e he hb
        rw [heq] at h1
        rcases Nat.lt_or_ge i listed.size with h' | h'
        · simp [h'] at h0 h1; rw [h0] at h1; cases h1
        · simp [Array.getElem?_eq_none h'] at h1
      have h2 := wpOp_putIf hoj (hfree j oj hoj hji hjun hnot) (fun cs b => hsel i oi cs b hi) (fun cs b => hsel j oj cs b hoj) hQ hy h1
      have hfree' : ∀ k ok, ops[k]? = some ok → k ≠ i → (listed.setIfInBounds j true).getD k true = false →
          (∀ e ∈ ok.after, Region.binds md e = true → e.on ≠ i) → oi.apart ops ok = true := fun k ok hk hki hun hno => by
        refine hfree k ok hk hki ?_ hno
        by_cases hjk : j = k
        · subst hjk; exact hjun
        · rw [getD_set_ne true hjk] at hun; exact hun
      refine wpOp_mono (fun a' w' h3 => ⟨h3.2.1, ih (listed.setIfInBounds j true) a' w' (hcl.set hj) hfree' (ready_mono hr (Ne.symm hji)) h3.1 (h3.2.1 hjz) ?_⟩) h2
      rw [Array.setIfInBounds_comm _ _ hji]
      exact h3.2.2
/-- The plan with a last operation that acts. -/
def wpMixZ (P : Program) (ops : Array Oper) (S : World → Prop) (Q : Exit → Act → World → Prop) (rs : List Nat) (z : Nat) : List (List Nat × Nat) → Act → World → Prop
  | [], a, w => wpRd P ops S (fun a' => match ops[z]? with
      | some o => wpList P ops Q [o] a' w
      | none => False) rs a
  | (rs', e) :: rest, a, w => wpRd P ops S (fun a' => match ops[e]? with
      | some o => wpList P ops (Exit.then (fun a2 w2 => S w2 ∧ wpMixZ P ops S Q rs z rest a2 w2) Q) [o] a' w
      | none => False) rs' a
def mixZB (md : Region.Mode) (ops : Array Oper) (rs : List Nat) (z : Nat) : List (List Nat × Nat) → Array Bool → Bool
  | [], listed => takeB md ops rs listed && !rs.contains z && decide (Region.ready md ops (listAll rs listed) = [z]) && (Region.ready md ops ((listAll rs listed).setIfInBounds z true)).isEmpty
  | (rs', e) :: rest, listed => takeB md ops rs' listed && !rs'.contains z && decide (e ≠ z) && decide (Region.ready md ops (listAll rs' listed) = [e]) && mixZB md ops rs z rest ((listAll rs' listed).setIfInBounds e true)
def planZ (rs : List Nat) : List (List Nat × Nat) → Nat
  | [] => rs.length + 1
  | (rs', _) :: rest => rs'.length + (1 + planZ rs rest)
theorem take_rdG {md : Region.Mode} {z : Nat} (hz : sinkZ md ops z = true) (hs : Region.noSelect ops = true) (hQ : ∀ c (a : Act) (d : Option Tmp) (v : Value) w, Q (.panic c) (a.put d v) w → Q (.panic c) a w) {w : World} (hS : S w) {K : Act → Prop} {f : Nat} :
    ∀ (rs : List Nat) (listed : Array Bool) (a : Act), Closed md ops listed → rs.contains z = false → takeB md ops rs listed = true → wpRd P ops S K rs a → (∀ a', Closed md ops (listAll rs listed) → K a' → wpAnyG P md ops Q S z f (listAll rs listed) a' w) → wpAnyG P md ops Q S z (rs.length + f) listed a w
  | [], listed, a, hcl, _, _, h, hk => by
    rw [List.length_nil, Nat.zero_add]
    exact hk a hcl h
  | i :: rs, listed, a, hcl, hc, hb, h, hk => by
    have hiz : i ≠ z ∧ rs.contains z = false := by
      rw [List.contains_cons, Bool.or_eq_false_iff] at hc
      refine ⟨fun e => ?_, hc.2⟩
      rw [e] at hc
      simp at hc
    simp only [takeB, Bool.and_eq_true] at hb
    obtain ⟨⟨⟨h1, h2⟩, h3⟩, h4⟩ := hb
    have hcl' := hcl.set (i := i) (by simpa using h2)
    cases hi : ops[i]? with
    | none => rw [hi] at h1; cases h1
    | some o =>
      rw [hi] at h1
      have h1' : readerB o.op = true := h1
      unfold wpRd at h
      rw [List.filterMap_cons_some hi] at h
      rw [List.length_cons, show rs.length + 1 + f = rs.length + f + 1 by omega]
      by_cases hw : Region.wanted o (yielded ops a.tmps) = true
      · simp only [wpQuiet, hw, if_true] at h
        obtain ⟨v, hv, hn⟩ := h
        have hy : YieldsIf P ops S o v a := .inl ⟨hw, fun w' hw' => by
          have := hv w' ⟨⟨w', hw'⟩, rfl⟩
          unfold Oper.quietAt at this
          cases hr : (execOp a.eval o).run P w' with
          | ok n w2 =>
            obtain ⟨x, rfl⟩ := reader_val h1' hr
            rw [hr] at this
            obtain ⟨e1, e2⟩ := this
            rw [e1, e2]
          | halt x w2 => rw [hr] at this; exact this.elim⟩
        exact wpAnyG_first hz hi hiz.1 (Region.noSelect_spec hs) (fun c a w => hQ c a _ _ w) _ listed a w hcl (Region.free_spec hi h3) (by simpa using h2) hy hS (take_rdG hz hs hQ hS rs _ _ hcl' hiz.2 h4 hn hk)
      · have hw' : Region.wanted o (yielded ops a.tmps) = false := by simpa using hw
        simp only [wpQuiet, hw', Bool.false_eq_true, if_false] at h
        exact wpAnyG_first hz hi hiz.1 (Region.noSelect_spec hs) (fun c a w => hQ c a _ _ w) _ listed a w hcl (Region.free_spec hi h3) (by simpa using h2) (.inr ⟨hw', rfl⟩) hS (take_rdG hz hs hQ hS rs _ _ hcl' hiz.2 h4 h hk)
theorem G_all {md : Region.Mode} {z e : Nat} {f : Nat} {listed : Array Bool} {a : Act} {w : World} (hr : Region.ready md ops listed = [e]) (h : wpOp P ops Q e (fun a' w' => (e ≠ z → S w') ∧ wpAnyG P md ops Q S z f (listed.setIfInBounds e true) a' w') a w) : wpAnyG P md ops Q S z (f + 1) listed a w :=
  ⟨(fun h0 => by rw [hr] at h0; cases h0), (fun i hi => by
    rw [hr] at hi
    have hie : i = e := by simpa using hi
    subst hie
    exact h)⟩
theorem mix_anyZ {md : Region.Mode} {z : Nat} (hz : sinkZ md ops z = true) (hs : Region.noSelect ops = true) (hQ : ∀ c (a : Act) (d : Option Tmp) (v : Value) w, Q (.panic c) (a.put d v) w → Q (.panic c) a w) (rs : List Nat) :
    ∀ (plan : List (List Nat × Nat)) (listed : Array Bool) (a : Act) (w : World), Closed md ops listed → S w → mixZB md ops rs z plan listed = true → wpMixZ P ops S Q rs z plan a w → wpAnyG P md ops Q S z (planZ rs plan) listed a w
  | [], listed, a, w, hcl, hS, hb, h => by
    simp only [mixZB, Bool.and_eq_true, Bool.not_eq_true', decide_eq_true_eq, List.isEmpty_iff] at hb
    refine take_rdG (f := 1) hz hs hQ hS rs listed a hcl hb.1.1.2 hb.1.1.1 h (fun a' _ hk => ?_)
    refine G_all hb.1.2 ?_
    unfold wpOp
    cases he : ops[z]? with
    | none => rw [he] at hk; exact hk.elim
    | some o =>
      rw [he] at hk
      have hk' : (if Region.wanted o (yielded ops a'.tmps) then o.wp P a' w (fun a2 w2 => Q .normal a2 w2) Q ∨ (o.asks P a' w ∧ LetsOut Q) else Q .normal (a'.put o.dst undef) w) := hk
      dsimp only
      split
      · rename_i hw
        rw [if_pos hw] at hk'
        rcases hk' with hk' | hk'
        · exact .inl (Oper.wp_mono (fun a2 w2 h => ⟨fun hh => absurd rfl hh, hb.2, h⟩) hk')
        · exact .inr hk'
      · rename_i hw
        rw [if_neg hw] at hk'
        exact ⟨fun hh => absurd rfl hh, hb.2, hk'⟩
  | (rs', e) :: rest, listed, a, w, hcl, hS, hb, h => by
    simp only [mixZB, Bool.and_eq_true, Bool.not_eq_true', decide_eq_true_eq] at hb
    obtain ⟨⟨⟨⟨b1, b2⟩, b3⟩, b4⟩, b5⟩ := hb
    refine take_rdG (f := 1 + planZ rs rest) hz hs hQ hS rs' listed a hcl b2 b1 h (fun a' hcl2 hk => ?_)
    rw [Nat.add_comm]
    refine G_all b4 ?_
    unfold wpOp
    cases he : ops[e]? with
    | none => rw [he] at hk; exact hk.elim
    | some o =>
      rw [he] at hk
      have hk' : (if Region.wanted o (yielded ops a'.tmps) then o.wp P a' w (fun a2 w2 => S w2 ∧ wpMixZ P ops S Q rs z rest a2 w2) (Exit.then (fun a2 w2 => S w2 ∧ wpMixZ P ops S Q rs z rest a2 w2) Q) ∨ (o.asks P a' w ∧ LetsOut Q) else S w ∧ wpMixZ P ops S Q rs z rest (a'.put o.dst undef) w) := hk
      dsimp only
      split
      · rename_i hw
        rw [if_pos hw] at hk'
        rcases hk' with hk' | hk'
        · exact .inl (wp_then (fun a2 w2 h => ⟨fun _ => h.1, mix_anyZ hz hs hQ rs rest _ a2 w2 (hcl2.set (by rw [b4]; simp)) h.1 b5 h.2⟩) hk')
        · exact .inr hk'
      · rename_i hw
        rw [if_neg hw] at hk'
        exact ⟨fun _ => hk'.1, mix_anyZ hz hs hQ rs rest _ _ w (hcl2.set (by rw [b4]; simp)) hk'.1 b5 hk'.2⟩
theorem wp_region_mixz {id : Nat} {a : Act} {w : World} {l : List Oper} (rs : List Nat) (z : Nat) (plan : List (List Nat × Nat)) (hm : P.follows .mixedOrders = true) (hb : (Region.noSelect l.toArray && sinkZ .any l.toArray z && mixZB .any l.toArray rs z plan (Array.replicate l.toArray.size false) && decide (planZ rs plan = l.toArray.size)) = true)
    (hQ : ∀ c (a : Act) (d : Option Tmp) (v : Value) w, Q (.panic c) (a.put d v) w → Q (.panic c) a w) (hS : S w.drew) (h : wpMixZ P l.toArray S Q rs z plan a w.drew) : (Code.region id l.toArray true).wp P Q a w := by
  simp only [Bool.and_eq_true, decide_eq_true_eq] at hb
  refine wp_region_any hm (wpAny_of_G (S := S) (z := z) _ _ _ _ ?_)
  have := mix_anyZ hb.1.1.2 hb.1.1.1 hQ rs plan _ a w.drew (Closed.none _ _ _) hS hb.1.2 h
  rw [hb.2] at this
  exact this
end
end

section
open Go.RowKit

/-! Regions in which an operation that makes memory may be drawn at any time ahead of the last ones. -/
section
variable {P : Program} {ops : Array Oper} {S : World → Prop} {Q : Exit → Act → World → Prop}
/-- What is to be shown of one operation that acts. -/
def wpAct (P : Program) (ops : Array Oper) (S : World → Prop) (Q : Exit → Act → World → Prop) (e : Nat) (R : Act → World → Prop) (a : Act) (w : World) : Prop := match ops[e]? with
  | some o => wpList P ops (Exit.then (fun a2 w2 => S w2 ∧ R a2 w2) Q) [o] a w
  | none => False
theorem act_step {md : Region.Mode} {e f : Nat} {listed : Array Bool} {R : Act → World → Prop} {a : Act} {w : World} (hk : wpAct P ops S Q e R a w) (hR : ∀ a2 w2, S w2 → R a2 w2 → wpAnyH P md ops Q S f (listed.setIfInBounds e true) a2 w2) :
    wpOp P ops Q e (fun a' w' => S w' ∧ wpAnyH P md ops Q S f (listed.setIfInBounds e true) a' w') a w := by
  unfold wpAct at hk
  unfold wpOp
  cases he : ops[e]? with
  | none => rw [he] at hk; exact hk.elim
  | some o =>
    rw [he] at hk
    simp only
    have hk' : (if Region.wanted o (yielded ops a.tmps) then o.wp P a w (fun a2 w2 => S w2 ∧ R a2 w2) (Exit.then (fun a2 w2 => S w2 ∧ R a2 w2) Q) ∨ (o.asks P a w ∧ LetsOut Q) else S w ∧ R (a.put o.dst undef) w) := hk
    split
    · rename_i hw
      rw [if_pos hw] at hk'
      rcases hk' with hk' | hk'
      · exact .inl (wp_then (fun a2 w2 h => ⟨h.1, hR a2 w2 h.1 h.2⟩) hk')
      · exact .inr hk'
    · rename_i hw
      rw [if_neg hw] at hk'
      exact ⟨hk'.1, hR _ w hk'.1 hk'.2⟩

/-- The plan with an operation z that may come at any time ahead of the tail: at the latest behind the readers rz, ahead of operation s. -/
def wpMixF (P : Program) (ops : Array Oper) (S : World → Prop) (Q : Exit → Act → World → Prop) (last : List Nat) (tail : List (List Nat × Nat)) (rz : List Nat) (s z : Nat) : List (List Nat × Nat) → Act → World → Prop
  | [], a, w => wpRd P ops S (fun a' => wpAct P ops S Q z (wpMix P ops S Q last (([], s) :: tail)) a' w) rz a
  | (rs, e) :: rest, a, w => wpRd P ops S (fun a' => wpAct P ops S Q e (wpMixF P ops S Q last tail rz s z rest) a' w ∧ wpAct P ops S Q z (wpMix P ops S Q last (([], e) :: rest ++ (rz, s) :: tail)) a' w) rs a
def mixFB (md : Region.Mode) (ops : Array Oper) (last : List Nat) (tail : List (List Nat × Nat)) (rz : List Nat) (s z : Nat) : List (List Nat × Nat) → Array Bool → Bool
  | [], listed => takeB md ops rz listed && decide (Region.ready md ops (listAll rz listed) = [z]) && mixB md ops last (([], s) :: tail) ((listAll rz listed).setIfInBounds z true)
  | (rs, e) :: rest, listed => takeB md ops rs listed && decide (Region.ready md ops (listAll rs listed) = [e, z]) && mixFB md ops last tail rz s z rest ((listAll rs listed).setIfInBounds e true) && mixB md ops last (([], e) :: rest ++ (rz, s) :: tail) ((listAll rs listed).setIfInBounds z true)
def planF (last : List Nat) (tail : List (List Nat × Nat)) (rz : List Nat) : List (List Nat × Nat) → Nat
  | [] => rz.length + (1 + (1 + planLen last tail))
  | (rs, _) :: rest => rs.length + (1 + planF last tail rz rest)
theorem planLen_append (last : List Nat) (tail : List (List Nat × Nat)) (rz : List Nat) (s : Nat) : ∀ rest, 1 + planLen last (rest ++ (rz, s) :: tail) = planF last tail rz rest
  | [] => by simp only [List.nil_append, planLen, planF]; omega
  | (rs, _) :: rest => by
    have := planLen_append last tail rz s rest
    simp only [List.cons_append, planLen, planF]
    omega
theorem mixF_any {md : Region.Mode} (hs : Region.noSelect ops = true) (hQ : ∀ c (a : Act) (d : Option Tmp) (v : Value) w, Q (.panic c) (a.put d v) w → Q (.panic c) a w) (last : List Nat) (tail : List (List Nat × Nat)) (rz : List Nat) (s z : Nat) :
    ∀ (plan : List (List Nat × Nat)) (listed : Array Bool) (a : Act) (w : World), S w → mixFB md ops last tail rz s z plan listed = true → wpMixF P ops S Q last tail rz s z plan a w → wpAnyH P md ops Q S (planF last tail rz plan) listed a w
  | [], listed, a, w, hS, hb, h => by
    simp only [mixFB, Bool.and_eq_true, decide_eq_true_eq] at hb
    unfold planF
    refine take_rd (f := 1 + (1 + planLen last tail)) hs hQ hS rz listed a hb.1.1 h (fun a' hk => ?_)
    rw [Nat.add_comm]
    refine wpAnyH_all hb.1.2 (by simp) (fun i hi => ?_)
    obtain rfl : i = z := by simpa using hi
    refine act_step hk (fun a2 w2 h1 h2 => ?_)
    have := mix_any hs hQ last (([], s) :: tail) _ a2 w2 h1 hb.2 h2
    simp only [planLen, List.length_nil, Nat.zero_add] at this
    exact this
  | (rs, e) :: rest, listed, a, w, hS, hb, h => by
    simp only [mixFB, Bool.and_eq_true, decide_eq_true_eq] at hb
    unfold planF
    refine take_rd (f := 1 + planF last tail rz rest) hs hQ hS rs listed a hb.1.1.1 h (fun a' hk => ?_)
    rw [Nat.add_comm]
    refine wpAnyH_all hb.1.1.2 (by simp) (fun i hi => ?_)
    rcases (show i = e ∨ i = z by simpa using hi) with rfl | rfl
    · exact act_step hk.1 (fun a2 w2 h1 h2 => mixF_any hs hQ last tail rz s z rest _ a2 w2 h1 hb.1.2 h2)
    · refine act_step hk.2 (fun a2 w2 h1 h2 => ?_)
      have := mix_any hs hQ last (([], e) :: rest ++ (rz, s) :: tail) _ a2 w2 h1 hb.2 h2
      simp only [List.cons_append, planLen, List.length_nil, Nat.zero_add, planLen_append] at this
      exact this

theorem wp_region_mixf {id : Nat} {a : Act} {w : World} {l : List Oper} (last : List Nat) (tail : List (List Nat × Nat)) (rz : List Nat) (s z : Nat) (plan : List (List Nat × Nat)) (hm : P.follows .mixedOrders = true) (hb : (Region.noSelect l.toArray && mixFB .any l.toArray last tail rz s z plan (Array.replicate l.toArray.size false) && decide (planF last tail rz plan = l.toArray.size)) = true)
    (hQ : ∀ c (a : Act) (d : Option Tmp) (v : Value) w, Q (.panic c) (a.put d v) w → Q (.panic c) a w) (hS : S w.drew) (h : wpMixF P l.toArray S Q last tail rz s z plan a w.drew) : (Code.region id l.toArray true).wp P Q a w := by
  simp only [Bool.and_eq_true, decide_eq_true_eq] at hb
  refine wp_region_held (S := S) hm ?_
  have := mixF_any hb.1.1 hQ last tail rz s z plan _ a w.drew hS hb.1.2 h
  rw [hb.2] at this
  exact this
end
end

end Go.Proofs.YtocffknoeknabaaGreatDoor
