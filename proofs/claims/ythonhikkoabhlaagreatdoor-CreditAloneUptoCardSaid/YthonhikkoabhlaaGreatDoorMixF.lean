/-
  A region in which one operation that makes memory may be drawn at any time ahead of the last ones.
-/
import Derived.Test.YthonhikkoabhlaaGreatDoorMix
namespace Go.Proofs.YthonhikkoabhlaaGreatDoor
open Go.RowKit

/-! Regions in which an operation that makes memory may be drawn at any time ahead of the last ones. -/
section
variable {P : Program} {ops : Array Oper} {S : World → Prop} {Q : Exit → Act → World → Prop}
/-- What is to be shown of one operation that acts. -/
def wpAct (P : Program) (ops : Array Oper) (S : World → Prop) (Q : Exit → Act → World → Prop) (e : Nat) (R : Act → World → Prop) (a : Act) (w : World) : Prop := match ops[e]? with
  | some o => wpList P ops (Exit.then (fun a2 w2 => S w2 ∧ R a2 w2) Q) [o] a w
  | none => False
theorem act_step {md : Region.Mode} {e f : Nat} {listed : Array Bool} {R : Act → World → Prop} {a : Act} {w : World} (hk : wpAct P ops S Q e R a w) (hR : ∀ a2 w2, S w2 → R a2 w2 → wpAnyH P md ops Q S f (listed.setIfInBounds e true) a2 w2) :
    wpOp P ops Q e (fun a' w' => S w' ∧ wpAnyH P md ops Q S f (listed.setIfInBounds e true) a' w') a w := by
  unfold wpAct at hk
  unfold wpOp
  cases he : ops[e]? with
  | none => rw [he] at hk; exact hk.elim
  | some o =>
    rw [he] at hk
    simp only
    have hk' : (if Region.wanted o (yielded ops a.tmps) then o.wp P a w (fun a2 w2 => S w2 ∧ R a2 w2) (Exit.then (fun a2 w2 => S w2 ∧ R a2 w2) Q) ∨ (o.asks P a w ∧ LetsOut Q) else S w ∧ R (a.put o.dst undef) w) := hk
    split
    · rename_i hw
      rw [if_pos hw] at hk'
      rcases hk' with hk' | hk'
      · exact .inl (wp_then (fun a2 w2 h => ⟨h.1, hR a2 w2 h.1 h.2⟩) hk')
      · exact .inr hk'
    · rename_i hw
      rw [if_neg hw] at hk'
      exact ⟨hk'.1, hR _ w hk'.1 hk'.2⟩

/-- The plan with an operation z that may come at any time ahead of the tail: at the latest behind the readers rz, ahead of operation s. -/
def wpMixF (P : Program) (ops : Array Oper) (S : World → Prop) (Q : Exit → Act → World → Prop) (last : List Nat) (tail : List (List Nat × Nat)) (rz : List Nat) (s z : Nat) : List (List Nat × Nat) → Act → World → Prop
  | [], a, w => wpRd P ops S (fun a' => wpAct P ops S Q z (wpMix P ops S Q last (([], s) :: tail)) a' w) rz a
  | (rs, e) :: rest, a, w => wpRd P ops S (fun a' => wpAct P ops S Q e (wpMixF P ops S Q last tail rz s z rest) a' w ∧ wpAct P ops S Q z (wpMix P ops S Q last (([], e) :: rest ++ (rz, s) :: tail)) a' w) rs a
def mixFB (md : Region.Mode) (ops : Array Oper) (last : List Nat) (tail : List (List Nat × Nat)) (rz : List Nat) (s z : Nat) : List (List Nat × Nat) → Array Bool → Bool
  | [], listed => takeB md ops rz listed && decide (Region.ready md ops (listAll rz listed) = [z]) && mixB md ops last (([], s) :: tail) ((listAll rz listed).setIfInBounds z true)
  | (rs, e) :: rest, listed => takeB md ops rs listed && decide (Region.ready md ops (listAll rs listed) = [e, z]) && mixFB md ops last tail rz s z rest ((listAll rs listed).setIfInBounds e true) && mixB md ops last (([], e) :: rest ++ (rz, s) :: tail) ((listAll rs listed).setIfInBounds z true)
def planF (last : List Nat) (tail : List (List Nat × Nat)) (rz : List Nat) : List (List Nat × Nat) → Nat
  | [] => rz.length + (1 + (1 + planLen last tail))
  | (rs, _) :: rest => rs.length + (1 + planF last tail rz rest)
theorem planLen_append (last : List Nat) (tail : List (List Nat × Nat)) (rz : List Nat) (s : Nat) : ∀ rest, 1 + planLen last (rest ++ (rz, s) :: tail) = planF last tail rz rest
  | [] => by simp only [List.nil_append, planLen, planF]; omega
  | (rs, _) :: rest => by
    have := planLen_append last tail rz s rest
    simp only [List.cons_append, planLen, planF]
    omega
theorem mixF_any {md : Region.Mode} (hs : Region.noSelect ops = true) (hQ : ∀ c (a : Act) (d : Option Tmp) (v : Value) w, Q (.panic c) (a.put d v) w → Q (.panic c) a w) (last : List Nat) (tail : List (List Nat × Nat)) (rz : List Nat) (s z : Nat) :
    ∀ (plan : List (List Nat × Nat)) (listed : Array Bool) (a : Act) (w : World), S w → mixFB md ops last tail rz s z plan listed = true → wpMixF P ops S Q last tail rz s z plan a w → wpAnyH P md ops Q S (planF last tail rz plan) listed a w
  | [], listed, a, w, hS, hb, h => by
    simp only [mixFB, Bool.and_eq_true, decide_eq_true_eq] at hb
    unfold planF
    refine take_rd (f := 1 + (1 + planLen last tail)) hs hQ hS rz listed a hb.1.1 h (fun a' hk => ?_)
    rw [Nat.add_comm]
    refine wpAnyH_all hb.1.2 (by simp) (fun i hi => ?_)
    obtain rfl : i = z := by simpa using hi
    refine act_step hk (fun a2 w2 h1 h2 => ?_)
    have := mix_any hs hQ last (([], s) :: tail) _ a2 w2 h1 hb.2 h2
    simp only [planLen, List.length_nil, Nat.zero_add] at this
    exact this
  | (rs, e) :: rest, listed, a, w, hS, hb, h => by
    simp only [mixFB, Bool.and_eq_true, decide_eq_true_eq] at hb
    unfold planF
    refine take_rd (f := 1 + planF last tail rz rest) hs hQ hS rs listed a hb.1.1.1 h (fun a' hk => ?_)
    rw [Nat.add_comm]
    refine wpAnyH_all hb.1.1.2 (by simp) (fun i hi => ?_)
    rcases (show i = e ∨ i = z by simpa using hi) with rfl | rfl
    · exact act_step hk.1 (fun a2 w2 h1 h2 => mixF_any hs hQ last tail rz s z rest _ a2 w2 h1 hb.1.2 h2)
    · refine act_step hk.2 (fun a2 w2 h1 h2 => ?_)
      have := mix_any hs hQ last (([], e) :: rest ++ (rz, s) :: tail) _ a2 w2 h1 hb.2 h2
      simp only [List.cons_append, planLen, List.length_nil, Nat.zero_add, planLen_append] at this
      exact this

theorem wp_region_mixf {id : Nat} {a : Act} {w : World} {l : List Oper} (last : List Nat) (tail : List (List Nat × Nat)) (rz : List Nat) (s z : Nat) (plan : List (List Nat × Nat)) (hm : P.follows .mixedOrders = true) (hb : (Region.noSelect l.toArray && mixFB .any l.toArray last tail rz s z plan (Array.replicate l.toArray.size false) && decide (planF last tail rz plan = l.toArray.size)) = true)
    (hQ : ∀ c (a : Act) (d : Option Tmp) (v : Value) w, Q (.panic c) (a.put d v) w → Q (.panic c) a w) (hS : S w.drew) (h : wpMixF P l.toArray S Q last tail rz s z plan a w.drew) : (Code.region id l.toArray true).wp P Q a w := by
  simp only [Bool.and_eq_true, decide_eq_true_eq] at hb
  refine wp_region_held (S := S) hm ?_
  have := mixF_any hb.1.1 hQ last tail rz s z plan _ a w.drew hS hb.1.2 h
  rw [hb.2] at this
  exact this
end
end Go.Proofs.YthonhikkoabhlaaGreatDoor
