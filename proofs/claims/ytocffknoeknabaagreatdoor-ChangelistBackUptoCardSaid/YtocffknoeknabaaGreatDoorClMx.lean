/-
  A region in which, behind some effects in a row, an operation that makes memory may be drawn at any time ahead of the last ones.
-/
import Derived.Test.YtocffknoeknabaaGreatDoorCgB
namespace Go.Proofs.YtocffknoeknabaaGreatDoor
open Go.RowKit

section
variable {P : Program} {ops : Array Oper} {S : World → Prop} {Q : Exit → Act → World → Prop}
/-- The plan of wpMixF behind effects that come one after the other. -/
def wpMixP (P : Program) (ops : Array Oper) (S : World → Prop) (Q : Exit → Act → World → Prop) (last : List Nat) (tail : List (List Nat × Nat)) (rz : List Nat) (s z : Nat) (plan : List (List Nat × Nat)) : List (List Nat × Nat) → Act → World → Prop
  | [], a, w => wpMixF P ops S Q last tail rz s z plan a w
  | (rs, e) :: rest, a, w => wpRd P ops S (fun a' => wpAct P ops S Q e (wpMixP P ops S Q last tail rz s z plan rest) a' w) rs a
def mixPB (md : Region.Mode) (ops : Array Oper) (last : List Nat) (tail : List (List Nat × Nat)) (rz : List Nat) (s z : Nat) (plan : List (List Nat × Nat)) : List (List Nat × Nat) → Array Bool → Bool
  | [], listed => mixFB md ops last tail rz s z plan listed
  | (rs, e) :: rest, listed => takeB md ops rs listed && decide (Region.ready md ops (listAll rs listed) = [e]) && mixPB md ops last tail rz s z plan rest ((listAll rs listed).setIfInBounds e true)
def planP (last : List Nat) (tail : List (List Nat × Nat)) (rz : List Nat) (plan : List (List Nat × Nat)) : List (List Nat × Nat) → Nat
  | [] => planF last tail rz plan
  | (rs, _) :: rest => rs.length + (1 + planP last tail rz plan rest)
theorem mixP_any {md : Region.Mode} (hs : Region.noSelect ops = true) (hQ : ∀ c (a : Act) (d : Option Tmp) (v : Value) w, Q (.panic c) (a.put d v) w → Q (.panic c) a w) (last : List Nat) (tail : List (List Nat × Nat)) (rz : List Nat) (s z : Nat) (plan : List (List Nat × Nat)) :
    ∀ (pre : List (List Nat × Nat)) (listed : Array Bool) (a : Act) (w : World), S w → mixPB md ops last tail rz s z plan pre listed = true → wpMixP P ops S Q last tail rz s z plan pre a w → wpAnyH P md ops Q S (planP last tail rz plan pre) listed a w
  | [], listed, a, w, hS, hb, h => mixF_any hs hQ last tail rz s z plan listed a w hS hb h
  | (rs, e) :: rest, listed, a, w, hS, hb, h => by
    simp only [mixPB, Bool.and_eq_true, decide_eq_true_eq] at hb
    unfold planP
    refine take_rd (f := 1 + planP last tail rz plan rest) hs hQ hS rs listed a hb.1.1 h (fun a' hk => ?_)
    rw [Nat.add_comm]
    refine wpAnyH_all hb.1.2 (by simp) (fun i hi => ?_)
    obtain rfl : i = e := by simpa using hi
    exact act_step hk (fun a2 w2 h1 h2 => mixP_any hs hQ last tail rz s z plan rest _ a2 w2 h1 hb.2 h2)
theorem wp_region_mixp {id : Nat} {a : Act} {w : World} {l : List Oper} (last : List Nat) (tail : List (List Nat × Nat)) (rz : List Nat) (s z : Nat) (plan pre : List (List Nat × Nat)) (hm : P.follows .mixedOrders = true) (hb : (Region.noSelect l.toArray && mixPB .any l.toArray last tail rz s z plan pre (Array.replicate l.toArray.size false) && decide (planP last tail rz plan pre = l.toArray.size)) = true)
    (hQ : ∀ c (a : Act) (d : Option Tmp) (v : Value) w, Q (.panic c) (a.put d v) w → Q (.panic c) a w) (hS : S w.drew) (h : wpMixP P l.toArray S Q last tail rz s z plan pre a w.drew) : (Code.region id l.toArray true).wp P Q a w := by
  simp only [Bool.and_eq_true, decide_eq_true_eq] at hb
  refine wp_region_held (S := S) hm ?_
  have := mixP_any hb.1.1 hQ last tail rz s z plan pre _ a w.drew hS hb.1.2 h
  rw [hb.2] at this
  exact this
end
end Go.Proofs.YtocffknoeknabaaGreatDoor
