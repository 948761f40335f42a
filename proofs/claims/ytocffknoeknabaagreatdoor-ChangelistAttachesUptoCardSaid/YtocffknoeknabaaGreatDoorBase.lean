/-
  Small lemmas that all walks of this family use.
-/
import Derived.Test.YtocffknoeknabaaGreatDoorChecked
import Derived.WalkKit
import Derived.WalkSpells
import Derived.WalkLawsBesides
import Derived.Deep.QuietTactic
import Derived.BigQuiet
import Derived.Lib.Hide
import Derived.Deep.RegionHeld3
namespace Go.Proofs.YtocffknoeknabaaGreatDoor
open Go.RowKit

theorem ret_bool {a b : Bool} (h : a = b) : Ending.returned (.bool a) = .returned (.bool b) := by rw [h]
theorem ret_int {k : IntKind} {a b : Int} (h : a = b) : Ending.returned (.int k a) = .returned (.int k b) := by rw [h]

theorem bcell {W w1 : World} (hb : Below W.heap.size W w1) : (∀ b o, b < W.heap.size → w1.cell? ⟨b, o, none⟩ = W.cell? ⟨b, o, none⟩) ∧ (∀ b o, b < W.heap.size → w1.frozen? ⟨b, o, none⟩ = W.frozen? ⟨b, o, none⟩) :=
  ⟨fun b o h => hb.cell (p := ⟨b, o, none⟩) h, fun b o h => hb.frozen (p := ⟨b, o, none⟩) h⟩
theorem below_drewN {B : Nat} {a w : World} (h : Below B a w) (n : Nat) : Below B a (w.drewN n) := ⟨h.os, h.tape, h.output, h.size, h.block⟩
/-- A world that meets S. -/
structure Held (S : World → Prop) where
  w : World
  ok : S w

/-- A region that draws its order, whose own operations only read and whose calls keep S: one walk in the order of the text. -/
theorem wp_region_s {P : Program} {S : World → Prop} {id : Nat} {Q : Exit → Act → World → Prop} {a : Act} {w : World} {l : List Oper} (hm : P.follows .mixedOrders = true) (hB : Region.lexB .any l.toArray = true) (hS : S w.drew)
    (h : wpQuiet P l.toArray (fun w' => ∃ y : Held S, w' = y.w) (fun a' => ∀ w', (∃ y : Held S, w' = y.w) → Q .normal a' w') l a) : (Code.region id l.toArray true).wp P Q a w :=
  wp_region_quiet (C := fun w' => ∃ y : Held S, w' = y.w) hm hB ⟨⟨_, hS⟩, rfl⟩ (by simpa using h)

theorem held_keep {P : Program} {W : World} {f : FuncId} {args : Array Value} {y : Held (Below W.heap.size W)} {v : Value}
    (h : Calls P f args y.w fun e w' => e = .returned v ∧ Below y.w.heap.size y.w w') : Calls P f args y.w fun e w'' => e = .returned v ∧ ∃ z : Held (Below W.heap.size W), w'' = z.w :=
  h.mono fun _ w' ⟨he, hw⟩ => ⟨he, ⟨w', y.ok.trans (hw.mono y.ok.size)⟩, rfl⟩

/-- The five cells of a claim at block b, and all below block B as it was in w. -/
structure Box5 (w : World) (b : Nat) (v0 v1 v2 v3 v4 : Value) (x : World) : Prop where
  c0 : x.cell? ⟨b, 0, none⟩ = some v0
  c1 : x.cell? ⟨b, 1, none⟩ = some v1
  c2 : x.cell? ⟨b, 2, none⟩ = some v2
  c3 : x.cell? ⟨b, 3, none⟩ = some v3
  c4 : x.cell? ⟨b, 4, none⟩ = some v4
  lt : b < x.heap.size
  old : Below w.heap.size w x
  fz : ∀ o, x.frozen? ⟨b, o, none⟩ = false
theorem Box5.below {w : World} {b : Nat} {v0 v1 v2 v3 v4 : Value} {x y : World} (h : Box5 w b v0 v1 v2 v3 v4 x) (hb : Below x.heap.size x y) : Box5 w b v0 v1 v2 v3 v4 y := by
  have hc := (bcell hb).1
  exact ⟨(hc b 0 h.lt).trans h.c0, (hc b 1 h.lt).trans h.c1, (hc b 2 h.lt).trans h.c2, (hc b 3 h.lt).trans h.c3, (hc b 4 h.lt).trans h.c4, Nat.lt_of_lt_of_le h.lt hb.size, h.old.trans (hb.mono h.old.size), fun o => ((bcell hb).2 b o h.lt).trans (h.fz o)⟩
theorem Box5.new (w : World) (v0 v1 v2 v3 v4 : Value) (T : TypeId) : Box5 w w.heap.size v0 v1 v2 v3 v4 (w.alloc (.cells #[v0, v1, v2, v3, v4] T)) :=
  ⟨by simp [go_sem], by simp [go_sem], by simp [go_sem], by simp [go_sem], by simp [go_sem], by simp, (Below.refl _ _).alloc (Nat.le_refl _) _, fun o => by simp [go_sem]⟩
theorem Box5.new1 (w : World) (o : Obj) (v0 v1 v2 v3 v4 : Value) (T : TypeId) : Box5 w (w.heap.size + 1) v0 v1 v2 v3 v4 ((w.alloc o).alloc (.cells #[v0, v1, v2, v3, v4] T)) :=
  ⟨by simp [go_sem], by simp [go_sem], by simp [go_sem], by simp [go_sem], by simp [go_sem], by simp, ((Below.refl _ _).alloc (Nat.le_refl _) _).alloc (by simp) _, fun o => by simp [go_sem]⟩
theorem Box5.new2 (w : World) (o o2 : Obj) (v0 v1 v2 v3 v4 : Value) (T : TypeId) : Box5 w (w.heap.size + 1 + 1) v0 v1 v2 v3 v4 (((w.alloc o).alloc o2).alloc (.cells #[v0, v1, v2, v3, v4] T)) :=
  ⟨by simp [go_sem], by simp [go_sem], by simp [go_sem], by simp [go_sem], by simp [go_sem], by simp, (((Below.refl _ _).alloc (Nat.le_refl _) _).alloc (by simp) _).alloc (by simp; omega) _, fun o => by simp [go_sem]⟩
theorem Box5.alloc {w : World} {b : Nat} {v0 v1 v2 v3 v4 : Value} {x : World} (h : Box5 w b v0 v1 v2 v3 v4 x) (o : Obj) : Box5 w b v0 v1 v2 v3 v4 (x.alloc o) := h.below ((Below.refl _ _).alloc (Nat.le_refl _) o)
theorem Box5.drew {w : World} {b : Nat} {v0 v1 v2 v3 v4 : Value} {x : World} (h : Box5 w b v0 v1 v2 v3 v4 x) : Box5 w b v0 v1 v2 v3 v4 x.drew := ⟨h.c0, h.c1, h.c2, h.c3, h.c4, h.lt, h.old.drew, h.fz⟩

/-- Three conditions on a world. -/
structure B3 (A B C : World → Prop) (x : World) : Prop where
  a : A x
  b : B x
  c : C x
theorem B3.below {A B C : World → Prop} {x y : World} (h : B3 A B C x) (hb : Below x.heap.size x y) (ha : A x → Below x.heap.size x y → A y) (hB : B x → Below x.heap.size x y → B y) (hc : C x → Below x.heap.size x y → C y) : B3 A B C y := ⟨ha h.a hb, hB h.b hb, hc h.c hb⟩
theorem toList_eq (s : ByteArray) : s.toList = s.data.toList := ByteArray.toList_eq s
theorem isEmpty_of_pos (s : ByteArray) (h : 0 < s.size) : s.toList.isEmpty = false := by
  rw [toList_eq]
  have : s.data.toList.length = s.size := by simp
  cases hl : s.data.toList with
  | nil => rw [hl] at this; simp at this; omega
  | cons _ _ => rfl
theorem not_nil_of_pos (s : ByteArray) (h : 0 < s.size) : ¬ s.toList = [] := by
  intro e; have := isEmpty_of_pos s h; rw [e] at this; cases this
theorem eq_empty_of_size (s : ByteArray) (h : s.size = 0) : s = ⟨#[]⟩ := by
  rcases s with ⟨⟨l⟩⟩
  cases l with
  | nil => rfl
  | cons _ _ => simp [ByteArray.size] at h

end Go.Proofs.YtocffknoeknabaaGreatDoor
