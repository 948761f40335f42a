/-
  The walks of changelist.movable and Move.
-/
import Derived.Test.YtocffknoeknabaaGreatDoorClD
import Derived.Test.YtocffknoeknabaaGreatDoorCgD
import Derived.Test.YtocffknoeknabaaGreatDoorCgC
import Derived.Test.YtocffknoeknabaaGreatDoorDpA
namespace Go.Proofs.YtocffknoeknabaaGreatDoor
open Go.RowKit

/-- What a call returns: the pending, or none and an error. -/
def PRet (q : Pnd × Int) (w : World) (e : Ending) (w' : World) : Prop := ∃ E ec R rc, e = .returned (.tuple #[pndV q.1 E ec R rc, .int .i64 q.2]) ∧ edtK.In E q.1.edits w' ∧ (∀ b off, E = some ⟨b, off, none⟩ → w.heap.size ≤ b) ∧ Below w.heap.size w w'
theorem PRet.no {q : Pnd × Int} {k : Int} {w w' : World} (h : q = (zeroP, k)) (hb : Below w.heap.size w w') : PRet q w (.returned (.tuple #[.agg #[.int .i64 0, .string ⟨#[]⟩, .string ⟨#[]⟩, .bool false, .slice none 0 0, .slice none 0 0], .int .i64 k])) w' := by
  subst h
  exact ⟨none, 0, none, 0, rfl, RowK.In.nil _ _, (fun _ _ e => by cases e), hb⟩
theorem PRet.yes {q : Pnd × Int} {pn : Int} {pc pt : ByteArray} {ps : Bool} {L : List Edt} {A R : Option Addr} {c rc base : Nat} {w w' : World} (h : q = (⟨pn, pc, pt, ps, L⟩, 0)) (ho : w'.ownsRow base 44 12 (.slice A L.length c) L.length (edtK.flat L)) (hb : Below w.heap.size w w') (hbw : w.heap.size ≤ base) :
    PRet q w (.returned (.tuple #[.agg #[.int .i64 pn, .string pc, .string pt, .bool ps, .slice A L.length c, .slice R 0 rc], .int .i64 0])) w' := by
  subst h
  exact ⟨A, c, R, rc, rfl, RowK.In.of_row ho, (fun b off e => Nat.le_trans hbw (ho.lt b (by rw [e]; rfl)).1), hb⟩
/-- The result's box, written anew with nothing. -/
theorem zero_put {b : Nat} {T : TypeId} {x : World} {v0 v1 v2 v3 v4 v5 : Value} (h : Blk b T [v0, v1, v2, v3, v4, v5] x) (u0 u1 u2 u3 u4 u5 : Value) :
    Blk b T [u0, u1, u2, u3, u4, u5] ((((((x.setCell ⟨b, 0, none⟩ u0).setCell ⟨b, 1, none⟩ u1).setCell ⟨b, 2, none⟩ u2).setCell ⟨b, 3, none⟩ u3).setCell ⟨b, 4, none⟩ u4).setCell ⟨b, 5, none⟩ u5) :=
  (((((h.set 0 u0).set 1 u1).set 2 u2).set 3 u3).set 4 u4).set 5 u5
theorem below_put6 {B b : Nat} {w0 x : World} (h : Below B w0 x) (hb : B ≤ b) (u0 u1 u2 u3 u4 u5 : Value) :
    Below B w0 ((((((x.setCell ⟨b, 0, none⟩ u0).setCell ⟨b, 1, none⟩ u1).setCell ⟨b, 2, none⟩ u2).setCell ⟨b, 3, none⟩ u3).setCell ⟨b, 4, none⟩ u4).setCell ⟨b, 5, none⟩ u5) :=
  (((((h.setCell (p := ⟨b, 0, none⟩) hb u0).setCell (p := ⟨b, 1, none⟩) hb u1).setCell (p := ⟨b, 2, none⟩) hb u2).setCell (p := ⟨b, 3, none⟩) hb u3).setCell (p := ⟨b, 4, none⟩) hb u4).setCell (p := ⟨b, 5, none⟩) hb u5

theorem Bs.of : ∀ {L : List (Nat × TypeId × List Value)} {w w' : World}, Bs L w → (∀ x ∈ L, w'.heap[x.1]? = w.heap[x.1]?) → Bs L w'
  | [], _, _, _, _ => trivial
  | x :: L, _, _, h, hk => ⟨h.1.of (hk x (by simp)), h.2.of (fun y hy => hk y (by simp [hy]))⟩
theorem own_setC {w : World} {base size n : Nat} {e : TypeId} {v : Value} {xs : List Value} (h : w.ownsRow base e size v n xs) {p : Addr} (hp : v.ownBlock ≠ some p.block) (u : Value) : (w.setCell p u).ownsRow base e size v n xs :=
  h.kept (grown_setC w p u) (.inr hp)
theorem own_put6 {x : World} {b base size n : Nat} {e : TypeId} {v : Value} {xs : List Value} (h : x.ownsRow base e size v n xs) (hp : v.ownBlock ≠ some b) (u0 u1 u2 u3 u4 u5 : Value) : ((((((x.setCell ⟨b, 0, none⟩ u0).setCell ⟨b, 1, none⟩ u1).setCell ⟨b, 2, none⟩ u2).setCell ⟨b, 3, none⟩ u3).setCell ⟨b, 4, none⟩ u4).setCell ⟨b, 5, none⟩ u5).ownsRow base e size v n xs :=
  own_setC (own_setC (own_setC (own_setC (own_setC (own_setC h (p := ⟨b, 0, none⟩) hp u0) (p := ⟨b, 1, none⟩) hp u1) (p := ⟨b, 2, none⟩) hp u2) (p := ⟨b, 3, none⟩) hp u3) (p := ⟨b, 4, none⟩) hp u4) (p := ⟨b, 5, none⟩) hp u5
section
variable {b : Nat} {x : World} (u0 u1 u2 u3 u4 u5 u6 u7 u8 u9 u10 u11 : Value)
theorem Blk.far12 {b' : Nat} {T : TypeId} {cs : List Value} (h : Blk b' T cs x) (hne : b' ≠ b) : Blk b' T cs ((((((((((((x.setCell ⟨b, 0, none⟩ u0).setCell ⟨b, 1, none⟩ u1).setCell ⟨b, 2, none⟩ u2).setCell ⟨b, 3, none⟩ u3).setCell ⟨b, 4, none⟩ u4).setCell ⟨b, 5, none⟩ u5).setCell ⟨b, 6, none⟩ u6).setCell ⟨b, 7, none⟩ u7).setCell ⟨b, 8, none⟩ u8).setCell ⟨b, 9, none⟩ u9).setCell ⟨b, 10, none⟩ u10).setCell ⟨b, 11, none⟩ u11) :=
  (((((((((((h.far hne u0).far hne u1).far hne u2).far hne u3).far hne u4).far hne u5).far hne u6).far hne u7).far hne u8).far hne u9).far hne u10).far hne u11
theorem below_put12 {B : Nat} {w0 : World} (h : Below B w0 x) (hb : B ≤ b) : Below B w0 ((((((((((((x.setCell ⟨b, 0, none⟩ u0).setCell ⟨b, 1, none⟩ u1).setCell ⟨b, 2, none⟩ u2).setCell ⟨b, 3, none⟩ u3).setCell ⟨b, 4, none⟩ u4).setCell ⟨b, 5, none⟩ u5).setCell ⟨b, 6, none⟩ u6).setCell ⟨b, 7, none⟩ u7).setCell ⟨b, 8, none⟩ u8).setCell ⟨b, 9, none⟩ u9).setCell ⟨b, 10, none⟩ u10).setCell ⟨b, 11, none⟩ u11) :=
  (((((((((((h.setCell (p := ⟨b, 0, none⟩) hb u0).setCell (p := ⟨b, 1, none⟩) hb u1).setCell (p := ⟨b, 2, none⟩) hb u2).setCell (p := ⟨b, 3, none⟩) hb u3).setCell (p := ⟨b, 4, none⟩) hb u4).setCell (p := ⟨b, 5, none⟩) hb u5).setCell (p := ⟨b, 6, none⟩) hb u6).setCell (p := ⟨b, 7, none⟩) hb u7).setCell (p := ⟨b, 8, none⟩) hb u8).setCell (p := ⟨b, 9, none⟩) hb u9).setCell (p := ⟨b, 10, none⟩) hb u10).setCell (p := ⟨b, 11, none⟩) hb u11
theorem own_put12 {base size n : Nat} {e : TypeId} {v : Value} {xs : List Value} (h : x.ownsRow base e size v n xs) (hp : v.ownBlock ≠ some b) : ((((((((((((x.setCell ⟨b, 0, none⟩ u0).setCell ⟨b, 1, none⟩ u1).setCell ⟨b, 2, none⟩ u2).setCell ⟨b, 3, none⟩ u3).setCell ⟨b, 4, none⟩ u4).setCell ⟨b, 5, none⟩ u5).setCell ⟨b, 6, none⟩ u6).setCell ⟨b, 7, none⟩ u7).setCell ⟨b, 8, none⟩ u8).setCell ⟨b, 9, none⟩ u9).setCell ⟨b, 10, none⟩ u10).setCell ⟨b, 11, none⟩ u11).ownsRow base e size v n xs :=
  own_setC (own_setC (own_setC (own_setC (own_setC (own_setC (own_setC (own_setC (own_setC (own_setC (own_setC (own_setC h (p := ⟨b, 0, none⟩) hp u0) (p := ⟨b, 1, none⟩) hp u1) (p := ⟨b, 2, none⟩) hp u2) (p := ⟨b, 3, none⟩) hp u3) (p := ⟨b, 4, none⟩) hp u4) (p := ⟨b, 5, none⟩) hp u5) (p := ⟨b, 6, none⟩) hp u6) (p := ⟨b, 7, none⟩) hp u7) (p := ⟨b, 8, none⟩) hp u8) (p := ⟨b, 9, none⟩) hp u9) (p := ⟨b, 10, none⟩) hp u10) (p := ⟨b, 11, none⟩) hp u11
end
def movB (d : List Rev) (s : ByteArray) : Option Edt → Bool
  | none => liveD d s
  | some x => x.act != 3 && x.act != 5
set_option maxRecDepth 100000 in
set_option maxHeartbeats 3200000 in
theorem movable_any (d : List Rev) (p : Pnd) (s : ByteArray) (o : Option Edt) (A B E R : Option Addr) (ca nb cb ec rc : Nat) (w : World) (h : revK.In A d w) (hn : d.length ≤ 1000000) (ha : Asc d) :
    Calls Tryz.prog 66 #[pndV p E ec R rc, .agg #[.slice A d.length ca, .slice B nb cb], .string s, (o.getD zeroEdt).val, .bool o.isSome] w fun e w' => e = .returned (.bool (movB d s o)) ∧ Below w.heap.size w w' := by
  have HI := Lib.hid h
  have HL := Lib.hid (fun w h => live_any d s A B ca nb cb w h hn ha)
  have HN := Lib.hid (fun x w => into0_any p x E R ec rc w)
  clear h ha
  cases o with
  | none =>
    unfold movB
    dsimp only [Option.getD_none, Option.isSome_none]
    generalize lastR d s = v at *
    generalize liveD d s = l at *
    unfold pndV pndC
    simp only [zeroEdt, Edt.val, Edt.cells, zeroTy, zeroCon]
    go_enter Tryz.func66, Tryz.ntmps66
    go_wp2_with fail
    refine (HL.out _ (HI.out.below (by (repeat (first | (with_reducible exact Below.refl _ _) | (with_reducible assumption) | (with_reducible refine Below.setCell ?_ ?_ _; rotate_left; focus (first | exact Nat.le_refl _ | (dsimp only; omega))) | (with_reducible refine Below.drew ?_) | (with_reducible refine below_drewN ?_ _) | (with_reducible refine Below.alloc ?_ ?_ _; rotate_left; focus (first | exact Nat.le_refl _ | (simp; done) | (simp; omega)))))))).mono ?_
    rintro e w1 ⟨rfl, hb1⟩
    have HB1 : Hid (Below w.heap.size w w1) := by
      have HB1 := hb1
      show Below _ _ _
      (repeat (first | (with_reducible exact Below.refl _ _) | (with_reducible assumption) | (with_reducible refine Below.setCell ?_ ?_ _; rotate_left; focus (first | exact Nat.le_refl _ | (dsimp only; omega) | (simp; omega))) | (with_reducible refine Below.drew ?_) | (with_reducible refine below_drewN ?_ _) | (with_reducible refine Below.alloc ?_ ?_ _; rotate_left; focus (first | exact Nat.le_refl _ | omega | (simp; done) | (simp; omega))) | (with_reducible refine Below.trans ?_ (HB1.mono ?_); rotate_left; focus (first | exact Nat.le_refl _ | omega | (simp; done) | (simp; omega)))))
    clear hb1
    unfold Rev.val Rev.cells
    go_wp2_with fail
    go_ret
    exact ⟨rfl, HB1.out.alloc HB1.out.size _⟩
  | some x =>
    unfold movB
    dsimp only [Option.getD_some, Option.isSome_some]
    have HNX := Lib.hid (HN.out x)
    clear HN
    obtain ⟨xp, xa, ⟨tb, tk, te, tx⟩, ⟨cs, cz⟩, xb, xs, xm, xf⟩ := x
    unfold pndV pndC Edt.val Edt.cells at *
    dsimp only at HNX ⊢
    by_cases h3 : xa = 3
    · subst h3
      go_enter Tryz.func66, Tryz.ntmps66
      go_wp2_with fail
      go_ret
      exact ⟨rfl, by (repeat (first | (with_reducible exact Below.refl _ _) | (with_reducible assumption) | (with_reducible refine Below.setCell ?_ ?_ _; rotate_left; focus (first | exact Nat.le_refl _ | (dsimp only; omega))) | (with_reducible refine Below.drew ?_) | (with_reducible refine below_drewN ?_ _) | (with_reducible refine Below.alloc ?_ ?_ _; rotate_left; focus (first | exact Nat.le_refl _ | (simp; done) | (simp; omega)))))⟩
    · by_cases h5 : xa = 5
      · subst h5
        go_enter Tryz.func66, Tryz.ntmps66
        go_wp2_with fail
        go_ret
        exact ⟨rfl, by (repeat (first | (with_reducible exact Below.refl _ _) | (with_reducible assumption) | (with_reducible refine Below.setCell ?_ ?_ _; rotate_left; focus (first | exact Nat.le_refl _ | (dsimp only; omega))) | (with_reducible refine Below.drew ?_) | (with_reducible refine below_drewN ?_ _) | (with_reducible refine Below.alloc ?_ ?_ _; rotate_left; focus (first | exact Nat.le_refl _ | (simp; done) | (simp; omega)))))⟩
      · have h3a : (xa == 3) = false := by simpa using h3
        have h5a : (xa == 5) = false := by simpa using h5
        have h3b : (xa != 3) = true := by simpa using h3
        have h5b : (xa != 5) = true := by simpa using h5
        have h3c : decide (xa = 3) = false := by simpa using h3
        have h5c : decide (xa = 5) = false := by simpa using h5
        go_enter Tryz.func66, Tryz.ntmps66
        go_wp2_with fail
        refine (HNX.out _).mono ?_
        rintro e w1 ⟨rfl, hb1⟩
        have HB1 : Hid (Below w.heap.size w w1) := by
          have HB1 := hb1
          show Below _ _ _
          (repeat (first | (with_reducible exact Below.refl _ _) | (with_reducible assumption) | (with_reducible refine Below.setCell ?_ ?_ _; rotate_left; focus (first | exact Nat.le_refl _ | (dsimp only; omega) | (simp; omega))) | (with_reducible refine Below.drew ?_) | (with_reducible refine below_drewN ?_ _) | (with_reducible refine Below.alloc ?_ ?_ _; rotate_left; focus (first | exact Nat.le_refl _ | omega | (simp; done) | (simp; omega))) | (with_reducible refine Below.trans ?_ (HB1.mono ?_); rotate_left; focus (first | exact Nat.le_refl _ | omega | (simp; done) | (simp; omega)))))
        clear hb1
        go_wp2_with fail
        go_ret
        exact ⟨ret_bool (by rw [h3b, h5b]; rfl), HB1.out⟩
end Go.Proofs.YtocffknoeknabaaGreatDoor
