/-
  The walks of the reference's Check of a type, of made and of moved.
-/
import Derived.Test.YtocffknoeknabaaGreatDoorDpG
import Derived.Test.YtocffknoeknabaaGreatDoorCgO
namespace Go.Proofs.YtocffknoeknabaaGreatDoor
open Go.RowKit

theorem rpath_both (p : ByteArray) (w : World) (hs : p.size < 4294967281) (hg : G0 w) :
    Calls Tryz.prog 103 #[.string p] w fun e w' => ∃ A n c, e = .returned (.tuple #[.slice A n c, .bool (validB p.data.toList)]) ∧ Below w.heap.size w w' := by
  cases h : validB p.data.toList
  · exact (rpath_no p w hs hg h).mono fun e w' ⟨he, hb⟩ => ⟨_, _, _, he, hb⟩
  · exact (rpath_yes p w hs hg h).mono fun e w' ⟨he, _, _, hb⟩ => ⟨_, _, _, he, hb⟩

def tyOk (t : FTy) : Bool := decide (1 ≤ t.base ∧ t.base ≤ 3) && (!t.kw || t.base == 1) && !(t.xe && t.base == 3)
def tyErr (t : FTy) : Int := if tyOk t = true then 0 else 90
set_option maxHeartbeats 800000 in
theorem rty_any (t : FTy) (w : World) : Calls Tryz.prog 52 #[t.val] w fun e w' => e = .returned (.int .i64 (tyErr t)) ∧ Below w.heap.size w w' := by
  obtain ⟨tb, tk, te, tx⟩ := t
  unfold FTy.val FTy.cells
  dsimp only
  cases tk
  all_goals cases tx
  all_goals
    generalize hT : tyErr _ = r
    have HT := Lib.hid hT
    clear hT
    go_enter Tryz.func52, Tryz.ntmps52
    go_wp2_with fail
    all_goals
      go_ret
      refine ⟨ret_int ?_, by (repeat (first | (with_reducible exact Below.refl _ _) | (with_reducible assumption) | (with_reducible refine Below.setCell ?_ ?_ _; rotate_left; focus (first | exact Nat.le_refl _ | (dsimp only; omega))) | (with_reducible refine Below.drew ?_) | (with_reducible refine below_drewN ?_ _) | (with_reducible refine Below.alloc ?_ ?_ _; rotate_left; focus (first | exact Nat.le_refl _ | (simp; done) | (simp; omega)))))⟩
      rw [← HT.out]
      unfold tyErr tyOk
      split <;> simp_all <;> omega

def madeR (n : Int) (x : Edt) : Rev := ⟨x.path, x.base + 1, n, x.act, x.ty, x.con, x.src, x.srcn⟩
def chgV (c : Chg) (E : Option Addr) (ec : Nat) (R : Option Addr) (rc : Nat) : Value := .agg #[.int .i64 c.num, .string c.client, .string c.text, .slice E c.edits.length ec, .slice R c.recs.length rc]
set_option maxRecDepth 100000 in
set_option maxHeartbeats 1600000 in
theorem rmade_any (c : Chg) (x : Edt) (E R : Option Addr) (ec rc : Nat) (w : World) (h1 : -9223372036854775808 ≤ x.base) (h2 : x.base < 9223372036854775807) :
    Calls Tryz.prog 69 #[chgV c E ec R rc, x.val] w fun e w' => e = .returned (madeR c.num x).val ∧ Below w.heap.size w w' := by
  obtain ⟨xp, xa, ⟨tb, tk, te, tx⟩, ⟨cs, cz⟩, xb, xs, xm, xf⟩ := x
  unfold chgV madeR Edt.val Edt.cells Rev.val Rev.cells
  dsimp only at h1 h2 ⊢
  go_enter Tryz.func69, Tryz.ntmps69
  go_wp2_with fail
  refine bodyPost_ret (v := (madeR c.num ⟨xp, xa, ⟨tb, tk, te, tx⟩, ⟨cs, cz⟩, xb, xs, xm, xf⟩).val) (by simp [results, Tryz.results69, go_sem]; rfl) rfl ⟨rfl, ?_⟩
  (repeat (first | (with_reducible exact Below.refl _ _) | (with_reducible assumption) | (with_reducible refine Below.setCell ?_ ?_ _; rotate_left; focus (first | exact Nat.le_refl _ | (dsimp only; omega))) | (with_reducible refine Below.drew ?_) | (with_reducible refine below_drewN ?_ _) | (with_reducible refine Below.alloc ?_ ?_ _; rotate_left; focus (first | exact Nat.le_refl _ | (simp; done) | (simp; omega)))))

def pairE (x y : Edt) : Bool := (x.act == 5 && y.act == 4 && y.src.toList == x.path.toList) || (x.act == 4 && y.act == 5 && y.path.toList == x.src.toList)
def movedE (E : List Edt) (x : Edt) : Bool := decide (E.countP (pairE x) = 1) || (x.act != 5 && x.act != 4)
theorem countP_take {α : Type} (f : α → Bool) (l : List α) (k : Nat) (h : k < l.length) : (l.take (k + 1)).countP f = (l.take k).countP f + (if f l[k] = true then 1 else 0) := by
  rw [List.take_succ_eq_append_getElem h, List.countP_append]
  simp [List.countP_cons]
set_option maxRecDepth 100000 in
set_option maxHeartbeats 3200000 in
theorem rmoved_any (c : Chg) (x : Edt) (E R : Option Addr) (ec rc : Nat) (w : World) (h : edtK.In E c.edits w) (hn : c.edits.length ≤ 1000000) :
    Calls Tryz.prog 117 #[chgV c E ec R rc, x.val] w fun e w' => e = .returned (.bool (movedE c.edits x)) ∧ Below w.heap.size w w' := by
  have HI := Lib.hid h
  clear h
  obtain ⟨cnum, ccl, ctx, l, recs⟩ := c
  unfold chgV
  dsimp only at HI hn ⊢
  generalize hM : movedE l x = M
  have HM := Lib.hid hM
  clear hM
  obtain ⟨x0, hx0⟩ : ∃ x0, x0 = x := ⟨x, rfl⟩
  have HX := Lib.hid hx0
  rw [← hx0] at HM
  clear hx0
  obtain ⟨xp, xa, ⟨tb, tk, te, tx⟩, ⟨cs, cz⟩, xb, xs, xm, xf⟩ := x
  have h3 : xa = 5 ∨ xa = 4 ∨ ((xa == 5) = false ∧ (xa == 4) = false) := by
    by_cases h5 : xa = 5
    · exact .inl h5
    · by_cases h4 : xa = 4
      · exact .inr (.inl h4)
      · exact .inr (.inr ⟨by simpa using h5, by simpa using h4⟩)
  rcases h3 with rfl | rfl | ⟨e5, e4⟩
  all_goals
    unfold Edt.val Edt.cells
    dsimp only
    go_enter Tryz.func117, Tryz.ntmps117
    go_wp2_with fail
    go_loopw [5, 11] (fun s i wr => ∃ k n : Nat, i = .int .i64 k ∧ s = .int .i64 n ∧ k ≤ l.length ∧ n ≤ k ∧ Hid ((l.take k).countP (pairE x0) = n) ∧ Below w.heap.size w wr ∧ Blk (w.heap.size + 1) 44 x0.cells wr) (fun _ i _ => l.length - (intOf i).toNat)
    case atStart => exact ⟨0, 0, rfl, rfl, Nat.zero_le _, Nat.zero_le _, rfl, by (repeat (first | (with_reducible exact Below.refl _ _) | (with_reducible assumption) | (with_reducible refine Below.setCell ?_ ?_ _; rotate_left; focus (first | exact Nat.le_refl _ | (dsimp only; omega))) | (with_reducible refine Below.drew ?_) | (with_reducible refine below_drewN ?_ _) | (with_reducible refine Below.alloc ?_ ?_ _; rotate_left; focus (first | exact Nat.le_refl _ | (simp; done) | (simp; omega))))), by rw [HX.out]; exact Blk.new1 _ _ _ _⟩
    case round =>
      obtain ⟨k, n, rfl, rfl, hk, hnk, HN, hB, K1⟩ := hrel
      have hz := K1.lt
      have hz0 := hB.size
      have K2 := K1
      rw [HX.out] at K2
      simp only [Edt.cells] at K2
      obtain ⟨q0, q1, q2, q3, q4, q5, q6, q7, q8, q9, q10, q11⟩ := K2.c12
      clear K2
      by_cases hlt : k < l.length
      · obtain ⟨b, off, rfl, hbl, hat⟩ := HI.out (by omega)
        have hat := hat.below hB hbl
        have hg := List.getElem?_eq_getElem hlt
        have HS := Lib.hid (countP_take (pairE x0) l k hlt)
        generalize hq : l[k] = y at *
        (have hcv := fun j (u : Value) (hj : (y).cells[j]? = some u) => ((hat).get hg hj); have c0 := hcv 0 _ rfl; have c1 := hcv 1 _ rfl; have c2 := hcv 2 _ rfl; have c3 := hcv 3 _ rfl; have c4 := hcv 4 _ rfl; have c5 := hcv 5 _ rfl; have c6 := hcv 6 _ rfl; have c7 := hcv 7 _ rfl; have c8 := hcv 8 _ rfl; have c9 := hcv 9 _ rfl; have c10 := hcv 10 _ rfl; have c11 := hcv 11 _ rfl; have e12 : edtK.n = 12 := rfl; simp only [e12, Nat.add_zero] at c0 c1 c2 c3 c4 c5 c6 c7 c8 c9 c10 c11; clear hcv e12)
        have HB := Lib.hid hB
        have HK1 := Lib.hid K1
        clear hat hg hq K1 hB
        cases hp : pairE x0 y
        · have HP := Lib.hid hp
          have HS1 : Hid ((l.take (k + 1)).countP (pairE x0) = n) := by show _ = _; rw [HS.out, HN.out, hp]; rfl
          clear hp HS
          go_wp2_with fail
          all_goals first
            | (go_roundw
               case rel => exact ⟨k + 1, n, by go_num, rfl, by omega, by omega, HS1, HB.out.alloc (by omega) _, HK1.out.alloc _⟩
               case measure => simp [intOf]; omega)
            | (exfalso
               have hp := HP.out
               rw [HX.out] at hp
               simp_all [pairE])
        · have HP := Lib.hid hp
          have HS1 : Hid ((l.take (k + 1)).countP (pairE x0) = n + 1) := by show _ = _; rw [HS.out, HN.out, hp]; rfl
          clear hp HS
          go_wp2_with fail
          all_goals first
            | (go_roundw
               case rel => exact ⟨k + 1, n + 1, by go_num, by go_num, by omega, by omega, HS1, HB.out.alloc (by omega) _, HK1.out.alloc _⟩
               case measure => simp [intOf]; omega)
            | (exfalso
               have hp := HP.out
               rw [HX.out] at hp
               simp_all [pairE])
      · obtain rfl : k = l.length := by omega
        have HN1 : Hid (l.countP (pairE x0) = n) := by have := HN.out; rwa [List.take_length] at this
        have HB := Lib.hid hB
        clear hlt HN K1 hB
        go_wp2_with fail
        all_goals
          go_ret
          refine ⟨ret_bool ?_, HB.out⟩
          rw [← HM.out]
          unfold movedE
          rw [HN1.out, HX.out]
          clear hz hz0 q0 q1 q2 q3 q4 q5 q6 q7 q8 q9 q10 q11
          by_cases hn1 : n = 1
          · have hn2 : (n : Int) = 1 := by omega
            simp_all
          · have hn2 : ¬ ((n : Int) = 1) := by omega
            first
              | omega
              | (simp [hn1]; done)
              | (simp [hn1, hn2] at * <;> simp_all)
end Go.Proofs.YtocffknoeknabaaGreatDoor
