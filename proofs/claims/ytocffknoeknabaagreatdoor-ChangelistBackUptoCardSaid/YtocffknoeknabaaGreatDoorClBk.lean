/-
  ChangelistBack returns true for all changes and calls whose texts are not longer than 1048576 bytes; what was in memory before the call stays as it was (printed by mkback.py).
-/
import Derived.Test.YtocffknoeknabaaGreatDoorClMx
import Derived.Test.YtocffknoeknabaaGreatDoorClPd
import Derived.Test.YtocffknoeknabaaGreatDoorCgK
import Derived.Test.YtocffknoeknabaaGreatDoorCgJ
import Derived.Test.YtocffknoeknabaaGreatDoorCgH
namespace Go.Proofs.YtocffknoeknabaaGreatDoor
open Go.RowKit

def zeroOpr : Opr := ⟨0, ⟨#[]⟩, ⟨#[]⟩, zeroTy, zeroCon⟩
theorem Tryz.infoOp18 : (Tryz.prog.info? 30).map (fun i => (i.zero, i.size, i.bytes)) = some (some zeroOpr.val, 9, 72) := by kernel_rfl
theorem wpList_append_any_g {P : Program} {ops : Array Oper} {rest : List Oper} {o : Oper} {a : Act} {w : World} {Q : Exit → Act → World → Prop} (hgd : Region.wanted o (yielded ops a.tmps) = true) (s x : Operand) (t : TypeId)
    (ho : o.op = .call { callee := .builtin .append, args := #[s, x], argTypes := #[t, t] })
    (base : Nat) (e : TypeId) (i : TypeInfo) (z : Value) (size bytes : Nat) (ht : P.underlying t = some (.slice e)) (hi : P.info? e = some i) (hz : i.zero = some z)
    (hsize : i.size = size) (hby : i.bytes = bytes) (hzs : z.cells.size = size) (hsz : 0 < size)
    (v : Value) (n : Nat) (xs : List Value) (hs : a.eval s = v) (hown : w.ownsRow base e size v n xs)
    (A : Option Addr) (m c : Nat) (news : List Value) (hx : a.eval x = .slice A m c) (hl : news.length = m * size) (hnews : 0 < m → ∃ ad, A = some ad ∧ ∀ j u, news[j]? = some u → w.cell? (ad.add j) = some u) (h1 : ∀ u ∈ news, u.oneCell' = true)
    (h63 : n + m ≤ maxLen) (hbytes : (n + m) * bytes ≤ 140737488355328) (hbase : base ≤ w.heap.size)
    (h : ∀ v' w', w'.ownsRow base e size v' (n + m) (xs ++ news) → w.grownBy w' v.ownBlock → wpList P ops Q rest (a.put o.dst v') w') : wpList P ops Q (o :: rest) a w :=
  wpList_step fun _ hK => by
    rw [if_pos hgd]
    exact wp_append_any s x t ho base e i z size bytes ht hi hz hsize hby hzs hsz v n xs hs hown A m c news hx hl hnews h1 h63 hbytes hbase fun v' w' h2 h3 => hK _ _ (h v' w' h2 h3)
theorem fun_and9 {α : Type} {p0 p1 p2 p3 p4 p5 p6 p7 p8 : α → Prop} (h : ∀ y, p0 y ∧ p1 y ∧ p2 y ∧ p3 y ∧ p4 y ∧ p5 y ∧ p6 y ∧ p7 y ∧ p8 y) : (∀ y, p0 y) ∧ (∀ y, p1 y) ∧ (∀ y, p2 y) ∧ (∀ y, p3 y) ∧ (∀ y, p4 y) ∧ (∀ y, p5 y) ∧ (∀ y, p6 y) ∧ (∀ y, p7 y) ∧ (∀ y, p8 y) :=
  ⟨fun y => (h y).1, fun y => (h y).2.1, fun y => (h y).2.2.1, fun y => (h y).2.2.2.1, fun y => (h y).2.2.2.2.1, fun y => (h y).2.2.2.2.2.1, fun y => (h y).2.2.2.2.2.2.1, fun y => (h y).2.2.2.2.2.2.2.1, fun y => (h y).2.2.2.2.2.2.2.2⟩
set_option maxRecDepth 100000 in
set_option maxHeartbeats 3200000 in
theorem fewB_any (l : List Opr) (A : Option Addr) (c : Nat) (w : World) (hA : oprK.In A l w) (hn : l.length ≤ 1048577) (hs : ∀ o ∈ l, o.s.size ≤ 1048576 ∧ o.t.size ≤ 1048576) :
    Calls Tryz.prog 7 #[.slice A l.length c] w (FewRet l w) := by
  have HA := Lib.hid hA
  have HS := Lib.hid hs
  clear hA hs
  go_enter Tryz.func7, Tryz.ntmps7
  go_wp2_with fail
  go_loopw [7] (fun i wr => ∃ k : Nat, i = .int .i64 k ∧ k ≤ l.length ∧ Below w.heap.size w wr ∧ Hid (∀ o ∈ l.take k, o.s.size + o.t.size ≤ 500)) (fun i _ => l.length - (intOf i).toNat)
  case atStart => exact ⟨0, rfl, Nat.zero_le _, Below.refl _ _, fun x h => by simp at h⟩
  case round =>
    obtain ⟨k, rfl, hk, hB, HF⟩ := hrel
    have HB := Lib.hid hB
    clear hB
    by_cases hlt : k < l.length
    · obtain ⟨b, off, rfl, hbl, hat⟩ := (HA.out.below HB.out) (by omega)
      have hg := List.getElem?_eq_getElem hlt
      have hsz := HS.out l[k] (List.getElem_mem hlt)
      have HT : Hid (l[k].s.size + l[k].t.size ≤ 500 → ∀ o ∈ l.take (k + 1), o.s.size + o.t.size ≤ 500) := fun h o ho => by
        rw [List.take_succ_eq_append_getElem hlt] at ho
        rcases List.mem_append.1 ho with ho | ho
        · exact HF.out o ho
        · rw [List.mem_singleton] at ho
          rw [ho]
          exact h
      generalize hx : l[k] = x at *
      have hcv := fun j (u : Value) (hj : x.cells[j]? = some u) => (hat.get hg hj)
      have c0 := hcv 0 _ rfl
      have c1 := hcv 1 _ rfl
      have c2 := hcv 2 _ rfl
      have c3 := hcv 3 _ rfl
      have c4 := hcv 4 _ rfl
      have c5 := hcv 5 _ rfl
      have c6 := hcv 6 _ rfl
      have c7 := hcv 7 _ rfl
      have c8 := hcv 8 _ rfl
      have e9 : oprK.n = 9 := rfl
      simp only [e9, Nat.add_zero] at c0 c1 c2 c3 c4 c5 c6 c7 c8
      clear hcv e9 hat hg hx
      by_cases h5 : x.s.size + x.t.size ≤ 500
      · have h5' : ¬ (500 : Int) < (x.s.size : Int) + (x.t.size : Int) := by omega
        have HTT := Lib.hid (HT.out h5)
        clear HT h5
        go_wp2_with fail
        go_roundw
        case rel => exact ⟨k + 1, by go_num, by omega, HB.out.alloc HB.out.size _, HTT.out⟩
        case measure => simp [intOf]; omega
      · have h5' : (500 : Int) < (x.s.size : Int) + (x.t.size : Int) := by omega
        clear HT h5
        go_wp2_with fail
        go_ret
        exact ⟨false, rfl, fun h => absurd h (by decide), HB.out.alloc HB.out.size _⟩
    · obtain rfl : k = l.length := by omega
      have HFF : Hid (∀ o ∈ l, o.s.size + o.t.size ≤ 500) := by have := HF.out; rwa [List.take_length] at this
      go_wp2_with fail
      go_ret
      exact ⟨decide ((l.length : Int) ≤ 80), rfl, fun h => ⟨by have := of_decide_eq_true h; omega, HFF.out⟩, HB.out⟩
set_option maxRecDepth 100000 in
set_option maxHeartbeats 12800000 in
theorem back_any (l : List Chg) (ops : List Opr) (o : Opr) (A F : Option Addr) (ca fc : Nat) (w : World) (hA : ChsIn A l w) (hb : ChBnd l) (hF : oprK.In F ops w) (hn : ops.length ≤ 1048576) (ho : ∀ o ∈ ops, o.s.size ≤ 1048576 ∧ o.t.size ≤ 1048576) (hos : o.s.size ≤ 1048576) (hot : o.t.size ≤ 1048576) (hg : G0 w) :
    Calls Tryz.prog 3 #[.slice A l.length ca, .slice F ops.length fc, o.val] w fun e w' => e = .returned (.bool true) ∧ Below w.heap.size w w' := by
  have HSM := Lib.hid (fun x hx => rsmall_any l A ca x (hA.below hx) hb)
  have HBU := Lib.hid (fun x (hx : Below w.heap.size w x) => rbuild_any l A ca x (hA.below hx) (by have := hb.len; omega) (fun c hc => hb.sz hc) (hg.below hx))
  have HFW := Lib.hid (fun A c x h => fewB_any (ops ++ [o]) A c x h (by simp; omega) (fun y hy => by
    rcases List.mem_append.1 hy with hy | hy
    · exact ho y hy
    · rw [List.mem_singleton] at hy
      rw [hy]
      exact ⟨hos, hot⟩))
  have HBT := Lib.hid (fun d A B ca nb cb x (hx : Below w.heap.size w x) h1 h2 h3 h4 => built_any d ops A B F ca nb cb fc x h1 (hF.below hx) h2 h3 h4 ho (hg.below hx))
  obtain ⟨i0, hi0, hz0, hz1, hz2⟩ := info_parts Tryz.infoOp18
  have HIF := Lib.hid hF
  clear hA hb hF ho hg
  unfold Opr.val Opr.cells
  go_enter Tryz.func3, Tryz.ntmps3
  go_upto_region 1 with fail
  generalize hw1 : World.alloc _ (.cells #[.int .i64 o.kind, .string o.s, .string o.t, .int .i64 o.ty.base, .bool o.ty.kw, .bool o.ty.ex, .bool o.ty.xe, .int .u64 o.con.sum, .int .i64 o.con.size] 30) = w1
  have HM1 : Hid (Bs [(w.heap.size, 30, [.int .i64 o.kind, .string o.s, .string o.t, .int .i64 o.ty.base, .bool o.ty.kw, .bool o.ty.ex, .bool o.ty.xe, .int .u64 o.con.sum, .int .i64 o.con.size])] w1) := by
    show Bs _ _
    rw [← hw1]
    exact ⟨Blk.new _ _ _, trivial⟩
  have HB1 : Hid (Below w.heap.size w w1) := by
    show Below _ _ _
    rw [← hw1]
    (repeat (first | (with_reducible exact Below.refl _ _) | (with_reducible assumption) | (with_reducible refine Below.setCell ?_ ?_ _; rotate_left; focus (first | exact Nat.le_refl _ | (dsimp only; omega))) | (with_reducible refine Below.drew ?_) | (with_reducible refine below_drewN ?_ _) | (with_reducible refine Below.alloc ?_ ?_ _; rotate_left; focus (first | exact Nat.le_refl _ | (simp; done) | (simp; omega)))))
  clear hw1
  have hS : Bs [(w.heap.size, 30, [.int .i64 o.kind, .string o.s, .string o.t, .int .i64 o.ty.base, .bool o.ty.kw, .bool o.ty.ex, .bool o.ty.xe, .int .u64 o.con.sum, .int .i64 o.con.size])] w1.drew := HM1.out.drew
  have HBD := Lib.hid HB1.out.drew
  -- MARKA
  (refine wp_region_mixp (S := Bs [(w.heap.size, 30, [.int .i64 o.kind, .string o.s, .string o.t, .int .i64 o.ty.base, .bool o.ty.kw, .bool o.ty.ex, .bool o.ty.xe, .int .u64 o.con.sum, .int .i64 o.con.size])]) [10, 11] [([], 9)] [] 8 7 [([2, 3, 4, 6], 5)] [([0], 1)] (by kernel_rfl) (by kernel_rfl) (by intro c a d v w h; cases d <;> exact h) hS ?_; have hN : Nonempty (Held (Bs [(w.heap.size, 30, [.int .i64 o.kind, .string o.s, .string o.t, .int .i64 o.ty.base, .bool o.ty.kw, .bool o.ty.ex, .bool o.ty.xe, .int .u64 o.con.sum, .int .i64 o.con.size])])) := ⟨⟨_, hS⟩⟩)
  generalize hwq : w1.drew = wq at *
  have HS := Lib.hid hS
  clear hS hwq HM1 HB1
  (unfold wpMixP wpRd; (repeat (first | simp only [List.filterMap_cons] | simp only [List.filterMap_nil] | simp only [List.getElem?_toArray] | simp only [List.getElem?_cons_zero] | simp only [List.getElem?_cons_succ])); (try dsimp only); change wpQuiet _ _ _ _ (_ :: []) _; (repeat (go_big_quiet_step (fail))); refine wpQuiet_nil ?_; (try dsimp only))
  -- MARKB
  (unfold wpAct; (repeat (first | simp only [List.getElem?_toArray] | simp only [List.getElem?_cons_zero] | simp only [List.getElem?_cons_succ])); (try dsimp only))
  go_wp2_with fail
  refine (HSM.out _ HBD.out).mono ?_
  rintro e w2 ⟨sm, rfl, -, hb2⟩
  have HS2 := Lib.hid (HS.out.below hb2)
  have HB2 := Lib.hid (HBD.out.trans (hb2.mono HBD.out.size))
  clear hb2 HS HBD
  go_wp2_with fail
  refine ⟨HS2.out, ?_⟩
  unfold wpMixP
  obtain ⟨o0, o1, o2, o3, o4, o5, o6, o7, o8⟩ := fun_and9 (fun y : Held (Bs [(w.heap.size, 30, [.int .i64 o.kind, .string o.s, .string o.t, .int .i64 o.ty.base, .bool o.ty.kw, .bool o.ty.ex, .bool o.ty.xe, .int .u64 o.con.sum, .int .i64 o.con.size])]) => y.ok.1.c9)
  cases sm
  ·
    (unfold wpMixF wpRd; (repeat (first | simp only [List.filterMap_cons] | simp only [List.filterMap_nil] | simp only [List.getElem?_toArray] | simp only [List.getElem?_cons_zero] | simp only [List.getElem?_cons_succ])); (try dsimp only); change wpQuiet _ _ _ _ (_ :: _ :: _ :: _ :: []) _; (repeat (go_big_quiet_step (fail))); refine wpQuiet_nil ?_; (try dsimp only))
    clear o0 o1 o2 o3 o4 o5 o6 o7 o8
    refine ⟨?_, ?_⟩
    · (unfold wpAct; (repeat (first | simp only [List.getElem?_toArray] | simp only [List.getElem?_cons_zero] | simp only [List.getElem?_cons_succ])); (try dsimp only))
      go_wp2_with fail
      refine ⟨HS2.out, ?_⟩
      (unfold wpMixF wpRd; (repeat (first | simp only [List.filterMap_cons] | simp only [List.filterMap_nil] | simp only [List.getElem?_toArray] | simp only [List.getElem?_cons_zero] | simp only [List.getElem?_cons_succ])); (try dsimp only); change wpQuiet _ _ _ _ ([]) _; (repeat (go_big_quiet_step (fail))); refine wpQuiet_nil ?_; (try dsimp only))
      (unfold wpAct; (repeat (first | simp only [List.getElem?_toArray] | simp only [List.getElem?_cons_zero] | simp only [List.getElem?_cons_succ])); (try dsimp only))
      go_wp2_with fail
      refine ⟨HS2.out, ?_⟩
      (unfold wpMix wpRd; (repeat (first | simp only [List.filterMap_cons] | simp only [List.filterMap_nil] | simp only [List.getElem?_toArray] | simp only [List.getElem?_cons_zero] | simp only [List.getElem?_cons_succ])); (try dsimp only); change wpQuiet _ _ _ _ ([]) _; (repeat (go_big_quiet_step (fail))); refine wpQuiet_nil ?_; (try dsimp only))
      ((repeat (first | simp only [List.getElem?_toArray] | simp only [List.getElem?_cons_zero] | simp only [List.getElem?_cons_succ])); (try dsimp only))
      go_wp2_with fail
      refine ⟨HS2.out, ?_⟩
      (unfold wpMix wpRd; (repeat (first | simp only [List.filterMap_cons] | simp only [List.filterMap_nil] | simp only [List.getElem?_toArray] | simp only [List.getElem?_cons_zero] | simp only [List.getElem?_cons_succ])); (try dsimp only); change wpQuiet _ _ _ _ ([]) _; (repeat (go_big_quiet_step (fail))); refine wpQuiet_nil ?_; (try dsimp only))
      ((repeat (first | simp only [List.getElem?_toArray] | simp only [List.getElem?_cons_zero] | simp only [List.getElem?_cons_succ])); (try dsimp only))
      go_wp2_with fail
      refine ⟨HS2.out, ?_⟩
      (unfold wpMix wpRd; (repeat (first | simp only [List.filterMap_cons] | simp only [List.filterMap_nil] | simp only [List.getElem?_toArray] | simp only [List.getElem?_cons_zero] | simp only [List.getElem?_cons_succ])); (try dsimp only); change wpQuiet _ _ _ _ (_ :: _ :: []) _; (repeat (go_big_quiet_step (fail))); refine wpQuiet_nil ?_; (try dsimp only))
      -- MARKC
      go_wp2_with (go_at_call 8; refine (awake18_any _).mono ?_; rintro e w9 ⟨rfl, HB9⟩)
      go_ret
      exact ⟨rfl, HB2.out.trans (HB9.mono HB2.out.size)⟩
    · (unfold wpAct; (repeat (first | simp only [List.getElem?_toArray] | simp only [List.getElem?_cons_zero] | simp only [List.getElem?_cons_succ])); (try dsimp only))
      go_wp2_with fail
      refine ⟨HS2.out, ?_⟩
      (unfold wpMix wpRd; (repeat (first | simp only [List.filterMap_cons] | simp only [List.filterMap_nil] | simp only [List.getElem?_toArray] | simp only [List.getElem?_cons_zero] | simp only [List.getElem?_cons_succ])); (try dsimp only); change wpQuiet _ _ _ _ ([]) _; (repeat (go_big_quiet_step (fail))); refine wpQuiet_nil ?_; (try dsimp only))
      ((repeat (first | simp only [List.getElem?_toArray] | simp only [List.getElem?_cons_zero] | simp only [List.getElem?_cons_succ])); (try dsimp only))
      go_wp2_with fail
      refine ⟨HS2.out, ?_⟩
      (unfold wpMix wpRd; (repeat (first | simp only [List.filterMap_cons] | simp only [List.filterMap_nil] | simp only [List.getElem?_toArray] | simp only [List.getElem?_cons_zero] | simp only [List.getElem?_cons_succ])); (try dsimp only); change wpQuiet _ _ _ _ ([]) _; (repeat (go_big_quiet_step (fail))); refine wpQuiet_nil ?_; (try dsimp only))
      ((repeat (first | simp only [List.getElem?_toArray] | simp only [List.getElem?_cons_zero] | simp only [List.getElem?_cons_succ])); (try dsimp only))
      go_wp2_with fail
      refine ⟨HS2.out, ?_⟩
      (unfold wpMix wpRd; (repeat (first | simp only [List.filterMap_cons] | simp only [List.filterMap_nil] | simp only [List.getElem?_toArray] | simp only [List.getElem?_cons_zero] | simp only [List.getElem?_cons_succ])); (try dsimp only); change wpQuiet _ _ _ _ ([]) _; (repeat (go_big_quiet_step (fail))); refine wpQuiet_nil ?_; (try dsimp only))
      ((repeat (first | simp only [List.getElem?_toArray] | simp only [List.getElem?_cons_zero] | simp only [List.getElem?_cons_succ])); (try dsimp only))
      go_wp2_with fail
      refine ⟨HS2.out, ?_⟩
      (unfold wpMix wpRd; (repeat (first | simp only [List.filterMap_cons] | simp only [List.filterMap_nil] | simp only [List.getElem?_toArray] | simp only [List.getElem?_cons_zero] | simp only [List.getElem?_cons_succ])); (try dsimp only); change wpQuiet _ _ _ _ (_ :: _ :: []) _; (repeat (go_big_quiet_step (fail))); refine wpQuiet_nil ?_; (try dsimp only))
      go_wp2_with (go_at_call 8; refine (awake18_any _).mono ?_; rintro e w9 ⟨rfl, HB9⟩)
      go_ret
      exact ⟨rfl, HB2.out.trans (HB9.mono HB2.out.size)⟩
  · (unfold wpMixF wpRd; (repeat (first | simp only [List.filterMap_cons] | simp only [List.filterMap_nil] | simp only [List.getElem?_toArray] | simp only [List.getElem?_cons_zero] | simp only [List.getElem?_cons_succ])); (try dsimp only); change wpQuiet _ _ _ _ (_ :: _ :: _ :: _ :: []) _; (repeat (go_big_quiet_step (fail))); refine wpQuiet_nil ?_; (try dsimp only))
    clear o0 o1 o2 o3 o4 o5 o6 o7 o8
    have HNW := Lib.hid (HIF.out.below HB2.out).news
    have hszb := HB2.out.size
    have hlw := HS2.out.1.lt
    refine ⟨?_, ?_⟩
    · (unfold wpAct; (repeat (first | simp only [List.getElem?_toArray] | simp only [List.getElem?_cons_zero] | simp only [List.getElem?_cons_succ])); (try dsimp only))
      go_wp2_with (at_builtin; go_loud (refine wpList_append_any_g (by first | rfl | simp [Region.wanted, yielded, go_sem]) _ _ 23 rfl w2.heap.size 30 i0 zeroOpr.val 9 72 Tryz.underlying23 hi0 hz0 hz1 hz2 rfl (by decide) (.slice none 0 0) 0 [] rfl ⟨rfl, .inl ⟨rfl, rfl⟩⟩ F ops.length fc (oprK.flat ops) rfl (oprK.flat_len ops) HNW.out (oprK.flat_ones ops) (by unfold maxLen; omega) (by omega) (Nat.le_refl _) ?_); intro v3 w3 ho3 hg3)
      simp only [Nat.zero_add, List.nil_append] at ho3
      obtain ⟨A3, c3, rfl⟩ := own_slice ho3
      have HO3 := Lib.hid ho3
      have HS3 := Lib.hid (HS2.out.grown hg3 (fun x _ e => by cases e))
      have HB3 := Lib.hid (HB2.out.grown hg3 HB2.out.size (fun j e => by cases e))
      have hsz3 := hg3.size
      clear ho3 hg3 HS2 HB2 HNW
      refine ⟨HS3.out, ?_⟩
      (unfold wpMixF wpRd; (repeat (first | simp only [List.filterMap_cons] | simp only [List.filterMap_nil] | simp only [List.getElem?_toArray] | simp only [List.getElem?_cons_zero] | simp only [List.getElem?_cons_succ])); (try dsimp only); change wpQuiet _ _ _ _ ([]) _; (repeat (go_big_quiet_step (fail))); refine wpQuiet_nil ?_; (try dsimp only))
      (unfold wpAct; (repeat (first | simp only [List.getElem?_toArray] | simp only [List.getElem?_cons_zero] | simp only [List.getElem?_cons_succ])); (try dsimp only))
      go_wp2_with fail
      have HS4 := Lib.hid (HS3.out.alloc (.cells ([.int .i64 o.kind, .string o.s, .string o.t, .int .i64 o.ty.base, .bool o.ty.kw, .bool o.ty.ex, .bool o.ty.xe, .int .u64 o.con.sum, .int .i64 o.con.size] : List Value).toArray 30))
      have HB4 := Lib.hid (HB3.out.alloc HB3.out.size (.cells ([.int .i64 o.kind, .string o.s, .string o.t, .int .i64 o.ty.base, .bool o.ty.kw, .bool o.ty.ex, .bool o.ty.xe, .int .u64 o.con.sum, .int .i64 o.con.size] : List Value).toArray 30))
      have HO4 := Lib.hid (HO3.out.alloc (.cells ([.int .i64 o.kind, .string o.s, .string o.t, .int .i64 o.ty.base, .bool o.ty.kw, .bool o.ty.ex, .bool o.ty.xe, .int .u64 o.con.sum, .int .i64 o.con.size] : List Value).toArray 30))
      have HLT := Lib.hid (RowK.lit oprK w3 o 30)
      have hsz4 : w3.heap.size < (w3.alloc (.cells ([.int .i64 o.kind, .string o.s, .string o.t, .int .i64 o.ty.base, .bool o.ty.kw, .bool o.ty.ex, .bool o.ty.xe, .int .u64 o.con.sum, .int .i64 o.con.size] : List Value).toArray 30)).heap.size := by simp
      refine ⟨HS4.out, ?_⟩
      generalize hw4 : World.alloc w3 (.cells #[.int .i64 o.kind, .string o.s, .string o.t, .int .i64 o.ty.base, .bool o.ty.kw, .bool o.ty.ex, .bool o.ty.xe, .int .u64 o.con.sum, .int .i64 o.con.size] 30) = w4 at *
      clear HS3 HB3 HO3
      have HLT4 : Hid (∀ j u, o.cells[j]? = some u → w4.cell? ((⟨w3.heap.size, 0, none⟩ : Addr).add j) = some u) := fun j u hu => by rw [← hw4]; exact HLT.out.1 j u hu
      clear hw4
      (unfold wpMix wpRd; (repeat (first | simp only [List.filterMap_cons] | simp only [List.filterMap_nil] | simp only [List.getElem?_toArray] | simp only [List.getElem?_cons_zero] | simp only [List.getElem?_cons_succ])); (try dsimp only); change wpQuiet _ _ _ _ ([]) _; (repeat (go_big_quiet_step (fail))); refine wpQuiet_nil ?_; (try dsimp only))
      ((repeat (first | simp only [List.getElem?_toArray] | simp only [List.getElem?_cons_zero] | simp only [List.getElem?_cons_succ])); (try dsimp only))
      -- MARKD
      go_wp2_with (at_builtin; go_loud (refine wpList_append_any_g (by first | rfl | simp [Region.wanted, yielded, go_sem]) _ _ 23 rfl w2.heap.size 30 i0 zeroOpr.val 9 72 Tryz.underlying23 hi0 hz0 hz1 hz2 rfl (by decide) (.slice A3 ops.length c3) ops.length (oprK.flat ops) rfl HO4.out (some ⟨w3.heap.size, 0, none⟩) 1 1 o.cells rfl rfl (fun _ => ⟨_, rfl, HLT4.out⟩) HLT.out.2 (by unfold maxLen; omega) (by omega) (by omega) ?_); intro v5 w5 ho5 hg5)
      rw [show o.cells = oprK.cells o from rfl, RowK.flat_snoc] at ho5
      obtain ⟨A5, c5, rfl⟩ := own_slice ho5
      have HI5 := Lib.hid (RowK.In.of_row (R := oprK) ho5)
      have HS5 := Lib.hid (HS4.out.grown hg5 (fun x hx e => by
        have := (HO4.out.lt _ e).1
        rw [List.mem_singleton] at hx
        subst hx
        have := HS4.out.1.lt
        dsimp only at *
        omega))
      have HB5 := Lib.hid (HB4.out.grown hg5 HB4.out.size (fun j e => by have := (HO4.out.lt j e).1; omega))
      have HF5 := Lib.hid (HFW.out A5 c5 w5 HI5.out)
      rw [List.length_append, List.length_singleton] at HF5
      clear ho5 hg5 HS4 HB4 HO4 HLT HLT4
      refine ⟨HS5.out, ?_⟩
      (unfold wpMix wpRd; (repeat (first | simp only [List.filterMap_cons] | simp only [List.filterMap_nil] | simp only [List.getElem?_toArray] | simp only [List.getElem?_cons_zero] | simp only [List.getElem?_cons_succ])); (try dsimp only); change wpQuiet _ _ _ _ ([]) _; (repeat (go_big_quiet_step (fail))); refine wpQuiet_nil ?_; (try dsimp only))
      ((repeat (first | simp only [List.getElem?_toArray] | simp only [List.getElem?_cons_zero] | simp only [List.getElem?_cons_succ])); (try dsimp only))
      go_wp2_with fail
      refine HF5.out.mono ?_
      rintro e w6 ⟨fb, rfl, hfw, hb6⟩
      have HS6 := Lib.hid (HS5.out.below hb6)
      have HB6 := Lib.hid (HB5.out.trans (hb6.mono HB5.out.size))
      clear hb6 HS5 HB5 HF5 HI5
      go_wp2_with fail
      refine ⟨HS6.out, ?_⟩
      (unfold wpMix wpRd; (repeat (first | simp only [List.filterMap_cons] | simp only [List.filterMap_nil] | simp only [List.getElem?_toArray] | simp only [List.getElem?_cons_zero] | simp only [List.getElem?_cons_succ])); (try dsimp only); change wpQuiet _ _ _ _ (_ :: _ :: []) _; (repeat (go_big_quiet_step (fail))); refine wpQuiet_nil ?_; (try dsimp only))
      -- MARKE
      cases fb
      ·
        clear hfw
        go_wp2_with (go_at_call 8; refine (awake18_any _).mono ?_; rintro e w9 ⟨rfl, HB9⟩)
        go_ret
        exact ⟨rfl, HB6.out.trans (HB9.mono HB6.out.size)⟩
      have HFL := Lib.hid (hfw rfl)
      clear hfw
      -- MARKF
      go_wp2_with fail
      refine (HBU.out _ HB6.out).mono ?_
      rintro e w7 ⟨d, DA, DB, da, db, rfl, hblt, hIA, hIB, hb7⟩
      have hok := hblt.ok
      have hRl : d.revs.length ≤ 512 := hok.few
      have HAS := Lib.hid hok.asc
      have HM8 : Hid (Bs [(w7.heap.size, 37, [.slice DA d.revs.length da, .slice DB d.recs.length db]), (w.heap.size, 30, [.int .i64 o.kind, .string o.s, .string o.t, .int .i64 o.ty.base, .bool o.ty.kw, .bool o.ty.ex, .bool o.ty.xe, .int .u64 o.con.sum, .int .i64 o.con.size])] (w7.alloc (.cells [.slice DA d.revs.length da, .slice DB d.recs.length db].toArray 37))) := Bs.cons (Blk.new w7 37 [.slice DA d.revs.length da, .slice DB d.recs.length db]) ((HS6.out.below hb7).alloc _)
      have HB8 : Hid (Below w.heap.size w (w7.alloc (.cells [.slice DA d.revs.length da, .slice DB d.recs.length db].toArray 37))) := (HB6.out.trans (hb7.mono HB6.out.size)).alloc (HB6.out.trans (hb7.mono HB6.out.size)).size _
      have HI8 := Lib.hid (hIA.below ((Below.refl _ _).alloc (Nat.le_refl _) (.cells [.slice DA d.revs.length da, .slice DB d.recs.length db].toArray 37)))
      clear hb7 HS6 HB6 hIA hIB hblt hok HBU
      generalize d.revs = D at *
      generalize d.recs.length = rl at *
      go_upto_region 4 with fail
      generalize hw8 : World.alloc w7 (.cells #[.slice DA D.length da, .slice DB rl db] 37) = w8 at *
      clear hw8
      (obtain ⟨d0, d1⟩ := (HM8.out.1).c2)
      have hlo : ops.length + 1 ≤ 80 := by have := HFL.out.1; rw [List.length_append, List.length_singleton] at this; omega
      go_wp2_with fail
      refine (HBT.out _ _ _ _ _ _ _ HB8.out HI8.out hRl HAS.out (by omega)).mono ?_
      have HOK := Lib.hid (run_ok HAS.out hRl ops (p := p0P) EOk.nil)
      generalize runP D p0P ops = P0 at *
      rintro e w9 ⟨E1, e1, R1, r1, rfl, hi9, hf9, hb9⟩
      obtain ⟨pn, pc, pt, ps, L⟩ := P0
      unfold pndV pndC
      dsimp only at hi9 HOK ⊢
      have HM10 : Hid (Bs [(w9.heap.size, 41, [.int .i64 pn, .string pc, .string pt, .bool ps, .slice E1 L.length e1, .slice R1 0 r1]), (w7.heap.size, 37, [.slice DA D.length da, .slice DB rl db]), (w.heap.size, 30, [.int .i64 o.kind, .string o.s, .string o.t, .int .i64 o.ty.base, .bool o.ty.kw, .bool o.ty.ex, .bool o.ty.xe, .int .u64 o.con.sum, .int .i64 o.con.size])] (w9.alloc (.cells [.int .i64 pn, .string pc, .string pt, .bool ps, .slice E1 L.length e1, .slice R1 0 r1].toArray 41))) := Bs.cons (Blk.new w9 41 [.int .i64 pn, .string pc, .string pt, .bool ps, .slice E1 L.length e1, .slice R1 0 r1]) ((HM8.out.below hb9).alloc _)
      have HB10 : Hid (Below w.heap.size w (w9.alloc (.cells [.int .i64 pn, .string pc, .string pt, .bool ps, .slice E1 L.length e1, .slice R1 0 r1].toArray 41))) := (HB8.out.trans (hb9.mono HB8.out.size)).alloc (HB8.out.trans (hb9.mono HB8.out.size)).size _
      have HI10 := Lib.hid ((HI8.out.below hb9).below ((Below.refl _ _).alloc (Nat.le_refl _) (.cells [.int .i64 pn, .string pc, .string pt, .bool ps, .slice E1 L.length e1, .slice R1 0 r1].toArray 41)))
      have HP10 := Lib.hid (hi9.below ((Below.refl _ _).alloc (Nat.le_refl _) (.cells [.int .i64 pn, .string pc, .string pt, .bool ps, .slice E1 L.length e1, .slice R1 0 r1].toArray 41)))
      clear hb9 hi9 hf9 HM8 HB8 HI8 HBT d0 d1
      go_upto_region 5 with fail
      generalize hw10 : World.alloc w9 (.cells #[.int .i64 pn, .string pc, .string pt, .bool ps, .slice E1 L.length e1, .slice R1 0 r1] 41) = w10 at *
      clear hw10
      obtain ⟨o0, o1, o2, o3, o4, o5, o6, o7, o8⟩ := HM10.out.2.2.1.c9
      have hll0 := HOK.out.len
      -- MARKJ
      by_cases hk1 : o.kind < 1
      ·
        go_wp2_with (go_at_call 8; refine (awake18_any _).mono ?_; rintro e w9 ⟨rfl, HB9⟩)
        go_ret
        exact ⟨rfl, HB10.out.trans (HB9.mono HB10.out.size)⟩
      by_cases hk4 : 4 < o.kind
      ·
        go_wp2_with (go_at_call 8; refine (awake18_any _).mono ?_; rintro e w9 ⟨rfl, HB9⟩)
        go_ret
        exact ⟨rfl, HB10.out.trans (HB9.mono HB10.out.size)⟩
      by_cases hk : o.kind = 4
      · have hka : (o.kind == 4) = true := by simpa using hk
        have hkb : decide (o.kind = 4) = true := by simpa using hk
        have HKK := Lib.hid hk
        clear hk
        (obtain ⟨p0, p1, p2, p3, p4, p5⟩ := (HM10.out.1).c6)
        go_wp2_with fail
        clear p0 p1 p2 p3 p4 p5 o0 o1 o2 o3 o4 o5 o6 o7 o8
        -- MARKK
        go_loopw [52] (fun i wr => ∃ k : Nat, i = .int .i64 k ∧ k ≤ L.length ∧ Hid (∀ x ∈ L.take k, x.path ≠ o.s) ∧ Hid (Below w10.heap.size w10 wr)) (fun i _ => L.length - (intOf i).toNat)
        case atStart => exact ⟨0, rfl, Nat.zero_le _, (fun x hx => by simp at hx), Below.refl _ _⟩
        case round =>
          obtain ⟨k, rfl, hkk, HNN, HW⟩ := hrel
          have HBX := Lib.hid (HB10.out.trans (HW.out.mono HB10.out.size))
          by_cases hlt : k < L.length
          · have HNX : Hid (L[k].path ≠ o.s → ∀ x ∈ L.take (k + 1), x.path ≠ o.s) := fun h x hx => by
              rw [List.take_succ_eq_append_getElem hlt] at hx
              rcases List.mem_append.1 hx with hx | hx
              · exact HNN.out x hx
              · rw [List.mem_singleton] at hx
                rw [hx]
                exact h
            obtain ⟨b, off, rfl, hbl, hat⟩ := (HP10.out.below HW.out) (by omega)
            have hg := List.getElem?_eq_getElem hlt
            generalize L[k] = x at *
            (have hcv := fun j (u : Value) (hj : (x).cells[j]? = some u) => ((hat).get hg hj); have c0 := hcv 0 _ rfl; have c1 := hcv 1 _ rfl; have c2 := hcv 2 _ rfl; have c3 := hcv 3 _ rfl; have c4 := hcv 4 _ rfl; have c5 := hcv 5 _ rfl; have c6 := hcv 6 _ rfl; have c7 := hcv 7 _ rfl; have c8 := hcv 8 _ rfl; have c9 := hcv 9 _ rfl; have c10 := hcv 10 _ rfl; have c11 := hcv 11 _ rfl; have e12 : edtK.n = 12 := rfl; simp only [e12, Nat.add_zero] at c0 c1 c2 c3 c4 c5 c6 c7 c8 c9 c10 c11; clear hcv e12)
            clear hat hg
            have hkn : (k : Int) < (L.length : Int) := by omega
            have HX1 : Hid (Blk wr.heap.size 44 [.string x.path, .int .i64 x.act, .int .i64 x.ty.base, .bool x.ty.kw, .bool x.ty.ex, .bool x.ty.xe, .int .u64 x.con.sum, .int .i64 x.con.size, .int .i64 x.base, .string x.src, .int .i64 x.srcn, .int .i64 x.fence] (wr.alloc (.cells [.string x.path, .int .i64 x.act, .int .i64 x.ty.base, .bool x.ty.kw, .bool x.ty.ex, .bool x.ty.xe, .int .u64 x.con.sum, .int .i64 x.con.size, .int .i64 x.base, .string x.src, .int .i64 x.srcn, .int .i64 x.fence].toArray 44))) := Blk.new wr 44 [.string x.path, .int .i64 x.act, .int .i64 x.ty.base, .bool x.ty.kw, .bool x.ty.ex, .bool x.ty.xe, .int .u64 x.con.sum, .int .i64 x.con.size, .int .i64 x.base, .string x.src, .int .i64 x.srcn, .int .i64 x.fence]
            have HY1 : Hid (Below wr.heap.size wr (wr.alloc (.cells [.string x.path, .int .i64 x.act, .int .i64 x.ty.base, .bool x.ty.kw, .bool x.ty.ex, .bool x.ty.xe, .int .u64 x.con.sum, .int .i64 x.con.size, .int .i64 x.base, .string x.src, .int .i64 x.srcn, .int .i64 x.fence].toArray 44))) := (Below.refl _ _).alloc (Nat.le_refl _) _
            go_upto_region 13 with fail
            generalize hy1 : World.alloc wr (.cells #[.string x.path, .int .i64 x.act, .int .i64 x.ty.base, .bool x.ty.kw, .bool x.ty.ex, .bool x.ty.xe, .int .u64 x.con.sum, .int .i64 x.con.size, .int .i64 x.base, .string x.src, .int .i64 x.srcn, .int .i64 x.fence] 44) = y1 at *
            clear hy1 c0 c1 c2 c3 c4 c5 c6 c7 c8 c9 c10 c11
            have HV1 := Lib.hid (HW.out.trans (HY1.out.mono HW.out.size))
            have HB1' := Lib.hid (HB10.out.trans (HV1.out.mono HB10.out.size))
            obtain ⟨q0, q1, q2, q3, q4, q5, q6, q7, q8, q9, q10, q11⟩ := HX1.out.c12
            obtain ⟨o0, o1, o2, o3, o4, o5, o6, o7, o8⟩ := (HM10.out.below HV1.out).2.2.1.c9
            cases hs1 : (x.path.toList == o.s.toList)
            case true =>
              go_wp2_with (go_at_call 8; refine (awake18_any _).mono ?_; rintro e w9 ⟨rfl, HB9⟩)
              go_ret
              exact ⟨rfl, HB1'.out.trans (HB9.mono HB1'.out.size)⟩
            have HNE : Hid (x.path ≠ o.s) := fun e => by rw [e] at hs1; simp at hs1
            go_wp2_with fail
            go_roundw
            case rel => exact ⟨k + 1, by go_num, by omega, HNX.out HNE.out, HV1.out⟩
            case measure => simp [intOf]; omega
          · obtain rfl : k = L.length := by omega
            have HNS : Hid (∀ x ∈ L, x.path ≠ o.s) := by have := HNN.out; rw [List.take_length] at this; exact this
            have HBK : Hid ((doP D ⟨pn, pc, pt, ps, L⟩ o).2 = 0 → revP (doP D ⟨pn, pc, pt, ps, L⟩ o).1 o.t = (⟨pn, pc, pt, ps, L⟩, 0)) := fun h1 => by
              have e : doP D ⟨pn, pc, pt, ps, L⟩ o = moveP D ⟨pn, pc, pt, ps, L⟩ o.s o.t := by simp [doP, HKK.out]
              rw [e] at h1 ⊢
              exact back_move HAS.out hRl HOK.out HNS.out h1
            obtain ⟨wq, hwq⟩ : ∃ zz, zz = wr := ⟨_, rfl⟩
            have HMq : Hid (Bs [(w9.heap.size, 41, [.int .i64 pn, .string pc, .string pt, .bool ps, .slice E1 L.length e1, .slice R1 0 r1]), (w7.heap.size, 37, [.slice DA D.length da, .slice DB rl db]), (w.heap.size, 30, [.int .i64 o.kind, .string o.s, .string o.t, .int .i64 o.ty.base, .bool o.ty.kw, .bool o.ty.ex, .bool o.ty.xe, .int .u64 o.con.sum, .int .i64 o.con.size])] wr) := HM10.out.below HW.out
            have HIq := Lib.hid (HI10.out.below HW.out)
            have HPq := Lib.hid (HP10.out.below HW.out)
            clear hwq HM10 HB10 HI10 HP10 HNN HW
            -- MARKL
            (obtain ⟨p0, p1, p2, p3, p4, p5⟩ := (HMq.out.1).c6)
            (obtain ⟨d0, d1⟩ := (HMq.out.2.1).c2)
            obtain ⟨o0, o1, o2, o3, o4, o5, o6, o7, o8⟩ := HMq.out.2.2.1.c9
            have HN := Lib.hid (pdo_any D ⟨pn, pc, pt, ps, L⟩ o DA DB E1 R1 da rl db e1 r1 wr HIq.out HPq.out HOK.out hRl HAS.out (by omega) (by omega))
            have HOM := Lib.hid (do_ok HAS.out hRl (p := ⟨pn, pc, pt, ps, L⟩) HOK.out o)
            unfold pndV pndC Opr.val Opr.cells at HN
            dsimp only at HN
            generalize doP D ⟨pn, pc, pt, ps, L⟩ o = pe at *
            obtain ⟨⟨nn, nc, nt, ns, M⟩, ne⟩ := pe
            dsimp only at HOM HBK
            go_wp2_with fail
            -- MARKG
            refine HN.out.mono ?_
            rintro e wn12 ⟨E2, e2, R2, r2, rfl, hi11, hf11, hb11⟩
            unfold pndV pndC
            dsimp only at hi11 ⊢
            have HM12 : Hid (Bs [(wn12.heap.size, 41, [.int .i64 nn, .string nc, .string nt, .bool ns, .slice E2 M.length e2, .slice R2 0 r2]), (w9.heap.size, 41, [.int .i64 pn, .string pc, .string pt, .bool ps, .slice E1 L.length e1, .slice R1 0 r1]), (w7.heap.size, 37, [.slice DA D.length da, .slice DB rl db]), (w.heap.size, 30, [.int .i64 o.kind, .string o.s, .string o.t, .int .i64 o.ty.base, .bool o.ty.kw, .bool o.ty.ex, .bool o.ty.xe, .int .u64 o.con.sum, .int .i64 o.con.size])] (wn12.alloc (.cells [.int .i64 nn, .string nc, .string nt, .bool ns, .slice E2 M.length e2, .slice R2 0 r2].toArray 41))) := Bs.cons (Blk.new wn12 41 [.int .i64 nn, .string nc, .string nt, .bool ns, .slice E2 M.length e2, .slice R2 0 r2]) ((HMq.out.below hb11).alloc _)
            have HB12 : Hid (Below w.heap.size w (wn12.alloc (.cells [.int .i64 nn, .string nc, .string nt, .bool ns, .slice E2 M.length e2, .slice R2 0 r2].toArray 41))) := (HBX.out.trans (hb11.mono HBX.out.size)).alloc (HBX.out.trans (hb11.mono HBX.out.size)).size _
            have HP12 := Lib.hid ((HPq.out.below hb11).below ((Below.refl _ _).alloc (Nat.le_refl _) (.cells [.int .i64 nn, .string nc, .string nt, .bool ns, .slice E2 M.length e2, .slice R2 0 r2].toArray 41)))
            have HN12 := Lib.hid (hi11.below ((Below.refl _ _).alloc (Nat.le_refl _) (.cells [.int .i64 nn, .string nc, .string nt, .bool ns, .slice E2 M.length e2, .slice R2 0 r2].toArray 41)))
            clear hb11 hi11 hf11 HMq HBX HIq HPq HN p0 p1 p2 p3 p4 p5 d0 d1 o0 o1 o2 o3 o4 o5 o6 o7 o8
            go_upto_region 17 with fail
            generalize hw12 : World.alloc wn12 (.cells #[.int .i64 nn, .string nc, .string nt, .bool ns, .slice E2 M.length e2, .slice R2 0 r2] 41) = w12 at *
            clear hw12
            by_cases hne : ne = 0
            case neg =>
              have hea : (ne == 0) = false := by simpa using hne
              have heb : (ne != 0) = true := by simpa using hne
              have hec : decide (ne = 0) = false := by simpa using hne
              go_wp2_with (go_at_call 8; refine (awake18_any _).mono ?_; rintro e w9 ⟨rfl, HB9⟩)
              go_ret
              exact ⟨rfl, HB12.out.trans (HB9.mono HB12.out.size)⟩
            subst hne
            have HRV := Lib.hid (HBK.out rfl)
            have HR := prev_any ⟨nn, nc, nt, ns, M⟩ o.t E2 R2 e2 r2 w12 HN12.out HOM.out (by omega)
            rw [HRV.out] at HR
            unfold pndV pndC at HR
            dsimp only at HR
            have HRR := Lib.hid HR
            clear HR HBK
            (obtain ⟨p0, p1, p2, p3, p4, p5⟩ := (HM12.out.1).c6)
            go_wp2_with fail
            -- MARKH
            refine HRR.out.mono ?_
            rintro e wm12 ⟨E3, e3, R3, r3, rfl, hi13, hf13, hb13⟩
            unfold pndV pndC
            dsimp only at hi13 ⊢
            have HM14 : Hid (Bs [(wm12.heap.size, 41, [.int .i64 pn, .string pc, .string pt, .bool ps, .slice E3 L.length e3, .slice R3 0 r3]), (wn12.heap.size, 41, [.int .i64 nn, .string nc, .string nt, .bool ns, .slice E2 M.length e2, .slice R2 0 r2]), (w9.heap.size, 41, [.int .i64 pn, .string pc, .string pt, .bool ps, .slice E1 L.length e1, .slice R1 0 r1]), (w7.heap.size, 37, [.slice DA D.length da, .slice DB rl db]), (w.heap.size, 30, [.int .i64 o.kind, .string o.s, .string o.t, .int .i64 o.ty.base, .bool o.ty.kw, .bool o.ty.ex, .bool o.ty.xe, .int .u64 o.con.sum, .int .i64 o.con.size])] (wm12.alloc (.cells [.int .i64 pn, .string pc, .string pt, .bool ps, .slice E3 L.length e3, .slice R3 0 r3].toArray 41))) := Bs.cons (Blk.new wm12 41 [.int .i64 pn, .string pc, .string pt, .bool ps, .slice E3 L.length e3, .slice R3 0 r3]) ((HM12.out.below hb13).alloc _)
            have HB14 : Hid (Below w.heap.size w (wm12.alloc (.cells [.int .i64 pn, .string pc, .string pt, .bool ps, .slice E3 L.length e3, .slice R3 0 r3].toArray 41))) := (HB12.out.trans (hb13.mono HB12.out.size)).alloc (HB12.out.trans (hb13.mono HB12.out.size)).size _
            have HP14 := Lib.hid ((HP12.out.below hb13).below ((Below.refl _ _).alloc (Nat.le_refl _) (.cells [.int .i64 pn, .string pc, .string pt, .bool ps, .slice E3 L.length e3, .slice R3 0 r3].toArray 41)))
            have HQ14 := Lib.hid (hi13.below ((Below.refl _ _).alloc (Nat.le_refl _) (.cells [.int .i64 pn, .string pc, .string pt, .bool ps, .slice E3 L.length e3, .slice R3 0 r3].toArray 41)))
            clear hb13 hi13 hf13 HM12 HB12 HP12 HN12 HRR HRV p0 p1 p2 p3 p4 p5
            go_upto_region 20 with fail
            generalize hw14 : World.alloc wm12 (.cells #[.int .i64 pn, .string pc, .string pt, .bool ps, .slice E3 L.length e3, .slice R3 0 r3] 41) = w14 at *
            clear hw14
            have hll := HOK.out.len
            have HS1 := Lib.hid (rsame_any ⟨pn, pc, pt, ps, L⟩ E1 R1 E3 R3 e1 r1 e3 r3 w14 HP14.out HQ14.out (by dsimp only; omega))
            unfold pndV pndC at HS1
            (obtain ⟨p0, p1, p2, p3, p4, p5⟩ := (HM14.out.1).c6)
            obtain ⟨n0, n1, n2, n3, n4, n5⟩ := HM14.out.2.2.1.c6
            go_wp2_with fail
            -- MARKI
            refine HS1.out.mono ?_
            rintro e wd ⟨rfl, hbd⟩
            have HBd := Lib.hid (HB14.out.trans (hbd.mono HB14.out.size))
            clear hbd HS1
            go_wp2_with (go_at_call 8; refine (awake18_any _).mono ?_; rintro e w9 ⟨rfl, HB9⟩)
            go_ret
            exact ⟨rfl, HBd.out.trans (HB9.mono HBd.out.size)⟩
      · have hka : (o.kind == 4) = false := by simpa using hk
        have hkb : decide (o.kind = 4) = false := by simpa using hk
        have HBK : Hid ((doP D ⟨pn, pc, pt, ps, L⟩ o).2 = 0 → revP (doP D ⟨pn, pc, pt, ps, L⟩ o).1 o.s = (⟨pn, pc, pt, ps, L⟩, 0)) := fun h1 => by
          have h3 : o.kind = 1 ∨ o.kind = 2 ∨ o.kind = 3 := by omega
          rcases h3 with h | h | h
          · have e : doP D ⟨pn, pc, pt, ps, L⟩ o = openP D ⟨pn, pc, pt, ps, L⟩ o.s 1 o.ty o.con := by simp [doP, h]
            rw [e] at h1 ⊢
            exact back_open HOK.out (by decide) h1
          · have e : doP D ⟨pn, pc, pt, ps, L⟩ o = openP D ⟨pn, pc, pt, ps, L⟩ o.s 2 o.ty o.con := by simp [doP, h]
            rw [e] at h1 ⊢
            exact back_open HOK.out (by decide) h1
          · have e : doP D ⟨pn, pc, pt, ps, L⟩ o = openP D ⟨pn, pc, pt, ps, L⟩ o.s 3 zeroTy zeroCon := by simp [doP, h]
            rw [e] at h1 ⊢
            exact back_open HOK.out (by decide) h1
        go_upto_region 16 with fail
        clear o0 o1 o2 o3 o4 o5 o6 o7 o8
        -- MARKM
        (obtain ⟨p0, p1, p2, p3, p4, p5⟩ := (HM10.out.1).c6)
        (obtain ⟨d0, d1⟩ := (HM10.out.2.1).c2)
        obtain ⟨o0, o1, o2, o3, o4, o5, o6, o7, o8⟩ := HM10.out.2.2.1.c9
        have HN := Lib.hid (pdo_any D ⟨pn, pc, pt, ps, L⟩ o DA DB E1 R1 da rl db e1 r1 w10 HI10.out HP10.out HOK.out hRl HAS.out (by omega) (by omega))
        have HOM := Lib.hid (do_ok HAS.out hRl (p := ⟨pn, pc, pt, ps, L⟩) HOK.out o)
        unfold pndV pndC Opr.val Opr.cells at HN
        dsimp only at HN
        generalize doP D ⟨pn, pc, pt, ps, L⟩ o = pe at *
        obtain ⟨⟨nn, nc, nt, ns, M⟩, ne⟩ := pe
        dsimp only at HOM HBK
        go_wp2_with fail
        -- MARKG
        refine HN.out.mono ?_
        rintro e wn8 ⟨E2, e2, R2, r2, rfl, hi11, hf11, hb11⟩
        unfold pndV pndC
        dsimp only at hi11 ⊢
        have HM12 : Hid (Bs [(wn8.heap.size, 41, [.int .i64 nn, .string nc, .string nt, .bool ns, .slice E2 M.length e2, .slice R2 0 r2]), (w9.heap.size, 41, [.int .i64 pn, .string pc, .string pt, .bool ps, .slice E1 L.length e1, .slice R1 0 r1]), (w7.heap.size, 37, [.slice DA D.length da, .slice DB rl db]), (w.heap.size, 30, [.int .i64 o.kind, .string o.s, .string o.t, .int .i64 o.ty.base, .bool o.ty.kw, .bool o.ty.ex, .bool o.ty.xe, .int .u64 o.con.sum, .int .i64 o.con.size])] (wn8.alloc (.cells [.int .i64 nn, .string nc, .string nt, .bool ns, .slice E2 M.length e2, .slice R2 0 r2].toArray 41))) := Bs.cons (Blk.new wn8 41 [.int .i64 nn, .string nc, .string nt, .bool ns, .slice E2 M.length e2, .slice R2 0 r2]) ((HM10.out.below hb11).alloc _)
        have HB12 : Hid (Below w.heap.size w (wn8.alloc (.cells [.int .i64 nn, .string nc, .string nt, .bool ns, .slice E2 M.length e2, .slice R2 0 r2].toArray 41))) := (HB10.out.trans (hb11.mono HB10.out.size)).alloc (HB10.out.trans (hb11.mono HB10.out.size)).size _
        have HP12 := Lib.hid ((HP10.out.below hb11).below ((Below.refl _ _).alloc (Nat.le_refl _) (.cells [.int .i64 nn, .string nc, .string nt, .bool ns, .slice E2 M.length e2, .slice R2 0 r2].toArray 41)))
        have HN12 := Lib.hid (hi11.below ((Below.refl _ _).alloc (Nat.le_refl _) (.cells [.int .i64 nn, .string nc, .string nt, .bool ns, .slice E2 M.length e2, .slice R2 0 r2].toArray 41)))
        clear hb11 hi11 hf11 HM10 HB10 HI10 HP10 HN p0 p1 p2 p3 p4 p5 d0 d1 o0 o1 o2 o3 o4 o5 o6 o7 o8
        go_upto_region 17 with fail
        generalize hw12 : World.alloc wn8 (.cells #[.int .i64 nn, .string nc, .string nt, .bool ns, .slice E2 M.length e2, .slice R2 0 r2] 41) = w12 at *
        clear hw12
        by_cases hne : ne = 0
        case neg =>
          have hea : (ne == 0) = false := by simpa using hne
          have heb : (ne != 0) = true := by simpa using hne
          have hec : decide (ne = 0) = false := by simpa using hne
          go_wp2_with (go_at_call 8; refine (awake18_any _).mono ?_; rintro e w9 ⟨rfl, HB9⟩)
          go_ret
          exact ⟨rfl, HB12.out.trans (HB9.mono HB12.out.size)⟩
        subst hne
        have HRV := Lib.hid (HBK.out rfl)
        have HR := prev_any ⟨nn, nc, nt, ns, M⟩ o.s E2 R2 e2 r2 w12 HN12.out HOM.out (by omega)
        rw [HRV.out] at HR
        unfold pndV pndC at HR
        dsimp only at HR
        have HRR := Lib.hid HR
        clear HR HBK
        (obtain ⟨p0, p1, p2, p3, p4, p5⟩ := (HM12.out.1).c6)
        go_wp2_with fail
        -- MARKH
        refine HRR.out.mono ?_
        rintro e wm8 ⟨E3, e3, R3, r3, rfl, hi13, hf13, hb13⟩
        unfold pndV pndC
        dsimp only at hi13 ⊢
        have HM14 : Hid (Bs [(wm8.heap.size, 41, [.int .i64 pn, .string pc, .string pt, .bool ps, .slice E3 L.length e3, .slice R3 0 r3]), (wn8.heap.size, 41, [.int .i64 nn, .string nc, .string nt, .bool ns, .slice E2 M.length e2, .slice R2 0 r2]), (w9.heap.size, 41, [.int .i64 pn, .string pc, .string pt, .bool ps, .slice E1 L.length e1, .slice R1 0 r1]), (w7.heap.size, 37, [.slice DA D.length da, .slice DB rl db]), (w.heap.size, 30, [.int .i64 o.kind, .string o.s, .string o.t, .int .i64 o.ty.base, .bool o.ty.kw, .bool o.ty.ex, .bool o.ty.xe, .int .u64 o.con.sum, .int .i64 o.con.size])] (wm8.alloc (.cells [.int .i64 pn, .string pc, .string pt, .bool ps, .slice E3 L.length e3, .slice R3 0 r3].toArray 41))) := Bs.cons (Blk.new wm8 41 [.int .i64 pn, .string pc, .string pt, .bool ps, .slice E3 L.length e3, .slice R3 0 r3]) ((HM12.out.below hb13).alloc _)
        have HB14 : Hid (Below w.heap.size w (wm8.alloc (.cells [.int .i64 pn, .string pc, .string pt, .bool ps, .slice E3 L.length e3, .slice R3 0 r3].toArray 41))) := (HB12.out.trans (hb13.mono HB12.out.size)).alloc (HB12.out.trans (hb13.mono HB12.out.size)).size _
        have HP14 := Lib.hid ((HP12.out.below hb13).below ((Below.refl _ _).alloc (Nat.le_refl _) (.cells [.int .i64 pn, .string pc, .string pt, .bool ps, .slice E3 L.length e3, .slice R3 0 r3].toArray 41)))
        have HQ14 := Lib.hid (hi13.below ((Below.refl _ _).alloc (Nat.le_refl _) (.cells [.int .i64 pn, .string pc, .string pt, .bool ps, .slice E3 L.length e3, .slice R3 0 r3].toArray 41)))
        clear hb13 hi13 hf13 HM12 HB12 HP12 HN12 HRR HRV p0 p1 p2 p3 p4 p5
        go_upto_region 20 with fail
        generalize hw14 : World.alloc wm8 (.cells #[.int .i64 pn, .string pc, .string pt, .bool ps, .slice E3 L.length e3, .slice R3 0 r3] 41) = w14 at *
        clear hw14
        have hll := HOK.out.len
        have HS1 := Lib.hid (rsame_any ⟨pn, pc, pt, ps, L⟩ E1 R1 E3 R3 e1 r1 e3 r3 w14 HP14.out HQ14.out (by dsimp only; omega))
        unfold pndV pndC at HS1
        (obtain ⟨p0, p1, p2, p3, p4, p5⟩ := (HM14.out.1).c6)
        obtain ⟨n0, n1, n2, n3, n4, n5⟩ := HM14.out.2.2.1.c6
        go_wp2_with fail
        -- MARKI
        refine HS1.out.mono ?_
        rintro e wd ⟨rfl, hbd⟩
        have HBd := Lib.hid (HB14.out.trans (hbd.mono HB14.out.size))
        clear hbd HS1
        go_wp2_with (go_at_call 8; refine (awake18_any _).mono ?_; rintro e w9 ⟨rfl, HB9⟩)
        go_ret
        exact ⟨rfl, HBd.out.trans (HB9.mono HBd.out.size)⟩
    · (unfold wpAct; (repeat (first | simp only [List.getElem?_toArray] | simp only [List.getElem?_cons_zero] | simp only [List.getElem?_cons_succ])); (try dsimp only))
      go_wp2_with fail
      have HS3 := Lib.hid (HS2.out.alloc (.cells ([.int .i64 o.kind, .string o.s, .string o.t, .int .i64 o.ty.base, .bool o.ty.kw, .bool o.ty.ex, .bool o.ty.xe, .int .u64 o.con.sum, .int .i64 o.con.size] : List Value).toArray 30))
      have HB3 := Lib.hid (HB2.out.alloc HB2.out.size (.cells ([.int .i64 o.kind, .string o.s, .string o.t, .int .i64 o.ty.base, .bool o.ty.kw, .bool o.ty.ex, .bool o.ty.xe, .int .u64 o.con.sum, .int .i64 o.con.size] : List Value).toArray 30))
      have HNW3 := Lib.hid (HIF.out.below HB3.out).news
      have HLB := Lib.hid (Blk.new w2 30 [.int .i64 o.kind, .string o.s, .string o.t, .int .i64 o.ty.base, .bool o.ty.kw, .bool o.ty.ex, .bool o.ty.xe, .int .u64 o.con.sum, .int .i64 o.con.size])
      have hsz3 : w2.heap.size < (w2.alloc (.cells ([.int .i64 o.kind, .string o.s, .string o.t, .int .i64 o.ty.base, .bool o.ty.kw, .bool o.ty.ex, .bool o.ty.xe, .int .u64 o.con.sum, .int .i64 o.con.size] : List Value).toArray 30)).heap.size := by simp
      refine ⟨HS3.out, ?_⟩
      generalize hw3 : World.alloc w2 (.cells #[.int .i64 o.kind, .string o.s, .string o.t, .int .i64 o.ty.base, .bool o.ty.kw, .bool o.ty.ex, .bool o.ty.xe, .int .u64 o.con.sum, .int .i64 o.con.size] 30) = w3 at *
      clear hw3 HS2 HB2 HNW
      (unfold wpMix wpRd; (repeat (first | simp only [List.filterMap_cons] | simp only [List.filterMap_nil] | simp only [List.getElem?_toArray] | simp only [List.getElem?_cons_zero] | simp only [List.getElem?_cons_succ])); (try dsimp only); change wpQuiet _ _ _ _ ([]) _; (repeat (go_big_quiet_step (fail))); refine wpQuiet_nil ?_; (try dsimp only))
      ((repeat (first | simp only [List.getElem?_toArray] | simp only [List.getElem?_cons_zero] | simp only [List.getElem?_cons_succ])); (try dsimp only))
      -- MARKS
      go_wp2_with (at_builtin; go_loud (refine wpList_append_any_g (by first | rfl | simp [Region.wanted, yielded, go_sem]) _ _ 23 rfl w2.heap.size 30 i0 zeroOpr.val 9 72 Tryz.underlying23 hi0 hz0 hz1 hz2 rfl (by decide) (.slice none 0 0) 0 [] rfl ⟨rfl, .inl ⟨rfl, rfl⟩⟩ F ops.length fc (oprK.flat ops) rfl (oprK.flat_len ops) HNW3.out (oprK.flat_ones ops) (by unfold maxLen; omega) (by omega) (by omega) ?_); intro v4 w4 ho4 hg4)
      simp only [Nat.zero_add, List.nil_append] at ho4
      obtain ⟨A4, c4, rfl⟩ := own_slice ho4
      have HO4 := Lib.hid ho4
      have HS4 := Lib.hid (HS3.out.grown hg4 (fun x _ e => by cases e))
      have HB4 := Lib.hid (HB3.out.grown hg4 HB3.out.size (fun j e => by cases e))
      have HLB4 := Lib.hid (HLB.out.grown hg4 (fun e => by cases e))
      have hsz4 := hg4.size
      have HLT4 : Hid (∀ j u, o.cells[j]? = some u → w4.cell? ((⟨w2.heap.size, 0, none⟩ : Addr).add j) = some u) := fun j u hu => by
        rw [add_lit, Nat.zero_add]
        exact (HLB4.out.cell j).trans hu
      clear ho4 hg4 HS3 HB3 HNW3 HLB HLB4
      refine ⟨HS4.out, ?_⟩
      (unfold wpMix wpRd; (repeat (first | simp only [List.filterMap_cons] | simp only [List.filterMap_nil] | simp only [List.getElem?_toArray] | simp only [List.getElem?_cons_zero] | simp only [List.getElem?_cons_succ])); (try dsimp only); change wpQuiet _ _ _ _ ([]) _; (repeat (go_big_quiet_step (fail))); refine wpQuiet_nil ?_; (try dsimp only))
      ((repeat (first | simp only [List.getElem?_toArray] | simp only [List.getElem?_cons_zero] | simp only [List.getElem?_cons_succ])); (try dsimp only))
      go_wp2_with (at_builtin; go_loud (refine wpList_append_any_g (by first | rfl | simp [Region.wanted, yielded, go_sem]) _ _ 23 rfl w2.heap.size 30 i0 zeroOpr.val 9 72 Tryz.underlying23 hi0 hz0 hz1 hz2 rfl (by decide) (.slice A4 ops.length c4) ops.length (oprK.flat ops) rfl HO4.out (some ⟨w2.heap.size, 0, none⟩) 1 1 o.cells rfl rfl (fun _ => ⟨_, rfl, HLT4.out⟩) (oprK.one o) (by unfold maxLen; omega) (by omega) (by omega) ?_); intro v5 w5 ho5 hg5)
      rw [show o.cells = oprK.cells o from rfl, RowK.flat_snoc] at ho5
      obtain ⟨A5, c5, rfl⟩ := own_slice ho5
      have HI5 := Lib.hid (RowK.In.of_row (R := oprK) ho5)
      have HS5 := Lib.hid (HS4.out.grown hg5 (fun x hx e => by
        have := (HO4.out.lt _ e).1
        rw [List.mem_singleton] at hx
        subst hx
        dsimp only at *
        omega))
      have HB5 := Lib.hid (HB4.out.grown hg5 HB4.out.size (fun j e => by have := (HO4.out.lt j e).1; omega))
      have HF5 := Lib.hid (HFW.out A5 c5 w5 HI5.out)
      rw [List.length_append, List.length_singleton] at HF5
      clear ho5 hg5 HS4 HB4 HO4 HLT4
      refine ⟨HS5.out, ?_⟩
      (unfold wpMix wpRd; (repeat (first | simp only [List.filterMap_cons] | simp only [List.filterMap_nil] | simp only [List.getElem?_toArray] | simp only [List.getElem?_cons_zero] | simp only [List.getElem?_cons_succ])); (try dsimp only); change wpQuiet _ _ _ _ ([]) _; (repeat (go_big_quiet_step (fail))); refine wpQuiet_nil ?_; (try dsimp only))
      ((repeat (first | simp only [List.getElem?_toArray] | simp only [List.getElem?_cons_zero] | simp only [List.getElem?_cons_succ])); (try dsimp only))
      go_wp2_with fail
      refine HF5.out.mono ?_
      rintro e w6 ⟨fb, rfl, hfw, hb6⟩
      have HS6 := Lib.hid (HS5.out.below hb6)
      have HB6 := Lib.hid (HB5.out.trans (hb6.mono HB5.out.size))
      clear hb6 HS5 HB5 HF5 HI5
      go_wp2_with fail
      refine ⟨HS6.out, ?_⟩
      (unfold wpMix wpRd; (repeat (first | simp only [List.filterMap_cons] | simp only [List.filterMap_nil] | simp only [List.getElem?_toArray] | simp only [List.getElem?_cons_zero] | simp only [List.getElem?_cons_succ])); (try dsimp only); change wpQuiet _ _ _ _ (_ :: _ :: []) _; (repeat (go_big_quiet_step (fail))); refine wpQuiet_nil ?_; (try dsimp only))
      -- MARKT
      cases fb
      ·
        clear hfw
        go_wp2_with (go_at_call 8; refine (awake18_any _).mono ?_; rintro e w9 ⟨rfl, HB9⟩)
        go_ret
        exact ⟨rfl, HB6.out.trans (HB9.mono HB6.out.size)⟩
      have HFL := Lib.hid (hfw rfl)
      clear hfw
      -- MARKF
      go_wp2_with fail
      refine (HBU.out _ HB6.out).mono ?_
      rintro e w7 ⟨d, DA, DB, da, db, rfl, hblt, hIA, hIB, hb7⟩
      have hok := hblt.ok
      have hRl : d.revs.length ≤ 512 := hok.few
      have HAS := Lib.hid hok.asc
      have HM8 : Hid (Bs [(w7.heap.size, 37, [.slice DA d.revs.length da, .slice DB d.recs.length db]), (w.heap.size, 30, [.int .i64 o.kind, .string o.s, .string o.t, .int .i64 o.ty.base, .bool o.ty.kw, .bool o.ty.ex, .bool o.ty.xe, .int .u64 o.con.sum, .int .i64 o.con.size])] (w7.alloc (.cells [.slice DA d.revs.length da, .slice DB d.recs.length db].toArray 37))) := Bs.cons (Blk.new w7 37 [.slice DA d.revs.length da, .slice DB d.recs.length db]) ((HS6.out.below hb7).alloc _)
      have HB8 : Hid (Below w.heap.size w (w7.alloc (.cells [.slice DA d.revs.length da, .slice DB d.recs.length db].toArray 37))) := (HB6.out.trans (hb7.mono HB6.out.size)).alloc (HB6.out.trans (hb7.mono HB6.out.size)).size _
      have HI8 := Lib.hid (hIA.below ((Below.refl _ _).alloc (Nat.le_refl _) (.cells [.slice DA d.revs.length da, .slice DB d.recs.length db].toArray 37)))
      clear hb7 HS6 HB6 hIA hIB hblt hok HBU
      generalize d.revs = D at *
      generalize d.recs.length = rl at *
      go_upto_region 4 with fail
      generalize hw8 : World.alloc w7 (.cells #[.slice DA D.length da, .slice DB rl db] 37) = w8 at *
      clear hw8
      (obtain ⟨d0, d1⟩ := (HM8.out.1).c2)
      have hlo : ops.length + 1 ≤ 80 := by have := HFL.out.1; rw [List.length_append, List.length_singleton] at this; omega
      go_wp2_with fail
      refine (HBT.out _ _ _ _ _ _ _ HB8.out HI8.out hRl HAS.out (by omega)).mono ?_
      have HOK := Lib.hid (run_ok HAS.out hRl ops (p := p0P) EOk.nil)
      generalize runP D p0P ops = P0 at *
      rintro e w9 ⟨E1, e1, R1, r1, rfl, hi9, hf9, hb9⟩
      obtain ⟨pn, pc, pt, ps, L⟩ := P0
      unfold pndV pndC
      dsimp only at hi9 HOK ⊢
      have HM10 : Hid (Bs [(w9.heap.size, 41, [.int .i64 pn, .string pc, .string pt, .bool ps, .slice E1 L.length e1, .slice R1 0 r1]), (w7.heap.size, 37, [.slice DA D.length da, .slice DB rl db]), (w.heap.size, 30, [.int .i64 o.kind, .string o.s, .string o.t, .int .i64 o.ty.base, .bool o.ty.kw, .bool o.ty.ex, .bool o.ty.xe, .int .u64 o.con.sum, .int .i64 o.con.size])] (w9.alloc (.cells [.int .i64 pn, .string pc, .string pt, .bool ps, .slice E1 L.length e1, .slice R1 0 r1].toArray 41))) := Bs.cons (Blk.new w9 41 [.int .i64 pn, .string pc, .string pt, .bool ps, .slice E1 L.length e1, .slice R1 0 r1]) ((HM8.out.below hb9).alloc _)
      have HB10 : Hid (Below w.heap.size w (w9.alloc (.cells [.int .i64 pn, .string pc, .string pt, .bool ps, .slice E1 L.length e1, .slice R1 0 r1].toArray 41))) := (HB8.out.trans (hb9.mono HB8.out.size)).alloc (HB8.out.trans (hb9.mono HB8.out.size)).size _
      have HI10 := Lib.hid ((HI8.out.below hb9).below ((Below.refl _ _).alloc (Nat.le_refl _) (.cells [.int .i64 pn, .string pc, .string pt, .bool ps, .slice E1 L.length e1, .slice R1 0 r1].toArray 41)))
      have HP10 := Lib.hid (hi9.below ((Below.refl _ _).alloc (Nat.le_refl _) (.cells [.int .i64 pn, .string pc, .string pt, .bool ps, .slice E1 L.length e1, .slice R1 0 r1].toArray 41)))
      clear hb9 hi9 hf9 HM8 HB8 HI8 HBT d0 d1
      go_upto_region 5 with fail
      generalize hw10 : World.alloc w9 (.cells #[.int .i64 pn, .string pc, .string pt, .bool ps, .slice E1 L.length e1, .slice R1 0 r1] 41) = w10 at *
      clear hw10
      obtain ⟨o0, o1, o2, o3, o4, o5, o6, o7, o8⟩ := HM10.out.2.2.1.c9
      have hll0 := HOK.out.len
      -- MARKJ
      by_cases hk1 : o.kind < 1
      ·
        go_wp2_with (go_at_call 8; refine (awake18_any _).mono ?_; rintro e w9 ⟨rfl, HB9⟩)
        go_ret
        exact ⟨rfl, HB10.out.trans (HB9.mono HB10.out.size)⟩
      by_cases hk4 : 4 < o.kind
      ·
        go_wp2_with (go_at_call 8; refine (awake18_any _).mono ?_; rintro e w9 ⟨rfl, HB9⟩)
        go_ret
        exact ⟨rfl, HB10.out.trans (HB9.mono HB10.out.size)⟩
      by_cases hk : o.kind = 4
      · have hka : (o.kind == 4) = true := by simpa using hk
        have hkb : decide (o.kind = 4) = true := by simpa using hk
        have HKK := Lib.hid hk
        clear hk
        (obtain ⟨p0, p1, p2, p3, p4, p5⟩ := (HM10.out.1).c6)
        go_wp2_with fail
        clear p0 p1 p2 p3 p4 p5 o0 o1 o2 o3 o4 o5 o6 o7 o8
        -- MARKK
        go_loopw [52] (fun i wr => ∃ k : Nat, i = .int .i64 k ∧ k ≤ L.length ∧ Hid (∀ x ∈ L.take k, x.path ≠ o.s) ∧ Hid (Below w10.heap.size w10 wr)) (fun i _ => L.length - (intOf i).toNat)
        case atStart => exact ⟨0, rfl, Nat.zero_le _, (fun x hx => by simp at hx), Below.refl _ _⟩
        case round =>
          obtain ⟨k, rfl, hkk, HNN, HW⟩ := hrel
          have HBX := Lib.hid (HB10.out.trans (HW.out.mono HB10.out.size))
          by_cases hlt : k < L.length
          · have HNX : Hid (L[k].path ≠ o.s → ∀ x ∈ L.take (k + 1), x.path ≠ o.s) := fun h x hx => by
              rw [List.take_succ_eq_append_getElem hlt] at hx
              rcases List.mem_append.1 hx with hx | hx
              · exact HNN.out x hx
              · rw [List.mem_singleton] at hx
                rw [hx]
                exact h
            obtain ⟨b, off, rfl, hbl, hat⟩ := (HP10.out.below HW.out) (by omega)
            have hg := List.getElem?_eq_getElem hlt
            generalize L[k] = x at *
            (have hcv := fun j (u : Value) (hj : (x).cells[j]? = some u) => ((hat).get hg hj); have c0 := hcv 0 _ rfl; have c1 := hcv 1 _ rfl; have c2 := hcv 2 _ rfl; have c3 := hcv 3 _ rfl; have c4 := hcv 4 _ rfl; have c5 := hcv 5 _ rfl; have c6 := hcv 6 _ rfl; have c7 := hcv 7 _ rfl; have c8 := hcv 8 _ rfl; have c9 := hcv 9 _ rfl; have c10 := hcv 10 _ rfl; have c11 := hcv 11 _ rfl; have e12 : edtK.n = 12 := rfl; simp only [e12, Nat.add_zero] at c0 c1 c2 c3 c4 c5 c6 c7 c8 c9 c10 c11; clear hcv e12)
            clear hat hg
            have hkn : (k : Int) < (L.length : Int) := by omega
            have HX1 : Hid (Blk wr.heap.size 44 [.string x.path, .int .i64 x.act, .int .i64 x.ty.base, .bool x.ty.kw, .bool x.ty.ex, .bool x.ty.xe, .int .u64 x.con.sum, .int .i64 x.con.size, .int .i64 x.base, .string x.src, .int .i64 x.srcn, .int .i64 x.fence] (wr.alloc (.cells [.string x.path, .int .i64 x.act, .int .i64 x.ty.base, .bool x.ty.kw, .bool x.ty.ex, .bool x.ty.xe, .int .u64 x.con.sum, .int .i64 x.con.size, .int .i64 x.base, .string x.src, .int .i64 x.srcn, .int .i64 x.fence].toArray 44))) := Blk.new wr 44 [.string x.path, .int .i64 x.act, .int .i64 x.ty.base, .bool x.ty.kw, .bool x.ty.ex, .bool x.ty.xe, .int .u64 x.con.sum, .int .i64 x.con.size, .int .i64 x.base, .string x.src, .int .i64 x.srcn, .int .i64 x.fence]
            have HY1 : Hid (Below wr.heap.size wr (wr.alloc (.cells [.string x.path, .int .i64 x.act, .int .i64 x.ty.base, .bool x.ty.kw, .bool x.ty.ex, .bool x.ty.xe, .int .u64 x.con.sum, .int .i64 x.con.size, .int .i64 x.base, .string x.src, .int .i64 x.srcn, .int .i64 x.fence].toArray 44))) := (Below.refl _ _).alloc (Nat.le_refl _) _
            go_upto_region 13 with fail
            generalize hy1 : World.alloc wr (.cells #[.string x.path, .int .i64 x.act, .int .i64 x.ty.base, .bool x.ty.kw, .bool x.ty.ex, .bool x.ty.xe, .int .u64 x.con.sum, .int .i64 x.con.size, .int .i64 x.base, .string x.src, .int .i64 x.srcn, .int .i64 x.fence] 44) = y1 at *
            clear hy1 c0 c1 c2 c3 c4 c5 c6 c7 c8 c9 c10 c11
            have HV1 := Lib.hid (HW.out.trans (HY1.out.mono HW.out.size))
            have HB1' := Lib.hid (HB10.out.trans (HV1.out.mono HB10.out.size))
            obtain ⟨q0, q1, q2, q3, q4, q5, q6, q7, q8, q9, q10, q11⟩ := HX1.out.c12
            obtain ⟨o0, o1, o2, o3, o4, o5, o6, o7, o8⟩ := (HM10.out.below HV1.out).2.2.1.c9
            cases hs1 : (x.path.toList == o.s.toList)
            case true =>
              go_wp2_with (go_at_call 8; refine (awake18_any _).mono ?_; rintro e w9 ⟨rfl, HB9⟩)
              go_ret
              exact ⟨rfl, HB1'.out.trans (HB9.mono HB1'.out.size)⟩
            have HNE : Hid (x.path ≠ o.s) := fun e => by rw [e] at hs1; simp at hs1
            go_wp2_with fail
            go_roundw
            case rel => exact ⟨k + 1, by go_num, by omega, HNX.out HNE.out, HV1.out⟩
            case measure => simp [intOf]; omega
          · obtain rfl : k = L.length := by omega
            have HNS : Hid (∀ x ∈ L, x.path ≠ o.s) := by have := HNN.out; rw [List.take_length] at this; exact this
            have HBK : Hid ((doP D ⟨pn, pc, pt, ps, L⟩ o).2 = 0 → revP (doP D ⟨pn, pc, pt, ps, L⟩ o).1 o.t = (⟨pn, pc, pt, ps, L⟩, 0)) := fun h1 => by
              have e : doP D ⟨pn, pc, pt, ps, L⟩ o = moveP D ⟨pn, pc, pt, ps, L⟩ o.s o.t := by simp [doP, HKK.out]
              rw [e] at h1 ⊢
              exact back_move HAS.out hRl HOK.out HNS.out h1
            obtain ⟨wq, hwq⟩ : ∃ zz, zz = wr := ⟨_, rfl⟩
            have HMq : Hid (Bs [(w9.heap.size, 41, [.int .i64 pn, .string pc, .string pt, .bool ps, .slice E1 L.length e1, .slice R1 0 r1]), (w7.heap.size, 37, [.slice DA D.length da, .slice DB rl db]), (w.heap.size, 30, [.int .i64 o.kind, .string o.s, .string o.t, .int .i64 o.ty.base, .bool o.ty.kw, .bool o.ty.ex, .bool o.ty.xe, .int .u64 o.con.sum, .int .i64 o.con.size])] wr) := HM10.out.below HW.out
            have HIq := Lib.hid (HI10.out.below HW.out)
            have HPq := Lib.hid (HP10.out.below HW.out)
            clear hwq HM10 HB10 HI10 HP10 HNN HW
            -- MARKL
            (obtain ⟨p0, p1, p2, p3, p4, p5⟩ := (HMq.out.1).c6)
            (obtain ⟨d0, d1⟩ := (HMq.out.2.1).c2)
            obtain ⟨o0, o1, o2, o3, o4, o5, o6, o7, o8⟩ := HMq.out.2.2.1.c9
            have HN := Lib.hid (pdo_any D ⟨pn, pc, pt, ps, L⟩ o DA DB E1 R1 da rl db e1 r1 wr HIq.out HPq.out HOK.out hRl HAS.out (by omega) (by omega))
            have HOM := Lib.hid (do_ok HAS.out hRl (p := ⟨pn, pc, pt, ps, L⟩) HOK.out o)
            unfold pndV pndC Opr.val Opr.cells at HN
            dsimp only at HN
            generalize doP D ⟨pn, pc, pt, ps, L⟩ o = pe at *
            obtain ⟨⟨nn, nc, nt, ns, M⟩, ne⟩ := pe
            dsimp only at HOM HBK
            go_wp2_with fail
            -- MARKG
            refine HN.out.mono ?_
            rintro e wn12 ⟨E2, e2, R2, r2, rfl, hi11, hf11, hb11⟩
            unfold pndV pndC
            dsimp only at hi11 ⊢
            have HM12 : Hid (Bs [(wn12.heap.size, 41, [.int .i64 nn, .string nc, .string nt, .bool ns, .slice E2 M.length e2, .slice R2 0 r2]), (w9.heap.size, 41, [.int .i64 pn, .string pc, .string pt, .bool ps, .slice E1 L.length e1, .slice R1 0 r1]), (w7.heap.size, 37, [.slice DA D.length da, .slice DB rl db]), (w.heap.size, 30, [.int .i64 o.kind, .string o.s, .string o.t, .int .i64 o.ty.base, .bool o.ty.kw, .bool o.ty.ex, .bool o.ty.xe, .int .u64 o.con.sum, .int .i64 o.con.size])] (wn12.alloc (.cells [.int .i64 nn, .string nc, .string nt, .bool ns, .slice E2 M.length e2, .slice R2 0 r2].toArray 41))) := Bs.cons (Blk.new wn12 41 [.int .i64 nn, .string nc, .string nt, .bool ns, .slice E2 M.length e2, .slice R2 0 r2]) ((HMq.out.below hb11).alloc _)
            have HB12 : Hid (Below w.heap.size w (wn12.alloc (.cells [.int .i64 nn, .string nc, .string nt, .bool ns, .slice E2 M.length e2, .slice R2 0 r2].toArray 41))) := (HBX.out.trans (hb11.mono HBX.out.size)).alloc (HBX.out.trans (hb11.mono HBX.out.size)).size _
            have HP12 := Lib.hid ((HPq.out.below hb11).below ((Below.refl _ _).alloc (Nat.le_refl _) (.cells [.int .i64 nn, .string nc, .string nt, .bool ns, .slice E2 M.length e2, .slice R2 0 r2].toArray 41)))
            have HN12 := Lib.hid (hi11.below ((Below.refl _ _).alloc (Nat.le_refl _) (.cells [.int .i64 nn, .string nc, .string nt, .bool ns, .slice E2 M.length e2, .slice R2 0 r2].toArray 41)))
            clear hb11 hi11 hf11 HMq HBX HIq HPq HN p0 p1 p2 p3 p4 p5 d0 d1 o0 o1 o2 o3 o4 o5 o6 o7 o8
            go_upto_region 17 with fail
            generalize hw12 : World.alloc wn12 (.cells #[.int .i64 nn, .string nc, .string nt, .bool ns, .slice E2 M.length e2, .slice R2 0 r2] 41) = w12 at *
            clear hw12
            by_cases hne : ne = 0
            case neg =>
              have hea : (ne == 0) = false := by simpa using hne
              have heb : (ne != 0) = true := by simpa using hne
              have hec : decide (ne = 0) = false := by simpa using hne
              go_wp2_with (go_at_call 8; refine (awake18_any _).mono ?_; rintro e w9 ⟨rfl, HB9⟩)
              go_ret
              exact ⟨rfl, HB12.out.trans (HB9.mono HB12.out.size)⟩
            subst hne
            have HRV := Lib.hid (HBK.out rfl)
            have HR := prev_any ⟨nn, nc, nt, ns, M⟩ o.t E2 R2 e2 r2 w12 HN12.out HOM.out (by omega)
            rw [HRV.out] at HR
            unfold pndV pndC at HR
            dsimp only at HR
            have HRR := Lib.hid HR
            clear HR HBK
            (obtain ⟨p0, p1, p2, p3, p4, p5⟩ := (HM12.out.1).c6)
            go_wp2_with fail
            -- MARKH
            refine HRR.out.mono ?_
            rintro e wm12 ⟨E3, e3, R3, r3, rfl, hi13, hf13, hb13⟩
            unfold pndV pndC
            dsimp only at hi13 ⊢
            have HM14 : Hid (Bs [(wm12.heap.size, 41, [.int .i64 pn, .string pc, .string pt, .bool ps, .slice E3 L.length e3, .slice R3 0 r3]), (wn12.heap.size, 41, [.int .i64 nn, .string nc, .string nt, .bool ns, .slice E2 M.length e2, .slice R2 0 r2]), (w9.heap.size, 41, [.int .i64 pn, .string pc, .string pt, .bool ps, .slice E1 L.length e1, .slice R1 0 r1]), (w7.heap.size, 37, [.slice DA D.length da, .slice DB rl db]), (w.heap.size, 30, [.int .i64 o.kind, .string o.s, .string o.t, .int .i64 o.ty.base, .bool o.ty.kw, .bool o.ty.ex, .bool o.ty.xe, .int .u64 o.con.sum, .int .i64 o.con.size])] (wm12.alloc (.cells [.int .i64 pn, .string pc, .string pt, .bool ps, .slice E3 L.length e3, .slice R3 0 r3].toArray 41))) := Bs.cons (Blk.new wm12 41 [.int .i64 pn, .string pc, .string pt, .bool ps, .slice E3 L.length e3, .slice R3 0 r3]) ((HM12.out.below hb13).alloc _)
            have HB14 : Hid (Below w.heap.size w (wm12.alloc (.cells [.int .i64 pn, .string pc, .string pt, .bool ps, .slice E3 L.length e3, .slice R3 0 r3].toArray 41))) := (HB12.out.trans (hb13.mono HB12.out.size)).alloc (HB12.out.trans (hb13.mono HB12.out.size)).size _
            have HP14 := Lib.hid ((HP12.out.below hb13).below ((Below.refl _ _).alloc (Nat.le_refl _) (.cells [.int .i64 pn, .string pc, .string pt, .bool ps, .slice E3 L.length e3, .slice R3 0 r3].toArray 41)))
            have HQ14 := Lib.hid (hi13.below ((Below.refl _ _).alloc (Nat.le_refl _) (.cells [.int .i64 pn, .string pc, .string pt, .bool ps, .slice E3 L.length e3, .slice R3 0 r3].toArray 41)))
            clear hb13 hi13 hf13 HM12 HB12 HP12 HN12 HRR HRV p0 p1 p2 p3 p4 p5
            go_upto_region 20 with fail
            generalize hw14 : World.alloc wm12 (.cells #[.int .i64 pn, .string pc, .string pt, .bool ps, .slice E3 L.length e3, .slice R3 0 r3] 41) = w14 at *
            clear hw14
            have hll := HOK.out.len
            have HS1 := Lib.hid (rsame_any ⟨pn, pc, pt, ps, L⟩ E1 R1 E3 R3 e1 r1 e3 r3 w14 HP14.out HQ14.out (by dsimp only; omega))
            unfold pndV pndC at HS1
            (obtain ⟨p0, p1, p2, p3, p4, p5⟩ := (HM14.out.1).c6)
            obtain ⟨n0, n1, n2, n3, n4, n5⟩ := HM14.out.2.2.1.c6
            go_wp2_with fail
            -- MARKI
            refine HS1.out.mono ?_
            rintro e wd ⟨rfl, hbd⟩
            have HBd := Lib.hid (HB14.out.trans (hbd.mono HB14.out.size))
            clear hbd HS1
            go_wp2_with (go_at_call 8; refine (awake18_any _).mono ?_; rintro e w9 ⟨rfl, HB9⟩)
            go_ret
            exact ⟨rfl, HBd.out.trans (HB9.mono HBd.out.size)⟩
      · have hka : (o.kind == 4) = false := by simpa using hk
        have hkb : decide (o.kind = 4) = false := by simpa using hk
        have HBK : Hid ((doP D ⟨pn, pc, pt, ps, L⟩ o).2 = 0 → revP (doP D ⟨pn, pc, pt, ps, L⟩ o).1 o.s = (⟨pn, pc, pt, ps, L⟩, 0)) := fun h1 => by
          have h3 : o.kind = 1 ∨ o.kind = 2 ∨ o.kind = 3 := by omega
          rcases h3 with h | h | h
          · have e : doP D ⟨pn, pc, pt, ps, L⟩ o = openP D ⟨pn, pc, pt, ps, L⟩ o.s 1 o.ty o.con := by simp [doP, h]
            rw [e] at h1 ⊢
            exact back_open HOK.out (by decide) h1
          · have e : doP D ⟨pn, pc, pt, ps, L⟩ o = openP D ⟨pn, pc, pt, ps, L⟩ o.s 2 o.ty o.con := by simp [doP, h]
            rw [e] at h1 ⊢
            exact back_open HOK.out (by decide) h1
          · have e : doP D ⟨pn, pc, pt, ps, L⟩ o = openP D ⟨pn, pc, pt, ps, L⟩ o.s 3 zeroTy zeroCon := by simp [doP, h]
            rw [e] at h1 ⊢
            exact back_open HOK.out (by decide) h1
        go_upto_region 16 with fail
        clear o0 o1 o2 o3 o4 o5 o6 o7 o8
        -- MARKM
        (obtain ⟨p0, p1, p2, p3, p4, p5⟩ := (HM10.out.1).c6)
        (obtain ⟨d0, d1⟩ := (HM10.out.2.1).c2)
        obtain ⟨o0, o1, o2, o3, o4, o5, o6, o7, o8⟩ := HM10.out.2.2.1.c9
        have HN := Lib.hid (pdo_any D ⟨pn, pc, pt, ps, L⟩ o DA DB E1 R1 da rl db e1 r1 w10 HI10.out HP10.out HOK.out hRl HAS.out (by omega) (by omega))
        have HOM := Lib.hid (do_ok HAS.out hRl (p := ⟨pn, pc, pt, ps, L⟩) HOK.out o)
        unfold pndV pndC Opr.val Opr.cells at HN
        dsimp only at HN
        generalize doP D ⟨pn, pc, pt, ps, L⟩ o = pe at *
        obtain ⟨⟨nn, nc, nt, ns, M⟩, ne⟩ := pe
        dsimp only at HOM HBK
        go_wp2_with fail
        -- MARKG
        refine HN.out.mono ?_
        rintro e wn8 ⟨E2, e2, R2, r2, rfl, hi11, hf11, hb11⟩
        unfold pndV pndC
        dsimp only at hi11 ⊢
        have HM12 : Hid (Bs [(wn8.heap.size, 41, [.int .i64 nn, .string nc, .string nt, .bool ns, .slice E2 M.length e2, .slice R2 0 r2]), (w9.heap.size, 41, [.int .i64 pn, .string pc, .string pt, .bool ps, .slice E1 L.length e1, .slice R1 0 r1]), (w7.heap.size, 37, [.slice DA D.length da, .slice DB rl db]), (w.heap.size, 30, [.int .i64 o.kind, .string o.s, .string o.t, .int .i64 o.ty.base, .bool o.ty.kw, .bool o.ty.ex, .bool o.ty.xe, .int .u64 o.con.sum, .int .i64 o.con.size])] (wn8.alloc (.cells [.int .i64 nn, .string nc, .string nt, .bool ns, .slice E2 M.length e2, .slice R2 0 r2].toArray 41))) := Bs.cons (Blk.new wn8 41 [.int .i64 nn, .string nc, .string nt, .bool ns, .slice E2 M.length e2, .slice R2 0 r2]) ((HM10.out.below hb11).alloc _)
        have HB12 : Hid (Below w.heap.size w (wn8.alloc (.cells [.int .i64 nn, .string nc, .string nt, .bool ns, .slice E2 M.length e2, .slice R2 0 r2].toArray 41))) := (HB10.out.trans (hb11.mono HB10.out.size)).alloc (HB10.out.trans (hb11.mono HB10.out.size)).size _
        have HP12 := Lib.hid ((HP10.out.below hb11).below ((Below.refl _ _).alloc (Nat.le_refl _) (.cells [.int .i64 nn, .string nc, .string nt, .bool ns, .slice E2 M.length e2, .slice R2 0 r2].toArray 41)))
        have HN12 := Lib.hid (hi11.below ((Below.refl _ _).alloc (Nat.le_refl _) (.cells [.int .i64 nn, .string nc, .string nt, .bool ns, .slice E2 M.length e2, .slice R2 0 r2].toArray 41)))
        clear hb11 hi11 hf11 HM10 HB10 HI10 HP10 HN p0 p1 p2 p3 p4 p5 d0 d1 o0 o1 o2 o3 o4 o5 o6 o7 o8
        go_upto_region 17 with fail
        generalize hw12 : World.alloc wn8 (.cells #[.int .i64 nn, .string nc, .string nt, .bool ns, .slice E2 M.length e2, .slice R2 0 r2] 41) = w12 at *
        clear hw12
        by_cases hne : ne = 0
        case neg =>
          have hea : (ne == 0) = false := by simpa using hne
          have heb : (ne != 0) = true := by simpa using hne
          have hec : decide (ne = 0) = false := by simpa using hne
          go_wp2_with (go_at_call 8; refine (awake18_any _).mono ?_; rintro e w9 ⟨rfl, HB9⟩)
          go_ret
          exact ⟨rfl, HB12.out.trans (HB9.mono HB12.out.size)⟩
        subst hne
        have HRV := Lib.hid (HBK.out rfl)
        have HR := prev_any ⟨nn, nc, nt, ns, M⟩ o.s E2 R2 e2 r2 w12 HN12.out HOM.out (by omega)
        rw [HRV.out] at HR
        unfold pndV pndC at HR
        dsimp only at HR
        have HRR := Lib.hid HR
        clear HR HBK
        (obtain ⟨p0, p1, p2, p3, p4, p5⟩ := (HM12.out.1).c6)
        go_wp2_with fail
        -- MARKH
        refine HRR.out.mono ?_
        rintro e wm8 ⟨E3, e3, R3, r3, rfl, hi13, hf13, hb13⟩
        unfold pndV pndC
        dsimp only at hi13 ⊢
        have HM14 : Hid (Bs [(wm8.heap.size, 41, [.int .i64 pn, .string pc, .string pt, .bool ps, .slice E3 L.length e3, .slice R3 0 r3]), (wn8.heap.size, 41, [.int .i64 nn, .string nc, .string nt, .bool ns, .slice E2 M.length e2, .slice R2 0 r2]), (w9.heap.size, 41, [.int .i64 pn, .string pc, .string pt, .bool ps, .slice E1 L.length e1, .slice R1 0 r1]), (w7.heap.size, 37, [.slice DA D.length da, .slice DB rl db]), (w.heap.size, 30, [.int .i64 o.kind, .string o.s, .string o.t, .int .i64 o.ty.base, .bool o.ty.kw, .bool o.ty.ex, .bool o.ty.xe, .int .u64 o.con.sum, .int .i64 o.con.size])] (wm8.alloc (.cells [.int .i64 pn, .string pc, .string pt, .bool ps, .slice E3 L.length e3, .slice R3 0 r3].toArray 41))) := Bs.cons (Blk.new wm8 41 [.int .i64 pn, .string pc, .string pt, .bool ps, .slice E3 L.length e3, .slice R3 0 r3]) ((HM12.out.below hb13).alloc _)
        have HB14 : Hid (Below w.heap.size w (wm8.alloc (.cells [.int .i64 pn, .string pc, .string pt, .bool ps, .slice E3 L.length e3, .slice R3 0 r3].toArray 41))) := (HB12.out.trans (hb13.mono HB12.out.size)).alloc (HB12.out.trans (hb13.mono HB12.out.size)).size _
        have HP14 := Lib.hid ((HP12.out.below hb13).below ((Below.refl _ _).alloc (Nat.le_refl _) (.cells [.int .i64 pn, .string pc, .string pt, .bool ps, .slice E3 L.length e3, .slice R3 0 r3].toArray 41)))
        have HQ14 := Lib.hid (hi13.below ((Below.refl _ _).alloc (Nat.le_refl _) (.cells [.int .i64 pn, .string pc, .string pt, .bool ps, .slice E3 L.length e3, .slice R3 0 r3].toArray 41)))
        clear hb13 hi13 hf13 HM12 HB12 HP12 HN12 HRR HRV p0 p1 p2 p3 p4 p5
        go_upto_region 20 with fail
        generalize hw14 : World.alloc wm8 (.cells #[.int .i64 pn, .string pc, .string pt, .bool ps, .slice E3 L.length e3, .slice R3 0 r3] 41) = w14 at *
        clear hw14
        have hll := HOK.out.len
        have HS1 := Lib.hid (rsame_any ⟨pn, pc, pt, ps, L⟩ E1 R1 E3 R3 e1 r1 e3 r3 w14 HP14.out HQ14.out (by dsimp only; omega))
        unfold pndV pndC at HS1
        (obtain ⟨p0, p1, p2, p3, p4, p5⟩ := (HM14.out.1).c6)
        obtain ⟨n0, n1, n2, n3, n4, n5⟩ := HM14.out.2.2.1.c6
        go_wp2_with fail
        -- MARKI
        refine HS1.out.mono ?_
        rintro e wd ⟨rfl, hbd⟩
        have HBd := Lib.hid (HB14.out.trans (hbd.mono HB14.out.size))
        clear hbd HS1
        go_wp2_with (go_at_call 8; refine (awake18_any _).mono ?_; rintro e w9 ⟨rfl, HB9⟩)
        go_ret
        exact ⟨rfl, HBd.out.trans (HB9.mono HBd.out.size)⟩
end Go.Proofs.YtocffknoeknabaaGreatDoor
