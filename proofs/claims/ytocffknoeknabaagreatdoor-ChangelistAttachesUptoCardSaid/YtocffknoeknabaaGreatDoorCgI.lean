/-
  The base for seats without the journal (joined by a program of ours from our own texts).
-/
import Derived.Test.YtocffknoeknabaaGreatDoorCgC
import Derived.IntWalk
import Derived.Test.YtocffknoeknabaaGreatDoorOpC
namespace Go.Proofs.YtocffknoeknabaaGreatDoor
section
open Go.RowKit

def Opr.cells (o : Opr) : List Value := [.int .i64 o.kind, .string o.s, .string o.t, .int .i64 o.ty.base, .bool o.ty.kw, .bool o.ty.ex, .bool o.ty.xe, .int .u64 o.con.sum, .int .i64 o.con.size]
def Opr.val (o : Opr) : Value := .agg o.cells.toArray
def oprK : RowK Opr := ⟨Opr.cells, 9, by decide, fun _ => rfl, fun x u hu => by
  simp only [Opr.cells, List.mem_cons, List.not_mem_nil, or_false] at hu
  rcases hu with rfl | rfl | rfl | rfl | rfl | rfl | rfl | rfl | rfl <;> rfl⟩
/-- Calls that are few and short. -/
def FewL (l : List Opr) : Prop := l.length ≤ 80 ∧ ∀ o ∈ l, o.s.size + o.t.size ≤ 500
def FewRet (l : List Opr) (w : World) (e : Ending) (w' : World) : Prop := ∃ b : Bool, e = .returned (.bool b) ∧ (b = true → FewL l) ∧ Below w.heap.size w w'
set_option maxRecDepth 100000 in
set_option maxHeartbeats 3200000 in
theorem few_any (l : List Opr) (A : Option Addr) (c : Nat) (w : World) (hA : oprK.In A l w) (hn : l.length ≤ 1048576) (hs : ∀ o ∈ l, o.s.size ≤ 1048576 ∧ o.t.size ≤ 1048576) :
    Calls Tryz.prog 7 #[.slice A l.length c] w (FewRet l w) := by
  have HA := Lib.hid hA
  have HS := Lib.hid hs
  clear hA hs
  go_enter Tryz.func7, Tryz.ntmps7
  go_wp2_with fail
  go_loopw [7] (fun i wr => ∃ k : Nat, i = .int .i64 k ∧ k ≤ l.length ∧ Below w.heap.size w wr ∧ Hid (∀ o ∈ l.take k, o.s.size + o.t.size ≤ 500)) (fun i _ => l.length - (intOf i).toNat)
  case atStart => exact ⟨0, rfl, Nat.zero_le _, Below.refl _ _, fun x h => by simp at h⟩
  case round =>
    obtain ⟨k, rfl, hk, hB, HF⟩ := hrel
    have HB := Lib.hid hB
    clear hB
    by_cases hlt : k < l.length
    · obtain ⟨b, off, rfl, hbl, hat⟩ := (HA.out.below HB.out) (by omega)
      have hg := List.getElem?_eq_getElem hlt
      have hsz := HS.out l[k] (List.getElem_mem hlt)
      have HT : Hid (l[k].s.size + l[k].t.size ≤ 500 → ∀ o ∈ l.take (k + 1), o.s.size + o.t.size ≤ 500) := fun h o ho => by
        rw [List.take_succ_eq_append_getElem hlt] at ho
        rcases List.mem_append.1 ho with ho | ho
        · exact HF.out o ho
        · rw [List.mem_singleton] at ho
          rw [ho]
          exact h
      generalize hx : l[k] = x at *
      have hcv := fun j (u : Value) (hj : x.cells[j]? = some u) => (hat.get hg hj)
      have c0 := hcv 0 _ rfl
      have c1 := hcv 1 _ rfl
      have c2 := hcv 2 _ rfl
      have c3 := hcv 3 _ rfl
      have c4 := hcv 4 _ rfl
      have c5 := hcv 5 _ rfl
      have c6 := hcv 6 _ rfl
      have c7 := hcv 7 _ rfl
      have c8 := hcv 8 _ rfl
      have e9 : oprK.n = 9 := rfl
      simp only [e9, Nat.add_zero] at c0 c1 c2 c3 c4 c5 c6 c7 c8
      clear hcv e9 hat hg hx
      by_cases h5 : x.s.size + x.t.size ≤ 500
      · have h5' : ¬ (500 : Int) < (x.s.size : Int) + (x.t.size : Int) := by omega
        have HTT := Lib.hid (HT.out h5)
        clear HT h5
        go_wp2_with fail
        go_roundw
        case rel => exact ⟨k + 1, by go_num, by omega, HB.out.alloc HB.out.size _, HTT.out⟩
        case measure => simp [intOf]; omega
      · have h5' : (500 : Int) < (x.s.size : Int) + (x.t.size : Int) := by omega
        clear HT h5
        go_wp2_with fail
        go_ret
        exact ⟨false, rfl, fun h => absurd h (by decide), HB.out.alloc HB.out.size _⟩
    · obtain rfl : k = l.length := by omega
      have HFF : Hid (∀ o ∈ l, o.s.size + o.t.size ≤ 500) := by have := HF.out; rwa [List.take_length] at this
      go_wp2_with fail
      go_ret
      exact ⟨decide ((l.length : Int) ≤ 80), rfl, fun h => ⟨by have := of_decide_eq_true h; omega, HFF.out⟩, HB.out⟩
end

section
open Go.ChangeShapes Go.WideShapes Go.ChangeAt Go.RowKit Go.Joins Go.Deep

section
variable {H : Type} {enc : TypeId × Value → H} {w : World} {base : Nat} {spare : Nat → Bool} {held : Bool}
set_option maxRecDepth 100000 in
theorem Tryz.cellsOpr : Tryz.prog.cellsOf 30 = 9 := by kernel_rfl
set_option maxRecDepth 100000 in
theorem opr_el (n : Nat) (cs : List Value) (D : DataW H) (ps : List MemPlace) (hl : cs.length = oprK.n) (h : DataW.trod enc Tryz.prog w base spare held n 30 cs = some (D, ps)) :
    ∃ x : Opr, cs = oprK.cells x ∧ x.s.size + x.t.size ≤ Rows.uptoBulk D := by
  obtain ⟨ys, n', _, hDi, _, hyl, hg⟩ := DataW.trod_struct Tryz.underlying30 h
  match cs, hl with
  | [v0, v1, v2, v3, v4, v5, v6, v7, v8], _ =>
    have hy : ∀ j, j < 5 → ∃ y, ys[j]? = some y := fun j hj => ⟨ys[j]'(by rw [hyl]; exact hj), List.getElem?_eq_getElem _⟩
    obtain ⟨y0, e0⟩ := hy 0 (by omega)
    obtain ⟨y1, e1⟩ := hy 1 (by omega)
    obtain ⟨y2, e2⟩ := hy 2 (by omega)
    obtain ⟨y3, e3⟩ := hy 3 (by omega)
    obtain ⟨y4, e4⟩ := hy 4 (by omega)
    obtain ⟨b, rfl⟩ := int_bulk ((hg 0 _ rfl).trans e0)
    obtain ⟨a, rfl, b0⟩ := str_bulk ((hg 1 _ rfl).trans e1)
    obtain ⟨j, rfl, b5⟩ := str_bulk ((hg 2 _ rfl).trans e2)
    have ht : DataW.trod enc Tryz.prog w base spare held n' 25 [v3, v4, v5, v6] = some (y3.1, y3.2) := (hg 3 _ rfl).trans e3
    have hc : DataW.trod enc Tryz.prog w base spare held n' 28 [v7, v8] = some (y4.1, y4.2) := (hg 4 _ rfl).trans e4
    obtain ⟨zs, n2, _, _, _, hzl, hz⟩ := DataW.trod_struct Tryz.underlying25 ht
    obtain ⟨us, n3, _, _, _, hul, hu⟩ := DataW.trod_struct Tryz.underlying28 hc
    have hzy : ∀ j, j < 4 → ∃ y, zs[j]? = some y := fun j hj => ⟨zs[j]'(by rw [hzl]; exact hj), List.getElem?_eq_getElem _⟩
    have huy : ∀ j, j < 2 → ∃ y, us[j]? = some y := fun j hj => ⟨us[j]'(by rw [hul]; exact hj), List.getElem?_eq_getElem _⟩
    obtain ⟨p0, g0⟩ := hzy 0 (by omega)
    obtain ⟨p1, g1⟩ := hzy 1 (by omega)
    obtain ⟨p2, g2⟩ := hzy 2 (by omega)
    obtain ⟨p3, g3⟩ := hzy 3 (by omega)
    obtain ⟨r0, k0⟩ := huy 0 (by omega)
    obtain ⟨r1, k1⟩ := huy 1 (by omega)
    obtain ⟨tb, rfl⟩ := int_bulk ((hz 0 _ rfl).trans g0)
    obtain ⟨tk, q1, _⟩ := DataW.trod_bool Tryz.underlying4 ((hz 1 _ rfl).trans g1)
    obtain ⟨te, q2, _⟩ := DataW.trod_bool Tryz.underlying4 ((hz 2 _ rfl).trans g2)
    obtain ⟨tx, q3, _⟩ := DataW.trod_bool Tryz.underlying4 ((hz 3 _ rfl).trans g3)
    obtain ⟨cu, q4, _⟩ := DataW.trod_int Tryz.underlying26 ((hu 0 _ rfl).trans k0)
    obtain ⟨cz, rfl⟩ := int_bulk ((hu 1 _ rfl).trans k1)
    cases q1; cases q2; cases q3; cases q4
    refine ⟨⟨b, a, j, ⟨tb, tk, te, tx⟩, ⟨cu, cz⟩⟩, rfl, ?_⟩
    rw [(Prod.mk.inj hDi).1]
    match ys, hyl, e1, e2 with
    | [z0, z1, z2, z3, z4], _, e1, e2 =>
      injection e1 with e1
      injection e2 with e2
      subst e1 e2
      simp only [List.map_cons, List.map_nil, Rows.uptoBulk, Rows.uptoBulkAll]
      show a.size + j.size ≤ _
      omega
set_option maxRecDepth 100000 in
/-- Calls that come in. -/
theorem open_oprsU {r : Reach} {b0 : Nat} {v : Value} {d : DataW H} {ps : List MemPlace}
    (_hv : Value.okWide Tryz.prog w r b0 23 v) (h : DataW.Trod enc Tryz.prog w base spare held 23 v d ps) :
    ∃ (A : Option Addr) (c : Nat) (l : List Opr), v = .slice A l.length c ∧ oprK.In A l w ∧ (Rows.uptoBulk d ≤ 1048576 → l.length ≤ 1048576 ∧ ∀ o ∈ l, o.s.size ≤ 1048576 ∧ o.t.size ≤ 1048576) := by
  obtain ⟨A0, len0, c0, rfl⟩ := okWide_slice Tryz.underlying23 _hv
  obtain ⟨fuel, hf⟩ := h
  obtain ⟨A, c, l, h1, h2, h3, h4⟩ := open_rows oprK Tryz.underlying23 Tryz.cellsOpr (fun x => x.s.size + x.t.size) opr_el hf
  simp only [Value.cells, List.cons.injEq, Value.slice.injEq, and_true] at h1
  obtain ⟨rfl, rfl, rfl⟩ := h1
  exact ⟨_, _, l, rfl, h2, fun hb => ⟨by omega, fun o ho => by have := h4 o ho; omega⟩⟩
end
end

end Go.Proofs.YtocffknoeknabaaGreatDoor
