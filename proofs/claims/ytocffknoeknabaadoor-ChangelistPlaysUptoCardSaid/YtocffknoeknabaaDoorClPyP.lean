/-
  ChangelistPlays: whatever the input whose bulk is at most 1048576, true.
-/
import Derived.Test.YtocffknoeknabaaDoorDoorL
import Derived.Test.YtocffknoeknabaaDoorCards
import Derived.Test.YtocffknoeknabaaDoorTie
import Derived.Test.YtocffknoeknabaaDoorClPy
import Derived.Test.YtocffknoeknabaaDoorOpC
import Derived.Test.YtocffknoeknabaaDoorCgI
import Derived.Deep.Strs
import Derived.Deep.Slices
namespace Go.Proofs.YtocffknoeknabaaDoor
open Go.ChangeShapes Go.WideShapes Go.ChangeAt Go.RowKit Go.Joins Go.Deep
open Go.ChangeMaps (open_string)

section
variable {H : Type} {enc : TypeId × Value → H} {w : World} {base : Nat} {spare : Nat → Bool} {held : Bool}
theorem Tryd.cellsPend : Tryd.prog.cellsOf 34 = 6 := by kernel_rfl
set_option maxRecDepth 100000 in
/-- A pending that comes in. -/
theorem open_pendU {r : Reach} {b0 : Nat} {v : Value} {d : DataW H} {ps : List MemPlace}
    (hv : Value.okWide Tryd.prog w r b0 34 v) (h : DataW.Trod enc Tryd.prog w base spare held 34 v d ps) :
    ∃ (pn : Int) (pc pt : ByteArray) (pb : Bool) (E R : Option Addr) (n e m c : Nat), v = .agg #[.int .i64 pn, .string pc, .string pt, .bool pb, .slice E n e, .slice R m c] ∧ pc.size + pt.size ≤ Rows.uptoBulk d := by
  obtain ⟨⟨cs⟩, rfl, hsz⟩ := okWide_struct Tryd.underlying34 hv
  obtain ⟨fuel, hf⟩ := h
  obtain ⟨ys, n', _, hDi, _, hyl, hg⟩ := DataW.trod_struct Tryd.underlying34 hf
  have hlen : cs.length = 6 := by simpa [Tryd.cellsPend] using hsz
  match cs, hlen with
  | [v0, v1, v2, v3, v4, v5], _ =>
    have hy : ∀ j, j < 6 → ∃ y, ys[j]? = some y := fun j hj => ⟨ys[j]'(by rw [hyl]; exact hj), List.getElem?_eq_getElem _⟩
    obtain ⟨y0, e0⟩ := hy 0 (by omega)
    obtain ⟨y1, e1⟩ := hy 1 (by omega)
    obtain ⟨y2, e2⟩ := hy 2 (by omega)
    obtain ⟨y3, e3⟩ := hy 3 (by omega)
    obtain ⟨y4, e4⟩ := hy 4 (by omega)
    obtain ⟨y5, e5⟩ := hy 5 (by omega)
    obtain ⟨a, rfl⟩ := int_bulk ((hg 0 _ rfl).trans e0)
    obtain ⟨b, rfl, hb⟩ := str_bulk ((hg 1 _ rfl).trans e1)
    obtain ⟨c, rfl, hc⟩ := str_bulk ((hg 2 _ rfl).trans e2)
    obtain ⟨bo, q3, _⟩ := DataW.trod_bool Tryd.underlying4 ((hg 3 _ rfl).trans e3)
    cases q3
    have h4 : DataW.trod enc Tryd.prog w base spare held n' 32 [v4] = some (y4.1, y4.2) := (hg 4 _ rfl).trans e4
    have h5 : DataW.trod enc Tryd.prog w base spare held n' 28 [v5] = some (y5.1, y5.2) := (hg 5 _ rfl).trans e5
    obtain ⟨E, ec, le, q4, _, _, _⟩ := open_rows edtK Tryd.underlying32 Tryd.cellsEdt (fun x => x.path.size + x.src.size) edt_el h4
    obtain ⟨R, rc, lr, q5, _, _, _⟩ := open_rows rcdK Tryd.underlying28 Tryd.cellsRcd (fun x => x.src.size + x.dst.size) rcd_el h5
    injection q4 with q4
    injection q5 with q5
    subst q4 q5
    refine ⟨a, b, c, bo, E, R, le.length, ec, lr.length, rc, rfl, ?_⟩
    rw [(Prod.mk.inj hDi).1]
    match ys, hyl, e1, e2 with
    | [z0, z1, z2, z3, z4, z5], _, e1, e2 =>
      injection e1 with e1
      injection e2 with e2
      subst e1 e2
      simp only [List.map_cons, List.map_nil, Rows.uptoBulk, Rows.uptoBulkAll]
      omega
end
theorem lawPlays (A : Option Addr) (ca : Nat) (l : List Chg) (F : Option Addr) (fc : Nat) (ops : List Opr) (pn : Int) (pc pt : ByteArray) (ps : Bool) (E0 R0 : Option Addr) (n0 e0 m0 r0 : Nat) (W : World) (hA : ChsIn A l W) (hb : ChBnd l) (hF : oprK.In F ops W) (ho : ops.length ≤ 1048576 ∧ ∀ o ∈ ops, o.s.size ≤ 1048576 ∧ o.t.size ≤ 1048576) (hp : pc.size + pt.size ≤ 1048576) (hg : G0 W) :
    Calls Tryd.prog 6 #[.slice A l.length ca, .slice F ops.length fc, .agg #[.int .i64 pn, .string pc, .string pt, .bool ps, .slice E0 n0 e0, .slice R0 m0 r0]] W fun e w' => e = .returned (.bool true) ∧ Below W.heap.size W w' :=
  cplays_any l ops A F ca fc pn pc pt ps E0 R0 n0 e0 m0 r0 W hA hb hF ho.1 ho.2 (by omega) (by omega) hg

set_option maxRecDepth 100000 in
theorem cplays_contract (H : Type) (enc : TypeId × Value → H) (W : World) (base : Nat) (args : Array Value) (ds gs : List (DataW H)) (before : List MemPlace)
    (hval0 : ∀ (j : Nat) t v, Tryd.f6.params[j]? = some t → args[j]? = some v → Value.okWide Tryd.prog W .any base t v)
    (hW : DataW.Whole enc Tryd.prog Tryd.f6.params.toList Rows.changelistPlaysSpec.vars false W args.toList ds gs before) (hsh : W.ShapedOpen Tryd.prog) (hcond : Rows.uptoBulkAll (ds ++ gs) ≤ 1048576) :
    Calls Tryd.prog 6 args W fun e W' => ∃ v, e = .returned v ∧ Rows.changelistPlaysSpec.post enc Tryd.prog Tryd.f6 false true false false W args v W' := by
  have hg : G0 W := g0_of_shaped hsh
  have hval : ∀ (j : Nat) t v, Tryd.f6.params[j]? = some t → args[j]? = some v → Value.okWide Tryd.prog W .any base t v := hval0
  have hW' := hW
  obtain ⟨_, _, hA0, hV, rfl, hfz, hnd⟩ := hW
  have hA : DataW.TrodAll enc Tryd.prog W 0 (fun _ => true) true Tryd.f6.params.toList args.toList ds _ := hA0
  rw [Tryd.params6] at hA hval
  obtain ⟨argl⟩ := args
  obtain ⟨v0, vs0, d0, ds0, p0, q0, eqv0, eqd0, _, h0, t0⟩ := trodAll_cons hA
  obtain ⟨v1, vs1, d1, ds1, p1, q1, eqv1, eqd1, _, h1, t1⟩ := trodAll_cons t0
  obtain ⟨v2, vs2, d2, ds2, p2, q2, eqv2, eqd2, _, h2, t2⟩ := trodAll_cons t1
  obtain ⟨eqv, eqd, _⟩ := trodAll_nil t2
  dsimp only at eqv0
  obtain rfl : argl = [v0, v1, v2] := by rw [eqv0, eqv1, eqv2, eqv]
  obtain rfl : ds = [d0, d1, d2] := by rw [eqd0, eqd1, eqd2, eqd]
  obtain ⟨la, lc, l, rfl, r_l, s_l⟩ := open_chgsU (hval 0 22 v0 rfl rfl) h0
  obtain ⟨opsa, opsc, ops, rfl, r_ops, s_ops⟩ := open_oprsU (hval 1 23 v1 rfl rfl) h1
  obtain ⟨pn, pc, pt, ps, pE, pR, p0, p1, p2, p3, rfl, s_p⟩ := open_pendU (hval 2 34 v2 rfl rfl) h2
  have b_0 : Rows.uptoBulk d0 ≤ 1048576 := Nat.le_trans (bulk_mem (by simp)) hcond
  have b_1 : Rows.uptoBulk d1 ≤ 1048576 := Nat.le_trans (bulk_mem (by simp)) hcond
  have b_2 : Rows.uptoBulk d2 ≤ 1048576 := Nat.le_trans (bulk_mem (by simp)) hcond
  refine (lawPlays la lc l opsa opsc ops pn pc pt ps pE pR p0 p1 p2 p3 W r_l (s_l b_0) r_ops (s_ops b_1) (Nat.le_trans s_p b_2) hg).mono fun e W' ⟨he, hb⟩ => ⟨_, he, ?_⟩
  exact law_post Tryd.laidOut rfl hW' (by kernel_rfl) rfl Tryd.underlying4 (fun hg => by subst hg; exact ⟨rfl, rfl, rfl⟩) hb

theorem cplays_met (os : Os) : laidMet Tryd.prog Rows.changelistPlaysUptoRow.laid ((laidWorld os).forCall (fun _ _ => 0) ⟨#[], #[.slice none 0 0, .slice none 0 0, .agg #[.int .i64 0, .string ⟨#[]⟩, .string ⟨#[]⟩, .bool false, .slice none 0 0, .slice none 0 0]], []⟩).memory :=
  laidMet_of_run' 8 (by kernel_rfl) (by kernel_rfl)
theorem cplays_reads (os : Os) {H : Type} (enc : TypeId × Value → H) : ∃ places, DataW.whole enc Tryd.prog ((laidWorld os).forCall (fun _ _ => 0) ⟨#[], #[.slice none 0 0, .slice none 0 0, .agg #[.int .i64 0, .string ⟨#[]⟩, .string ⟨#[]⟩, .bool false, .slice none 0 0, .slice none 0 0]], []⟩).memory Tryd.f6.params.toList Rows.changelistPlaysSpec.vars false (#[.slice none 0 0, .slice none 0 0, .agg #[.int .i64 0, .string ⟨#[]⟩, .string ⟨#[]⟩, .bool false, .slice none 0 0, .slice none 0 0]] : Array Value).toList 8 = some ([.nil, .nil, .agg [.lit (.int .i64 0), .lit (.string []), .lit (.string []), .lit (.bool false), .nil, .nil]], [], places) :=
  ⟨[], by kernel_rfl⟩

set_option maxRecDepth 100000 in
theorem cplays_lifted (os : Os) (started : os.Started) (H : Type) (enc : TypeId × Value → H) (F : Stop.Interp) :
    ReturnsInHanded {} Tryd.checked os 6 .any ((Rows.OpenSpec.upto Rows.changelistPlaysSpec).preRow enc Tryd.prog Tryd.f6 Rows.changelistPlaysUptoRow.domain false Rows.changelistPlaysUptoRow.laid) (((Rows.OpenSpec.upto Rows.changelistPlaysSpec).at F).post enc Tryd.prog Tryd.f6 false true false false) := by
  obtain ⟨places, hx⟩ := cplays_reads os enc
  refine returnsInHanded_of_row (C := Tryd.checked) (s := Rows.OpenSpec.upto Rows.changelistPlaysSpec) Tryd.own started (by kernel_rfl) Tryd.func6
    (witness_row_at (enc := enc) (C := Tryd.checked) false (laidWorld os) #[.slice none 0 0, .slice none 0 0, .agg #[.int .i64 0, .string ⟨#[]⟩, .string ⟨#[]⟩, .bool false, .slice none 0 0, .slice none 0 0]] rfl (by kernel_rfl) (by kernel_rfl) (by kernel_rfl)
      (OpenSpec.preRow_of_cond 8 hx (by kernel_rfl) (fun k hk => by cases hk; kernel_rfl) (by kernel_rfl) (cplays_met os))) ?_
  intro W base args ds gs before hval hW _ hcond _ _ hsh _
  exact cplays_contract H enc W base args ds gs before hval hW hsh (of_decide_eq_true (hcond _ rfl))

theorem cplays_holds : Rows.ChangelistPlaysUptoSaid :=
  OpenClaim.holds_of_cond 6 Tryd.f6 rfl rfl rfl rfl rfl rfl rfl ⟨rfl, rfl, rfl, rfl, rfl⟩ rfl rfl rfl rfl rfl (by kernel_rfl) Tryd.func6 (by kernel_rfl)
    (of_decide_eq_true (by kernel_rfl)) (by unfold Func.isWrapper; first | (rw [if_pos (by decide +kernel)]; kernel_rfl) | (rw [if_neg (by decide +kernel)]; exact ⟨rfl, rfl⟩))
    (fun os started H enc _ F => by rw [OpenClaim.pre_eq_preRow]; exact cplays_lifted os started H enc F)

theorem cplays_plain (f : FuncId) (fn : Func) (hf : Tryd.pinned.checked.prog.funcNamed "stockyard/stockyardlaw18.ChangelistPlays" = some f) (hfn : Tryd.pinned.checked.prog.funcs[f]? = some fn) :
    false = Tryd.pinned.checked.prog.looks [] ∧ ∀ (j : Nat) t, fn.params[j]? = some t → Tryd.pinned.checked.prog.wantsStandIn t = false := by
  obtain rfl : f = 6 := Option.some.inj ((show Tryd.prog.funcNamed "stockyard/stockyardlaw18.ChangelistPlays" = some 6 by kernel_rfl).symm.trans hf) |>.symm
  obtain rfl : fn = Tryd.f6 := (Option.some.inj (Tryd.func6.symm.trans hfn)).symm
  refine ⟨by kernel_rfl, fun j t ht => ?_⟩
  rw [Tryd.params6] at ht
  have hm := Array.mem_of_getElem? ht
  exact wants_all (by kernel_rfl) t hm

/-- The card. -/
theorem cplays_card : Rows.ChangelistPlaysUptoCardSaid :=
  Claim7.holds_tied_plain_at .later [] _ _ _ _ cplays_holds (fun _ h => by cases h) (by kernel_rfl) (fun _ h => by cases h) changelistPlaysUpto_row_tie rfl ⟨rfl, rfl⟩ (by kernel_rfl) rfl cplays_plain (by kernel_rfl)

#print axioms cplays_card
end Go.Proofs.YtocffknoeknabaaDoor
