/-
  CreditAlone: whatever the input whose bulk is at most 1048576, true.
-/
import Derived.Test.YthonhikkoabhlaaGreatDoorDoorL
import Derived.Test.YthonhikkoabhlaaGreatDoorCards
import Derived.Test.YthonhikkoabhlaaGreatDoorTie
import Derived.Test.YthonhikkoabhlaaGreatDoorCrAl
import Derived.Test.YthonhikkoabhlaaGreatDoorOpC
import Derived.Deep.Strs
import Derived.Deep.Slices
namespace Go.Proofs.YthonhikkoabhlaaGreatDoor
open Go.ChangeShapes Go.WideShapes Go.ChangeAt Go.RowKit Go.Joins Go.Deep
open Go.ChangeMaps (open_string)

set_option maxRecDepth 100000 in
theorem Tryz.cellsFile : Tryz.prog.cellsOf 47 = 2 := by kernel_rfl
section
variable {H : Type} {enc : TypeId × Value → H} {w : World} {base : Nat} {spare : Nat → Bool} {held : Bool}
set_option maxRecDepth 100000 in
theorem open_fileU {r : Reach} {b0 : Nat} {v : Value} {d : DataW H} {ps : List MemPlace}
    (hv : Value.okWide Tryz.prog w r b0 47 v) (h : DataW.Trod enc Tryz.prog w base spare held 47 v d ps) :
    ∃ (p : ByteArray) (f : Int), v = .agg #[.string p, .int .i64 f] ∧ p.size ≤ Rows.uptoBulk d := by
  obtain ⟨⟨cs⟩, rfl, hsz⟩ := okWide_struct Tryz.underlying47 hv
  obtain ⟨fuel, hf⟩ := h
  obtain ⟨ys, n', _, hDi, _, hyl, hg⟩ := DataW.trod_struct Tryz.underlying47 hf
  have hlen : cs.length = 2 := by simpa [Tryz.cellsFile] using hsz
  match cs, hlen with
  | [v0, v1], _ =>
    have hy : ∀ j, j < 2 → ∃ y, ys[j]? = some y := fun j hj => ⟨ys[j]'(by rw [hyl]; exact hj), List.getElem?_eq_getElem _⟩
    obtain ⟨y0, e0⟩ := hy 0 (by omega)
    obtain ⟨y1, e1⟩ := hy 1 (by omega)
    obtain ⟨a, rfl, hb⟩ := str_bulk ((hg 0 _ rfl).trans e0)
    obtain ⟨b, rfl⟩ := int_bulk ((hg 1 _ rfl).trans e1)
    refine ⟨a, b, rfl, ?_⟩
    have hm := bulk_mem (List.mem_map.2 ⟨y0, List.mem_of_getElem? e0, rfl⟩ : y0.1 ∈ ys.map (·.1))
    rw [(Prod.mk.inj hDi).1]
    simp only [Rows.uptoBulk]
    omega
end


set_option maxRecDepth 100000 in
theorem alone_contract (H : Type) (enc : TypeId × Value → H) (W : World) (base : Nat) (args : Array Value) (ds gs : List (DataW H)) (before : List MemPlace)
    (hval0 : ∀ (j : Nat) t v, Tryz.f4.params[j]? = some t → args[j]? = some v → Value.okWide Tryz.prog W .any base t v)
    (hW : DataW.Whole enc Tryz.prog Tryz.f4.params.toList Rows.creditAloneSpec.vars false W args.toList ds gs before) (hsh : W.ShapedOpen Tryz.prog) (hcond : Rows.uptoBulkAll (ds ++ gs) ≤ 1048576) :
    Calls Tryz.prog 4 args W fun e W' => ∃ v, e = .returned v ∧ Rows.creditAloneSpec.post enc Tryz.prog Tryz.f4 false true false false W args v W' := by
  have hg : G0 W := g0_of_shaped hsh
  have hval : ∀ (j : Nat) t v, Tryz.f4.params[j]? = some t → args[j]? = some v → Value.okWide Tryz.prog W .any base t v := hval0
  have hW' := hW
  obtain ⟨_, _, hA0, hV, rfl, hfz, hnd⟩ := hW
  have hA : DataW.TrodAll enc Tryz.prog W 0 (fun _ => true) true Tryz.f4.params.toList args.toList ds _ := hA0
  rw [Tryz.params4] at hA hval
  obtain ⟨argl⟩ := args
  obtain ⟨v0, vs0, d0, ds0, p0, q0, eqv0, eqd0, _, h0, t0⟩ := trodAll_cons hA
  obtain ⟨v1, vs1, d1, ds1, p1, q1, eqv1, eqd1, _, h1, t1⟩ := trodAll_cons t0
  obtain ⟨eqv, eqd, _⟩ := trodAll_nil t1
  dsimp only at eqv0
  obtain rfl : argl = [v0, v1] := by rw [eqv0, eqv1, eqv]
  obtain rfl : ds = [d0, d1] := by rw [eqd0, eqd1, eqd]
  obtain ⟨la, lc, l, rfl, r_l, s_l⟩ := open_chgsU (hval 0 22 v0 rfl rfl) h0
  obtain ⟨fp, fn, rfl, s_f⟩ := open_fileU (hval 1 47 v1 rfl rfl) h1
  have b_0 : Rows.uptoBulk d0 ≤ 1048576 := Nat.le_trans (bulk_mem (by simp)) hcond
  have b_1 : Rows.uptoBulk d1 ≤ 1048576 := Nat.le_trans (bulk_mem (by simp)) hcond
  refine (alone_any l la lc fp fn W r_l (s_l b_0) (Nat.le_trans s_f b_1) hg).mono fun e W' ⟨he, hb⟩ => ⟨_, he, ?_⟩
  exact law_post Tryz.laidOut rfl hW' (by kernel_rfl) rfl Tryz.underlying4 (fun hg => by subst hg; exact ⟨rfl, rfl, rfl⟩) hb

theorem alone_met (os : Os) : laidMet Tryz.prog Rows.creditAloneUptoRow.laid ((laidWorld os).forCall (fun _ _ => 0) ⟨#[], #[.slice none 0 0, .agg #[.string ⟨#[]⟩, .int .i64 0]], []⟩).memory :=
  laidMet_of_run' 8 (by kernel_rfl) (by kernel_rfl)
theorem alone_reads (os : Os) {H : Type} (enc : TypeId × Value → H) : ∃ places, DataW.whole enc Tryz.prog ((laidWorld os).forCall (fun _ _ => 0) ⟨#[], #[.slice none 0 0, .agg #[.string ⟨#[]⟩, .int .i64 0]], []⟩).memory Tryz.f4.params.toList Rows.creditAloneSpec.vars false (#[.slice none 0 0, .agg #[.string ⟨#[]⟩, .int .i64 0]] : Array Value).toList 8 = some ([.nil, .agg [.lit (.string []), .lit (.int .i64 0)]], [], places) :=
  ⟨[], by kernel_rfl⟩

set_option maxRecDepth 100000 in
theorem alone_lifted (os : Os) (started : os.Started) (H : Type) (enc : TypeId × Value → H) (F : Stop.Interp) :
    ReturnsInHanded {} Tryz.checked os 4 .any ((Rows.OpenSpec.upto Rows.creditAloneSpec).preRow enc Tryz.prog Tryz.f4 Rows.creditAloneUptoRow.domain false Rows.creditAloneUptoRow.laid) (((Rows.OpenSpec.upto Rows.creditAloneSpec).at F).post enc Tryz.prog Tryz.f4 false true false false) := by
  obtain ⟨places, hx⟩ := alone_reads os enc
  refine returnsInHanded_of_row (C := Tryz.checked) (s := Rows.OpenSpec.upto Rows.creditAloneSpec) Tryz.own started (by kernel_rfl) Tryz.func4
    (witness_row_at (enc := enc) (C := Tryz.checked) false (laidWorld os) #[.slice none 0 0, .agg #[.string ⟨#[]⟩, .int .i64 0]] rfl (by kernel_rfl) (by kernel_rfl) (by kernel_rfl)
      (OpenSpec.preRow_of_cond 8 hx (by kernel_rfl) (fun k hk => by cases hk; kernel_rfl) (by kernel_rfl) (alone_met os))) ?_
  intro W base args ds gs before hval hW _ hcond _ _ hsh _
  exact alone_contract H enc W base args ds gs before hval hW hsh (of_decide_eq_true (hcond _ rfl))

theorem alone_holds : Rows.CreditAloneUptoSaid :=
  OpenClaim.holds_of_cond 4 Tryz.f4 rfl rfl rfl rfl rfl rfl rfl ⟨rfl, rfl, rfl, rfl, rfl⟩ rfl rfl rfl rfl rfl (by kernel_rfl) Tryz.func4 (by kernel_rfl)
    (of_decide_eq_true (by kernel_rfl)) (by unfold Func.isWrapper; first | (rw [if_pos (by decide +kernel)]; kernel_rfl) | (rw [if_neg (by decide +kernel)]; exact ⟨rfl, rfl⟩))
    (fun os started H enc _ F => by rw [OpenClaim.pre_eq_preRow]; exact alone_lifted os started H enc F)

theorem alone_plain (f : FuncId) (fn : Func) (hf : Tryz.pinned.checked.prog.funcNamed "stockyard/stockyardlaw14.CreditAlone" = some f) (hfn : Tryz.pinned.checked.prog.funcs[f]? = some fn) :
    false = Tryz.pinned.checked.prog.looks [] ∧ ∀ (j : Nat) t, fn.params[j]? = some t → Tryz.pinned.checked.prog.wantsStandIn t = false := by
  obtain rfl : f = 4 := Option.some.inj ((show Tryz.prog.funcNamed "stockyard/stockyardlaw14.CreditAlone" = some 4 by kernel_rfl).symm.trans hf) |>.symm
  obtain rfl : fn = Tryz.f4 := (Option.some.inj (Tryz.func4.symm.trans hfn)).symm
  refine ⟨by kernel_rfl, fun j t ht => ?_⟩
  rw [Tryz.params4] at ht
  have hm := Array.mem_of_getElem? ht
  exact wants_all (by kernel_rfl) t hm

/-- The card. -/
theorem alone_card : Rows.CreditAloneUptoCardSaid :=
  Claim7.holds_tied_plain_at .later [] _ _ _ _ alone_holds (fun _ h => by cases h) (by kernel_rfl) (fun _ h => by cases h) creditAloneUpto_row_tie rfl ⟨rfl, rfl⟩ (by kernel_rfl) rfl alone_plain (by kernel_rfl)

#print axioms alone_card
end Go.Proofs.YthonhikkoabhlaaGreatDoor
