/-
  The statement of HaveChecks, in its second form.
-/
import Derived.Test.YtjjdffafibonhaaGreatDoorDoorR
import Derived.Test.YtjjdffafibonhaaGreatDoorCards
import Derived.Test.YtjjdffafibonhaaGreatDoorTie
import Derived.Test.YtjjdffafibonhaaGreatDoorHvCh
import Derived.Deep.Strs
import Derived.Deep.Slices
namespace Go.Proofs.YtjjdffafibonhaaGreatDoor
open Go.ChangeShapes Go.WideShapes Go.ChangeAt Go.RowKit Go.Joins Go.Deep
open Go.ChangeMaps (open_string)

theorem bulk_pos {H : Type} : ∀ d : DataW H, 1 ≤ Rows.uptoBulk d
  | .lit l => by cases l <;> simp [Rows.uptoBulk]
  | .nil => by simp [Rows.uptoBulk]
  | .ptr _ => by simp [Rows.uptoBulk]
  | .slice _ _ => by simp [Rows.uptoBulk]
  | .agg _ => by simp [Rows.uptoBulk]
  | .iface _ _ => by simp [Rows.uptoBulk]
  | .map _ => by simp [Rows.uptoBulk]
  | .held _ => by simp [Rows.uptoBulk]
theorem bulk_mem {H : Type} {d : DataW H} : ∀ {l : List (DataW H)}, d ∈ l → Rows.uptoBulk d ≤ Rows.uptoBulkAll l
  | [], h => by cases h
  | x :: r, h => by
    simp only [Rows.uptoBulkAll]
    rcases List.mem_cons.1 h with rfl | h
    · omega
    · have := bulk_mem h
      omega
theorem bulk_len {H : Type} : ∀ l : List (DataW H), l.length ≤ Rows.uptoBulkAll l
  | [] => by simp
  | x :: r => by
    have := bulk_len r
    have := bulk_pos x
    simp only [Rows.uptoBulkAll, List.length_cons]
    omega
theorem list_of {α : Type} (n : Nat) (Q : Nat → α → Prop) (h : ∀ i, i < n → ∃ a, Q i a) : ∃ l : List α, l.length = n ∧ ∀ (i : Nat) (a : α), l[i]? = some a → Q i a := by
  induction n with
  | zero => exact ⟨[], rfl, fun i a h => by simp at h⟩
  | succ n ih =>
    obtain ⟨l, hl, hq⟩ := ih (fun i hi => h i (by omega))
    obtain ⟨a, ha⟩ := h n (by omega)
    refine ⟨l ++ [a], by simp [hl], fun i b hb => ?_⟩
    rcases Nat.lt_trichotomy i n with hi | hi | hi
    · rw [List.getElem?_append_left (by omega)] at hb
      exact hq i b hb
    · subst hi
      rw [List.getElem?_append_right (by omega), hl] at hb
      simp at hb
      subst hb
      exact ha
    · rw [List.getElem?_eq_none (by simp; omega)] at hb
      cases hb

theorem Tryz.cells3 : Tryz.prog.cellsOf 32 = 3 := by kernel_rfl

set_option maxRecDepth 100000 in
/-- A slice of entries that comes in; no text in it is longer than what is read. -/
theorem open_haves {H : Type} {enc : TypeId × Value → H} {w : World} {base : Nat} {spare : Nat → Bool} {held : Bool} {r : Reach} {b0 : Nat} {v : Value} {d : DataW H} {ps : List MemPlace}
    (hv : Value.okWide Tryz.prog w r b0 29 v) (h : DataW.Trod enc Tryz.prog w base spare held 29 v d ps) :
    ∃ (A : Option Addr) (c : Nat) (raw : List Hv), v = .slice A raw.length c ∧ Rd 3 (ghW w) w A raw.length (celH raw) ∧ raw.length ≤ Rows.uptoBulk d ∧ ∀ q ∈ raw, q.path.size ≤ Rows.uptoBulk d ∧ q.loc.size ≤ Rows.uptoBulk d := by
  obtain ⟨A, len, c, rfl⟩ := okWide_slice Tryz.underlying29 hv
  obtain ⟨fuel, hf⟩ := h
  rcases open_slice Tryz.underlying29 hf with ⟨hcs, hx⟩ | ⟨a, len', cap, m, n, D, Pl, hcs, _, hl, hm, hmm, hx, hi⟩
  · simp only [Value.cells, List.cons.injEq, Value.slice.injEq, and_true] at hcs
    obtain ⟨rfl, rfl, rfl⟩ := hcs
    exact ⟨none, 0, [], rfl, Rd.nil _ _ _ _, by simp, by simp⟩
  · simp only [Value.cells, List.cons.injEq, Value.slice.injEq, and_true] at hcs
    obtain ⟨rfl, rfl, rfl⟩ := hcs
    obtain ⟨hd, _⟩ := Prod.mk.inj hx
    have hle : len ≤ m := by rw [hmm]; split <;> omega
    have key : ∀ i, i < len → ∃ o : Hv, (w.cell? (a.add (i * 3)) = some (.string o.path) ∧ w.cell? (a.add (i * 3 + 1)) = some (.int .i64 o.num) ∧ w.cell? (a.add (i * 3 + 2)) = some (.string o.loc)) ∧ o.path.size ≤ Rows.uptoBulk (D i) ∧ o.loc.size ≤ Rows.uptoBulk (D i) := by
      intro i hlt
      obtain ⟨cs', hc, ht⟩ := hi i (by omega)
      rw [Tryz.cells3] at hc
      obtain ⟨_, hcl, hat⟩ := World.cells?_some hc
      obtain ⟨y0, y1, y2, n', hD, _, g0, g1, g2⟩ := trod_struct3 Tryz.underlying32 ht
      match cs', hcl with
      | [v0, v1, v2], _ =>
        obtain ⟨p, q0, r0, _⟩ := DataW.trod_string Tryz.underlying9 g0
        obtain ⟨k, q1, r1⟩ := DataW.trod_int Tryz.underlying3 g1
        obtain ⟨s, q2, r2, _⟩ := DataW.trod_string Tryz.underlying9 g2
        cases q0; cases q1; cases q2
        have hb : D i = .agg [y0.1, y1.1, y2.1] := (Prod.mk.inj hD).1
        have hp : Rows.uptoBulk y0.1 = p.size + 1 := by rw [r0]; simp only [Rows.uptoBulk, Array.length_toList]; rfl
        have hs : Rows.uptoBulk y2.1 = s.size + 1 := by rw [r2]; simp only [Rows.uptoBulk, Array.length_toList]; rfl
        refine ⟨⟨p, k, s⟩, ⟨?_, ?_, ?_⟩, ?_, ?_⟩
        · exact hat 0 (by omega)
        · rw [← add_add]; exact hat 1 (by omega)
        · rw [← add_add]; exact hat 2 (by omega)
        · rw [hb]; simp only [Rows.uptoBulk, Rows.uptoBulkAll, hp]; omega
        · rw [hb]; simp only [Rows.uptoBulk, Rows.uptoBulkAll, hs]; omega
    obtain ⟨l, rfl, hq⟩ := list_of len _ key
    have hD : ∀ i, i < l.length → Rows.uptoBulk (D i) ≤ Rows.uptoBulk d := fun i hi => by
      have := bulk_mem (List.mem_map.2 ⟨i, List.mem_range.2 hi, rfl⟩ : D i ∈ (List.range l.length).map D)
      rw [hd]
      simp only [Rows.uptoBulk]
      omega
    have hlen : l.length ≤ Rows.uptoBulk d := by
      have := bulk_len ((List.range l.length).map D)
      rw [List.length_map, List.length_range] at this
      rw [hd]
      simp only [Rows.uptoBulk]
      omega
    refine ⟨some a, c, l, rfl, ⟨by rw [celH_len], fun h0 => ?_⟩, hlen, fun q hm => ?_⟩
    · have hall := fun i o ho => (hq i o ho).1
      have c0 := (hall 0 l[0] (List.getElem?_eq_getElem h0)).1
      have hs := spot_none c0
      obtain ⟨ab, ao, asp⟩ := a
      have hs0 : asp = none := by simpa [Addr.add] using hs
      subst hs0
      simp only [add_lit] at hall
      have h1 := ghW_cell (hall (l.length - 1) (l[l.length - 1]'(by omega)) (List.getElem?_eq_getElem (by omega))).2.2
      refine ⟨ab, ao, rfl, by omega, h1.2, fun j u hu => ?_⟩
      have hj : j < l.length * 3 := by
        have := (List.getElem?_eq_some_iff.1 hu).1
        rwa [celH_len] at this
      have hjq : j / 3 < l.length := by omega
      have hg := hall (j / 3) l[j / 3] (List.getElem?_eq_getElem hjq)
      have hc := celH_get l (j / 3) (j % 3) l[j / 3] (List.getElem?_eq_getElem hjq) (by omega)
      rw [show j / 3 * 3 + j % 3 = j from by omega, hu] at hc
      rcases (show j % 3 = 0 ∨ j % 3 = 1 ∨ j % 3 = 2 by omega) with e | e | e
      · rw [e] at hc
        rw [show ao + j = ao + j / 3 * 3 by omega, hg.1]; exact hc.symm
      · rw [e] at hc
        rw [show ao + j = ao + (j / 3 * 3 + 1) by omega, hg.2.1]; exact hc.symm
      · rw [e] at hc
        rw [show ao + j = ao + (j / 3 * 3 + 2) by omega, hg.2.2]; exact hc.symm
    · obtain ⟨i, hi⟩ := List.getElem?_of_mem hm
      have h1 := (hq i q hi).2
      have h2 := hD i (List.getElem?_eq_some_iff.1 hi).1
      exact ⟨Nat.le_trans h1.1 h2, Nat.le_trans h1.2 h2⟩

theorem two_le {W : World} (h : W.ShapedOpen Tryz.prog) : 2 ≤ W.heap.size := by
  obtain ⟨z, hz⟩ := Option.isSome_iff_exists.1 (show (((begin Tryz.prog (fun _ _ => 0) default).world.heap[1]?).bind Obj.row?).isSome = true by kernel_rfl)
  obtain ⟨cs, hc, _⟩ := h.1 1 z.1 z.2 (of_decide_eq_true (by kernel_rfl)) hz
  exact (Array.getElem?_eq_some_iff.1 hc).1

theorem lawCk (W : World) (hsh : W.ShapedOpen Tryz.prog) (A : Option Addr) (c : Nat) (raw : List Hv) (hraw : Rd 3 (ghW W) W A raw.length (celH raw)) (N : Nat) (hN : N ≤ 1048576) (hn : raw.length ≤ N) (hs : ∀ q ∈ raw, q.path.size ≤ N ∧ q.loc.size ≤ N)
    (B : Option Addr) (cb : Nat) (L : List Int) (hr : Rd 1 (ghW W) W B L.length (L.map (Value.int .i64))) (hL : ∀ x ∈ L, (Lit.int .i64 x).wf = true) :
    Calls Tryz.prog 5 #[.slice A raw.length c, .slice B L.length cb] W fun e w' => e = .returned (.bool true) ∧ Below W.heap.size W w' :=
  lawChecks_any W (g0_of_shaped hsh) (two_le hsh) A c raw hraw (fun q hq => by have := hs q hq; exact ⟨by omega, by omega⟩) (by omega) B cb L hr hL

set_option maxRecDepth 100000 in
theorem checks_contract (H : Type) (enc : TypeId × Value → H) (W : World) (base : Nat) (args : Array Value) (ds gs : List (DataW H)) (before : List MemPlace)
    (hval0 : ∀ (j : Nat) t v, Tryz.f5.params[j]? = some t → args[j]? = some v → Value.okWide Tryz.prog W .any base t v)
    (hW : DataW.Whole enc Tryz.prog Tryz.f5.params.toList Rows.haveChecksSpec.vars false W args.toList ds gs before) (hsh : W.ShapedOpen Tryz.prog) (hcond : Rows.uptoBulkAll (ds ++ gs) ≤ 1048576) :
    Calls Tryz.prog 5 args W fun e W' => ∃ v, e = .returned v ∧ Rows.haveChecksSpec.post enc Tryz.prog Tryz.f5 false true false false W args v W' := by
  have hval : ∀ (j : Nat) t v, Tryz.f5.params[j]? = some t → args[j]? = some v → Value.okWide Tryz.prog W .any base t v := hval0
  have hW' := hW
  obtain ⟨_, _, hA0, hV, rfl, hfz, hnd⟩ := hW
  have hA : DataW.TrodAll enc Tryz.prog W 0 (fun _ => true) true Tryz.f5.params.toList args.toList ds _ := hA0
  rw [Tryz.params5] at hA hval
  obtain ⟨argl⟩ := args
  obtain ⟨v0, vs0, d0, ds0, p0, q0, eqv0, eqd0, _, h0, t0⟩ := trodAll_cons hA
  obtain ⟨v1, vs1, d1, ds1, p1, q1, eqv1, eqd1, _, h1, t1⟩ := trodAll_cons t0
  obtain ⟨eqv, eqd, _⟩ := trodAll_nil t1
  dsimp only at eqv0
  obtain rfl : argl = [v0, v1] := by rw [eqv0, eqv1, eqv]
  obtain rfl : ds = [d0, d1] := by rw [eqd0, eqd1, eqd]
  obtain ⟨la, lc, l, rfl, r_l, n_l, s_l⟩ := open_haves (hval 0 29 v0 rfl rfl) h0
  obtain ⟨ta, tc, t, rfl, l_t, m_t, z_t, r_t, w_t⟩ := open_nums Tryz.underlying45 Tryz.underlying3 (by kernel_rfl) (hval 1 45 v1 rfl rfl) h1
  have b_0 : Rows.uptoBulk d0 ≤ 1048576 := Nat.le_trans (bulk_mem (by simp)) hcond
  have b_1 : Rows.uptoBulk d1 ≤ 1048576 := Nat.le_trans (bulk_mem (by simp)) hcond
  refine (lawCk W hsh la lc l r_l _ b_0 n_l s_l ta tc t r_t w_t).mono fun e W' ⟨he, hb⟩ => ⟨_, he, ?_⟩
  exact law_post Tryz.laidOut rfl hW' (by kernel_rfl) rfl Tryz.underlying4 (fun hg => by subst hg; exact ⟨rfl, rfl, rfl⟩) hb

theorem checks_met (os : Os) : laidMet Tryz.prog Rows.haveChecksUptoRow.laid ((laidWorld os).forCall (fun _ _ => 0) ⟨#[], #[.slice none 0 0, .slice none 0 0], []⟩).memory :=
  laidMet_of_run' 8 (by kernel_rfl) (by kernel_rfl)
theorem checks_reads (os : Os) {H : Type} (enc : TypeId × Value → H) : ∃ places, DataW.whole enc Tryz.prog ((laidWorld os).forCall (fun _ _ => 0) ⟨#[], #[.slice none 0 0, .slice none 0 0], []⟩).memory Tryz.f5.params.toList Rows.haveChecksSpec.vars false (#[.slice none 0 0, .slice none 0 0] : Array Value).toList 8 = some ([.nil, .nil], [], places) :=
  ⟨[], by kernel_rfl⟩

set_option maxRecDepth 100000 in
theorem checks_lifted (os : Os) (started : os.Started) (H : Type) (enc : TypeId × Value → H) (F : Stop.Interp) :
    ReturnsInHanded {} Tryz.checked os 5 .any ((Rows.OpenSpec.upto Rows.haveChecksSpec).preRow enc Tryz.prog Tryz.f5 Rows.haveChecksUptoRow.domain false Rows.haveChecksUptoRow.laid) (((Rows.OpenSpec.upto Rows.haveChecksSpec).at F).post enc Tryz.prog Tryz.f5 false true false false) := by
  obtain ⟨places, hx⟩ := checks_reads os enc
  refine returnsInHanded_of_row (C := Tryz.checked) (s := Rows.OpenSpec.upto Rows.haveChecksSpec) Tryz.own started (by kernel_rfl) Tryz.func5
    (witness_row_at (enc := enc) (C := Tryz.checked) false (laidWorld os) #[.slice none 0 0, .slice none 0 0] rfl (by kernel_rfl) (by kernel_rfl) (by kernel_rfl)
      (OpenSpec.preRow_of_cond 8 hx (by kernel_rfl) (fun k hk => by cases hk; kernel_rfl) (by kernel_rfl) (checks_met os))) ?_
  intro W base args ds gs before hval hW _ hcond _ _ hsh _
  exact checks_contract H enc W base args ds gs before hval hW hsh (of_decide_eq_true (hcond _ rfl))

theorem checks_holds : Rows.HaveChecksUptoSaid :=
  OpenClaim.holds_of_cond 5 Tryz.f5 rfl rfl rfl rfl rfl rfl rfl ⟨rfl, rfl, rfl, rfl, rfl⟩ rfl rfl rfl rfl rfl (by kernel_rfl) Tryz.func5 (by kernel_rfl)
    (of_decide_eq_true (by kernel_rfl)) (by unfold Func.isWrapper; first | (rw [if_pos (by decide +kernel)]; kernel_rfl) | (rw [if_neg (by decide +kernel)]; exact ⟨rfl, rfl⟩))
    (fun os started H enc _ F => by rw [OpenClaim.pre_eq_preRow]; exact checks_lifted os started H enc F)

theorem checks_plain (f : FuncId) (fn : Func) (hf : Tryz.pinned.checked.prog.funcNamed "stockyard/stockyardlaw34.HaveChecks" = some f) (hfn : Tryz.pinned.checked.prog.funcs[f]? = some fn) :
    true = Tryz.pinned.checked.prog.looks [] ∧ ∀ (j : Nat) t, fn.params[j]? = some t → Tryz.pinned.checked.prog.wantsStandIn t = false := by
  obtain rfl : f = 5 := Option.some.inj ((show Tryz.prog.funcNamed "stockyard/stockyardlaw34.HaveChecks" = some 5 by kernel_rfl).symm.trans hf) |>.symm
  obtain rfl : fn = Tryz.f5 := (Option.some.inj (Tryz.func5.symm.trans hfn)).symm
  refine ⟨by kernel_rfl, fun j t ht => ?_⟩
  rw [Tryz.params5] at ht
  have hm := Array.mem_of_getElem? ht
  exact wants_all (by kernel_rfl) t hm

/-- The card. -/
theorem checks_card : Rows.HaveChecksUptoCardSaid :=
  Claim7.holds_tied_plain_at .later [] _ _ _ _ checks_holds (fun _ h => by cases h) (by kernel_rfl) (fun _ h => by cases h) haveChecksUpto_row_tie rfl ⟨rfl, rfl⟩ (by kernel_rfl) rfl checks_plain (by kernel_rfl)

#print axioms checks_card
end Go.Proofs.YtjjdffafibonhaaGreatDoor
