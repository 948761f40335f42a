/-
  slices.Insert at a list of edits.
-/
import Derived.Test.YtocffknoeknabaaGreatDoorClC
import Derived.Lib.AppendZerosOnto
import Derived.Lib.Overlaps
import Derived.Laws.Externs
import Derived.Laws.NewBlocks
namespace Go.Proofs.YtocffknoeknabaaGreatDoor
open Go.RowKit

/-- A row of the call's own comes back. -/
def RetOwn (base : Nat) (V : List Edt) (w : World) (e : Ending) (w' : World) : Prop := ∃ v', e = .returned v' ∧ w'.ownsRow base 44 12 v' V.length (edtK.flat V) ∧ Below base w w'
theorem ins_at_len {α : Type} {V : List α} {i : Nat} (x : α) (hi : i ≤ V.length) : (V.take i ++ x :: V.drop i).length = V.length + 1 := by
  rw [List.length_append, List.length_cons, List.length_take, List.length_drop]
  omega
theorem two_splices {cur D X : List Value} {a n : Nat} (hX : X.length = 12) (hD : D.length = n) (hf : a + 12 + n ≤ cur.length) : (splice (splice cur (a + 12) D) a X).take (a + 12 + n) = cur.take a ++ (X ++ D) := by
  have h1 : (splice cur (a + 12) D).take a = cur.take a := splice_take (by omega) (by omega)
  have h2 : (splice cur (a + 12) D).drop (a + 12) = D ++ cur.drop (a + 12 + n) := by
    unfold splice
    rw [hD, List.drop_append_of_le_length (by rw [List.length_take]; omega), List.drop_take, Nat.sub_self, List.take_zero, List.nil_append]
  have e : splice (splice cur (a + 12) D) a X = (splice cur (a + 12) D).take a ++ (X ++ (splice cur (a + 12) D).drop (a + X.length)) := rfl
  rw [e, hX, h1, h2, ← List.append_assoc X, ← List.append_assoc, List.take_append_of_le_length (by simp only [List.length_append, List.length_take, hX, hD]; omega), List.take_of_length_le (by simp only [List.length_append, List.length_take, hX, hD]; omega)]
theorem two_splices' {cur D X : List Value} {a n : Nat} (hX : X.length = 12) (hD : D.length = n) (hf : a + 12 + n ≤ cur.length) : (splice (splice cur a X) (a + 12) D).take (a + 12 + n) = cur.take a ++ (X ++ D) := by
  have h1 : (splice cur a X).take (a + 12) = cur.take a ++ X := by
    unfold splice
    rw [← List.append_assoc, List.take_append_of_le_length (by simp only [List.length_append, List.length_take, hX]; omega), List.take_of_length_le (by simp only [List.length_append, List.length_take, hX]; omega)]
  have e : splice (splice cur a X) (a + 12) D = (splice cur a X).take (a + 12) ++ (D ++ (splice cur a X).drop (a + 12 + D.length)) := rfl
  rw [e, h1, ← List.append_assoc, List.take_append_of_le_length (by simp only [List.length_append, List.length_take, hX, hD]; omega), List.take_of_length_le (by simp only [List.length_append, List.length_take, hX, hD]; omega), List.append_assoc]
theorem lit_at {w : World} {vb : Nat} {T : TypeId} {x : Edt} (hv : w.heap[vb]? = some (.cells x.cells.toArray T (0, 0))) : ∀ j u, x.cells[j]? = some u → w.cell? ((⟨vb, 0, none⟩ : Addr).add j) = some u := fun j u hu => by
  rw [add_lit, Nat.zero_add, cell_at hv]
  simpa using hu
section
variable (V : List Edt) (base i vb : Nat) (x : Edt) (w : World) (hbase : base ≤ w.heap.size) (hn : V.length ≤ 100000) (hv : w.heap[vb]? = some (.cells x.cells.toArray 44 (0, 0)))
include hbase hn hv
set_option maxRecDepth 100000 in
set_option maxHeartbeats 1600000 in
theorem insE_end (v : Value) (ho : w.ownsRow base 44 12 v V.length (edtK.flat V)) :
    Calls Tryz.prog 82 #[v, .int .i64 (V.length : Int), .slice (some ⟨vb, 0, none⟩) 1 1] w (RetOwn base (V ++ [x]) w) := by
  obtain ⟨i0, hi0, hz0, hz1, hz2⟩ := info_parts Tryz.infoEdit
  have HX := Lib.hid (lit_at hv)
  have HO := Lib.hid ho
  have hx1 : x.cells.length = 1 * 12 := rfl
  have HP : ∀ v' w1, w1.ownsRow base 44 12 v' (V.length + 1) (edtK.flat V ++ x.cells) → w.grownBy w1 v.ownBlock → RetOwn base (V ++ [x]) w (.returned v') w1 := fun v' w1 h1 h2 =>
    ⟨v', rfl, by rw [List.length_append, ← edtK.flat_snoc]; exact h1, (Below.refl _ _).grown h2 hbase (fun k hk => (ho.lt k hk).1)⟩
  have HPP := Lib.hid HP
  clear HP hv
  rcases ownsRow_cases ho with ⟨rfl, h0⟩ | ⟨g, cap, rfl, h1, h2, h3, h4⟩
  · have hV : V = [] := List.eq_nil_of_length_eq_zero h0
    subst hV
    clear ho
    go_enter Tryz.func82, Tryz.ntmps82
    go_wp2_with (at_builtin; refine wpList_append_own _ rfl _ _ 39 rfl base 44 i0 zeroEdt.val 12 96 Tryz.underlying39 hi0 hz0 hz1 hz2 rfl (by decide) _ _ _ rfl HO.out ⟨vb, 0, none⟩ 1 1 x.cells rfl hx1 HX.out (edtK.one x) (by unfold maxLen; omega) (by omega) hbase ?_; intro v' w1 hown hgrow _)
    have HW := Lib.hid (HPP.out _ _ hown hgrow)
    clear hown hgrow
    go_wp2_with fail
    go_ret
    exact HW.out
  · clear ho
    generalize V.length = n at *
    have h1' : ¬ ((n : Int) < 0) := by omega
    have h4' : cap ≤ 9223372036854775807 := by unfold maxLen at h4; omega
    go_enter Tryz.func82, Tryz.ntmps82
    go_wp2_with (at_builtin; refine wpList_append_own _ rfl _ _ 39 rfl base 44 i0 zeroEdt.val 12 96 Tryz.underlying39 hi0 hz0 hz1 hz2 rfl (by decide) _ _ _ rfl HO.out ⟨vb, 0, none⟩ 1 1 x.cells rfl hx1 HX.out (edtK.one x) (by unfold maxLen; omega) (by omega) hbase ?_; intro v' w1 hown hgrow _)
    all_goals
      have HW := Lib.hid (HPP.out _ _ hown hgrow)
      clear hown hgrow
      go_wp2_with fail
      go_ret
      exact HW.out
omit hbase in
set_option maxRecDepth 100000 in
set_option maxHeartbeats 3200000 in
theorem insE_shift (g cap : Nat) (ho : w.ownsRow base 44 12 (.slice (some ⟨g, 0, none⟩) V.length cap) V.length (edtK.flat V)) (hi : i < V.length) (hroom : V.length + 1 ≤ cap) (hne : vb ≠ g) :
    Calls Tryz.prog 82 #[.slice (some ⟨g, 0, none⟩) V.length cap, .int .i64 (i : Int), .slice (some ⟨vb, 0, none⟩) 1 1] w (RetOwn base (V.take i ++ x :: V.drop i) w) := by
  obtain ⟨i0, hi0, hz0, hz1, hz2⟩ := info_parts Tryz.infoEdit
  obtain ⟨cur, hg, hbg, hgl, hnc, hcm, hcl, hct⟩ := own_parts ho
  have hsz : (Tryz.prog.info? 44).map (·.size) = some 12 := by rw [hi0]; simp [hz1]
  have hvl := block_lt hv
  have hov : ∀ lb cb, (callFunc 125 #[.slice (some ⟨vb, 0, none⟩) 1 1, .slice (some ⟨g, (i + 1) * 12, none⟩) lb cb]).run Tryz.prog w = .ok (.value (.bool false)) w := fun lb cb => by
    rw [run_callFunc_extern Tryz.func125 (by kernel_rfl) (by kernel_rfl) (by kernel_rfl) (e := Extern.SlicesOverlaps.overlaps #[39, 39] #[4]) (by kernel_rfl),
      Lib.run_overlaps_apart w 39 4 44 Tryz.underlying39 12 (fun w => by simp [Go.sizeOf, typeInfo, hi0, hz1]) ⟨vb, 0, none⟩ ⟨g, (i + 1) * 12, none⟩ 1 1 lb cb hne 44 44 12 cur.length (by simp [World.shape?, hv, Edt.cells]) (by simp [World.shape?, hg]) (by omega) (by simp [World.frozen?, hv]) (by simp [World.frozen?, hv])]
    rfl
  have HRET : ∀ w1 (c2 : List Value), Hid (w1.heap[g]? = some (.cells c2.toArray 44 (0, 0))) → c2 = splice (splice cur ((i + 1) * 12) (edtK.flat (V.drop i))) (i * 12) x.cells → Below base w w1 → RetOwn base (V.take i ++ x :: V.drop i) w (.returned (.slice (some ⟨g, 0, none⟩) (V.length + 1) cap)) w1 := fun w1 c2 h1 h2 h3 => by
    have hD : (edtK.flat (V.drop i)).length = (V.length - i) * 12 := by rw [edtK.flat_len, List.length_drop]; rfl
    refine ⟨_, rfl, ?_, h3⟩
    rw [ins_at_len x (by omega)]
    refine own_of h1.out hbg hroom hcm ?_ ?_
    · rw [h2, length_splice _ _ _ (by rw [length_splice _ _ _ (by rw [hD]; omega)]; show i * 12 + 12 ≤ _; omega), length_splice _ _ _ (by rw [hD]; omega), hcl]
    · have := two_splices (cur := cur) (D := edtK.flat (V.drop i)) (X := x.cells) (a := i * 12) (n := (V.length - i) * 12) rfl hD (by omega)
      rw [h2, show (i + 1) * 12 = i * 12 + 12 by omega, show (V.length + 1) * 12 = i * 12 + 12 + (V.length - i) * 12 by omega, this, edtK.flat_append, edtK.flat_cons]
      have h5 := edtK.flat_take V i
      rw [← h5, ← hct, List.take_take, show edtK.n = 12 from rfl, Nat.min_eq_left (by omega)]
      rfl
  have HR := Lib.hid HRET
  have HD : Hid ((edtK.flat (V.drop i)).length = Nat.min (V.length + 1 - i) (V.length + 1 - (i + 1)) * 12) := by
    show _ = _
    rw [edtK.flat_len, List.length_drop, show Nat.min (V.length + 1 - i) (V.length + 1 - (i + 1)) = V.length - i from by show min _ _ = _; omega]
    rfl
  have HX : Hid (x.cells.length = Nat.min 1 (V.length + 1 - i) * 12) := by
    show _ = _
    rw [show Nat.min 1 (V.length + 1 - i) = 1 from by show min _ _ = _; omega]
    rfl
  have HX2 : Hid (x.cells.length = 12) := rfl
  have HXC := Lib.hid (lit_at hv)
  have HSRC : Hid (∀ j u, (edtK.flat (V.drop i))[j]? = some u → w.drew.cell? ((⟨g, i * 12, none⟩ : Addr).add j) = some u) := fun j u hu => by
    rw [add_lit]
    show w.cell? _ = _
    rw [cell_at hg, List.getElem?_toArray]
    have h5 := edtK.flat_drop V i
    rw [← h5, List.getElem?_drop, show edtK.n = 12 from rfl] at hu
    have hj : i * 12 + j < V.length * 12 := by
      have := (List.getElem?_eq_some_iff.1 hu).1
      rwa [edtK.flat_len] at this
    rw [← hu, ← hct, List.getElem?_take, if_pos hj]
  have HG := Lib.hid hg
  have HCL := Lib.hid hcl
  have hdl : (edtK.flat (V.drop i)).length = (V.length - i) * 12 := by rw [edtK.flat_len, List.length_drop]; rfl
  have HDL := Lib.hid hdl
  have HO1 := Lib.hid (edtK.flat_ones (V.drop i))
  have HO2 : Hid (∀ u ∈ x.cells, u.oneCell' = true) := edtK.one x
  have HVN : Hid (vb ≠ g) := hne
  clear HRET hg hcl hct hdl ho hv
  generalize V.take i ++ x :: V.drop i = V' at *
  generalize edtK.flat (V.drop i) = D at *
  generalize x.cells = X at *
  generalize V.length = n at *
  have mixed : Tryz.prog.follows Departure.mixedOrders = true := by kernel_rfl
  have q1 : IntKind.i64.wrap ((i : Int) + 1) = (i : Int) + 1 := by rw [IntKind.wrap_i64]; omega
  have q2 : (0 : Int) ≤ (i : Int) + 1 := by omega
  have q3 : i ≤ n := by omega
  have q4 : ((i : Int) + 1).toNat = i + 1 := by omega
  have q5 : ¬ (cap = i + 1) := by omega
  have q6 : (i : Int) ≤ (n : Int) + 1 := by omega
  have q7 : ¬ (cap = i) := by omega
  have q8 : ¬ ((i : Int) = (n : Int)) := by omega
  have q9 : cap ≤ 9223372036854775807 := by unfold maxLen at hcm; omega
  have q10 : ¬ ((cap : Int) < (n : Int) + 1) := by omega
  clear hcm hne
  go_enter Tryz.func82, Tryz.ntmps82
  go_wp2_with (simp only [hov])
  go_region_law_o (refine step_copyK rfl (.tmp 73) (.tmp 76) 39 39 rfl 12 44 Tryz.underlying39 hsz (some ⟨g, (i + 1) * 12, none⟩) (some ⟨g, i * 12, none⟩) (n + 1 - (i + 1)) (cap - (i + 1)) (n + 1 - i) (cap - i) (by simp [Act.eval, Act.put]) (by simp [Act.eval, Act.put]) g ((i + 1) * 12) cur 44 HG.out D HD.out (by decide) (fun _ => ⟨rfl, _, rfl, HSRC.out⟩) (by rw [HDL.out, HCL.out]; omega) HO1.out base w (Below.refl _ _).drew hbg ?_; intro w4 hg4 hk4 hb4)
  have HB4 := Lib.hid hb4
  have HL4 : Hid ((splice cur ((i + 1) * 12) D).length = cap * 12) := by
    show _ = _
    rw [length_splice _ _ _ (by rw [HDL.out, HCL.out]; omega), HCL.out]
  have HXC4 : Hid (∀ j u, X[j]? = some u → w4.cell? ((⟨vb, 0, none⟩ : Addr).add j) = some u) := fun j u hu => by
    have h5 := HXC.out j u hu
    rw [add_lit] at h5 ⊢
    have h6 := hk4.out vb HVN.out
    simp only [World.cell?] at h5 ⊢
    rw [h6]
    exact h5
  clear hb4
  obtain ⟨w5, hr5, hg5, hk5, hb5⟩ := run_copyK (P := Tryz.prog) (w := w4) 12 39 39 44 Tryz.underlying39 hsz (some ⟨g, i * 12, none⟩) (some ⟨vb, 0, none⟩) (n + 1 - i) (cap - i) 1 1 g (i * 12) (splice cur ((i + 1) * 12) D) 44 hg4.out X HX.out (by decide) (fun _ => ⟨rfl, _, rfl, HXC4.out⟩) (by rw [HL4.out, HX2.out]; omega) HO2.out base w HB4.out hbg
  have HW := Lib.hid (HR.out w5 _ hg5 rfl hb5)
  clear hb5
  go_wp2_with fail
  go_ret
  exact HW.out
set_option maxRecDepth 100000 in
set_option maxHeartbeats 3200000 in
theorem insE_grow (g : Nat) (ho : w.ownsRow base 44 12 (.slice (some ⟨g, 0, none⟩) V.length V.length) V.length (edtK.flat V)) (hi : i < V.length) :
    Calls Tryz.prog 82 #[.slice (some ⟨g, 0, none⟩) V.length V.length, .int .i64 (i : Int), .slice (some ⟨vb, 0, none⟩) 1 1] w (RetOwn base (V.take i ++ x :: V.drop i) w) := by
  obtain ⟨i0, hi0, hz0, hz1, hz2⟩ := info_parts Tryz.infoEdit
  obtain ⟨cur, hg, hbg, hgl, hnc, hcm, hcl, hct⟩ := own_parts ho
  have hsz : (Tryz.prog.info? 44).map (·.size) = some 12 := by rw [hi0]; simp [hz1]
  have hcur : cur = edtK.flat V := by rw [← hct, List.take_of_length_le (by omega)]
  have hvl := block_lt hv
  have hflat := edtK.flat_len V
  have e12 : edtK.n = 12 := rfl
  rw [e12] at hflat
  have htl : (edtK.flat (V.take i)).length = i * 12 := by rw [edtK.flat_len, List.length_take_of_le (by omega)]; rfl
  have hold : (Builtin.firstCells i0.size i (.slice (some ⟨g, 0, none⟩) i V.length)).run Tryz.prog w.drew = .ok (edtK.flat (V.take i)).toArray w.drew := by
    rw [hz1]
    refine run_firstCells_some w.drew 12 i ⟨g, 0, none⟩ i V.length (edtK.flat (V.take i)) (by rw [htl]) (fun j u hj => ?_)
    rw [add_lit, Nat.zero_add]
    show w.cell? _ = _
    have h5 := edtK.flat_take V i
    rw [cell_at hg, List.getElem?_toArray, hcur]
    rw [← h5, List.getElem?_take, e12] at hj
    split at hj
    · exact hj
    · cases hj
  obtain ⟨G, hG⟩ : ∃ G, G = grownCap w (V.length + 1) V.length 44 := ⟨_, rfl⟩
  obtain ⟨ROW, hROW⟩ : ∃ ROW : Array Value, ROW = (edtK.flat (V.take i)).toArray ++ Builtin.zeroCells zeroEdt.val.cells (V.length + 1 - i) ++ Builtin.zeroCells zeroEdt.val.cells (G - (V.length + 1)) := ⟨_, rfl⟩
  have hik : i + (V.length + 1 - i) = V.length + 1 := by omega
  have hkk : (V.length : Int) + 1 - (i : Int) = ((V.length + 1 - i : Nat) : Int) := by omega
  have hrz : ∀ ty, (Builtin.append_ #[39, 3] ty #[.slice (some ⟨g, 0, none⟩) i V.length, .int .i64 ((V.length : Int) + 1 - (i : Int))]).run Tryz.prog w = .ok (.slice (some ⟨w.heap.size, 0, none⟩) (V.length + 1) G) (w.drew.alloc (.cells ROW 44)) := fun ty => by
    have h := Lib.run_append_grow_zeros w 39 3 ty 44 i0 zeroEdt.val .i64 .i64 Tryz.underlying39 Tryz.underlying3 hi0 hz0 (some ⟨g, 0, none⟩) i V.length (edtK.flat (V.take i)) hold (V.length + 1 - i) (by omega) (by omega) (by omega) (by omega) (by rw [hz2]; omega) (by rw [hz2, hik]; exact growslice_fits (by omega) (by omega))
    rw [hik, ← hG, ← hROW] at h
    rw [hkk]
    exact h
  have hGn : V.length + 1 ≤ G := by rw [hG]; exact grownCap_ge w _ _ _
  have hG63 : G ≤ maxLen := by
    rw [hG]
    exact grownCap_le_maxLen w (V.length + 1) V.length 44 (by unfold maxLen; omega)
  have hRl : ROW.toList.length = G * 12 := by
    rw [hROW]
    simp only [Array.toList_append, List.length_append, Array.length_toList, htl, size_zeroCells]
    show i * 12 + (V.length + 1 - i) * 12 + (G - (V.length + 1)) * 12 = _
    omega
  have hRt : ROW.toList.take (i * 12) = edtK.flat (V.take i) := by
    rw [hROW]
    simp only [Array.toList_append]
    rw [List.append_assoc, List.take_append_of_le_length (by simp [htl]), List.take_of_length_le (by simp [htl])]
  obtain ⟨W1, hW1⟩ : ∃ W1, W1 = w.drew.alloc (.cells ROW 44) := ⟨_, rfl⟩
  rw [← hW1] at hrz
  have hgN : Hid (W1.heap[w.heap.size]? = some (.cells ROW.toList.toArray 44 (0, 0))) := by
    show _ = _
    rw [hW1]
    simpa using heap_alloc_new w.drew (.cells ROW 44)
  have HB1 : Hid (Below base w W1) := by
    show Below _ _ _
    rw [hW1]
    exact ((Below.refl base w).drew).alloc hbase _
  have HOLD : Hid (∀ k, k ≠ w.heap.size → k < w.heap.size → W1.heap[k]? = w.heap[k]?) := fun k h1 h2 => by
    rw [hW1]
    exact Below.heap_alloc w.drew _ k h2
  have HRET : ∀ w1 (c2 : List Value), Hid (w1.heap[w.heap.size]? = some (.cells c2.toArray 44 (0, 0))) → c2 = splice (splice ROW.toList (i * 12) x.cells) ((i + 1) * 12) (edtK.flat (V.drop i)) → Below base w w1 → RetOwn base (V.take i ++ x :: V.drop i) w (.returned (.slice (some ⟨w.heap.size, 0, none⟩) (V.length + 1) G)) w1 := fun w1 c2 h1 h2 h3 => by
    have hD : (edtK.flat (V.drop i)).length = (V.length - i) * 12 := by rw [edtK.flat_len, List.length_drop]; rfl
    have hx12 : x.cells.length = 12 := rfl
    refine ⟨_, rfl, ?_, h3⟩
    rw [ins_at_len x (by omega)]
    refine own_of h1.out hbase hGn hG63 ?_ ?_
    · rw [h2, length_splice _ _ _ (by rw [length_splice _ _ _ (by rw [hx12]; omega), hD]; omega), length_splice _ _ _ (by rw [hx12]; omega), hRl]
    · have := two_splices' (cur := ROW.toList) (D := edtK.flat (V.drop i)) (X := x.cells) (a := i * 12) (n := (V.length - i) * 12) rfl hD (by omega)
      rw [h2, show (i + 1) * 12 = i * 12 + 12 by omega, show (V.length + 1) * 12 = i * 12 + 12 + (V.length - i) * 12 by omega, this, edtK.flat_append, edtK.flat_cons, hRt]
      rfl
  have HR := Lib.hid HRET
  have HD : Hid ((edtK.flat (V.drop i)).length = Nat.min (V.length - i) (V.length + 1 - (i + 1)) * 12) := by
    show _ = _
    rw [edtK.flat_len, List.length_drop, show Nat.min (V.length - i) (V.length + 1 - (i + 1)) = V.length - i from by show min _ _ = _; omega]
    rfl
  have HX : Hid (x.cells.length = Nat.min 1 (V.length + 1 - i) * 12) := by
    show _ = _
    rw [show Nat.min 1 (V.length + 1 - i) = 1 from by show min _ _ = _; omega]
    rfl
  have HX2 : Hid (x.cells.length = 12) := rfl
  have HXC : Hid (∀ j u, x.cells[j]? = some u → W1.cell? ((⟨vb, 0, none⟩ : Addr).add j) = some u) := fun j u hu => by
    have h5 := lit_at hv j u hu
    rw [add_lit] at h5 ⊢
    have h6 := HOLD.out vb (by omega) hvl
    simp only [World.cell?] at h5 ⊢
    rw [h6]
    exact h5
  have HSRC : Hid (∀ j u, (edtK.flat (V.drop i))[j]? = some u → W1.cell? ((⟨g, i * 12, none⟩ : Addr).add j) = some u) := fun j u hu => by
    rw [add_lit]
    have h6 := HOLD.out g (by omega) hgl
    rw [hg] at h6
    rw [cell_at h6, List.getElem?_toArray, hcur]
    have h5 := edtK.flat_drop V i
    rw [← h5, List.getElem?_drop, e12] at hu
    exact hu
  have hdl : (edtK.flat (V.drop i)).length = (V.length - i) * 12 := by rw [edtK.flat_len, List.length_drop]; rfl
  have HDL := Lib.hid hdl
  have HRL := Lib.hid hRl
  have HO1 := Lib.hid (edtK.flat_ones (V.drop i))
  have HO2 : Hid (∀ u ∈ x.cells, u.oneCell' = true) := edtK.one x
  have HRZ := Lib.hid hrz
  have HNG : Hid (g ≠ w.heap.size) := by show _ ≠ _; omega
  clear HRET hg hcl hct hdl ho hv hold hROW hG hW1 hRl hRt hcur htl hflat hrz hkk hik
  generalize V.take i ++ x :: V.drop i = V' at *
  generalize edtK.flat (V.drop i) = D at *
  generalize x.cells = X at *
  generalize V.length = n at *
  generalize ROW.toList = RL at *
  have hrz := HRZ.out
  have mixed : Tryz.prog.follows Departure.mixedOrders = true := by kernel_rfl
  have q1 : IntKind.i64.wrap ((i : Int) + 1) = (i : Int) + 1 := by rw [IntKind.wrap_i64]; omega
  have q2 : (0 : Int) ≤ (i : Int) + 1 := by omega
  have q3 : i ≤ n := by omega
  have q4 : ((i : Int) + 1).toNat = i + 1 := by omega
  have q5 : ¬ (G = i + 1) := by omega
  have q6 : (i : Int) ≤ (n : Int) := by omega
  have q7 : ¬ (n = i) := by omega
  have q8 : ¬ ((i : Int) = (n : Int)) := by omega
  have q9 : G ≤ 9223372036854775807 := by unfold maxLen at hG63; omega
  have q10 : (n : Int) < (n : Int) + 1 := by omega
  have q11 : ¬ (G = i) := by omega
  obtain ⟨w2, hr2, hg2, hk2, hb2⟩ := run_copyK (P := Tryz.prog) (w := W1) 12 39 39 44 Tryz.underlying39 hsz (some ⟨w.heap.size, i * 12, none⟩) (some ⟨vb, 0, none⟩) (n + 1 - i) (G - i) 1 1 w.heap.size (i * 12) RL 44 hgN.out X HX.out (by decide) (fun _ => ⟨rfl, _, rfl, HXC.out⟩) (by rw [HRL.out, HX2.out]; omega) HO2.out base w HB1.out hbase
  have HB2 := Lib.hid hb2
  have HL2 : Hid ((splice RL (i * 12) X).length = G * 12) := by
    show _ = _
    rw [length_splice _ _ _ (by rw [HX2.out, HRL.out]; omega), HRL.out]
  have HSRC2 : Hid (∀ j u, D[j]? = some u → w2.drew.cell? ((⟨g, i * 12, none⟩ : Addr).add j) = some u) := fun j u hu => by
    have h5 := HSRC.out j u hu
    rw [add_lit] at h5 ⊢
    have h6 := hk2.out g HNG.out
    show w2.cell? _ = _
    simp only [World.cell?] at h5 ⊢
    rw [h6]
    exact h5
  clear hb2 hG63 hcm HRZ HSRC
  go_enter Tryz.func82, Tryz.ntmps82
  go_wp2_with (at_builtin; refine Lib.wpList_append_run _ rfl _ _ _ _ rfl _ _ rfl rfl _ _ (hrz _) ?_)
  go_region_law_o (refine step_copyK rfl (.tmp 50) (.tmp 53) 39 39 rfl 12 44 Tryz.underlying39 hsz (some ⟨w.heap.size, (i + 1) * 12, none⟩) (some ⟨g, i * 12, none⟩) (n + 1 - (i + 1)) (G - (i + 1)) (n - i) (n - i) (by simp [Act.eval, Act.put]) (by simp [Act.eval, Act.put]) w.heap.size ((i + 1) * 12) (splice RL (i * 12) X) 44 hg2.out D HD.out (by decide) (fun _ => ⟨rfl, _, rfl, HSRC2.out⟩) (by rw [HDL.out, HL2.out]; omega) HO1.out base w HB2.out.drew hbase ?_; intro w4 hg4 hk4 hb4)
  have HW := Lib.hid (HR.out w4 _ hg4 rfl hb4)
  clear hb4
  go_wp2_with fail
  go_ret
  exact HW.out
/-- Insert at any place of a row of one's own. -/
theorem insE_any (v : Value) (ho : w.ownsRow base 44 12 v V.length (edtK.flat V)) (hi : i ≤ V.length) (hne : ∀ k, v.ownBlock = some k → k ≠ vb) :
    Calls Tryz.prog 82 #[v, .int .i64 (i : Int), .slice (some ⟨vb, 0, none⟩) 1 1] w (RetOwn base (V.take i ++ x :: V.drop i) w) := by
  by_cases hlt : i < V.length
  · rcases ownsRow_cases ho with ⟨rfl, h0⟩ | ⟨g, cap, rfl, h1, h2, h3, h4⟩
    · omega
    · by_cases hr : V.length + 1 ≤ cap
      · exact insE_shift V base i vb x w hn hv g cap ho hlt hr (fun e => hne g rfl e.symm)
      · obtain rfl : cap = V.length := by omega
        exact insE_grow V base i vb x w hbase hn hv g ho hlt
  · obtain rfl : i = V.length := by omega
    rw [List.take_length, List.drop_length]
    exact insE_end V base vb x w hbase hn hv v ho
end
end Go.Proofs.YtocffknoeknabaaGreatDoor
