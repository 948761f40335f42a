/-
  slices.Clone and slices.Delete at lists of edits (and of records).
-/
import Derived.Test.YtocffknoeknabaaGreatDoorCgE
import Derived.Test.YtocffknoeknabaaGreatDoorCgC
import Derived.Lib.SliceRun
import Derived.Deep.LoopGhost
import Derived.Deep.RegionLaw
namespace Go.Proofs.YtocffknoeknabaaGreatDoor
open Go.RowKit

section
variable {P : Program} {w : World}
theorem step_append_splice {ops : Array Oper} {o : Oper} {a : Act} {KK : Act → World → Prop} {Q : Exit → Act → World → Prop} {E : Prop} (hgd : o.guard = none) (s x : Operand) (t : TypeId)
    (ho : o.op = .call { callee := .builtin .append, args := #[s, x], argTypes := #[t, t] }) (e : TypeId) (i : TypeInfo) (size : Nat) (ht : P.underlying t = some (.slice e)) (hi : P.info? e = some i) (hsize : i.size = size)
    (g n cap : Nat) (hs : a.eval s = .slice (some ⟨g, 0, none⟩) n cap) (cur : List Value) (hg : w.heap[g]? = some (.cells cur.toArray e (0, 0)))
    (ad : Addr) (m c : Nat) (news : List Value) (hx : a.eval x = .slice (some ad) m c) (hl : news.length = m * size) (hnews : ∀ j u, news[j]? = some u → w.cell? (ad.add j) = some u) (h1 : ∀ u ∈ news, u.oneCell' = true)
    (hroom : n + m ≤ cap) (hfit : n * size + news.length ≤ cur.length) (B : Nat) (w0 : World) (hb : Below B w0 w) (hBg : B ≤ g)
    (h : ∀ w', Hid (w'.heap[g]? = some (.cells (splice cur (n * size) news).toArray e (0, 0))) → Hid (∀ k, k ≠ g → w'.heap[k]? = w.heap[k]?) → Below B w0 w' → KK (a.put o.dst (.slice (some ⟨g, 0, none⟩) (n + m) cap)) w') :
    if Region.wanted o (yielded ops a.tmps) = true then Oper.wp P o a w KK Q else E := by
  have hw : Region.wanted o (yielded ops a.tmps) = true := by simp [Region.wanted, hgd]
  rw [if_pos hw]
  subst hsize
  have hrun := run_append_room (P := P) w t o.type e i ht hi g n cap cur.toArray hg ad m c news hl hnews h1 hroom (by simpa using hfit)
  unfold Oper.wp execOp
  simp only [ho, resolve, invoke, builtin, Sem.run_bind, Sem.run_pure, Result.andThen_ok, List.map_toArray, List.map_cons, List.map_nil, hs, hx, hrun]
  refine h _ ?_ (fun k hk => setRow_other w g k _ hk) (below_setRow hb hBg _)
  show _ = _
  rw [setRow_heap w g _ _ e _ hg]
  simp [splice]
theorem run_clearK (t e : TypeId) (z : Value) (ht : P.underlying t = some (.slice e)) (hv : ∀ w, (zeroValue e).run P w = .ok z w)
    (g off n c : Nat) (hn : 0 < n) (cur : List Value) (hg : w.heap[g]? = some (.cells cur.toArray e (0, 0))) (h1 : ∀ u ∈ (Builtin.zeroCells z.cells n).toList, u.oneCell' = true)
    (hfit : off + (Builtin.zeroCells z.cells n).size ≤ cur.length) (B : Nat) (w0 : World) (hb : Below B w0 w) (hBg : B ≤ g) :
    ∃ w', (∀ ty, (Builtin.clear_ #[t] ty #[.slice (some ⟨g, off, none⟩) n c]).run P w = .ok (.tuple #[]) w') ∧ Hid (w'.heap[g]? = some (.cells (splice cur off (Builtin.zeroCells z.cells n).toList).toArray e (0, 0))) ∧ Hid (∀ k, k ≠ g → w'.heap[k]? = w.heap[k]?) ∧ Below B w0 w' := by
  have hst := run_storeCells_at P g off e (Builtin.zeroCells z.cells n).toList 0 cur.toArray w hg (by simpa using hfit) h1
  simp only [Nat.add_zero] at hst
  obtain ⟨m, rfl⟩ : ∃ m, n = m + 1 := ⟨n - 1, by omega⟩
  refine ⟨w.setRow g (splice cur off (Builtin.zeroCells z.cells (m + 1)).toList).toArray, fun ty => ?_, ?_, fun k hk => setRow_other w g k _ hk, below_setRow hb hBg _⟩
  · simp [Builtin.clear_, run_underlying ht, hv, hst, splice]
  · show _ = _
    rw [setRow_heap w g _ _ e _ hg]
end
theorem Tryz.infoEdit : (Tryz.prog.info? 44).map (fun i => (i.zero, i.size, i.bytes)) = some (some zeroEdt.val, 12, 96) := by kernel_rfl
theorem Tryz.infoRec18 : (Tryz.prog.info? 55).map (fun i => (i.zero, i.size, i.bytes)) = some (some zeroRcd.val, 6, 64) := by kernel_rfl
set_option maxRecDepth 100000 in
set_option maxHeartbeats 800000 in
theorem cloneE_any (V : List Edt) (A : Option Addr) (c : Nat) (w : World) (hA : edtK.In A V w) (hn : V.length ≤ 100000) :
    Calls Tryz.prog 61 #[.slice A V.length c] w fun e w' => ∃ v', e = .returned v' ∧ w'.ownsRow w.heap.size 44 12 v' V.length (edtK.flat V) ∧ Below w.heap.size w w' := by
  obtain ⟨i0, hi, hz0, hz1, hz2⟩ := info_parts Tryz.infoEdit
  have hl := edtK.flat_len V
  have ho := edtK.flat_ones V
  have hN := hA.news
  have HA := Lib.hid hA
  clear hA
  cases A with
  | none =>
    have hV : V = [] := by
      cases V with
      | nil => rfl
      | cons x r => obtain ⟨ad, h, _⟩ := hN (by simp); cases h
    subst hV
    clear hN HA
    have he := Lib.run_eql_slice_nil (P := Tryz.prog) w 39 44 none 0 c 0 0 Tryz.underlying39
    go_enter Tryz.func61, Tryz.ntmps61
    go_wp2_with fail
    go_ret
    exact ⟨_, rfl, ⟨rfl, .inl ⟨rfl, rfl⟩⟩, Below.refl _ _⟩
  | some a =>
    have he := Lib.run_eql_slice_nil (P := Tryz.prog) w 39 44 (some a) V.length c 0 0 Tryz.underlying39
    have HNW : Hid (∀ j u, (edtK.flat V)[j]? = some u → (w.alloc (.cells #[] 44)).cell? (a.add j) = some u) := fun j u hu => by
      have hV : 0 < V.length := by
        cases V with
        | nil => simp [RowK.flat] at hu
        | cons x r => simp
      obtain ⟨ad, h, h2⟩ := hN hV
      injection h with h
      subst h
      exact Lib.cell?_alloc_some _ (h2 j u hu)
    have HL := Lib.hid hl
    have HO := Lib.hid ho
    clear hN hl ho
    have HR := Lib.hid (World.ownsRow_made (base := w.heap.size) (e := 44) (size := 12) w #[] 0 (Nat.le_refl _) (Nat.zero_le _) rfl)
    go_enter Tryz.func61, Tryz.ntmps61
    go_wp2_with (at_builtin; refine wpList_append_own _ rfl _ _ 39 rfl w.heap.size 44 i0 zeroEdt.val 12 96 Tryz.underlying39 hi hz0 hz1 hz2 rfl (by decide) _ _ _ rfl HR.out a V.length c (edtK.flat V) rfl HL.out HNW.out HO.out (by unfold maxLen; omega) (by omega) (by simp) ?_; intro v' w1 hown hgrow _)
    have HOW := Lib.hid hown
    have HB : Hid (Below w.heap.size w w1) := ((Below.refl _ w).alloc (Nat.le_refl _) _).grown hgrow (by simp) (fun k hk => by injection hk with hk; exact Nat.le_of_eq hk)
    clear hown hgrow
    go_wp2_with fail
    go_ret
    exact ⟨v', rfl, by simpa using HOW.out, HB.out⟩
/-- An empty list comes back. -/
def RetNil (w : World) (e : Ending) (w' : World) : Prop := ∃ A' c', e = .returned (.slice A' 0 c') ∧ Below w.heap.size w w'
/-- .. and lies in a row of the call's own. -/
def RetNilO (w : World) (e : Ending) (w' : World) : Prop := ∃ A' c', e = .returned (.slice A' 0 c') ∧ w'.ownsRow w.heap.size 55 6 (.slice A' 0 c') 0 [] ∧ Below w.heap.size w w'
set_option maxRecDepth 100000 in
set_option maxHeartbeats 800000 in
theorem cloneC0_own (A : Option Addr) (c : Nat) (w : World) :
    Calls Tryz.prog 62 #[.slice A 0 c] w (RetNilO w) := by
  obtain ⟨i0, hi, hz0, hz1, hz2⟩ := info_parts Tryz.infoRec18
  cases A with
  | none =>
    have he := Lib.run_eql_slice_nil (P := Tryz.prog) w 35 55 none 0 c 0 0 Tryz.underlying35
    go_enter Tryz.func62, Tryz.ntmps62
    go_wp2_with fail
    go_ret
    exact ⟨_, _, rfl, World.ownsRow_nil _ _ _ _, Below.refl _ _⟩
  | some a =>
    have he := Lib.run_eql_slice_nil (P := Tryz.prog) w 35 55 (some a) 0 c 0 0 Tryz.underlying35
    have HR := Lib.hid (World.ownsRow_made (base := w.heap.size) (e := 55) (size := 6) w #[] 0 (Nat.le_refl _) (Nat.zero_le _) rfl)
    go_enter Tryz.func62, Tryz.ntmps62
    go_wp2_with (at_builtin; refine wpList_append_own _ rfl _ _ 35 rfl w.heap.size 55 i0 zeroRcd.val 6 64 Tryz.underlying35 hi hz0 hz1 hz2 rfl (by decide) _ _ _ rfl HR.out a 0 c [] rfl rfl (by simp) (by simp) (by unfold maxLen; omega) (by omega) (by simp) ?_; intro v' w1 hown hgrow _)
    have HOW := Lib.hid hown
    have HB : Hid (Below w.heap.size w w1) := ((Below.refl _ w).alloc (Nat.le_refl _) _).grown hgrow (by simp) (fun k hk => by injection hk with hk; exact Nat.le_of_eq hk)
    clear hown hgrow
    go_wp2_with fail
    go_ret
    rcases ownsRow_cases HOW.out with ⟨rfl, _⟩ | ⟨g, cap, rfl, _⟩
    · exact ⟨_, _, rfl, by simpa using HOW.out, HB.out⟩
    · exact ⟨_, _, rfl, by simpa using HOW.out, HB.out⟩
theorem cloneC0_any (A : Option Addr) (c : Nat) (w : World) : Calls Tryz.prog 62 #[.slice A 0 c] w (RetNil w) := (cloneC0_own A c w).mono fun _ _ ⟨A', c', h1, _, h3⟩ => ⟨A', c', h1, h3⟩
theorem splice_take {L cs : List Value} {off k : Nat} (h : k ≤ off) (ho : off ≤ L.length) : (splice L off cs).take k = L.take k := by
  unfold splice
  rw [List.take_append_of_le_length (by rw [List.length_take]; omega), List.take_take, Nat.min_eq_left h]
theorem zeroCells_one (z : Value) : (Builtin.zeroCells z.cells 1).toList = z.cells.toList := by
  simp [Builtin.zeroCells]
  apply List.ext_getElem
  · simp
  · intro i h1 h2
    simp at h1
    simp only [List.getElem_map, List.getElem_range, Array.getElem_toList]
    rw [Nat.mod_eq_of_lt h1, getElem!_pos z.cells i h1]
theorem run_zero {P : Program} {w : World} {e : TypeId} {i : TypeInfo} {z : Value} (hi : P.info? e = some i) (hz : i.zero = some z) : (zeroValue e).run P w = .ok z w := by
  simp [zeroValue, typeInfo, hi, hz]
theorem RowK.flat_drop {α : Type} (R : RowK α) (V : List α) (k : Nat) : (R.flat V).drop (k * R.n) = R.flat (V.drop k) := by
  by_cases h : k ≤ V.length
  · have e : R.flat V = R.flat (V.take k) ++ R.flat (V.drop k) := by rw [← R.flat_append, List.take_append_drop]
    have hl : (R.flat (V.take k)).length = k * R.n := by rw [R.flat_len, List.length_take_of_le h]
    rw [e, ← hl, List.drop_left]
  · rw [List.drop_eq_nil_of_le (by rw [R.flat_len]; exact Nat.mul_le_mul_right _ (by omega)), List.drop_eq_nil_of_le (by omega)]
    rfl
theorem RowK.flat_take {α : Type} (R : RowK α) (V : List α) (k : Nat) : (R.flat V).take (k * R.n) = R.flat (V.take k) := by
  by_cases h : k ≤ V.length
  · have e : R.flat V = R.flat (V.take k) ++ R.flat (V.drop k) := by rw [← R.flat_append, List.take_append_drop]
    have hl : (R.flat (V.take k)).length = k * R.n := by rw [R.flat_len, List.length_take_of_le h]
    rw [e, ← hl, List.take_left]
  · rw [List.take_of_length_le (by rw [R.flat_len]; exact Nat.mul_le_mul_right _ (by omega)), List.take_of_length_le (by omega)]
set_option maxRecDepth 100000 in
set_option maxHeartbeats 1600000 in
theorem delE_any (V : List Edt) (g cap i base : Nat) (w : World) (ho : w.ownsRow base 44 12 (.slice (some ⟨g, 0, none⟩) V.length cap) V.length (edtK.flat V)) (hi : i < V.length) (hn : V.length ≤ 100000) :
    Calls Tryz.prog 67 #[.slice (some ⟨g, 0, none⟩) V.length cap, .int .i64 (i : Int), .int .i64 ((i : Int) + 1)] w fun e w' => e = .returned (.slice (some ⟨g, 0, none⟩) (V.length - 1) cap) ∧ w'.ownsRow base 44 12 (.slice (some ⟨g, 0, none⟩) (V.length - 1) cap) (V.length - 1) (edtK.flat (V.take i ++ V.drop (i + 1))) ∧ Hid (∀ k, k ≠ g → w'.heap[k]? = w.heap[k]?) ∧ Below base w w' := by
  obtain ⟨i0, hi0, hz0, hz1, hz2⟩ := info_parts Tryz.infoEdit
  obtain ⟨cur, hg, hbg, hgl, hnc, hcm, hcl, hct⟩ := own_parts ho
  have hzv := fun w => run_zero (P := Tryz.prog) (w := w) hi0 hz0
  obtain ⟨n, hn0⟩ : ∃ n, n = V.length := ⟨_, rfl⟩
  rw [← hn0] at hct hi hn ho hnc ⊢
  obtain ⟨news, hnw⟩ : ∃ news, news = edtK.flat (V.drop (i + 1)) := ⟨_, rfl⟩
  have hnl : news.length = (n - (i + 1)) * 12 := by rw [hnw, edtK.flat_len, List.length_drop, ← hn0]; rfl
  have h1 : ∀ u ∈ news, u.oneCell' = true := by rw [hnw]; exact edtK.flat_ones _
  have hcur : ∀ j, j < n * 12 → cur[j]? = (edtK.flat V)[j]? := fun j hj => by
    rw [← hct, List.getElem?_take, if_pos hj]
  obtain ⟨A, hA, hsrc⟩ : ∃ A : Addr, (if cap = i + 1 then some (⟨g, 0, none⟩ : Addr) else some ⟨g, (i + 1) * 12, none⟩) = some A ∧ Hid (∀ t u, news[t]? = some u → w.drew.cell? (A.add t) = some u) := by
    by_cases h : cap = i + 1
    · refine ⟨⟨g, 0, none⟩, by simp [h], fun t u hu => ?_⟩
      have h0 : news.length = 0 := by rw [hnl]; omega
      rw [List.length_eq_zero_iff.1 h0] at hu
      simp at hu
    · refine ⟨⟨g, (i + 1) * 12, none⟩, by simp [h], fun t u hu => ?_⟩
      have ht : t < (n - (i + 1)) * 12 := by
        have := (List.getElem?_eq_some_iff.1 hu).1
        rwa [hnl] at this
      rw [add_lit]
      show w.cell? _ = _
      rw [cell_at hg, List.getElem?_toArray, hcur _ (by omega)]
      have := congrArg (fun z => z[t]?) (edtK.flat_drop V (i + 1))
      rw [List.getElem?_drop, ← hnw, hu] at this
      exact this
  have htk : cur.take (i * 12) = edtK.flat (V.take i) := by
    have := edtK.flat_take V i
    rw [← this, ← hct, List.take_take, show edtK.n = 12 from rfl, Nat.min_eq_left (by omega)]
  have HG := Lib.hid hg
  have HNL := Lib.hid hnl
  have HNW := Lib.hid hnw
  have H1 := Lib.hid h1
  have HTK := Lib.hid htk
  have HCL := Lib.hid hcl
  have e1 : ((i : Int) + 1).toNat = i + 1 := by omega
  have e2 : (0 : Int) ≤ (i : Int) + 1 := by omega
  have e3 : (i : Int) + 1 ≤ (n : Int) := by omega
  have e4 : ¬ ((i : Int) = (i : Int) + 1) := by omega
  have e5 : i ≤ cap := by omega
  have e6 : i + 1 ≤ cap := by omega
  have hcap : cap ≤ 9223372036854775807 := by unfold maxLen at hcm; omega
  have mixed : Tryz.prog.follows Departure.mixedOrders = true := by kernel_rfl
  have e7 : i + (n - (i + 1)) = n - 1 := by omega
  have e8 : n - (n - 1) = 1 := by omega
  have e9 : ¬ (cap = n - 1) := by omega
  have e10 : n - 1 ≤ n := by omega
  clear hg hnl hnw h1 htk hcl hct hcur ho hn0 hcm
  go_enter Tryz.func67, Tryz.ntmps67
  go_wp2_with fail
  go_region_law_o (refine step_append_splice rfl (.tmp 22) (.tmp 25) 39 rfl 44 i0 12 Tryz.underlying39 hi0 hz1 g i cap (by simp [Act.eval, Act.put]) cur HG.out A (n - (i + 1)) (cap - (i + 1)) news (by simp [Act.eval, Act.put]) HNL.out hsrc.out H1.out (by omega) (by rw [HNL.out, HCL.out]; omega) base w (Below.refl _ _).drew hbg ?_; intro w4 hg4 hk4 hb4; rw [e7])
  have HB4 := Lib.hid hb4
  have HS4 : Hid ((splice cur (i * 12) news).length = cap * 12) := by
    show _ = _
    rw [length_splice _ _ _ (by rw [HNL.out, HCL.out]; omega), HCL.out]
  clear hb4
  obtain ⟨w5, hr5, hg5, hk5, hb5⟩ := run_clearK (P := Tryz.prog) (w := w4) 39 44 zeroEdt.val Tryz.underlying39 (fun w => hzv w) g ((n - 1) * 12) 1 (cap - (n - 1)) (by decide) (splice cur (i * 12) news) hg4.out (by rw [zeroCells_one]; exact edtK.one zeroEdt) (by rw [HS4.out, ← Array.length_toList, zeroCells_one]; show (n - 1) * 12 + 12 ≤ _; omega) base w HB4.out hbg
  have HB5 := Lib.hid hb5
  clear hb5
  go_wp2_with fail
  go_ret
  refine ⟨rfl, own_of hg5.out hbg (by omega) (by unfold maxLen; omega) ?_ ?_, fun k hk => (hk5.out k hk).trans (hk4.out k hk), HB5.out⟩
  · rw [length_splice _ _ _ (by rw [HS4.out, zeroCells_one]; show (n - 1) * 12 + 12 ≤ _; omega), HS4.out]
  · rw [splice_take (Nat.le_refl _) (by rw [HS4.out]; omega), edtK.flat_append, ← HTK.out, ← HNW.out]
    unfold splice
    rw [← List.append_assoc, List.take_append_of_le_length (by rw [List.length_append, List.length_take, HNL.out, HCL.out]; omega), List.take_of_length_le (by rw [List.length_append, List.length_take, HNL.out, HCL.out]; omega)]
end Go.Proofs.YtocffknoeknabaaGreatDoor
