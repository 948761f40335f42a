/-
  The walks of the reference's Copy, find and bad.
-/
import Derived.Test.YtocffknoeknabaaGreatDoorClM
import Derived.Test.YtocffknoeknabaaGreatDoorCgE
namespace Go.Proofs.YtocffknoeknabaaGreatDoor
open Go.RowKit

/-- The place of the first edit of a path, or -1. -/
def findI (V : List Edt) (s : ByteArray) : Int := match fndE V s with
  | none => -1
  | some _ => posE V s
theorem find_go {V : List Edt} (hV : SrtE V) {s : ByteArray} {k : Nat} (hk : k < V.length) (h0 : ∀ x ∈ V.take k, x.path ≠ s) (hp : V[k].path = s) : findI V s = k := by
  have hf := fnd_is hV (List.getElem_mem hk) hp
  unfold findI
  rw [hf]
  dsimp only
  have h1 := pos_has hV hf
  have h2 : posE V s = k := by
    rcases Nat.lt_trichotomy (posE V s) k with h | h | h
    · exfalso
      have h3 := (List.getElem?_eq_some_iff.1 h1.2).2
      have h4 : V[posE V s] ∈ V.take k := by
        rw [List.mem_iff_getElem]
        exact ⟨posE V s, by rw [List.length_take]; omega, by rw [List.getElem_take]⟩
      exact h0 _ h4 (by rw [h3]; exact hp)
    · exact h
    · exfalso
      have h3 := (pos_at hV s hk).2 h
      rw [hp, ordH_self] at h3
      omega
  rw [h2]
theorem find_none {V : List Edt} {s : ByteArray} (h0 : ∀ x ∈ V, x.path ≠ s) : findI V s = -1 := by
  unfold findI
  rw [has_of h0]
theorem take_succ_all {V : List Edt} {s : ByteArray} {k : Nat} (hk : k < V.length) (h0 : ∀ x ∈ V.take k, x.path ≠ s) (hp : V[k].path ≠ s) : ∀ x ∈ V.take (k + 1), x.path ≠ s := fun x hx => by
  rw [List.take_succ_eq_append_getElem hk] at hx
  rcases List.mem_append.1 hx with h | h
  · exact h0 x h
  · rw [List.mem_singleton] at h
    subst h
    exact hp
set_option maxRecDepth 100000 in
set_option maxHeartbeats 1600000 in
theorem find_any (p : Pnd) (s : ByteArray) (E R : Option Addr) (ec rc : Nat) (w : World) (hE : edtK.In E p.edits w) (hV : SrtE p.edits) (hn : p.edits.length ≤ 100000) :
    Calls Tryz.prog 36 #[pndV p E ec R rc, .string s] w fun e w' => e = .returned (.int .i64 (findI p.edits s)) ∧ Below w.heap.size w w' := by
  have HE := Lib.hid hE
  have HV := Lib.hid hV
  clear hE hV
  obtain ⟨pn, pc, pt, ps, V⟩ := p
  unfold pndV pndC
  dsimp only at *
  obtain ⟨q, hq⟩ : ∃ q, findI V s = q := ⟨_, rfl⟩
  rw [hq]
  have HQ := Lib.hid hq
  clear hq
  go_enter Tryz.func36, Tryz.ntmps36
  go_wp2_with fail
  go_loopw [10] (fun i wr => ∃ k : Nat, i = .int .i64 k ∧ k ≤ V.length ∧ Below w.heap.size w wr ∧ Hid (∀ x ∈ V.take k, x.path ≠ s)) (fun i _ => V.length - (intOf i).toNat)
  case atStart => exact ⟨0, rfl, Nat.zero_le _, by (repeat (first | (with_reducible exact Below.refl _ _) | (with_reducible assumption) | (with_reducible refine Below.setCell ?_ ?_ _; rotate_left; focus (first | exact Nat.le_refl _ | (dsimp only; omega))) | (with_reducible refine Below.drew ?_) | (with_reducible refine below_drewN ?_ _) | (with_reducible refine Below.alloc ?_ ?_ _; rotate_left; focus (first | exact Nat.le_refl _ | (simp; done) | (simp; omega))))), fun x h => by simp at h⟩
  case round =>
    obtain ⟨k, rfl, hk, hB, HF⟩ := hrel
    have HB := Lib.hid hB
    clear hB
    by_cases hlt : k < V.length
    · obtain ⟨b, off, rfl, hbl, hat⟩ := (HE.out.below HB.out) (by omega)
      have hg := List.getElem?_eq_getElem hlt
      have HT := Lib.hid (fun h => take_succ_all hlt HF.out (s := s) h)
      have HG := Lib.hid (fun h => find_go HV.out hlt HF.out (s := s) h)
      generalize hx : V[k] = x at *
      (have hcv := fun j (u : Value) (hj : (x).cells[j]? = some u) => ((hat).get hg hj); have c0 := hcv 0 _ rfl; have c1 := hcv 1 _ rfl; have c2 := hcv 2 _ rfl; have c3 := hcv 3 _ rfl; have c4 := hcv 4 _ rfl; have c5 := hcv 5 _ rfl; have c6 := hcv 6 _ rfl; have c7 := hcv 7 _ rfl; have c8 := hcv 8 _ rfl; have c9 := hcv 9 _ rfl; have c10 := hcv 10 _ rfl; have c11 := hcv 11 _ rfl; have e12 : edtK.n = 12 := rfl; simp only [e12, Nat.add_zero] at c0 c1 c2 c3 c4 c5 c6 c7 c8 c9 c10 c11; clear hcv e12)
      clear hat hg hx
      cases hv : (x.path == s)
      · have hv' : (x.path.toList == s.toList) = false := by rw [path_tl]; exact hv
        have HTT : Hid (∀ x ∈ V.take (k + 1), x.path ≠ s) := HT.out (fun e => by rw [(ba_beq _ _).2 e] at hv; cases hv)
        clear hv HT HG
        go_wp2_with fail
        go_roundw
        case rel => exact ⟨k + 1, by go_num, by omega, HB.out.alloc HB.out.size _, HTT⟩
        case measure => simp [intOf]; omega
      · have hv' : (x.path.toList == s.toList) = true := by rw [path_tl]; exact hv
        have HGG := Lib.hid (HG.out ((ba_beq _ _).1 hv))
        clear hv HT HG
        go_wp2_with fail
        go_ret
        exact ⟨ret_int (by rw [← HQ.out, HGG.out]), HB.out.alloc HB.out.size _⟩
    · obtain rfl : k = V.length := by omega
      have HGG : Hid (findI V s = -1) := find_none (by have := HF.out; rwa [List.take_length] at this)
      go_wp2_with fail
      go_ret
      exact ⟨ret_int (by rw [← HQ.out, HGG.out]), HB.out⟩
set_option maxHeartbeats 800000 in
theorem rbad_any (t : FTy) (c : Cid) (w : World) : Calls Tryz.prog 120 #[t.val, c.val] w fun e w' => e = .returned (.bool (badTC t c)) ∧ Below w.heap.size w w' := by
  have HF := Lib.hid (fun w => rty_any t w)
  obtain ⟨cs, cz⟩ := c
  have HB : Hid (badTC t ⟨cs, cz⟩ = (decide (tyErr t ≠ 0) || decide (cz < 0))) := rfl
  rw [HB.out]
  generalize tyErr t = r at *
  obtain ⟨tb, tk, te, tx⟩ := t
  unfold FTy.val FTy.cells Cid.val Cid.cells at *
  dsimp only at HF ⊢
  go_enter Tryz.func120, Tryz.ntmps120
  go_wp2_with fail
  refine (HF.out _).mono ?_
  rintro e w1 ⟨rfl, hb1⟩
  have KB := (Blk.new1 w (.cells #[.int .i64 tb, .bool tk, .bool te, .bool tx] 25) 28 [.int .u64 cs, .int .i64 cz]).below hb1
  have z1 := hb1.size
  simp at z1
  have k1 := KB.cell 1
  have HB1 : Hid (Below w.heap.size w w1) := by
    have HB1 := hb1
    show Below _ _ _
    (repeat (first | (with_reducible exact Below.refl _ _) | (with_reducible assumption) | (with_reducible refine Below.setCell ?_ ?_ _; rotate_left; focus (first | exact Nat.le_refl _ | (dsimp only; omega) | (simp; omega))) | (with_reducible refine Below.drew ?_) | (with_reducible refine below_drewN ?_ _) | (with_reducible refine Below.alloc ?_ ?_ _; rotate_left; focus (first | exact Nat.le_refl _ | omega | (simp; done) | (simp; omega))) | (with_reducible refine Below.trans ?_ (HB1.mono ?_); rotate_left; focus (first | exact Nat.le_refl _ | omega | (simp; done) | (simp; omega)))))
  clear hb1 KB
  by_cases hr : r = 0
  all_goals by_cases hz : cz < 0
  all_goals
    go_wp2_with fail
    all_goals (go_ret; exact ⟨ret_bool (by simp [hr, hz]), HB1.out⟩)
/-- A pending comes back whose edits lie in a row of the call's own; its records are nil. -/
def CopRetN (p : Pnd) (w : World) (e : Ending) (w' : World) : Prop := ∃ E ec, e = .returned (pndV p E ec none 0) ∧ w'.ownsRow w.heap.size 44 12 (.slice E p.edits.length ec) p.edits.length (edtK.flat p.edits) ∧ Below w.heap.size w w'
theorem run_append_nilE {P : Program} (w : World) (t ty e : TypeId) (i : TypeInfo) (ht : P.underlying t = some (.slice e)) (hi : P.info? e = some i) (A : Option Addr) (c : Nat) :
    (Builtin.append_ #[t, t] ty #[.slice none 0 0, .slice A 0 c]).run P w = .ok (.slice none 0 0) w := by
  cases A <;> simp [Builtin.append_, run_underlying ht, sizeOf, typeInfo, hi, Builtin.lenOf, Builtin.firstCells, loadCells, loadCellsFrom]
set_option maxRecDepth 100000 in
set_option maxHeartbeats 3200000 in
theorem rcopyN_any (p : Pnd) (E R : Option Addr) (ec rc : Nat) (w : World) (hE : edtK.In E p.edits w) (hn : p.edits.length ≤ 100000) :
    Calls Tryz.prog 86 #[pndV p E ec R rc] w (CopRetN p w) := by
  obtain ⟨i0, hi0, hz0, hz1, hz2⟩ := info_parts Tryz.infoEdit
  obtain ⟨j0, hj0, _, _, _⟩ := info_parts Tryz.infoRec18
  obtain ⟨pn, pc, pt, ps, V⟩ := p
  unfold pndV pndC
  dsimp only at hE hn ⊢
  have HE := Lib.hid hE
  clear hE
  go_enter Tryz.func86, Tryz.ntmps86
  go_upto_region 1 with fail
  generalize hw1 : World.alloc _ (.cells #[.int .i64 0, .string ⟨#[]⟩, .string ⟨#[]⟩, .bool false, .slice none 0 0, .slice none 0 0] 41) = w1
  have HM1 : Hid (Bs [(w.heap.size + 1, 41, [.int .i64 0, .string ⟨#[]⟩, .string ⟨#[]⟩, .bool false, .slice none 0 0, .slice none 0 0]), (w.heap.size, 41, [.int .i64 pn, .string pc, .string pt, .bool ps, .slice E V.length ec, .slice R 0 rc])] w1) := by
    show Bs _ _
    rw [← hw1]
    exact ⟨Blk.new1 _ _ _ _, (Blk.new _ _ _).alloc _, trivial⟩
  have HB1 : Hid (Below w.heap.size w w1) := by
    show Below _ _ _
    rw [← hw1]
    (repeat (first | (with_reducible exact Below.refl _ _) | (with_reducible assumption) | (with_reducible refine Below.setCell ?_ ?_ _; rotate_left; focus (first | exact Nat.le_refl _ | (dsimp only; omega))) | (with_reducible refine Below.drew ?_) | (with_reducible refine below_drewN ?_ _) | (with_reducible refine Below.alloc ?_ ?_ _; rotate_left; focus (first | exact Nat.le_refl _ | (simp; done) | (simp; omega)))))
  clear hw1
  obtain ⟨p0, p1, p2, p3, p4, p5⟩ := HM1.out.2.1.c6
  have g4 := HM1.out.2.1.fz 4
  have HN1 := Lib.hid (HE.out.below HB1.out).news
  have lt1 := HM1.out.1.lt
  go_upto_region 2 with (at_builtin; refine wpList_append_any rfl _ _ 39 rfl w1.heap.size 44 i0 zeroEdt.val 12 96 Tryz.underlying39 hi0 hz0 hz1 hz2 rfl (by decide) (.slice none 0 0) 0 [] rfl ⟨rfl, .inl ⟨rfl, rfl⟩⟩ E V.length ec (edtK.flat V) rfl (edtK.flat_len V) HN1.out (edtK.flat_ones V) (by unfold maxLen; omega) (by omega) (Nat.le_refl _) ?_; intro v2 w2 ho2 hg2; simp only [Nat.zero_add, List.nil_append] at ho2; obtain ⟨A2, c2, rfl⟩ := own_slice ho2; have HO2 := Lib.hid ho2; have HM2 := Lib.hid (HM1.out.grown hg2 (fun x _ e => by cases e)); have HB2 := Lib.hid (HB1.out.grown hg2 HB1.out.size (fun j e => by cases e)); have lt2 := HM2.out.1.lt; clear ho2 hg2 p0 p1 p2 p3 p4 p5 g4; obtain ⟨p0, p1, p2, p3, p4, p5⟩ := HM2.out.2.1.c6; have g4 := HM2.out.2.1.fz 4)
  have HMP := Lib.hid (show Bs [(w.heap.size + 1, 41, [.int .i64 0, .string ⟨#[]⟩, .string ⟨#[]⟩, .bool false, .slice none 0 0, .slice none 0 0]), (w.heap.size, 41, [.int .i64 pn, .string pc, .string pt, .bool ps, .slice A2 V.length c2, .slice R 0 rc])] _ from ⟨HM2.out.1.far (p := ⟨w.heap.size, 4, none⟩) (by dsimp only; omega) (.slice A2 V.length c2), HM2.out.2.1.set 4 (.slice A2 V.length c2), trivial⟩)
  have HBP := Lib.hid (HB2.out.setCell (p := ⟨w.heap.size, 4, none⟩) (Nat.le_refl _) (.slice A2 V.length c2))
  have HOP := Lib.hid (own_set_below HO2.out (p := ⟨w.heap.size, 4, none⟩) (by dsimp only; omega) (.slice A2 V.length c2))
  (generalize World.setCell _ _ _ = w4 at *)
  clear HM2 HB2 HO2 p0 p1 p2 p3 p4 p5 g4
  obtain ⟨p0, p1, p2, p3, p4, p5⟩ := HMP.out.2.1.c6
  have hrn := fun ty => run_append_nilE w4 35 ty 55 j0 Tryz.underlying35 hj0 R rc
  have g5 := HMP.out.2.1.fz 5
  obtain ⟨z0, z1, z2, z3, z4, z5⟩ := HMP.out.1.c6
  have f0 := HMP.out.1.fz 0
  have f1 := HMP.out.1.fz 1
  have f2 := HMP.out.1.fz 2
  have f3 := HMP.out.1.fz 3
  have f4 := HMP.out.1.fz 4
  have f5 := HMP.out.1.fz 5
  have lt3 := HMP.out.1.lt
  go_wp2_with (at_builtin; refine Lib.wpList_append_run _ rfl _ _ _ _ rfl _ _ rfl rfl _ _ (hrn _) ?_)
  refine bodyPost_ret (v := pndV ⟨pn, pc, pt, ps, V⟩ A2 c2 none 0) (by simp [results, Tryz.results86, go_sem, z0, z1, z2, z3, z4, z5]; rfl) rfl ⟨A2, c2, rfl, ?_, ?_⟩
  · have HO5 := HOP.out
    refine ownsRow_le (base' := w1.heap.size) ?_ HB1.out.size
    (repeat (first | (with_reducible exact HO5) | (with_reducible refine own_set_below ?_ ?_ _; rotate_left; focus (dsimp only; omega))))
  · have HB1 := HBP.out
    (repeat (first | (with_reducible exact Below.refl _ _) | (with_reducible assumption) | (with_reducible refine Below.setCell ?_ ?_ _; rotate_left; focus (first | exact Nat.le_refl _ | (dsimp only; omega) | (simp; omega))) | (with_reducible refine Below.drew ?_) | (with_reducible refine below_drewN ?_ _) | (with_reducible refine Below.alloc ?_ ?_ _; rotate_left; focus (first | exact Nat.le_refl _ | omega | (simp; done) | (simp; omega))) | (with_reducible refine Below.trans ?_ (HB1.mono ?_); rotate_left; focus (first | exact Nat.le_refl _ | omega | (simp; done) | (simp; omega)))))
theorem rcopy_any (p : Pnd) (E R : Option Addr) (ec rc : Nat) (w : World) (hE : edtK.In E p.edits w) (hn : p.edits.length ≤ 100000) :
    Calls Tryz.prog 86 #[pndV p E ec R rc] w (CopRet p w) := (rcopyN_any p E R ec rc w hE hn).mono fun _ _ ⟨E', ec', h1, h2, h3⟩ => ⟨E', ec', none, 0, h1, h2, h3⟩
end Go.Proofs.YtocffknoeknabaaGreatDoor
