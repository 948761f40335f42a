/-
  The walks of the reference's Get, Previous, First.
-/
import Derived.Test.YtocffknoeknabaaGreatDoorDpQ
import Derived.IntWalk
namespace Go.Proofs.YtocffknoeknabaaGreatDoor
open Go.RowKit

def getR (d : List Rev) (p : ByteArray) (n : Int) : Rev := (getD' d p n).getD zeroRev
theorem find_take {α : Type} {l : List α} {f : α → Bool} {k : Nat} (h : k < l.length) (h0 : (l.take k).find? f = none) : (l.take (k + 1)).find? f = if f l[k] = true then some l[k] else none := by
  rw [List.take_succ_eq_append_getElem h, List.find?_append, h0]
  simp [List.find?_singleton]
theorem find_at {α : Type} {l : List α} {f : α → Bool} {k : Nat} (h : k < l.length) (h0 : (l.take k).find? f = none) (h1 : f l[k] = true) : l.find? f = some l[k] := by
  have h2 := find_take h h0
  rw [if_pos h1] at h2
  have h3 : (l.take (k + 1) ++ l.drop (k + 1)).find? f = some l[k] := by rw [List.find?_append, h2]; rfl
  rwa [List.take_append_drop] at h3

set_option maxRecDepth 100000 in
set_option maxHeartbeats 3200000 in
theorem rget_any (d : List Rev) (p : ByteArray) (n : Int) (A B : Option Addr) (ca nb cb : Nat) (w : World) (h : revK.In A d w) (hn : d.length ≤ 1000000) :
    Calls Tryz.prog 53 #[.agg #[.slice A d.length ca, .slice B nb cb], .string p, .int .i64 n] w fun e w' => e = .returned (.tuple #[(getR d p n).val, .bool (getD' d p n).isSome]) ∧ Below w.heap.size w w' := by
  have HI := Lib.hid h
  have hln := log_len d p
  unfold getR getD'
  have HL := Lib.hid (fun w h => rlog_any d p A B ca nb cb w h hn)
  generalize logD d p = l at *
  clear h
  go_enter Tryz.func53, Tryz.ntmps53
  go_wp2_with fail
  refine (HL.out _ (HI.out.below (by (repeat (first | (with_reducible exact Below.refl _ _) | (with_reducible assumption) | (with_reducible refine Below.setCell ?_ ?_ _; rotate_left; focus (first | exact Nat.le_refl _ | (dsimp only; omega))) | (with_reducible refine Below.drew ?_) | (with_reducible refine below_drewN ?_ _) | (with_reducible refine Below.alloc ?_ ?_ _; rotate_left; focus (first | exact Nat.le_refl _ | (simp; done) | (simp; omega)))))))).mono ?_
  rintro e w1 ⟨A1, c1, rfl, hI1, hB1⟩
  have hz1 := hB1.size
  simp at hz1
  have K1 : Blk (w.heap.size + 1) 74 zeroRev.cells w1 := (Blk.new1 w _ 74 zeroRev.cells).below hB1
  have H1 : Below w.heap.size w w1 := by
    have HB1 := hB1
    (repeat (first | (with_reducible exact Below.refl _ _) | (with_reducible assumption) | (with_reducible refine Below.setCell ?_ ?_ _; rotate_left; focus (first | exact Nat.le_refl _ | (dsimp only; omega) | (simp; omega))) | (with_reducible refine Below.drew ?_) | (with_reducible refine below_drewN ?_ _) | (with_reducible refine Below.alloc ?_ ?_ _; rotate_left; focus (first | exact Nat.le_refl _ | omega | (simp; done) | (simp; omega))) | (with_reducible refine Below.trans ?_ (HB1.mono ?_); rotate_left; focus (first | exact Nat.le_refl _ | omega | (simp; done) | (simp; omega)))))
  have HI1 := Lib.hid hI1
  have HK1 := Lib.hid K1
  have HB1 := Lib.hid H1
  clear hI1 hB1 K1 H1
  go_wp2_with fail
  go_loopw [14] (fun i wr => ∃ k : Nat, i = .int .i64 k ∧ k ≤ l.length ∧ Below w1.heap.size w1 wr ∧ Hid ((l.take k).find? (fun v => v.num == n) = none)) (fun i _ => l.length - (intOf i).toNat)
  case atStart => exact ⟨0, rfl, Nat.zero_le _, Below.refl _ _, rfl⟩
  case round =>
    obtain ⟨k, rfl, hk, hB, hF⟩ := hrel
    by_cases hlt : k < l.length
    · obtain ⟨b, off, rfl, hbl, hat⟩ := HI1.out (by omega)
      have hg := List.getElem?_eq_getElem hlt
      have HF1 := Lib.hid (find_take hlt hF.out)
      have HF2 := Lib.hid (find_at hlt hF.out)
      generalize hq : l[k] = v at *
      have hat := hat.below hB hbl
      have KW := HK1.out.below hB
      (have hcv := fun j (u : Value) (hj : (v).cells[j]? = some u) => ((hat).get hg hj); have c0 := hcv 0 _ rfl; have c1 := hcv 1 _ rfl; have c2 := hcv 2 _ rfl; have c3 := hcv 3 _ rfl; have c4 := hcv 4 _ rfl; have c5 := hcv 5 _ rfl; have c6 := hcv 6 _ rfl; have c7 := hcv 7 _ rfl; have c8 := hcv 8 _ rfl; have c9 := hcv 9 _ rfl; have c10 := hcv 10 _ rfl; have c11 := hcv 11 _ rfl; have e12 : revK.n = 12 := rfl; simp only [e12, Nat.add_zero] at c0 c1 c2 c3 c4 c5 c6 c7 c8 c9 c10 c11; clear hcv e12)
      have hzr := hB.size
      obtain ⟨f0, f1, f2, f3, f4, f5, f6, f7, f8, f9, f10, f11⟩ := KW.f12
      obtain ⟨z0, z1, z2, z3, z4, z5, z6, z7, z8, z9, z10, z11⟩ := KW.c12
      have hlb : w.heap.size + 1 < wr.heap.size := by omega
      have HKW := Lib.hid KW
      have HB := Lib.hid hB
      clear hat hg hq KW hB hF
      cases hv : (v.num == n)
      · rw [hv] at HF1
        go_wp2_with fail
        go_roundw
        case rel => exact ⟨k + 1, by go_num, by omega, HB.out.alloc HB.out.size _, by show _ = _; rw [HF1.out]; rfl⟩
        case measure => simp [intOf]; omega
      · have HV := Lib.hid hv
        rw [hv] at HF2
        go_wp2_with fail
        refine bodyPost_ret (v := .tuple #[v.val, .bool true]) (by simp [results, Tryz.results53, go_sem, hlb, z0, z1, z2, z3, z4, z5, z6, z7, z8, z9, z10, z11]; rfl) rfl ⟨by rw [HF2.out trivial]; rfl, ?_⟩
        have HB1 := HB1.out.trans (HB.out.mono HB1.out.size)
        (repeat (first | (with_reducible exact Below.refl _ _) | (with_reducible assumption) | (with_reducible refine Below.setCell ?_ ?_ _; rotate_left; focus (first | exact Nat.le_refl _ | (dsimp only; omega) | (simp; omega))) | (with_reducible refine Below.drew ?_) | (with_reducible refine below_drewN ?_ _) | (with_reducible refine Below.alloc ?_ ?_ _; rotate_left; focus (first | exact Nat.le_refl _ | omega | (simp; done) | (simp; omega))) | (with_reducible refine Below.trans ?_ (HB1.mono ?_); rotate_left; focus (first | exact Nat.le_refl _ | omega | (simp; done) | (simp; omega)))))
    · obtain rfl : k = l.length := by omega
      have hF' : l.find? (fun v => v.num == n) = none := by have := hF.out; rwa [List.take_length] at this
      have HF := Lib.hid hF'
      have KW := HK1.out.below hB
      have hzr := hB.size
      obtain ⟨f0, f1, f2, f3, f4, f5, f6, f7, f8, f9, f10, f11⟩ := KW.f12
      obtain ⟨z0, z1, z2, z3, z4, z5, z6, z7, z8, z9, z10, z11⟩ := KW.c12
      have HB := Lib.hid hB
      clear hF hF' KW hB
      go_wp2_with fail
      refine bodyPost_ret (v := .tuple #[zeroRev.val, .bool false]) (by simp [results, Tryz.results53, go_sem, z0, z1, z2, z3, z4, z5, z6, z7, z8, z9, z10, z11]; rfl) rfl ⟨by rw [HF.out]; rfl, ?_⟩
      have HB1 := HB1.out.trans (HB.out.mono HB1.out.size)
      (repeat (first | (with_reducible exact Below.refl _ _) | (with_reducible assumption) | (with_reducible refine Below.setCell ?_ ?_ _; rotate_left; focus (first | exact Nat.le_refl _ | (dsimp only; omega) | (simp; omega))) | (with_reducible refine Below.drew ?_) | (with_reducible refine below_drewN ?_ _) | (with_reducible refine Below.alloc ?_ ?_ _; rotate_left; focus (first | exact Nat.le_refl _ | omega | (simp; done) | (simp; omega))) | (with_reducible refine Below.trans ?_ (HB1.mono ?_); rotate_left; focus (first | exact Nat.le_refl _ | omega | (simp; done) | (simp; omega)))))

def prevD (d : List Rev) (v : Rev) : Option Rev := if (v.act == 1) = true then none else if (v.act == 4) = true then getD' d v.src v.srcn else getD' d v.path (v.num - 1)
def prevR (d : List Rev) (v : Rev) : Rev := (prevD d v).getD zeroRev
set_option maxRecDepth 100000 in
set_option maxHeartbeats 3200000 in
theorem rprev_any (d : List Rev) (v : Rev) (A B : Option Addr) (ca nb cb : Nat) (w : World) (h : revK.In A d w) (hn : d.length ≤ 1000000) (hv : -9223372036854775807 ≤ v.num ∧ v.num ≤ 9223372036854775807) :
    Calls Tryz.prog 94 #[.agg #[.slice A d.length ca, .slice B nb cb], v.val] w fun e w' => e = .returned (.tuple #[(prevR d v).val, .bool (prevD d v).isSome]) ∧ Below w.heap.size w w' := by
  have HI := Lib.hid h
  have HG := Lib.hid (fun p n w h => rget_any d p n A B ca nb cb w h hn)
  unfold getR at HG
  unfold prevR
  clear h
  have HE1 : Hid ((v.act == 1) = true → prevD d v = none) := fun e => by unfold prevD; rw [if_pos e]
  have HE2 : Hid ((v.act == 1) = false → (v.act == 4) = true → prevD d v = getD' d v.src v.srcn) := fun e e2 => by unfold prevD; rw [if_neg (by rw [e]; decide), if_pos e2]
  have HE3 : Hid ((v.act == 1) = false → (v.act == 4) = false → prevD d v = getD' d v.path (v.num - 1)) := fun e e2 => by unfold prevD; rw [if_neg (by rw [e]; decide), if_neg (by rw [e2]; decide)]
  (obtain ⟨vp, vn, vc, va, ⟨tb, tk, te, tx⟩, ⟨cs, cz⟩, vs, vm⟩ := v)
  unfold Rev.val Rev.cells
  dsimp only at hv HE1 HE2 HE3 ⊢
  obtain ⟨hv1, hv2⟩ := hv
  cases h1 : (va == 1)
  · cases h4 : (va == 4)
    · have HE := Lib.hid (HE3.out h1 h4)
      clear HE1 HE2 HE3
      have HG := Lib.hid (HG.out vp (vn - 1))
      rw [← HE.out] at HG
      clear HE
      generalize prevD d _ = q at *
      generalize q.isSome = qs at *
      generalize q.getD zeroRev = u at *
      go_enter Tryz.func94, Tryz.ntmps94
      go_wp2_with fail
      refine (HG.out _ (HI.out.below (by (repeat (first | (with_reducible exact Below.refl _ _) | (with_reducible assumption) | (with_reducible refine Below.setCell ?_ ?_ _; rotate_left; focus (first | exact Nat.le_refl _ | (dsimp only; omega))) | (with_reducible refine Below.drew ?_) | (with_reducible refine below_drewN ?_ _) | (with_reducible refine Below.alloc ?_ ?_ _; rotate_left; focus (first | exact Nat.le_refl _ | (simp; done) | (simp; omega)))))))).mono ?_
      rintro e w1 ⟨rfl, hB1⟩
      have hz1 := hB1.size
      simp at hz1
      have K1 := (Blk.new2 w _ _ 74 zeroRev.cells).below hB1
      (obtain ⟨f0, f1, f2, f3, f4, f5, f6, f7, f8, f9, f10, f11⟩ := (K1).f12; obtain ⟨z0, z1, z2, z3, z4, z5, z6, z7, z8, z9, z10, z11⟩ := (K1).c12)
      have hlb : w.heap.size + 1 + 1 < w1.heap.size := by omega
      have HB1 := Lib.hid hB1
      clear hB1 K1
      unfold Rev.val Rev.cells
      go_wp2_with fail
      refine bodyPost_ret (v := .tuple #[(u).val, .bool qs]) (by simp [results, Tryz.results94, go_sem, z0, z1, z2, z3, z4, z5, z6, z7, z8, z9, z10, z11]; rfl) rfl ⟨rfl, ?_⟩
      have HB1 := HB1.out
      (repeat (first | (with_reducible exact Below.refl _ _) | (with_reducible assumption) | (with_reducible refine Below.setCell ?_ ?_ _; rotate_left; focus (first | exact Nat.le_refl _ | (dsimp only; omega) | (simp; omega))) | (with_reducible refine Below.drew ?_) | (with_reducible refine below_drewN ?_ _) | (with_reducible refine Below.alloc ?_ ?_ _; rotate_left; focus (first | exact Nat.le_refl _ | omega | (simp; done) | (simp; omega))) | (with_reducible refine Below.trans ?_ (HB1.mono ?_); rotate_left; focus (first | exact Nat.le_refl _ | omega | (simp; done) | (simp; omega)))))
    · have HE := Lib.hid (HE2.out h1 h4)
      clear HE1 HE2 HE3
      have HG := Lib.hid (HG.out vs vm)
      rw [← HE.out] at HG
      clear HE
      generalize prevD d _ = q at *
      generalize q.isSome = qs at *
      generalize q.getD zeroRev = u at *
      go_enter Tryz.func94, Tryz.ntmps94
      go_wp2_with fail
      refine (HG.out _ (HI.out.below (by (repeat (first | (with_reducible exact Below.refl _ _) | (with_reducible assumption) | (with_reducible refine Below.setCell ?_ ?_ _; rotate_left; focus (first | exact Nat.le_refl _ | (dsimp only; omega))) | (with_reducible refine Below.drew ?_) | (with_reducible refine below_drewN ?_ _) | (with_reducible refine Below.alloc ?_ ?_ _; rotate_left; focus (first | exact Nat.le_refl _ | (simp; done) | (simp; omega)))))))).mono ?_
      rintro e w1 ⟨rfl, hB1⟩
      have hz1 := hB1.size
      simp at hz1
      have K1 := (Blk.new2 w _ _ 74 zeroRev.cells).below hB1
      (obtain ⟨f0, f1, f2, f3, f4, f5, f6, f7, f8, f9, f10, f11⟩ := (K1).f12; obtain ⟨z0, z1, z2, z3, z4, z5, z6, z7, z8, z9, z10, z11⟩ := (K1).c12)
      have hlb : w.heap.size + 1 + 1 < w1.heap.size := by omega
      have HB1 := Lib.hid hB1
      clear hB1 K1
      unfold Rev.val Rev.cells
      go_wp2_with fail
      refine bodyPost_ret (v := .tuple #[(u).val, .bool qs]) (by simp [results, Tryz.results94, go_sem, z0, z1, z2, z3, z4, z5, z6, z7, z8, z9, z10, z11]; rfl) rfl ⟨rfl, ?_⟩
      have HB1 := HB1.out
      (repeat (first | (with_reducible exact Below.refl _ _) | (with_reducible assumption) | (with_reducible refine Below.setCell ?_ ?_ _; rotate_left; focus (first | exact Nat.le_refl _ | (dsimp only; omega) | (simp; omega))) | (with_reducible refine Below.drew ?_) | (with_reducible refine below_drewN ?_ _) | (with_reducible refine Below.alloc ?_ ?_ _; rotate_left; focus (first | exact Nat.le_refl _ | omega | (simp; done) | (simp; omega))) | (with_reducible refine Below.trans ?_ (HB1.mono ?_); rotate_left; focus (first | exact Nat.le_refl _ | omega | (simp; done) | (simp; omega)))))
  · rw [HE1.out h1]
    clear HE1 HE2 HE3
    go_enter Tryz.func94, Tryz.ntmps94
    go_wp2_with fail
    refine bodyPost_ret (v := .tuple #[zeroRev.val, .bool false]) (by simp [results, Tryz.results94, go_sem]; rfl) rfl ⟨rfl, ?_⟩
    (repeat (first | (with_reducible exact Below.refl _ _) | (with_reducible assumption) | (with_reducible refine Below.setCell ?_ ?_ _; rotate_left; focus (first | exact Nat.le_refl _ | (dsimp only; omega))) | (with_reducible refine Below.drew ?_) | (with_reducible refine below_drewN ?_ _) | (with_reducible refine Below.alloc ?_ ?_ _; rotate_left; focus (first | exact Nat.le_refl _ | (simp; done) | (simp; omega)))))

/-! The first member of a line. -/
def firstF (d : List Rev) : Nat → Rev → ByteArray × Int
  | 0, v => (v.path, v.num)
  | k + 1, v => match prevD d v with
    | none => (v.path, v.num)
    | some u => if v.chg ≤ u.chg then (v.path, v.num) else firstF d k u
def firstD (d : List Rev) (v : Rev) : ByteArray × Int := firstF d v.chg.toNat v
/-- What the revisions of a depot keep. -/
def OkR (d : List Rev) : Prop := ∀ x ∈ d, 1 ≤ x.chg ∧ 1 ≤ x.num ∧ x.num ≤ 1000000
theorem get_mem {d : List Rev} {p : ByteArray} {n : Int} {u : Rev} (h : getD' d p n = some u) : u ∈ d := by
  unfold getD' at h
  exact (List.mem_filter.1 (List.mem_of_find?_eq_some h)).1
theorem prev_mem {d : List Rev} {v u : Rev} (h : prevD d v = some u) : u ∈ d := by
  unfold prevD at h
  split at h
  · cases h
  · split at h <;> exact get_mem h
theorem first_fuel {d : List Rev} (hd : OkR d) (k : Nat) : ∀ v : Rev, v.chg.toNat ≤ k → firstF d k v = firstD d v := by
  induction k using Nat.strongRecOn with
  | _ k ih =>
    intro v hk
    cases k with
    | zero =>
      unfold firstD
      rw [Nat.le_zero.1 hk]
    | succ k =>
      unfold firstD
      cases hm : v.chg.toNat with
      | zero =>
        show (match prevD d v with | none => (v.path, v.num) | some u => if v.chg ≤ u.chg then (v.path, v.num) else firstF d k u) = (v.path, v.num)
        cases hp : prevD d v with
        | none => rfl
        | some u =>
          have := (hd u (prev_mem hp)).1
          exact if_pos (by omega)
      | succ m =>
        show (match prevD d v with | none => (v.path, v.num) | some u => if v.chg ≤ u.chg then (v.path, v.num) else firstF d k u) = (match prevD d v with | none => (v.path, v.num) | some u => if v.chg ≤ u.chg then (v.path, v.num) else firstF d m u)
        cases hp : prevD d v with
        | none => rfl
        | some u =>
          dsimp only
          by_cases hc : v.chg ≤ u.chg
          · rw [if_pos hc, if_pos hc]
          · have := (hd u (prev_mem hp)).1
            rw [if_neg hc, if_neg hc, ih k (by omega) u (by omega), ih m (by omega) u (by omega)]
theorem first_end {d : List Rev} (hd : OkR d) {v : Rev} (h : ∀ u, prevD d v = some u → v.chg ≤ u.chg) : firstD d v = (v.path, v.num) := by
  rw [← first_fuel hd (v.chg.toNat + 1) v (by omega)]
  unfold firstF
  cases hp : prevD d v with
  | none => rfl
  | some u => exact if_pos (h u hp)
theorem first_step {d : List Rev} (hd : OkR d) {v u : Rev} (h : prevD d v = some u) (hc : u.chg < v.chg) : firstD d v = firstD d u := by
  rw [← first_fuel hd (v.chg.toNat + 1) v (by omega)]
  unfold firstF
  rw [h]
  dsimp only
  rw [if_neg (by omega), first_fuel hd _ u (by omega)]

def fileV (f : ByteArray × Int) : Value := .agg #[.string f.1, .int .i64 f.2]
set_option maxRecDepth 100000 in
set_option maxHeartbeats 3200000 in
theorem rfirst_any (d : List Rev) (v : Rev) (A B : Option Addr) (ca nb cb : Nat) (w : World) (h : revK.In A d w) (hn : d.length ≤ 1000000) (hd : OkR d) (hv : -9223372036854775807 ≤ v.num ∧ v.num ≤ 9223372036854775807) :
    Calls Tryz.prog 44 #[.agg #[.slice A d.length ca, .slice B nb cb], v.val] w fun e w' => e = .returned (fileV (firstD d v)) ∧ Below w.heap.size w w' := by
  have HI := Lib.hid h
  have HP := Lib.hid (fun v w h hv => rprev_any d v A B ca nb cb w h hn hv)
  have HD := Lib.hid hd
  clear h hd
  generalize hF : firstD d v = F
  have HF := Lib.hid hF
  have HV := Lib.hid hv
  clear hF hv
  unfold Rev.val Rev.cells fileV
  go_enter Tryz.func44, Tryz.ntmps44
  go_wp2_with fail
  go_loopw [] (fun wr => ∃ x : Rev, Hid (-9223372036854775807 ≤ x.num ∧ x.num ≤ 9223372036854775807) ∧ Hid (firstD d x = F) ∧ Below w.heap.size w wr ∧ Blk w.heap.size 37 [.slice A d.length ca, .slice B nb cb] wr ∧ Blk (w.heap.size + 1) 74 x.cells wr ∧ Blk (w.heap.size + 1 + 1) 66 [.string ⟨#[]⟩, .int .i64 0] wr) (fun wr => match wr.cell? ⟨w.heap.size + 1, 2, none⟩ with | some (.int _ n) => n.toNat | _ => 0)
  case atStart => exact ⟨v, HV, HF, by (repeat (first | (with_reducible exact Below.refl _ _) | (with_reducible assumption) | (with_reducible refine Below.setCell ?_ ?_ _; rotate_left; focus (first | exact Nat.le_refl _ | (dsimp only; omega))) | (with_reducible refine Below.drew ?_) | (with_reducible refine below_drewN ?_ _) | (with_reducible refine Below.alloc ?_ ?_ _; rotate_left; focus (first | exact Nat.le_refl _ | (simp; done) | (simp; omega))))), ((Blk.new _ _ _).alloc _).alloc _, (Blk.new1 _ _ _ _).alloc _, Blk.new2 _ _ _ _ _⟩
  case round =>
    obtain ⟨x, HX, HFX, hB, K0, K1, K2⟩ := hrel
    have hz := K2.lt
    have HB := Lib.hid hB
    have HK0 := Lib.hid K0
    have HK1 := Lib.hid K1
    have HK2 := Lib.hid K2
    obtain ⟨d0, d1⟩ := K0.c2
    obtain ⟨c0, c1, c2, c3, c4, c5, c6, c7, c8, c9, c10, c11⟩ := K1.c12
    have HM := Lib.hid c2
    clear hB K0 K1 K2
    have HC := HP.out x wr (HI.out.below HB.out) HX.out
    unfold prevR at HC
    cases hp : prevD d x with
    | none =>
      have hF : F = (x.path, x.num) := by rw [← HFX.out]; exact first_end HD.out (fun u hu => by rw [hp] at hu; cases hu)
      subst hF
      rw [hp] at HC
      simp only [Option.getD_none, Option.isSome_none, zeroRev, Rev.val, Rev.cells, zeroTy, zeroCon] at HC
      have HCC := Lib.hid HC
      clear HC hp HF HFX HX
      go_wp2_with fail
      refine HCC.out.mono ?_
      rintro e w1 ⟨rfl, hB1⟩
      have hz1 := hB1.size
      have K0 := HK0.out.below hB1
      have K1 := HK1.out.below hB1
      have K2 := HK2.out.below hB1
      obtain ⟨d0, d1⟩ := K0.c2
      obtain ⟨c0, c1, c2, c3, c4, c5, c6, c7, c8, c9, c10, c11⟩ := K1.c12
      obtain ⟨r0, r1⟩ := K2.c2
      have s0 := K2.fz 0
      have s1 := K2.fz 1
      have hl1 : w.heap.size + 1 + 1 < w1.heap.size := by omega
      have hl0 : w.heap.size + 1 < w1.heap.size := by omega
      have HB1 := Lib.hid (HB.out.trans (hB1.mono HB.out.size))
      clear hB1 K0 K1 K2
      go_wp2_with fail
      refine bodyPost_ret (v := .agg #[.string x.path, .int .i64 x.num]) (by simp [results, Tryz.results44, go_sem, r0, r1, hl1]) rfl ⟨rfl, ?_⟩
      have HB1 := HB1.out
      (repeat (first | (with_reducible exact Below.refl _ _) | (with_reducible assumption) | (with_reducible refine Below.setCell ?_ ?_ _; rotate_left; focus (first | exact Nat.le_refl _ | (dsimp only; omega) | (simp; omega))) | (with_reducible refine Below.drew ?_) | (with_reducible refine below_drewN ?_ _) | (with_reducible refine Below.alloc ?_ ?_ _; rotate_left; focus (first | exact Nat.le_refl _ | omega | (simp; done) | (simp; omega))) | (with_reducible refine Below.trans ?_ (HB1.mono ?_); rotate_left; focus (first | exact Nat.le_refl _ | omega | (simp; done) | (simp; omega)))))
    | some u =>
      rw [hp] at HC
      simp only [Option.getD_some, Option.isSome_some] at HC
      by_cases hc : x.chg ≤ u.chg
      · have hF : F = (x.path, x.num) := by rw [← HFX.out]; exact first_end HD.out (fun u' hu => by rw [hp] at hu; injection hu with hu; rw [← hu]; exact hc)
        subst hF
        unfold Rev.val Rev.cells at HC
        have HCC := Lib.hid HC
        clear HC hp HF HFX HX
        go_wp2_with fail
        refine HCC.out.mono ?_
        rintro e w1 ⟨rfl, hB1⟩
        have hz1 := hB1.size
        have K0 := HK0.out.below hB1
        have K1 := HK1.out.below hB1
        have K2 := HK2.out.below hB1
        obtain ⟨d0, d1⟩ := K0.c2
        obtain ⟨c0, c1, c2, c3, c4, c5, c6, c7, c8, c9, c10, c11⟩ := K1.c12
        obtain ⟨r0, r1⟩ := K2.c2
        have s0 := K2.fz 0
        have s1 := K2.fz 1
        have hl1 : w.heap.size + 1 + 1 < w1.heap.size := by omega
        have hl0 : w.heap.size + 1 < w1.heap.size := by omega
        have HB1 := Lib.hid (HB.out.trans (hB1.mono HB.out.size))
        clear hB1 K0 K1 K2
        go_wp2_with fail
        refine bodyPost_ret (v := .agg #[.string x.path, .int .i64 x.num]) (by simp [results, Tryz.results44, go_sem, r0, r1, hl1]) rfl ⟨rfl, ?_⟩
        have HB1 := HB1.out
        (repeat (first | (with_reducible exact Below.refl _ _) | (with_reducible assumption) | (with_reducible refine Below.setCell ?_ ?_ _; rotate_left; focus (first | exact Nat.le_refl _ | (dsimp only; omega) | (simp; omega))) | (with_reducible refine Below.drew ?_) | (with_reducible refine below_drewN ?_ _) | (with_reducible refine Below.alloc ?_ ?_ _; rotate_left; focus (first | exact Nat.le_refl _ | omega | (simp; done) | (simp; omega))) | (with_reducible refine Below.trans ?_ (HB1.mono ?_); rotate_left; focus (first | exact Nat.le_refl _ | omega | (simp; done) | (simp; omega)))))
      · have hc' : u.chg < x.chg := by omega
        have HFU : Hid (firstD d u = F) := by show _ = _; rw [← HFX.out, first_step HD.out hp hc']
        have HU : Hid (-9223372036854775807 ≤ u.num ∧ u.num ≤ 9223372036854775807) := by
          have := HD.out u (prev_mem hp)
          show _ ∧ _
          omega
        have h1c := (HD.out u (prev_mem hp)).1
        unfold Rev.val Rev.cells at HC
        have HCC := Lib.hid HC
        clear HC hp HF HFX HX
        go_wp2_with fail
        refine HCC.out.mono ?_
        rintro e w1 ⟨rfl, hB1⟩
        have hz1 := hB1.size
        have K0 := HK0.out.below hB1
        have K1 := HK1.out.below hB1
        have K2 := HK2.out.below hB1
        obtain ⟨d0, d1⟩ := K0.c2
        obtain ⟨c0, c1, c2, c3, c4, c5, c6, c7, c8, c9, c10, c11⟩ := K1.c12
        obtain ⟨f0, f1, f2, f3, f4, f5, f6, f7, f8, f9, f10, f11⟩ := K1.f12
        have hl1 : w.heap.size + 1 < w1.heap.size := by omega
        have HB1 := Lib.hid (HB.out.trans (hB1.mono HB.out.size))
        have HQ0 := Lib.hid K0
        have HQ1 := Lib.hid K1
        have HQ2 := Lib.hid K2
        clear hB1 K0 K1 K2
        go_wp2_with fail
        go_roundw
        case rel =>
          refine ⟨u, HU, HFU, ?_, ?_, ?_, ?_⟩
          · have HB1 := HB1.out
            (repeat (first | (with_reducible exact Below.refl _ _) | (with_reducible assumption) | (with_reducible refine Below.setCell ?_ ?_ _; rotate_left; focus (first | exact Nat.le_refl _ | (dsimp only; omega) | (simp; omega))) | (with_reducible refine Below.drew ?_) | (with_reducible refine below_drewN ?_ _) | (with_reducible refine Below.alloc ?_ ?_ _; rotate_left; focus (first | exact Nat.le_refl _ | omega | (simp; done) | (simp; omega))) | (with_reducible refine Below.trans ?_ (HB1.mono ?_); rotate_left; focus (first | exact Nat.le_refl _ | omega | (simp; done) | (simp; omega)))))
          · (repeat (first | (with_reducible exact HQ0.out) | (with_reducible refine Blk.alloc ?_ _) | (with_reducible refine Blk.drew ?_) | (with_reducible refine Blk.far ?_ ?_ _; rotate_left; focus (dsimp only; omega))))
          · exact Blk.alloc (HQ1.out.put12 _ _ _ _ _ _ _ _ _ _ _ _) _
          · (repeat (first | (with_reducible exact HQ2.out) | (with_reducible refine Blk.alloc ?_ _) | (with_reducible refine Blk.drew ?_) | (with_reducible refine Blk.far ?_ ?_ _; rotate_left; focus (dsimp only; omega))))
        case measure =>
          rw [HM.out, (Blk.alloc (HQ1.out.put12 _ _ _ _ _ _ _ _ _ _ _ _) _).cell 2]
          show u.chg.toNat < x.chg.toNat
          omega
end Go.Proofs.YtocffknoeknabaaGreatDoor
