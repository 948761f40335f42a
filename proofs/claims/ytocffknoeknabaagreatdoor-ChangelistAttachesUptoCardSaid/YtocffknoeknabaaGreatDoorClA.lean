/-
  The walks of changelist: isPath, compare, place (with sort.Search), suitable; filetype.Check.
-/
import Derived.Test.YtocffknoeknabaaGreatDoorCgC
import Derived.Test.YtocffknoeknabaaGreatDoorCmp
import Derived.Test.YtocffknoeknabaaGreatDoorCgB
import Derived.IntWalk
namespace Go.Proofs.YtocffknoeknabaaGreatDoor
open Go.RowKit

theorem isPath18_any (s : ByteArray) (w : World) (hs : s.size ≤ 4294967281) : Calls Tryz.prog 64 #[.string s] w fun e w' => e = .returned (.bool (useB s)) ∧ w' = w := by
  by_cases hp : s.size ≤ 200
  · cases hv : validB s.data.toList
    · go_enter Tryz.func64, Tryz.ntmps64
      go_wp2_with (go_at_call 14; refine (valid_any _ _ (by omega)).mono ?_; rintro e w' ⟨rfl, rfl⟩)
      go_ret
      exact ⟨ret_bool (by simp [useB, hv]), rfl⟩
    · go_enter Tryz.func64, Tryz.ntmps64
      go_wp2_with (go_at_call 14; refine (valid_any _ _ (by omega)).mono ?_; rintro e w' ⟨rfl, rfl⟩)
      all_goals (go_ret; exact ⟨ret_bool (by simp [useB, hv, hp]), rfl⟩)
  · go_enter Tryz.func64, Tryz.ntmps64
    go_wp2_with fail
    go_ret
    exact ⟨ret_bool (by simp [useB, hp]), rfl⟩

/-- The program's comparison of a path with any text. -/
def cmpQ (a b : ByteArray) : Int := if validB b.data.toList = true then ordH a b else 0
theorem pathcmp_no (a b : ByteArray) (w : World) (ha : validB a.data.toList = true) (hb : validB b.data.toList = false) (hla : a.size ≤ 4611686018427387904) (hlb : b.size ≤ 4611686018427387904) :
    Calls Tryz.prog 124 #[.string a, .string b] w fun e w' => e = .returned (.tuple #[.int .i64 0, .int .i64 20]) ∧ w' = w := by
  have HA := Lib.hid ha
  have HB := Lib.hid hb
  clear ha hb
  go_enter Tryz.func124, Tryz.ntmps124
  go_wp2_with fail
  refine (valid_any a _ hla).mono ?_
  rintro e w' ⟨rfl, rfl⟩
  rw [HA.out]
  go_wp2_with fail
  refine (valid_any b _ hlb).mono ?_
  rintro e w' ⟨rfl, rfl⟩
  rw [HB.out]
  go_wp2_with fail
  go_ret2
  exact ⟨rfl, rfl⟩
theorem cmp18_any (a b : ByteArray) (w : World) (ha : validB a.data.toList = true) (hla : a.size ≤ 4294967281) (hlb : b.size ≤ 4294967281) :
    Calls Tryz.prog 79 #[.string a, .string b] w fun e w' => e = .returned (.int .i64 (cmpQ a b)) ∧ Below w.heap.size w w' := by
  cases hb : validB b.data.toList
  · have HC := Lib.hid (fun w => pathcmp_no a b w ha hb (by omega) (by omega))
    have HQ : Hid (cmpQ a b = 0) := by show _ = _; unfold cmpQ; rw [hb]; rfl
    rw [HQ.out]
    clear ha hb
    go_enter Tryz.func79, Tryz.ntmps79
    go_wp2_with fail
    refine (HC.out _).mono ?_
    rintro e w' ⟨rfl, rfl⟩
    go_wp2_with fail
    go_ret
    exact ⟨rfl, Below.refl _ _⟩
  · have HC := Lib.hid (fun w => pathcmp_any a b w ha hb (by omega) (by omega))
    have HQ : Hid (cmpQ a b = pcmp a.data.toList b.data.toList) := by show _ = _; unfold cmpQ; rw [if_pos hb, ordH_valid ha hb]
    rw [HQ.out]
    clear ha hb
    go_enter Tryz.func79, Tryz.ntmps79
    go_wp2_with fail
    refine (HC.out _).mono ?_
    rintro e w' ⟨rfl, n, rfl⟩
    go_wp2_with fail
    go_ret
    exact ⟨rfl, below_drewN (Below.refl _ _) n⟩

/-- Where a path would stand: the program's question at a place. -/
theorem cmpQ_pos {E : List Edt} (h : EPl E) (s : ByteArray) {i : Nat} (hi : i < E.length) : decide (0 ≤ cmpQ E[i].path s) = decide (posP E s ≤ i) := by
  unfold cmpQ posP
  split
  · rw [decide_eq_decide, ← Int.not_lt, pos_at h.srt s hi]
    omega
  · simp
set_option maxHeartbeats 800000 in
theorem place1_any (E : List Edt) (s : ByteArray) (A : Option Addr) (ca : Nat) (b0 b1 : Nat) (i : Nat) (w : World) (h : EPl E) (hs : s.size ≤ 4294967281) (hi : i < E.length) (hA : edtK.In A E w) (c0 : w.cell? ⟨b0, 0, none⟩ = some (.slice A E.length ca)) (c1 : w.cell? ⟨b1, 0, none⟩ = some (.string s)) :
    Calls Tryz.prog 78 #[.int .i64 (i : Int), .pointer (some ⟨b0, 0, none⟩), .pointer (some ⟨b1, 0, none⟩)] w fun e w' => e = .returned (.bool (decide (posP E s ≤ i))) ∧ Below w.heap.size w w' := by
  obtain ⟨b, off, rfl, hbl, hat⟩ := hA (by omega)
  have hg := List.getElem?_eq_getElem hi
  have hu := h.use E[i] (List.getElem_mem hi)
  have HQ := Lib.hid (cmpQ_pos h s hi)
  have HC := Lib.hid (fun w => cmp18_any E[i].path s w hu.1 (by have := hu.2; omega) hs)
  have hl0 := h.len
  have HE := Lib.hid h
  have l0 : b0 < w.heap.size := block_lt_of_cell c0
  have l1 : b1 < w.heap.size := block_lt_of_cell c1
  have q0 := hat.get hg (j := 0) (u := .string E[i].path) rfl
  generalize E[i].path = p at *
  have e12 : edtK.n = 12 := rfl
  simp only [e12, Nat.add_zero] at q0
  have HQ0 := Lib.hid q0
  have HC0 := Lib.hid c0
  have HC1 := Lib.hid c1
  clear h hg hu hat q0 c0 c1 e12
  have hS : Below w.heap.size w w.drew := (Below.refl _ _).drew
  have r0 := fun y : Held (Below w.heap.size w) => (y.ok.cell (p := ⟨b0, 0, none⟩) l0).trans HC0.out
  have r1 := fun y : Held (Below w.heap.size w) => (y.ok.cell (p := ⟨b1, 0, none⟩) l1).trans HC1.out
  have r2 := fun y : Held (Below w.heap.size w) => (y.ok.cell (p := ⟨b, off + i * 12, none⟩) hbl).trans HQ0.out
  cases hd : decide (posP E s ≤ i)
  all_goals
    rw [hd] at HQ
    have hq := HQ.out
    generalize cmpQ p s = z at *
    simp only [decide_eq_true_eq, decide_eq_false_iff_not] at hq
    clear hd HQ
    go_enter Tryz.func78, Tryz.ntmps78
    go_wp2_with fail
    (refine wp_region_s (S := Below w.heap.size w) (by kernel_rfl) (by kernel_rfl) hS ?_; have hN : Nonempty (Held (Below w.heap.size w)) := ⟨⟨_, hS⟩⟩; skip; (repeat (go_big_quiet_step ((go_at_call 79; exact held_keep (HC.out _))))); refine wpQuiet_nil ?_; rintro x ⟨⟨_, hx⟩, rfl⟩; clear hN)
    go_wp2_with fail
    go_ret
    first
      | exact ⟨ret_bool (by simp; omega), hx⟩
      | exact ⟨rfl, hx⟩
set_option maxHeartbeats 1600000 in
theorem search18_any (E : List Edt) (s : ByteArray) (A : Option Addr) (ca : Nat) (b0 b1 : Nat) (w : World) (h : EPl E) (hs : s.size ≤ 4294967281) (hA : edtK.In A E w) (c0 : w.cell? ⟨b0, 0, none⟩ = some (.slice A E.length ca)) (c1 : w.cell? ⟨b1, 0, none⟩ = some (.string s)) :
    Calls Tryz.prog 77 #[.int .i64 (E.length : Int), .func (.func 78) #[] #[.pointer (some ⟨b0, 0, none⟩), .pointer (some ⟨b1, 0, none⟩)]] w fun e w' => e = .returned (.int .i64 (posP E s : Int)) ∧ Below w.heap.size w w' := by
  have l0 : b0 < w.heap.size := block_lt_of_cell c0
  have l1 : b1 < w.heap.size := block_lt_of_cell c1
  have HP := Lib.hid (fun (i : Nat) (hi : i < E.length) (y : World) (hb : Below w.heap.size w y) => place1_any E s A ca b0 b1 i y h hs hi (hA.below hb) ((hb.cell (p := ⟨b0, 0, none⟩) l0).trans c0) ((hb.cell (p := ⟨b1, 0, none⟩) l1).trans c1))
  have hle := posP_le E s
  have hl0 := h.len
  generalize posP E s = k at *
  generalize E.length = n at *
  clear h hA c0 c1
  go_enter Tryz.func77, Tryz.ntmps77
  go_wp2_with fail
  go_loopw [5, 6] (fun i j wr => ∃ a c : Nat, a ≤ k ∧ k ≤ c ∧ c ≤ n ∧ i = .int .i64 a ∧ j = .int .i64 c ∧ Below w.heap.size w wr) (fun i j _ => (intOf j - intOf i).toNat)
  case atStart => exact ⟨0, n, by omega, hle, Nat.le_refl _, rfl, rfl, Below.refl _ _⟩
  case round =>
    obtain ⟨a, c, ha, hc, hc2, rfl, rfl, hB⟩ := hrel
    have HB := Lib.hid hB
    clear hB
    by_cases hlt : a < c
    · have e2 : (((a + c) / 2 : Nat) : Int) = ((a : Int) + c) / 2 := by omega
      have HX := Lib.hid (HP.out ((a + c) / 2) (by omega) wr HB.out)
      rw [e2] at HX
      have HE := Lib.hid e2
      clear e2
      cases hb : decide (k ≤ (a + c) / 2)
      · have hn' : (a + c) / 2 < k := by simpa using hb
        rw [hb] at HX
        go_wp2_with (go_at_call 78; refine HX.out.mono ?_; rintro e w' ⟨rfl, hb'⟩)
        go_roundw
        case rel => exact ⟨(a + c) / 2 + 1, c, by omega, hc, hc2, by go_num, rfl, HB.out.trans (hb'.mono HB.out.size)⟩
        case measure => simp [intOf]; omega
      · have hn' : k ≤ (a + c) / 2 := by simpa using hb
        rw [hb] at HX
        go_wp2_with (go_at_call 78; refine HX.out.mono ?_; rintro e w' ⟨rfl, hb'⟩)
        go_roundw
        case rel => exact ⟨a, (a + c) / 2, ha, by omega, by omega, rfl, by go_num, HB.out.trans (hb'.mono HB.out.size)⟩
        case measure => simp [intOf]; omega
    · have : a = k := by omega
      have HE := Lib.hid this
      clear this
      go_wp2_with fail
      go_ret
      exact ⟨ret_int (by rw [← HE.out]), HB.out⟩
set_option maxRecDepth 100000 in
set_option maxHeartbeats 1600000 in
theorem place_any (E : List Edt) (s : ByteArray) (A : Option Addr) (ca : Nat) (w : World) (h : EPl E) (hs : s.size ≤ 4294967281) (hA : edtK.In A E w) :
    Calls Tryz.prog 29 #[.slice A E.length ca, .string s] w fun e w' => e = .returned (.tuple #[.int .i64 (posP E s : Int), .bool (hasE E s)]) ∧ Below w.heap.size w w' := by
  have HA := Lib.hid hA
  have HS := Lib.hid (fun w hA c0 c1 => search18_any E s A ca w.heap.size (w.heap.size + 1) w h hs hA c0 c1)
  have HS2 := Lib.hid (fun b0 b1 w hA c0 c1 => search18_any E s A ca b0 b1 w h hs hA c0 c1)
  have HP := Lib.hid (place_is h s)
  have hle := posP_le E s
  have hl0 := h.len
  clear h hA HS
  generalize posP E s = k at *
  generalize hasE E s = hh at *
  go_enter Tryz.func29, Tryz.ntmps29
  go_wp2_with fail
  refine (HS2.out _ _ _ (HA.out.below (by (repeat (first | (with_reducible exact Below.refl _ _) | (with_reducible assumption) | (with_reducible refine Below.setCell ?_ ?_ _; rotate_left; focus (first | exact Nat.le_refl _ | (dsimp only; omega))) | (with_reducible refine Below.drew ?_) | (with_reducible refine below_drewN ?_ _) | (with_reducible refine Below.alloc ?_ ?_ _; rotate_left; focus (first | exact Nat.le_refl _ | (simp; done) | (simp; omega))))))) (by simp [go_sem]) (by simp [go_sem])).mono ?_
  rintro e w1 ⟨rfl, hb1⟩
  have KB := (Blk.new1 w (.cells #[.slice A E.length ca] 39) 9 [.string s]).below hb1
  have KA := ((Blk.new w 39 [.slice A E.length ca]).alloc (.cells #[.string s] 9)).below hb1
  have HB1 : Hid (Below w.heap.size w w1) := by
    have HB1 := hb1
    show Below _ _ _
    (repeat (first | (with_reducible exact Below.refl _ _) | (with_reducible assumption) | (with_reducible refine Below.setCell ?_ ?_ _; rotate_left; focus (first | exact Nat.le_refl _ | (dsimp only; omega) | (simp; omega))) | (with_reducible refine Below.drew ?_) | (with_reducible refine below_drewN ?_ _) | (with_reducible refine Below.alloc ?_ ?_ _; rotate_left; focus (first | exact Nat.le_refl _ | omega | (simp; done) | (simp; omega))) | (with_reducible refine Below.trans ?_ (HB1.mono ?_); rotate_left; focus (first | exact Nat.le_refl _ | omega | (simp; done) | (simp; omega)))))
  have z1 := hb1.size
  simp at z1
  have k0 := KA.cell 0
  have k1 := KB.cell 0
  have HA1 := Lib.hid (HA.out.below HB1.out)
  clear hb1 KA KB HA HS2
  by_cases hlt : k < E.length
  · have hg := List.getElem?_eq_getElem hlt
    have hl : (k : Int) < (E.length : Int) := by omega
    obtain ⟨b, off, rfl, hbl, hat⟩ := HA1.out (by omega)
    have q0 := hat.get hg (j := 0) (u := .string E[k].path) rfl
    have e12 : edtK.n = 12 := rfl
    simp only [e12, Nat.add_zero] at q0
    have HPX : Hid (hh = (E[k].path == s)) := by
      have := HP.out
      rw [hg] at this
      exact this
    clear HP
    generalize E[k].path = p at *
    have hpp : (p.toList == s.toList) = hh := by
      rw [HPX.out, path_tl]
    clear hg hat HPX e12
    go_wp2_with fail
    go_quiet (fail)
    go_wp2_with fail
    go_ret2
    exact ⟨rfl, by have HB1 := HB1.out; (repeat (first | (with_reducible exact Below.refl _ _) | (with_reducible assumption) | (with_reducible refine Below.setCell ?_ ?_ _; rotate_left; focus (first | exact Nat.le_refl _ | (dsimp only; omega) | (simp; omega))) | (with_reducible refine Below.drew ?_) | (with_reducible refine below_drewN ?_ _) | (with_reducible refine Below.alloc ?_ ?_ _; rotate_left; focus (first | exact Nat.le_refl _ | omega | (simp; done) | (simp; omega))) | (with_reducible refine Below.trans ?_ (HB1.mono ?_); rotate_left; focus (first | exact Nat.le_refl _ | omega | (simp; done) | (simp; omega)))))⟩
  · have hg := List.getElem?_eq_none (Nat.le_of_not_lt hlt)
    have hl : ¬ (k : Int) < (E.length : Int) := by omega
    rw [hg] at HP
    have HF : Hid (hh = false) := HP.out
    clear hg HP
    obtain rfl : hh = false := HF.out
    clear HF
    go_wp2_with fail
    go_quiet (fail)
    go_wp2_with fail
    go_ret2
    exact ⟨rfl, by have HB1 := HB1.out; (repeat (first | (with_reducible exact Below.refl _ _) | (with_reducible assumption) | (with_reducible refine Below.setCell ?_ ?_ _; rotate_left; focus (first | exact Nat.le_refl _ | (dsimp only; omega) | (simp; omega))) | (with_reducible refine Below.drew ?_) | (with_reducible refine below_drewN ?_ _) | (with_reducible refine Below.alloc ?_ ?_ _; rotate_left; focus (first | exact Nat.le_refl _ | omega | (simp; done) | (simp; omega))) | (with_reducible refine Below.trans ?_ (HB1.mono ?_); rotate_left; focus (first | exact Nat.le_refl _ | omega | (simp; done) | (simp; omega)))))⟩
end Go.Proofs.YtocffknoeknabaaGreatDoor
