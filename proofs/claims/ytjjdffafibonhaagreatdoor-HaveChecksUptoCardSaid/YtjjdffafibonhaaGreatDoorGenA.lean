/-
  The base for seats without the journal (joined by a program of ours from our own texts).
-/
import Derived.Test.YtjjdffafibonhaaGreatDoorMem
import Derived.Lib.SliceRun
import Derived.Laws.BitsAllLaws
import Derived.Laws.CopyOwn
import Derived.Laws.MakeOwn
import Derived.Outline
namespace Go.Proofs.YtjjdffafibonhaaGreatDoor
section
open Go.RowKit

def u8v (c : UInt8) : Value := .int .u8 (c.toNat : Int)
def bv (l : List UInt8) : List Value := l.map u8v
theorem bv_one (l : List UInt8) : ∀ u ∈ bv l, u.oneCell' = true := fun u hu => by
  obtain ⟨c, _, rfl⟩ := List.mem_map.1 hu
  rfl
theorem bv_len (l : List UInt8) : (bv l).length = l.length := by simp [bv]
theorem bv_append (a b : List UInt8) : bv (a ++ b) = bv a ++ bv b := by simp [bv]
theorem bv_take (a : List UInt8) (n : Nat) : (bv a).take n = bv (a.take n) := by simp [bv]
theorem bv_drop (a : List UInt8) (n : Nat) : (bv a).drop n = bv (a.drop n) := by simp [bv]
theorem bv_get {l : List UInt8} {k : Nat} (h : k < l.length) : (bv l)[k]? = some (.int .u8 ((l[k]).toNat : Int)) := by simp [bv, h, u8v]

theorem Tryz.infoU8 : (Tryz.prog.info? 5).map (fun i => (i.zero, i.size, i.bytes)) = some (some (.int .u8 0), 1, 1) := by kernel_rfl
theorem Tryz.infoBytes : (Tryz.prog.info? 30).map (fun i => (i.zero, i.size, i.bytes)) = some (some (.slice none 0 0), 1, 24) := by kernel_rfl

/-- What a copy of a slice is. -/
def CloneP (e : TypeId) (o : Nat) (g : Gh) (w : World) (A : Option Addr) (n : Nat) (xs : List Value) (en : Ending) (w' : World) : Prop :=
  ∃ A' cap' g', en = .returned (.slice A' n cap') ∧ Below w.heap.size w w' ∧ (∀ b, b < w.heap.size → g'.F b = g.F b) ∧ (∀ b, b < w.heap.size → g'.O b = g.O b) ∧ App e 1 o g' w' A' n cap' xs ∧ (A' = none ↔ A = none) ∧ (∀ b off, A' = some ⟨b, off, none⟩ → w.heap.size ≤ b)

theorem clone_end {e : TypeId} {o : Nat} {g g' : Gh} {w w' : World} {A A' : Option Addr} {n cap' : Nat} {xs : List Value} {C : Obj} (hA : A ≠ none) (hx : Ext (· = o) g (w.alloc C) g' w') (ha : App e 1 o g' w' A' n cap' xs)
    (hl : Lies g (w.alloc C) (some ⟨w.heap.size, 0, none⟩) 0 0 g' w' A' cap') : CloneP e o g w A n xs (.returned (.slice A' n cap')) w' := by
  have hfar : ∀ b, b < w.heap.size → w'.heap[b]? = w.heap[b]? ∧ g'.F b = g.F b := fun b hb => by
    obtain ⟨h1, h2⟩ := hl.far b (by simp; omega) (fun h => absurd h (Nat.lt_irrefl _))
    exact ⟨h1.trans (Below.heap_alloc w C b hb), h2⟩
  have hs := hx.size
  refine ⟨A', cap', g', rfl, ⟨hx.os, hx.tape, hx.output, by simp at hs; omega, fun b hb => (hfar b hb).1⟩, fun b hb => (hfar b hb).2, fun b hb => hx.own b (by simp; omega), ha, ?_, fun b off hb => ?_⟩
  · refine ⟨fun h => ?_, fun h => absurd h hA⟩
    rcases hl.at_ with ⟨h1, _⟩ | ⟨b, h1, _⟩ <;> rw [h1] at h <;> cases h
  · rcases hl.at_ with ⟨h1, _⟩ | ⟨b', h1, h2, _⟩
    · rw [h1] at hb; injection hb with hb; injection hb with hb; omega
    · rw [h1] at hb; injection hb with hb; injection hb with hb; simp at h2; omega

theorem clone_nil {e : TypeId} {o : Nat} {g : Gh} {w : World} {n : Nat} {xs : List Value} (hn : n = 0) (hx : xs.length = n) : CloneP e o g w none n xs (.returned (.slice none 0 0)) w := by
  subst hn
  have : xs = [] := List.eq_nil_of_length_eq_zero hx
  subst this
  exact ⟨none, 0, g, rfl, Below.refl _ _, fun _ _ => rfl, fun _ _ => rfl, App.nil _ _ _ _ _, Iff.rfl, fun _ _ h => by cases h⟩

set_option maxRecDepth 100000 in
set_option maxHeartbeats 400000 in
theorem cloneB_any (o : Nat) (g : Gh) (A : Option Addr) (n c : Nat) (xs : List Value) (w : World) (hr : Rd 1 g w A n xs) (hz : A = none → n = 0) (h1 : ∀ u ∈ xs, u.oneCell' = true) (hb : n ≤ 140737488355328) :
    Calls Tryz.prog 95 #[.slice A n c] w (CloneP 5 o g w A n xs) := by
  obtain ⟨i0, hi, hz0, hz1, hz2⟩ := info_parts Tryz.infoU8
  cases A with
  | none =>
    have hn := hz rfl
    have hxl : xs.length = n := by simpa using hr.len
    subst hn
    clear hz hr h1 hb
    have he := Lib.run_eql_slice_nil (P := Tryz.prog) w 30 5 none 0 c 0 0 Tryz.underlying30
    go_enter Tryz.func95, Tryz.ntmps95
    go_wp2_with fail
    go_ret
    exact clone_nil rfl hxl
  | some a =>
    have hn0 : Ext (fun _ => True) g w g (w.alloc (.cells #[] 5)) := (Ext.refl _ _ _).alloc _
    have hr1 := hr.ext hn0
    have hs := hr1.src (P := Tryz.prog) Tryz.underlying30 c h1 (fun h => by cases h)
    have he := Lib.run_eql_slice_nil (P := Tryz.prog) w 30 5 (some a) n c 0 0 Tryz.underlying30
    have ha : App 5 1 o g (w.alloc (.cells #[] 5)) (some ⟨w.heap.size, 0, none⟩) 0 0 [] := ⟨Rd.nil _ _ _ _, Nat.le_refl _, Nat.zero_le _, (fun h => by cases h), fun h => absurd h (Nat.lt_irrefl _)⟩
    have HS := Lib.hid hs
    have HA := Lib.hid ha
    clear hs ha hr1 hn0 hr hz h1
    go_enter Tryz.func95, Tryz.ntmps95
    go_wp2_with (at_builtin; refine wpList_append_app rfl _ _ _ _ rfl 5 i0 (.int .u8 0) 1 1 Tryz.underlying30 hi hz0 hz1 hz2 rfl (by decide) rfl HA.out rfl HS.out (by unfold maxLen; omega) (by omega) ?_; intro A' cap' w' g' hx ha hl)
    go_wp2_with fail
    go_ret
    exact clone_end (by simp) hx (by simpa using ha) hl

/-- The address of a part of a slice: at the end of the capacity it stays the old one. -/
def cutA (sz : Nat) (A : Option Addr) (m l : Nat) : Option Addr := if m = l then A else A.map (·.add (l * sz))
theorem cutA_none (sz m l : Nat) : cutA sz none m l = none := by unfold cutA; split <;> rfl
theorem cutA_zero (sz : Nat) (A : Option Addr) (m : Nat) : cutA sz A m 0 = A := by
  unfold cutA
  split
  · rfl
  · cases A with
    | none => rfl
    | some a => simp [Addr.add]
theorem cutA_isNone {sz : Nat} {A : Option Addr} {m l : Nat} (h : cutA sz A m l = none) : A = none := by
  unfold cutA at h
  split at h
  · exact h
  · simpa using h
theorem Rd.cut {sz : Nat} {g : Gh} {w : World} {A : Option Addr} {n : Nat} {xs : List Value} (h : Rd sz g w A n xs) {l k m : Nat} (h1 : l + k ≤ n) (h2 : l + k ≤ m) : Rd sz g w (cutA sz A m l) k ((xs.drop (l * sz)).take (k * sz)) := by
  have hl : ((xs.drop (l * sz)).take (k * sz)).length = k * sz := by
    have h3 : (l + k) * sz ≤ n * sz := Nat.mul_le_mul_right _ h1
    rw [Nat.add_mul] at h3
    rw [List.length_take, List.length_drop, h.len]
    omega
  refine ⟨hl, fun hk => ?_⟩
  obtain ⟨b, off, rfl, hF, hb, hc⟩ := h.at_ (by omega)
  have h3 : (l + k) * sz ≤ n * sz := Nat.mul_le_mul_right _ h1
  rw [Nat.add_mul] at h3
  refine ⟨b, off + l * sz, ?_, by omega, hb, fun j u hu => ?_⟩
  · unfold cutA
    rw [if_neg (by omega)]
    simp only [Option.map_some]
    rw [add_lit]
  · have hj : j < k * sz := by rw [← hl]; exact (List.getElem?_eq_some_iff.1 hu).1
    rw [List.getElem?_take, if_pos hj, List.getElem?_drop] at hu
    rw [Nat.add_assoc]
    exact hc _ u hu
theorem Rd.drop {g : Gh} {w : World} {A : Option Addr} {n : Nat} {xs : List Value} (h : Rd 1 g w A n xs) {l m : Nat} (h1 : l ≤ n) (h2 : n ≤ m) : Rd 1 g w (cutA 1 A m l) (n - l) (xs.drop l) := by
  have := h.cut (l := l) (k := n - l) (m := m) (by omega) (by omega)
  rw [Nat.mul_one, Nat.mul_one, List.take_of_length_le (by rw [List.length_drop, h.len]; omega)] at this
  exact this
theorem run_bound {P : Program} {l y : Nat} (h : l ≤ y) (code : BoundsCode) (w : World) : (Instr.sliceBound (.int .i64 (l : Int)) y code).run P w = .ok l w := by
  rw [run_sliceBound (P := P) w .i64 l y code (by omega) (by omega)]
  simp
section
variable {P : Program} {t e : TypeId} {i : TypeInfo} (ht : P.underlying t = some (.slice e)) (hi : P.info? e = some i)
include ht hi
theorem run_cut_l (A : Option Addr) (n c l : Nat) (h : l ≤ n) (w : World) : (Instr.slice t (.slice A n c) (some (.int .i64 (l : Int))) none none).run P w = .ok (.slice (cutA i.size A c l) (n - l) (c - l)) w := by
  simp [Instr.slice, Instr.sliceBounds, run_underlying ht, sizeOf, typeInfo, hi, run_bound h, cutA]
theorem run_cut_h (A : Option Addr) (n c k : Nat) (h : k ≤ c) (w : World) : (Instr.slice t (.slice A n c) none (some (.int .i64 (k : Int))) none).run P w = .ok (.slice A k c) w := by
  simp [Instr.slice, Instr.sliceBounds, run_underlying ht, sizeOf, typeInfo, hi, run_bound h, Addr.add]
theorem run_cut_lhm (A : Option Addr) (n c l k m : Nat) (h : l ≤ k) (h2 : k ≤ m) (h3 : m ≤ c) (w : World) : (Instr.slice t (.slice A n c) (some (.int .i64 (l : Int))) (some (.int .i64 (k : Int))) (some (.int .i64 (m : Int)))).run P w = .ok (.slice (cutA i.size A m l) (k - l) (m - l)) w := by
  simp [Instr.slice, Instr.sliceBounds, run_underlying ht, sizeOf, typeInfo, hi, run_bound h, run_bound h2, run_bound h3, cutA]
theorem run_cut_hm (A : Option Addr) (n c k m : Nat) (h2 : k ≤ m) (h3 : m ≤ c) (w : World) : (Instr.slice t (.slice A n c) none (some (.int .i64 (k : Int))) (some (.int .i64 (m : Int)))).run P w = .ok (.slice A k m) w := by
  simp [Instr.slice, Instr.sliceBounds, run_underlying ht, sizeOf, typeInfo, hi, run_bound h2, run_bound h3, Addr.add]
end
end

section
open Go.RowKit

theorem wrap_u64 (n : Int) : 0 ≤ IntKind.u64.wrap n ∧ IntKind.u64.wrap n < 18446744073709551616 := by
  rw [IntKind.wrap_u64]; omega

set_option maxRecDepth 100000 in
set_option maxHeartbeats 400000 in
theorem fadd_ex (a b : Int) : ∃ c : Int, (0 ≤ c ∧ c < 18446744073709551616) ∧ ∀ w, Calls Tryz.prog 129 #[.int .u64 a, .int .u64 b] w fun e w' => e = .returned (.int .u64 c) ∧ w = w' := by
  by_cases h : 2305843009213693951 ≤ IntKind.u64.wrap (a + b)
  · refine ⟨IntKind.u64.wrap (IntKind.u64.wrap (a + b) - 2305843009213693951), wrap_u64 _, fun w => ?_⟩
    go_enter Tryz.func129, Tryz.ntmps129
    go_wp2_with fail
    go_ret
    exact ⟨rfl, rfl⟩
  · refine ⟨IntKind.u64.wrap (a + b), wrap_u64 _, fun w => ?_⟩
    go_enter Tryz.func129, Tryz.ntmps129
    go_wp2_with fail
    go_ret
    exact ⟨rfl, rfl⟩
noncomputable def addF (a b : Int) : Int := Classical.choose (fadd_ex a b)
theorem addF_bd (a b : Int) : 0 ≤ addF a b ∧ addF a b < 18446744073709551616 := (Classical.choose_spec (fadd_ex a b)).1
theorem fadd_any (a b : Int) (w : World) : Calls Tryz.prog 129 #[.int .u64 a, .int .u64 b] w fun e w' => e = .returned (.int .u64 (addF a b)) ∧ w = w' := (Classical.choose_spec (fadd_ex a b)).2 w

set_option maxRecDepth 100000 in
set_option maxHeartbeats 800000 in
theorem mul64_ex (a b : Int) : ∃ c d : Int, ∀ w, Calls Tryz.prog 119 #[.int .u64 a, .int .u64 b] w fun e w' => e = .returned (.tuple #[.int .u64 c, .int .u64 d]) ∧ w = w' := by
  apply Exists.intro
  apply Exists.intro
  intro w
  go_enter Tryz.func119, Tryz.ntmps119
  go_wp2_with fail
  go_ret2
  exact ⟨rfl, rfl⟩

set_option maxRecDepth 100000 in
set_option maxHeartbeats 400000 in
theorem mul_ex (a b : Int) : ∃ c : Int, ∀ w, Calls Tryz.prog 130 #[.int .u64 a, .int .u64 b] w fun e w' => e = .returned (.int .u64 c) ∧ w = w' := by
  obtain ⟨c, d, h⟩ := mul64_ex a b
  have H := Lib.hid h
  clear h
  apply Exists.intro
  intro w
  go_enter Tryz.func130, Tryz.ntmps130
  go_wp2_with fail
  refine (H.out _).mono ?_
  rintro e w' ⟨rfl, rfl⟩
  go_wp2_with fail
  refine (fadd_any _ _ _).mono ?_
  rintro e w' ⟨rfl, rfl⟩
  go_wp2_with fail
  go_ret
  exact ⟨rfl, rfl⟩
noncomputable def mulF (a b : Int) : Int := Classical.choose (mul_ex a b)
theorem mul_any (a b : Int) (w : World) : Calls Tryz.prog 130 #[.int .u64 a, .int .u64 b] w fun e w' => e = .returned (.int .u64 (mulF a b)) ∧ w = w' := Classical.choose_spec (mul_ex a b) w

noncomputable def sumStep (s : Int) (c : UInt8) : Int := addF (mulF s 747382712868975713) ((c.toNat : Int) + 1)
noncomputable def sumF (l : List UInt8) : Int := l.foldl sumStep 0
theorem sumF_snoc (l : List UInt8) (k : Nat) (h : k < l.length) : sumF (l.take (k + 1)) = sumStep (sumF (l.take k)) l[k] := by
  rw [List.take_succ_eq_append_getElem h, sumF, List.foldl_append]
  rfl
theorem sumF_bd (l : List UInt8) : 0 ≤ sumF l ∧ sumF l < 18446744073709551616 := by
  rcases List.eq_nil_or_concat l with rfl | ⟨r, c, rfl⟩
  · exact ⟨Int.le_refl _, by decide⟩
  · simp only [sumF, List.concat_eq_append, List.foldl_append, List.foldl_cons, List.foldl_nil]
    exact addF_bd _ _

set_option maxRecDepth 100000 in
set_option maxHeartbeats 800000 in
theorem sum_any (g : Gh) (A : Option Addr) (c : Nat) (l : List UInt8) (w : World) (hr : Rd 1 g w A l.length (bv l)) (hb : l.length ≤ 140737488355328) :
    Calls Tryz.prog 99 #[.slice A l.length c] w fun e w' => e = .returned (.int .u64 (sumF l)) ∧ w = w' := by
  have HR := Lib.hid hr
  clear hr
  go_enter Tryz.func99, Tryz.ntmps99
  go_wp2_with fail
  go_loop [3, 8] (fun s i => ∃ k : Nat, k ≤ l.length ∧ i = .int .i64 k ∧ s = .int .u64 (sumF (l.take k))) (fun _ i => l.length - (intOf i).toNat)
  case atStart => exact ⟨0, Nat.zero_le _, rfl, rfl⟩
  case round =>
    obtain ⟨k, hk, rfl, rfl⟩ := hrel
    by_cases hlt : k < l.length
    · obtain ⟨b, off, rfl, _, _, hc⟩ := HR.out.at_ (by omega)
      have hcell := hc k _ (bv_get hlt)
      have hs : Hid (sumF (l.take (k + 1)) = addF (mulF (sumF (l.take k)) 747382712868975713) (((l[k]).toNat : Int) + 1)) := sumF_snoc l k hlt
      have hcb : (l[k]).toNat < 256 := (l[k]).toNat_lt
      clear hc
      generalize sumF (l.take k) = s at *
      generalize (l[k]).toNat = cc at *
      go_wp2_with fail
      refine (mul_any _ _ _).mono ?_
      rintro e w' ⟨rfl, rfl⟩
      go_wp2_with fail
      refine (fadd_any _ _ _).mono ?_
      rintro e w' ⟨rfl, rfl⟩
      go_wp2_with fail
      go_round
      case rel => exact ⟨k + 1, by omega, by go_num, by rw [hs.out]⟩
      case measure => simp [intOf]; omega
    · have hkl : k = l.length := by omega
      subst hkl
      clear HR
      have ht : l.take l.length = l := List.take_length
      generalize hT : l.take l.length = t at *
      subst ht
      go_wp2_with fail
      go_ret
      exact ⟨rfl, rfl⟩
end

section
section
open Go.RowKit

def encU (v : Nat) : List UInt8 := if _h : v < 128 then [UInt8.ofNat v] else UInt8.ofNat (v % 128 + 128) :: encU (v / 128)
termination_by v
decreasing_by omega

/-- The number, how many bytes it takes, the error: 0, 11 too short, 12 badly formed. -/
def decU (i a : Nat) : List UInt8 → Nat × Nat × Nat
  | [] => (0, 0, 11)
  | c :: r => if i = 9 ∧ c.toNat ≠ 1 then (0, 0, 12) else if 128 ≤ c.toNat then decU (i + 1) (a + c.toNat % 128 * 128 ^ i) r else if c.toNat = 0 ∧ 0 < i then (0, 0, 12) else (a + c.toNat % 128 * 128 ^ i, i + 1, 0)

theorem pow_le9 {k : Nat} (h : k ≤ 9) : (128 : Nat) ^ k ≤ 9223372036854775808 := by
  have : (128 : Nat) ^ k ≤ 128 ^ 9 := Nat.pow_le_pow_right (by omega) h
  simpa using this
theorem pow_le8 {k : Nat} (h : k ≤ 8) : (128 : Nat) ^ k ≤ 72057594037927936 := by
  have : (128 : Nat) ^ k ≤ 128 ^ 8 := Nat.pow_le_pow_right (by omega) h
  simpa using this
theorem part_lt {cc k : Nat} (hc : cc < 256) (hk : k ≤ 8 ∨ (k = 9 ∧ cc = 1)) : cc % 128 * 128 ^ k ≤ 9223372036854775808 := by
  rcases hk with hk | ⟨rfl, rfl⟩
  · have h1 := pow_le8 hk
    have h2 : cc % 128 ≤ 127 := by omega
    exact Nat.le_trans (Nat.mul_le_mul h2 h1) (by omega)
  · simp
theorem pow_128 (k : Nat) : (128 : Nat) ^ k = 2 ^ (7 * k) := by rw [Nat.pow_mul]
theorem acc_step (a cc k : Nat) (ha : a < 128 ^ k) (hc : cc < 256) (hk : k ≤ 8 ∨ (k = 9 ∧ cc = 1)) :
    bits BinOp.or IntKind.u64 (a : Int) (IntKind.u64.wrap (IntKind.u64.wrap (bits BinOp.and IntKind.u8 (cc : Int) 127) * 2 ^ (7 * k))) = ((a + cc % 128 * 128 ^ k : Nat) : Int) := by
  have h9 : k ≤ 9 := by omega
  have hp := pow_le9 h9
  have hq := part_lt hc hk
  have e1 : bits BinOp.and IntKind.u8 (cc : Int) 127 = ((cc % 128 : Nat) : Int) := by
    have := u8_and_nat cc 127 hc (by omega)
    rw [show ((127 : Nat) : Int) = 127 from rfl] at this
    rw [this, show (127 : Nat) = 2 ^ 7 - 1 from rfl, Nat.and_two_pow_sub_one_eq_mod]
  have e2 : IntKind.u64.wrap ((cc % 128 : Nat) : Int) = ((cc % 128 : Nat) : Int) := by rw [IntKind.wrap_u64]; omega
  have e3 : (((cc % 128 : Nat) : Int) * 2 ^ (7 * k)) = ((cc % 128 * 128 ^ k : Nat) : Int) := by rw [pow_128]; push_cast; rfl
  have e4 : IntKind.u64.wrap ((cc % 128 * 128 ^ k : Nat) : Int) = ((cc % 128 * 128 ^ k : Nat) : Int) := by
    generalize cc % 128 * 128 ^ k = q at hq
    rw [IntKind.wrap_u64]; omega
  rw [e1, e2, e3, e4, u64_or_nat a _ (by omega) (by omega)]
  congr 1
  rw [pow_128] at ha ⊢
  rw [Nat.mul_comm, Nat.or_comm, ← Nat.two_pow_add_eq_or_of_lt ha, Nat.add_comm]

theorem toNat_ofNat {n : Nat} (h : n < 256) : (UInt8.ofNat n).toNat = n := by simp [Nat.mod_eq_of_lt h]
theorem encU_small {v : Nat} (h : v < 128) : encU v = [UInt8.ofNat v] := by rw [encU, dif_pos h]
theorem encU_big {v : Nat} (h : ¬ v < 128) : encU v = UInt8.ofNat (v % 128 + 128) :: encU (v / 128) := by rw [encU, dif_neg h]

theorem dec_enc (v : Nat) : ∀ (i a : Nat) (r : List UInt8), i ≤ 9 → v * 128 ^ i < 18446744073709551616 → (0 < i → 0 < v) → decU i a (encU v ++ r) = (a + v * 128 ^ i, i + (encU v).length, 0) := by
  induction v using Nat.strongRecOn with
  | _ v ih =>
    intro i a r hi hv h0
    have h9 : i = 9 → v < 2 := fun e => by subst e; simp at hv; omega
    by_cases h : v < 128
    · rw [encU_small h]
      have ht : (UInt8.ofNat v).toNat = v := toNat_ofNat (by omega)
      simp only [List.cons_append, List.nil_append, decU, ht, List.length_cons, List.length_nil]
      rw [if_neg (by omega), if_neg (by omega), if_neg (by omega), Nat.mod_eq_of_lt h]
    · rw [encU_big h]
      have ht : (UInt8.ofNat (v % 128 + 128)).toNat = v % 128 + 128 := toNat_ofNat (by omega)
      have hi8 : i ≠ 9 := fun e => by have := h9 e; omega
      simp only [List.cons_append, decU, ht, List.length_cons]
      rw [if_neg (by omega), if_pos (by omega)]
      have hd := Nat.div_add_mod v 128
      have hm : v / 128 * 128 ^ (i + 1) + v % 128 * 128 ^ i = v * 128 ^ i := by
        rw [Nat.pow_succ, ← Nat.mul_assoc, Nat.mul_right_comm, ← Nat.add_mul]
        congr 1
        omega
      rw [ih (v / 128) (by omega) (i + 1) _ r (by omega) (by omega) (by omega)]
      have hmm : (v % 128 + 128) % 128 = v % 128 := by omega
      rw [hmm]
      have e1 : a + v % 128 * 128 ^ i + v / 128 * 128 ^ (i + 1) = a + v * 128 ^ i := by omega
      rw [e1]
      congr 2
      omega
theorem dec_short (v : Nat) : ∀ (i a : Nat) (p : List UInt8), i ≤ 9 → v * 128 ^ i < 18446744073709551616 → p <+: encU v → p ≠ encU v → decU i a p = (0, 0, 11) := by
  induction v using Nat.strongRecOn with
  | _ v ih =>
    intro i a p hi hv hp hne
    have h9 : i = 9 → v < 2 := fun e => by subst e; simp at hv; omega
    cases p with
    | nil => rfl
    | cons c p =>
      by_cases h : v < 128
      · rw [encU_small h] at hp hne
        obtain ⟨t, ht⟩ := hp
        simp at ht
        obtain ⟨rfl, rfl, _⟩ := ht
        exact absurd rfl hne
      · rw [encU_big h] at hp hne
        rw [List.cons_prefix_cons] at hp
        obtain ⟨rfl, hp⟩ := hp
        have ht : (UInt8.ofNat (v % 128 + 128)).toNat = v % 128 + 128 := toNat_ofNat (by omega)
        have hi8 : i ≠ 9 := fun e => by have := h9 e; omega
        have hd := Nat.div_add_mod v 128
        have hm : v / 128 * 128 ^ (i + 1) + v % 128 * 128 ^ i = v * 128 ^ i := by
          rw [Nat.pow_succ, ← Nat.mul_assoc, Nat.mul_right_comm, ← Nat.add_mul]
          congr 1
          omega
        simp only [decU, ht]
        rw [if_neg (by omega), if_pos (by omega)]
        exact ih (v / 128) (by omega) (i + 1) _ p (by omega) (by omega) hp (fun e => hne (by rw [e]))
theorem encU_pos (v : Nat) : 0 < (encU v).length := by
  by_cases h : v < 128
  · rw [encU_small h]; simp
  · rw [encU_big h]; simp
theorem encU_len (v : Nat) : ∀ k, v < 128 ^ k → 0 < k → (encU v).length ≤ k := by
  induction v using Nat.strongRecOn with
  | _ v ih =>
    intro k hk h0
    by_cases h : v < 128
    · rw [encU_small h]; simp; omega
    · rw [encU_big h]
      obtain ⟨j, rfl⟩ : ∃ j, k = j + 1 := ⟨k - 1, by omega⟩
      rw [Nat.pow_succ] at hk
      have hj : 0 < j := by
        rcases Nat.eq_zero_or_pos j with rfl | hj
        · simp at hk; omega
        · exact hj
      have := ih (v / 128) (by omega) j (Nat.div_lt_of_lt_mul (by rw [Nat.mul_comm]; exact hk)) hj
      simp; omega
end

section
open Go.RowKit

def UintP (l : List UInt8) (at_ : Nat) (w : World) (e : Ending) (w' : World) : Prop :=
  e = .returned (.tuple #[.int .u64 ((decU 0 0 (l.drop at_)).1 : Nat), .int .i64 (if (decU 0 0 (l.drop at_)).2.2 = 0 then ((at_ + (decU 0 0 (l.drop at_)).2.1 : Nat) : Int) else 0), .int .i64 ((decU 0 0 (l.drop at_)).2.2 : Nat)]) ∧ w = w'
theorem uintP_of {l : List UInt8} {at_ : Nat} {w : World} {v n e : Nat} (h : decU 0 0 (l.drop at_) = (v, n, e)) {q : Int} (hq : q = if e = 0 then ((at_ + n : Nat) : Int) else 0) : UintP l at_ w (.returned (.tuple #[.int .u64 (v : Nat), .int .i64 q, .int .i64 (e : Nat)])) w := by
  unfold UintP
  rw [h, hq]
  exact ⟨rfl, rfl⟩
theorem dec_step {rs : List UInt8} {k a : Nat} (hk : k < rs.length) : decU k a (rs.drop k) = if k = 9 ∧ (rs[k]).toNat ≠ 1 then (0, 0, 12) else if 128 ≤ (rs[k]).toNat then decU (k + 1) (a + (rs[k]).toNat % 128 * 128 ^ k) (rs.drop (k + 1)) else if (rs[k]).toNat = 0 ∧ 0 < k then (0, 0, 12) else (a + (rs[k]).toNat % 128 * 128 ^ k, k + 1, 0) := by
  rw [List.drop_eq_getElem_cons hk, decU]
theorem acc_lt {a cc k : Nat} (ha : a < 128 ^ k) (_hc : cc < 256) : a + cc % 128 * 128 ^ k < 128 ^ (k + 1) := by
  have h2 : cc % 128 ≤ 127 := by omega
  have := Nat.mul_le_mul_right (128 ^ k) h2
  rw [Nat.pow_succ]
  omega

set_option maxRecDepth 100000 in
set_option maxHeartbeats 1600000 in
theorem uint_any (g : Gh) (A : Option Addr) (c : Nat) (l : List UInt8) (at_ : Nat) (w : World) (hr : Rd 1 g w A l.length (bv l)) (hb : l.length ≤ 140737488355328) (ha : at_ ≤ l.length) (hc : l.length ≤ c) :
    Calls Tryz.prog 98 #[.slice A l.length c, .int .i64 at_] w (UintP l at_ w) := by
  obtain ⟨i0, hi, hz0, hz1, hz2⟩ := info_parts Tryz.infoU8
  have hcut := run_cut_l (P := Tryz.prog) Tryz.underlying30 hi A l.length c at_ ha
  rw [hz1] at hcut
  have hd := hr.drop (l := at_) ha hc
  rw [bv_drop] at hd
  have HR := Lib.hid hd
  have HU := Lib.hid (fun v n e => @uintP_of l at_ w v n e)
  clear hr hd hi hz0 hz1 hz2
  have ha0 : decide ((at_ : Int) < 0) = false := by simp
  obtain ⟨A', hA'⟩ : ∃ A', cutA 1 A c at_ = A' := ⟨_, rfl⟩
  rw [hA'] at hcut HR
  obtain ⟨rs, hrs⟩ : ∃ rs, l.drop at_ = rs := ⟨_, rfl⟩
  obtain ⟨n, hn⟩ : ∃ n, l.length - at_ = n := ⟨_, rfl⟩
  rw [hrs, hn] at HR
  rw [hrs] at HU
  rw [hn] at hcut
  have hnl : rs.length = n := by rw [← hrs, List.length_drop, hn]
  have hn2 : at_ + n ≤ 140737488355328 := by omega
  have HN := Lib.hid hnl
  clear hA' hrs hn hnl
  go_enter Tryz.func98, Tryz.ntmps98
  go_wp2_with fail
  go_loop [4, 21] (fun v i => ∃ (k : Nat) (a : Nat), k ≤ n ∧ k ≤ 9 ∧ i = .int .i64 k ∧ v = .int .u64 a ∧ a < 128 ^ k ∧ Hid (decU 0 0 rs = decU k a (rs.drop k))) (fun _ i => n - (intOf i).toNat)
  case atStart => exact ⟨0, 0, Nat.zero_le _, by omega, rfl, rfl, by omega, rfl⟩
  case round =>
    obtain ⟨k, a, hk, hk9, rfl, rfl, ha128, HD⟩ := hrel
    by_cases hlt : k < n
    · obtain ⟨b, off, rfl, _, _, hc⟩ := HR.out.at_ (by omega)
      have hlt2 : k < rs.length := by rw [HN.out]; exact hlt
      have hcell := hc k _ (bv_get hlt2)
      have HS := Lib.hid ((HD.out).trans (dec_step (a := a) hlt2))
      clear hc HD
      have hcb : (rs[k]).toNat < 256 := (rs[k]).toNat_lt
      generalize (rs[k]).toNat = cc at *
      by_cases h9 : k = 9
      · subst h9
        by_cases h1 : cc = 1
        · subst h1
          have HA : Hid (bits BinOp.or IntKind.u64 (a : Int) (IntKind.u64.wrap (IntKind.u64.wrap (bits BinOp.and IntKind.u8 (1 : Int) 127) * 9223372036854775808)) = ((a + 1 % 128 * 128 ^ 9 : Nat) : Int)) := acc_step a 1 9 ha128 hcb (.inr ⟨rfl, rfl⟩)
          have HQ : Hid (decU 0 0 rs = (a + 1 % 128 * 128 ^ 9, 10, 0)) := by
            show _ = _
            rw [HS.out, if_neg (by omega), if_neg (by omega), if_neg (by omega)]
          go_wp2_with fail
          go_ret3
          rw [HA.out]
          exact HU.out _ _ _ HQ.out (by go_num)
        · have h1b : ((cc : Int) != 1) = true := by rw [bne_iff_ne]; omega
          have HQ : Hid (decU 0 0 rs = (0, 0, 12)) := by
            show _ = _
            rw [HS.out, if_pos ⟨rfl, h1⟩]
          go_wp2_with fail
          go_ret3
          exact HU.out _ _ _ HQ.out rfl
      · have h9b : ((k : Int) == 9) = false := by rw [beq_eq_false_iff_ne]; omega
        have hk8 : k ≤ 8 := by omega
        have HA := Lib.hid (acc_step a cc k ha128 hcb (.inl hk8))
        by_cases hc8 : 128 ≤ cc
        · have HQ : Hid (decU 0 0 rs = decU (k + 1) (a + cc % 128 * 128 ^ k) (rs.drop (k + 1))) := by
            show _ = _
            rw [HS.out, if_neg (by omega), if_pos hc8]
          have hal := acc_lt ha128 hcb
          go_wp2_with fail
          refine ⟨⟨k + 1, a + cc % 128 * 128 ^ k, by omega, by omega, by go_num, by rw [HA.out], hal, HQ⟩, by simp [intOf]; omega⟩
        · by_cases h0 : cc = 0 ∧ 0 < k
          · obtain ⟨h0a, h0b⟩ := h0
            have HQ : Hid (decU 0 0 rs = (0, 0, 12)) := by
              show _ = _
              rw [HS.out, if_neg (by omega), if_neg hc8, if_pos ⟨h0a, h0b⟩]
            have h0c : ((cc : Int) == 0) = true := by rw [beq_iff_eq]; omega
            go_wp2_with fail
            go_ret3
            exact HU.out _ _ _ HQ.out rfl
          · have HQ : Hid (decU 0 0 rs = (a + cc % 128 * 128 ^ k, k + 1, 0)) := by
              show _ = _
              rw [HS.out, if_neg (by omega), if_neg hc8, if_neg h0]
            by_cases h0d : cc = 0
            · subst h0d
              have HA : Hid (bits BinOp.or IntKind.u64 (a : Int) (IntKind.u64.wrap (IntKind.u64.wrap (bits BinOp.and IntKind.u8 (0 : Int) 127) * 2 ^ (7 * k))) = ((a + 0 % 128 * 128 ^ k : Nat) : Int)) := acc_step a 0 k ha128 (by omega) (.inl hk8)
              have hk0 : decide ((0 : Int) < (k : Int)) = false := by simp; omega
              go_wp2_with fail
              go_ret3
              rw [HA.out]
              exact HU.out _ _ _ HQ.out (by go_num)
            · have h0c : ((cc : Int) == 0) = false := by rw [beq_eq_false_iff_ne]; omega
              go_wp2_with fail
              go_ret3
              rw [HA.out]
              exact HU.out _ _ _ HQ.out (by go_num)
    · have HQ : Hid (decU 0 0 rs = (0, 0, 11)) := by
        show _ = _
        rw [HD.out, List.drop_of_length_le (by rw [HN.out]; omega)]
        rfl
      go_wp2_with fail
      go_ret3
      exact HU.out _ _ _ HQ.out rfl
end
end

section
open Go.RowKit

theorem put_byte (r : Nat) (h : r < 18446744073709551616) : Value.int IntKind.u8 (bits BinOp.or IntKind.u64 (bits BinOp.and IntKind.u64 (r : Int) 127) 128 % 256) = u8v (UInt8.ofNat (r % 128 + 128)) := by
  have e1 : bits BinOp.and IntKind.u64 (r : Int) 127 = ((r % 128 : Nat) : Int) := by
    have := u64_and_nat r 127 h (by omega)
    rw [show ((127 : Nat) : Int) = 127 from rfl] at this
    rw [this, show (127 : Nat) = 2 ^ 7 - 1 from rfl, Nat.and_two_pow_sub_one_eq_mod]
  have hlt : r % 128 < 2 ^ 7 := by omega
  have e2 : bits BinOp.or IntKind.u64 ((r % 128 : Nat) : Int) 128 = ((r % 128 + 128 : Nat) : Int) := by
    have := u64_or_nat (r % 128) 128 (by omega) (by omega)
    rw [show ((128 : Nat) : Int) = 128 from rfl] at this
    rw [this, Nat.or_comm]
    have h2 := Nat.two_pow_add_eq_or_of_lt hlt 1
    rw [show (2 ^ 7 * 1 : Nat) = 128 from rfl] at h2
    rw [← h2, Nat.add_comm]
  rw [e1, e2, u8v, toNat_ofNat (by omega)]
  congr 1
  omega
theorem put_last (r : Nat) (h : r < 128) : Value.int IntKind.u8 (r : Int) = u8v (UInt8.ofNat r) := by
  rw [u8v, toNat_ofNat (by omega)]
theorem enc_split {val r : Nat} {dn : List UInt8} (h : encU val = dn ++ encU r) (hv : val < 18446744073709551616) : dn.length + (encU r).length ≤ 10 := by
  have h1 := encU_len val 10 (by have : (128 : Nat) ^ 10 = 1180591620717411303424 := by decide
                                 omega) (by omega)
  rw [h, List.length_append] at h1
  exact h1
theorem grown_below {B : Nat} {w x y : World} {row : Option Nat} {v : Value} {n : Nat} {xs : List Value} {e : TypeId} {o : Obj} (hb : Below B w x) (hB : B ≤ w.heap.size) (hown : x.ownsRow B e 1 v n xs) (hg : (x.alloc o).grownBy y row) (hr : row = v.ownBlock) : Below B w y := by
  subst hr
  have hs := hb.size
  refine (hb.alloc (by omega) o).grown hg (by simp; omega) (fun k hk => (hown.lt k hk).1)

set_option maxRecDepth 100000 in
set_option maxHeartbeats 800000 in
theorem appendUint_any (B : Nat) (v : Value) (n : Nat) (xs : List Value) (val : Nat) (w : World) (hown : w.ownsRow B 5 1 v n xs) (hB : B ≤ w.heap.size) (hn : n ≤ 140737488000000) (hv : val < 18446744073709551616) :
    Calls Tryz.prog 147 #[v, .int .u64 val] w fun e w' => ∃ v', e = .returned v' ∧ w'.ownsRow B 5 1 v' (n + (encU val).length) (xs ++ bv (encU val)) ∧ Below B w w' := by
  obtain ⟨i0, hi, hz0, hz1, hz2⟩ := info_parts Tryz.infoU8
  go_enter Tryz.func147, Tryz.ntmps147
  go_wp2_with fail
  go_loopw [0, 1] (fun o x wr => ∃ (r : Nat) (dn : List UInt8), x = .int .u64 r ∧ r < 18446744073709551616 ∧ encU val = dn ++ encU r ∧ wr.ownsRow B 5 1 o (n + dn.length) (xs ++ bv dn) ∧ Below B w wr) (fun _ x _ => (intOf x).toNat)
  case atStart => exact ⟨val, [], rfl, hv, rfl, by simpa [bv] using hown, Below.refl _ _⟩
  case round =>
    obtain ⟨r, dn, rfl, hr, he, ho, hb⟩ := hrel
    have hdn := enc_split he hv
    have HE := Lib.hid he
    have HO := Lib.hid ho
    clear he ho hown
    by_cases h : 128 ≤ r
    · have HP := Lib.hid (put_byte r hr)
      go_wp2_with (at_builtin; refine wpList_append_own _ rfl _ _ 30 rfl B 5 i0 (.int .u8 0) 1 1 Tryz.underlying30 hi hz0 hz1 hz2 rfl (by decide) _ _ _ rfl (HO.out.alloc _) ⟨wr.heap.size, 0, none⟩ 1 1 [_] rfl rfl (cell_one_new _ _ _) (by simp [Value.oneCell']) (by unfold maxLen; omega) (by omega) (by simp; have := hb.size; omega) ?_; intro v' w1 ho1 hg1 _)
      refine ⟨⟨r / 128, dn ++ [UInt8.ofNat (r % 128 + 128)], by go_num, by omega, ?_, ?_, grown_below hb hB HO.out hg1 rfl⟩, by simp [intOf]; omega⟩
      · rw [HE.out, encU_big (by omega)]; simp
      · rw [HP.out] at ho1
        simpa [bv, Nat.add_assoc] using ho1
    · have HP := Lib.hid (put_last r (by omega))
      go_wp2_with (at_builtin; refine wpList_append_own _ rfl _ _ 30 rfl B 5 i0 (.int .u8 0) 1 1 Tryz.underlying30 hi hz0 hz1 hz2 rfl (by decide) _ _ _ rfl (HO.out.alloc _) ⟨wr.heap.size, 0, none⟩ 1 1 [_] rfl rfl (cell_one_new _ _ _) (by simp [Value.oneCell']) (by unfold maxLen; omega) (by omega) (by simp; have := hb.size; omega) ?_; intro v' w1 ho1 hg1 _)
      go_ret
      refine ⟨_, rfl, ?_, grown_below hb hB HO.out hg1 rfl⟩
      rw [HP.out] at ho1
      rw [HE.out, encU_small (by omega)]
      simpa [bv, Nat.add_assoc] using ho1

set_option maxRecDepth 100000 in
set_option maxHeartbeats 800000 in
theorem uintSize_any (val : Nat) (w : World) (hv : val < 18446744073709551616) :
    Calls Tryz.prog 149 #[.int .u64 val] w fun e w' => ∃ k : Nat, 1 ≤ k ∧ k ≤ 64 ∧ e = .returned (.int .i64 k) ∧ w = w' := by
  go_enter Tryz.func149, Tryz.ntmps149
  go_wp2_with fail
  go_loop [0, 3] (fun x s => ∃ (r k : Nat), x = .int .u64 r ∧ s = .int .i64 k ∧ 1 ≤ k ∧ k ≤ 10 ∧ r * 128 ^ k ≤ val) (fun x _ => (intOf x).toNat)
  case atStart => exact ⟨val / 128, 1, by go_num, rfl, by omega, by omega, by omega⟩
  case round =>
    obtain ⟨r, k, rfl, rfl, h1, h2, h3⟩ := hrel
    by_cases h0 : 0 < r
    · have hk : k < 10 := by
        rcases Nat.lt_or_ge k 10 with h | h
        · exact h
        · obtain rfl : k = 10 := by omega
          have : (128 : Nat) ^ 10 = 1180591620717411303424 := by decide
          rw [this] at h3
          omega
      have h4 : r / 128 * 128 ^ (k + 1) ≤ val := by
        rw [Nat.pow_succ, ← Nat.mul_assoc, Nat.mul_right_comm]
        exact Nat.le_trans (Nat.mul_le_mul_right _ (by omega)) h3
      clear h3
      go_wp2_with fail
      refine ⟨⟨r / 128, k + 1, by go_num, by go_num, by omega, by omega, h4⟩, by simp [intOf]; omega⟩
    · obtain rfl : r = 0 := by omega
      clear h3 h0
      go_wp2_with fail
      go_ret
      exact ⟨k, h1, by omega, rfl, rfl⟩

/-- A new slice: all that was there is as it was; it may be appended to by o. -/
def NewP (e : TypeId) (o : Nat) (g : Gh) (w : World) (n : Nat) (xs : List Value) (en : Ending) (w' : World) : Prop :=
  ∃ A' cap' g', en = .returned (.slice A' n cap') ∧ Below w.heap.size w w' ∧ (∀ b, b < w.heap.size → g'.F b = g.F b) ∧ (∀ b, b < w.heap.size → g'.O b = g.O b) ∧ App e 1 o g' w' A' n cap' xs ∧ (∀ b off, A' = some ⟨b, off, none⟩ → w.heap.size ≤ b)
theorem newP_own {e : TypeId} {o : Nat} {g : Gh} {w w' : World} {n : Nat} {xs : List Value} {v : Value} (hb : Below w.heap.size w w') (hown : w'.ownsRow w.heap.size e 1 v n xs) (hn : 0 < n) : NewP e o g w n xs (.returned v) w' := by
  obtain ⟨hl, h | ⟨b, cap, cs, rfl, hg, hh, h1, h2, h3, h4⟩⟩ := hown
  · omega
  · refine ⟨some ⟨b, 0, none⟩, cap, ⟨fun k => if k = b then n else g.F k, fun k => if k = b then o else g.O k⟩, rfl, hb, fun k hk => ?_, fun k hk => ?_, ⟨⟨hl, fun _ => ⟨b, 0, rfl, by simp, block_lt hh, fun j u hu => ?_⟩⟩, h1, h2, (by simp), fun _ => ⟨hn, b, cs, rfl, by simp, by simp, hh, h3⟩⟩, fun k off hk => ?_⟩
    · dsimp only; rw [if_neg (by omega)]
    · dsimp only; rw [if_neg (by omega)]
    · have hj : j < n := by have := (List.getElem?_eq_some_iff.1 hu).1; omega
      rw [cell_at hh, Nat.zero_add]
      rw [← h4, List.getElem?_take, if_pos (by omega)] at hu
      simpa using hu
    · injection hk with hk; injection hk with hk; omega

set_option maxRecDepth 100000 in
set_option maxHeartbeats 800000 in
theorem extended_any (g : Gh) (A : Option Addr) (n c k : Nat) (xs : List Value) (w : World) (hr : Rd 1 g w A n xs) (_hz : A = none → n = 0) (h1 : ∀ u ∈ xs, u.oneCell' = true) (hb : n ≤ 140737488000000) (hk : k ≤ 1000) :
    Calls Tryz.prog 148 #[.slice A n c, .int .i64 k] w fun e w' => ∃ v, e = .returned v ∧ w'.ownsRow w.heap.size 5 1 v n xs ∧ Below w.heap.size w w' := by
  obtain ⟨i0, hi, hz0, hz1, hz2⟩ := info_parts Tryz.infoU8
  have hmk : (Instr.makeSlice 30 (.int .i64 (n : Int)) (.int .i64 ((n : Int) + (k : Int)))).run Tryz.prog w = .ok (.slice (some ⟨w.heap.size, 0, none⟩) n (n + k)) (w.alloc (.cells (madeCells #[.int .u8 0] (n + k)) 5)) := by
    have := run_make (P := Tryz.prog) w 30 5 i0 (.int .u8 0) Tryz.underlying30 hi hz0 .i64 .i64 (n : Int) ((n : Int) + (k : Int)) (by omega) (by omega) (by rw [hz2]; omega) (by omega)
    rw [hz1] at this
    have e1 : ((n : Int) + (k : Int)).toNat = n + k := by omega
    simpa [e1, Value.cells] using this
  have hsz : (Tryz.prog.info? 5).map (·.size) = some 1 := by rw [hi]; simp [hz1]
  have hx1 : Ext (fun _ => True) g w g (w.alloc (.cells (madeCells #[.int .u8 0] (n + k)) 5)) := (Ext.refl _ _ _).alloc _
  have HR := Lib.hid (hr.ext hx1)
  have HL : Hid (xs.length = n) := by have := hr.len; show _ = _; omega
  obtain ⟨cur, hcur⟩ : ∃ cur : List Value, cur.toArray = madeCells #[.int .u8 0] (n + k) := ⟨(madeCells #[.int .u8 0] (n + k)).toList, by simp⟩
  have hcl : cur.length = n + k := by
    have := congrArg Array.size hcur
    simpa [madeCells] using this
  have HC : Hid ((w.alloc (.cells cur.toArray 5)).heap[w.heap.size]? = some (.cells cur.toArray 5 (0, 0))) := heap_alloc_new w _
  rw [← hcur] at hmk HR
  clear hcur hr hx1
  have HCL := Lib.hid hcl
  clear hcl
  have HP : Hid (0 < xs.length → (some ⟨w.heap.size, 0, none⟩ : Option Addr) = some ⟨w.heap.size, 0, none⟩ ∧ ∃ ad, A = some ad ∧ ∀ j v, xs[j]? = some v → (w.alloc (.cells cur.toArray 5)).cell? (ad.add j) = some v) := by
    intro h0
    obtain ⟨b, off, hA, _, _, hc⟩ := HR.out.at_ (by rw [HL.out] at h0; exact h0)
    exact ⟨rfl, _, hA, fun j v hv => by rw [add_lit]; exact hc j v hv⟩
  go_enter Tryz.func148, Tryz.ntmps148
  go_wp2_with (with_reducible refine wpList_copy_splice rfl (.tmp 13) (.tmp 14) _ _ rfl 5 Tryz.underlying30 hsz _ _ _ _ _ _ rfl rfl w.heap.size 0 cur 5 HC.out xs (by rw [HL.out]; exact (Nat.min_self n).symm) HP.out (by rw [HL.out, HCL.out]; omega) h1 w.heap.size w ((Below.refl _ _).alloc (Nat.le_refl _) _) (Nat.le_refl _) ?_; intro w1 hg1 hb1)
  have hfin : w1.ownsRow w.heap.size 5 1 (.slice (some ⟨w.heap.size, 0, none⟩) n (n + k)) n xs := by
    refine ⟨by rw [HL.out]; omega, .inr ⟨w.heap.size, n + k, _, rfl, Nat.le_refl _, hg1.out, by omega, by unfold maxLen; omega, ?_, ?_⟩⟩
    · simp only [splice, List.size_toArray, List.length_append, List.length_take, List.length_drop, HL.out, HCL.out]
      omega
    · rw [← HL.out]
      simp [splice]
  have HF := Lib.hid hfin
  clear hfin hg1
  go_wp2_with fail
  go_ret
  exact ⟨_, rfl, HF.out, hb1⟩

set_option maxRecDepth 100000 in
set_option maxHeartbeats 800000 in
theorem putUint_any (o : Nat) (g : Gh) (A : Option Addr) (n c : Nat) (xs : List Value) (val : Nat) (w : World) (hr : Rd 1 g w A n xs) (hz : A = none → n = 0) (h1 : ∀ u ∈ xs, u.oneCell' = true) (hb : n ≤ 140737488000000) (hv : val < 18446744073709551616) :
    Calls Tryz.prog 133 #[.slice A n c, .int .u64 val] w (NewP 5 o g w (n + (encU val).length) (xs ++ bv (encU val))) := by
  have HR := Lib.hid hr
  have HZ := Lib.hid hz
  have H1 := Lib.hid h1
  clear hr hz h1
  go_enter Tryz.func133, Tryz.ntmps133
  go_wp2_with fail
  refine (uintSize_any val _ hv).mono ?_
  rintro e w1 ⟨k, hk1, hk2, rfl, rfl⟩
  go_wp2_with fail
  refine (extended_any g A n c k xs _ HR.out HZ.out H1.out hb (by omega)).mono ?_
  rintro e w1 ⟨v, rfl, hown, hb1⟩
  go_wp2_with fail
  refine (appendUint_any w.heap.size v n xs val _ hown hb1.size (by omega) hv).mono ?_
  rintro e w2 ⟨v', rfl, hown2, hb2⟩
  go_wp2_with fail
  go_ret
  exact newP_own (hb1.trans hb2) hown2 (by have := encU_pos val; omega)
end

section
open Go.RowKit

def okc (dot : Bool) (c : UInt8) : Bool := (decide (97 ≤ c.toNat) && decide (c.toNat ≤ 122)) || (decide (48 ≤ c.toNat) && decide (c.toNat ≤ 57)) || decide (c.toNat = 45) || (dot && decide (c.toNat = 46))
def nmB (dot : Bool) (mx : Nat) (s : ByteArray) : Bool := decide (1 ≤ s.size) && decide (s.size ≤ mx) && s.data.toList.all (okc dot)
theorem take_snoc (s : ByteArray) (k : Nat) (h : k < s.size) : s.data.toList.take (k + 1) = s.data.toList.take k ++ [s[k]] := by
  rw [List.take_succ_eq_append_getElem (by simpa using h)]; rfl
theorem nm_in {dot : Bool} {mx : Nat} {s : ByteArray} (h1 : 1 ≤ s.size) (h2 : s.size ≤ mx) (h : s.data.toList.all (okc dot) = true) : nmB dot mx s = true := by simp [nmB, h1, h2, h]
theorem nm_out {dot : Bool} {mx : Nat} {s : ByteArray} (h : s.size < 1 ∨ mx < s.size) : nmB dot mx s = false := by
  unfold nmB
  rcases h with h | h
  · rw [decide_eq_false (by omega)]; simp
  · rw [decide_eq_false (p := s.size ≤ mx) (by omega)]; simp
theorem nm_bad {dot : Bool} {mx : Nat} {s : ByteArray} {k : Nat} (h : k < s.size) (hb : okc dot s[k] = false) : nmB dot mx s = false := by
  unfold nmB
  have : s.data.toList.all (okc dot) = false := by
    rw [List.all_eq_false]
    exact ⟨s[k], List.getElem_mem (l := s.data.toList) (by simpa using h), by simp [hb]⟩
  rw [this]; simp
theorem nm_next {dot : Bool} {s : ByteArray} {k : Nat} (h : k < s.size) (ha : (s.data.toList.take k).all (okc dot) = true) (hb : okc dot s[k] = true) : (s.data.toList.take (k + 1)).all (okc dot) = true := by
  rw [take_snoc s k h, List.all_append, ha]; simp [hb]

set_option maxRecDepth 100000 in
set_option maxHeartbeats 1600000 in
theorem dname_any (s : ByteArray) (w : World) (hs : s.size ≤ 9223372036854775807) :
    Calls Tryz.prog 126 #[.string s] w fun e w' => e = .returned (.bool (nmB true 64 s)) ∧ w = w' := by
  by_cases h0 : s.size < 1 ∨ 64 < s.size
  · have HF := Lib.hid (nm_out (dot := true) h0)
    rcases h0 with h0 | h0
    · go_enter Tryz.func126, Tryz.ntmps126
      go_wp2_with fail
      go_ret
      exact ⟨ret_bool HF.out.symm, rfl⟩
    · go_enter Tryz.func126, Tryz.ntmps126
      go_wp2_with fail
      go_ret
      exact ⟨ret_bool HF.out.symm, rfl⟩
  · have h1 : 1 ≤ s.size := by omega
    have h2 : s.size ≤ 64 := by omega
    have h1b : decide ((s.size : Int) < 1) = false := by simp; omega
    have h2b : decide ((64 : Int) < (s.size : Int)) = false := by simp; omega
    clear h0
    go_enter Tryz.func126, Tryz.ntmps126
    go_wp2_with fail
    clear h1b h2b
    go_loop [15] (fun i => ∃ k : Nat, k ≤ s.size ∧ i = .int .i64 k ∧ Hid ((s.data.toList.take k).all (okc true) = true)) (fun i => s.size - (intOf i).toNat)
    case atStart => exact ⟨0, Nat.zero_le _, rfl, rfl⟩
    case round =>
      obtain ⟨k, hk, rfl, HA⟩ := hrel
      by_cases hlt : k < s.size
      · have hc := s[k].toNat_lt
        have HC : Hid (okc true s[k] = ((decide (97 ≤ s[k].toNat) && decide (s[k].toNat ≤ 122)) || (decide (48 ≤ s[k].toNat) && decide (s[k].toNat ≤ 57)) || decide (s[k].toNat = 45) || (true && decide (s[k].toNat = 46)))) := rfl
        have HN := Lib.hid (@nm_next true s k hlt HA.out)
        have HB := Lib.hid (@nm_bad true 64 s k hlt)
        cases hok : okc true s[k]
        · have HO := Lib.hid hok
          clear hok
          have hx : ¬ (97 ≤ s[k].toNat ∧ s[k].toNat ≤ 122) ∧ ¬ (48 ≤ s[k].toNat ∧ s[k].toNat ≤ 57) ∧ s[k].toNat ≠ 45 ∧ s[k].toNat ≠ 46 := by
            have := HO.out
            rw [HC.out] at this
            simp at this
            omega
          have h45 : ((s[k].toNat : Int) != 45) = true := by rw [bne_iff_ne]; omega
          have h46 : ((s[k].toNat : Int) != 46) = true := by rw [bne_iff_ne]; omega
          have hr : s[k].toNat < 48 ∨ (58 ≤ s[k].toNat ∧ s[k].toNat < 97) ∨ 122 < s[k].toNat := by omega
          clear hx hc HC HN
          rcases hr with hr | hr | hr
          all_goals
            go_wp2_with fail
            go_ret
            exact ⟨ret_bool (HB.out HO.out).symm, rfl⟩
        · have HO := Lib.hid hok
          clear hok
          have hx : (97 ≤ s[k].toNat ∧ s[k].toNat ≤ 122) ∨ (48 ≤ s[k].toNat ∧ s[k].toNat ≤ 57) ∨ s[k].toNat = 45 ∨ s[k].toNat = 46 := by
            have := HO.out
            rw [HC.out] at this
            simp at this
            omega
          rcases hx with hx | hx | hx | hx
          · clear hc HC HB
            go_wp2_with fail
            go_round
            case rel => exact ⟨k + 1, by omega, by go_num, HN.out HO.out⟩
            case measure => simp [intOf]; omega
          · clear hc HC HB
            go_wp2_with fail
            go_round
            case rel => exact ⟨k + 1, by omega, by go_num, HN.out HO.out⟩
            case measure => simp [intOf]; omega
          · have h45 : ((s[k].toNat : Int) != 45) = false := by rw [bne_eq_false_iff_eq]; omega
            have h46 : ((s[k].toNat : Int) != 46) = true := by rw [bne_iff_ne]; omega
            have hx1 : s[k].toNat < 48 := by omega
            clear hc HC HB hx
            go_wp2_with fail
            go_round
            case rel => exact ⟨k + 1, by omega, by go_num, HN.out HO.out⟩
            case measure => simp [intOf]; omega
          · have h46 : ((s[k].toNat : Int) != 46) = false := by rw [bne_eq_false_iff_eq]; omega
            have hx1 : s[k].toNat < 48 := by omega
            clear hc HC HB hx
            go_wp2_with fail
            go_round
            case rel => exact ⟨k + 1, by omega, by go_num, HN.out HO.out⟩
            case measure => simp [intOf]; omega
      · have HF : Hid (nmB true 64 s = true) := nm_in h1 h2 (by have := HA.out; rwa [List.take_of_length_le (by simp; omega)] at this)
        go_wp2_with fail
        go_ret
        exact ⟨ret_bool HF.out.symm, rfl⟩
end

section
open Go.RowKit

/-- A checkpoint: the number of its Save, its position, its state. -/
structure Ck where
  seq : Nat
  pos : Nat
  st : List UInt8
def ckMark : List UInt8 := [83, 89, 67, 80]
def ckBody (c : Ck) : List UInt8 := (((ckMark ++ encU c.seq) ++ encU c.pos) ++ encU c.st.length) ++ c.st
noncomputable def encC (c : Ck) : List UInt8 := ckBody c ++ encU (sumF (ckBody c)).toNat

theorem dec_pre {v : Nat} (hv : v < 18446744073709551616) {p r : List UInt8} (h : p <+: encU v ++ r) :
    (decU 0 0 p = (v, (encU v).length, 0) ∧ (encU v).length ≤ p.length ∧ p.drop (encU v).length <+: r) ∨ (decU 0 0 p = (0, 0, 11) ∧ p.length < (encU v).length) := by
  by_cases hl : p.length < (encU v).length
  · right
    refine ⟨?_, hl⟩
    have h1 : p <+: encU v := List.prefix_of_prefix_length_le h (List.prefix_append _ _) (by omega)
    exact dec_short v 0 0 p (by omega) (by omega) h1 (fun e => by rw [e] at hl; omega)
  · left
    have h1 : encU v <+: p := List.prefix_of_prefix_length_le (List.prefix_append _ _) h (by omega)
    obtain ⟨s, rfl⟩ := h1
    refine ⟨?_, by omega, ?_⟩
    · have := dec_enc v 0 0 s (by omega) (by omega) (by omega)
      simpa using this
    · rw [List.drop_left]
      exact (List.prefix_append_right_inj _).1 h

structure CkOk (c : Ck) : Prop where
  s : c.seq < 1000000000
  p : c.pos < 1000000000
  l : c.st.length ≤ 2097152
/-- The parts of a slot's bytes from the first number on. -/
noncomputable def ckR2 (c : Ck) : List UInt8 := c.st ++ encU (sumF (ckBody c)).toNat
noncomputable def ckR1 (c : Ck) : List UInt8 := encU c.st.length ++ ckR2 c
noncomputable def ckR0 (c : Ck) : List UInt8 := encU c.pos ++ ckR1 c
theorem encC_split (c : Ck) : encC c = ckMark ++ (encU c.seq ++ ckR0 c) := by simp [encC, ckBody, ckR0, ckR1, ckR2, List.append_assoc]
def ckOff (c : Ck) : Nat → Nat
  | 0 => 4
  | 1 => 4 + (encU c.seq).length
  | 2 => 4 + (encU c.seq).length + (encU c.pos).length
  | _ => 4 + (encU c.seq).length + (encU c.pos).length + (encU c.st.length).length
def ckNum (c : Ck) : Nat → Nat
  | 0 => c.seq
  | 1 => c.pos
  | _ => c.st.length
theorem encU_len10 {v : Nat} (h : v < 18446744073709551616) : (encU v).length ≤ 10 := encU_len v 10 (by omega) (by omega)
theorem sumF_lt (l : List UInt8) : (sumF l).toNat < 18446744073709551616 := by have := sumF_bd l; omega
theorem ckBody_len (c : Ck) : (ckBody c).length = ckOff c 3 + c.st.length := by simp [ckBody, ckMark, ckOff]; omega
theorem encC_len {c : Ck} (h : CkOk c) : (encC c).length ≤ 2097152 + 44 := by
  have h1 := ckBody_len c
  have h2 := encU_len10 (v := c.seq) (by have := h.s; omega)
  have h3 := encU_len10 (v := c.pos) (by have := h.p; omega)
  have h4 := encU_len10 (v := c.st.length) (by have := h.l; omega)
  have h5 := encU_len10 (sumF_lt (ckBody c))
  have h6 := h.l
  simp only [encC, List.length_append, h1, ckOff]
  omega

/-- What decode sees, number by number, of bytes that are a beginning of a slot's. -/
theorem ck_num {c : Ck} (h : CkOk c) {l : List UInt8} (_hp : l <+: encC c) {k : Nat} (hk : k < 3) (hl : ckOff c k ≤ l.length) (hr : l.drop (ckOff c k) <+: (match k with | 0 => encU c.seq ++ ckR0 c | 1 => ckR0 c | _ => ckR1 c)) :
    (decU 0 0 (l.drop (ckOff c k)) = (ckNum c k, ckOff c (k + 1) - ckOff c k, 0) ∧ ckOff c (k + 1) ≤ l.length ∧ l.drop (ckOff c (k + 1)) <+: (match k with | 0 => ckR0 c | 1 => ckR1 c | _ => ckR2 c)) ∨
    (decU 0 0 (l.drop (ckOff c k)) = (0, 0, 11) ∧ l ≠ encC c) := by
  have hne : ∀ v r, (encC c).drop (ckOff c k) = encU v ++ r → (l.drop (ckOff c k)).length < (encU v).length → l ≠ encC c := fun v r e hlt e' => by
    rw [e', e, List.length_append] at hlt
    omega
  have hd : ∀ n, l.drop (ckOff c k + n) = (l.drop (ckOff c k)).drop n := fun n => by rw [List.drop_drop]
  have o0 : ckOff c 0 = 4 := rfl
  have o1 : ckOff c 1 = 4 + (encU c.seq).length := rfl
  have o2 : ckOff c 2 = 4 + (encU c.seq).length + (encU c.pos).length := rfl
  have o3 : ckOff c 3 = 4 + (encU c.seq).length + (encU c.pos).length + (encU c.st.length).length := rfl
  rcases k with _ | _ | _ | k
  · rcases dec_pre (by have := h.s; omega) hr with ⟨a, b, d⟩ | ⟨a, b⟩
    · left
      refine ⟨?_, ?_, ?_⟩
      · rw [a]; simp [ckNum, ckOff]
      · change ckOff c 1 ≤ l.length
        change ckOff c 0 ≤ l.length at hl
        rw [List.length_drop] at b
        change _ ≤ l.length - ckOff c 0 at b
        omega
      · have := hd (encU c.seq).length
        simp only [ckOff] at *
        rw [this]; exact d
    · exact .inr ⟨a, hne _ (ckR0 c) (by rw [encC_split]; simp [ckOff, ckMark]) b⟩
  · rcases dec_pre (by have := h.p; omega) hr with ⟨a, b, d⟩ | ⟨a, b⟩
    · left
      refine ⟨?_, ?_, ?_⟩
      · rw [a]; simp [ckNum, ckOff]
      · change ckOff c 2 ≤ l.length
        change ckOff c 1 ≤ l.length at hl
        rw [List.length_drop] at b
        change _ ≤ l.length - ckOff c 1 at b
        omega
      · have := hd (encU c.pos).length
        simp only [ckOff] at *
        rw [this]; exact d
    · refine .inr ⟨a, hne _ (ckR1 c) ?_ b⟩
      rw [encC_split, ← List.append_assoc, List.drop_append_of_le_length (by simp [ckOff, ckMark]; omega)]
      rw [List.drop_of_length_le (by simp [ckOff, ckMark]; omega)]
      rfl
  · rcases dec_pre (by have := h.l; omega) hr with ⟨a, b, d⟩ | ⟨a, b⟩
    · left
      refine ⟨?_, ?_, ?_⟩
      · rw [a]; simp [ckNum, ckOff]
      · change ckOff c 3 ≤ l.length
        change ckOff c 2 ≤ l.length at hl
        rw [List.length_drop] at b
        change _ ≤ l.length - ckOff c 2 at b
        omega
      · have := hd (encU c.st.length).length
        simp only [ckOff] at *
        rw [this]; exact d
    · refine .inr ⟨a, hne _ (ckR2 c) ?_ b⟩
      rw [encC_split, ckR0, ← List.append_assoc, ← List.append_assoc, List.drop_append_of_le_length (by simp [ckOff, ckMark]; omega)]
      rw [List.drop_of_length_le (by simp [ckOff, ckMark]; omega)]
      rfl
  · omega

/-- The newer of two slots, and the number of the other one. -/
def seqO : Option Ck → Nat
  | none => 0
  | some c => c.seq
def newS (s0 s1 : Option Ck) : Option Ck × Nat := if s1.isNone = true ∨ seqO s1 < seqO s0 then (s0, 1) else (s1, 0)
theorem newS_new0 {s0 s1 : Option Ck} (h : (newS s0 s1).2 = 0) {c : Ck} (hc : c.seq = seqO (newS s0 s1).1 + 1) : newS (some c) s1 = (some c, 1) := by
  unfold newS at h hc
  split at h
  · cases h
  · rename_i hn
    rw [if_neg hn] at hc
    unfold newS
    rw [if_pos]
    right
    simp only [seqO] at *
    omega
theorem newS_new1 {s0 s1 : Option Ck} (h : (newS s0 s1).2 = 1) {c : Ck} (hc : c.seq = seqO (newS s0 s1).1 + 1) : newS s0 (some c) = (some c, 0) := by
  unfold newS at h hc
  split at h
  · rename_i hn
    rw [if_pos hn] at hc
    unfold newS
    rw [if_neg]
    simp only [seqO] at *
    simp
    omega
  · cases h
theorem newS_torn0 {s0 s1 : Option Ck} (h : (newS s0 s1).2 = 0) : newS none s1 = newS s0 s1 := by
  unfold newS at h ⊢
  split at h
  · cases h
  · rename_i hn
    rw [if_neg hn, if_neg]
    exact fun h' => hn (h'.imp id (fun h' => absurd h' (Nat.not_lt_zero _)))
theorem newS_torn1 {s0 s1 : Option Ck} (h : (newS s0 s1).2 = 1) : newS s0 none = newS s0 s1 := by
  unfold newS at h ⊢
  split at h
  · rename_i hn
    rw [if_pos hn, if_pos (by simp)]
  · cases h
theorem newS_lt (s0 s1 : Option Ck) : (newS s0 s1).2 < 2 := by unfold newS; split <;> simp
end

end Go.Proofs.YtjjdffafibonhaaGreatDoor
