/-
  Bytes in memory; copies of slices.
-/
import Derived.Test.YthjbaafbkalomaaMem
import Derived.Lib.SliceRun
namespace Go.Proofs.Ythjbaafbkalomaa
open Go.RowKit

def u8v (c : UInt8) : Value := .int .u8 (c.toNat : Int)
def bv (l : List UInt8) : List Value := l.map u8v
theorem bv_one (l : List UInt8) : ∀ u ∈ bv l, u.oneCell' = true := fun u hu => by
  obtain ⟨c, _, rfl⟩ := List.mem_map.1 hu
  rfl
theorem bv_len (l : List UInt8) : (bv l).length = l.length := by simp [bv]
theorem bv_append (a b : List UInt8) : bv (a ++ b) = bv a ++ bv b := by simp [bv]
theorem bv_take (a : List UInt8) (n : Nat) : (bv a).take n = bv (a.take n) := by simp [bv]
theorem bv_drop (a : List UInt8) (n : Nat) : (bv a).drop n = bv (a.drop n) := by simp [bv]
theorem bv_get {l : List UInt8} {k : Nat} (h : k < l.length) : (bv l)[k]? = some (.int .u8 ((l[k]).toNat : Int)) := by simp [bv, h, u8v]

theorem Try.infoU8 : (Try.prog.info? 5).map (fun i => (i.zero, i.size, i.bytes)) = some (some (.int .u8 0), 1, 1) := by kernel_rfl
theorem Try.infoBytes : (Try.prog.info? 37).map (fun i => (i.zero, i.size, i.bytes)) = some (some (.slice none 0 0), 1, 24) := by kernel_rfl

/-- What a copy of a slice is. -/
def CloneP (e : TypeId) (o : Nat) (g : Gh) (w : World) (A : Option Addr) (n : Nat) (xs : List Value) (en : Ending) (w' : World) : Prop :=
  ∃ A' cap' g', en = .returned (.slice A' n cap') ∧ Below w.heap.size w w' ∧ (∀ b, b < w.heap.size → g'.F b = g.F b) ∧ (∀ b, b < w.heap.size → g'.O b = g.O b) ∧ App e 1 o g' w' A' n cap' xs ∧ (A' = none ↔ A = none) ∧ (∀ b off, A' = some ⟨b, off, none⟩ → w.heap.size ≤ b)

theorem clone_end {e : TypeId} {o : Nat} {g g' : Gh} {w w' : World} {A A' : Option Addr} {n cap' : Nat} {xs : List Value} {C : Obj} (hA : A ≠ none) (hx : Ext (· = o) g (w.alloc C) g' w') (ha : App e 1 o g' w' A' n cap' xs)
    (hl : Lies g (w.alloc C) (some ⟨w.heap.size, 0, none⟩) 0 0 g' w' A' cap') : CloneP e o g w A n xs (.returned (.slice A' n cap')) w' := by
  have hfar : ∀ b, b < w.heap.size → w'.heap[b]? = w.heap[b]? ∧ g'.F b = g.F b := fun b hb => by
    obtain ⟨h1, h2⟩ := hl.far b (by simp; omega) (fun h => absurd h (Nat.lt_irrefl _))
    exact ⟨h1.trans (Below.heap_alloc w C b hb), h2⟩
  have hs := hx.size
  refine ⟨A', cap', g', rfl, ⟨hx.os, hx.tape, hx.output, by simp at hs; omega, fun b hb => (hfar b hb).1⟩, fun b hb => (hfar b hb).2, fun b hb => hx.own b (by simp; omega), ha, ?_, fun b off hb => ?_⟩
  · refine ⟨fun h => ?_, fun h => absurd h hA⟩
    rcases hl.at_ with ⟨h1, _⟩ | ⟨b, h1, _⟩ <;> rw [h1] at h <;> cases h
  · rcases hl.at_ with ⟨h1, _⟩ | ⟨b', h1, h2, _⟩
    · rw [h1] at hb; injection hb with hb; injection hb with hb; omega
    · rw [h1] at hb; injection hb with hb; injection hb with hb; simp at h2; omega

theorem clone_nil {e : TypeId} {o : Nat} {g : Gh} {w : World} {n : Nat} {xs : List Value} (hn : n = 0) (hx : xs.length = n) : CloneP e o g w none n xs (.returned (.slice none 0 0)) w := by
  subst hn
  have : xs = [] := List.eq_nil_of_length_eq_zero hx
  subst this
  exact ⟨none, 0, g, rfl, Below.refl _ _, fun _ _ => rfl, fun _ _ => rfl, App.nil _ _ _ _ _, Iff.rfl, fun _ _ h => by cases h⟩

set_option maxRecDepth 100000 in
set_option maxHeartbeats 400000 in
theorem cloneB_any (o : Nat) (g : Gh) (A : Option Addr) (n c : Nat) (xs : List Value) (w : World) (hr : Rd 1 g w A n xs) (hz : A = none → n = 0) (h1 : ∀ u ∈ xs, u.oneCell' = true) (hb : n ≤ 140737488355328) :
    Calls Try.prog 33 #[.slice A n c] w (CloneP 5 o g w A n xs) := by
  obtain ⟨i0, hi, hz0, hz1, hz2⟩ := info_parts Try.infoU8
  cases A with
  | none =>
    have hn := hz rfl
    have hxl : xs.length = n := by simpa using hr.len
    subst hn
    clear hz hr h1 hb
    have he := Lib.run_eql_slice_nil (P := Try.prog) w 37 5 none 0 c 0 0 Try.underlying37
    go_enter Try.func33, Try.ntmps33
    go_wp2_with fail
    go_ret
    exact clone_nil rfl hxl
  | some a =>
    have hn0 : Ext (fun _ => True) g w g (w.alloc (.cells #[] 5)) := (Ext.refl _ _ _).alloc _
    have hr1 := hr.ext hn0
    have hs := hr1.src (P := Try.prog) Try.underlying37 c h1 (fun h => by cases h)
    have he := Lib.run_eql_slice_nil (P := Try.prog) w 37 5 (some a) n c 0 0 Try.underlying37
    have ha : App 5 1 o g (w.alloc (.cells #[] 5)) (some ⟨w.heap.size, 0, none⟩) 0 0 [] := ⟨Rd.nil _ _ _ _, Nat.le_refl _, Nat.zero_le _, (fun h => by cases h), fun h => absurd h (Nat.lt_irrefl _)⟩
    have HS := Lib.hid hs
    have HA := Lib.hid ha
    clear hs ha hr1 hn0 hr hz h1
    go_enter Try.func33, Try.ntmps33
    go_wp2_with (at_builtin; refine wpList_append_app rfl _ _ _ _ rfl 5 i0 (.int .u8 0) 1 1 Try.underlying37 hi hz0 hz1 hz2 rfl (by decide) rfl HA.out rfl HS.out (by unfold maxLen; omega) (by omega) ?_; intro A' cap' w' g' hx ha hl)
    go_wp2_with fail
    go_ret
    exact clone_end (by simp) hx (by simpa using ha) hl

set_option maxRecDepth 100000 in
set_option maxHeartbeats 400000 in
theorem cloneR_any (o : Nat) (g : Gh) (A : Option Addr) (n c : Nat) (xs : List Value) (w : World) (hr : Rd 1 g w A n xs) (hz : A = none → n = 0) (h1 : ∀ u ∈ xs, u.oneCell' = true) (hb : n ≤ 5864062014805) :
    Calls Try.prog 41 #[.slice A n c] w (CloneP 37 o g w A n xs) := by
  obtain ⟨i0, hi, hz0, hz1, hz2⟩ := info_parts Try.infoBytes
  cases A with
  | none =>
    have hn := hz rfl
    have hxl : xs.length = n := by simpa using hr.len
    subst hn
    clear hz hr h1 hb
    have he := Lib.run_eql_slice_nil (P := Try.prog) w 33 37 none 0 c 0 0 Try.underlying33
    go_enter Try.func41, Try.ntmps41
    go_wp2_with fail
    go_ret
    exact clone_nil rfl hxl
  | some a =>
    have hn0 : Ext (fun _ => True) g w g (w.alloc (.cells #[] 37)) := (Ext.refl _ _ _).alloc _
    have hr1 := hr.ext hn0
    have hs := hr1.src (P := Try.prog) Try.underlying33 c h1 (fun h => by cases h)
    have he := Lib.run_eql_slice_nil (P := Try.prog) w 33 37 (some a) n c 0 0 Try.underlying33
    have ha : App 37 1 o g (w.alloc (.cells #[] 37)) (some ⟨w.heap.size, 0, none⟩) 0 0 [] := ⟨Rd.nil _ _ _ _, Nat.le_refl _, Nat.zero_le _, (fun h => by cases h), fun h => absurd h (Nat.lt_irrefl _)⟩
    have HS := Lib.hid hs
    have HA := Lib.hid ha
    clear hs ha hr1 hn0 hr hz h1
    go_enter Try.func41, Try.ntmps41
    go_wp2_with (at_builtin; refine wpList_append_app rfl _ _ _ _ rfl 37 i0 (.slice none 0 0) 1 24 Try.underlying33 hi hz0 hz1 hz2 rfl (by decide) rfl HA.out rfl HS.out (by unfold maxLen; omega) (by omega) ?_; intro A' cap' w' g' hx ha hl)
    go_wp2_with fail
    go_ret
    exact clone_end (by simp) hx (by simpa using ha) hl

/-- The address of a part of a slice: at the end of the capacity it stays the old one. -/
def cutA (sz : Nat) (A : Option Addr) (m l : Nat) : Option Addr := if m = l then A else A.map (·.add (l * sz))
theorem cutA_none (sz m l : Nat) : cutA sz none m l = none := by unfold cutA; split <;> rfl
theorem cutA_zero (sz : Nat) (A : Option Addr) (m : Nat) : cutA sz A m 0 = A := by
  unfold cutA
  split
  · rfl
  · cases A with
    | none => rfl
    | some a => simp [Addr.add]
theorem cutA_isNone {sz : Nat} {A : Option Addr} {m l : Nat} (h : cutA sz A m l = none) : A = none := by
  unfold cutA at h
  split at h
  · exact h
  · simpa using h
theorem Rd.cut {sz : Nat} {g : Gh} {w : World} {A : Option Addr} {n : Nat} {xs : List Value} (h : Rd sz g w A n xs) {l k m : Nat} (h1 : l + k ≤ n) (h2 : l + k ≤ m) : Rd sz g w (cutA sz A m l) k ((xs.drop (l * sz)).take (k * sz)) := by
  have hl : ((xs.drop (l * sz)).take (k * sz)).length = k * sz := by
    have h3 : (l + k) * sz ≤ n * sz := Nat.mul_le_mul_right _ h1
    rw [Nat.add_mul] at h3
    rw [List.length_take, List.length_drop, h.len]
    omega
  refine ⟨hl, fun hk => ?_⟩
  obtain ⟨b, off, rfl, hF, hb, hc⟩ := h.at_ (by omega)
  have h3 : (l + k) * sz ≤ n * sz := Nat.mul_le_mul_right _ h1
  rw [Nat.add_mul] at h3
  refine ⟨b, off + l * sz, ?_, by omega, hb, fun j u hu => ?_⟩
  · unfold cutA
    rw [if_neg (by omega)]
    simp only [Option.map_some]
    rw [add_lit]
  · have hj : j < k * sz := by rw [← hl]; exact (List.getElem?_eq_some_iff.1 hu).1
    rw [List.getElem?_take, if_pos hj, List.getElem?_drop] at hu
    rw [Nat.add_assoc]
    exact hc _ u hu
theorem Rd.drop {g : Gh} {w : World} {A : Option Addr} {n : Nat} {xs : List Value} (h : Rd 1 g w A n xs) {l m : Nat} (h1 : l ≤ n) (h2 : n ≤ m) : Rd 1 g w (cutA 1 A m l) (n - l) (xs.drop l) := by
  have := h.cut (l := l) (k := n - l) (m := m) (by omega) (by omega)
  rw [Nat.mul_one, Nat.mul_one, List.take_of_length_le (by rw [List.length_drop, h.len]; omega)] at this
  exact this
theorem run_bound {P : Program} {l y : Nat} (h : l ≤ y) (code : BoundsCode) (w : World) : (Instr.sliceBound (.int .i64 (l : Int)) y code).run P w = .ok l w := by
  rw [run_sliceBound (P := P) w .i64 l y code (by omega) (by omega)]
  simp
section
variable {P : Program} {t e : TypeId} {i : TypeInfo} (ht : P.underlying t = some (.slice e)) (hi : P.info? e = some i)
include ht hi
theorem run_cut_l (A : Option Addr) (n c l : Nat) (h : l ≤ n) (w : World) : (Instr.slice t (.slice A n c) (some (.int .i64 (l : Int))) none none).run P w = .ok (.slice (cutA i.size A c l) (n - l) (c - l)) w := by
  simp [Instr.slice, Instr.sliceBounds, run_underlying ht, sizeOf, typeInfo, hi, run_bound h, cutA]
theorem run_cut_h (A : Option Addr) (n c k : Nat) (h : k ≤ c) (w : World) : (Instr.slice t (.slice A n c) none (some (.int .i64 (k : Int))) none).run P w = .ok (.slice A k c) w := by
  simp [Instr.slice, Instr.sliceBounds, run_underlying ht, sizeOf, typeInfo, hi, run_bound h, Addr.add]
theorem run_cut_lhm (A : Option Addr) (n c l k m : Nat) (h : l ≤ k) (h2 : k ≤ m) (h3 : m ≤ c) (w : World) : (Instr.slice t (.slice A n c) (some (.int .i64 (l : Int))) (some (.int .i64 (k : Int))) (some (.int .i64 (m : Int)))).run P w = .ok (.slice (cutA i.size A m l) (k - l) (m - l)) w := by
  simp [Instr.slice, Instr.sliceBounds, run_underlying ht, sizeOf, typeInfo, hi, run_bound h, run_bound h2, run_bound h3, cutA]
theorem run_cut_hm (A : Option Addr) (n c k m : Nat) (h2 : k ≤ m) (h3 : m ≤ c) (w : World) : (Instr.slice t (.slice A n c) none (some (.int .i64 (k : Int))) (some (.int .i64 (m : Int)))).run P w = .ok (.slice A k m) w := by
  simp [Instr.slice, Instr.sliceBounds, run_underlying ht, sizeOf, typeInfo, hi, run_bound h2, run_bound h3, Addr.add]
end

end Go.Proofs.Ythjbaafbkalomaa
