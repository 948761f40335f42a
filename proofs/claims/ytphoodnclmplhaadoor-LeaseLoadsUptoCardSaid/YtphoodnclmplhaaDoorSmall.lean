/-
  The walks of 'small' and of the sanity check of layer 19.
-/
import Derived.Test.YtphoodnclmplhaaDoorTab2
namespace Go.Proofs.YtphoodnclmplhaaDoor
open Go.RowKit

/-- The operations of a list lie at block b from cell off on, five cells each. -/
def OpsAt (b off : Nat) (l : List LOp) (w : World) : Prop := ∀ (i : Nat) (o : LOp), l[i]? = some o →
  w.cell? ⟨b, off + i * 5, none⟩ = some (.int .i64 o.kind) ∧ w.cell? ⟨b, off + i * 5 + 1, none⟩ = some (.string o.p) ∧ w.cell? ⟨b, off + i * 5 + 2, none⟩ = some (.string o.h) ∧ w.cell? ⟨b, off + i * 5 + 3, none⟩ = some (.int .i64 o.fence) ∧ w.cell? ⟨b, off + i * 5 + 4, none⟩ = some (.int .i64 o.n)
theorem OpsAt.below {b off B : Nat} {l : List LOp} {w w' : World} (h : OpsAt b off l w) (hb : Below B w w') (hB : b < B) : OpsAt b off l w' := fun i o ho => by
  obtain ⟨h0, h1, h2, h3, h4⟩ := h i o ho
  exact ⟨(hb.cell (p := ⟨b, _, none⟩) hB).trans h0, (hb.cell (p := ⟨b, _, none⟩) hB).trans h1, (hb.cell (p := ⟨b, _, none⟩) hB).trans h2, (hb.cell (p := ⟨b, _, none⟩) hB).trans h3, (hb.cell (p := ⟨b, _, none⟩) hB).trans h4⟩

/-- A slice of operations that reads as a list, nil let in. -/
def OpsIn (A : Option Addr) (l : List LOp) (w : World) : Prop := 0 < l.length → ∃ b off, A = some ⟨b, off, none⟩ ∧ b < w.heap.size ∧ OpsAt b off l w
theorem OpsIn.below {A : Option Addr} {l : List LOp} {w w' : World} (h : OpsIn A l w) (hb : Below w.heap.size w w') : OpsIn A l w' := fun hl => by
  obtain ⟨b, off, e, h1, h2⟩ := h hl
  exact ⟨b, off, e, Nat.lt_of_lt_of_le h1 hb.size, h2.below hb h1⟩

def smO (o : LOp) : Bool := decide (wrap64 (o.p.size + o.h.size) ≤ 400)
def smallB (l : List LOp) : Bool := l.all smO && decide (l.length ≤ 90)
theorem smallB_no {l : List LOp} {k : Nat} (hk : k < l.length) (h : 400 < wrap64 (l[k].p.size + l[k].h.size)) : smallB l = false := by
  have : l.all smO = false := by
    rw [List.all_eq_false]
    exact ⟨l[k], List.getElem_mem hk, by simp [smO]; omega⟩
  simp [smallB, this]
theorem take_all {l : List LOp} {k : Nat} (hk : k < l.length) (h : (l.take k).all smO = true) (h2 : wrap64 (l[k].p.size + l[k].h.size) ≤ 400) : (l.take (k + 1)).all smO = true := by
  rw [List.take_succ_eq_append_getElem hk, List.all_append, h]
  simp [smO, h2]

set_option maxHeartbeats 400000 in
theorem small_some (b off c : Nat) (l : List LOp) (w : World) (hb : b < w.heap.size) (h : OpsAt b off l w) (hn : l.length ≤ 9223372036854775807) :
    Calls Tryd.prog 8 #[.slice (some ⟨b, off, none⟩) l.length c] w fun e w' => e = .returned (.bool (smallB l)) ∧ Below w.heap.size w w' := by
  go_enter Tryd.func8, Tryd.ntmps8
  go_wp2_with fail
  go_loopw [7] (fun i wr => ∃ k : Nat, k ≤ l.length ∧ i = .int .i64 k ∧ Below w.heap.size w wr ∧ Hid ((l.take k).all smO = true)) (fun i _ => l.length - (intOf i).toNat)
  case atStart => exact ⟨0, Nat.zero_le _, rfl, Below.refl _ _, rfl⟩
  case round =>
    obtain ⟨k, hk, rfl, hB, ha⟩ := hrel
    by_cases hlt : k < l.length
    · obtain ⟨h0, h1, h2, h3, h4⟩ := (h.below hB hb) k l[k] (List.getElem?_eq_getElem hlt)
      by_cases hc : wrap64 (l[k].p.size + l[k].h.size) ≤ 400
      · have hc' : wrap64 (l[k].p.size + l[k].h.size) ≤ 400 := hc
        go_wp2_with fail
        go_roundw
        case rel => exact ⟨k + 1, by omega, by go_num, hB.alloc hB.size _, take_all hlt ha.out hc⟩
        case measure => simp [intOf]; omega
      · have hc' : 400 < wrap64 (l[k].p.size + l[k].h.size) := by omega
        have HN := Lib.hid (smallB_no hlt hc')
        go_wp2_with fail
        go_ret
        exact ⟨ret_bool HN.out.symm, hB.alloc hB.size _⟩
    · have hge : l.length ≤ k := by omega
      clear hlt
      go_wp2_with fail
      go_ret
      refine ⟨ret_bool ?_, hB⟩
      have := ha.out
      rw [List.take_of_length_le (by omega)] at this
      rw [smallB, this, Bool.true_and, Bool.eq_iff_iff, decide_eq_true_eq, decide_eq_true_eq]
      omega
set_option maxHeartbeats 400000 in
theorem small_nil (A : Option Addr) (c : Nat) (w : World) :
    Calls Tryd.prog 8 #[.slice A 0 c] w fun e w' => e = .returned (.bool true) ∧ Below w.heap.size w w' := by
  go_enter Tryd.func8, Tryd.ntmps8
  go_wp2_with fail
  go_loopw [7] (fun i wr => i = .int .i64 0 ∧ wr = w) (fun _ _ => 0)
  case atStart => exact ⟨rfl, rfl⟩
  case round =>
    obtain ⟨rfl, rfl⟩ := hrel
    go_wp2_with fail
    go_ret
    exact ⟨rfl, Below.refl _ _⟩
theorem small_any (A : Option Addr) (c : Nat) (l : List LOp) (w : World) (h : OpsIn A l w) (hn : l.length ≤ 9223372036854775807) :
    Calls Tryd.prog 8 #[.slice A l.length c] w fun e w' => e = .returned (.bool (smallB l)) ∧ Below w.heap.size w w' := by
  rcases Nat.eq_zero_or_pos l.length with h0 | h0
  · have : l = [] := List.eq_nil_of_length_eq_zero h0
    subst this
    exact small_nil A c w
  · obtain ⟨b, off, rfl, h1, h2⟩ := h h0
    exact small_some b off c l w h1 h2 hn

def bob19 : ByteArray := ⟨#[98, 111, 98]⟩
def ax19 : ByteArray := ⟨#[47, 47, 97, 47, 120]⟩
def ann19 : ByteArray := ⟨#[97, 110, 110]⟩
def awT : Tab := ⟨0, [(ax19, ⟨ax19, ann19, 1, 0, 10⟩)]⟩
theorem aw_1 : acqT ⟨0, []⟩ ax19 ann19 10 = (awT, ⟨ax19, ann19, 1, 0, 10⟩, 0) := by
  have h1 : isPathB ax19 = true := by decide
  have h2 : isNameB ann19 = true := by decide
  have h3 : isTermB 10 = true := by decide
  simp [acqT, h1, h2, h3, lk, pt, awT]
theorem aw_2 : acqT awT ax19 bob19 1 = (awT, zeroL, 193) := by
  have h1 : isPathB ax19 = true := by decide
  have h2 : isNameB bob19 = true := by decide
  have h3 : isTermB 1 = true := by decide
  have h4 : hNow 0 0 10 = true := by decide
  simp [acqT, h1, h2, h3, lk, awT, ba_self, h4]

set_option maxHeartbeats 800000 in
theorem awake19_any (w : World) : Calls Tryd.prog 9 #[] w fun e w' => e = .returned (.bool true) ∧ Below w.heap.size w w' := by
  go_enter Tryd.func9, Tryd.ntmps9
  go_wp2_with fail
  refine (new_any _).mono ?_
  rintro e w1 ⟨rfl, hT, HB⟩
  go_wp2_with fail
  have hT0 : TabT (w.heap.size + 1) w.heap.size ⟨0, []⟩ w1 := hT
  refine (acq_post _ _ _ ax19 ann19 10 _ hT0 inv_new.ok).mono ?_
  rw [aw_1]
  rintro e w2 ⟨rfl, hT2, hO2⟩
  dsimp only [Lease.val]
  have o2 := HB.trans (hO2.below HB.size (by omega) (by omega))
  go_wp2_with fail
  have hT2' := TabAt.alloc hT2 (.cells #[.string ax19, .string ann19, .int .i64 1, .int .i64 0, .int .i64 10] 34)
  have k2 := (Box5.new w2 (.string ax19) (.string ann19) (.int .i64 1) (.int .i64 0) (.int .i64 10) 34).cell5
  have l1 := TabAt.lt hT2
  have l2 := (TabAt.mp hT2).lt
  have aok : TabOk awT := (inv_acq inv_new ax19 ann19 10 |> fun h => by rw [aw_1] at h; exact h.ok)
  refine (acq_post _ _ awT ax19 bob19 1 _ hT2' aok).mono ?_
  rw [aw_2]
  rintro e w3 ⟨rfl, hT3, hO3⟩
  dsimp only [Lease.val, zeroL]
  have k3 := k2.only hO3 (by omega) (by omega)
  have p2 := o2.alloc o2.size (.cells #[.string ax19, .string ann19, .int .i64 1, .int .i64 0, .int .i64 10] 34)
  have o3 := p2.trans (hO3.below p2.size (by omega) (by omega))
  (have k3' := k3; obtain ⟨d0, d1, d2, d3, d4, lt_k3, fz_k3⟩ := k3')
  go_wp2_with fail
  have hh : hldB 0 ann19 1 0 10 ann19 1 = true := by simp [hldB, hNow]
  have hlk : look (encL awT.m) ax19 = some (.agg #[.string ax19, .string ann19, .int .i64 1, .int .i64 0, .int .i64 10]) := by
    rw [look_enc]; simp [lk, awT, ba_self, Lease.val]
  refine (holds_some _ (TabAt.alloc hT3 _) hlk hh).mono ?_
  rintro e w4 ⟨rfl, HB4⟩
  go_wp2_with fail
  go_ret
  exact ⟨rfl, (o3.alloc o3.size _).trans (HB4.mono (by simp; have := o3.size; omega))⟩

end Go.Proofs.YtphoodnclmplhaaDoor
