/-
  The reference's Path and Usable.
-/
import Derived.Test.YthonhikkoabhlaaGreatDoorRef02
namespace Go.Proofs.YthonhikkoabhlaaGreatDoor
open Go.RowKit

theorem valid_parts (p : ByteArray) : validB p.data.toList = (([47, 47] : List UInt8).isPrefixOf p.data.toList && (partsB p).all (fun s => compB s.data.toList) && decide (2 ≤ (partsB p).length)) := by
  cases h : ([47, 47] : List UInt8).isPrefixOf p.data.toList
  · rw [validB_no _ h]; rfl
  · obtain ⟨t, ht⟩ := List.isPrefixOf_iff_prefix.1 h
    have hl : (partsB p).length = (splitA (p.data.toList.drop 2)).length := by rw [← partsB_data, List.length_map]
    rw [← all_parts, hl, ← ht]
    show validB (47 :: 47 :: t) = _
    rw [validB_split]
    simp

set_option maxHeartbeats 400000 in
theorem rpath_no (p : ByteArray) (w : World) (hs : p.size < 4294967281) (hg : G0 w) (h : validB p.data.toList = false) :
    Calls Tryz.prog 49 #[.string p] w fun e w' => e = .returned (.tuple #[.slice none 0 0, .bool false]) ∧ Below w.heap.size w w' := by
  rw [valid_parts] at h
  have key : ∀ (h1 : ∀ W, W = w → Calls Tryz.prog 65 #[.string p] W fun e w' => e = .returned (.tuple #[.slice none 0 0, .bool false]) ∧ Below w.heap.size w w'), Calls Tryz.prog 49 #[.string p] w fun e w' => e = .returned (.tuple #[.slice none 0 0, .bool false]) ∧ Below w.heap.size w w' := by
    intro h1
    have H := Lib.hid h1
    clear h1 h
    go_enter Tryz.func49, Tryz.ntmps49
    go_wp2_with fail
    refine (H.out _ rfl).mono ?_
    rintro e w1 ⟨rfl, HB⟩
    go_wp2_with fail
    go_ret2
    exact ⟨rfl, HB⟩
  cases h1 : ([47, 47] : List UInt8).isPrefixOf p.data.toList
  · exact key fun W hW => by subst hW; exact parts_pre p W hs h1
  · cases h2 : (partsB p).all (fun s => compB s.data.toList)
    · exact key fun W hW => by subst hW; exact parts_no p W hs hg h1 h2
    · rw [h1, h2] at h
      have h3 : (partsB p).length < 2 := by simpa using h
      have H := Lib.hid (parts_yes p w hs hg h1 h2)
      clear h h1 h2 key
      go_enter Tryz.func49, Tryz.ntmps49
      go_wp2_with fail
      refine H.out.mono ?_
      rintro e w1 ⟨rfl, hq, _, HB⟩
      clear hq H
      generalize (partsB p).length = n at h3 ⊢
      have h4 : decide ((n : Int) < 2) = true := by simp; omega
      go_wp2_with fail
      go_ret2
      exact ⟨rfl, HB⟩
set_option maxHeartbeats 400000 in
theorem rpath_yes (p : ByteArray) (w : World) (hs : p.size < 4294967281) (hg : G0 w) (h : validB p.data.toList = true) :
    Calls Tryz.prog 49 #[.string p] w (PartsYes p w) := by
  rw [valid_parts] at h
  simp only [Bool.and_eq_true, decide_eq_true_eq] at h
  obtain ⟨⟨h1, h2⟩, h3⟩ := h
  go_enter Tryz.func49, Tryz.ntmps49
  go_wp2_with fail
  refine (parts_yes p w hs hg h1 h2).mono ?_
  rintro e w1 ⟨rfl, hst, hlt, HB⟩
  go_wp2_with fail
  go_ret2
  exact ⟨rfl, hst, hlt, HB⟩

def useB (p : ByteArray) : Bool := decide (p.size ≤ 200) && validB p.data.toList

end Go.Proofs.YthonhikkoabhlaaGreatDoor
