/-
  Tables that calls make: no path twice, at most 64 leases (plain).
-/
import Derived.Test.YtphoodnclmplhaaDoorRfP
namespace Go.Proofs.YtphoodnclmplhaaDoor
open Go.RowKit

structure PT (T : Tab) : Prop where
  once : (T.m.map (·.1)).Nodup
  len : T.m.length ≤ 64
theorem pt_len (m : List (ByteArray × Lease)) (p : ByteArray) (l : Lease) : (pt m p l).length = if (lk m p).isSome = true then m.length else m.length + 1 := by
  unfold lk
  induction m with
  | nil => simp [pt]
  | cons y r ih =>
    unfold pt
    rw [List.find?_cons]
    cases h : (p == y.1)
    · simp only [Bool.false_eq_true, if_false]
      rw [List.length_cons, ih]
      split <;> simp
    · simp
theorem PT.set {T : Tab} (h : PT T) {p : ByteArray} {l y : Lease} {c : Int} (hl : lk T.m p = some y) : PT ⟨c, pt T.m p l⟩ :=
  ⟨keys_pt h.once, by
    show (pt T.m p l).length ≤ 64
    rw [pt_len, hl]
    exact h.len⟩
theorem PT.add {T : Tab} (h : PT T) {p : ByteArray} {l : Lease} {c : Int} (hl : T.m.length < 64) : PT ⟨c, pt T.m p l⟩ :=
  ⟨keys_pt h.once, by
    show (pt T.m p l).length ≤ 64
    rw [pt_len]
    have := h.len
    split <;> omega⟩
theorem pt_acq {T : Tab} (h : PT T) (p hd : ByteArray) (n : Int) : PT (acqT T p hd n).1 := by
  unfold acqT
  split
  · exact h
  split
  · exact h
  split
  · exact h
  split
  · split
    · exact h
    · exact h.add (by omega)
  · rename_i l hl
    split
    · exact h
    split
    · exact h
    · exact h.set hl
theorem pt_ren {T : Tab} (h : PT T) (p hd : ByteArray) (f n : Int) : PT (renT T p hd f n).1 := by
  unfold renT
  split
  · exact h
  split
  · exact h
  · rename_i l hl
    split
    · exact h.set hl
    · exact h
theorem pt_do {k : Nat} {T : Tab} (h : PT T) (hi : TabInv k T) (o : LOp) : PT (doT T o).1 := by
  have he : ∀ {p : ByteArray} {l : Lease}, lk T.m p = some l → PT (endT T l) := fun {p l} hl => by
    have e : l.path = p := (hi.found hl).path
    unfold endT
    rw [e]
    exact h.set hl
  unfold doT
  split
  · exact pt_acq h _ _ _
  split
  · exact pt_ren h _ _ _ _
  split
  · dsimp only
    unfold relT
    split
    · exact h
    · rename_i l hl
      split
      · exact he hl
      · exact h
  split
  · dsimp only
    unfold brkT
    split
    · exact h
    · rename_i l hl
      split
      · exact he hl
      · exact h
  · dsimp only
    unfold advT
    split
    · exact h
    · exact ⟨h.once, h.len⟩
theorem pt_run {k : Nat} {T : Tab} (h : PT T) (hi : TabInv k T) (l : List LOp) : PT (runT T l) := by
  induction l generalizing k T with
  | nil => exact h
  | cons o l ih => exact ih (pt_do h hi o) (inv_do hi o)
theorem pt_new : PT ⟨0, []⟩ := ⟨by simp, by simp⟩

end Go.Proofs.YtphoodnclmplhaaDoor
