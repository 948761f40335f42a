/-
  Reading frames back, in plain words.
-/
import Derived.Test.YthjbaafbkalomaaFold
namespace Go.Proofs.Ythjbaafbkalomaa
open Go.RowKit

theorem enc_read (v : Nat) (hv : v < 18446744073709551616) (r : List UInt8) : decU 0 0 (encU v ++ r) = (v, (encU v).length, 0) := by
  have := dec_enc v 0 0 r (by omega) (by simpa using hv) (by omega)
  simpa using this
theorem sumF_nat (r : List UInt8) : (((sumF r).toNat : Nat) : Int) = sumF r ∧ (sumF r).toNat < 18446744073709551616 := by
  have := sumF_bd r
  omega
theorem frame_read {L : List UInt8} {at_ : Nat} {r rest : List UInt8} (h : L.drop at_ = frameB r ++ rest) (hl : r.length ≤ 65536) :
    decU 0 0 (L.drop at_) = (r.length, (encU r.length).length, 0) ∧ decU 0 0 (L.drop (at_ + (encU r.length).length)) = ((sumF r).toNat, (encU (sumF r).toNat).length, 0) ∧
    (L.drop (at_ + (encU r.length).length + (encU (sumF r).toNat).length)).take r.length = r ∧ at_ + (encU r.length).length + (encU (sumF r).toNat).length + r.length + rest.length = L.length ∧ at_ < L.length := by
  have hs := (sumF_nat r).2
  have p := encU_pos r.length
  have h1 : L.drop at_ = encU r.length ++ (encU (sumF r).toNat ++ (r ++ rest)) := by rw [h, frameB]; simp
  have h2 : L.drop (at_ + (encU r.length).length) = encU (sumF r).toNat ++ (r ++ rest) := by
    rw [← List.drop_drop, h1, List.drop_left]
  have h3 : L.drop (at_ + (encU r.length).length + (encU (sumF r).toNat).length) = r ++ rest := by
    rw [← List.drop_drop, h2, List.drop_left]
  have hlen := congrArg List.length h1
  simp only [List.length_drop, List.length_append] at hlen
  refine ⟨?_, ?_, ?_, by omega, by omega⟩
  · rw [h1]; exact enc_read _ (by omega) _
  · rw [h2]; exact enc_read _ hs _
  · rw [h3, List.take_left]

/-- A frame of which the end lacks. -/
def Torn (t : List UInt8) : Prop := ∃ r : List UInt8, r.length ≤ 65536 ∧ t <+: frameB r ∧ t ≠ frameB r
theorem Torn.nil : Torn [] := ⟨[], by simp, List.nil_prefix, fun h => by
  have h1 := congrArg List.length h
  have h2 := encU_pos 0
  simp [frameB] at h1
  omega⟩
theorem prefix_split {a b t : List UInt8} (h : t <+: a ++ b) : (t <+: a ∧ t ≠ a) ∨ ∃ t2, t = a ++ t2 ∧ t2 <+: b := by
  rcases Nat.lt_or_ge t.length a.length with hl | hl
  · left
    refine ⟨List.prefix_of_prefix_length_le h (List.prefix_append a b) (by omega), fun e => ?_⟩
    rw [e] at hl; omega
  · right
    have h2 : a <+: t := List.prefix_of_prefix_length_le (List.prefix_append a b) h hl
    obtain ⟨t2, rfl⟩ := h2
    exact ⟨t2, rfl, (List.prefix_append_right_inj a).1 h⟩
theorem torn_read {t : List UInt8} (h : Torn t) : decU 0 0 t = (0, 0, 11) ∨ ∃ rl e1 : Nat, rl ≤ 65536 ∧ decU 0 0 t = (rl, e1, 0) ∧ e1 ≤ t.length ∧ (decU 0 0 (t.drop e1) = (0, 0, 11) ∨
    ∃ s e2 : Nat, s < 18446744073709551616 ∧ decU 0 0 (t.drop e1) = (s, e2, 0) ∧ e1 + e2 ≤ t.length ∧ t.length < e1 + e2 + rl) := by
  obtain ⟨r, hl, hp, hne⟩ := h
  have hs := (sumF_nat r).2
  have hf : frameB r = encU r.length ++ (encU (sumF r).toNat ++ r) := by simp [frameB]
  rw [hf] at hp hne
  rcases prefix_split hp with ⟨h1, h2⟩ | ⟨t2, rfl, h1⟩
  · left
    exact dec_short r.length 0 0 t (by omega) (by omega) h1 h2
  right
  refine ⟨r.length, (encU r.length).length, hl, enc_read _ (by omega) _, by simp, ?_⟩
  rw [List.drop_left]
  rcases prefix_split h1 with ⟨h1, h2⟩ | ⟨t3, rfl, h3⟩
  · left
    exact dec_short (sumF r).toNat 0 0 t2 (by omega) (by omega) h1 h2
  right
  refine ⟨(sumF r).toNat, (encU (sumF r).toNat).length, hs, enc_read _ hs _, by simp, ?_⟩
  have hle := h3.length_le
  have : t3.length ≠ r.length := fun e => by
    have := h3.eq_of_length e
    rw [this] at hne
    exact hne rfl
  simp only [List.length_append]
  omega
theorem torn_at {L t : List UInt8} {at_ : Nat} (h : L.drop at_ = t) (ht : Torn t) (hlt : at_ ≤ L.length) : L.length = at_ + t.length ∧ (decU 0 0 (L.drop at_) = (0, 0, 11) ∨ ∃ rl e1 : Nat, rl ≤ 65536 ∧ decU 0 0 (L.drop at_) = (rl, e1, 0) ∧ at_ + e1 ≤ L.length ∧ (decU 0 0 (L.drop (at_ + e1)) = (0, 0, 11) ∨
    ∃ s e2 : Nat, s < 18446744073709551616 ∧ decU 0 0 (L.drop (at_ + e1)) = (s, e2, 0) ∧ at_ + e1 + e2 ≤ L.length ∧ L.length < at_ + e1 + e2 + rl)) := by
  have hlen := congrArg List.length h
  rw [List.length_drop] at hlen
  refine ⟨by omega, ?_⟩
  rcases torn_read ht with h1 | ⟨rl, e1, a1, a2, a3, a4⟩
  · left; rw [h]; exact h1
  right
  refine ⟨rl, e1, a1, by rw [h]; exact a2, by omega, ?_⟩
  rw [← List.drop_drop, h]
  rcases a4 with a4 | ⟨s, e2, b1, b2, b3, b4⟩
  · exact .inl a4
  · exact .inr ⟨s, e2, b1, b2, by omega, by omega⟩

/-- The bytes of a journal's file, as they are read: frame after frame. -/
theorem file_drop (st : Nat) (rs : List (List UInt8)) (t : List UInt8) (k : Nat) (hk : k < rs.length) : (fileB st rs ++ t).drop (fileB st (rs.take k)).length = frameB rs[k] ++ (framesB (rs.drop (k + 1)) ++ t) := by
  have h1 : rs = rs.take k ++ rs[k] :: rs.drop (k + 1) := by
    rw [List.getElem_cons_drop, List.take_append_drop]
  have h2 : fileB st rs = fileB st (rs.take k) ++ (frameB rs[k] ++ framesB (rs.drop (k + 1))) := by
    conv => lhs; rw [h1]
    unfold fileB
    rw [framesB_append]
    simp only [framesB, List.append_assoc]
  rw [h2, List.append_assoc, List.drop_left, List.append_assoc]
theorem file_end (st : Nat) (rs : List (List UInt8)) (t : List UInt8) : (fileB st rs ++ t).drop (fileB st rs).length = t := List.drop_left ..
theorem file_next (st : Nat) (rs : List (List UInt8)) (k : Nat) (hk : k < rs.length) : (fileB st (rs.take (k + 1))).length = (fileB st (rs.take k)).length + (encU rs[k].length).length + (encU (sumF rs[k]).toNat).length + rs[k].length := by
  rw [fileB_snoc st hk, List.length_append, frameB]
  simp only [List.length_append]
  omega
theorem file_start (st : Nat) (hst : st < 18446744073709551616) (rs : List (List UInt8)) (t : List UInt8) : decU 0 0 ((fileB st rs ++ t).drop 4) = (st, (encU st).length, 0) ∧ 4 + (encU st).length = (fileB st (rs.take 0)).length ∧ 4 ≤ (fileB st rs ++ t).length ∧ (fileB st rs ++ t).take 4 = [83, 89, 74, 76] := by
  refine ⟨?_, ?_, ?_, ?_⟩
  · have : (fileB st rs ++ t).drop 4 = encU st ++ (framesB rs ++ t) := by simp [fileB]
    rw [this]
    exact enc_read st hst _
  · simp [fileB, framesB]; omega
  · simp [fileB]
  · simp [fileB]

end Go.Proofs.Ythjbaafbkalomaa
