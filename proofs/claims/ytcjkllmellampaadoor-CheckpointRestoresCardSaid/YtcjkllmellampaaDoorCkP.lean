/-
  The bytes of a checkpoint's slot, and which of two slots is the newer one, in plain words.
-/
import Derived.Test.YtcjkllmellampaaDoorSum
import Derived.Test.YtcjkllmellampaaDoorCodec
import Derived.Test.YtcjkllmellampaaDoorNames
namespace Go.Proofs.YtcjkllmellampaaDoor
open Go.RowKit

/-- A checkpoint: the number of its Save, its position, its state. -/
structure Ck where
  seq : Nat
  pos : Nat
  st : List UInt8
def ckMark : List UInt8 := [83, 89, 67, 80]
def ckBody (c : Ck) : List UInt8 := (((ckMark ++ encU c.seq) ++ encU c.pos) ++ encU c.st.length) ++ c.st
noncomputable def encC (c : Ck) : List UInt8 := ckBody c ++ encU (sumF (ckBody c)).toNat

theorem dec_pre {v : Nat} (hv : v < 18446744073709551616) {p r : List UInt8} (h : p <+: encU v ++ r) :
    (decU 0 0 p = (v, (encU v).length, 0) ∧ (encU v).length ≤ p.length ∧ p.drop (encU v).length <+: r) ∨ (decU 0 0 p = (0, 0, 11) ∧ p.length < (encU v).length) := by
  by_cases hl : p.length < (encU v).length
  · right
    refine ⟨?_, hl⟩
    have h1 : p <+: encU v := List.prefix_of_prefix_length_le h (List.prefix_append _ _) (by omega)
    exact dec_short v 0 0 p (by omega) (by omega) h1 (fun e => by rw [e] at hl; omega)
  · left
    have h1 : encU v <+: p := List.prefix_of_prefix_length_le (List.prefix_append _ _) h (by omega)
    obtain ⟨s, rfl⟩ := h1
    refine ⟨?_, by omega, ?_⟩
    · have := dec_enc v 0 0 s (by omega) (by omega) (by omega)
      simpa using this
    · rw [List.drop_left]
      exact (List.prefix_append_right_inj _).1 h

structure CkOk (c : Ck) : Prop where
  s : c.seq < 1000000000
  p : c.pos < 1000000000
  l : c.st.length ≤ 2097152
/-- The parts of a slot's bytes from the first number on. -/
noncomputable def ckR2 (c : Ck) : List UInt8 := c.st ++ encU (sumF (ckBody c)).toNat
noncomputable def ckR1 (c : Ck) : List UInt8 := encU c.st.length ++ ckR2 c
noncomputable def ckR0 (c : Ck) : List UInt8 := encU c.pos ++ ckR1 c
theorem encC_split (c : Ck) : encC c = ckMark ++ (encU c.seq ++ ckR0 c) := by simp [encC, ckBody, ckR0, ckR1, ckR2, List.append_assoc]
def ckOff (c : Ck) : Nat → Nat
  | 0 => 4
  | 1 => 4 + (encU c.seq).length
  | 2 => 4 + (encU c.seq).length + (encU c.pos).length
  | _ => 4 + (encU c.seq).length + (encU c.pos).length + (encU c.st.length).length
def ckNum (c : Ck) : Nat → Nat
  | 0 => c.seq
  | 1 => c.pos
  | _ => c.st.length
theorem encU_len10 {v : Nat} (h : v < 18446744073709551616) : (encU v).length ≤ 10 := encU_len v 10 (by omega) (by omega)
theorem sumF_lt (l : List UInt8) : (sumF l).toNat < 18446744073709551616 := by have := sumF_bd l; omega
theorem ckBody_len (c : Ck) : (ckBody c).length = ckOff c 3 + c.st.length := by simp [ckBody, ckMark, ckOff]; omega
theorem encC_len {c : Ck} (h : CkOk c) : (encC c).length ≤ 2097152 + 44 := by
  have h1 := ckBody_len c
  have h2 := encU_len10 (v := c.seq) (by have := h.s; omega)
  have h3 := encU_len10 (v := c.pos) (by have := h.p; omega)
  have h4 := encU_len10 (v := c.st.length) (by have := h.l; omega)
  have h5 := encU_len10 (sumF_lt (ckBody c))
  have h6 := h.l
  simp only [encC, List.length_append, h1, ckOff]
  omega

/-- What decode sees, number by number, of bytes that are a beginning of a slot's. -/
theorem ck_num {c : Ck} (h : CkOk c) {l : List UInt8} (hp : l <+: encC c) {k : Nat} (hk : k < 3) (hl : ckOff c k ≤ l.length) (hr : l.drop (ckOff c k) <+: (match k with | 0 => encU c.seq ++ ckR0 c | 1 => ckR0 c | _ => ckR1 c)) :
    (decU 0 0 (l.drop (ckOff c k)) = (ckNum c k, ckOff c (k + 1) - ckOff c k, 0) ∧ ckOff c (k + 1) ≤ l.length ∧ l.drop (ckOff c (k + 1)) <+: (match k with | 0 => ckR0 c | 1 => ckR1 c | _ => ckR2 c)) ∨
    (decU 0 0 (l.drop (ckOff c k)) = (0, 0, 11) ∧ l ≠ encC c) := by
  have hne : ∀ v r, (encC c).drop (ckOff c k) = encU v ++ r → (l.drop (ckOff c k)).length < (encU v).length → l ≠ encC c := fun v r e hlt e' => by
    rw [e', e, List.length_append] at hlt
    omega
  have hd : ∀ n, l.drop (ckOff c k + n) = (l.drop (ckOff c k)).drop n := fun n => by rw [List.drop_drop]
  have o0 : ckOff c 0 = 4 := rfl
  have o1 : ckOff c 1 = 4 + (encU c.seq).length := rfl
  have o2 : ckOff c 2 = 4 + (encU c.seq).length + (encU c.pos).length := rfl
  have o3 : ckOff c 3 = 4 + (encU c.seq).length + (encU c.pos).length + (encU c.st.length).length := rfl
  rcases k with _ | _ | _ | k
  · rcases dec_pre (by have := h.s; omega) hr with ⟨a, b, d⟩ | ⟨a, b⟩
    · left
      refine ⟨?_, ?_, ?_⟩
      · rw [a]; simp [ckNum, ckOff]
      · change ckOff c 1 ≤ l.length
        change ckOff c 0 ≤ l.length at hl
        rw [List.length_drop] at b
        change _ ≤ l.length - ckOff c 0 at b
        omega
      · have := hd (encU c.seq).length
        simp only [ckOff] at *
        rw [this]; exact d
    · exact .inr ⟨a, hne _ (ckR0 c) (by rw [encC_split]; simp [ckOff, ckMark]) b⟩
  · rcases dec_pre (by have := h.p; omega) hr with ⟨a, b, d⟩ | ⟨a, b⟩
    · left
      refine ⟨?_, ?_, ?_⟩
      · rw [a]; simp [ckNum, ckOff]
      · change ckOff c 2 ≤ l.length
        change ckOff c 1 ≤ l.length at hl
        rw [List.length_drop] at b
        change _ ≤ l.length - ckOff c 1 at b
        omega
      · have := hd (encU c.pos).length
        simp only [ckOff] at *
        rw [this]; exact d
    · refine .inr ⟨a, hne _ (ckR1 c) ?_ b⟩
      rw [encC_split, ← List.append_assoc, List.drop_append_of_le_length (by simp [ckOff, ckMark]; omega)]
      rw [List.drop_of_length_le (by simp [ckOff, ckMark]; omega)]
      rfl
  · rcases dec_pre (by have := h.l; omega) hr with ⟨a, b, d⟩ | ⟨a, b⟩
    · left
      refine ⟨?_, ?_, ?_⟩
      · rw [a]; simp [ckNum, ckOff]
      · change ckOff c 3 ≤ l.length
        change ckOff c 2 ≤ l.length at hl
        rw [List.length_drop] at b
        change _ ≤ l.length - ckOff c 2 at b
        omega
      · have := hd (encU c.st.length).length
        simp only [ckOff] at *
        rw [this]; exact d
    · refine .inr ⟨a, hne _ (ckR2 c) ?_ b⟩
      rw [encC_split, ckR0, ← List.append_assoc, ← List.append_assoc, List.drop_append_of_le_length (by simp [ckOff, ckMark]; omega)]
      rw [List.drop_of_length_le (by simp [ckOff, ckMark]; omega)]
      rfl
  · omega

/-- The newer of two slots, and the number of the other one. -/
def seqO : Option Ck → Nat
  | none => 0
  | some c => c.seq
def newS (s0 s1 : Option Ck) : Option Ck × Nat := if s1.isNone = true ∨ seqO s1 < seqO s0 then (s0, 1) else (s1, 0)
theorem newS_new0 {s0 s1 : Option Ck} (h : (newS s0 s1).2 = 0) {c : Ck} (hc : c.seq = seqO (newS s0 s1).1 + 1) : newS (some c) s1 = (some c, 1) := by
  unfold newS at h hc
  split at h
  · cases h
  · rename_i hn
    rw [if_neg hn] at hc
    unfold newS
    rw [if_pos]
    right
    simp only [seqO] at *
    omega
theorem newS_new1 {s0 s1 : Option Ck} (h : (newS s0 s1).2 = 1) {c : Ck} (hc : c.seq = seqO (newS s0 s1).1 + 1) : newS s0 (some c) = (some c, 0) := by
  unfold newS at h hc
  split at h
  · rename_i hn
    rw [if_pos hn] at hc
    unfold newS
    rw [if_neg]
    simp only [seqO] at *
    simp
    omega
  · cases h
theorem newS_torn0 {s0 s1 : Option Ck} (h : (newS s0 s1).2 = 0) : newS none s1 = newS s0 s1 := by
  unfold newS at h ⊢
  split at h
  · cases h
  · rename_i hn
    rw [if_neg hn, if_neg]
    exact fun h' => hn (h'.imp id (fun h' => absurd h' (Nat.not_lt_zero _)))
theorem newS_torn1 {s0 s1 : Option Ck} (h : (newS s0 s1).2 = 1) : newS s0 none = newS s0 s1 := by
  unfold newS at h ⊢
  split at h
  · rename_i hn
    rw [if_pos hn, if_pos (by simp)]
  · cases h
theorem newS_lt (s0 s1 : Option Ck) : (newS s0 s1).2 < 2 := by unfold newS; split <;> simp

end Go.Proofs.YtcjkllmellampaaDoor
