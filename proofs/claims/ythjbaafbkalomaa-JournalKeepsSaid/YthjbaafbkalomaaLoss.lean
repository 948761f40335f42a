/-
  A Commit while a fuse burns, and what a loss of power leaves of it, in plain words.
-/
import Derived.Test.YthjbaafbkalomaaLose
import Derived.Test.YthjbaafbkalomaaRec
namespace Go.Proofs.Ythjbaafbkalomaa
open Go.RowKit

theorem frames_prefix : ∀ (rs : List (List UInt8)) (p : List UInt8), p <+: framesB rs → (∀ r ∈ rs, r.length ≤ 65536) → ∃ (k : Nat) (t : List UInt8), k ≤ rs.length ∧ p = framesB (rs.take k) ++ t ∧ Torn t
  | [], p, h, _ => by
    have : p = [] := List.eq_nil_of_prefix_nil h
    exact ⟨0, [], Nat.le_refl _, by rw [this]; rfl, Torn.nil⟩
  | r :: rs, p, h, hl => by
    rcases prefix_split (a := frameB r) (b := framesB rs) h with ⟨h1, h2⟩ | ⟨p2, rfl, h2⟩
    · exact ⟨0, p, Nat.zero_le _, by simp [framesB], r, hl r (List.mem_cons_self ..), h1, h2⟩
    · obtain ⟨k, t, hk, e, ht⟩ := frames_prefix rs p2 h2 (fun q hq => hl q (List.mem_cons_of_mem _ hq))
      refine ⟨k + 1, t, by simpa using hk, ?_, ht⟩
      rw [e, List.take_succ_cons, framesB, List.append_assoc]

theorem DevAt.len {g : Gh} {w : World} {d : Nat} {D : Dev} (h : DevAt g w d D) : ∀ k l, D.now.m k = some l → l.length ≤ 8388608 := by
  obtain ⟨km, nm, A, cap, xs, _, hi⟩ := h
  obtain ⟨L, h1, h2, h3, h4, _⟩ := hi.now.ex
  intro k l hk
  cases hl : look L k with
  | none => rw [h3 k hl] at hk; cases hk
  | some v =>
    obtain ⟨l', A, cap, e1, _, e3, _⟩ := h4 k v hl
    rw [e1] at hk
    injection hk with hk
    rw [← hk]; exact e3

/-- The operation that Commit makes of the pending records. -/
noncomputable def comOp (J : Jrn) : POp := ⟨1, J.file, ⟨#[]⟩, framesB J.pend, true⟩
section
variable {J : Jrn} {D : Dev} {c m : Nat}

theorem Good.fused (h : Good J D c m) (hm : m ≤ 4611686018427387904) (hw : J.whole = true) (hp : J.pend ≠ []) (F : Int) (hF : 1 ≤ F) (j d : Nat) : carryPre (comS J j d) { D with fuse := F } ∧
    ((comI J j d { D with fuse := F } = 303 ∧ comD J j d { D with fuse := F } = { D with down := true, fuse := 0 }) ∨
     (comI J j d { D with fuse := F } = 303 ∧ comD J j d { D with fuse := F } = { D with now := D.now.run (comOp J), pend := [comOp J], down := true, fuse := 0 }) ∨
     (comI J j d { D with fuse := F } = 0 ∧ comD J j d { D with fuse := F } = { D with kept := D.now.run (comOp J), now := D.now.run (comOp J), pend := [], fuse := F - 2 })) := by
  have hst := h.st1
  have hcn := h.cnt
  have hbx := h.bx
  have hst0 := h.st0
  have e1 := h.wh hw
  have hl1 := fileB_len J.start.toNat (by omega) J.recs (fun r hr => h.rl r (List.mem_append_left _ hr))
  have hl2 := framesB_len J.pend (fun r hr => h.rl r (List.mem_append_right _ hr))
  have hpl : D.pend = [] := h.pl
  have hdn := h.up.dn
  have hp' : ¬ J.pend.length = 0 := fun e => hp (List.eq_nil_of_length_eq_zero e)
  have hS : comS J j d = [sExt J j, sSync d] := by unfold comS; rw [if_pos hw]
  have hI : comI J j d { D with fuse := F } = carryI [sExt J j, sSync d] { D with fuse := F } := by unfold comI; rw [h.dead, if_neg hp', hS]; rfl
  have hDD : comD J j d { D with fuse := F } = carryD [sExt J j, sSync d] { D with fuse := F } := by unfold comD; rw [h.dead, if_neg hp', hS]; rfl
  rw [hI, hDD, hS]
  have hF0 : ¬ F = 0 := by omega
  by_cases h1 : F = 1
  · have a1 : (sExt J j).i { D with fuse := F } = 303 := by
      show actI _ = 303
      simp [actI, hdn, doI, burnB, h1]
    have a2 : (sExt J j).act { D with fuse := F } = { D with down := true, fuse := 0 } := by
      show actD _ _ = _
      simp [actD, hdn, doD, burnB, burnD, h1]
    refine ⟨⟨⟨_, e1, by omega, by simp [hpl]⟩, fun h => by rw [a1] at h; cases h⟩, .inl ⟨?_, ?_⟩⟩
    · simp [carryI, a1]
    · simp [carryD, a1, a2]
  · have a1 : (sExt J j).i { D with fuse := F } = 0 := by
      show actI _ = 0
      simp [actI, hdn, doI, burnB, h1]
    have a2 : (sExt J j).act { D with fuse := F } = { D with now := D.now.run (comOp J), pend := [comOp J], down := false, fuse := F - 1 } := by
      show actD _ _ = _
      simp [actD, hdn, doD, burnB, burnD, h1, hF0, hpl, comOp]
    refine ⟨⟨⟨_, e1, by omega, by simp [hpl]⟩, fun _ => ⟨by rw [a2]; simp [sSync], fun _ => trivial⟩⟩, ?_⟩
    by_cases h2 : F = 2
    · have a3 : (sSync d).i { D with now := D.now.run (comOp J), pend := [comOp J], down := false, fuse := F - 1 } = 303 := by
        simp [sSync, syncI, burnB, h2]
      have a4 : (sSync d).act { D with now := D.now.run (comOp J), pend := [comOp J], down := false, fuse := F - 1 } = { D with now := D.now.run (comOp J), pend := [comOp J], down := true, fuse := 0 } := by
        simp [sSync, syncD, burnB, burnD, h2]
      refine .inr (.inl ⟨?_, ?_⟩)
      · simp [carryI, a1, a2, a3]
      · simp [carryD, a1, a2, a3, a4]
    · have hb1 : ¬ F - 1 = 1 := by omega
      have hb2 : ¬ F - 1 = 0 := by omega
      have a3 : (sSync d).i { D with now := D.now.run (comOp J), pend := [comOp J], down := false, fuse := F - 1 } = 0 := by
        simp [sSync, syncI, burnB, hb1]
      have a4 : (sSync d).act { D with now := D.now.run (comOp J), pend := [comOp J], down := false, fuse := F - 1 } = { D with kept := D.now.run (comOp J), now := D.now.run (comOp J), pend := [], down := false, fuse := F - 1 - 1 } := by
        simp [sSync, syncD, burnB, burnD, hb1, hb2]
      refine .inr (.inr ⟨?_, ?_⟩)
      · simp [carryI, a1, a2, a3]
      · have : F - 1 - 1 = F - 2 := by omega
        simp only [carryD]
        rw [if_pos a1, a2, if_pos a3, a4, this, hdn]

/-- What is there once the power has failed. -/
structure Lost (J : Jrn) (E : Dev) (k : Nat) (t : List UInt8) : Prop where
  le : k ≤ J.pend.length
  torn : Torn t
  file : E.now.m J.file = some (fileB J.start.toNat (J.recs ++ J.pend.take k) ++ t)
  pl : E.pend.length = 0
  dn : E.down = true
  fu : E.fuse = 0
theorem Good.lost (h : Good J D c m) (hm : m ≤ 4611686018427387904) (hc : c ≤ 200) (hw : J.whole = true) (hp : J.pend ≠ []) (F : Int) (hF : 1 ≤ F) (j d : Nat) (kp tn : Int) (hkp : 0 ≤ kp) (hlen : ∀ q l, D.now.m q = some l → l.length ≤ 8388608) :
    (comI J j d { D with fuse := F } = 0 ∨ comI J j d { D with fuse := F } = 303) ∧ Fit (comD J j d { D with fuse := F }) ∧ ∃ k t, Lost J (lossD (downD (comD J j d { D with fuse := F })) kp tn) k t ∧ (comI J j d { D with fuse := F } = 0 → k = J.pend.length) := by
  have hst := h.st1
  have hcn := h.cnt
  have hbx := h.bx
  have hst0 := h.st0
  have e1 := h.wh hw
  have hrl : ∀ r ∈ J.pend, r.length ≤ 65536 := fun r hr => h.rl r (List.mem_append_right _ hr)
  have hl1 := fileB_len J.start.toNat (by omega) J.recs (fun r hr => h.rl r (List.mem_append_left _ hr))
  have hl2 := framesB_len J.pend hrl
  have hg : D.now.get J.file = fileB J.start.toNat J.recs := by simp [Fl.get, e1]
  have hN : D.now.run (comOp J) = D.now.put J.file (fileB J.start.toNat J.recs ++ framesB J.pend) := by simp [Fl.run, comOp, hg]
  have happ : ∀ k, fileB J.start.toNat (J.recs ++ J.pend.take k) = fileB J.start.toNat J.recs ++ framesB (J.pend.take k) := fun k => by unfold fileB; rw [framesB_append, ← List.append_assoc]
  have hcf : cntF D.now J.file ≤ 1 := by unfold cntF; split <;> omega
  have hnn := h.nn
  have hfull : (D.now.run (comOp J)).m J.file = some (fileB J.start.toNat (J.recs ++ J.pend.take J.pend.length) ++ []) := by rw [hN, happ, List.take_length]; simp [Fl.put]
  have hzero : D.now.m J.file = some (fileB J.start.toNat (J.recs ++ J.pend.take 0) ++ []) := by rw [e1]; simp
  have hlenN : ∀ q l, (D.now.run (comOp J)).m q = some l → l.length ≤ 8388608 := by
    intro q l hq
    rw [hN] at hq
    simp only [Fl.put] at hq
    split at hq
    · injection hq with hq
      rw [← hq, List.length_append]; omega
    · exact hlen q l hq
  have hnN : (D.now.run (comOp J)).n ≤ 1000000 := by
    rw [hN]
    simp [Fl.put, e1]; omega
  obtain ⟨_, ⟨hi, hd⟩ | ⟨hi, hd⟩ | ⟨hi, hd⟩⟩ := h.fused hm hw hp F hF j d
  · rw [hi, hd]
    refine ⟨.inr rfl, ⟨by simp [h.pl], fun k hk => by simp [h.pl] at hk, by rw [h.kp]; exact hlen, by rw [h.kp]; omega⟩, 0, [], ?_, fun h => by cases h⟩
    have e : lossD (downD { D with down := true, fuse := 0 }) kp tn = { D with down := true, fuse := 0 } := by unfold lossD; rw [if_pos (by simp [downD, h.pl])]; rfl
    rw [e]
    exact ⟨Nat.zero_le _, Torn.nil, hzero, by simp [h.pl], rfl, rfl⟩
  · rw [hi, hd]
    refine ⟨.inr rfl, ⟨by simp, fun k hk => ?_, by rw [h.kp]; exact hlen, by rw [h.kp]; omega⟩, ?_⟩
    · obtain rfl : k = 0 := by simp at hk; omega
      refine ⟨fun h => by simp [comOp] at h, fun _ => ?_⟩
      show ((runs D.kept []).get J.file ++ framesB J.pend).length ≤ _
      simp only [runs, List.foldl_nil, h.kp, hg, List.length_append]
      omega
    · have e : lossD (downD { D with now := D.now.run (comOp J), pend := [comOp J], down := true, fuse := 0 }) kp tn = { D with kept := lossF D.kept [comOp J] kp tn, now := lossF D.kept [comOp J] kp tn, pend := [], down := true, fuse := 0 } := by unfold lossD; rw [if_neg (by simp [downD])]; rfl
      rw [e]
      have key : ∃ k t, k ≤ J.pend.length ∧ Torn t ∧ (lossF D.kept [comOp J] kp tn).m J.file = some (fileB J.start.toNat (J.recs ++ J.pend.take k) ++ t) := by
        unfold lossF
        rw [if_neg (by omega), h.kp]
        by_cases hk : kp.toNat = 0
        · rw [hk]
          simp only [List.getElem?_cons_zero, List.take_zero, runs, List.foldl_nil]
          split
          · obtain ⟨k, t, q1, q2, q3⟩ := frames_prefix J.pend ((framesB J.pend).take tn.toNat) (List.take_prefix ..) hrl
            refine ⟨k, t, q1, q3, ?_⟩
            have : D.now.run (tornOp (comOp J) tn) = D.now.put J.file (fileB J.start.toNat J.recs ++ (framesB J.pend).take tn.toNat) := by simp [Fl.run, tornOp, comOp, hg]
            rw [this, happ, q2]
            simp [Fl.put]
          · exact ⟨0, [], Nat.zero_le _, Torn.nil, hzero⟩
        · have : [comOp J][kp.toNat]? = none := List.getElem?_eq_none (by simp; omega)
          rw [this]
          exact ⟨J.pend.length, [], Nat.le_refl _, Torn.nil, hfull⟩
      obtain ⟨k, t, q1, q2, q3⟩ := key
      exact ⟨k, t, ⟨q1, q2, q3, rfl, rfl, rfl⟩, fun h => by cases h⟩
  · rw [hi, hd]
    refine ⟨.inl rfl, ⟨by simp, fun k hk => by simp at hk, hlenN, hnN⟩, J.pend.length, [], ?_, fun _ => rfl⟩
    have e : lossD (downD { D with kept := D.now.run (comOp J), now := D.now.run (comOp J), pend := [], fuse := F - 2 }) kp tn = { D with kept := D.now.run (comOp J), now := D.now.run (comOp J), pend := [], down := true, fuse := 0 } := by unfold lossD; rw [if_pos (by simp [downD])]; rfl
    rw [e]
    exact ⟨Nat.le_refl _, Torn.nil, hfull, rfl, rfl, rfl⟩
end

end Go.Proofs.Ythjbaafbkalomaa
