/-
  A journal through failures of power, in plain words: what Append, Commit and Cut leave, and what is there when the power is back (for JournalKeeps).
-/
import Derived.Test.YthjbaafbkalomaaKeep
namespace Go.Proofs.Ythjbaafbkalomaa
open Go.RowKit

/-- The journal opens as J. -/
def OpensJ (d : Nat) (D : Dev) (J : Jrn) : Prop := ∀ g w, DevAt g w d D → Calls Try.prog 5 #[.pointer (some ⟨d, 0, none⟩), .string ⟨#[106]⟩] w fun e w' => ∃ j g', e = .returned (.tuple #[.pointer (some ⟨j, 0, none⟩), .int .i64 0]) ∧ w.heap.size ≤ j ∧ Ext (fun o => o = j) g w g' w' ∧ JAt g' w' j d J

structure Jst (J : Jrn) (D : Dev) (m : Nat) : Prop where
  snd : Sound J D 0 m
  nj : J.name = ⟨#[106]⟩
  sm : ∀ r ∈ J.recs ++ J.pend, r.length ≤ 6
theorem lens_small : ∀ (l : List (List UInt8)), (∀ r ∈ l, r.length ≤ 6) → lens l ≤ 6 * l.length
  | [], _ => by simp [lens]
  | r :: l, h => by
    have h1 := h r (List.mem_cons_self ..)
    have h2 := lens_small l (fun q hq => h q (List.mem_cons_of_mem _ hq))
    simp only [lens, List.length_cons]
    omega

/-- What is there when the power is back. -/
def CrsJ (E : Dev) (m : Nat) (P : Int → List (List UInt8) → Prop) : Prop := ∃ J, Jst J E m ∧ J.pend = [] ∧ P J.start J.recs ∧ ∀ d F, OpensJ d { E with fuse := F } J
def AftJ (D : Dev) (m : Nat) (P : Int → List (List UInt8) → Prop) : Prop := Fit D ∧ ∀ kp tn, (lossD (downD D) kp tn).down = true ∧ (lossD (downD D) kp tn).pend.length = 0 ∧ (lossD (downD D) kp tn).fuse = 0 ∧ CrsJ { lossD (downD D) kp tn with down := false } m P
theorem AftJ.imp {D : Dev} {m : Nat} {P Q : Int → List (List UInt8) → Prop} (h : AftJ D m P) (hq : ∀ st rs, P st rs → Q st rs) : AftJ D m Q :=
  ⟨h.1, fun kp tn => by
    obtain ⟨a, b, c, J, d, e, f, i⟩ := h.2 kp tn
    exact ⟨a, b, c, J, d, e, hq _ _ f, i⟩⟩

section
variable {J : Jrn} {D : Dev} {m : Nat}
theorem Jst.zero : Jst (jrn0 ⟨#[106]⟩) dev0 0 :=
  ⟨⟨rfl, rfl, rfl, by decide, rfl, Int.le_refl _, by simp [jrn0], by simp [jrn0], by simp [jrn0], by simp [jrn0, lens], by simp [jrn0, lens], (fun h => by cases h), fun _ => .inr ⟨rfl, rfl, rfl⟩, rfl⟩, rfl, by simp [jrn0]⟩
theorem Jst.fuse (h : Jst J D m) (F : Int) : Jst J { D with fuse := F } m := ⟨h.snd.fuse F, h.nj, h.sm⟩
theorem Jst.more (h : Jst J D m) {m' : Nat} (hm : m ≤ m') : Jst J D m' := by
  have := h.snd.st1
  have hs := h.snd
  exact ⟨⟨hs.dn, hs.pl, hs.kp, hs.nm, hs.dead, hs.st0, by omega, hs.rl, hs.cnt, hs.by', hs.bx, hs.wh, hs.nw, hs.nn⟩, h.nj, h.sm⟩
theorem crsJ_mk {E : Dev} {b : Fl} {st : Int} {rs : List (List UInt8)} {P : Int → List (List UInt8) → Prop} (h : Jst J D m) (hg : Gone J b E 0 st rs) (hm : m ≤ 1000) (h0 : 0 ≤ st) (h1 : st + rs.length ≤ m) (hsm : ∀ r ∈ rs, r.length ≤ 6) (hP : P st rs) : CrsJ { E with down := false } m P := by
  have hrlens := lens_small rs hsm
  have hsm' : ∀ r ∈ rs, r.length ≤ 65536 := fun r hr => Nat.le_trans (hsm r hr) (by decide)
  have hfl := fileB_len st.toNat (by omega) rs hsm'
  have hj := h.nj
  have hst' : ((st.toNat : Nat) : Int) = st := by omega
  have key : ∃ wh, ((∃ t, Torn t ∧ E.now.m J.file = some (fileB st.toNat rs ++ t) ∧ wh = t.isEmpty) ∨ (E.now.m J.file = none ∧ rs = [] ∧ st = 0 ∧ wh = false)) ∧ ∀ d F, OpensJ d { { E with down := false } with fuse := F } ⟨J.name, st, rs, [], lens rs, wh, false⟩ := by
    have ef : (jrn0 ⟨#[106]⟩).file = J.file := by rw [Jrn.file, Jrn.file, hj]; rfl
    rcases hg.left with ⟨t, ht, hf⟩ | ⟨hf, e1, e2⟩
    · refine ⟨t.isEmpty, .inl ⟨t, ht, hf, rfl⟩, fun d F g w hD => ?_⟩
      have htl : t.length ≤ 8388608 := by
        have := hD.len J.file _ hf
        rw [List.length_append] at this
        omega
      refine (open_some d g w _ hD ⟨#[106]⟩ (by decide) rfl st.toNat (by omega) rs t (by rw [ef]; exact hf) ht hsm' (by omega) (by omega) (by rw [List.length_append]; omega)).mono ?_
      rintro e w' ⟨j', g', a1, a2, a3, a4⟩
      refine ⟨j', g', a1, a2, a3, ?_⟩
      rw [hj]
      simp only [recJ, hst'] at a4
      exact a4
    · refine ⟨false, .inr ⟨hf, e1, e2, rfl⟩, fun d F g w hD => ?_⟩
      refine (open_none d g w _ hD ⟨#[106]⟩ (by decide) rfl (by rw [ef]; exact hf)).mono ?_
      rintro e w' ⟨j', g', a1, a2, a3, a4⟩
      refine ⟨j', g', a1, a2, a3.imp (fun _ h => h.elim), ?_⟩
      rw [hj, e1, e2]
      exact a4
  obtain ⟨wh, hwh, hop⟩ := key
  exact ⟨⟨J.name, st, rs, [], lens rs, wh, false⟩, ⟨hg.sound h.snd h0 h1 hsm' (by omega) (by omega) wh hwh, hj, by simpa using hsm⟩, rfl, hP, hop⟩

theorem Jst.smr (h : Jst J D m) {rs : List (List UInt8)} (hr : ∀ r ∈ rs, r ∈ J.recs ++ J.pend) : ∀ r ∈ rs, r.length ≤ 6 := fun r hm => h.sm r (hr r hm)
theorem Jst.aft (h : Jst J D m) (hm : m ≤ 1000) (hlen : ∀ q l, D.now.m q = some l → l.length ≤ 8388608) : AftJ D m (fun st rs => st = J.start ∧ rs = J.recs) := by
  have hst := h.snd.st1
  refine ⟨h.snd.fit (by omega) hlen, fun kp tn => ?_⟩
  have hg := h.snd.gone kp tn
  exact ⟨hg.dn, by rw [hg.pl]; rfl, hg.fu, crsJ_mk h hg hm h.snd.st0 (by omega) (h.smr (fun r hr => List.mem_append_left _ hr)) ⟨rfl, rfl⟩⟩

theorem Jst.app (h : Jst J D m) (hm : m ≤ 1000) (r : List UInt8) (hr : r.length ≤ 6) : jappI J r = 0 ∧ jappJ J r = { J with pend := J.pend ++ [r], bytes := J.bytes + r.length } ∧ Jst { J with pend := J.pend ++ [r], bytes := J.bytes + r.length } D (m + 1) := by
  have hs := h.snd
  have h1 := hs.by'
  have h2 := lens_small _ h.sm
  have hst0 := hs.st0
  have hst1 := hs.st1
  rw [lens_append, List.length_append] at h2
  have hi : jappI J r = 0 := by
    unfold jappI
    rw [hs.dead, h1]
    rw [if_neg (by decide), if_neg (by omega), if_neg (by omega), if_neg (by omega)]
  refine ⟨hi, by unfold jappJ; rw [if_pos hi], ⟨hs.dn, hs.pl, hs.kp, hs.nm, hs.dead, hs.st0, ?_, ?_, ?_, ?_, ?_, hs.wh, hs.nw, hs.nn⟩, h.nj, ?_⟩
  · simp only [List.length_append, List.length_cons, List.length_nil]; omega
  · intro q hq
    simp only [List.mem_append, List.mem_cons, List.not_mem_nil, or_false] at hq
    rcases hq with hq | hq | hq
    · exact hs.rl q (List.mem_append_left _ hq)
    · exact hs.rl q (List.mem_append_right _ hq)
    · subst hq; omega
  · simp only [List.length_append, List.length_cons, List.length_nil]; omega
  · simp only [lens_append, lens]; omega
  · simp only [lens_append, lens]; omega
  · intro q hq
    simp only [List.mem_append, List.mem_cons, List.not_mem_nil, or_false] at hq
    rcases hq with hq | hq | hq
    · exact h.sm q (List.mem_append_left _ hq)
    · exact h.sm q (List.mem_append_right _ hq)
    · subst hq; exact hr

theorem Jst.com (h : Jst J D m) (hm : m ≤ 1000) (hf : 0 ≤ D.fuse) (hlen : ∀ q l, D.now.m q = some l → l.length ≤ 8388608) (j d : Nat) : JOk J ∧ carryPre (comS J j d) D ∧
    ((comI J j d D = 0 ∧ comJ J j d D = comN J ∧ Jst (comN J) (comD J j d D) m) ∨
     (comI J j d D = 303 ∧ comJ J j d D = { J with dead := true } ∧ AftJ (comD J j d D) m (fun st rs => st = J.start ∧ ∃ k, k ≤ J.pend.length ∧ rs = J.recs ++ J.pend.take k))) := by
  have hst := h.snd.st1
  have key := fun kp tn => h.snd.commit hf (by omega) (by omega) hlen j d kp tn
  obtain ⟨k1, k2, k3⟩ := key 0 0
  refine ⟨h.snd.jok (by omega), k1, ?_⟩
  rcases k3 with ⟨i, e, e2, e3⟩ | ⟨i, e, _⟩
  · exact .inl ⟨i, e, e2, h.nj, by simpa [comN] using h.sm⟩
  · refine .inr ⟨i, e, k2, fun kp tn => ?_⟩
    obtain ⟨_, _, k3⟩ := key kp tn
    rcases k3 with ⟨i', _⟩ | ⟨_, _, k, hk, hg⟩
    · rw [i] at i'; cases i'
    refine ⟨hg.dn, by rw [hg.pl]; rfl, hg.fu, crsJ_mk h hg hm h.snd.st0 (by rw [List.length_append, List.length_take]; omega) (h.smr (fun r hr => ?_)) ⟨rfl, k, hk, rfl⟩⟩
    rcases List.mem_append.1 hr with hr | hr
    · exact List.mem_append_left _ hr
    · exact List.mem_append_right _ (List.mem_of_mem_take hr)

theorem Jst.cut (h : Jst J D m) (hm : m ≤ 1000) (hf : 0 ≤ D.fuse) (hlen : ∀ q l, D.now.m q = some l → l.length ≤ 8388608) (j d p k : Nat) (hp : J.start < p) (hk : (p : Int) - J.start = k) (hk2 : k ≤ J.recs.length) : JOk J ∧ (∀ x y z, carryPre [sCut J x y z p (J.recs.drop k), sRep J j, sSync d] D) ∧
    ((carryI (cutS J j d p k) D = 0 ∧ Jst (cutJ J p k 0) (carryD (cutS J j d p k) D) m) ∨
     (carryI (cutS J j d p k) D = 303 ∧ cutJ J p k 303 = { J with dead := true } ∧ AftJ (carryD (cutS J j d p k) D) m (fun st rs => (st = J.start ∧ rs = J.recs) ∨ (st = p ∧ rs = J.recs.drop k)))) := by
  have hst := h.snd.st1
  have hst0 := h.snd.st0
  have key := fun kp tn => h.snd.cut hf (by omega) (by omega) hlen j d p k hp hk hk2 kp tn
  obtain ⟨k1, k2, k3⟩ := key 0 0
  refine ⟨h.snd.jok (by omega), k1, ?_⟩
  rcases k3 with ⟨i, e2, e3⟩ | ⟨i, e, _⟩
  · refine .inl ⟨i, e2, ?_, ?_⟩
    · unfold cutJ; rw [if_pos rfl]; exact h.nj
    · unfold cutJ; rw [if_pos rfl]
      intro r hr
      rcases List.mem_append.1 hr with hr | hr
      · exact h.sm r (List.mem_append_left _ (List.mem_of_mem_drop hr))
      · exact h.sm r (List.mem_append_right _ hr)
  · refine .inr ⟨i, e, k2, fun kp tn => ?_⟩
    obtain ⟨_, _, k3⟩ := key kp tn
    rcases k3 with ⟨i', _⟩ | ⟨_, _, hg | hg⟩
    · rw [i] at i'; cases i'
    · exact ⟨hg.dn, by rw [hg.pl]; rfl, hg.fu, crsJ_mk h hg hm hst0 (by omega) (h.smr (fun r hr => List.mem_append_left _ hr)) (.inl ⟨rfl, rfl⟩)⟩
    · exact ⟨hg.dn, by rw [hg.pl]; rfl, hg.fu, crsJ_mk h hg hm (Int.natCast_nonneg _) (by rw [List.length_drop]; omega) (h.smr (fun r hr => List.mem_append_left _ (List.mem_of_mem_drop hr))) (.inr ⟨rfl, rfl⟩)⟩
end

end Go.Proofs.Ythjbaafbkalomaa
