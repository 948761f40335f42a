/-
  Journal and checkpoint of the recovery theorem, in plain words: what Append, Commit, Cut and Save make of them, and what a failure of power leaves.
-/
import Derived.Test.YtcjkllmellampaaDoorKeep
import Derived.Test.YtcjkllmellampaaDoorCkB
import Derived.Test.YtcjkllmellampaaDoorCkR
namespace Go.Proofs.YtcjkllmellampaaDoor
open Go.RowKit

theorem DevAt.cnt2 {g : Gh} {w : World} {d : Nat} {D : Dev} (h : DevAt g w d D) {a b : ByteArray} (hne : a ≠ b) : cntF D.now a + cntF D.now b ≤ D.now.n := by
  obtain ⟨km, nm, A, cap, xs, _, hi⟩ := h
  obtain ⟨L, h1, h2, h3, h4, _⟩ := hi.now.ex
  have hin : ∀ k, (D.now.m k).isSome = true → ∃ v, look L k = some v := fun k hk => by
    cases hl : look L k with
    | none => rw [h3 k hl] at hk; cases hk
    | some v => exact ⟨v, rfl⟩
  have hmem : ∀ (L : List (ByteArray × Value)) k v, look L k = some v → ∃ p ∈ L, p.1 = k := fun L k v hl => by
    unfold look at hl
    rw [Option.map_eq_some_iff] at hl
    obtain ⟨p, hp, _⟩ := hl
    exact ⟨p, List.mem_of_find?_eq_some hp, by have h1 := List.find?_some hp; exact ((ba_beq _ _).1 h1).symm⟩
  unfold cntF
  by_cases ha : (D.now.m a).isSome = true
  · obtain ⟨va, hva⟩ := hin a ha
    obtain ⟨p, hp, hpa⟩ := hmem L a va hva
    rw [if_pos ha]
    by_cases hb : (D.now.m b).isSome = true
    · obtain ⟨vb, hvb⟩ := hin b hb
      obtain ⟨q, hq, hqb⟩ := hmem L b vb hvb
      rw [if_pos hb]
      have hpq : p ≠ q := fun e => hne (by rw [← hpa, ← hqb, e])
      rw [← h2]
      rcases L with _ | ⟨x, _ | ⟨y, L⟩⟩
      · cases hp
      · rw [List.mem_singleton] at hp hq
        exact absurd (hp.trans hq.symm) hpq
      · simp
    · rw [if_neg hb, ← h2]
      rcases L with _ | ⟨x, L⟩
      · cases hp
      · simp
  · rw [if_neg ha]
    by_cases hb : (D.now.m b).isSome = true
    · obtain ⟨vb, hvb⟩ := hin b hb
      obtain ⟨q, hq, hqb⟩ := hmem L b vb hvb
      rw [if_pos hb, ← h2]
      rcases L with _ | ⟨x, L⟩
      · cases hq
      · simp
    · rw [if_neg hb]; omega

/-- A checkpoint is there. -/
def CkH (D : Dev) (name : ByteArray) (o : Option Ck) : Prop := ∃ p0 p1, SlotIs D (slotN name 0) p0 ∧ SlotIs D (slotN name 1) p1 ∧ (newS p0 p1).1 = o
theorem CkH.of {D D' : Dev} {name : ByteArray} {o : Option Ck} (h : CkH D name o) (e0 : D'.now.m (slotN name 0) = D.now.m (slotN name 0)) (e1 : D'.now.m (slotN name 1) = D.now.m (slotN name 1)) : CkH D' name o := by
  obtain ⟨p0, p1, h0, h1, h2⟩ := h
  exact ⟨p0, p1, h0.of e0, h1.of e1, h2⟩

/-- A step that touches what belongs to an owner of its own. -/
theorem Kp.own {w : World} {t d : Nat} {g : Gh} {x : World} {D : Dev} {m : Nat} {B : List (Nat × TypeId × List Value)} {R : Gh → World → Prop} (h : Kp w t d g x D m B R) {g' : Gh} {x' : World} {o : Nat} (hx : Ext (· = o) g x g' x') (h0 : w.heap.size ≤ o) (h1 : t ≠ o) (h2 : d ≠ o) (h3 : ∀ p ∈ B, p.1 ≠ o) : Kp w t d g' x' D m B R :=
  ⟨h.hx.trans (hx.imp (fun a e => by subst e; exact h0)), h.hD.ext hx h2, h.ht.ext hx h1, h.dw, h.tw, h.dt, h.boxes hx h3, h.rs _ _ _ _ _ h.r hx, h.rs⟩

/-- Records of one byte each. -/
def sing (l : List UInt8) : List (List UInt8) := l.map fun b => [b]
theorem sing_len (l : List UInt8) : (sing l).length = l.length := by simp [sing]
theorem sing_lens (l : List UInt8) : lens (sing l) = l.length := by
  induction l with
  | nil => rfl
  | cons x l ih => simp [sing, lens] at ih ⊢; omega
theorem sing_small {l : List UInt8} {r : List UInt8} (h : r ∈ sing l) : r.length ≤ 65536 := by
  simp only [sing, List.mem_map] at h
  obtain ⟨i, _, rfl⟩ := h
  simp
theorem sing_take (l : List UInt8) (k : Nat) : (sing l).take k = sing (l.take k) := by simp [sing, List.map_take]
theorem sing_drop (l : List UInt8) (k : Nat) : (sing l).drop k = sing (l.drop k) := by simp [sing, List.map_drop]
theorem take_cat {α : Type} (a b : List α) (k : Nat) : (a ++ b).take (a.length + k) = a ++ b.take k := by
  induction a with
  | nil => simp
  | cons x a ih => rw [List.length_cons, Nat.add_right_comm, List.cons_append, List.take_succ_cons, ih, List.cons_append]
theorem sing_part {rs ps : List (List UInt8)} {all : List UInt8} {s : Nat} (h : rs ++ ps = sing (all.drop s)) (k : Nat) : rs ++ ps.take k = sing ((all.take (s + rs.length + k)).drop s) := by
  rw [← take_cat, h, sing_take, List.drop_take]
  congr 2
  omega

theorem sing_get (l : List UInt8) (i : Nat) (h : i < l.length) : (sing l)[i]? = some [l[i]] := by simp [sing, h]
theorem App.full8 {g : Gh} {x : World} {A : Option Addr} {n : Nat} {l : List UInt8} (o : Nat) (h : BytesAt g x (.slice A n n) l) : App 5 1 o g x A n n (bv l) := by
  obtain ⟨A', cap, he, h1, h2, hz, hr⟩ := h.ex
  injection he with e1 e2 e3
  subst e1 e2
  exact ⟨hr, Nat.le_refl _, by omega, fun e => ⟨hz e, hz e⟩, fun hlt => absurd hlt (Nat.lt_irrefl _)⟩
theorem StAt.full {g : Gh} {x : World} {v : Value} {o : Option Ck} (h : StAt g x v o) : ∃ A, v = .slice A (vw o).st.length (vw o).st.length ∧ BytesAt g x v (vw o).st := by
  cases o with
  | none =>
    obtain rfl : v = .slice none 0 0 := h
    exact ⟨none, rfl, BytesAt.nil _ _⟩
  | some c => exact h
theorem cj_two : TwoNames ⟨#[99]⟩ ⟨#[106]⟩ := ⟨by decide, by decide, by decide⟩
theorem jn_file {J : Jrn} (h : J.name = ⟨#[106]⟩) : J.file = ⟨#[106, 46, 108, 111, 103]⟩ ∧ J.fresh = ⟨#[106, 46, 110, 101, 119]⟩ := by
  rw [Jrn.file, Jrn.fresh, h]; exact ⟨rfl, rfl⟩

structure Rst (J : Jrn) (D : Dev) (nb : Nat) (all : List UInt8) (sure saved : Nat) : Prop where
  snd : ∃ c, c ≤ nb ∧ Sound J D c 100
  nj : J.name = ⟨#[106]⟩
  rc : J.recs ++ J.pend = sing (all.drop J.start.toNat)
  len : J.start.toNat ≤ all.length
  al : all.length ≤ nb
  su : sure ≤ J.start.toNat + J.recs.length
  lo : J.start.toNat ≤ saved
  hi : saved ≤ J.start.toNat + J.recs.length
  ck : ∃ o, CkH D ⟨#[99]⟩ o ∧ posO o = saved ∧ (vw o).st = all.take saved ∧ seqO o ≤ nb

/-- What is there when the power is back. -/
def Crs (E : Dev) (nb : Nat) (all : List UInt8) (sure : Nat) : Prop := ∃ (q : Nat) (J : Jrn) (saved : Nat), q ≤ all.length ∧ sure ≤ q ∧ Rst J E nb (all.take q) q saved ∧ J.pend = [] ∧ ∀ d, Opens d E ⟨#[106]⟩ J
def AftP (D : Dev) (nb : Nat) (all : List UInt8) (sure : Nat) : Prop := Fit D ∧ ∀ kp tn, (lossD (downD D) kp tn).down = true ∧ (lossD (downD D) kp tn).pend.length = 0 ∧ ∀ d g x, DevAt g x d { lossD (downD D) kp tn with down := false } → Crs { lossD (downD D) kp tn with down := false } nb all sure

section
variable {J : Jrn} {D : Dev} {nb : Nat} {all : List UInt8} {sure saved : Nat}
theorem Rst.lens (h : Rst J D nb all sure saved) : J.recs.length + J.pend.length = all.length - J.start.toNat := by
  have := congrArg List.length h.rc
  rw [List.length_append, sing_len, List.length_drop] at this
  exact this
theorem Rst.zero : Rst (jrn0 ⟨#[106]⟩) dev0 0 [] 0 0 :=
  ⟨⟨0, Nat.le_refl _, rfl, rfl, rfl, by decide, rfl, Int.le_refl _, by simp [jrn0], by simp [jrn0], by simp [jrn0], by simp [jrn0, Go.Proofs.YtcjkllmellampaaDoor.lens], by simp [jrn0, Go.Proofs.YtcjkllmellampaaDoor.lens], (fun h => by cases h), fun _ => .inr ⟨rfl, rfl, rfl⟩, rfl⟩, rfl, rfl, Nat.le_refl _, Nat.le_refl _, Nat.le_refl _, Nat.le_refl _, Nat.le_refl _, none, ⟨none, none, SlotIs.zero rfl, SlotIs.zero rfl, rfl⟩, rfl, rfl, Nat.le_refl _⟩
theorem Rst.fuse (h : Rst J D nb all sure saved) (F : Int) : Rst J { D with fuse := F } nb all sure saved := by
  obtain ⟨⟨c, hc, hs⟩, h2, h3, h4, h5, h6, h7, h8, o, h9, h10⟩ := h
  exact ⟨⟨c, hc, hs.fuse F⟩, h2, h3, h4, h5, h6, h7, h8, o, h9.of rfl rfl, h10⟩
theorem Rst.more (h : Rst J D nb all sure saved) {nb' : Nat} (hn : nb ≤ nb') : Rst J D nb' all sure saved := by
  obtain ⟨⟨c, hc, hs⟩, h2, h3, h4, h5, h6, h7, h8, o, h9, h10, h11, h12⟩ := h
  exact ⟨⟨c, by omega, hs⟩, h2, h3, h4, by omega, h6, h7, h8, o, h9, h10, h11, by omega⟩

/-- The journal's file and the checkpoint's tell what Recover finds. -/
theorem crs_mk {E : Dev} {c : Nat} {b : Fl} {st : Int} {rs : List (List UInt8)} {q : Nat} {o : Option Ck} (hs : Sound J D c 100) (hj : J.name = ⟨#[106]⟩) (hg : Gone J b E c st rs) (hc : c ≤ nb) (h0 : 0 ≤ st) (hrs : rs = sing ((all.take q).drop st.toNat)) (hq1 : st.toNat ≤ q) (hq : q ≤ all.length) (hal : all.length ≤ nb) (hnb : nb ≤ 100) (hsu : sure ≤ q)
    (hck : CkH E ⟨#[99]⟩ o) (hp0 : st.toNat ≤ posO o) (hp1 : posO o ≤ q) (hst : (vw o).st = all.take (posO o)) (hsq : seqO o ≤ nb) : Crs { E with down := false } nb all sure := by
  have hql : (all.take q).length = q := by rw [List.length_take]; omega
  have hrl : rs.length = q - st.toNat := by rw [hrs, sing_len, List.length_drop, hql]
  have hrlens : Go.Proofs.YtcjkllmellampaaDoor.lens rs = q - st.toNat := by rw [hrs, sing_lens, List.length_drop, hql]
  have hsm : ∀ r ∈ rs, r.length ≤ 65536 := fun r hr => by rw [hrs] at hr; exact sing_small hr
  have hfl := fileB_len st.toNat (by omega) rs hsm
  have key : ∃ wh, ((∃ t, Torn t ∧ E.now.m J.file = some (fileB st.toNat rs ++ t) ∧ wh = t.isEmpty) ∨ (E.now.m J.file = none ∧ rs = [] ∧ st = 0 ∧ wh = false)) ∧ ∀ d, Opens d { E with down := false } ⟨#[106]⟩ ⟨J.name, st, rs, [], Go.Proofs.YtcjkllmellampaaDoor.lens rs, wh, false⟩ := by
    have ef : (jrn0 ⟨#[106]⟩).file = J.file := by rw [Jrn.file, Jrn.file, hj]; rfl
    rcases hg.left with ⟨t, ht, hf⟩ | ⟨hf, e1, e2⟩
    · refine ⟨t.isEmpty, .inl ⟨t, ht, hf, rfl⟩, fun d g w hD => ?_⟩
      have htl : t.length ≤ 8388608 := by
        have := hD.len J.file _ hf
        rw [List.length_append] at this
        omega
      refine (open_some d g w { E with down := false } hD ⟨#[106]⟩ (by decide) rfl st.toNat (by omega) rs t (by rw [ef]; exact hf) ht hsm (by omega) (by omega) (by rw [List.length_append]; omega)).mono ?_
      rintro e w' ⟨j', g', a1, a2, a3, a4⟩
      refine ⟨j', g', a1, a2, a3, ?_⟩
      have hst' : ((st.toNat : Nat) : Int) = st := by omega
      rw [hj]
      simp only [recJ, hst'] at a4
      exact a4
    · refine ⟨false, .inr ⟨hf, e1, e2, rfl⟩, fun d g w hD => ?_⟩
      refine (open_none d g w { E with down := false } hD ⟨#[106]⟩ (by decide) rfl (by rw [ef]; exact hf)).mono ?_
      rintro e w' ⟨j', g', a1, a2, a3, a4⟩
      refine ⟨j', g', a1, a2, a3.imp (fun _ h => h.elim), ?_⟩
      rw [hj, e1, e2]
      exact a4
  obtain ⟨wh, hwh, hop⟩ := key
  refine ⟨q, ⟨J.name, st, rs, [], Go.Proofs.YtcjkllmellampaaDoor.lens rs, wh, false⟩, posO o, hq, hsu, ⟨⟨c, hc, ?_⟩, hj, ?_, ?_, ?_, ?_, hp0, ?_, o, hck.of rfl rfl, rfl, ?_, hsq⟩, rfl, hop⟩
  · exact hg.sound hs h0 (by omega) hsm (by omega) (by omega) wh hwh
  · simp only [List.append_nil]; exact hrs
  · rw [hql]; exact hq1
  · rw [hql]; omega
  · show q ≤ st.toNat + rs.length; omega
  · show posO o ≤ st.toNat + rs.length; omega
  · rw [hst, List.take_take, Nat.min_eq_left hp1]

theorem Rst.fl (h : Rst J D nb all sure saved) : J.file ≠ slotN ⟨#[99]⟩ 0 ∧ J.file ≠ slotN ⟨#[99]⟩ 1 ∧ J.fresh ≠ slotN ⟨#[99]⟩ 0 ∧ J.fresh ≠ slotN ⟨#[99]⟩ 1 := by
  obtain ⟨h1, h2⟩ := jn_file h.nj
  rw [h1, h2]
  exact ⟨by decide, by decide, by decide, by decide⟩
/-- The power fails behind a step that was made. -/
theorem Rst.aft (h : Rst J D nb all sure saved) (hnb : nb ≤ 100) (hlen : ∀ q l, D.now.m q = some l → l.length ≤ 8388608) : AftP D nb all sure := by
  obtain ⟨c, hc, hs⟩ := h.snd
  obtain ⟨o, hck, hp, hst, hsq⟩ := h.ck
  have hll := h.lens
  have h0 := hs.st0
  refine ⟨hs.fit (by omega) hlen, fun kp tn => ?_⟩
  have hg := hs.gone kp tn
  refine ⟨hg.dn, by rw [hg.pl]; rfl, fun d g x _ => ?_⟩
  have hlo := h.lo
  have hhi := h.hi
  have hlen' := h.len
  have hr0 := sing_part h.rc 0
  rw [List.take_zero, List.append_nil, Nat.add_zero] at hr0
  obtain ⟨f1, f2, f3, f4⟩ := h.fl
  refine crs_mk (q := J.start.toNat + J.recs.length) hs h.nj hg hc h0 hr0 (by omega) (by omega) h.al hnb h.su (hck.of (hg.ot _ (Ne.symm f1) (Ne.symm f3)) (hg.ot _ (Ne.symm f2) (Ne.symm f4))) (by omega) (by omega) (by rw [hst, hp]) hsq

theorem Rst.app (h : Rst J D nb all sure saved) (hnb : nb < 100) (x : UInt8) : jappI J [x] = 0 ∧ Rst (jappJ J [x]) D (nb + 1) (all ++ [x]) sure saved := by
  obtain ⟨c, hc, hs⟩ := h.snd
  obtain ⟨o, hck, hp, hst, hsq⟩ := h.ck
  have hll := h.lens
  have hal := h.al
  have hlen := h.len
  have hhi := h.hi
  have h1 := hs.by'
  have h2 := congrArg Go.Proofs.YtcjkllmellampaaDoor.lens h.rc
  rw [lens_append, sing_lens, List.length_drop] at h2
  have hi : jappI J [x] = 0 := by
    unfold jappI
    rw [hs.dead, h1]
    simp only [List.length_cons, List.length_nil]
    rw [if_neg (by decide), if_neg (by omega), if_neg (by omega), if_neg (by omega)]
  have hj : jappJ J [x] = { J with pend := J.pend ++ [[x]], bytes := J.bytes + 1 } := by
    unfold jappJ
    rw [if_pos hi]
    simp
  refine ⟨hi, ?_⟩
  rw [hj]
  have hst0 := hs.st0
  have hst1 := hs.st1
  refine ⟨⟨c, by omega, hs.dn, hs.pl, hs.kp, hs.nm, hs.dead, hs.st0, ?_, ?_, ?_, ?_, ?_, hs.wh, hs.nw, hs.nn⟩, h.nj, ?_, ?_, ?_, h.su, h.lo, h.hi, o, hck, hp, ?_, by omega⟩
  · simp only [List.length_append, List.length_cons, List.length_nil]; omega
  · intro r hr
    simp only [List.mem_append, List.mem_cons, List.not_mem_nil, or_false] at hr
    rcases hr with hr | hr | hr
    · exact hs.rl r (List.mem_append_left _ hr)
    · exact hs.rl r (List.mem_append_right _ hr)
    · subst hr; simp
  · simp only [List.length_append, List.length_cons, List.length_nil]; omega
  · simp only [lens_append, Go.Proofs.YtcjkllmellampaaDoor.lens, List.length_cons, List.length_nil]; omega
  · simp only [lens_append, Go.Proofs.YtcjkllmellampaaDoor.lens, List.length_cons, List.length_nil]; omega
  · rw [← List.append_assoc, h.rc, List.drop_append_of_le_length hlen]
    simp [sing]
  · simp only [List.length_append, List.length_cons, List.length_nil]; omega
  · simp only [List.length_append, List.length_cons, List.length_nil]; omega
  · rw [hst, List.take_append_of_le_length (by omega)]

theorem Rst.com (h : Rst J D nb all sure saved) (hnb : nb ≤ 100) (hf : 0 ≤ D.fuse) (hlen : ∀ q l, D.now.m q = some l → l.length ≤ 8388608) (j d : Nat) : JOk J ∧ carryPre (comS J j d) D ∧
    ((comI J j d D = 0 ∧ Rst (comJ J j d D) (comD J j d D) nb all all.length saved) ∨ (comI J j d D = 303 ∧ AftP (comD J j d D) nb all sure)) := by
  obtain ⟨c, hc, hs⟩ := h.snd
  obtain ⟨o, hck, hp, hst, hsq⟩ := h.ck
  have hll := h.lens
  have hal := h.al
  have hle := h.len
  have hlo := h.lo
  have hhi := h.hi
  have hsu := h.su
  have h0 := hs.st0
  obtain ⟨f1, f2, f3, f4⟩ := h.fl
  have key := fun kp tn => hs.commit hf (by omega) (by omega) hlen j d kp tn
  obtain ⟨k1, k2, k3⟩ := key 0 0
  refine ⟨hs.jok (by omega), k1, ?_⟩
  rcases k3 with ⟨i, e, e2, e3⟩ | ⟨i, _, _⟩
  · refine .inl ⟨i, ?_⟩
    rw [e]
    refine ⟨⟨c, hc, e2⟩, h.nj, ?_, hle, hal, ?_, hlo, ?_, o, hck.of (e3 _ (Ne.symm f1) (Ne.symm f3)) (e3 _ (Ne.symm f2) (Ne.symm f4)), hp, hst, hsq⟩
    · simp only [comN, List.append_nil]; exact h.rc
    · show all.length ≤ J.start.toNat + (J.recs ++ J.pend).length
      rw [List.length_append]; omega
    · show saved ≤ J.start.toNat + (J.recs ++ J.pend).length
      rw [List.length_append]; omega
  · refine .inr ⟨i, k2, fun kp tn => ?_⟩
    obtain ⟨_, _, k3⟩ := key kp tn
    rcases k3 with ⟨i', _⟩ | ⟨_, _, k, hk, hg⟩
    · rw [i] at i'; cases i'
    refine ⟨hg.dn, by rw [hg.pl]; rfl, fun _ _ _ _ => ?_⟩
    refine crs_mk (q := J.start.toNat + J.recs.length + k) hs h.nj hg hc h0 (sing_part h.rc k) (by omega) (by omega) hal hnb (by omega) (hck.of (hg.ot _ (Ne.symm f1) (Ne.symm f3)) (hg.ot _ (Ne.symm f2) (Ne.symm f4))) (by omega) (by omega) (by rw [hst, hp]) hsq

theorem Rst.cut (h : Rst J D nb all sure saved) (hnb : nb ≤ 100) (hf : 0 ≤ D.fuse) (hlen : ∀ q l, D.now.m q = some l → l.length ≤ 8388608) (j d k : Nat) (hlt : J.start.toNat < saved) (hk : (saved : Int) - J.start = k) : JOk J ∧ (∀ x y z, carryPre [sCut J x y z saved (J.recs.drop k), sRep J j, sSync d] D) ∧
    ((carryI (cutS J j d saved k) D = 0 ∧ Rst (cutJ J saved k 0) (carryD (cutS J j d saved k) D) nb all sure saved) ∨ (carryI (cutS J j d saved k) D = 303 ∧ AftP (carryD (cutS J j d saved k) D) nb all sure)) := by
  obtain ⟨c, hc, hs⟩ := h.snd
  obtain ⟨o, hck, hp, hst, hsq⟩ := h.ck
  have hll := h.lens
  have hal := h.al
  have hle := h.len
  have hlo := h.lo
  have hhi := h.hi
  have hsu := h.su
  have h0 := hs.st0
  obtain ⟨f1, f2, f3, f4⟩ := h.fl
  have hkr : k ≤ J.recs.length := by omega
  have hss : saved = J.start.toNat + k := by omega
  have key := fun kp tn => hs.cut hf (by omega) (by omega) hlen j d saved k (by omega) hk hkr kp tn
  obtain ⟨k1, k2, k3⟩ := key 0 0
  refine ⟨hs.jok (by omega), k1, ?_⟩
  rcases k3 with ⟨i, e2, e3⟩ | ⟨i, _, _⟩
  · refine .inl ⟨i, ?_⟩
    refine ⟨⟨c, hc, e2⟩, ?_, ?_, ?_, hal, ?_, ?_, ?_, o, hck.of (e3 _ (Ne.symm f1) (Ne.symm f3)) (e3 _ (Ne.symm f2) (Ne.symm f4)), hp, hst, hsq⟩
    · unfold cutJ; rw [if_pos rfl]; exact h.nj
    · unfold cutJ; rw [if_pos rfl]
      show J.recs.drop k ++ J.pend = sing (all.drop ((saved : Nat) : Int).toNat)
      rw [← List.drop_append_of_le_length hkr, h.rc, sing_drop, List.drop_drop, Int.toNat_natCast, hss]
    · unfold cutJ; rw [if_pos rfl]
      show ((saved : Nat) : Int).toNat ≤ _
      omega
    · unfold cutJ; rw [if_pos rfl]
      show sure ≤ ((saved : Nat) : Int).toNat + (J.recs.drop k).length
      rw [List.length_drop]; omega
    · unfold cutJ; rw [if_pos rfl]
      show ((saved : Nat) : Int).toNat ≤ saved
      omega
    · unfold cutJ; rw [if_pos rfl]
      show saved ≤ ((saved : Nat) : Int).toNat + (J.recs.drop k).length
      omega
  · refine .inr ⟨i, k2, fun kp tn => ?_⟩
    obtain ⟨_, _, k3⟩ := key kp tn
    have hr0 := sing_part h.rc 0
    rw [List.take_zero, List.append_nil, Nat.add_zero] at hr0
    rcases k3 with ⟨i', _⟩ | ⟨_, _, hg | hg⟩
    · rw [i] at i'; cases i'
    · refine ⟨hg.dn, by rw [hg.pl]; rfl, fun _ _ _ _ => ?_⟩
      exact crs_mk (q := J.start.toNat + J.recs.length) hs h.nj hg hc h0 hr0 (by omega) (by omega) hal hnb (by omega) (hck.of (hg.ot _ (Ne.symm f1) (Ne.symm f3)) (hg.ot _ (Ne.symm f2) (Ne.symm f4))) (by omega) (by omega) (by rw [hst, hp]) hsq
    · refine ⟨hg.dn, by rw [hg.pl]; rfl, fun _ _ _ _ => ?_⟩
      refine crs_mk (q := J.start.toNat + J.recs.length) hs h.nj hg hc (Int.natCast_nonneg _) ?_ (by omega) (by omega) hal hnb (by omega) (hck.of (hg.ot _ (Ne.symm f1) (Ne.symm f3)) (hg.ot _ (Ne.symm f2) (Ne.symm f4))) (by omega) (by omega) (by rw [hst, hp]) hsq
      have hr1 := congrArg (List.drop k) hr0
      rw [sing_drop, List.drop_drop] at hr1
      rw [Int.toNat_natCast, hss]
      exact hr1

theorem Rst.quiet (h : Rst J D nb all sure saved) (hnb : nb ≤ 100) : Quiet { D with fuse := 0 } (nb + 2) := by
  obtain ⟨c, hc, hs⟩ := h.snd
  have := hs.nn
  have := cntF_le' D.now J.file
  have := cntF_le' D.now J.fresh
  exact ⟨⟨hs.dn, rfl⟩, hs.pl, hs.kp, by show D.now.n ≤ _; omega⟩
/-- The journal where other files have changed. -/
theorem Rst.dev {E : Dev} {d : Nat} {g : Gh} {x : World} (h : Rst J D nb all sure saved) (hD : DevAt g x d E) (hd : E.down = false) (hp : E.pend = []) (hk : E.kept = E.now) (hn : E.now.n ≤ D.now.n + 1) (e1 : E.now.m J.file = D.now.m J.file) (e2 : E.now.m J.fresh = D.now.m J.fresh) {o : Option Ck} {sv : Nat} (hck : CkH E ⟨#[99]⟩ o) (hpo : posO o = sv) (hst : (vw o).st = all.take sv) (hsq : seqO o ≤ nb + 1) (hlo : J.start.toNat ≤ sv) (hhi : sv ≤ J.start.toNat + J.recs.length) : Rst J E (nb + 1) all sure sv := by
  obtain ⟨c, hc, hs⟩ := h.snd
  have hal := h.al
  have hcnt := hD.cnt2 (a := J.file) (b := J.fresh) J.file_ne
  have hnn := hs.nn
  have c1 : cntF E.now J.file = cntF D.now J.file := by unfold cntF; rw [e1]
  have c2 : cntF E.now J.fresh = cntF D.now J.fresh := by unfold cntF; rw [e2]
  refine ⟨⟨E.now.n - cntF E.now J.file - cntF E.now J.fresh, by omega, hd, hp, hk, hs.nm, hs.dead, hs.st0, hs.st1, hs.rl, hs.cnt, hs.by', hs.bx, fun hw => e1.trans (hs.wh hw), fun hw => ?_, by omega⟩, h.nj, h.rc, h.len, by omega, h.su, hlo, hhi, o, hck, hpo, hst, hsq⟩
  have := hs.nw hw
  unfold Left at this ⊢
  rw [e1]; exact this

theorem dev_self (D : Dev) : D = { { D with fuse := 0 } with fuse := D.fuse } := by cases D; rfl
/-- What Save leaves, whatever the fuse. -/
theorem Rst.sav (h : Rst J D nb all sure saved) (hnb : nb < 100) (hf : 0 ≤ D.fuse) (hlen : ∀ q l, D.now.m q = some l → l.length ≤ 8388608) : ∃ o0 o1, SlotIs D (slotN ⟨#[99]⟩ 0) o0 ∧ SlotIs D (slotN ⟨#[99]⟩ 1) o1 ∧ posO (newS o0 o1).1 = saved ∧ seqO (newS o0 o1).1 ≤ nb ∧
    ∀ (p : Nat) (c : Ck), p = J.start.toNat + J.recs.length → c = ⟨seqO (newS o0 o1).1 + 1, p, all.take p⟩ →
    ((svI D (svOp ⟨#[99]⟩ (newS o0 o1).2 c) = 0 ∧ ∀ d g x, DevAt g x d (svD D (svOp ⟨#[99]⟩ (newS o0 o1).2 c)) → Rst J (svD D (svOp ⟨#[99]⟩ (newS o0 o1).2 c)) (nb + 1) all sure p) ∨
     (svI D (svOp ⟨#[99]⟩ (newS o0 o1).2 c) = 303 ∧ AftP (svD D (svOp ⟨#[99]⟩ (newS o0 o1).2 c)) (nb + 1) all sure)) := by
  have hR := h
  obtain ⟨cc, hcc, hs⟩ := h.snd
  obtain ⟨o, ⟨o0, o1, h0, h1, h2⟩, hp, hst, hsq⟩ := h.ck
  have hal := h.al
  have hle := h.len
  have hlo := h.lo
  have hhi := h.hi
  have hll := h.lens
  obtain ⟨f1, f2, f3, f4⟩ := h.fl
  have hq0 : Quiet { D with fuse := 0 } D.now.n := ⟨⟨hs.dn, rfl⟩, hs.pl, hs.kp, Nat.le_refl _⟩
  have hn2 := (h.quiet (by omega)).n
  have hn2 : D.now.n ≤ nb + 2 := hn2
  refine ⟨o0, o1, h0, h1, by rw [h2]; exact hp, by rw [h2]; exact hsq, fun p c hpe hce => ?_⟩
  have hck : CkOk c := by
    rw [hce, h2]
    exact ⟨by show seqO o + 1 < _; omega, by show p < _; omega, by show (all.take p).length ≤ _; rw [List.length_take]; omega⟩
  have hseq : c.seq = seqO (newS o0 o1).1 + 1 := by rw [hce]
  have hcpo : posO (some c) = p := by rw [hce]; rfl
  have hcst : (vw (some c)).st = all.take p := by rw [hce]; rfl
  have hcsq : seqO (some c) ≤ nb + 1 := by rw [hce, h2]; show seqO o + 1 ≤ _; omega
  have hsl : ∀ q, q ≠ slotN ⟨#[99]⟩ 0 → q ≠ slotN ⟨#[99]⟩ 1 → q ≠ slotN ⟨#[99]⟩ (newS o0 o1).2 := fun q k0 k1 => by
    rcases (show (newS o0 o1).2 = 0 ∨ (newS o0 o1).2 = 1 by have := newS_lt o0 o1; omega) with e | e
    · rw [e]; exact k0
    · rw [e]; exact k1
  have hrun : D.now.run (svOp ⟨#[99]⟩ (newS o0 o1).2 c) = D.now.put (slotN ⟨#[99]⟩ (newS o0 o1).2) (encC c) := by simp [Fl.run, svOp]
  have hpn := put_n D.now (slotN ⟨#[99]⟩ (newS o0 o1).2) (encC c)
  have hok : ∀ E : Dev, E.pend = [] → E.down = false → E.kept = E.now → E.now = D.now.put (slotN ⟨#[99]⟩ (newS o0 o1).2) (encC c) → ∀ d g x, DevAt g x d E → Rst J E (nb + 1) all sure p := by
    intro E e1 e2 e3 e4 d g x hd
    obtain ⟨p0, p1, k0, k1, k2⟩ := slots_new (D' := E) h0 h1 hck hseq (by rw [e4]; exact put_same _ _ _) (fun q hq => by rw [e4]; exact put_other _ _ hq)
    exact hR.dev hd e2 e1 e3 (by rw [e4]; exact hpn) (by rw [e4]; exact put_other _ _ (hsl _ f1 f2)) (by rw [e4]; exact put_other _ _ (hsl _ f3 f4)) ⟨p0, p1, k0, k1, k2⟩ hcpo hcst hcsq (by omega) (by omega)
  have hD := dev_self D
  rcases (show D.fuse = 0 ∨ 1 ≤ D.fuse by omega) with hf0 | hf1
  · left
    rw [hf0] at hD
    obtain ⟨e1, e2⟩ := hq0.save (svOp ⟨#[99]⟩ (newS o0 o1).2 c)
    rw [← hD] at e1 e2
    refine ⟨e1, ?_⟩
    rw [e2]
    exact hok _ rfl hs.dn rfl hrun
  · have hfu := hq0.fused D.fuse hf1 (svOp ⟨#[99]⟩ (newS o0 o1).2 c)
    rw [← hD] at hfu
    have hbr : svI D (svOp ⟨#[99]⟩ (newS o0 o1).2 c) = 303 → AftP (svD D (svOp ⟨#[99]⟩ (newS o0 o1).2 c)) (nb + 1) all sure := by
      intro hi
      have hl := fun kp tn => hq0.lost (by omega) D.fuse hf1 ⟨#[99]⟩ (newS o0 o1).2 c hck kp tn hlen
      rw [← hD] at hl
      refine ⟨(hl 0 0).1, fun kp tn => ?_⟩
      obtain ⟨_, hL, hR3⟩ := hl kp tn
      rw [hi] at hR3
      generalize lossD (downD (svD D (svOp ⟨#[99]⟩ (newS o0 o1).2 c))) kp tn = E at *
      refine ⟨hL.dn, by rw [hL.pl]; rfl, fun d g x hdv => ?_⟩
      have hot : ∀ q, q ≠ slotN ⟨#[99]⟩ 0 → q ≠ slotN ⟨#[99]⟩ 1 → E.now.m q = D.now.m q := fun q k0 k1 => hL.ot q (hsl q k0 k1)
      have hpt : ∃ o', CkH { E with down := false } ⟨#[99]⟩ o' ∧ ((posO o' = p ∧ (vw o').st = all.take p ∧ seqO o' ≤ nb + 1) ∨ (posO o' = saved ∧ (vw o').st = all.take saved ∧ seqO o' ≤ nb + 1)) := by
        rcases hR3 with ⟨_, hm'⟩ | ⟨_, l, hl', hm'⟩ | ⟨h', _⟩
        · refine ⟨o, ⟨o0, o1, h0.of ?_, h1.of ?_, h2⟩, .inr ⟨hp, hst, by omega⟩⟩
          all_goals
            show E.now.m _ = D.now.m _
            first
            | (by_cases e : slotN ⟨#[99]⟩ 0 = slotN ⟨#[99]⟩ (newS o0 o1).2
               · rw [e]; exact hm'
               · exact hL.ot _ e)
            | (by_cases e : slotN ⟨#[99]⟩ 1 = slotN ⟨#[99]⟩ (newS o0 o1).2
               · rw [e]; exact hm'
               · exact hL.ot _ e)
        · obtain ⟨q0, q1, k0, k1, k2⟩ := slots_torn (D' := { E with down := false }) h0 h1 hck hseq hl' hm' hL.ot
          rcases k2 with k2 | k2
          · exact ⟨some c, ⟨q0, q1, k0, k1, k2⟩, .inl ⟨hcpo, hcst, hcsq⟩⟩
          · exact ⟨o, ⟨q0, q1, k0, k1, by rw [k2, h2]⟩, .inr ⟨hp, hst, by omega⟩⟩
        · cases h'
      obtain ⟨o', hck', hcs⟩ := hpt
      have hd2 : ∀ sv, posO o' = sv → (vw o').st = all.take sv → seqO o' ≤ nb + 1 → J.start.toNat ≤ sv → sv ≤ J.start.toNat + J.recs.length → Rst J { E with down := false } (nb + 1) all sure sv := fun sv a1 a2 a3 a4 a5 =>
        hR.dev hdv rfl hL.pl hL.kp hL.n (hot _ f1 f2) (hot _ f3 f4) hck' a1 a2 a3 a4 a5
      have hfin : ∀ sv, Rst J { E with down := false } (nb + 1) all sure sv → Crs { E with down := false } (nb + 1) all sure := by
        intro sv hr
        obtain ⟨_, ha⟩ := hr.aft (by omega) hdv.len
        obtain ⟨_, _, ha⟩ := ha 0 0
        have e : ({ lossD (downD { E with down := false }) 0 0 with down := false } : Dev) = { E with down := false } := by
          have : lossD (downD { E with down := false }) 0 0 = downD { E with down := false } := by unfold lossD; rw [if_pos (by simp [downD, hL.pl])]
          rw [this]
          have := hL.fu
          cases E; simp only at this; simp [downD, this]
        rw [e] at ha
        exact ha d g x hdv
      rcases hcs with ⟨a1, a2, a3⟩ | ⟨a1, a2, a3⟩
      · exact hfin p (hd2 p a1 a2 a3 (by omega) (by omega))
      · exact hfin saved (hd2 saved a1 a2 a3 hlo hhi)
    rcases hfu with ⟨hi, hd⟩ | ⟨hi, hd⟩ | ⟨hi, hd⟩
    · exact .inr ⟨hi, hbr hi⟩
    · exact .inr ⟨hi, hbr hi⟩
    · refine .inl ⟨hi, ?_⟩
      rw [hd]
      exact hok _ rfl hs.dn rfl hrun

theorem Crs.more {E : Dev} (h : Crs E nb all sure) {nb' : Nat} (hn : nb ≤ nb') : Crs E nb' all sure := by
  obtain ⟨q, J, saved, h1, h2, h3, h4⟩ := h
  exact ⟨q, J, saved, h1, h2, h3.more hn, h4⟩
theorem AftP.more (h : AftP D nb all sure) {nb' : Nat} (hn : nb ≤ nb') : AftP D nb' all sure :=
  ⟨h.1, fun kp tn => ⟨(h.2 kp tn).1, (h.2 kp tn).2.1, fun d g x hd => ((h.2 kp tn).2.2 d g x hd).more hn⟩⟩
structure RstB (J : Jrn) (D : Dev) (nb : Nat) (all : List UInt8) (saved : Nat) : Prop where
  s0 : 0 ≤ J.start
  s1 : J.start ≤ all.length
  rl : J.start.toNat + J.recs.length + J.pend.length = all.length
  al : all.length ≤ nb
  dd : J.dead = false
  b0 : 0 ≤ J.bytes
  b1 : J.bytes ≤ nb
  bl : lens J.recs ≤ J.bytes
  dn : D.down = false
  pl : D.pend = []
  n : D.now.n ≤ nb + 2
  lo : J.start ≤ saved
  hi : saved ≤ J.start.toNat + J.recs.length
theorem Rst.bnd (h : Rst J D nb all sure saved) (hnb : nb ≤ 100) : RstB J D nb all saved := by
  have hq := (h.quiet hnb).n
  obtain ⟨c, hc, hs⟩ := h.snd
  have hll := h.lens
  have hal := h.al
  have hle := h.len
  have hlo := h.lo
  have hhi := h.hi
  have h0 := hs.st0
  have h1 := hs.by'
  have h2 := congrArg Go.Proofs.YtcjkllmellampaaDoor.lens h.rc
  rw [lens_append, sing_lens, List.length_drop] at h2
  exact ⟨h0, by omega, by omega, hal, hs.dead, by omega, by omega, by omega, hs.dn, hs.pl, hq, by omega, hhi⟩
end

end Go.Proofs.YtcjkllmellampaaDoor
