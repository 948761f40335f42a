/-
  What Save leaves on the device, with and without a failure of power, in plain words.
-/
import Derived.Test.YtcjkllmellampaaDoorCkOk
import Derived.Test.YtcjkllmellampaaDoorCkL
import Derived.Test.YtcjkllmellampaaDoorLose
import Derived.Test.YtcjkllmellampaaDoorGood
namespace Go.Proofs.YtcjkllmellampaaDoor
open Go.RowKit

theorem DevAt.len {g : Gh} {w : World} {d : Nat} {D : Dev} (h : DevAt g w d D) : ∀ k l, D.now.m k = some l → l.length ≤ 8388608 := by
  obtain ⟨km, nm, A, cap, xs, _, hi⟩ := h
  obtain ⟨L, h1, h2, h3, h4, _⟩ := hi.now.ex
  intro k l hk
  cases hl : look L k with
  | none => rw [h3 k hl] at hk; cases hk
  | some v =>
    obtain ⟨l', A, cap, e1, _, e3, _⟩ := h4 k v hl
    rw [e1] at hk
    injection hk with hk
    rw [← hk]; exact e3


/-- A device at rest with at most m files. -/
structure Quiet (D : Dev) (m : Nat) : Prop where
  up : Up D
  pl : D.pend = []
  kp : D.kept = D.now
  n : D.now.n ≤ m
theorem Quiet.dev0 : Quiet dev0 0 := ⟨⟨rfl, rfl⟩, rfl, rfl, Nat.le_refl _⟩
theorem Quiet.more {D : Dev} {m m' : Nat} (h : Quiet D m) (hm : m ≤ m') : Quiet D m' := ⟨h.up, h.pl, h.kp, Nat.le_trans h.n hm⟩
theorem SlotIs.of {D D' : Dev} {k : ByteArray} {o : Option Ck} (h : SlotIs D k o) (e : D'.now.m k = D.now.m k) : SlotIs D' k o := by
  unfold SlotIs at h ⊢
  rw [e]; exact h
theorem SlotIs.zero {D : Dev} {k : ByteArray} (h : D.now.m k = none) : SlotIs D k none := .inl ⟨h, rfl⟩
theorem SlotIs.full {D : Dev} {k : ByteArray} {c : Ck} (hc : CkOk c) (h : D.now.m k = some (encC c)) : SlotIs D k (some c) := .inr ⟨_, c, h, hc, List.prefix_refl _, .inl ⟨rfl, rfl⟩⟩
theorem SlotIs.part {D : Dev} {k : ByteArray} {c : Ck} (hc : CkOk c) {l : List UInt8} (hl : l <+: encC c) (h : D.now.m k = some l) : SlotIs D k (some c) ∨ SlotIs D k none := by
  by_cases e : l = encC c
  · rw [e] at h; exact .inl (SlotIs.full hc h)
  · exact .inr (.inr ⟨_, c, h, hc, hl, .inr ⟨e, rfl⟩⟩)
theorem slotN_ne (name : ByteArray) : slotN name 0 ≠ slotN name 1 := fun h => by
  have := ba_append_inj h
  simp at this
theorem put_n (f : Fl) (k : ByteArray) (l : List UInt8) : (f.put k l).n ≤ f.n + 1 := by
  unfold Fl.put; dsimp only; split <;> omega
theorem put_same (f : Fl) (k : ByteArray) (l : List UInt8) : (f.put k l).m k = some l := by simp [Fl.put]
theorem put_other (f : Fl) {k q : ByteArray} (l : List UInt8) (h : q ≠ k) : (f.put k l).m q = f.m q := by simp [Fl.put, h]

section
variable {D : Dev} {m : Nat}
theorem Quiet.save (h : Quiet D m) (o : POp) : svI D o = 0 ∧ svD D o = synced D (D.now.run o) := by
  unfold svI svD
  rw [if_pos h.up.actI, if_pos h.up.actI]
  exact ⟨(h.up.act _).syncI, two_steps h.up h.pl o⟩

/-- The slots behind a Save that was made. -/
theorem slots_new {D' : Dev} {name : ByteArray} {o0 o1 : Option Ck} (h0 : SlotIs D (slotN name 0) o0) (h1 : SlotIs D (slotN name 1) o1) {c : Ck} (hc : CkOk c) (hseq : c.seq = seqO (newS o0 o1).1 + 1)
    (hs : D'.now.m (slotN name (newS o0 o1).2) = some (encC c)) (ho : ∀ q, q ≠ slotN name (newS o0 o1).2 → D'.now.m q = D.now.m q) :
    ∃ p0 p1, SlotIs D' (slotN name 0) p0 ∧ SlotIs D' (slotN name 1) p1 ∧ (newS p0 p1).1 = some c := by
  rcases (show (newS o0 o1).2 = 0 ∨ (newS o0 o1).2 = 1 by have := newS_lt o0 o1; omega) with e | e
  · rw [e] at hs ho
    exact ⟨some c, o1, SlotIs.full hc hs, h1.of (ho _ (slotN_ne name).symm), by rw [newS_new0 e hseq]⟩
  · rw [e] at hs ho
    exact ⟨o0, some c, h0.of (ho _ (slotN_ne name)), SlotIs.full hc hs, by rw [newS_new1 e hseq]⟩
/-- The slots where the file that Save wrote is torn. -/
theorem slots_torn {D' : Dev} {name : ByteArray} {o0 o1 : Option Ck} (h0 : SlotIs D (slotN name 0) o0) (h1 : SlotIs D (slotN name 1) o1) {c : Ck} (hc : CkOk c) (hseq : c.seq = seqO (newS o0 o1).1 + 1) {l : List UInt8} (hl : l <+: encC c)
    (hs : D'.now.m (slotN name (newS o0 o1).2) = some l) (ho : ∀ q, q ≠ slotN name (newS o0 o1).2 → D'.now.m q = D.now.m q) :
    ∃ p0 p1, SlotIs D' (slotN name 0) p0 ∧ SlotIs D' (slotN name 1) p1 ∧ ((newS p0 p1).1 = some c ∨ (newS p0 p1).1 = (newS o0 o1).1) := by
  rcases (show (newS o0 o1).2 = 0 ∨ (newS o0 o1).2 = 1 by have := newS_lt o0 o1; omega) with e | e
  · rw [e] at hs ho
    rcases SlotIs.part hc hl hs with h | h
    · exact ⟨some c, o1, h, h1.of (ho _ (slotN_ne name).symm), .inl (by rw [newS_new0 e hseq])⟩
    · exact ⟨none, o1, h, h1.of (ho _ (slotN_ne name).symm), .inr (by rw [newS_torn0 e])⟩
  · rw [e] at hs ho
    rcases SlotIs.part hc hl hs with h | h
    · exact ⟨o0, some c, h0.of (ho _ (slotN_ne name)), h, .inl (by rw [newS_new1 e hseq])⟩
    · exact ⟨o0, none, h0.of (ho _ (slotN_ne name)), h, .inr (by rw [newS_torn1 e])⟩

theorem Quiet.fused (h : Quiet D m) (F : Int) (hF : 1 ≤ F) (o : POp) :
    (svI { D with fuse := F } o = 303 ∧ svD { D with fuse := F } o = { D with down := true, fuse := 0 }) ∨
    (svI { D with fuse := F } o = 303 ∧ svD { D with fuse := F } o = { D with now := D.now.run o, pend := [o], down := true, fuse := 0 }) ∨
    (svI { D with fuse := F } o = 0 ∧ svD { D with fuse := F } o = { D with kept := D.now.run o, now := D.now.run o, pend := [], fuse := F - 2 }) := by
  have hdn := h.up.dn
  have hpl := h.pl
  have hF0 : ¬ F = 0 := by omega
  by_cases h1 : F = 1
  · have a1 : actI { D with fuse := F } = 303 := by simp [actI, hdn, doI, burnB, h1]
    have a2 : actD { D with fuse := F } o = { D with down := true, fuse := 0 } := by simp [actD, hdn, doD, burnB, burnD, h1]
    refine .inl ⟨?_, ?_⟩
    · unfold svI; rw [if_neg (by omega)]; exact a1
    · unfold svD; rw [if_neg (by omega)]; exact a2
  · have a1 : actI { D with fuse := F } = 0 := by simp [actI, hdn, doI, burnB, h1]
    have a2 : actD { D with fuse := F } o = { D with now := D.now.run o, pend := [o], down := false, fuse := F - 1 } := by
      simp [actD, hdn, doD, burnB, burnD, h1, hF0, hpl]
    unfold svI svD
    rw [if_pos a1, if_pos a1, a2]
    by_cases h2 : F = 2
    · refine .inr (.inl ⟨?_, ?_⟩)
      · simp [syncI, burnB, h2]
      · simp [syncD, burnB, burnD, h2]
    · have hb1 : ¬ F - 1 = 1 := by omega
      have hb2 : ¬ F - 1 = 0 := by omega
      refine .inr (.inr ⟨?_, ?_⟩)
      · simp [syncI, burnB, hb1]
      · have : F - 1 - 1 = F - 2 := by omega
        simp [syncD, burnB, burnD, hb1, hb2, this, hdn]

/-- What is there once the power has failed. -/
structure LostC (D E : Dev) (m : Nat) (k : ByteArray) : Prop where
  pl : E.pend = []
  dn : E.down = true
  fu : E.fuse = 0
  kp : E.kept = E.now
  n : E.now.n ≤ m + 1
  ot : ∀ q, q ≠ k → E.now.m q = D.now.m q
theorem Quiet.lost (h : Quiet D m) (hm : m ≤ 250) (F : Int) (hF : 1 ≤ F) (name : ByteArray) (i : Nat) (c : Ck) (hc : CkOk c) (kp tn : Int) (hlen : ∀ q l, D.now.m q = some l → l.length ≤ 8388608) :
    Fit (svD { D with fuse := F } (svOp name i c)) ∧ LostC D (lossD (downD (svD { D with fuse := F } (svOp name i c))) kp tn) m (slotN name i) ∧
    ((svI { D with fuse := F } (svOp name i c) = 303 ∧ (lossD (downD (svD { D with fuse := F } (svOp name i c))) kp tn).now.m (slotN name i) = D.now.m (slotN name i)) ∨
     (svI { D with fuse := F } (svOp name i c) = 303 ∧ ∃ l, l <+: encC c ∧ (lossD (downD (svD { D with fuse := F } (svOp name i c))) kp tn).now.m (slotN name i) = some l) ∨
     (svI { D with fuse := F } (svOp name i c) = 0 ∧ (lossD (downD (svD { D with fuse := F } (svOp name i c))) kp tn).now.m (slotN name i) = some (encC c))) := by
  have hel := encC_len hc
  have hn := h.n
  have hkp := h.kp
  have hrun : D.now.run (svOp name i c) = D.now.put (slotN name i) (encC c) := by simp [Fl.run, svOp]
  have hpn := put_n D.now (slotN name i) (encC c)
  rcases h.fused F hF (svOp name i c) with ⟨hi, hd⟩ | ⟨hi, hd⟩ | ⟨hi, hd⟩
  · rw [hi, hd]
    have e : lossD (downD { D with down := true, fuse := 0 }) kp tn = { D with down := true, fuse := 0 } := by unfold lossD; rw [if_pos (by simp [downD, h.pl])]; rfl
    rw [e]
    refine ⟨⟨by simp [h.pl], fun k hk => by simp [h.pl] at hk, by rw [hkp]; exact hlen, by rw [hkp]; omega⟩, ⟨h.pl, rfl, rfl, hkp, by show D.now.n ≤ _; omega, fun _ _ => rfl⟩, .inl ⟨rfl, rfl⟩⟩
  · rw [hi, hd]
    have e : lossD (downD { D with now := D.now.run (svOp name i c), pend := [svOp name i c], down := true, fuse := 0 }) kp tn = { D with kept := lossF D.kept [svOp name i c] kp tn, now := lossF D.kept [svOp name i c] kp tn, pend := [], down := true, fuse := 0 } := by unfold lossD; rw [if_neg (by simp [downD])]; rfl
    rw [e]
    have key : lossF D.kept [svOp name i c] kp tn = D.now ∨ ∃ l, l <+: encC c ∧ lossF D.kept [svOp name i c] kp tn = D.now.put (slotN name i) l := by
      unfold lossF
      rw [hkp]
      by_cases hk : kp < 0
      · rw [if_pos hk]; exact .inl rfl
      rw [if_neg hk]
      by_cases hk0 : kp.toNat = 0
      · rw [hk0]
        simp only [List.getElem?_cons_zero, List.take_zero, runs, List.foldl_nil]
        split
        · right
          exact ⟨(encC c).take tn.toNat, List.take_prefix _ _, by simp [Fl.run, tornOp, svOp]⟩
        · exact .inl rfl
      · have : [svOp name i c][kp.toNat]? = none := by simp; omega
        rw [this]
        right
        exact ⟨encC c, List.prefix_refl _, by simp [runs, Fl.run, svOp]⟩
    refine ⟨⟨by simp, fun k hk => ?_, by rw [hkp]; exact hlen, by rw [hkp]; omega⟩, ?_⟩
    · obtain rfl : k = 0 := by simp at hk; omega
      exact ⟨fun _ => by show (encC c).length ≤ _; omega, fun h => by simp [svOp] at h⟩
    · rcases key with hk | ⟨l, hl, hk⟩
      · rw [hk]
        exact ⟨⟨rfl, rfl, rfl, rfl, by show D.now.n ≤ _; omega, fun _ _ => rfl⟩, .inl ⟨rfl, rfl⟩⟩
      · rw [hk]
        have hpn' := put_n D.now (slotN name i) l
        exact ⟨⟨rfl, rfl, rfl, rfl, by show (D.now.put _ _).n ≤ _; omega, fun q hq => put_other _ _ hq⟩, .inr (.inl ⟨rfl, l, hl, put_same _ _ _⟩)⟩
  · rw [hi, hd]
    have e : lossD (downD { D with kept := D.now.run (svOp name i c), now := D.now.run (svOp name i c), pend := [], fuse := F - 2 }) kp tn = { D with kept := D.now.run (svOp name i c), now := D.now.run (svOp name i c), pend := [], down := true, fuse := 0 } := by unfold lossD; rw [if_pos (by simp [downD])]; rfl
    rw [e, hrun]
    refine ⟨⟨by simp, fun k hk => by simp at hk, fun q l hq => ?_, by show (D.now.put _ _).n ≤ _; omega⟩, ⟨rfl, rfl, rfl, rfl, by show (D.now.put _ _).n ≤ _; omega, fun q hq => put_other _ _ hq⟩, .inr (.inr ⟨rfl, put_same _ _ _⟩)⟩
    change (D.now.put (slotN name i) (encC c)).m q = some l at hq
    by_cases hqk : q = slotN name i
    · subst hqk
      rw [put_same] at hq
      injection hq with hq
      rw [← hq]; omega
    · rw [put_other _ _ hqk] at hq
      exact hlen q l hq
end

/-- Save without a failure of power. -/
theorem gsave (d : Nat) (g : Gh) (w : World) (D : Dev) (m : Nat) (hD : DevAt g w d D) (hq : Quiet D m) (hm : m ≤ 250) (name : ByteArray) (h : nmB false 40 name = true) (o0 o1 : Option Ck) (h0 : SlotIs D (slotN name 0) o0) (h1 : SlotIs D (slotN name 1) o1) (p : Int) (A : Option Addr) (cap : Nat) (st : List UInt8) (hr : BytesAt g w (.slice A st.length cap) st)
    (hp0 : 0 ≤ p) (hp1 : (posO (newS o0 o1).1 : Int) ≤ p) (hpb : p < 1000000000) (hsq : seqO (newS o0 o1).1 + 1 < 1000000000) (hl : st.length ≤ 2097152) :
    Calls Tryd.prog 16 #[.pointer (some ⟨d, 0, none⟩), .string name, .int .i64 p, .slice A st.length cap] w fun e w' => e = .returned (.int .i64 0) ∧ ∃ D' p0 p1, SaveP d g w D' w' ∧ Quiet D' (m + 1) ∧ SlotIs D' (slotN name 0) p0 ∧ SlotIs D' (slotN name 1) p1 ∧ (newS p0 p1).1 = some ⟨seqO (newS o0 o1).1 + 1, p.toNat, st⟩ ∧ ∀ q, q ≠ slotN name 0 → q ≠ slotN name 1 → D'.now.m q = D.now.m q := by
  have hn := hq.n
  have hck : CkOk ⟨seqO (newS o0 o1).1 + 1, p.toNat, st⟩ := ⟨hsq, by show p.toNat < _; omega, hl⟩
  obtain ⟨e1, e2⟩ := hq.save (svOp name (newS o0 o1).2 ⟨seqO (newS o0 o1).1 + 1, p.toNat, st⟩)
  refine (save_ok d g w D hD hq.up.dn name h o0 o1 h0 h1 p A cap st hr hp0 hp1 hpb hsq hl (by omega) (by rw [hq.pl]; simp)).mono ?_
  rintro e w' ⟨he, hP⟩
  rw [e1] at he
  rw [e2] at hP
  have hrun : D.now.run (svOp name (newS o0 o1).2 ⟨seqO (newS o0 o1).1 + 1, p.toNat, st⟩) = D.now.put (slotN name (newS o0 o1).2) (encC ⟨seqO (newS o0 o1).1 + 1, p.toNat, st⟩) := by simp [Fl.run, svOp]
  rw [hrun] at hP
  have hpn := put_n D.now (slotN name (newS o0 o1).2) (encC ⟨seqO (newS o0 o1).1 + 1, p.toNat, st⟩)
  obtain ⟨p0, p1, k0, k1, k2⟩ := slots_new (D' := synced D (D.now.put (slotN name (newS o0 o1).2) (encC ⟨seqO (newS o0 o1).1 + 1, p.toNat, st⟩))) h0 h1 hck rfl (put_same _ _ _) (fun q hq => put_other _ _ hq)
  refine ⟨he, _, p0, p1, hP, ⟨⟨hq.up.dn, hq.up.fu⟩, rfl, rfl, by show (D.now.put _ _).n ≤ _; omega⟩, k0, k1, k2, fun q hq0 hq1 => put_other _ _ ?_⟩
  rcases (show (newS o0 o1).2 = 0 ∨ (newS o0 o1).2 = 1 by have := newS_lt o0 o1; omega) with e | e
  · rw [e]; exact hq0
  · rw [e]; exact hq1

theorem BytesAt.nil (g : Gh) (w : World) : BytesAt g w (.slice none 0 0) [] := ⟨none, 0, rfl, Nat.le_refl _, by decide, fun _ => rfl, Rd.nil _ _ _ _⟩
/-- A state that is a literal. -/
theorem gsave_lit (d : Nat) (g : Gh) (w : World) (D : Dev) (m : Nat) (hD : DevAt g w d D) (hq : Quiet D m) (hm : m ≤ 250) (name : ByteArray) (h : nmB false 40 name = true) (o0 o1 : Option Ck) (h0 : SlotIs D (slotN name 0) o0) (h1 : SlotIs D (slotN name 1) o1) (p : Int) (st : List UInt8) (fr : Nat × Nat)
    (hp0 : 0 ≤ p) (hp1 : (posO (newS o0 o1).1 : Int) ≤ p) (hpb : p < 1000000000) (hsq : seqO (newS o0 o1).1 + 1 < 1000000000) (hl : st.length ≤ 1000) :
    Calls Tryd.prog 16 #[.pointer (some ⟨d, 0, none⟩), .string name, .int .i64 p, .slice (some ⟨w.heap.size, 0, none⟩) st.length st.length] (w.alloc (.cells (bv st).toArray 5 fr)) fun e w' => e = .returned (.int .i64 0) ∧ ∃ D' p0 p1, SaveP d g w D' w' ∧ Quiet D' (m + 1) ∧ SlotIs D' (slotN name 0) p0 ∧ SlotIs D' (slotN name 1) p1 ∧ (newS p0 p1).1 = some ⟨seqO (newS o0 o1).1 + 1, p.toNat, st⟩ ∧ ∀ q, q ≠ slotN name 0 → q ≠ slotN name 1 → D'.now.m q = D.now.m q := by
  have hx := Ext.litB (fun _ => False) g w st fr
  have hsz : w.heap.size ≤ (w.alloc (.cells (bv st).toArray 5 fr)).heap.size := by simp
  refine (gsave d _ _ D m (hD.ext hx (fun h => h)) hq hm name h o0 o1 h0 h1 p _ _ st (BytesAt.lit g w st fr hl) hp0 hp1 hpb hsq (by omega)).mono ?_
  rintro e w' ⟨he, D', p0, p1, ⟨g', hx', hd'⟩, rest⟩
  refine ⟨he, D', p0, p1, ⟨g', (hx.imp (fun o (h : False) => (h.elim : o = d ∨ w.heap.size ≤ o))).trans (hx'.imp (fun o h => h.elim Or.inl (fun h => Or.inr (Nat.le_trans hsz h)))), hd'⟩, rest⟩

end Go.Proofs.YtcjkllmellampaaDoor
