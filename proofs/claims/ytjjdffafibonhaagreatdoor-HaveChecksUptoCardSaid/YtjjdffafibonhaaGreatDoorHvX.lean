/-
  A have-list on a device with a fuse: what a change leaves, and what is found after a loss of power.
-/
import Derived.Test.YtjjdffafibonhaaGreatDoorHvF
import Derived.Test.YtjjdffafibonhaaGreatDoorGenB
namespace Go.Proofs.YtjjdffafibonhaaGreatDoor
open Go.RowKit

/-- A device at rest that holds this list. -/
structure HvH (D : Dev) (m : Nat) (name : ByteArray) (E : List Hv) : Prop where
  ex : ∃ o k, k ≤ m ∧ Hold D m name o ∧ posO o = k ∧ seqO o = k ∧ stE E o
  nm : nmB false 40 name = true
  ok : HvOk E
  nu : ∀ h ∈ E, h.num < 4611686018427387904
/-- Whatever is lost, the device holds a list of this kind afterwards. -/
def DLost (D : Dev) (m : Nat) (name : ByteArray) (P : List Hv → Prop) : Prop := Fit D ∧ ∀ kp tn, (lossD (downD D) kp tn).down = true ∧ (lossD (downD D) kp tn).pend.length = 0 ∧ ∃ L, P L ∧ HvH { lossD (downD D) kp tn with down := false } m name L
theorem HvH.lost {D : Dev} {m : Nat} {name : ByteArray} {E : List Hv} (h : HvH D m name E) (hm : m ≤ 1000) (hlen : ∀ q l, D.now.m q = some l → l.length ≤ 8388608) : DLost D m name (· = E) := by
  obtain ⟨o, k, hk, ho, h1, h2, h3⟩ := h.ex
  obtain ⟨hf, hl⟩ := ho.lost hm hlen
  exact ⟨hf, fun kp tn => ⟨(hl kp tn).1, (hl kp tn).2.1, E, rfl, ⟨o, k, hk, (hl kp tn).2.2, h1, h2, h3⟩, h.nm, h.ok, h.nu⟩⟩
theorem DLost.fuse {D : Dev} {m : Nat} {name : ByteArray} {P : List Hv → Prop} (h : DLost D m name P) (F : Int) : DLost { D with fuse := F } m name P := ⟨⟨h.1.pl, h.1.ops, h.1.len, h.1.n⟩, h.2⟩

/-- A list's device, a fuse in it. -/
def HvU (F : Int) (g : Gh) (x : World) (d : Nat) (name : ByteArray) (m : Nat) (L : List Hv) : Prop := ∃ D, DevAt g x d { D with fuse := F } ∧ HvH D m name L
/-- The power may fail now. -/
def HvV (g : Gh) (x : World) (d : Nat) (name : ByteArray) (m : Nat) (P : List Hv → Prop) : Prop := ∃ D, DevAt g x d D ∧ DLost D m name P
/-- The power has failed. -/
def HvW (g : Gh) (x : World) (d : Nat) (name : ByteArray) (m : Nat) (L : List Hv) : Prop := ∃ D, DevAt g x d D ∧ D.down = true ∧ D.pend.length = 0 ∧ HvH { D with down := false } m name L
section
variable {F : Int} {g g' : Gh} {x x' : World} {d m : Nat} {name : ByteArray} {L : List Hv} {P : List Hv → Prop} {M : Nat → Prop}
theorem HvU.ext (h : HvU F g x d name m L) (hx : Ext M g x g' x') (hd : ¬ M d) : HvU F g' x' d name m L := by
  obtain ⟨D, h1, h2⟩ := h; exact ⟨D, h1.ext hx hd, h2⟩
theorem HvV.ext (h : HvV g x d name m P) (hx : Ext M g x g' x') (hd : ¬ M d) : HvV g' x' d name m P := by
  obtain ⟨D, h1, h2⟩ := h; exact ⟨D, h1.ext hx hd, h2⟩
theorem HvW.ext (h : HvW g x d name m L) (hx : Ext M g x g' x') (hd : ¬ M d) : HvW g' x' d name m L := by
  obtain ⟨D, h1, h2⟩ := h; exact ⟨D, h1.ext hx hd, h2⟩
theorem HvU.lt (h : HvU F g x d name m L) : d < x.heap.size := by obtain ⟨D, h1, _⟩ := h; exact h1.lt
theorem HvV.lt (h : HvV g x d name m P) : d < x.heap.size := by obtain ⟨D, h1, _⟩ := h; exact h1.lt
theorem HvW.lt (h : HvW g x d name m L) : d < x.heap.size := by obtain ⟨D, h1, _⟩ := h; exact h1.lt
theorem HvU.lost (h : HvU F g x d name m L) (hm : m ≤ 1000) : HvV g x d name m (· = L) := by
  obtain ⟨D, h1, h2⟩ := h; exact ⟨_, h1, (h2.lost hm h1.len).fuse F⟩
theorem HvU.fuse (h : HvU F g x d name m L) (n : Int) (h0 : 0 ≤ n) (h1 : n ≤ 4611686018427387904) : Calls Tryz.prog 19 #[.pointer (some ⟨d, 0, none⟩), .int .i64 n] x fun e x' => e = .returned (.tuple #[]) ∧ ∃ g', Ext (· = d) g x g' x' ∧ HvU n g' x' d name m L := by
  obtain ⟨D, hD, hh⟩ := h
  refine (fuse_any d g x _ hD n h0 h1).mono ?_
  rintro e x' ⟨rfl, g', hx, hD'⟩
  exact ⟨rfl, g', hx, D, hD', hh⟩
theorem HvV.lose (h : HvV g x d name m P) (kp tn : Int) (hk0 : -9223372036854775808 ≤ kp) (hk1 : kp ≤ 9223372036854775807) : Calls Tryz.prog 20 #[.pointer (some ⟨d, 0, none⟩), .agg #[.int .i64 kp, .int .i64 tn]] x fun e x' => e = .returned (.tuple #[]) ∧ ∃ g', Ext (· = d) g x g' x' ∧ ∃ L, P L ∧ HvW g' x' d name m L := by
  obtain ⟨D, hD, hf, hl⟩ := h
  refine (lose_any d g x D hD hf kp tn hk0 hk1).mono ?_
  rintro e x' ⟨rfl, g', hx, hD'⟩
  obtain ⟨e1, e2, L, hP, hH⟩ := hl kp tn
  exact ⟨rfl, g', hx, L, hP, _, hD', e1, e2, hH⟩
theorem HvW.restart (h : HvW g x d name m L) : Calls Tryz.prog 21 #[.pointer (some ⟨d, 0, none⟩)] x fun e x' => e = .returned (.tuple #[]) ∧ ∃ g', Ext (· = d) g x g' x' ∧ HvU 0 g' x' d name m L := by
  obtain ⟨D, hD, h1, h2, hH⟩ := h
  refine (restart_any d g x D hD h1 h2).mono ?_
  rintro e x' ⟨rfl, g', hx, hD'⟩
  refine ⟨rfl, g', hx, { D with down := false }, ?_, hH⟩
  obtain ⟨o, k, _, ho, _⟩ := hH.ex
  rw [dev_fuse0 ho.1.up.fu]
  exact hD'
/-- Open, a fuse in the device or none. -/
theorem HvU.openF (h : HvU F g x d name m L) : Calls Tryz.prog 10 #[.pointer (some ⟨d, 0, none⟩), .string name] x fun e x' => ∃ b, x.heap.size ≤ b ∧ e = .returned (.tuple #[.pointer (some ⟨b, 0, none⟩), .int .i64 0]) ∧ ∃ g', Ext (fun o => x.heap.size ≤ o) g x g' x' ∧ HvU F g' x' d name m L ∧ (F = 0 → HvS g' x' b d name m L) := by
  obtain ⟨D, hD, hH⟩ := h
  obtain ⟨o, k, hk, ⟨hq, q0, q1, s0, s1, hn⟩, e1, e2, e3⟩ := hH.ex
  have hdl := hD.lt
  refine (hopen_any d g x _ hD hq.up.dn name hH.nm q0 q1 (s0.of rfl) (s1.of rfl) L (by rw [hn]; exact e3) hH.ok hH.nu hH.ok.check).mono ?_
  rintro e x' ⟨b, hb, rfl, g', hx, hv⟩
  rw [hn, e1] at hv
  have hD' := hD.ext hx (by omega)
  refine ⟨b, hb, rfl, g', hx, ⟨D, hD', hH⟩, fun h0 => ?_⟩
  subst h0
  rw [dev_fuse0 hq.up.fu] at hD'
  exact ⟨k, D, q0, q1, hk, hv, hD', hq, hH.nm, s0, s1, by rw [hn]; exact e1, by rw [hn]; exact e2, by rw [hn]; exact e3, by omega, hH.nu⟩
end

/-- An open list, a fuse in its device. -/
structure HvQF (F : Int) (g : Gh) (x : World) (b d : Nat) (name : ByteArray) (k m : Nat) (E : List Hv) (D : Dev) (o0 o1 : Option Ck) : Prop where
  hv : HvAt g x b d name (k : Int) E false
  dv : DevAt g x d { D with fuse := F }
  qu : Quiet D m
  nm : nmB false 40 name = true
  s0 : SlotIs D (slotN name 0) o0
  s1 : SlotIs D (slotN name 1) o1
  ps : posO (newS o0 o1).1 = k
  sq : seqO (newS o0 o1).1 = k
  st : stE E (newS o0 o1).1
  bd : b ≠ d
  nu : ∀ h ∈ E, h.num < 4611686018427387904
def HvG (F : Int) (g : Gh) (x : World) (b d : Nat) (name : ByteArray) (n : Nat) (E : List Hv) : Prop := ∃ k D o0 o1, k ≤ n ∧ HvQF F g x b d name k n E D o0 o1
/-- A dead list: its device's power may fail, and then one of these lists is found. -/
def HvX (g : Gh) (x : World) (b d : Nat) (name : ByteArray) (m : Nat) (E : List Hv) (P : List Hv → Prop) : Prop := (∃ ch, HvAt g x b d name ch E true) ∧ HvV g x d name m P ∧ b ≠ d
section
variable {F : Int} {g g' : Gh} {x x' : World} {b d m n : Nat} {name : ByteArray} {E E' : List Hv} {P : List Hv → Prop} {M : Nat → Prop}
theorem HvS.toG (h : HvS g x b d name n E) : HvG 0 g x b d name n E := by
  obtain ⟨k, D, o0, o1, hk, h⟩ := h
  have hd := h.dv
  rw [← dev_fuse0 h.qu.up.fu] at hd
  exact ⟨k, D, o0, o1, hk, h.hv, hd, h.qu.more (Nat.le_refl _), h.nm, h.s0, h.s1, h.ps, h.sq, h.st, h.bd, h.nu⟩
theorem HvG.toS (h : HvG 0 g x b d name n E) : HvS g x b d name n E := by
  obtain ⟨k, D, o0, o1, hk, h⟩ := h
  have hd := h.dv
  rw [dev_fuse0 h.qu.up.fu] at hd
  exact ⟨k, D, o0, o1, hk, h.hv, hd, h.qu, h.nm, h.s0, h.s1, h.ps, h.sq, h.st, h.bd, h.nu⟩
theorem HvG.ext (h : HvG F g x b d name n E) (hx : Ext M g x g' x') (hb : ¬ M b) (hd : ¬ M d) : HvG F g' x' b d name n E := by
  obtain ⟨k, D, o0, o1, hk, h⟩ := h
  exact ⟨k, D, o0, o1, hk, h.hv.ext hx hb, h.dv.ext hx hd, h.qu, h.nm, h.s0, h.s1, h.ps, h.sq, h.st, h.bd, h.nu⟩
theorem HvG.more {n' : Nat} (h : HvG F g x b d name n E) (hn : n ≤ n') : HvG F g x b d name n' E := by
  obtain ⟨k, D, o0, o1, hk, h⟩ := h
  exact ⟨k, D, o0, o1, by omega, h.hv, h.dv, h.qu.more hn, h.nm, h.s0, h.s1, h.ps, h.sq, h.st, h.bd, h.nu⟩
theorem HvX.ext (h : HvX g x b d name n E P) (hx : Ext M g x g' x') (hb : ¬ M b) (hd : ¬ M d) : HvX g' x' b d name n E P := by
  obtain ⟨⟨ch, h1⟩, h2, h3⟩ := h
  exact ⟨⟨ch, h1.ext hx hb⟩, h2.ext hx hd, h3⟩
theorem HvG.u (h : HvG F g x b d name n E) : HvU F g x d name n E := by
  obtain ⟨k, D, o0, o1, hk, h⟩ := h
  exact ⟨D, h.dv, ⟨_, k, hk, ⟨h.qu, o0, o1, h.s0, h.s1, rfl⟩, h.ps, h.sq, h.st⟩, h.nm, h.hv.ok, h.nu⟩
theorem HvG.lt (h : HvG F g x b d name n E) : b < x.heap.size ∧ d < x.heap.size ∧ b ≠ d := by
  obtain ⟨k, D, o0, o1, hk, h⟩ := h
  exact ⟨h.hv.lt, h.dv.lt, h.bd⟩
theorem HvX.lt (h : HvX g x b d name n E P) : b < x.heap.size ∧ d < x.heap.size ∧ b ≠ d := by
  obtain ⟨⟨ch, h1⟩, h2, h3⟩ := h
  exact ⟨h1.lt, h2.lt, h3⟩
theorem HvG.fuse (h : HvG F g x b d name n E) (v : Int) (h0 : 0 ≤ v) (h1 : v ≤ 4611686018427387904) : Calls Tryz.prog 19 #[.pointer (some ⟨d, 0, none⟩), .int .i64 v] x fun e x' => e = .returned (.tuple #[]) ∧ ∃ g', Ext (· = d) g x g' x' ∧ HvG v g' x' b d name n E := by
  obtain ⟨k, D, o0, o1, hk, h⟩ := h
  refine (fuse_any d g x _ h.dv v h0 h1).mono ?_
  rintro e x' ⟨rfl, g', hx, hD'⟩
  exact ⟨rfl, g', hx, k, D, o0, o1, hk, h.hv.ext hx h.bd, hD', h.qu, h.nm, h.s0, h.s1, h.ps, h.sq, h.st, h.bd, h.nu⟩
theorem HvX.fuse (h : HvX g x b d name n E P) (v : Int) (h0 : 0 ≤ v) (h1 : v ≤ 4611686018427387904) : Calls Tryz.prog 19 #[.pointer (some ⟨d, 0, none⟩), .int .i64 v] x fun e x' => e = .returned (.tuple #[]) ∧ ∃ g', Ext (· = d) g x g' x' ∧ HvX g' x' b d name n E P := by
  obtain ⟨⟨ch, h2⟩, ⟨D, hD, hl⟩, h3⟩ := h
  refine (fuse_any d g x _ hD v h0 h1).mono ?_
  rintro e x' ⟨rfl, g', hx, hD'⟩
  exact ⟨rfl, g', hx, ⟨ch, h2.ext hx h3⟩, ⟨_, hD', hl.fuse v⟩, h3⟩
theorem HvQF.sv {k : Nat} {D : Dev} {o0 o1 : Option Ck} (h : HvQF F g x b d name k m E D o0 o1) (hm : m ≤ 250) (hk : k ≤ m) : SvOk { D with fuse := F } name (k : Int) o0 o1 := by
  have hn := h.qu.n
  exact ⟨h.qu.up.dn, h.nm, h.s0.of rfl, h.s1.of rfl, by omega, by rw [h.ps]; exact Int.le_refl _, by omega, by rw [h.sq]; omega, by show D.now.n < 256; omega, by show D.pend.length ≤ _; rw [h.qu.pl]; simp⟩
/-- What a change leaves: e is the answer, the list stands or is dead. -/
def AftP (F : Int) (g : Gh) (x : World) (b d : Nat) (name : ByteArray) (n : Nat) (i : Int) (E E' : List Hv) (e : Ending) (x' : World) : Prop :=
  ∃ j g', e = .returned (.int .i64 j) ∧ Ext (fun o => o = d ∨ o = b ∨ x.heap.size ≤ o) g x g' x' ∧ ((j = i ∧ ∃ F', 0 ≤ F' ∧ (F = 0 → F' = 0) ∧ HvG F' g' x' b d name (n + 1) E') ∨ (j = 303 ∧ F ≠ 0 ∧ HvX g' x' b d name (n + 1) E (fun L => L = E ∨ L = E')))
theorem fuse_ge {D : Dev} (h : DevAt g x d D) : 0 ≤ D.fuse := by
  obtain ⟨km, nm, A, cap, xs, _, hi⟩ := h
  exact hi.f0
theorem HvQF.chg {k : Nat} {D : Dev} {o0 o1 : Option Ck} {e : Ending} (h : HvQF F g x b d name k m E D o0 o1) (hm : m ≤ 250) (hk : k ≤ m) (hE : HvOk E') (hn : ∀ h ∈ E', h.num < 4611686018427387904) (hc : ChgP g x b d name (k : Int) E E' { D with fuse := F } o0 o1 e x') : AftP F g x b d name m 0 E E' e x' := by
  obtain ⟨he, g', hx, hD, hor⟩ := hc
  have hF : 0 ≤ F := fuse_ge h.dv
  have hmn := h.qu.n
  have hck : CkOk ⟨seqO (newS o0 o1).1 + 1, ((k : Int) + 1).toNat, encH E'⟩ := ⟨by show _ + 1 < _; rw [h.sq]; omega, by show ((k : Int) + 1).toNat < _; omega, hE.enc hn⟩
  have hsv := Hold.save h.qu h.s0 h.s1 hm F hF _ hck rfl h.dv.len
  have hop : hvOp name (k : Int) o0 o1 E' = svOp name (newS o0 o1).2 ⟨seqO (newS o0 o1).1 + 1, ((k : Int) + 1).toNat, encH E'⟩ := rfl
  rw [← hop] at hsv
  rcases hsv with ⟨h1, h2⟩ | ⟨h1, h2⟩
  · rw [h1] at he hor
    refine ⟨0, g', he, hx, .inl ⟨rfl, _, fuse_ge hD, ?_, ?_⟩⟩
    · rintro rfl
      rw [dev_fuse0 h.qu.up.fu, (h.qu.save _).2]
      exact h.qu.up.fu
    rcases hor with ⟨_, hv⟩ | ⟨h0, _⟩
    · obtain ⟨hq, q0, q1, k0, k1, k2⟩ := h2
      refine ⟨k + 1, { svD { D with fuse := F } (hvOp name (k : Int) o0 o1 E') with fuse := 0 }, q0, q1, by omega, ?_, hD, hq, h.nm, k0, k1, ?_, ?_, ?_, h.bd, hn⟩
      · have e3 : ((k + 1 : Nat) : Int) = (k : Int) + 1 := by omega
        rw [e3]; exact hv
      · rw [k2]; show ((k : Int) + 1).toNat = _; omega
      · rw [k2]; show seqO (newS o0 o1).1 + 1 = _; rw [h.sq]
      · rw [k2]; rfl
    · cases h0
  · rw [h1] at he hor
    have hF0 : F ≠ 0 := by
      rintro rfl
      rw [dev_fuse0 h.qu.up.fu, (h.qu.save _).1] at h1
      cases h1
    refine ⟨303, g', he, hx, .inr ⟨rfl, hF0, ?_⟩⟩
    rcases hor with ⟨h0, _⟩ | ⟨_, hv⟩
    · cases h0
    · obtain ⟨hf, hb⟩ := h2
      refine ⟨⟨_, hv⟩, ⟨_, hD, ⟨hf.pl, hf.ops, hf.len, hf.n⟩, fun kp tn => ?_⟩, h.bd⟩
      obtain ⟨e1, e2, e3⟩ := hb kp tn
      refine ⟨e1, e2, ?_⟩
      rcases e3 with e3 | e3
      · exact ⟨E', .inr rfl, ⟨_, k + 1, by omega, e3, by show ((k : Int) + 1).toNat = _; omega, by show seqO (newS o0 o1).1 + 1 = _; rw [h.sq], rfl⟩, h.nm, hE, hn⟩
      · exact ⟨E, .inl rfl, ⟨_, k, by omega, e3, h.ps, h.sq, h.st⟩, h.nm, h.hv.ok, h.nu⟩

theorem fset (h : HvG F g x b d name n E) (hn : n ≤ 250) (A : Option Addr) (c : Nat) (l : List Hv) (hr : Rd 3 g x A l.length (celH l)) (hl : l.length ≤ 100000) (hnum : ∀ h ∈ l, h.num < 4611686018427387904) :
    Calls Tryz.prog 15 #[.pointer (some ⟨b, 0, none⟩), .slice A l.length c] x (AftP F g x b d name n (setI E l) E (setE E l)) := by
  obtain ⟨k, D, o0, o1, hk, h⟩ := h
  have hF := fuse_ge h.dv
  have hnu : ∀ h ∈ putAll E l, h.num < 4611686018427387904 := fun q hq => (putAll_sub h.hv.ok.srt q hq).elim (h.nu q) (hnum q)
  refine (hset_any g x b d name k E { D with fuse := F } o0 o1 h.hv h.dv (h.sv hn hk) A c l hr hl hnu h.bd).mono ?_
  rintro e x' (⟨h1, h2, h3⟩ | ⟨h1, h2⟩)
  · rw [setE, if_neg h1]
    exact ⟨_, g, h2, Ext.of_below _ g h3, .inl ⟨rfl, F, hF, fun e => e, (HvG.ext ⟨k, D, o0, o1, hk, h⟩ (Ext.of_below (fun _ => False) g h3) (fun h => h) (fun h => h)).more (by omega)⟩⟩
  · rw [setE, if_pos h1, h1]
    exact h.chg hn hk (h.hv.ok.set h1) hnu h2
theorem fdrop (h : HvG F g x b d name n E) (hn : n ≤ 250) (A : Option Addr) (c : Nat) (ps : List ByteArray) (hr : Rd 1 g x A ps.length (ps.map Value.string)) (hl : ps.length ≤ 100000) :
    Calls Tryz.prog 16 #[.pointer (some ⟨b, 0, none⟩), .slice A ps.length c] x (AftP F g x b d name n (dropI E ps) E (drpE E ps)) := by
  obtain ⟨k, D, o0, o1, hk, h⟩ := h
  have hF := fuse_ge h.dv
  have hnu : ∀ h ∈ dropE E ps, h.num < 4611686018427387904 := fun q hq => h.nu q (List.mem_filter.1 hq).1
  refine (hdrop_any g x b d name k E { D with fuse := F } o0 o1 h.hv h.dv (h.sv hn hk) A c ps hr hl hnu h.bd).mono ?_
  rintro e x' (⟨h1, h2, h3⟩ | ⟨h1, h2⟩)
  · rw [drpE, if_neg h1]
    exact ⟨_, g, h2, Ext.of_below _ g h3, .inl ⟨rfl, F, hF, fun e => e, (HvG.ext ⟨k, D, o0, o1, hk, h⟩ (Ext.of_below (fun _ => False) g h3) (fun h => h) (fun h => h)).more (by omega)⟩⟩
  · rw [drpE, if_pos h1, h1]
    exact h.chg hn hk (h.hv.ok.drop ps) hnu h2
theorem freplace (h : HvG F g x b d name n E) (hn : n ≤ 250) (A : Option Addr) (c : Nat) (l : List Hv) (hr : Rd 3 g x A l.length (celH l)) (hl : l.length ≤ 100000) (hnum : ∀ h ∈ l, h.num < 4611686018427387904) :
    Calls Tryz.prog 14 #[.pointer (some ⟨b, 0, none⟩), .slice A l.length c] x (AftP F g x b d name n (checkH l) E (repE E l)) := by
  obtain ⟨k, D, o0, o1, hk, h⟩ := h
  have hF := fuse_ge h.dv
  refine (hreplace_any g x b d name k E { D with fuse := F } o0 o1 h.hv h.dv (h.sv hn hk) A c l hr hl hnum h.bd).mono ?_
  rintro e x' (⟨h1, h2, h3⟩ | ⟨h1, y, hy, h2⟩)
  · rw [repE, if_neg h1]
    exact ⟨_, g, h2, Ext.of_below _ g h3, .inl ⟨rfl, F, hF, fun e => e, (HvG.ext ⟨k, D, o0, o1, hk, h⟩ (Ext.of_below (fun _ => False) g h3) (fun h => h) (fun h => h)).more (by omega)⟩⟩
  · rw [repE, if_pos h1, h1]
    have hxy := Ext.of_below (fun _ => False) g hy
    have h' : HvQF F g y b d name k n E D o0 o1 := ⟨h.hv.ext hxy (fun h => h), h.dv.ext hxy (fun h => h), h.qu, h.nm, h.s0, h.s1, h.ps, h.sq, h.st, h.bd, h.nu⟩
    obtain ⟨j, g', he, hx', hs'⟩ := h'.chg hn hk (HvOk.of_check h1) hnum h2
    refine ⟨j, g', he, (hxy.imp (fun _ h => h.elim)).trans (hx'.imp (fun o h => ?_)), hs'⟩
    have := hy.size
    rcases h with h | h | h
    · exact .inl h
    · exact .inr (.inl h)
    · exact .inr (.inr (by omega))
end

end Go.Proofs.YtjjdffafibonhaaGreatDoor
