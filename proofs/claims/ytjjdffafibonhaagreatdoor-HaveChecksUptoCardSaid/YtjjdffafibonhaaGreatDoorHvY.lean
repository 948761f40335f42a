/-
  A have-list on a device whose power does not fail.
-/
import Derived.Test.YtjjdffafibonhaaGreatDoorHvN
import Derived.Test.YtjjdffafibonhaaGreatDoorGenL
namespace Go.Proofs.YtjjdffafibonhaaGreatDoor
open Go.RowKit

structure HvQ (g : Gh) (x : World) (b d : Nat) (name : ByteArray) (k m : Nat) (E : List Hv) (D : Dev) (o0 o1 : Option Ck) : Prop where
  hv : HvAt g x b d name (k : Int) E false
  dv : DevAt g x d D
  qu : Quiet D m
  nm : nmB false 40 name = true
  s0 : SlotIs D (slotN name 0) o0
  s1 : SlotIs D (slotN name 1) o1
  ps : posO (newS o0 o1).1 = k
  sq : seqO (newS o0 o1).1 = k
  st : stE E (newS o0 o1).1
  bd : b ≠ d
  nu : ∀ h ∈ E, h.num < 4611686018427387904
/-- A list with at most n saves behind it, on a device with power. -/
def HvS (g : Gh) (x : World) (b d : Nat) (name : ByteArray) (n : Nat) (E : List Hv) : Prop := ∃ k D o0 o1, k ≤ n ∧ HvQ g x b d name k n E D o0 o1

theorem HvQ.sv {g : Gh} {x : World} {b d : Nat} {name : ByteArray} {k m : Nat} {E : List Hv} {D : Dev} {o0 o1 : Option Ck} (h : HvQ g x b d name k m E D o0 o1) (hm : m ≤ 250) (hk : k ≤ m) : SvOk D name (k : Int) o0 o1 := by
  have hn := h.qu.n
  exact ⟨h.qu.up.dn, h.nm, h.s0, h.s1, by omega, by rw [h.ps]; exact Int.le_refl _, by omega, by rw [h.sq]; omega, by omega, by rw [h.qu.pl]; simp⟩
theorem HvS.ext {g g' : Gh} {x x' : World} {b d : Nat} {name : ByteArray} {n : Nat} {E : List Hv} {M : Nat → Prop} (h : HvS g x b d name n E) (hx : Ext M g x g' x') (hb : ¬ M b) (hd : ¬ M d) : HvS g' x' b d name n E := by
  obtain ⟨k, D, o0, o1, hk, h⟩ := h
  exact ⟨k, D, o0, o1, hk, h.hv.ext hx hb, h.dv.ext hx hd, h.qu, h.nm, h.s0, h.s1, h.ps, h.sq, h.st, h.bd, h.nu⟩
theorem HvS.more {g : Gh} {x : World} {b d : Nat} {name : ByteArray} {n n' : Nat} {E : List Hv} (h : HvS g x b d name n E) (hn : n ≤ n') : HvS g x b d name n' E := by
  obtain ⟨k, D, o0, o1, hk, h⟩ := h
  exact ⟨k, D, o0, o1, by omega, h.hv, h.dv, h.qu.more hn, h.nm, h.s0, h.s1, h.ps, h.sq, h.st, h.bd, h.nu⟩
theorem HvOk.enc {E : List Hv} (h : HvOk E) (hn : ∀ h ∈ E, h.num < 4611686018427387904) : (encH E).length ≤ 2097152 := by
  have h1 := encs_len E (fun q hq => by have h1 := okH_size (h.ok q hq); have h2 := h.ok q hq; simp only [okH, Bool.and_eq_true, decide_eq_true_eq] at h2; exact ⟨by omega, by omega, by omega, hn q hq⟩)
  have h2 := encU_len (2 * E.length) 10 (by have := h.len; omega) (by omega)
  have h3 := h.len
  rw [encH, List.length_append]
  omega
/-- A change that is made. -/
theorem HvQ.chg {g : Gh} {x x' : World} {b d : Nat} {name : ByteArray} {k m : Nat} {E E' : List Hv} {D : Dev} {o0 o1 : Option Ck} {e : Ending} (h : HvQ g x b d name k m E D o0 o1) (hm : m ≤ 250) (hk : k ≤ m) (hE : HvOk E') (hn : ∀ h ∈ E', h.num < 4611686018427387904) (hc : ChgP g x b d name (k : Int) E E' D o0 o1 e x') :
    e = .returned (.int .i64 0) ∧ ∃ g', Ext (fun o => o = d ∨ o = b ∨ x.heap.size ≤ o) g x g' x' ∧ HvS g' x' b d name (m + 1) E' := by
  obtain ⟨he, g', hx, hD, hor⟩ := hc
  obtain ⟨e1, e2⟩ := h.qu.save (hvOp name (k : Int) o0 o1 E')
  rw [e1] at he hor
  rw [e2] at hD
  refine ⟨he, g', hx, ?_⟩
  rcases hor with ⟨_, hv⟩ | ⟨h0, _⟩
  · have hmn := h.qu.n
    have hck : CkOk ⟨seqO (newS o0 o1).1 + 1, ((k : Int) + 1).toNat, encH E'⟩ := ⟨by show _ + 1 < _; rw [h.sq]; omega, by show ((k : Int) + 1).toNat < _; omega, hE.enc hn⟩
    have hrun : D.now.run (hvOp name (k : Int) o0 o1 E') = D.now.put (slotN name (newS o0 o1).2) (encC ⟨seqO (newS o0 o1).1 + 1, ((k : Int) + 1).toNat, encH E'⟩) := by simp [Fl.run, hvOp, svOp]
    rw [hrun] at hD
    have hpn := put_n D.now (slotN name (newS o0 o1).2) (encC ⟨seqO (newS o0 o1).1 + 1, ((k : Int) + 1).toNat, encH E'⟩)
    obtain ⟨p0, p1, k0, k1, k2⟩ := slots_new (D' := synced D (D.now.put (slotN name (newS o0 o1).2) (encC ⟨seqO (newS o0 o1).1 + 1, ((k : Int) + 1).toNat, encH E'⟩))) h.s0 h.s1 hck rfl (put_same _ _ _) (fun q hq => put_other _ _ hq)
    refine ⟨k + 1, _, p0, p1, by omega, ?_, hD, ⟨⟨h.qu.up.dn, h.qu.up.fu⟩, rfl, rfl, by show (D.now.put _ _).n ≤ _; omega⟩, h.nm, k0, k1, ?_, ?_, ?_, h.bd, hn⟩
    · have e3 : ((k + 1 : Nat) : Int) = (k : Int) + 1 := by omega
      rw [e3]; exact hv
    · rw [k2]; show ((k : Int) + 1).toNat = _; omega
    · rw [k2]; show seqO (newS o0 o1).1 + 1 = _; rw [h.sq]
    · rw [k2]; rfl
  · cases h0

theorem putAll_sub : ∀ {l E : List Hv}, Srt E → ∀ q ∈ putAll E l, q ∈ E ∨ q ∈ l
  | [], _, _, q, h => .inl h
  | a :: l, E, hE, q, h => by
    rcases putAll_sub (l := l) (srt_putH a hE) q h with h | h
    · rcases (mem_putH a hE q).1 h with rfl | h
      · exact .inr (List.mem_cons_self ..)
      · exact .inl h.1
    · exact .inr (List.mem_cons_of_mem _ h)

noncomputable def setE (E l : List Hv) : List Hv := if setI E l = 0 then putAll E l else E
/-- Set, the power on. -/
theorem qset (g : Gh) (x : World) (b d : Nat) (name : ByteArray) (n : Nat) (E : List Hv) (h : HvS g x b d name n E) (hn : n ≤ 250) (A : Option Addr) (c : Nat) (l : List Hv) (hr : Rd 3 g x A l.length (celH l)) (hl : l.length ≤ 100000) (hnum : ∀ h ∈ l, h.num < 4611686018427387904) :
    Calls Tryz.prog 15 #[.pointer (some ⟨b, 0, none⟩), .slice A l.length c] x fun e x' => e = .returned (.int .i64 (setI E l)) ∧ ∃ g', Ext (fun o => o = d ∨ o = b ∨ x.heap.size ≤ o) g x g' x' ∧ HvS g' x' b d name (n + 1) (setE E l) := by
  obtain ⟨k, D, o0, o1, hk, h⟩ := h
  have hnu : ∀ h ∈ putAll E l, h.num < 4611686018427387904 := fun q hq => (putAll_sub h.hv.ok.srt q hq).elim (h.nu q) (hnum q)
  refine (hset_any g x b d name k E D o0 o1 h.hv h.dv (h.sv hn hk) A c l hr hl hnu h.bd).mono ?_
  rintro e x' (⟨h1, h2, h3⟩ | ⟨h1, h2⟩)
  · refine ⟨h2, g, Ext.of_below _ g h3, ?_⟩
    rw [setE, if_neg h1]
    exact (HvS.ext ⟨k, D, o0, o1, hk, h⟩ (Ext.of_below (fun _ => False) g h3) (fun h => h) (fun h => h)).more (by omega)
  · rw [setE, if_pos h1, h1]
    exact h.chg hn hk (h.hv.ok.set h1) hnu h2
noncomputable def drpE (E : List Hv) (ps : List ByteArray) : List Hv := if dropI E ps = 0 then dropE E ps else E
/-- Drop, the power on. -/
theorem qdrop (g : Gh) (x : World) (b d : Nat) (name : ByteArray) (n : Nat) (E : List Hv) (h : HvS g x b d name n E) (hn : n ≤ 250) (A : Option Addr) (c : Nat) (ps : List ByteArray) (hr : Rd 1 g x A ps.length (ps.map Value.string)) (hl : ps.length ≤ 100000) :
    Calls Tryz.prog 16 #[.pointer (some ⟨b, 0, none⟩), .slice A ps.length c] x fun e x' => e = .returned (.int .i64 (dropI E ps)) ∧ ∃ g', Ext (fun o => o = d ∨ o = b ∨ x.heap.size ≤ o) g x g' x' ∧ HvS g' x' b d name (n + 1) (drpE E ps) := by
  obtain ⟨k, D, o0, o1, hk, h⟩ := h
  have hnu : ∀ h ∈ dropE E ps, h.num < 4611686018427387904 := fun q hq => h.nu q (List.mem_filter.1 hq).1
  refine (hdrop_any g x b d name k E D o0 o1 h.hv h.dv (h.sv hn hk) A c ps hr hl hnu h.bd).mono ?_
  rintro e x' (⟨h1, h2, h3⟩ | ⟨h1, h2⟩)
  · refine ⟨h2, g, Ext.of_below _ g h3, ?_⟩
    rw [drpE, if_neg h1]
    exact (HvS.ext ⟨k, D, o0, o1, hk, h⟩ (Ext.of_below (fun _ => False) g h3) (fun h => h) (fun h => h)).more (by omega)
  · rw [drpE, if_pos h1, h1]
    exact h.chg hn hk (h.hv.ok.drop ps) hnu h2
def repE (E l : List Hv) : List Hv := if checkH l = 0 then l else E
/-- Replace, the power on. -/
theorem qreplace (g : Gh) (x : World) (b d : Nat) (name : ByteArray) (n : Nat) (E : List Hv) (h : HvS g x b d name n E) (hn : n ≤ 250) (A : Option Addr) (c : Nat) (l : List Hv) (hr : Rd 3 g x A l.length (celH l)) (hl : l.length ≤ 100000) (hnum : ∀ h ∈ l, h.num < 4611686018427387904) :
    Calls Tryz.prog 14 #[.pointer (some ⟨b, 0, none⟩), .slice A l.length c] x fun e x' => e = .returned (.int .i64 (checkH l)) ∧ ∃ g', Ext (fun o => o = d ∨ o = b ∨ x.heap.size ≤ o) g x g' x' ∧ HvS g' x' b d name (n + 1) (repE E l) := by
  obtain ⟨k, D, o0, o1, hk, h⟩ := h
  refine (hreplace_any g x b d name k E D o0 o1 h.hv h.dv (h.sv hn hk) A c l hr hl hnum h.bd).mono ?_
  rintro e x' (⟨h1, h2, h3⟩ | ⟨h1, y, hy, h2⟩)
  · refine ⟨h2, g, Ext.of_below _ g h3, ?_⟩
    rw [repE, if_neg h1]
    exact (HvS.ext ⟨k, D, o0, o1, hk, h⟩ (Ext.of_below (fun _ => False) g h3) (fun h => h) (fun h => h)).more (by omega)
  · rw [repE, if_pos h1, h1]
    have hxy := Ext.of_below (fun _ => False) g hy
    have h' : HvQ g y b d name k n E D o0 o1 := ⟨h.hv.ext hxy (fun h => h), h.dv.ext hxy (fun h => h), h.qu, h.nm, h.s0, h.s1, h.ps, h.sq, h.st, h.bd, h.nu⟩
    obtain ⟨he, g', hx', hs'⟩ := h'.chg hn hk (HvOk.of_check h1) hnum h2
    refine ⟨he, g', (hxy.imp (fun _ h => h.elim)).trans (hx'.imp (fun o h => ?_)), hs'⟩
    have := hy.size
    rcases h with h | h | h
    · exact .inl h
    · exact .inr (.inl h)
    · exact .inr (.inr (by omega))

end Go.Proofs.YtjjdffafibonhaaGreatDoor
