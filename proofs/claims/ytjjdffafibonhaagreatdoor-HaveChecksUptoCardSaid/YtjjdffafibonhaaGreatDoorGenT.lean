/-
  The base for seats without the journal (joined by a program of ours from our own texts).
-/
import Derived.Test.YtjjdffafibonhaaGreatDoorGenH
namespace Go.Proofs.YtjjdffafibonhaaGreatDoor
section
open Go.RowKit

def iv (x : Int) : Value := .int .i64 x
structure TapeIn (g : Gh) (w : World) (A : Option Addr) (L : List Int) : Prop where
  rd : Rd 1 g w A L.length (L.map iv)
  rg : ∀ x ∈ L, -9223372036854775808 ≤ x ∧ x ≤ 9223372036854775807
theorem TapeIn.ext {g g' : Gh} {w w' : World} {A : Option Addr} {L : List Int} {M : Nat → Prop} (h : TapeIn g w A L) (hx : Ext M g w g' w') : TapeIn g' w' A L := ⟨h.rd.ext hx, h.rg⟩
def tpCs (A : Option Addr) (n c a : Nat) : List Value := [.slice A n c, .int .i64 (a : Int)]
def TapeAt (g : Gh) (w : World) (t m : Nat) : Prop := ∃ A c L a, a ≤ m ∧ Blk t 48 (tpCs A L.length c a) w ∧ TapeIn g w A L ∧ g.O t = t ∧ g.F t = 0
theorem TapeAt.lt {g : Gh} {w : World} {t m : Nat} (h : TapeAt g w t m) : t < w.heap.size := by
  obtain ⟨A, c, L, a, _, hb, _⟩ := h
  exact hb.lt
theorem TapeAt.ext {g g' : Gh} {w w' : World} {t m : Nat} {M : Nat → Prop} (h : TapeAt g w t m) (hx : Ext M g w g' w') (hm : ¬ M t) : TapeAt g' w' t m := by
  obtain ⟨A, c, L, a, h1, hb, h2, h3, h4⟩ := h
  exact ⟨A, c, L, a, h1, hb.ext hx (by rw [h3]; exact hm), h2.ext hx, (hx.own t hb.lt).trans h3, hx.zero t hb.lt h4⟩
theorem TapeAt.more {g : Gh} {w : World} {t m m' : Nat} (h : TapeAt g w t m) (hm : m ≤ m') : TapeAt g w t m' := by
  obtain ⟨A, c, L, a, h1, h2⟩ := h
  exact ⟨A, c, L, a, by omega, h2⟩

theorem grown_tape (w : World) (n t : Nat) (v : Value) : w.grownBy ((w.drewN n).setCell ⟨t, 1, none⟩ v) (some t) := by
  have h := grownBy_setCell (w.drewN n) ⟨t, 1, none⟩ v
  exact ⟨h.os, h.tape, h.output, h.size, fun k hk hne => h.block k hk hne⟩

theorem blk_tape {w : World} {t : Nat} {A : Option Addr} {m c a : Nat} (h : Blk t 48 (tpCs A m c a) w) (n : Nat) : Blk t 48 (tpCs A m c (a + 1)) ((w.drewN n).setCell ⟨t, 1, none⟩ (.int .i64 ((a : Int) + 1))) := by
  have := (h.drewN n).set 1 (.int .i64 ((a : Int) + 1))
  simpa [tpCs] using this

set_option maxRecDepth 100000 in
set_option maxHeartbeats 1600000 in
theorem next_in (t : Nat) (g : Gh) (w : World) (A : Option Addr) (c : Nat) (L : List Int) (a : Nat) (hb : Blk t 48 (tpCs A L.length c a) w) (hi : TapeIn g w A L) (ha : a ≤ 1000000000) (n : Int) (hn : n ≤ 4611686018427387904) :
    Calls Tryz.prog 26 #[.pointer (some ⟨t, 0, none⟩), .int .i64 n] w fun e w' => ∃ v, e = .returned (.int .i64 v) ∧ 0 ≤ v ∧ (v < n ∨ v = 0) ∧ w.grownBy w' (some t) ∧ Blk t 48 (tpCs A L.length c (a + 1)) w' := by
  have c0 : w.cell? ⟨t, 0, none⟩ = some (.slice A L.length c) := hb.cell 0
  have c1 : w.cell? ⟨t, 1, none⟩ = some (.int .i64 a) := hb.cell 1
  have z := hb.fz
  have hff : ∀ v : Int, 0 ≤ foldI v n ∧ (foldI v n < n ∨ foldI v n = 0) := fun v => by
    by_cases h : n ≤ 1
    · simp [foldI, h]
    · have := foldI_lt (v := v) (n := n) (by omega)
      omega
  have HFF := Lib.hid hff
  have HB := Lib.hid hb
  have hmod : Int.tmod ((a : Int) * 7) 11 = ((a * 7 % 11 : Nat) : Int) := by
    have := Int.tmod_eq_emod_of_nonneg (a := (a : Int) * 7) (b := 11) (by omega)
    omega
  clear hff hb
  by_cases hlt : a < L.length
  · obtain ⟨b, off, rfl, _, _, hc⟩ := hi.rd.at_ (by omega)
    have hcell := hc a (iv L[a]) (by simp [hlt])
    have hrg := hi.rg L[a] (List.getElem_mem hlt)
    unfold iv at hcell
    clear hc hi
    generalize L[a] = x at *
    go_enter Tryz.func26, Tryz.ntmps26
    go_wp2_with fail
    go_quiet (fail)
    go_wp2_with fail
    go_quiet (fail)
    go_wp2_with fail
    refine (fold_any x n _ hrg.1 hrg.2 hn).mono ?_
    rintro e w' ⟨rfl, rfl⟩
    go_wp2_with fail
    go_ret
    exact ⟨_, rfl, (HFF.out x).1, (HFF.out x).2, grown_tape w _ t _, blk_tape HB.out _⟩
  · go_enter Tryz.func26, Tryz.ntmps26
    go_wp2_with fail
    go_quiet (fail)
    go_wp2_with fail
    refine (fold_any _ n _ (by omega) (by omega) hn).mono ?_
    rintro e w' ⟨rfl, rfl⟩
    go_wp2_with fail
    go_ret
    exact ⟨_, rfl, (HFF.out _).1, (HFF.out _).2, grown_tape w _ t _, blk_tape HB.out _⟩

theorem TapeAt.grown {g : Gh} {w w' : World} {t m : Nat} {A : Option Addr} {c : Nat} {L : List Int} {a : Nat} (hi : TapeIn g w A L) (hO : g.O t = t) (hF : g.F t = 0) (hg : w.grownBy w' (some t)) (hb : Blk t 48 (tpCs A L.length c a) w') (ha : a ≤ m) : Ext (· = t) g w g w' ∧ TapeAt g w' t m := by
  have hx : Ext (· = t) g w g w' := (Ext.refl (· = t) g w).one hg (fun _ => hO) hF
  exact ⟨hx, A, c, L, a, ha, hb, hi.ext hx, hO, hF⟩
theorem next_any (t m : Nat) (g : Gh) (w : World) (ht : TapeAt g w t m) (hm : m ≤ 1000000000) (n : Int) (hn : n ≤ 4611686018427387904) :
    Calls Tryz.prog 26 #[.pointer (some ⟨t, 0, none⟩), .int .i64 n] w fun e w' => ∃ v, e = .returned (.int .i64 v) ∧ 0 ≤ v ∧ (v < n ∨ v = 0) ∧ Ext (· = t) g w g w' ∧ TapeAt g w' t (m + 1) := by
  obtain ⟨A, c, L, a, h1, hb, hi, hO, hF⟩ := ht
  refine (next_in t g w A c L a hb hi (by omega) n hn).mono ?_
  rintro e w' ⟨v, h2, h3, h4, h5, h6⟩
  obtain ⟨h7, h8⟩ := TapeAt.grown hi hO hF h5 h6 (m := m + 1) (by omega)
  exact ⟨v, h2, h3, h4, h7, h8⟩

/-- Only blocks that came later are touched. -/
theorem Ext.belowB {M : Nat → Prop} {g : Gh} {w x y : World} (h : Ext M g w g x) (hb : Below w.heap.size x y) : Ext M g w g y :=
  ⟨hb.os.trans h.os, hb.tape.trans h.tape, hb.output.trans h.output, Nat.le_trans h.size hb.size, h.own, h.mono, h.zero, fun b hlt hn => ⟨(hb.block b hlt).trans (h.keep b hlt hn).1, (h.keep b hlt hn).2⟩,
    fun b cs e fr hF hc => by
      obtain ⟨cs', h1, h2, h3⟩ := h.row b cs e fr hF hc
      exact ⟨cs', (hb.block b (block_lt hc)).trans h1, h2, h3⟩⟩
theorem owns_same {B : Nat} {e : TypeId} {v : Value} {n : Nat} {xs : List Value} {w w' : World} (h : w.ownsRow B e 1 v n xs) (hk : ∀ b, B ≤ b → b < w.heap.size → w'.heap[b]? = w.heap[b]?) : w'.ownsRow B e 1 v n xs := by
  obtain ⟨hl, h | ⟨b, cap, cs, h0, hg, hh, h1⟩⟩ := h
  · exact ⟨hl, .inl h⟩
  · exact ⟨hl, .inr ⟨b, cap, cs, h0, hg, (hk b hg (block_lt hh)).trans hh, h1⟩⟩

theorem owns_bytes {M : Nat → Prop} {g : Gh} {w wr : World} {v : Value} {n : Nat} {l : List UInt8} (h : wr.ownsRow w.heap.size 5 1 v n (bv l)) (hl : l.length = n) (hx : Ext M g w g wr) :
    ∃ A c g', v = .slice A l.length c ∧ Ext M g w g' wr ∧ BytesAt g' wr (.slice A l.length c) l ∧ (∀ b, b < w.heap.size → g'.F b = g.F b) ∧ (∀ b, b < w.heap.size → g'.O b = g.O b) := by
  subst hl
  obtain ⟨hl, ⟨h, h0⟩ | ⟨b, cap, cs, h0, hg, hh, h1, h2, h3, h4⟩⟩ := h
  · rw [← h0] at h
    refine ⟨none, 0, g, by rw [h, h0], hx, ⟨none, 0, rfl, by omega, Nat.zero_le _, fun _ => h0, ?_⟩, fun _ _ => rfl, fun _ _ => rfl⟩
    have hn : l = [] := List.eq_nil_of_length_eq_zero h0
    subst hn
    exact Rd.nil _ _ _ _
  · refine ⟨some ⟨b, 0, none⟩, cap, ⟨fun k => if k = b then l.length else g.F k, g.O⟩, h0, hx.up (fun k hk => ?_) (fun _ _ => rfl), ⟨_, _, rfl, h1, h2, (fun e => by cases e), ⟨hl, fun _ => ⟨b, 0, rfl, by simp, block_lt hh, fun j u hu => ?_⟩⟩⟩, fun k hk => ?_, fun _ _ => rfl⟩
    · dsimp only; rw [if_neg (by omega)]
    · have hj : j < l.length := by have := (List.getElem?_eq_some_iff.1 hu).1; rw [bv_len] at this; exact this
      rw [cell_at hh, Nat.zero_add]
      rw [← h4, List.getElem?_take, if_pos (by omega)] at hu
      simpa using hu
    · dsimp only; rw [if_neg (by omega)]
end

end Go.Proofs.YtjjdffafibonhaaGreatDoor
