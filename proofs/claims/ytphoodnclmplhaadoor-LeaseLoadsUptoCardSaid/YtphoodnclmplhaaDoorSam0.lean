/-
  The statement's comparison of two lists of leases; the list that a table's All returns.
-/
import Derived.Test.YtphoodnclmplhaaDoorTAl2
namespace Go.Proofs.YtphoodnclmplhaaDoor
open Go.RowKit

set_option maxRecDepth 100000 in
set_option maxHeartbeats 1600000 in
theorem same_some (b1 o1 c1 b2 o2 c2 : Nat) (E : List Lease) (w : World) (h1 : LsAt b1 o1 E w) (l1 : b1 < w.heap.size) (h2 : LsAt b2 o2 E w) (l2 : b2 < w.heap.size) (hn : E.length ≤ 1000000) :
    Calls Tryd.prog 21 #[.slice (some ⟨b1, o1, none⟩) E.length c1, .slice (some ⟨b2, o2, none⟩) E.length c2] w fun e w' => e = .returned (.bool true) ∧ Below w.heap.size w w' := by
  have H1 := Lib.hid h1
  have H2 := Lib.hid h2
  clear h1 h2
  go_enter Tryd.func21, Tryd.ntmps21
  go_wp2_with fail
  go_loopw [13] (fun i wr => ∃ k : Nat, k ≤ E.length ∧ i = .int .i64 k ∧ Below w.heap.size w wr) (fun i _ => E.length - (intOf i).toNat)
  case atStart => exact ⟨0, Nat.zero_le _, rfl, Below.refl _ _⟩
  case round =>
    obtain ⟨k, hk, rfl, hB⟩ := hrel
    by_cases hlt : k < E.length
    · have a1 := fun y : Held (Below wr.heap.size wr) => (H1.out.below (hB.trans (y.ok.mono hB.size)) l1) k E[k] (List.getElem?_eq_getElem hlt)
      have a2 := fun y : Held (Below wr.heap.size wr) => (H2.out.below (hB.trans (y.ok.mono hB.size)) l2) k E[k] (List.getElem?_eq_getElem hlt)
      generalize E[k] = x at a1 a2
      obtain ⟨lp, lh, lf, ls, lu⟩ := x
      dsimp only at a1 a2
      have HA := Lib.hid (And.intro a1 a2)
      have hS : Below wr.heap.size wr wr.drew := (Below.refl _ _).drew
      clear a1 a2
      go_wp2_with fail
      (refine wp_region_s (S := Below wr.heap.size wr) (by kernel_rfl) (by kernel_rfl) hS ?_; have hN : Nonempty (Held (Below wr.heap.size wr)) := ⟨⟨_, hS⟩⟩; (have p0 := fun y => (HA.out.1 y).1; have p1 := fun y => (HA.out.1 y).2.1; have p2 := fun y => (HA.out.1 y).2.2.1; have p3 := fun y => (HA.out.1 y).2.2.2.1; have p4 := fun y => (HA.out.1 y).2.2.2.2; have q0 := fun y => (HA.out.2 y).1; have q1 := fun y => (HA.out.2 y).2.1; have q2 := fun y => (HA.out.2 y).2.2.1; have q3 := fun y => (HA.out.2 y).2.2.2.1; have q4 := fun y => (HA.out.2 y).2.2.2.2); (repeat (go_big_quiet_step (fail))); refine wpQuiet_nil ?_; rintro x ⟨⟨_, hx⟩, rfl⟩; clear hN)
      clear p0 p1 p2 p3 p4 q0 q1 q2 q3 q4
      have HX := Lib.hid (hB.trans (hx.mono hB.size))
      clear hx hB hS HA
      go_wp2_with fail
      go_roundw
      case rel => exact ⟨k + 1, by omega, by go_num, HX.out⟩
      case measure => simp [intOf]; omega
    · have hge : E.length ≤ k := by omega
      clear hlt
      go_wp2_with fail
      go_ret
      exact ⟨rfl, hB⟩

set_option maxRecDepth 100000 in
set_option maxHeartbeats 400000 in
theorem same_nil (A B : Option Addr) (c1 c2 : Nat) (w : World) : Calls Tryd.prog 21 #[.slice A 0 c1, .slice B 0 c2] w fun e w' => e = .returned (.bool true) ∧ Below w.heap.size w w' := by
  go_enter Tryd.func21, Tryd.ntmps21
  go_wp2_with fail
  go_loopw [13] (fun i wr => i = .int .i64 0 ∧ wr = w) (fun _ _ => 0)
  case atStart => exact ⟨rfl, rfl⟩
  case round =>
    obtain ⟨rfl, rfl⟩ := hrel
    go_wp2_with fail
    go_ret
    exact ⟨rfl, Below.refl _ _⟩
theorem same_any (A B : Option Addr) (c1 c2 : Nat) (E : List Lease) (w : World) (h1 : LsIn A E w) (h2 : LsIn B E w) (hn : E.length ≤ 1000000) :
    Calls Tryd.prog 21 #[.slice A E.length c1, .slice B E.length c2] w fun e w' => e = .returned (.bool true) ∧ Below w.heap.size w w' := by
  rcases Nat.eq_zero_or_pos E.length with h0 | h0
  · have : E = [] := List.eq_nil_of_length_eq_zero h0
    subst this
    exact same_nil A B c1 c2 w
  · obtain ⟨b1, o1, rfl, l1, a1⟩ := h1 h0
    obtain ⟨b2, o2, rfl, l2, a2⟩ := h2 h0
    exact same_some b1 o1 c1 b2 o2 c2 E w a1 l1 a2 l2 hn

/-- A call returns this list of leases, in memory of its own. -/
def AllE (E : List Lease) (w : World) (e : Ending) (w' : World) : Prop := ∃ (A : Option Addr) (cap : Nat), e = .returned (.slice A E.length cap) ∧ LsIn A E w' ∧ Below w.heap.size w w'
theorem AllP.toE {V E : List Lease} {w : World} {e : Ending} {w' : World} (h : AllP V w e w') (h1 : SrtL E) (h2 : E.Perm V) : AllE E w e w' := by
  obtain ⟨S, A, cap, rfl, hp, hs, hl, hb⟩ := h
  obtain rfl : S = E := hs.ext h1 (hp.trans h2.symm)
  exact ⟨A, cap, rfl, hl, hb⟩
/-- The leases of a table in order. -/
theorem tab_sorted {T : Tab} (h : TOk T) : ∃ E : List Lease, SrtL E ∧ E.Perm (T.m.map (·.2)) := by
  obtain ⟨S, _, h2, h3⟩ := sortL_is h.nodup
  exact ⟨S, h3, h2⟩
theorem all_E {b m : Nat} {T : Tab} {E : List Lease} {w : World} (hL : T.m.length ≤ 1000000) (hT : TabT b m T w) (hok : TOk T) (h1 : SrtL E) (h2 : E.Perm (T.m.map (·.2))) : Calls Tryd.prog 19 #[.pointer (some ⟨b, 0, none⟩)] w (AllE E w) :=
  (tall_any b m T hL w hT hok).mono fun _e _w' hh => AllP.toE hh h1 h2

end Go.Proofs.YtphoodnclmplhaaDoor
