/-
  Literals of bytes.
-/
import Derived.Test.YthjbaafbkalomaaPlay
import Derived.Lib.SlBytesConst
namespace Go.Proofs.Ythjbaafbkalomaa
open Go.RowKit

theorem Ext.litB (M : Nat → Prop) (g : Gh) (w : World) (l : List UInt8) (fr : Nat × Nat) : Ext M g w (g.lit w.heap.size l.length) (w.alloc (.cells (bv l).toArray 5 fr)) := Ext.lit M g w _ _
set_option maxRecDepth 100000 in
theorem BytesAt.lit (g : Gh) (w : World) (l : List UInt8) (fr : Nat × Nat) (hl : l.length ≤ 1000) : BytesAt (g.lit w.heap.size l.length) (w.alloc (.cells (bv l).toArray 5 fr)) (.slice (some ⟨w.heap.size, 0, none⟩) l.length l.length) l := by
  have h := App.lit g w (bv l) 5 fr l.length 0 (bv_len l) (by unfold maxLen; omega)
  exact BytesAt.of_new h
set_option maxRecDepth 100000 in
theorem gappend_lit (j d : Nat) (g : Gh) (w : World) (J : Jrn) (D : Dev) (c m : Nat) (hJ : JAt g w j d J) (hD : DevAt g w d D) (hG : Good J D c m) (hm : m ≤ 4611686018427387904) (hc : c ≤ 200) (l : List UInt8) (fr : Nat × Nat) (hl : l.length ≤ 1000) :
    Calls Try.prog 9 #[.pointer (some ⟨j, 0, none⟩), .slice (some ⟨w.heap.size, 0, none⟩) l.length l.length] (w.alloc (.cells (bv l).toArray 5 fr)) fun e w' => e = .returned (.int .i64 (jappI J l)) ∧ BothP j d g w (jappJ J l) D w' := by
  have hx := Ext.litB (fun _ => False) g w l fr
  refine (gappend j d _ _ J D c m (hJ.ext hx (fun h => h)) (hD.ext hx (fun h => h)) hG hm hc _ _ l (BytesAt.lit g w l fr hl) (by omega)).mono ?_
  rintro e w' ⟨h, hP⟩
  exact ⟨h, hP.pre hx⟩

set_option maxRecDepth 100000 in
theorem BytesAt.str {g : Gh} {w : World} {A : Option Addr} {n c : Nat} {l : List UInt8} (h : BytesAt g w (.slice A n c) l) : (convert 37 9 (.slice A n c)).run Try.prog w = .ok (.string ⟨l.toArray⟩) w := by
  obtain ⟨A', cap, he, _, _, hz, hr⟩ := h.ex
  injection he with e1 e2 e3
  subst e1 e2 e3
  cases A with
  | none =>
    have h0 := hz rfl
    have hl : l = [] := List.eq_nil_of_length_eq_zero h0
    subst hl
    rw [run_convert_bytes_string w _ _ _ _ _ _ Try.underlying37 Try.underlying5 Try.underlying9]
    rfl
  | some a =>
    refine run_convert_bytes_back w _ _ _ a c l Try.underlying37 Try.underlying5 Try.underlying9 (fun k hk => ?_)
    obtain ⟨b, off, hA, _, _, hc⟩ := hr.at_ (by omega)
    injection hA with hA
    subst hA
    rw [add_lit]
    exact hc k _ (bv_get hk)

def gh0 : Gh := ⟨fun _ => 0, fun b => b⟩
theorem Ext.fin {g' : Gh} {w w' : World} (h : Ext (fun o => w.heap.size ≤ o) gh0 w g' w') : Below w.heap.size w w' :=
  h.to_below (Nat.le_refl _) (fun b hb => by show ¬ w.heap.size ≤ b; omega)

end Go.Proofs.Ythjbaafbkalomaa
