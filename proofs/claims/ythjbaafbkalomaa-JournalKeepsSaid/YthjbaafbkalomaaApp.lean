/-
  Append of bytes in several forms; make in a walk.
-/
import Derived.Test.YthjbaafbkalomaaFold
namespace Go.Proofs.Ythjbaafbkalomaa
open Go.RowKit

theorem wpList_makeB {P : Program} (w : World) {ops : Array Oper} {rest : List Oper} {o : Oper} {a : Act} {Q : Exit → Act → World → Prop} (hg : o.guard = none) (l c : Operand) (t : TypeId) (hop : o.op = Op.makeSlice t l c)
    {vl vc v : Value} {w' : World} (hl : a.eval l = vl) (hc : a.eval c = vc) (hrun : (Instr.makeSlice t vl vc).run P w = .ok v w') (hK : wpList P ops Q rest (a.put o.dst v) w') : wpList P ops Q (o :: rest) a w := by
  refine wpList_plain hg fun K hK' => ?_
  unfold Oper.wp
  simp [execOp, hop, hl, hc, hrun, Result.andThen]
  exact hK' _ _ hK
theorem gappendN (j d : Nat) (g : Gh) (w : World) (J : Jrn) (D : Dev) (c m : Nat) (hJ : JAt g w j d J) (hD : DevAt g w d D) (hG : Good J D c m) (hm : m ≤ 4611686018427387904) (hc : c ≤ 200) (l : List UInt8) (n : Nat) (hn : l.length = n) (fr : Nat × Nat) (hl : n ≤ 100000) :
    Calls Try.prog 9 #[.pointer (some ⟨j, 0, none⟩), .slice (some ⟨w.heap.size, 0, none⟩) n n] (w.alloc (.cells (bv l).toArray 5 fr)) fun e w' => e = .returned (.int .i64 (jappI J l)) ∧ BothP j d g w (jappJ J l) D w' := by
  have hx := Ext.litB (fun _ => False) g w l fr
  have hbt := BytesAt.litN g w l n fr hn hl
  subst hn
  refine (gappend j d _ _ J D c m (hJ.ext hx (fun h => h)) (hD.ext hx (fun h => h)) hG hm hc _ _ l hbt (by omega)).mono ?_
  rintro e w' ⟨h, hP⟩
  exact ⟨h, hP.pre hx⟩
theorem gappend_nil (j d : Nat) (g : Gh) (w : World) (J : Jrn) (D : Dev) (c m : Nat) (hJ : JAt g w j d J) (hD : DevAt g w d D) (hG : Good J D c m) (hm : m ≤ 4611686018427387904) (hc : c ≤ 200) :
    Calls Try.prog 9 #[.pointer (some ⟨j, 0, none⟩), .slice none 0 0] w fun e w' => e = .returned (.int .i64 (jappI J [])) ∧ BothP j d g w (jappJ J []) D w' :=
  gappend j d g w J D c m hJ hD hG hm hc none 0 [] ⟨none, 0, rfl, Nat.le_refl _, Nat.zero_le _, fun _ => rfl, Rd.nil _ _ _ _⟩ (by simp)
theorem Good.app0 {J : Jrn} {D : Dev} {c m : Nat} (h : Good J D c m) (r : List UInt8) (h1 : r.length ≤ 65536) (h2 : J.recs.length + J.pend.length < 4096) (h3 : lens J.recs + lens J.pend + r.length ≤ 1048576) :
    jappI J r = 0 ∧ jappJ J r = { J with pend := J.pend ++ [r], bytes := J.bytes + r.length } := by
  have e : jappI J r = 0 := by
    rw [h.appI, if_neg (by omega), if_neg (by omega), if_neg (by omega)]
  exact ⟨e, by unfold jappJ; rw [if_pos e]⟩
theorem Good.app1 {J : Jrn} {D : Dev} {c m : Nat} (h : Good J D c m) (r : List UInt8) (h1 : r.length ≤ 65536) (h2 : 4096 ≤ J.recs.length + J.pend.length ∨ 1048576 < lens J.recs + lens J.pend + r.length) :
    jappI J r = 311 ∧ jappJ J r = J := by
  have e : jappI J r = 311 := by
    rw [h.appI, if_neg (by omega)]
    rcases Nat.lt_or_ge (J.recs.length + J.pend.length) 4096 with h3 | h3
    · rw [if_neg (by omega), if_pos (by omega)]
    · rw [if_pos h3]
  exact ⟨e, by unfold jappJ; rw [e]; rfl⟩


end Go.Proofs.Ythjbaafbkalomaa
