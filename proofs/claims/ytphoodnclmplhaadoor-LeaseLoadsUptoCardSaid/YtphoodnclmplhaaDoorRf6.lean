/-
  The program's table and the reference's one beside it, call by call.
-/
import Derived.Test.YtphoodnclmplhaaDoorRf5
import Derived.Test.YtphoodnclmplhaaDoorOpenOps
namespace Go.Proofs.YtphoodnclmplhaaDoor
open Go.RowKit

def hasT (T : Tab) (p hd : ByteArray) (f : Int) : Bool := match lk T.m p with
  | none => false
  | some l => hldB T.clk l.holder l.fence l.since l.til hd f
theorem holds_any (b m : Nat) (T : Tab) (p hd : ByteArray) (f : Int) (w : World) (hT : TabT b m T w) :
    Calls Tryd.prog 14 #[.pointer (some ⟨b, 0, none⟩), .string p, .string hd, .int .i64 f] w fun e w' => e = .returned (.bool (hasT T p hd f)) ∧ Below w.heap.size w w' := by
  unfold hasT
  cases hl : lk T.m p with
  | none => exact holds_none b m T.clk _ p hd f w hT (by rw [look_enc, hl]; rfl)
  | some l =>
    obtain ⟨lp, lh, lf, ls, lu⟩ := l
    exact holds_some w hT (by rw [look_enc, hl]; rfl) rfl
theorem current_any (b m : Nat) (T : Tab) (p : ByteArray) (w : World) (hT : TabT b m T w) :
    Calls Tryd.prog 12 #[.pointer (some ⟨b, 0, none⟩), .string p] w fun e w' => e = .returned (.tuple #[((lk T.m p).getD zeroL).val, .bool (lk T.m p).isSome]) ∧ Below w.heap.size w w' := by
  cases hl : lk T.m p with
  | none => exact current_none b m T.clk _ p w hT (by rw [look_enc, hl]; rfl)
  | some l =>
    obtain ⟨lp, lh, lf, ls, lu⟩ := l
    exact current_some b m T.clk _ p lp lh lf ls lu w hT (by rw [look_enc, hl]; rfl)
theorem TabT.other {b m r lb : Nat} {T : Tab} {w w' : World} (h : TabT b m T w) (ho : Only r lb w w') (h1 : b ≠ r) (h2 : b ≠ lb) (h3 : m ≠ r) (h4 : m ≠ lb) : TabT b m T w' := by
  have h' : TabAt b m T.clk (encL T.m) w := h
  have hb : w'.heap[b]? = w.heap[b]? := ho.block b h'.lt h1 h2
  have hm := h'.mp.of_block (ho.block m h'.mp.lt h3 h4)
  have hc : ∀ o, w'.cell? ⟨b, o, none⟩ = w.cell? ⟨b, o, none⟩ := fun o => by simp [World.cell?, hb]
  have hf : ∀ o, w'.frozen? ⟨b, o, none⟩ = w.frozen? ⟨b, o, none⟩ := fun o => by simp [World.frozen?, hb]
  exact ⟨(hc 0).trans h'.c0, (hc 1).trans h'.c1, (hf 0).trans h'.f0, (hf 1).trans h'.f1, hm, Nat.lt_of_lt_of_le h'.lt ho.size, h'.ne⟩

/-- What holds of the reference's log behind k calls. -/
structure RInv (k : Nat) (R : RTab) : Prop where
  all : ∀ x ∈ R.log, 0 ≤ x.fence ∧ x.path.size ≤ 1048576
  ln : R.log.length ≤ k
theorem mem_setR {l : List Lease} {p : ByteArray} {x y : Lease} (h : y ∈ setR l p x) : y = x ∨ y ∈ l := by
  unfold setR at h
  split at h
  · exact .inr h
  · exact (List.mem_or_eq_of_mem_set h).symm
theorem setR_len (l : List Lease) (p : ByteArray) (x : Lease) : (setR l p x).length = l.length := by
  unfold setR
  split
  · rfl
  · rw [List.length_set]
theorem RInv.more {k : Nat} {R : RTab} (h : RInv k R) : RInv (k + 1) R := ⟨h.all, Nat.le_succ_of_le h.ln⟩
theorem RInv.clk {k : Nat} {R : RTab} (h : RInv k R) (c : Int) : RInv k ⟨c, R.log⟩ := ⟨h.all, h.ln⟩
theorem RInv.add {k : Nat} {R : RTab} (h : RInv k R) {c : Int} {x : Lease} (h1 : 0 ≤ x.fence) (h2 : x.path.size ≤ 1048576) : RInv (k + 1) ⟨c, R.log ++ [x]⟩ :=
  ⟨fun y hy => by
    rcases List.mem_append.1 hy with hy | hy
    · exact h.all y hy
    · rw [List.mem_singleton] at hy; subst hy; exact ⟨h1, h2⟩, by have := h.ln; simp; omega⟩
theorem RInv.set {k : Nat} {R : RTab} (h : RInv k R) {c : Int} {p : ByteArray} {x : Lease} (h1 : 0 ≤ x.fence) (h2 : x.path.size ≤ 1048576) : RInv (k + 1) ⟨c, setR R.log p x⟩ :=
  ⟨fun y hy => by
    rcases mem_setR hy with rfl | hy
    · exact ⟨h1, h2⟩
    · exact h.all y hy, by have := h.ln; rw [setR_len]; omega⟩
theorem rinv_acq {k : Nat} {R : RTab} (h : RInv k R) (p hd : ByteArray) (n : Int) (hp : p.size ≤ 1048576) : RInv (k + 1) (racq R p hd n).1 := by
  unfold racq
  split
  · exact h.more
  split
  · exact h.more
  split
  · exact h.more
  split
  · split
    · exact h.more
    · exact h.add (by simp) hp
  · rename_i l hl
    split
    · exact h.more
    split
    · exact h.more
    · exact h.add (by have := (h.all l (rlk_path hl).2).1; dsimp only; omega) hp
theorem rinv_ren {k : Nat} {R : RTab} (h : RInv k R) (p hd : ByteArray) (f n : Int) : RInv (k + 1) (rren R p hd f n).1 := by
  unfold rren
  split
  · exact h.more
  split
  · exact h.more
  · rename_i l hl
    have := h.all l (rlk_path hl).2
    split
    · exact h.set this.1 this.2
    · exact h.more
theorem rinv_end {k : Nat} {R : RTab} {p : ByteArray} {l : Lease} (h : RInv k R) (hl : rlk R.log p = some l) : RInv (k + 1) (rend19 R p l) := by
  have := h.all l (rlk_path hl).2
  exact h.set this.1 this.2
theorem rinv_do {k : Nat} {R : RTab} (h : RInv k R) (o : LOp) (hp : o.p.size ≤ 1048576) : RInv (k + 1) (rdo R o).1 := by
  unfold rdo
  split
  · exact rinv_acq h _ _ _ hp
  split
  · exact rinv_ren h _ _ _ _
  split
  · dsimp only
    unfold rrel
    split
    · exact h.more
    · split
      · exact rinv_end h ‹_›
      · exact h.more
  split
  · dsimp only
    unfold rbrk
    split
    · exact h.more
    · split
      · exact rinv_end h ‹_›
      · exact h.more
  · dsimp only
    unfold radv
    split
    · exact h.more
    · exact h.more.clk _

def runR (R : RTab) (l : List LOp) : RTab := l.foldl (fun R o => (rdo R o).1) R
/-- Both tables stand side by side. -/
structure JS (k b m r lb : Nat) (T : Tab) (R : RTab) (w0 x : World) : Prop where
  t : TabT b m T x
  rr : RAt r lb R x
  sim : Sim T R
  inv : TabInv k T
  rin : RInv k R
  old : Below w0.heap.size w0 x
  lo : w0.heap.size ≤ b ∧ w0.heap.size ≤ m ∧ w0.heap.size ≤ r ∧ w0.heap.size ≤ lb
  ne : b ≠ r ∧ b ≠ lb ∧ m ≠ r ∧ m ≠ lb
section
variable {k b m r lb : Nat} {T : Tab} {R : RTab} {w0 x : World}
theorem JS.below (h : JS k b m r lb T R w0 x) {y : World} (hb : Below x.heap.size x y) : JS k b m r lb T R w0 y :=
  ⟨TabAt.after h.t hb, h.rr.below hb, h.sim, h.inv, h.rin, h.old.trans (hb.mono h.old.size), h.lo, h.ne⟩
theorem JS.paths (h : JS k b m r lb T R w0 x) : ∀ y ∈ T.m, y.2.path = y.1 := fun y hy => (h.inv.all y hy).path
theorem JS.acqH (h : JS k b m r lb T R w0 x) (hg : G0 w0) (hk : k ≤ 1000000) {p hd : ByteArray} (hp : p.size ≤ 1048576) (hh : hd.size ≤ 1048576) : AcqH R p hd x :=
  ⟨by rw [← h.sim.clk]; exact h.inv.c0, by rw [← h.sim.clk]; exact h.inv.c1, fun y hy => (h.rin.all y hy).1, fun y hy => (h.rin.all y hy).2, by have := h.rin.ln; omega, hp, hh, hg.below h.old⟩
/-- Behind a call of the program's table: the reference's is where it was. -/
theorem JS.mid (h : JS k b m r lb T R w0 x) {y : World} (ho : Only b m x y) : RAt r lb R y ∧ Below w0.heap.size w0 y :=
  ⟨h.rr.only ho h.ne.1.symm h.ne.2.2.1.symm h.ne.2.1.symm h.ne.2.2.2.symm, h.old.trans (ho.below h.old.size h.lo.1 h.lo.2.1)⟩
theorem JS.next (h : JS k b m r lb T R w0 x) (o : LOp) (hp : o.p.size ≤ 1048576) {y z : World} {lb' : Nat} (ho : Only b m x y) (hT : TabT b m (doT T o).1 y) (hR : RAt r lb' (rdo R o).1 z) (ho2 : Only r lb y z) (hor : lb' = lb ∨ y.heap.size ≤ lb') :
    (doT T o).2 = (rdo R o).2 ∧ JS (k + 1) b m r lb' (doT T o).1 (rdo R o).1 w0 z := by
  have hs := sim_do h.sim h.paths o
  have hT' : TabAt b m _ _ y := hT
  have hlo := h.lo
  have hys := ho.size
  have hxs := h.old.size
  have hbl := hT'.lt
  have hml := hT'.mp.lt
  refine ⟨hs.1, hT.other ho2 h.ne.1 h.ne.2.1 h.ne.2.2.1 h.ne.2.2.2, hR, hs.2, inv_do h.inv o, rinv_do h.rin o hp, (h.mid ho).2.trans (ho2.below (by omega) hlo.2.2.1 hlo.2.2.2), ⟨hlo.1, hlo.2.1, hlo.2.2.1, ?_⟩, h.ne.1, ?_, h.ne.2.2.1, ?_⟩
  · rcases hor with rfl | h1
    · exact hlo.2.2.2
    · omega
  · rcases hor with rfl | h1
    · exact h.ne.2.1
    · omega
  · rcases hor with rfl | h1
    · exact h.ne.2.2.2
    · omega
theorem JS.has (h : JS k b m r lb T R w0 x) (p hd : ByteArray) (f : Int) : hasT T p hd f = rhas R p hd f := sim_has h.sim p hd f
end
/-- A new table of the program's, and one of the reference's. -/
theorem JS.new {w w1 : World} (hT : TabT (w.heap.size + 1) w.heap.size ⟨0, []⟩ w1) (hb : Below w.heap.size w w1) : JS 0 (w.heap.size + 1) w.heap.size w1.heap.size w1.heap.size ⟨0, []⟩ ⟨0, []⟩ w (w1.alloc (.cells #[.int .i64 0, .slice none 0 0] 28)) := by
  have hT' : TabAt _ _ _ _ w1 := hT
  have h1 := hT'.lt
  have hbs := hb.size
  exact ⟨TabAt.alloc hT _, ⟨by simp, none, 0, Blk.new w1 28 _, .inl ⟨rfl, rfl, rfl⟩⟩, Sim.new, inv_new, ⟨fun x hx => by simp at hx, by simp⟩, hb.alloc hbs _, ⟨by omega, by omega, by omega, by omega⟩, by omega, by omega, by omega, by omega⟩

end Go.Proofs.YtphoodnclmplhaaDoor
