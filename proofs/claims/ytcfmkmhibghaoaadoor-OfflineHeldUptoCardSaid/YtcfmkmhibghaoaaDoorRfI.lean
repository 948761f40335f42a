/-
  The reference's table by itself: what holds of it behind any calls.
-/
import Derived.Test.YtcfmkmhibghaoaaDoorRf5
namespace Go.Proofs.YtcfmkmhibghaoaaDoor
open Go.RowKit

/-- What holds of the reference's log behind k calls. -/
structure RInv (k : Nat) (R : RTab) : Prop where
  all : ∀ x ∈ R.log, 0 ≤ x.fence ∧ x.path.size ≤ 1048576
  ln : R.log.length ≤ k
theorem mem_setR {l : List Lease} {p : ByteArray} {x y : Lease} (h : y ∈ setR l p x) : y = x ∨ y ∈ l := by
  unfold setR at h
  split at h
  · exact .inr h
  · exact (List.mem_or_eq_of_mem_set h).symm
theorem setR_len (l : List Lease) (p : ByteArray) (x : Lease) : (setR l p x).length = l.length := by
  unfold setR
  split
  · rfl
  · rw [List.length_set]
theorem RInv.more {k : Nat} {R : RTab} (h : RInv k R) : RInv (k + 1) R := ⟨h.all, Nat.le_succ_of_le h.ln⟩
theorem RInv.clk {k : Nat} {R : RTab} (h : RInv k R) (c : Int) : RInv k ⟨c, R.log⟩ := ⟨h.all, h.ln⟩
theorem RInv.add {k : Nat} {R : RTab} (h : RInv k R) {c : Int} {x : Lease} (h1 : 0 ≤ x.fence) (h2 : x.path.size ≤ 1048576) : RInv (k + 1) ⟨c, R.log ++ [x]⟩ :=
  ⟨fun y hy => by
    rcases List.mem_append.1 hy with hy | hy
    · exact h.all y hy
    · rw [List.mem_singleton] at hy; subst hy; exact ⟨h1, h2⟩, by have := h.ln; simp; omega⟩
theorem RInv.set {k : Nat} {R : RTab} (h : RInv k R) {c : Int} {p : ByteArray} {x : Lease} (h1 : 0 ≤ x.fence) (h2 : x.path.size ≤ 1048576) : RInv (k + 1) ⟨c, setR R.log p x⟩ :=
  ⟨fun y hy => by
    rcases mem_setR hy with rfl | hy
    · exact ⟨h1, h2⟩
    · exact h.all y hy, by have := h.ln; rw [setR_len]; omega⟩
theorem rinv_acq {k : Nat} {R : RTab} (h : RInv k R) (p hd : ByteArray) (n : Int) (hp : p.size ≤ 1048576) : RInv (k + 1) (racq R p hd n).1 := by
  unfold racq
  split
  · exact h.more
  split
  · exact h.more
  split
  · exact h.more
  split
  · split
    · exact h.more
    · exact h.add (by simp) hp
  · rename_i l hl
    split
    · exact h.more
    split
    · exact h.more
    · exact h.add (by have := (h.all l (rlk_path hl).2).1; dsimp only; omega) hp
theorem rinv_ren {k : Nat} {R : RTab} (h : RInv k R) (p hd : ByteArray) (f n : Int) : RInv (k + 1) (rren R p hd f n).1 := by
  unfold rren
  split
  · exact h.more
  split
  · exact h.more
  · rename_i l hl
    have := h.all l (rlk_path hl).2
    split
    · exact h.set this.1 this.2
    · exact h.more
theorem rinv_end {k : Nat} {R : RTab} {p : ByteArray} {l : Lease} (h : RInv k R) (hl : rlk R.log p = some l) : RInv (k + 1) (rend19 R p l) := by
  have := h.all l (rlk_path hl).2
  exact h.set this.1 this.2
theorem rinv_do {k : Nat} {R : RTab} (h : RInv k R) (o : LOp) (hp : o.p.size ≤ 1048576) : RInv (k + 1) (rdo R o).1 := by
  unfold rdo
  split
  · exact rinv_acq h _ _ _ hp
  split
  · exact rinv_ren h _ _ _ _
  split
  · dsimp only
    unfold rrel
    split
    · exact h.more
    · split
      · exact rinv_end h ‹_›
      · exact h.more
  split
  · dsimp only
    unfold rbrk
    split
    · exact h.more
    · split
      · exact rinv_end h ‹_›
      · exact h.more
  · dsimp only
    unfold radv
    split
    · exact h.more
    · exact h.more.clk _

def runR (R : RTab) (l : List LOp) : RTab := l.foldl (fun R o => (rdo R o).1) R
def ClkOk (R : RTab) : Prop := 0 ≤ R.clk ∧ R.clk ≤ 1099511627776
theorem clk_do {R : RTab} (h : ClkOk R) (o : LOp) : ClkOk (rdo R o).1 := by
  have ha : ∀ p hd n, (racq R p hd n).1.clk = R.clk := fun p hd n => by
    unfold racq
    repeat' split
    all_goals rfl
  have hr : ∀ p hd f n, (rren R p hd f n).1.clk = R.clk := fun p hd f n => by
    unfold rren
    repeat' split
    all_goals rfl
  have he : ∀ p hd f, (rrel R p hd f).1.clk = R.clk := fun p hd f => by
    unfold rrel rend19
    repeat' split
    all_goals rfl
  have hb : ∀ p, (rbrk R p).1.clk = R.clk := fun p => by
    unfold rbrk rend19
    repeat' split
    all_goals rfl
  unfold ClkOk at *
  unfold rdo
  split
  · rw [ha]; exact h
  split
  · rw [hr]; exact h
  split
  · dsimp only; rw [he]; exact h
  split
  · dsimp only; rw [hb]; exact h
  · dsimp only
    unfold radv
    split
    · exact h
    · dsimp only
      omega
/-- The reference's table at r, behind k calls. -/
structure RS (k r lb : Nat) (R : RTab) (w0 x : World) : Prop where
  rr : RAt r lb R x
  rin : RInv k R
  ck : ClkOk R
  old : Below w0.heap.size w0 x
  lo : w0.heap.size ≤ r ∧ w0.heap.size ≤ lb
theorem RS.below {k r lb : Nat} {R : RTab} {w0 x y : World} (h : RS k r lb R w0 x) (hb : Below x.heap.size x y) : RS k r lb R w0 y := ⟨h.rr.below hb, h.rin, h.ck, h.old.trans (hb.mono h.old.size), h.lo⟩
theorem RS.acqH {k r lb : Nat} {R : RTab} {w0 x : World} (h : RS k r lb R w0 x) (hg : G0 w0) (hk : k ≤ 1000000) {p hd : ByteArray} (hp : p.size ≤ 1048576) (hh : hd.size ≤ 1048576) : AcqH R p hd x :=
  ⟨h.ck.1, h.ck.2, fun y hy => (h.rin.all y hy).1, fun y hy => (h.rin.all y hy).2, by have := h.rin.ln; omega, hp, hh, hg.below h.old⟩
theorem RS.next {k r lb lb' : Nat} {R : RTab} {w0 x z : World} (h : RS k r lb R w0 x) (o : LOp) (hp : o.p.size ≤ 1048576) (hR : RAt r lb' (rdo R o).1 z) (ho : Only r lb x z) (hor : lb' = lb ∨ x.heap.size ≤ lb') : RS (k + 1) r lb' (rdo R o).1 w0 z :=
  ⟨hR, rinv_do h.rin o hp, clk_do h.ck o, h.old.trans (ho.below h.old.size h.lo.1 h.lo.2), h.lo.1, by
    rcases hor with rfl | hor
    · exact h.lo.2
    · exact Nat.le_trans h.old.size hor⟩
theorem RS.new {w w1 : World} (hb : Below w.heap.size w w1) : RS 0 w1.heap.size w1.heap.size ⟨0, []⟩ w (w1.alloc (.cells #[.int .i64 0, .slice none 0 0] 48)) :=
  ⟨⟨by simp, none, 0, Blk.new w1 48 _, .inl ⟨rfl, rfl, rfl⟩⟩, ⟨fun x hx => by simp at hx, by simp⟩, ⟨by decide, by decide⟩, hb.alloc hb.size _, hb.size, hb.size⟩
end Go.Proofs.YtcfmkmhibghaoaaDoor
