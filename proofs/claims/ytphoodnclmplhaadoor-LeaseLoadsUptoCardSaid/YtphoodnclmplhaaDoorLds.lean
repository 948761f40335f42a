/-
  LeaseLoads returns true for every time, leases and operations whose texts are not longer than memory; what was in memory before the call stays as it was.
-/
import Derived.Test.YtphoodnclmplhaaDoorSame
import Derived.Test.YtphoodnclmplhaaDoorRLd
namespace Go.Proofs.YtphoodnclmplhaaDoor
open Go.RowKit

theorem rload_any (clk : Int) (A : Option Addr) (c : Nat) (l : List Lease) (w : World) (hA : LsIn A l w) (hg : G0 w) (hz : ∀ x ∈ l, x.path.size ≤ 1048576 ∧ x.holder.size ≤ 1048576) :
    Calls Tryd.prog 24 #[.int .i64 clk, .slice A l.length c] w (RLoadP clk l w) := by
  by_cases h : clk < 0 ∨ 1099511627776 < clk ∨ 64 < l.length
  · exact rload_lim clk A c l w h
  · exact rload_in clk A c l w hA (by omega) (by omega) (by omega) hg hz

/-- Both tables stand side by side. -/
structure JL (K k b m r lb : Nat) (T : Tab) (R : RTab) (w0 x : World) : Prop where
  t : TabT b m T x
  rr : RAt r lb R x
  sim : Sim T R
  inv : TabInv K T
  rin : RInv k R
  old : Below w0.heap.size w0 x
  lo : w0.heap.size ≤ b ∧ w0.heap.size ≤ m ∧ w0.heap.size ≤ r ∧ w0.heap.size ≤ lb
  ne : b ≠ r ∧ b ≠ lb ∧ m ≠ r ∧ m ≠ lb
section
variable {K k b m r lb : Nat} {T : Tab} {R : RTab} {w0 x : World}
theorem JL.below (h : JL K k b m r lb T R w0 x) {y : World} (hb : Below x.heap.size x y) : JL K k b m r lb T R w0 y :=
  ⟨TabAt.after h.t hb, h.rr.below hb, h.sim, h.inv, h.rin, h.old.trans (hb.mono h.old.size), h.lo, h.ne⟩
theorem JL.paths (h : JL K k b m r lb T R w0 x) : ∀ y ∈ T.m, y.2.path = y.1 := fun y hy => (h.inv.all y hy).path
theorem JL.acqH (h : JL K k b m r lb T R w0 x) (hg : G0 w0) (hk : k ≤ 1000000) {p hd : ByteArray} (hp : p.size ≤ 1048576) (hh : hd.size ≤ 1048576) : AcqH R p hd x :=
  ⟨by rw [← h.sim.clk]; exact h.inv.c0, by rw [← h.sim.clk]; exact h.inv.c1, fun y hy => (h.rin.all y hy).1, fun y hy => (h.rin.all y hy).2, by have := h.rin.ln; omega, hp, hh, hg.below h.old⟩
/-- Behind a call of the program's table: the reference's is where it was. -/
theorem JL.mid (h : JL K k b m r lb T R w0 x) {y : World} (ho : Only b m x y) : RAt r lb R y ∧ Below w0.heap.size w0 y :=
  ⟨h.rr.only ho h.ne.1.symm h.ne.2.2.1.symm h.ne.2.1.symm h.ne.2.2.2.symm, h.old.trans (ho.below h.old.size h.lo.1 h.lo.2.1)⟩
theorem JL.next (h : JL K k b m r lb T R w0 x) (o : LOp) (hp : o.p.size ≤ 1048576) {y z : World} {lb' : Nat} (ho : Only b m x y) (hT : TabT b m (doT T o).1 y) (hR : RAt r lb' (rdo R o).1 z) (ho2 : Only r lb y z) (hor : lb' = lb ∨ y.heap.size ≤ lb') :
    (doT T o).2 = (rdo R o).2 ∧ JL (K + 1) (k + 1) b m r lb' (doT T o).1 (rdo R o).1 w0 z := by
  have hs := sim_do h.sim h.paths o
  have hT' : TabAt b m _ _ y := hT
  have hlo := h.lo
  have hys := ho.size
  have hxs := h.old.size
  have hbl := hT'.lt
  have hml := hT'.mp.lt
  refine ⟨hs.1, hT.other ho2 h.ne.1 h.ne.2.1 h.ne.2.2.1 h.ne.2.2.2, hR, hs.2, inv_do h.inv o, rinv_do h.rin o hp, (h.mid ho).2.trans (ho2.below (by omega) hlo.2.2.1 hlo.2.2.2), ⟨hlo.1, hlo.2.1, hlo.2.2.1, ?_⟩, h.ne.1, ?_, h.ne.2.2.1, ?_⟩
  · rcases hor with rfl | h1
    · exact hlo.2.2.2
    · omega
  · rcases hor with rfl | h1
    · exact h.ne.2.1
    · omega
  · rcases hor with rfl | h1
    · exact h.ne.2.2.2
    · omega
end
theorem JL.tok {K k b m r lb : Nat} {T : Tab} {R : RTab} {w0 x : World} (h : JL K k b m r lb T R w0 x) : TOk T := h.inv.tok h.sim.once
theorem JL.len {K k b m r lb : Nat} {T : Tab} {R : RTab} {w0 x : World} (h : JL K k b m r lb T R w0 x) : T.m.length ≤ k := by
  rw [h.sim.len h.paths]
  exact Nat.le_trans (curP_len [] R.log) h.rin.ln
theorem JL.all {K k b m r lb : Nat} {T : Tab} {R : RTab} {w0 x : World} (h : JL K k b m r lb T R w0 x) (hg : G0 w0) (hk : k ≤ 1000000) :
    ∃ E : List Lease, E.length ≤ k ∧ (∀ y, Below x.heap.size x y → Calls Tryd.prog 19 #[.pointer (some ⟨b, 0, none⟩)] y (AllE E y)) ∧ (∀ y, Below x.heap.size x y → Calls Tryd.prog 22 #[.pointer (some ⟨r, 0, none⟩)] y (AllE E y)) := by
  obtain ⟨E, h1, h2⟩ := tab_sorted h.tok
  have hl := h.len
  have hlen : E.length ≤ k := by
    have := h2.length_eq
    simp at this
    omega
  refine ⟨E, hlen, fun y hy => ?_, fun y hy => ?_⟩
  · exact (tall_any b m T (by omega) y (h.below hy).t h.tok).mono fun e w' hh => AllP.toE hh h1 h2
  · exact (rall_any r lb R y (h.below hy).rr (hg.below (h.below hy).old) (fun z hz => (h.rin.all z hz).2) (by have := h.rin.ln; omega)).mono fun e w' hh => AllP.toE hh h1 (h2.trans (h.sim.perm h.paths))


theorem load_parts {clk : Int} {l : List Lease} (h : loadB clk l = true) : 0 ≤ clk ∧ clk ≤ 1099511627776 ∧ l.length ≤ 64 ∧ ldOk clk l = true := by
  unfold loadB at h
  simp only [Bool.and_eq_true, decide_eq_true_eq] at h
  exact ⟨h.1.1.1, h.1.1.2, h.1.2, h.2⟩
theorem ld_once {clk : Int} {l : List Lease} (h : ldOk clk l = true) : ((tabOf clk l).m.map (·.1)).Nodup := by
  have e : (tabOf clk l).m.map (·.1) = l.map (·.path) := by simp [tabOf, List.map_map, Function.comp_def]
  rw [e]
  refine List.Pairwise.map _ (fun a b hab e => ?_) (ldOk_all h).2
  rw [e, pcmp_self] at hab
  omega
theorem ld_sim {clk : Int} {l : List Lease} (h : ldOk clk l = true) : Sim (tabOf clk l) ⟨clk, l⟩ := by
  refine ⟨rfl, fun p => ?_, ld_once h⟩
  have hin : ∀ x ∈ l, (x.path, x) ∈ (tabOf clk l).m := fun x hx => List.mem_map.2 ⟨x, hx, rfl⟩
  cases hr : rlk l p with
  | some x =>
    obtain ⟨h1, h2⟩ := rlk_path hr
    have := lk_of_mem (ld_once h) (hin x h2)
    dsimp only at this
    rw [h1] at this
    exact this
  | none =>
    cases hl : lk (tabOf clk l).m p with
    | none => rfl
    | some y =>
      obtain ⟨z, hz, e1, _⟩ := lk_mem hl
      obtain ⟨x, hx, rfl⟩ := List.mem_map.1 hz
      obtain ⟨y', hy⟩ := rlk_mem hx
      dsimp only at e1
      rw [← e1, hr] at hy
      cases hy
theorem ld_inv {clk : Int} {l : List Lease} (h : loadB clk l = true) : TabInv 1073741824 (tabOf clk l) := by
  obtain ⟨h0, h1, _, h3⟩ := load_parts h
  refine ⟨h0, h1, fun y hy => ?_⟩
  obtain ⟨x, hx, rfl⟩ := List.mem_map.1 hy
  have hp := (ldOk_all h3).1 x hx
  unfold possB at hp
  simp only [Bool.and_eq_true, decide_eq_true_eq] at hp
  exact ⟨rfl, hp.1.1.1.1.1.1.1, hp.1.1.1.1.1.1.2, hp.1.1.1.1.1.2, hp.1.1.1.1.2, hp.1.1.1.2, hp.1.1.2⟩
theorem ld_srt {clk : Int} {l : List Lease} (h : ldOk clk l = true) : SrtL l := by
  obtain ⟨h1, h2⟩ := ldOk_all h
  refine List.Pairwise.imp_of_mem (fun {a b} ha hb hab => ?_) h2
  rw [ordH_valid (okP_path (possB_path (h1 a ha))).2 (okP_path (possB_path (h1 b hb))).2]
  exact hab

end Go.Proofs.YtphoodnclmplhaaDoor
