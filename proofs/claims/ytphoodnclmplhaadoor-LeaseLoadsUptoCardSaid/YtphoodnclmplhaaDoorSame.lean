/-
  All of both tables.
-/
import Derived.Test.YtphoodnclmplhaaDoorRf6
import Derived.Test.YtphoodnclmplhaaDoorSam0
namespace Go.Proofs.YtphoodnclmplhaaDoor
open Go.RowKit

theorem JS.tok {k b m r lb : Nat} {T : Tab} {R : RTab} {w0 x : World} (h : JS k b m r lb T R w0 x) : TOk T := h.inv.tok h.sim.once
theorem JS.len {k b m r lb : Nat} {T : Tab} {R : RTab} {w0 x : World} (h : JS k b m r lb T R w0 x) : T.m.length ≤ k := by
  rw [h.sim.len h.paths]
  exact Nat.le_trans (curP_len [] R.log) h.rin.ln
theorem JS.all {k b m r lb : Nat} {T : Tab} {R : RTab} {w0 x : World} (h : JS k b m r lb T R w0 x) (hg : G0 w0) (hk : k ≤ 1000000) :
    ∃ E : List Lease, E.length ≤ k ∧ (∀ y, Below x.heap.size x y → Calls Tryd.prog 19 #[.pointer (some ⟨b, 0, none⟩)] y (AllE E y)) ∧ (∀ y, Below x.heap.size x y → Calls Tryd.prog 22 #[.pointer (some ⟨r, 0, none⟩)] y (AllE E y)) := by
  obtain ⟨E, h1, h2⟩ := tab_sorted h.tok
  have hl := h.len
  have hlen : E.length ≤ k := by
    have := h2.length_eq
    simp at this
    omega
  refine ⟨E, hlen, fun y hy => ?_, fun y hy => ?_⟩
  · exact (tall_any b m T (by omega) y (h.below hy).t h.tok).mono fun e w' hh => AllP.toE hh h1 h2
  · exact (rall_any r lb R y (h.below hy).rr (hg.below (h.below hy).old) (fun z hz => (h.rin.all z hz).2) (by have := h.rin.ln; omega)).mono fun e w' hh => AllP.toE hh h1 (h2.trans (h.sim.perm h.paths))

end Go.Proofs.YtphoodnclmplhaaDoor
