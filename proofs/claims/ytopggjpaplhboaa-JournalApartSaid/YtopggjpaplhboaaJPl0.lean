/-
  A journal, its device, a tape and the reference's journal in a box: what each step leaves of them.
-/
import Derived.Test.YtopggjpaplhboaaRef3
import Derived.Test.YtopggjpaplhboaaJGrp
namespace Go.Proofs.Ytopggjpaplhboaa
open Go.RowKit

structure Pl (w : World) (g : Gh) (x : World) (t d wb j : Nat) (J : Jrn) (D : Dev) (m : Nat) (R : RefR) (A1 : Option Addr) (c1 : Nat) (A2 : Option Addr) (c2 : Nat) : Prop where
  hx : Ext (fun o => w.heap.size ≤ o) (ghW w) w g x
  hJ : JAt g x j d J
  hD : DevAt g x d D
  ht : TapeAt g x t m
  hb : Blk wb 48 [.int .i64 R.start, .slice A1 R.recs.length c1, .slice A2 R.pend.length c2] x
  r1 : RecsAt g x A1 c1 R.recs
  r2 : RecsAt g x A2 c2 R.pend
  O : g.O wb = wb
  F : g.F wb = 0
  nj : j ≠ wb
  nt : j ≠ t
  jw : w.heap.size ≤ j
  dw : w.heap.size ≤ d
  tw : w.heap.size ≤ t
  bw : w.heap.size ≤ wb
  dt : d ≠ t
  db : d ≠ wb
  tb : t ≠ wb

section
variable {w : World} {g : Gh} {x : World} {t d wb j : Nat} {J : Jrn} {D : Dev} {m : Nat} {R : RefR} {A1 : Option Addr} {c1 : Nat} {A2 : Option Addr} {c2 : Nat}
theorem Pl.op (h : Pl w g x t d wb j J D m R A1 c1 A2 c2) {J' : Jrn} {D' : Dev} {x' : World} (hP : BothP j d g x J' D' x') : ∃ g', Pl w g' x' t d wb j J' D' m R A1 c1 A2 c2 ∧ Ext (fun o => o = d ∨ o = j) g x g' x' := by
  obtain ⟨g', hx, hj, hd⟩ := hP
  have lb := h.hb.lt
  refine ⟨g', ⟨h.hx.trans (hx.imp (fun o ho => by rcases ho with rfl | rfl; exact h.dw; exact h.jw)), hj, hd, h.ht.ext hx (fun e => by rcases e with e | e; exact h.dt e.symm; exact h.nt e.symm), h.hb.ext hx (by rw [h.O]; exact fun e => by rcases e with e | e; exact h.db e.symm; exact h.nj e.symm), h.r1.ext hx, h.r2.ext hx, (hx.own _ lb).trans h.O, hx.zero _ lb h.F, h.nj, h.nt, h.jw, h.dw, h.tw, h.bw, h.dt, h.db, h.tb⟩, hx⟩
theorem Pl.step (h : Pl w g x t d wb j J D m R A1 c1 A2 c2) {g' : Gh} {x' : World} {M : Nat → Prop} (hx : Ext M g x g' x') (hM : ∀ o, M o → x.heap.size ≤ o) : Pl w g' x' t d wb j J D m R A1 c1 A2 c2 := by
  have lb := h.hb.lt
  exact ⟨h.hx.trans (hx.imp (fun o ho => Nat.le_trans h.hx.size (hM o ho))), h.hJ.ext hx (fun e => absurd (hM _ e) (by have := h.hJ.lt; omega)), h.hD.ext hx (fun e => absurd (hM _ e) (by have := h.hD.lt; omega)), h.ht.ext hx (fun e => absurd (hM _ e) (by have := h.ht.lt; omega)), h.hb.ext hx (by rw [h.O]; exact fun e => absurd (hM _ e) (by omega)), h.r1.ext hx, h.r2.ext hx, (hx.own _ lb).trans h.O, hx.zero _ lb h.F, h.nj, h.nt, h.jw, h.dw, h.tw, h.bw, h.dt, h.db, h.tb⟩
theorem Pl.same (h : Pl w g x t d wb j J D m R A1 c1 A2 c2) {g' : Gh} {x' : World} (hx : Ext (fun _ => False) g x g' x') : Pl w g' x' t d wb j J D m R A1 c1 A2 c2 := h.step hx (fun _ h => h.elim)
theorem Pl.tape (h : Pl w g x t d wb j J D m R A1 c1 A2 c2) {g' : Gh} {x' : World} {m' : Nat} (hx : Ext (· = t) g x g' x') (ht : TapeAt g' x' t m') : Pl w g' x' t d wb j J D m' R A1 c1 A2 c2 := by
  have lb := h.hb.lt
  exact ⟨h.hx.trans (hx.imp (fun o e => by subst e; exact h.tw)), h.hJ.ext hx h.nt, h.hD.ext hx h.dt, ht, h.hb.ext hx (by rw [h.O]; exact fun e => h.tb e.symm), h.r1.ext hx, h.r2.ext hx, (hx.own _ lb).trans h.O, hx.zero _ lb h.F, h.nj, h.nt, h.jw, h.dw, h.tw, h.bw, h.dt, h.db, h.tb⟩
/-- The box alone is written. -/
theorem Pl.boxed (h : Pl w g x t d wb j J D m R A1 c1 A2 c2) {x' : World} {R' : RefR} {B1 : Option Addr} {e1 : Nat} {B2 : Option Addr} {e2 : Nat} (hg : x.grownBy x' (some wb)) (hb : Blk wb 48 [.int .i64 R'.start, .slice B1 R'.recs.length e1, .slice B2 R'.pend.length e2] x') (h1 : RecsAt g x B1 e1 R'.recs) (h2 : RecsAt g x B2 e2 R'.pend) : Pl w g x' t d wb j J D m R' B1 e1 B2 e2 := by
  have hx : Ext (· = wb) g x g x' := (Ext.refl (· = wb) g x).one hg (fun _ => h.O) h.F
  exact ⟨h.hx.trans (hx.imp (fun o e => by subst e; exact h.bw)), h.hJ.ext hx h.nj, h.hD.ext hx h.db, h.ht.ext hx h.tb, hb, h1.ext hx, h2.ext hx, h.O, h.F, h.nj, h.nt, h.jw, h.dw, h.tw, h.bw, h.dt, h.db, h.tb⟩
theorem grown3 (x : World) (b : Nat) (u v y : Value) : x.grownBy (((x.setCell ⟨b, 0, none⟩ u).setCell ⟨b, 1, none⟩ v).setCell ⟨b, 2, none⟩ y) (some b) := by
  have h1 := grownBy_setCell x ⟨b, 0, none⟩ u
  have h2 := grownBy_setCell (x.setCell ⟨b, 0, none⟩ u) ⟨b, 1, none⟩ v
  have h3 := grownBy_setCell ((x.setCell ⟨b, 0, none⟩ u).setCell ⟨b, 1, none⟩ v) ⟨b, 2, none⟩ y
  exact ⟨h3.os.trans (h2.os.trans h1.os), h3.tape.trans (h2.tape.trans h1.tape), h3.output.trans (h2.output.trans h1.output), Nat.le_trans h1.size (Nat.le_trans h2.size h3.size), fun k hk hne => (h3.block k (by have := h1.size; have := h2.size; omega) hne).trans ((h2.block k (by have := h1.size; omega) hne).trans (h1.block k hk hne))⟩
theorem Pl.store (h : Pl w g x t d wb j J D m R A1 c1 A2 c2) {R' : RefR} {B1 : Option Addr} {e1 : Nat} {B2 : Option Addr} {e2 : Nat} (h1 : RecsAt g x B1 e1 R'.recs) (h2 : RecsAt g x B2 e2 R'.pend) : Pl w g (((x.setCell ⟨wb, 0, none⟩ (.int .i64 R'.start)).setCell ⟨wb, 1, none⟩ (.slice B1 R'.recs.length e1)).setCell ⟨wb, 2, none⟩ (.slice B2 R'.pend.length e2)) t d wb j J D m R' B1 e1 B2 e2 := by
  refine h.boxed (grown3 x wb _ _ _) ?_ h1 h2
  have := ((h.hb.set 0 (.int .i64 R'.start)).set 1 (.slice B1 R'.recs.length e1)).set 2 (.slice B2 R'.pend.length e2)
  simpa using this
theorem Pl.nil2 (h : Pl w g x t d wb j J D m R A1 c1 A2 c2) : Pl w g (x.setCell ⟨wb, 2, none⟩ (.slice none 0 0)) t d wb j J D m ⟨R.start, R.recs, []⟩ A1 c1 none 0 := by
  refine h.boxed (grownBy_setCell x ⟨wb, 2, none⟩ _) ?_ h.r1 (RecsAt.nil _ _)
  have := h.hb.set 2 (.slice none 0 0)
  simpa using this
theorem Pl.reopen (h : Pl w g x t d wb j J D m R A1 c1 A2 c2) {g' : Gh} {x' : World} {j' : Nat} {J' : Jrn} (hj : x.heap.size ≤ j') (hx : Ext (· = j') g x g' x') (hJ : JAt g' x' j' d J') : Pl w g' x' t d wb j' J' D m R A1 c1 A2 c2 := by
  have lb := h.hb.lt
  have ld := h.hD.lt
  have lt := h.ht.lt
  have ls := h.hx.size
  exact ⟨h.hx.trans (hx.imp (fun o e => by subst e; omega)), hJ, h.hD.ext hx (by omega), h.ht.ext hx (by omega), h.hb.ext hx (by rw [h.O]; omega), h.r1.ext hx, h.r2.ext hx, (hx.own _ lb).trans h.O, hx.zero _ lb h.F, by omega, by omega, by omega, h.dw, h.tw, h.bw, h.dt, h.db, h.tb⟩
theorem Pl.ref (h : Pl w g x t d wb j J D m R A1 c1 A2 c2) : RefAt g x (.agg #[.int .i64 R.start, .slice A1 R.recs.length c1, .slice A2 R.pend.length c2]) R := ⟨A1, c1, A2, c2, rfl, h.r1, h.r2⟩
end

end Go.Proofs.Ytopggjpaplhboaa
