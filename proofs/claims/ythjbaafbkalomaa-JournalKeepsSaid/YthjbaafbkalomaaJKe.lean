/-
  The walk of JournalKeeps.
-/
import Derived.Test.YthjbaafbkalomaaJKs
import Derived.Test.YthjbaafbkalomaaRef3
import Derived.Test.YthjbaafbkalomaaRcd
import Derived.Test.YthjbaafbkalomaaKnown
import Derived.Test.YthjbaafbkalomaaOpenK
import Derived.Deep.CutRange
import Derived.Deep.CutBlock
namespace Go.Proofs.Ythjbaafbkalomaa
open Go.RowKit

theorem TapeAt.new {w : World} {A : Option Addr} {c : Nat} {L : List Int} (hr : Rd 1 (ghW w) w A L.length (L.map (Value.int .i64))) (hL : ∀ x ∈ L, (Lit.int .i64 x).wf = true) : Ext (fun _ => False) (ghW w) w ((ghW w).box w.heap.size) (w.alloc (.cells #[.slice A L.length c, .int .i64 0] 25)) ∧ TapeAt ((ghW w).box w.heap.size) (w.alloc (.cells #[.slice A L.length c, .int .i64 0] 25)) w.heap.size 0 := by
  have hx := Ext.box (fun _ => False) (ghW w) w (.cells #[.slice A L.length c, .int .i64 0] 25)
  exact ⟨hx, A, c, L, 0, Nat.le_refl _, Blk.new w 25 (tpCs A L.length c 0), ⟨hr.ext hx, fun x hx => wf_i64 (hL x hx)⟩, Gh.box_O _ _, Gh.box_F _ _⟩

set_option maxRecDepth 100000 in
set_option maxHeartbeats 800000 in
/-- A new device; its number is told. -/
theorem gnewN (g : Gh) (w : World) : Calls Try.prog 4 #[] w fun e w' => ∃ d g', e = .returned (.pointer (some ⟨d, 0, none⟩)) ∧ d = w.heap.size + 2 ∧ Ext (fun _ => False) g w g' w' ∧ DevAt g' w' d dev0 := by
  have hmm := @run_makeMap Try.prog
  have h := (new_any g w)
  go_enter Try.func4, Try.ntmps4
  go_wp2_with fail
  go_ret
  have hb2 : Blk (w.heap.size + 1 + 1) 63 (devCs w.heap.size (w.heap.size + 1) none 0 dev0) (((w.alloc (.map #[] 0)).alloc (.map #[] 0)).alloc (.cells #[.map (some w.heap.size), .map (some (w.heap.size + 1)), .slice none 0 0, .bool false, .int .i64 0] 63)) := by
    have := Blk.new ((w.alloc (.map #[] 0)).alloc (.map #[] 0)) 63 (devCs w.heap.size (w.heap.size + 1) none 0 dev0)
    simpa [devCs, dev0] using this
  have hm1 : MapIs w.heap.size [] (((w.alloc (.map #[] 0)).alloc (.map #[] 0)).alloc (.cells #[.map (some w.heap.size), .map (some (w.heap.size + 1)), .slice none 0 0, .bool false, .int .i64 0] 63)) := ((MapIs.new w).alloc _).alloc _
  have hm2 : MapIs (w.heap.size + 1) [] (((w.alloc (.map #[] 0)).alloc (.map #[] 0)).alloc (.cells #[.map (some w.heap.size), .map (some (w.heap.size + 1)), .slice none 0 0, .bool false, .int .i64 0] 63)) := by
    have := (MapIs.new (w.alloc (.map #[] 0))).alloc (.cells #[.map (some w.heap.size), .map (some (w.heap.size + 1)), .slice none 0 0, .bool false, .int .i64 0] 63)
    simpa using this
  have hbl : Below w.heap.size w (((w.alloc (.map #[] 0)).alloc (.map #[] 0)).alloc (.cells #[.map (some w.heap.size), .map (some (w.heap.size + 1)), .slice none 0 0, .bool false, .int .i64 0] 63)) := (((Below.refl _ _).alloc (Nat.le_refl _) _).alloc (by simp) _).alloc (by simp; omega) _
  refine ⟨w.heap.size + 1 + 1, ⟨fun b => if b < w.heap.size then g.F b else 0, fun b => if b < w.heap.size then g.O b else w.heap.size + 1 + 1⟩, rfl, rfl, (Ext.of_below (fun _ => False) g hbl).up (fun b hb => by simp [hb]) (fun b hb => by simp [hb]), w.heap.size, w.heap.size + 1, none, 0, [], hb2, ?_⟩
  refine ⟨by omega, by simp, by simp, ⟨[], hm1, rfl, fun _ _ => rfl, fun k v h => by simp [look] at h⟩, ⟨⟨[], hm2, rfl, fun _ _ => rfl, fun k v h => by simp [look] at h, fun k k' A n c A' n' c' h => by simp [look] at h⟩, (by dsimp only; rw [if_neg (by omega)]), (by dsimp only; rw [if_neg (by omega)])⟩, App.nil _ _ _ _ _, trivial, ?_, ?_, by simp [dev0], by simp [dev0]⟩
  · dsimp only; rw [if_neg (by omega)]
  · dsimp only; rw [if_neg (by omega)]


/-- Tape, device and the reference's journal in a box. -/
structure JkK (w : World) (d wb : Nat) (g : Gh) (x : World) (D : Dev) (m : Nat) (R : RefR) (A1 : Option Addr) (c1 : Nat) (A2 : Option Addr) (c2 : Nat) : Prop where
  hx : Ext (fun o => w.heap.size ≤ o) (ghW w) w g x
  hD : DevAt g x d D
  ht : TapeAt g x w.heap.size m
  hb : Blk wb 35 [.int .i64 R.start, .slice A1 R.recs.length c1, .slice A2 R.pend.length c2] x
  r1 : RecsAt g x A1 c1 R.recs
  r2 : RecsAt g x A2 c2 R.pend
  O : g.O wb = wb
  F : g.F wb = 0
  dn : d = w.heap.size + 3
  bw : w.heap.size + 3 < wb
section
variable {w : World} {d wb : Nat} {g : Gh} {x : World} {D : Dev} {m : Nat} {R : RefR} {A1 : Option Addr} {c1 : Nat} {A2 : Option Addr} {c2 : Nat}
theorem JkK.ext (h : JkK w d wb g x D m R A1 c1 A2 c2) {g' : Gh} {x' : World} {M : Nat → Prop} (hx : Ext M g x g' x') (h1 : ∀ o, M o → w.heap.size ≤ o) (hd : ¬ M (w.heap.size + 3)) (ht : ¬ M w.heap.size) (hb : ¬ M wb) : JkK w d wb g' x' D m R A1 c1 A2 c2 :=
  ⟨h.hx.trans (hx.imp h1), h.hD.ext hx (by rw [h.dn]; exact hd), h.ht.ext hx ht, h.hb.ext hx (by rw [h.O]; exact hb), h.r1.ext hx, h.r2.ext hx, (hx.own _ h.hb.lt).trans h.O, hx.zero _ h.hb.lt h.F, h.dn, h.bw⟩
theorem JkK.step (h : JkK w d wb g x D m R A1 c1 A2 c2) {g' : Gh} {x' : World} {M : Nat → Prop} (hx : Ext M g x g' x') (hM : ∀ o, M o → x.heap.size ≤ o) : JkK w d wb g' x' D m R A1 c1 A2 c2 := by
  have h2 := h.hb.lt
  have h3 := h.bw
  have h4 := h.hx.size
  exact h.ext hx (fun o ho => by have := hM o ho; omega) (fun e => by have := hM _ e; omega) (fun e => by have := hM _ e; omega) (fun e => by have := hM _ e; omega)
theorem JkK.same (h : JkK w d wb g x D m R A1 c1 A2 c2) {g' : Gh} {x' : World} (hx : Ext (fun _ => False) g x g' x') : JkK w d wb g' x' D m R A1 c1 A2 c2 := h.step hx (fun _ h => h.elim)
theorem JkK.tape (h : JkK w d wb g x D m R A1 c1 A2 c2) {g' : Gh} {x' : World} {m' : Nat} (hx : Ext (· = w.heap.size) g x g' x') (ht : TapeAt g' x' w.heap.size m') : JkK w d wb g' x' D m' R A1 c1 A2 c2 := by
  have h3 := h.bw
  exact ⟨h.hx.trans (hx.imp (fun o e => by omega)), h.hD.ext hx (by rw [h.dn]; omega), ht, h.hb.ext hx (by rw [h.O]; omega), h.r1.ext hx, h.r2.ext hx, (hx.own _ h.hb.lt).trans h.O, hx.zero _ h.hb.lt h.F, h.dn, h.bw⟩
theorem JkK.both (h : JkK w d wb g x D m R A1 c1 A2 c2) {g' : Gh} {x' : World} {D' : Dev} {j : Nat} (hx : Ext (fun o => o = d ∨ o = j) g x g' x') (hD : DevAt g' x' d D') (hj : w.heap.size + 3 < j) (hjb : j ≠ wb) : JkK w d wb g' x' D' m R A1 c1 A2 c2 := by
  have h3 := h.bw
  have h4 := h.dn
  exact ⟨h.hx.trans (hx.imp (fun o e => by omega)), hD, h.ht.ext hx (by omega), h.hb.ext hx (by rw [h.O]; omega), h.r1.ext hx, h.r2.ext hx, (hx.own _ h.hb.lt).trans h.O, hx.zero _ h.hb.lt h.F, h.dn, h.bw⟩
theorem JkK.dev (h : JkK w d wb g x D m R A1 c1 A2 c2) {g' : Gh} {x' : World} {D' : Dev} (hx : Ext (· = d) g x g' x') (hD : DevAt g' x' d D') : JkK w d wb g' x' D' m R A1 c1 A2 c2 := by
  have h3 := h.bw
  have h4 := h.dn
  exact ⟨h.hx.trans (hx.imp (fun o e => by omega)), hD, h.ht.ext hx (by omega), h.hb.ext hx (by rw [h.O]; omega), h.r1.ext hx, h.r2.ext hx, (hx.own _ h.hb.lt).trans h.O, hx.zero _ h.hb.lt h.F, h.dn, h.bw⟩
theorem JkK.ref (h : JkK w d wb g x D m R A1 c1 A2 c2) : RefAt g x (.agg #[.int .i64 R.start, .slice A1 R.recs.length c1, .slice A2 R.pend.length c2]) R := ⟨A1, c1, A2, c2, rfl, h.r1, h.r2⟩
theorem JkK.size (h : JkK w d wb g x D m R A1 c1 A2 c2) : wb < x.heap.size := h.hb.lt
theorem JkK.store (h : JkK w d wb g x D m R A1 c1 A2 c2) {R' : RefR} {B1 : Option Addr} {e1 : Nat} {B2 : Option Addr} {e2 : Nat} (h1 : RecsAt g x B1 e1 R'.recs) (h2 : RecsAt g x B2 e2 R'.pend) :
    JkK w d wb g (((x.setCell ⟨wb, 0, none⟩ (.int .i64 R'.start)).setCell ⟨wb, 1, none⟩ (.slice B1 R'.recs.length e1)).setCell ⟨wb, 2, none⟩ (.slice B2 R'.pend.length e2)) D m R' B1 e1 B2 e2 ∧
    Ext (· = wb) g x g (((x.setCell ⟨wb, 0, none⟩ (.int .i64 R'.start)).setCell ⟨wb, 1, none⟩ (.slice B1 R'.recs.length e1)).setCell ⟨wb, 2, none⟩ (.slice B2 R'.pend.length e2)) := by
  have hO := h.O
  have hx : Ext (· = wb) g x g (((x.setCell ⟨wb, 0, none⟩ (.int .i64 R'.start)).setCell ⟨wb, 1, none⟩ (.slice B1 R'.recs.length e1)).setCell ⟨wb, 2, none⟩ (.slice B2 R'.pend.length e2)) :=
    (((Ext.refl (· = wb) g x).setCell (p := ⟨wb, 0, none⟩) (fun _ => hO) h.F _).setCell (p := ⟨wb, 1, none⟩) (fun _ => hO) h.F _).setCell (p := ⟨wb, 2, none⟩) (fun _ => hO) h.F _
  have h3 := h.bw
  have h4 := h.dn
  refine ⟨⟨h.hx.trans (hx.imp (fun o e => by omega)), h.hD.ext hx (by omega), h.ht.ext hx (by omega), ?_, h1.ext hx, h2.ext hx, hO, h.F, h.dn, h.bw⟩, hx⟩
  have := ((h.hb.set 0 (.int .i64 R'.start)).set 1 (.slice B1 R'.recs.length e1)).set 2 (.slice B2 R'.pend.length e2)
  simpa using this
theorem jnext (h : JkK w d wb g x D m R A1 c1 A2 c2) (hm : m ≤ 100000) (n : Nat) (hn : n ≤ 1000000) (h0 : 0 < n) :
    Calls Try.prog 7 #[.pointer (some ⟨w.heap.size, 0, none⟩), .int .i64 (n : Int)] x fun e x' => ∃ v : Nat, e = .returned (.int .i64 v) ∧ v < n ∧ Ext (· = w.heap.size) g x g x' ∧ JkK w d wb g x' D (m + 1) R A1 c1 A2 c2 :=
  (next_any w.heap.size m g x h.ht (by omega) n (by omega)).mono fun _ _ ⟨v, h1, h2, h3, h4, h5⟩ => ⟨v.toNat, by rw [h1, show ((v.toNat : Nat) : Int) = v by omega], by omega, h4, h.tape h4 h5⟩
end

/-- A candidate: a reference's journal and where its lists lie. -/
structure Cd where
  R : RefR
  A1 : Option Addr
  c1 : Nat
  A2 : Option Addr
  c2 : Nat
def Cd.cells (e : Cd) : List Value := [.int .i64 e.R.start, .slice e.A1 e.R.recs.length e.c1, .slice e.A2 e.R.pend.length e.c2]
def celJ (V : List Cd) : List Value := V.flatMap Cd.cells
def CdAt (g : Gh) (x : World) (e : Cd) : Prop := RecsAt g x e.A1 e.c1 e.R.recs ∧ RecsAt g x e.A2 e.c2 e.R.pend
/-- The list of candidates: appended to by an owner of its own. -/
structure Cds (o : Nat) (g : Gh) (x : World) (A : Option Addr) (cap : Nat) (V : List Cd) : Prop where
  app : App 35 3 o g x A V.length cap (celJ V)
  all : ∀ e ∈ V, CdAt g x e
theorem Cds.ext {o : Nat} {g : Gh} {x : World} {A : Option Addr} {cap : Nat} {V : List Cd} (h : Cds o g x A cap V) {g' : Gh} {x' : World} {M : Nat → Prop} (hx : Ext M g x g' x') (hm : ¬ M o) : Cds o g' x' A cap V :=
  ⟨h.app.ext hx hm, fun e he => ⟨(h.all e he).1.ext hx, (h.all e he).2.ext hx⟩⟩
theorem celJ_append (V W : List Cd) : celJ (V ++ W) = celJ V ++ celJ W := by simp [celJ]
theorem celJ_get : ∀ (V : List Cd) (k : Nat) (e : Cd), V[k]? = some e → (celJ V)[k * 3]? = some (.int .i64 e.R.start) ∧ (celJ V)[k * 3 + 1]? = some (.slice e.A1 e.R.recs.length e.c1) ∧ (celJ V)[k * 3 + 2]? = some (.slice e.A2 e.R.pend.length e.c2)
  | [], k, e, h => by simp at h
  | f :: V, 0, e, h => by
    simp only [List.getElem?_cons_zero, Option.some.injEq] at h
    subst h
    simp [celJ, Cd.cells]
  | f :: V, k + 1, e, h => by
    have := celJ_get V k e (by simpa using h)
    have e1 : ∀ i, (celJ (f :: V))[(k + 1) * 3 + i]? = (celJ V)[k * 3 + i]? := fun i => by
      show (f.cells ++ celJ V)[(k + 1) * 3 + i]? = _
      rw [List.getElem?_append_right (by simp [Cd.cells]; omega)]
      congr 1
      simp [Cd.cells]; omega
    have e0 := e1 0
    rw [Nat.add_zero, Nat.add_zero] at e0
    exact ⟨e0.trans this.1, (e1 1).trans this.2.1, (e1 2).trans this.2.2⟩
theorem Try.infoRJ : (Try.prog.info? 35).map (fun i => (i.zero, i.size, i.bytes)) = some (some (.agg #[.int .i64 0, .slice none 0 0, .slice none 0 0]), 3, 56) := by kernel_rfl
theorem src_rj (x : World) (e : Cd) : Src Try.prog 3 43 (.slice (some ⟨x.heap.size, 0, none⟩) 1 1) 1 e.cells (x.alloc (.cells e.cells.toArray 35)) :=
  Src.ofSlice _ Try.underlying43 _ 1 1 _ rfl (fun j u hu => by
    have hh : (x.alloc (.cells e.cells.toArray 35)).heap[x.heap.size]? = some (.cells e.cells.toArray 35 (0, 0)) := heap_alloc_new x _
    rw [add_lit, Nat.zero_add, cell_at hh]
    simpa using hu) (by simp [Cd.cells, Value.oneCell'])

set_option maxRecDepth 100000 in
set_option maxHeartbeats 6400000 in
theorem opened_any (w : World) (d wb : Nat) (g : Gh) (x : World) (D : Dev) (m : Nat) (R : RefR) (A1 : Option Addr) (c1 : Nat) (A2 : Option Addr) (c2 : Nat) (h : JkK w d wb g x D m R A1 c1 A2 c2) (hm : m ≤ 10000) (hf : D.fuse = 0) (J : Jrn) (hJ : ∀ F, OpensJ d { D with fuse := F } J) :
    Calls Try.prog 20 #[.pointer (some ⟨w.heap.size, 0, none⟩), .pointer (some ⟨d, 0, none⟩), .string ⟨#[106]⟩] x fun e x' => ∃ (j : Nat) (g' : Gh), e = .returned (.tuple #[.pointer (some ⟨j, 0, none⟩), .bool true]) ∧ x.heap.size ≤ j ∧ JkK w d wb g' x' D (m + 2) R A1 c1 A2 c2 ∧ JAt g' x' j d J ∧ Ext (fun o => o = d ∨ o = w.heap.size ∨ x.heap.size ≤ o) g x g' x' := by
  have hD0 : ({ D with fuse := 0 } : Dev) = D := by cases D; simp only at hf; simp [hf]
  have HK := Lib.hid h
  have HJ := Lib.hid hJ
  have HD0 := Lib.hid hD0
  clear h hJ hD0
  go_enter Try.func20, Try.ntmps20
  go_wp2_with fail
  refine (jnext HK.out (by omega) 3 (by omega) (by omega)).mono ?_
  rintro e x1 ⟨v, rfl, hv, hx1, hk1⟩
  have HK1 := Lib.hid hk1
  have HX1 := Lib.hid hx1
  have hsz1 := hx1.size
  clear hk1 hx1 HK
  go_wp2_with fail
  go_loopw [8] (fun i wr => i = .int .i64 v ∧ wr = x1) (fun _ _ => 0)
  case atStart => exact ⟨rfl, rfl⟩
  case round =>
    obtain ⟨rfl, rfl⟩ := hrel
    by_cases h0 : 0 < v
    · have h0' : (0 : Int) < v := by omega
      go_wp2_with fail
      refine (jnext HK1.out (by omega) 6 (by omega) (by omega)).mono ?_
      rintro e x2 ⟨v2, rfl, hv2, hx2, hk2⟩
      have HK2 := Lib.hid hk2
      have HX2 := Lib.hid (HX1.out.trans hx2)
      have hsz2 := hx2.size
      clear hk2 hx2 HK1 HX1
      have hF := fuse_any d g x2 D HK2.out.hD (1 + v2) (by omega) (by omega)
      go_wp2_with fail
      refine hF.mono ?_
      rintro e x3 ⟨rfl, g3, hx3, hD3⟩
      have HK3 := Lib.hid (HK2.out.dev hx3 hD3)
      have HX3 := Lib.hid ((HX2.out.imp (fun o (e : o = w.heap.size) => show o = d ∨ o = w.heap.size ∨ x.heap.size ≤ o from .inr (.inl e))).trans (hx3.imp (fun o (e : o = d) => .inl e)))
      have hsz3 := hx3.size
      clear hx3 hD3 hF HK2 HX2
      go_wp2_with fail
      refine (HJ.out _ g3 x3 HK3.out.hD).mono ?_
      rintro e x4 ⟨j, g4, rfl, hj, hx4, hJ4⟩
      have HK4 := Lib.hid (HK3.out.step hx4 (fun o (e : o = j) => by omega))
      have HX4 := Lib.hid (HX3.out.trans (hx4.imp (fun o (e : o = j) => .inr (.inr (by omega)))))
      have HJ4 := Lib.hid hJ4
      have hF := fuse_any d g4 x4 _ HK4.out.hD 0 (by omega) (by omega)
      have hjd : j ≠ d := by have := HK3.out.hD.lt; omega
      clear hx4 hJ4 HK3 HX3
      go_wp2_with fail
      refine hF.mono ?_
      rintro e x5 ⟨rfl, g5, hx5, hD5⟩
      have hD5' : DevAt g5 x5 d D := by
        have h1 : DevAt g5 x5 d { D with fuse := 0 } := hD5
        rw [HD0.out] at h1; exact h1
      have HK5 := Lib.hid (HK4.out.dev hx5 hD5')
      have HX5 := Lib.hid (HX4.out.trans (hx5.imp (fun o (e : o = d) => .inl e)))
      have HJ5 := Lib.hid (HJ4.out.ext hx5 (fun e => hjd e))
      clear hx5 hD5 hD5' hF HK4 HX4 HJ4
      go_wp2_with fail
      go_ret2
      exact ⟨j, g5, rfl, by omega, HK5.out, HJ5.out, HX5.out⟩
    · obtain rfl : v = 0 := by omega
      have HOP : Hid (OpensJ d D J) := by
        have h1 := HJ.out 0
        rw [HD0.out] at h1; exact h1
      go_wp2_with fail
      refine (HOP.out g wr HK1.out.hD).mono ?_
      rintro e x4 ⟨j, g4, rfl, hj, hx4, hJ4⟩
      have HK4 := Lib.hid (HK1.out.step hx4 (fun o (e : o = j) => by omega))
      have HX4 := Lib.hid ((HX1.out.imp (fun o (e : o = w.heap.size) => show o = d ∨ o = w.heap.size ∨ x.heap.size ≤ o from .inr (.inl e))).trans (hx4.imp (fun o (e : o = j) => .inr (.inr (by omega)))))
      have HJ4 := Lib.hid hJ4
      clear hx4 hJ4 HK1 HX1
      go_wp2_with fail
      go_ret2
      refine ⟨j, g4, rfl, by omega, ?_, HJ4.out, HX4.out⟩
      obtain ⟨b1, b2, b3, b4, b5, b6, b7, b8, b9, b10⟩ := HK4.out
      exact ⟨b1, b2, b3.more (by omega), b4, b5, b6, b7, b8, b9, b10⟩

end Go.Proofs.Ythjbaafbkalomaa
