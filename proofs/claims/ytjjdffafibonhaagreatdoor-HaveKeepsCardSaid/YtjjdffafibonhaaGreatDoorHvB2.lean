/-
  A law that fails the power stands here: what its device holds, and what it reads.
-/
import Derived.Test.YtjjdffafibonhaaGreatDoorHvB
namespace Go.Proofs.YtjjdffafibonhaaGreatDoor
open Go.RowKit

/-- What only the device's own changes turn. -/
def DStab (d : Nat) (Z : Gh → World → Prop) : Prop := ∀ (M : Nat → Prop) g x g' x', Z g x → Ext M g x g' x' → ¬ M d → Z g' x'
structure Ks (w : World) (m : Nat) (R Z : Gh → World → Prop) (g : Gh) (x : World) : Prop where
  hx : Ext (fun q => w.heap.size ≤ q) (ghW w) w g x
  ht : TapeAt g x w.heap.size m
  gk : GK g x
  ml : 0 < w.heap.size
  dl : w.heap.size + 3 < x.heap.size
  r : R g x
  rs : Stab R
  z : Z g x
  zs : DStab (w.heap.size + 3) Z
def UZ (F : Int) (d n : Nat) (L : List Hv) (g : Gh) (x : World) : Prop := HvU F g x d ⟨#[104]⟩ n L
def VZ (d n : Nat) (P : List Hv → Prop) (g : Gh) (x : World) : Prop := HvV g x d ⟨#[104]⟩ n P
def WZ (d n : Nat) (L : List Hv) (g : Gh) (x : World) : Prop := HvW g x d ⟨#[104]⟩ n L
theorem UZ.st (F : Int) (d n : Nat) (L : List Hv) : DStab d (UZ F d n L) := fun _ _ _ _ _ hz hx hd => HvU.ext hz hx hd
theorem VZ.st (d n : Nat) (P : List Hv → Prop) : DStab d (VZ d n P) := fun _ _ _ _ _ hz hx hd => HvV.ext hz hx hd
theorem WZ.st (d n : Nat) (L : List Hv) : DStab d (WZ d n L) := fun _ _ _ _ _ hz hx hd => HvW.ext hz hx hd
theorem Stab.sl (A : Option Addr) (c : Nat) (E : List Hv) : Stab (fun g x => Sl g x A c E) := fun _ _ _ _ _ hr hx => hr.ext hx
section
variable {F : Int} {w : World} {m n : Nat} {R Z Z' : Gh → World → Prop} {g : Gh} {x : World} {L : List Hv} {P : List Hv → Prop}
theorem Ks.dev (h : Ks w m R Z g x) {g' : Gh} {x' : World} (hx : Ext (· = w.heap.size + 3) g x g' x') (hz : Z' g' x') (zs : DStab (w.heap.size + 3) Z') : Ks w m R Z' g' x' := by
  have hs := hx.size
  have hdl := h.dl
  have hml := h.ml
  exact ⟨h.hx.trans (hx.imp (fun q (hq : q = w.heap.size + 3) => show w.heap.size ≤ q by omega)), h.ht.ext hx (by omega), h.gk.ext hx (by omega), h.ml, by omega, h.rs _ _ _ _ _ h.r hx, h.rs, hz, zs⟩
theorem Ks.step (h : Ks w m R Z g x) {g' : Gh} {x' : World} {M : Nat → Prop} (hx : Ext M g x g' x') (hM : ∀ q, M q → x.heap.size ≤ q) : Ks w m R Z g' x' := by
  have hs := hx.size
  have hdl := h.dl
  have hml := h.ml
  have hxs := h.hx.size
  have htl := h.ht.lt
  exact ⟨h.hx.trans (hx.imp (fun q hq => Nat.le_trans hxs (hM q hq))), h.ht.ext hx (fun e => absurd (hM _ e) (by omega)), h.gk.ext hx (fun e => absurd (hM _ e) (by omega)), h.ml, by omega, h.rs _ _ _ _ _ h.r hx, h.rs, h.zs _ _ _ _ _ h.z hx (fun e => absurd (hM _ e) (by omega)), h.zs⟩
theorem Ks.next (h : Ks w m R Z g x) (hm : m ≤ 1000000) (k : Int) (hk : k ≤ 4611686018427387904) :
    Calls Tryz.prog 26 #[.pointer (some ⟨w.heap.size, 0, none⟩), .int .i64 k] x fun e x' => ∃ v, e = .returned (.int .i64 v) ∧ 0 ≤ v ∧ (v < k ∨ v = 0) ∧ ∃ g', Ks w (m + 1) R Z g' x' := by
  have hml := h.ml
  refine (next_any w.heap.size m g x h.ht (by omega) k hk).mono ?_
  rintro e x' ⟨v, rfl, h0, h1, hx, ht⟩
  have hs := hx.size
  have hdl := h.dl
  exact ⟨v, rfl, h0, h1, g, h.hx.trans (hx.imp (fun q (hq : q = w.heap.size) => show w.heap.size ≤ q by omega)), ht, h.gk.ext hx (by omega), h.ml, by omega, h.rs _ _ _ _ _ h.r hx, h.rs, h.zs _ _ _ _ _ h.z hx (by omega), h.zs⟩
theorem Ks.lost (h : Ks w m R (UZ F (w.heap.size + 3) n L) g x) (hn : n ≤ 1000) : Ks w m R (VZ (w.heap.size + 3) n (· = L)) g x :=
  ⟨h.hx, h.ht, h.gk, h.ml, h.dl, h.r, h.rs, HvU.lost h.z hn, VZ.st _ _ _⟩
theorem Ks.fuse (h : Ks w m R (UZ F (w.heap.size + 3) n L) g x) (v : Int) (h0 : 0 ≤ v) (h1 : v ≤ 4611686018427387904) :
    Calls Tryz.prog 19 #[.pointer (some ⟨w.heap.size + 3, 0, none⟩), .int .i64 v] x fun e x' => e = .returned (.tuple #[]) ∧ ∃ g', Ks w m R (UZ v (w.heap.size + 3) n L) g' x' := by
  refine (HvU.fuse h.z v h0 h1).mono ?_
  rintro e x' ⟨rfl, g', hx, hu⟩
  exact ⟨rfl, g', h.dev hx hu (UZ.st _ _ _ _)⟩
theorem Ks.lose (h : Ks w m R (VZ (w.heap.size + 3) n P) g x) (kp tn : Int) (hk0 : -9223372036854775808 ≤ kp) (hk1 : kp ≤ 9223372036854775807) :
    Calls Tryz.prog 20 #[.pointer (some ⟨w.heap.size + 3, 0, none⟩), .agg #[.int .i64 kp, .int .i64 tn]] x fun e x' => e = .returned (.tuple #[]) ∧ ∃ g' L, P L ∧ Ks w m R (WZ (w.heap.size + 3) n L) g' x' := by
  refine (HvV.lose h.z kp tn hk0 hk1).mono ?_
  rintro e x' ⟨rfl, g', hx, L, hP, hu⟩
  exact ⟨rfl, g', L, hP, h.dev hx hu (WZ.st _ _ _)⟩
theorem Ks.restart (h : Ks w m R (WZ (w.heap.size + 3) n L) g x) :
    Calls Tryz.prog 21 #[.pointer (some ⟨w.heap.size + 3, 0, none⟩)] x fun e x' => e = .returned (.tuple #[]) ∧ ∃ g', Ks w m R (UZ 0 (w.heap.size + 3) n L) g' x' := by
  refine (HvW.restart h.z).mono ?_
  rintro e x' ⟨rfl, g', hx, hu⟩
  exact ⟨rfl, g', h.dev hx hu (UZ.st _ _ _ _)⟩
theorem Ks.openF (h : Ks w m R (UZ F (w.heap.size + 3) n L) g x) :
    Calls Tryz.prog 10 #[.pointer (some ⟨w.heap.size + 3, 0, none⟩), .string ⟨#[104]⟩] x fun e x' => ∃ b, x.heap.size ≤ b ∧ e = .returned (.tuple #[.pointer (some ⟨b, 0, none⟩), .int .i64 0]) ∧ ∃ g', Ks w m R (UZ F (w.heap.size + 3) n L) g' x' ∧ (F = 0 → HvS g' x' b (w.heap.size + 3) ⟨#[104]⟩ n L) := by
  refine (HvU.openF h.z).mono ?_
  rintro e x' ⟨b, hb, rfl, g', hx, hu, hs⟩
  exact ⟨b, hb, rfl, g', h.step hx (fun _ h => h), hs⟩
theorem Lp.fuse {b : Nat} {E : List Hv} {A : Option Addr} {c : Nat} (h : Lp F w b m n g x E A c) (v : Int) (h0 : 0 ≤ v) (h1 : v ≤ 4611686018427387904) :
    Calls Tryz.prog 19 #[.pointer (some ⟨w.heap.size + 3, 0, none⟩), .int .i64 v] x fun e x' => e = .returned (.tuple #[]) ∧ ∃ g', Lp v w b m n g' x' E A c := by
  have hml := h.ml
  refine (h.hv.fuse v h0 h1).mono ?_
  rintro e x' ⟨rfl, g', hx, hu⟩
  exact ⟨rfl, g', h.hx.trans (hx.imp (fun q (hq : q = w.heap.size + 3) => show w.heap.size ≤ q by omega)), hu, h.ht.ext hx (by omega), h.sl.ext hx, h.gk.ext hx (by omega), h.bd, h.ml⟩
theorem Dd.fuse {b : Nat} {E E' : List Hv} {A A' : Option Addr} {c c' : Nat} (h : Dd w b m n g x E A c E' A' c') (v : Int) (h0 : 0 ≤ v) (h1 : v ≤ 4611686018427387904) :
    Calls Tryz.prog 19 #[.pointer (some ⟨w.heap.size + 3, 0, none⟩), .int .i64 v] x fun e x' => e = .returned (.tuple #[]) ∧ ∃ g', Dd w b m n g' x' E A c E' A' c' := by
  have hml := h.ml
  refine (h.hv.fuse v h0 h1).mono ?_
  rintro e x' ⟨rfl, g', hx, hu⟩
  exact ⟨rfl, g', h.hx.trans (hx.imp (fun q (hq : q = w.heap.size + 3) => show w.heap.size ≤ q by omega)), hu, h.ht.ext hx (by omega), h.s0.ext hx, h.sl.ext hx, h.gk.ext hx (by omega), h.bd, h.ml, h.l0, h.l1⟩
theorem Lp.toK {b : Nat} {E : List Hv} {A : Option Addr} {c : Nat} (h : Lp F w b m n g x E A c) (hn : n ≤ 1000) : Ks w m (fun g x => Sl g x A c E) (VZ (w.heap.size + 3) n (· = E)) g x :=
  ⟨h.hx, h.ht, h.gk, h.ml, h.hv.lt.2.1, h.sl, Stab.sl _ _ _, h.hv.u.lost hn, VZ.st _ _ _⟩
theorem Dd.toK {b : Nat} {E E' : List Hv} {A A' : Option Addr} {c c' : Nat} (h : Dd w b m n g x E A c E' A' c') : Ks w m (fun g x => Sl g x A c E ∧ Sl g x A' c' E') (VZ (w.heap.size + 3) n (fun L => L = E ∨ L = E')) g x :=
  ⟨h.hx, h.ht, h.gk, h.ml, h.hv.lt.2.1, ⟨h.s0, h.sl⟩, (Stab.sl _ _ _).and (Stab.sl _ _ _), h.hv.2.1, VZ.st _ _ _⟩
theorem Ks.toLp {b : Nat} (h : Ks w m R Z g x) {A : Option Addr} {c : Nat} (hs : HvS g x b (w.heap.size + 3) ⟨#[104]⟩ n L) (hb : w.heap.size + 3 < b) (hl : Sl g x A c L) : Lp 0 w b m n g x L A c :=
  ⟨h.hx, hs.toG, h.ht, hl, h.gk, hb, h.ml⟩
end

end Go.Proofs.YtjjdffafibonhaaGreatDoor
