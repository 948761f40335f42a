/-
  The base for seats without the journal (joined by a program of ours from our own texts).
-/
import Derived.Test.YtjjdffafibonhaaGreatDoorGenL
import Derived.Test.YtjjdffafibonhaaGreatDoorOpenK
import Derived.Test.YtjjdffafibonhaaGreatDoorGenT
import Derived.Deep.DeepCutAuto
import Derived.Deep.LoopGhost
namespace Go.Proofs.YtjjdffafibonhaaGreatDoor
section
open Go.RowKit

/-- The name of the checkpoint. -/
def cN : ByteArray := ⟨#[99]⟩
theorem cN_ok : nmB false 40 ⟨#[99]⟩ = true := by decide

/-- load of the law: the checkpoint as a struct. -/
def LdP (g : Gh) (w : World) (o : Option Ck) (e : Ending) (w' : World) : Prop :=
  ∃ g' x, Ext (fun o => w.heap.size ≤ o) g w g' w' ∧ StAt g' w' x o ∧ e = .returned (.tuple #[.agg #[.int .i64 (posO o), x, .bool o.isSome], .bool true])
end

section
open Go.RowKit

/-! Regions in which an operation that makes memory may be drawn at any time ahead of the last ones. -/
section
variable {P : Program} {ops : Array Oper} {S : World → Prop} {Q : Exit → Act → World → Prop}
/-- What is to be shown of one operation that acts. -/
def wpAct (P : Program) (ops : Array Oper) (S : World → Prop) (Q : Exit → Act → World → Prop) (e : Nat) (R : Act → World → Prop) (a : Act) (w : World) : Prop := match ops[e]? with
  | some o => wpList P ops (Exit.then (fun a2 w2 => S w2 ∧ R a2 w2) Q) [o] a w
  | none => False
theorem act_step {md : Region.Mode} {e f : Nat} {listed : Array Bool} {R : Act → World → Prop} {a : Act} {w : World} (hk : wpAct P ops S Q e R a w) (hR : ∀ a2 w2, S w2 → R a2 w2 → wpAnyH P md ops Q S f (listed.setIfInBounds e true) a2 w2) :
    wpOp P ops Q e (fun a' w' => S w' ∧ wpAnyH P md ops Q S f (listed.setIfInBounds e true) a' w') a w := by
  unfold wpAct at hk
  unfold wpOp
  cases he : ops[e]? with
  | none => rw [he] at hk; exact hk.elim
  | some o =>
    rw [he] at hk
    simp only
    have hk' : (if Region.wanted o (yielded ops a.tmps) then o.wp P a w (fun a2 w2 => S w2 ∧ R a2 w2) (Exit.then (fun a2 w2 => S w2 ∧ R a2 w2) Q) ∨ (o.asks P a w ∧ LetsOut Q) else S w ∧ R (a.put o.dst undef) w) := hk
    split
    · rename_i hw
      rw [if_pos hw] at hk'
      rcases hk' with hk' | hk'
      · exact .inl (wp_then (fun a2 w2 h => ⟨h.1, hR a2 w2 h.1 h.2⟩) hk')
      · exact .inr hk'
    · rename_i hw
      rw [if_neg hw] at hk'
      exact ⟨hk'.1, hR _ w hk'.1 hk'.2⟩

/-- The plan with an operation z that may come at any time ahead of the tail: at the latest behind the readers rz, ahead of operation s. -/
def wpMixF (P : Program) (ops : Array Oper) (S : World → Prop) (Q : Exit → Act → World → Prop) (last : List Nat) (tail : List (List Nat × Nat)) (rz : List Nat) (s z : Nat) : List (List Nat × Nat) → Act → World → Prop
  | [], a, w => wpRd P ops S (fun a' => wpAct P ops S Q z (wpMix P ops S Q last (([], s) :: tail)) a' w) rz a
  | (rs, e) :: rest, a, w => wpRd P ops S (fun a' => wpAct P ops S Q e (wpMixF P ops S Q last tail rz s z rest) a' w ∧ wpAct P ops S Q z (wpMix P ops S Q last (([], e) :: rest ++ (rz, s) :: tail)) a' w) rs a
def mixFB (md : Region.Mode) (ops : Array Oper) (last : List Nat) (tail : List (List Nat × Nat)) (rz : List Nat) (s z : Nat) : List (List Nat × Nat) → Array Bool → Bool
  | [], listed => takeB md ops rz listed && decide (Region.ready md ops (listAll rz listed) = [z]) && mixB md ops last (([], s) :: tail) ((listAll rz listed).setIfInBounds z true)
  | (rs, e) :: rest, listed => takeB md ops rs listed && decide (Region.ready md ops (listAll rs listed) = [e, z]) && mixFB md ops last tail rz s z rest ((listAll rs listed).setIfInBounds e true) && mixB md ops last (([], e) :: rest ++ (rz, s) :: tail) ((listAll rs listed).setIfInBounds z true)
def planF (last : List Nat) (tail : List (List Nat × Nat)) (rz : List Nat) : List (List Nat × Nat) → Nat
  | [] => rz.length + (1 + (1 + planLen last tail))
  | (rs, _) :: rest => rs.length + (1 + planF last tail rz rest)
theorem planLen_append (last : List Nat) (tail : List (List Nat × Nat)) (rz : List Nat) (s : Nat) : ∀ rest, 1 + planLen last (rest ++ (rz, s) :: tail) = planF last tail rz rest
  | [] => by simp only [List.nil_append, planLen, planF]; omega
  | (rs, _) :: rest => by
    have := planLen_append last tail rz s rest
    simp only [List.cons_append, planLen, planF]
    omega
theorem mixF_any {md : Region.Mode} (hs : Region.noSelect ops = true) (hQ : ∀ c (a : Act) (d : Option Tmp) (v : Value) w, Q (.panic c) (a.put d v) w → Q (.panic c) a w) (last : List Nat) (tail : List (List Nat × Nat)) (rz : List Nat) (s z : Nat) :
    ∀ (plan : List (List Nat × Nat)) (listed : Array Bool) (a : Act) (w : World), S w → mixFB md ops last tail rz s z plan listed = true → wpMixF P ops S Q last tail rz s z plan a w → wpAnyH P md ops Q S (planF last tail rz plan) listed a w
  | [], listed, a, w, hS, hb, h => by
    simp only [mixFB, Bool.and_eq_true, decide_eq_true_eq] at hb
    unfold planF
    refine take_rd (f := 1 + (1 + planLen last tail)) hs hQ hS rz listed a hb.1.1 h (fun a' hk => ?_)
    rw [Nat.add_comm]
    refine wpAnyH_all hb.1.2 (by simp) (fun i hi => ?_)
    obtain rfl : i = z := by simpa using hi
    refine act_step hk (fun a2 w2 h1 h2 => ?_)
    have := mix_any hs hQ last (([], s) :: tail) _ a2 w2 h1 hb.2 h2
    simp only [planLen, List.length_nil, Nat.zero_add] at this
    exact this
  | (rs, e) :: rest, listed, a, w, hS, hb, h => by
    simp only [mixFB, Bool.and_eq_true, decide_eq_true_eq] at hb
    unfold planF
    refine take_rd (f := 1 + planF last tail rz rest) hs hQ hS rs listed a hb.1.1.1 h (fun a' hk => ?_)
    rw [Nat.add_comm]
    refine wpAnyH_all hb.1.1.2 (by simp) (fun i hi => ?_)
    rcases (show i = e ∨ i = z by simpa using hi) with rfl | rfl
    · exact act_step hk.1 (fun a2 w2 h1 h2 => mixF_any hs hQ last tail rz s z rest _ a2 w2 h1 hb.1.2 h2)
    · refine act_step hk.2 (fun a2 w2 h1 h2 => ?_)
      have := mix_any hs hQ last (([], e) :: rest ++ (rz, s) :: tail) _ a2 w2 h1 hb.2 h2
      simp only [List.cons_append, planLen, List.length_nil, Nat.zero_add, planLen_append] at this
      exact this

theorem wp_region_mixf {id : Nat} {a : Act} {w : World} {l : List Oper} (last : List Nat) (tail : List (List Nat × Nat)) (rz : List Nat) (s z : Nat) (plan : List (List Nat × Nat)) (hm : P.follows .mixedOrders = true) (hb : (Region.noSelect l.toArray && mixFB .any l.toArray last tail rz s z plan (Array.replicate l.toArray.size false) && decide (planF last tail rz plan = l.toArray.size)) = true)
    (hQ : ∀ c (a : Act) (d : Option Tmp) (v : Value) w, Q (.panic c) (a.put d v) w → Q (.panic c) a w) (hS : S w.drew) (h : wpMixF P l.toArray S Q last tail rz s z plan a w.drew) : (Code.region id l.toArray true).wp P Q a w := by
  simp only [Bool.and_eq_true, decide_eq_true_eq] at hb
  refine wp_region_held (S := S) hm ?_
  have := mixF_any hb.1.1 hQ last tail rz s z plan _ a w.drew hS hb.1.2 h
  rw [hb.2] at this
  exact this
end

/-- What only growth of memory keeps. -/
def Stab (R : Gh → World → Prop) : Prop := ∀ (M : Nat → Prop) g x g' x', R g x → Ext M g x g' x' → R g' x'
theorem Stab.and {R R' : Gh → World → Prop} (h : Stab R) (h' : Stab R') : Stab (fun g x => R g x ∧ R' g x) := fun M g x g' x' hr hx => ⟨h M g x g' x' hr.1 hx, h' M g x g' x' hr.2 hx⟩
theorem Stab.true : Stab (fun _ _ => True) := fun _ _ _ _ _ _ _ => trivial
theorem Stab.bytes (v : Value) (l : List UInt8) : Stab (fun g x => BytesAt g x v l) := fun _ _ _ _ _ hr hx => hr.ext hx
theorem Stab.rd (sz : Nat) (A : Option Addr) (n : Nat) (xs : List Value) : Stab (fun g x => Rd sz g x A n xs) := fun _ _ _ _ _ hr hx => hr.ext hx

structure Kp (w : World) (t d : Nat) (g : Gh) (x : World) (D : Dev) (m : Nat) (B : List (Nat × TypeId × List Value)) (R : Gh → World → Prop) : Prop where
  hx : Ext (fun o => w.heap.size ≤ o) (ghW w) w g x
  hD : DevAt g x d D
  ht : TapeAt g x t m
  dw : w.heap.size ≤ d
  tw : w.heap.size ≤ t
  dt : d ≠ t
  bx : ∀ p ∈ B, Blk p.1 p.2.1 p.2.2 x ∧ g.O p.1 = p.1 ∧ g.F p.1 = 0 ∧ w.heap.size ≤ p.1 ∧ p.1 ≠ t ∧ p.1 ≠ d
  r : R g x
  rs : Stab R

section
variable {w : World} {t d : Nat} {g : Gh} {x : World} {D : Dev} {m : Nat} {B : List (Nat × TypeId × List Value)} {R : Gh → World → Prop}
theorem Kp.blk (h : Kp w t d g x D m B R) {b : Nat} {T : TypeId} {cs : List Value} (hb : (b, T, cs) ∈ B) : Blk b T cs x := (h.bx _ hb).1
theorem Kp.boxes (h : Kp w t d g x D m B R) {g' : Gh} {x' : World} {M : Nat → Prop} (hx : Ext M g x g' x') (hM : ∀ p ∈ B, ¬ M p.1) : ∀ p ∈ B, Blk p.1 p.2.1 p.2.2 x' ∧ g'.O p.1 = p.1 ∧ g'.F p.1 = 0 ∧ w.heap.size ≤ p.1 ∧ p.1 ≠ t ∧ p.1 ≠ d := fun p hp => by
  obtain ⟨h1, h2, h3, h4, h5, h6⟩ := h.bx p hp
  exact ⟨h1.ext hx (by rw [h2]; exact hM p hp), (hx.own _ h1.lt).trans h2, hx.zero _ h1.lt h3, h4, h5, h6⟩
theorem Kp.step (h : Kp w t d g x D m B R) {g' : Gh} {x' : World} {M : Nat → Prop} (hx : Ext M g x g' x') (hM : ∀ o, M o → x.heap.size ≤ o) : Kp w t d g' x' D m B R :=
  ⟨h.hx.trans (hx.imp (fun o ho => Nat.le_trans h.hx.size (hM o ho))), h.hD.ext hx (fun e => absurd (hM _ e) (by have := h.hD.lt; omega)), h.ht.ext hx (fun e => absurd (hM _ e) (by have := h.ht.lt; omega)), h.dw, h.tw, h.dt,
    h.boxes hx (fun p hp e => absurd (hM _ e) (by have := (h.bx p hp).1.lt; omega)), h.rs _ _ _ _ _ h.r hx, h.rs⟩
theorem Kp.drew (h : Kp w t d g x D m B R) : Kp w t d g x.drew D m B R := h.step (M := fun _ => False) (Ext.refl _ _ _).drew (fun _ e => e.elim)
theorem Kp.drewN (h : Kp w t d g x D m B R) (n : Nat) : Kp w t d g (x.drewN n) D m B R := h.step (M := fun _ => False) ((Ext.refl _ _ _).drewN n) (fun _ e => e.elim)
theorem Kp.tape (h : Kp w t d g x D m B R) {g' : Gh} {x' : World} {m' : Nat} (hx : Ext (· = t) g x g' x') (ht : TapeAt g' x' t m') : Kp w t d g' x' D m' B R :=
  ⟨h.hx.trans (hx.imp (fun o e => by subst e; exact h.tw)), h.hD.ext hx h.dt, ht, h.dw, h.tw, h.dt, h.boxes hx (fun p hp => (h.bx p hp).2.2.2.2.1), h.rs _ _ _ _ _ h.r hx, h.rs⟩
theorem Kp.dev (h : Kp w t d g x D m B R) {g' : Gh} {x' : World} {D' : Dev} (hx : Ext (fun o => o = d ∨ x.heap.size ≤ o) g x g' x') (hD : DevAt g' x' d D') : Kp w t d g' x' D' m B R := by
  have lt := h.ht.lt
  exact ⟨h.hx.trans (hx.imp (fun o e => by rcases e with rfl | e; exact h.dw; exact Nat.le_trans h.hx.size e)), hD, h.ht.ext hx (fun e => by rcases e with e | e; exact h.dt e.symm; omega), h.dw, h.tw, h.dt, h.boxes hx (fun p hp e => by rcases e with e | e; exact (h.bx p hp).2.2.2.2.2 e; exact absurd e (by have := (h.bx p hp).1.lt; omega)), h.rs _ _ _ _ _ h.r hx, h.rs⟩
theorem Kp.devP (h : Kp w t d g x D m B R) {x' : World} {D' : Dev} (hP : DevP d g x D' x') : ∃ g', Kp w t d g' x' D' m B R := by
  obtain ⟨g', hx, hD⟩ := hP
  exact ⟨g', h.dev (hx.imp (fun _ e => .inl e)) hD⟩
theorem Kp.box (h : Kp w t d g x D m B R) (T : TypeId) (cs : List Value) : Kp w t d (g.box x.heap.size) (x.alloc (.cells cs.toArray T)) D m ((x.heap.size, T, cs) :: B) R := by
  have hx := Ext.box (fun _ => False) g x (.cells cs.toArray T)
  have hs := h.step hx (fun _ e => e.elim)
  refine ⟨hs.hx, hs.hD, hs.ht, h.dw, h.tw, h.dt, fun p hp => ?_, hs.r, h.rs⟩
  rcases List.mem_cons.1 hp with rfl | hp
  · exact ⟨Blk.new x T cs, g.box_O _, g.box_F _, h.hx.size, by have := h.ht.lt; show x.heap.size ≠ t; omega, by have := h.hD.lt; show x.heap.size ≠ d; omega⟩
  · exact hs.bx p hp
/-- One box is written. -/
theorem Kp.put {b : Nat} {T : TypeId} {cs : List Value} (h : Kp w t d g x D m ((b, T, cs) :: B) R) (hn : ∀ p ∈ B, p.1 ≠ b) (i : Nat) (v : Value) : Kp w t d g (x.setCell ⟨b, i, none⟩ v) D m ((b, T, cs.set i v) :: B) R := by
  obtain ⟨h1, h2, h3, h4, h5, h6⟩ := h.bx (b, T, cs) (List.mem_cons_self ..)
  have hx : Ext (· = b) g x g (x.setCell ⟨b, i, none⟩ v) := (Ext.refl (· = b) g x).setCell (p := ⟨b, i, none⟩) (fun _ => h2) h3 v
  refine ⟨h.hx.trans (hx.imp (fun o e => by subst e; exact h4)), h.hD.ext hx (fun e => h6 e.symm), h.ht.ext hx (fun e => h5 e.symm), h.dw, h.tw, h.dt, fun p hp => ?_, h.rs _ _ _ _ _ h.r hx, h.rs⟩
  rcases List.mem_cons.1 hp with rfl | hp
  · exact ⟨h1.set i v, h2, h3, h4, h5, h6⟩
  · obtain ⟨k1, k2, k3, k4, k5, k6⟩ := h.bx p (List.mem_cons_of_mem _ hp)
    exact ⟨k1.ext hx (by rw [k2]; exact hn p hp), k2, k3, k4, k5, k6⟩
theorem Kp.with (h : Kp w t d g x D m B R) {R' : Gh → World → Prop} (hr : R' g x) (hs : Stab R') : Kp w t d g x D m B R' := ⟨h.hx, h.hD, h.ht, h.dw, h.tw, h.dt, h.bx, hr, hs⟩
theorem Kp.sub (h : Kp w t d g x D m B R) {B' : List (Nat × TypeId × List Value)} (hb : ∀ p ∈ B', p ∈ B) : Kp w t d g x D m B' R := ⟨h.hx, h.hD, h.ht, h.dw, h.tw, h.dt, fun p hp => h.bx p (hb p hp), h.r, h.rs⟩

theorem knext (h : Kp w t d g x D m B R) (hm : m ≤ 1000000000) (n : Int) (hn : n ≤ 4611686018427387904) :
    Calls Tryz.prog 26 #[.pointer (some ⟨t, 0, none⟩), .int .i64 n] x fun e x' => ∃ v, e = .returned (.int .i64 v) ∧ 0 ≤ v ∧ (v < n ∨ v = 0) ∧ Kp w t d g x' D (m + 1) B R :=
  (next_any t m g x h.ht hm n hn).mono fun _ _ ⟨v, h1, h2, h3, h4, h5⟩ => ⟨v, h1, h2, h3, h.tape h4 h5⟩
theorem knextN (h : Kp w t d g x D m B R) (hm : m ≤ 1000000000) (n : Nat) (hn : n ≤ 1000000) (h0 : 0 < n) :
    Calls Tryz.prog 26 #[.pointer (some ⟨t, 0, none⟩), .int .i64 (n : Int)] x fun e x' => ∃ v : Nat, e = .returned (.int .i64 v) ∧ v < n ∧ Kp w t d g x' D (m + 1) B R :=
  (knext h hm n (by omega)).mono fun _ _ ⟨v, h1, h2, h3, h4⟩ => ⟨v.toNat, by rw [h1, show ((v.toNat : Nat) : Int) = v by omega], by omega, h4⟩
end

theorem TapeAt.new {w : World} {A : Option Addr} {c : Nat} {L : List Int} (hr : Rd 1 (ghW w) w A L.length (L.map (Value.int .i64))) (hL : ∀ x ∈ L, (Lit.int .i64 x).wf = true) : Ext (fun _ => False) (ghW w) w ((ghW w).box w.heap.size) (w.alloc (.cells #[.slice A L.length c, .int .i64 0] 48)) ∧ TapeAt ((ghW w).box w.heap.size) (w.alloc (.cells #[.slice A L.length c, .int .i64 0] 48)) w.heap.size 0 := by
  have hx := Ext.box (fun _ => False) (ghW w) w (.cells #[.slice A L.length c, .int .i64 0] 48)
  exact ⟨hx, A, c, L, 0, Nat.le_refl _, Blk.new w 48 (tpCs A L.length c 0), ⟨hr.ext hx, fun x hx => wf_i64 (hL x hx)⟩, Gh.box_O _ _, Gh.box_F _ _⟩

/-- A checkpoint as the reference sees it. -/
structure Vw where
  pos : Int
  st : List UInt8
  is : Bool
def vw : Option Ck → Vw
  | none => ⟨0, [], false⟩
  | some c => ⟨c.pos, c.st, true⟩
theorem vw_pos (o : Option Ck) : (vw o).pos = posO o := by cases o <;> rfl
theorem vw_is (o : Option Ck) : (vw o).is = o.isSome := by cases o <;> rfl
theorem StAt.bytes {g : Gh} {x : World} {v : Value} {o : Option Ck} (h : StAt g x v o) : BytesAt g x v (vw o).st := by
  cases o with
  | none => rw [show v = .slice none 0 0 from h]; exact BytesAt.nil _ _
  | some c => obtain ⟨_, _, h2⟩ := h; exact h2
def sameV (a b : Vw) : Bool := a.pos == b.pos && a.st == b.st && a.is == b.is
theorem sameV_self (a : Vw) : sameV a a = true := by simp [sameV]

/-- A device at rest that holds this checkpoint. -/
def Hold (E : Dev) (m : Nat) (name : ByteArray) (o : Option Ck) : Prop := Quiet E m ∧ ∃ q0 q1, SlotIs E (slotN name 0) q0 ∧ SlotIs E (slotN name 1) q1 ∧ (newS q0 q1).1 = o
/-- What a failure of power leaves holds one of two checkpoints. -/
def Broken (E : Dev) (m : Nat) (name : ByteArray) (c : Ck) (o : Option Ck) : Prop := Fit E ∧ ∀ kp tn, (lossD (downD E) kp tn).down = true ∧ (lossD (downD E) kp tn).pend.length = 0 ∧ (Hold { lossD (downD E) kp tn with down := false } m name (some c) ∨ Hold { lossD (downD E) kp tn with down := false } m name o)
theorem Hold.of {D E : Dev} {m m' : Nat} {name : ByteArray} {o : Option Ck} (h : Hold D m' name o) (hq : Quiet E m) (he : ∀ q, E.now.m q = D.now.m q) : Hold E m name o := by
  obtain ⟨_, q0, q1, h0, h1, h2⟩ := h
  exact ⟨hq, q0, q1, h0.of (he _), h1.of (he _), h2⟩
theorem Hold.lost {D : Dev} {m : Nat} {name : ByteArray} {o : Option Ck} (h : Hold D m name o) (hm : m ≤ 1000) (hlen : ∀ q l, D.now.m q = some l → l.length ≤ 8388608) : Fit D ∧ ∀ kp tn, (lossD (downD D) kp tn).down = true ∧ (lossD (downD D) kp tn).pend.length = 0 ∧ Hold { lossD (downD D) kp tn with down := false } m name o := by
  have hq := h.1
  have hpl := hq.pl
  have hn := hq.n
  refine ⟨⟨by simp [hpl], fun k hk => by simp [hpl] at hk, by rw [hq.kp]; exact hlen, by rw [hq.kp]; omega⟩, fun kp tn => ?_⟩
  have e : lossD (downD D) kp tn = { D with down := true, fuse := 0 } := by unfold lossD; rw [if_pos (by simp [downD, hpl])]; rfl
  rw [e]
  exact ⟨rfl, by simp [hpl], h.of ⟨⟨rfl, rfl⟩, hpl, hq.kp, hn⟩ (fun _ => rfl)⟩

theorem dev_fuse0 {D : Dev} (h : D.fuse = 0) : { D with fuse := 0 } = D := by cases D; simp at h; simp [h]
/-- What a Save leaves, whatever the fuse. -/
theorem Hold.save {D : Dev} {m : Nat} {name : ByteArray} {o0 o1 : Option Ck} (hq : Quiet D m) (h0 : SlotIs D (slotN name 0) o0) (h1 : SlotIs D (slotN name 1) o1) (hm : m ≤ 250) (F : Int) (hF : 0 ≤ F) (c : Ck) (hc : CkOk c) (hs : c.seq = seqO (newS o0 o1).1 + 1) (hlen : ∀ q l, D.now.m q = some l → l.length ≤ 8388608) :
    (svI { D with fuse := F } (svOp name (newS o0 o1).2 c) = 0 ∧ Hold { svD { D with fuse := F } (svOp name (newS o0 o1).2 c) with fuse := 0 } (m + 1) name (some c)) ∨
    (svI { D with fuse := F } (svOp name (newS o0 o1).2 c) = 303 ∧ Broken { svD { D with fuse := F } (svOp name (newS o0 o1).2 c) with fuse := 0 } (m + 1) name c (newS o0 o1).1) := by
  have hn := hq.n
  have hrun : D.now.run (svOp name (newS o0 o1).2 c) = D.now.put (slotN name (newS o0 o1).2) (encC c) := by simp [Fl.run, svOp]
  have hpn := put_n D.now (slotN name (newS o0 o1).2) (encC c)
  have key : ∀ E : Dev, E.pend = [] → E.down = false → E.fuse = 0 → E.kept = E.now → E.now = D.now.put (slotN name (newS o0 o1).2) (encC c) → Hold E (m + 1) name (some c) := fun E e1 e2 e3 e4 e5 => by
    obtain ⟨p0, p1, k0, k1, k2⟩ := slots_new (D' := E) h0 h1 hc hs (by rw [e5]; exact put_same _ _ _) (fun q hq => by rw [e5]; exact put_other _ _ hq)
    exact ⟨⟨⟨e2, e3⟩, e1, e4, by rw [e5]; omega⟩, p0, p1, k0, k1, k2⟩
  rcases (show F = 0 ∨ 1 ≤ F by omega) with rfl | hF1
  · left
    rw [dev_fuse0 hq.up.fu]
    obtain ⟨e1, e2⟩ := hq.save (svOp name (newS o0 o1).2 c)
    rw [e1, e2, hrun]
    exact ⟨rfl, key _ rfl hq.up.dn rfl rfl rfl⟩
  · have hbr : svI { D with fuse := F } (svOp name (newS o0 o1).2 c) = 303 → Broken { svD { D with fuse := F } (svOp name (newS o0 o1).2 c) with fuse := 0 } (m + 1) name c (newS o0 o1).1 := fun hi => by
      have hl := fun kp tn => hq.lost hm F hF1 name (newS o0 o1).2 c hc kp tn hlen
      refine ⟨⟨(hl 0 0).1.pl, (hl 0 0).1.ops, (hl 0 0).1.len, (hl 0 0).1.n⟩, fun kp tn => ?_⟩
      obtain ⟨_, hL, hR⟩ := hl kp tn
      change (lossD (downD (svD { D with fuse := F } (svOp name (newS o0 o1).2 c))) kp tn).down = true ∧ (lossD (downD (svD { D with fuse := F } (svOp name (newS o0 o1).2 c))) kp tn).pend.length = 0 ∧ (Hold { lossD (downD (svD { D with fuse := F } (svOp name (newS o0 o1).2 c))) kp tn with down := false } (m + 1) name (some c) ∨ Hold { lossD (downD (svD { D with fuse := F } (svOp name (newS o0 o1).2 c))) kp tn with down := false } (m + 1) name (newS o0 o1).1)
      rw [hi] at hR
      generalize lossD (downD (svD { D with fuse := F } (svOp name (newS o0 o1).2 c))) kp tn = E at *
      have hQ : Quiet { E with down := false } (m + 1) := ⟨⟨rfl, hL.fu⟩, hL.pl, hL.kp, hL.n⟩
      refine ⟨hL.dn, by rw [hL.pl]; rfl, ?_⟩
      rcases hR with ⟨_, hm'⟩ | ⟨_, l, hl, hm'⟩ | ⟨h', _⟩
      · right
        refine ⟨hQ, o0, o1, h0.of ?_, h1.of ?_, rfl⟩
        all_goals
          show E.now.m _ = D.now.m _
          first
          | (by_cases e : slotN name 0 = slotN name (newS o0 o1).2
             · rw [e]; exact hm'
             · exact hL.ot _ e)
          | (by_cases e : slotN name 1 = slotN name (newS o0 o1).2
             · rw [e]; exact hm'
             · exact hL.ot _ e)
      · obtain ⟨q0, q1, k0, k1, k2⟩ := slots_torn (D' := { E with down := false }) h0 h1 hc hs hl hm' hL.ot
        rcases k2 with k2 | k2
        · exact .inl ⟨hQ, q0, q1, k0, k1, k2⟩
        · exact .inr ⟨hQ, q0, q1, k0, k1, k2⟩
      · cases h'
    rcases hq.fused F hF1 (svOp name (newS o0 o1).2 c) with ⟨hi, hd⟩ | ⟨hi, hd⟩ | ⟨hi, hd⟩
    · exact .inr ⟨hi, hbr hi⟩
    · exact .inr ⟨hi, hbr hi⟩
    · left
      rw [hi, hd, hrun]
      exact ⟨rfl, key _ rfl hq.up.dn rfl rfl rfl⟩

/-- The cells of a list of checkpoints. -/
def cel (V : List (Vw × Value)) : List Value := V.flatMap fun p => [.int .i64 p.1.pos, p.2, .bool p.1.is]
theorem cel_len : ∀ V : List (Vw × Value), (cel V).length = V.length * 3
  | [] => rfl
  | p :: V => by
    have := cel_len V
    simp only [cel, List.flatMap_cons, List.length_append, List.length_cons, List.length_nil] at this ⊢
    omega
theorem cel_get : ∀ (V : List (Vw × Value)) (k : Nat) (p : Vw × Value), V[k]? = some p → (cel V)[k * 3]? = some (.int .i64 p.1.pos) ∧ (cel V)[k * 3 + 1]? = some p.2 ∧ (cel V)[k * 3 + 2]? = some (.bool p.1.is)
  | [], _, _, h => by cases h
  | q :: V, 0, p, h => by
    obtain rfl : q = p := by simpa using h
    exact ⟨rfl, rfl, rfl⟩
  | q :: V, k + 1, p, h => by
    obtain ⟨h1, h2, h3⟩ := cel_get V k p (by simpa using h)
    refine ⟨?_, ?_, ?_⟩
    · rw [← h1]; show _ = _; rw [show (k + 1) * 3 = k * 3 + 3 by omega]; rfl
    · rw [← h2]; show _ = _; rw [show (k + 1) * 3 + 1 = (k * 3 + 1) + 3 by omega]; rfl
    · rw [← h3]; show _ = _; rw [show (k + 1) * 3 + 2 = (k * 3 + 2) + 3 by omega]; rfl
/-- The slice A reads as these checkpoints. -/
def Cands (A : Option Addr) (V : List (Vw × Value)) (g : Gh) (x : World) : Prop := Rd 3 g x A V.length (cel V) ∧ ∀ p ∈ V, BytesAt g x p.2 p.1.st
theorem Cands.stab (A : Option Addr) (V : List (Vw × Value)) : Stab (Cands A V) := fun _ _ _ _ _ hr hx => ⟨hr.1.ext hx, fun p hp => (hr.2 p hp).ext hx⟩
theorem Cands.get {A : Option Addr} {V : List (Vw × Value)} {g : Gh} {x : World} (h : Cands A V g x) {b off : Nat} (hA : A = some ⟨b, off, none⟩) {k : Nat} {p : Vw × Value} (hp : V[k]? = some p) :
    x.cell? ⟨b, off + k * 3, none⟩ = some (.int .i64 p.1.pos) ∧ x.cell? ⟨b, off + k * 3 + 1, none⟩ = some p.2 ∧ x.cell? ⟨b, off + k * 3 + 2, none⟩ = some (.bool p.1.is) := by
  have hk : k < V.length := (List.getElem?_eq_some_iff.1 hp).1
  obtain ⟨b', off', e, _, _, hc⟩ := h.1.at_ (by omega)
  rw [hA] at e
  injection e with e
  injection e with e1 e2 _
  subst e1 e2
  obtain ⟨h1, h2, h3⟩ := cel_get V k p hp
  exact ⟨hc _ _ h1, by rw [Nat.add_assoc]; exact hc _ _ h2, by rw [Nat.add_assoc]; exact hc _ _ h3⟩
theorem Cands.at_ {A : Option Addr} {V : List (Vw × Value)} {g : Gh} {x : World} (h : Cands A V g x) (hn : 0 < V.length) : ∃ b off, A = some ⟨b, off, none⟩ := by
  obtain ⟨b, off, e, _⟩ := h.1.at_ hn
  exact ⟨b, off, e⟩
theorem StAt.shape {g : Gh} {x : World} {v : Value} {o : Option Ck} (h : StAt g x v o) : ∃ A c, v = .slice A (vw o).st.length c := by
  cases o with
  | none => exact ⟨none, 0, h⟩
  | some c => obtain ⟨A, h1, _⟩ := h; exact ⟨A, _, h1⟩
theorem Kp.below {w : World} {t d : Nat} {g : Gh} {x x' : World} {D : Dev} {m : Nat} {B : List (Nat × TypeId × List Value)} {R : Gh → World → Prop} (h : Kp w t d g x D m B R) (hb : Below x.heap.size x x') : Kp w t d g x' D m B R := h.step (M := fun _ => False) (Ext.of_below _ g hb) (fun _ e => e.elim)

def KpS (w : World) (t d : Nat) (g : Gh) (D : Dev) (m : Nat) (B : List (Nat × TypeId × List Value)) (R : Gh → World → Prop) (x : World) : Prop := Kp w t d g x D m B R
theorem Ext.two (g : Gh) (w : World) (o1 o2 : Obj) : Ext (fun _ => False) g w ((g.box w.heap.size).box (w.heap.size + 1)) ((w.alloc o1).alloc o2) := Ext.box2 _ g w o1 o2
end

end Go.Proofs.YtjjdffafibonhaaGreatDoor
