/-
  JournalKeeps: tape, device, journal and candidates together; regions with a floating allocation.
-/
import Derived.Test.YthjbaafbkalomaaJKe
namespace Go.Proofs.Ythjbaafbkalomaa
open Go.RowKit

/-! Regions in which an operation that makes memory may be drawn at any time ahead of the last ones. -/
section
variable {P : Program} {ops : Array Oper} {S : World → Prop} {Q : Exit → Act → World → Prop}
/-- What is to be shown of one operation that acts. -/
def wpAct (P : Program) (ops : Array Oper) (S : World → Prop) (Q : Exit → Act → World → Prop) (e : Nat) (R : Act → World → Prop) (a : Act) (w : World) : Prop := match ops[e]? with
  | some o => wpList P ops (Exit.then (fun a2 w2 => S w2 ∧ R a2 w2) Q) [o] a w
  | none => False
theorem act_step {md : Region.Mode} {e f : Nat} {listed : Array Bool} {R : Act → World → Prop} {a : Act} {w : World} (hk : wpAct P ops S Q e R a w) (hR : ∀ a2 w2, S w2 → R a2 w2 → wpAnyH P md ops Q S f (listed.setIfInBounds e true) a2 w2) :
    wpOp P ops Q e (fun a' w' => S w' ∧ wpAnyH P md ops Q S f (listed.setIfInBounds e true) a' w') a w := by
  unfold wpAct at hk
  unfold wpOp
  cases he : ops[e]? with
  | none => rw [he] at hk; exact hk.elim
  | some o =>
    rw [he] at hk
    simp only
    have hk' : (if Region.wanted o (yielded ops a.tmps) then o.wp P a w (fun a2 w2 => S w2 ∧ R a2 w2) (Exit.then (fun a2 w2 => S w2 ∧ R a2 w2) Q) ∨ (o.asks P a w ∧ LetsOut Q) else S w ∧ R (a.put o.dst undef) w) := hk
    split
    · rename_i hw
      rw [if_pos hw] at hk'
      rcases hk' with hk' | hk'
      · exact .inl (wp_then (fun a2 w2 h => ⟨h.1, hR a2 w2 h.1 h.2⟩) hk')
      · exact .inr hk'
    · rename_i hw
      rw [if_neg hw] at hk'
      exact ⟨hk'.1, hR _ w hk'.1 hk'.2⟩

/-- The plan with an operation z that may come at any time ahead of the tail: at the latest behind the readers rz, ahead of operation s. -/
def wpMixF (P : Program) (ops : Array Oper) (S : World → Prop) (Q : Exit → Act → World → Prop) (last : List Nat) (tail : List (List Nat × Nat)) (rz : List Nat) (s z : Nat) : List (List Nat × Nat) → Act → World → Prop
  | [], a, w => wpRd P ops S (fun a' => wpAct P ops S Q z (wpMix P ops S Q last (([], s) :: tail)) a' w) rz a
  | (rs, e) :: rest, a, w => wpRd P ops S (fun a' => wpAct P ops S Q e (wpMixF P ops S Q last tail rz s z rest) a' w ∧ wpAct P ops S Q z (wpMix P ops S Q last (([], e) :: rest ++ (rz, s) :: tail)) a' w) rs a
def mixFB (md : Region.Mode) (ops : Array Oper) (last : List Nat) (tail : List (List Nat × Nat)) (rz : List Nat) (s z : Nat) : List (List Nat × Nat) → Array Bool → Bool
  | [], listed => takeB md ops rz listed && decide (Region.ready md ops (listAll rz listed) = [z]) && mixB md ops last (([], s) :: tail) ((listAll rz listed).setIfInBounds z true)
  | (rs, e) :: rest, listed => takeB md ops rs listed && decide (Region.ready md ops (listAll rs listed) = [e, z]) && mixFB md ops last tail rz s z rest ((listAll rs listed).setIfInBounds e true) && mixB md ops last (([], e) :: rest ++ (rz, s) :: tail) ((listAll rs listed).setIfInBounds z true)
def planF (last : List Nat) (tail : List (List Nat × Nat)) (rz : List Nat) : List (List Nat × Nat) → Nat
  | [] => rz.length + (1 + (1 + planLen last tail))
  | (rs, _) :: rest => rs.length + (1 + planF last tail rz rest)
theorem planLen_append (last : List Nat) (tail : List (List Nat × Nat)) (rz : List Nat) (s : Nat) : ∀ rest, 1 + planLen last (rest ++ (rz, s) :: tail) = planF last tail rz rest
  | [] => by simp only [List.nil_append, planLen, planF]; omega
  | (rs, _) :: rest => by
    have := planLen_append last tail rz s rest
    simp only [List.cons_append, planLen, planF]
    omega
theorem mixF_any {md : Region.Mode} (hs : Region.noSelect ops = true) (hQ : ∀ c (a : Act) (d : Option Tmp) (v : Value) w, Q (.panic c) (a.put d v) w → Q (.panic c) a w) (last : List Nat) (tail : List (List Nat × Nat)) (rz : List Nat) (s z : Nat) :
    ∀ (plan : List (List Nat × Nat)) (listed : Array Bool) (a : Act) (w : World), S w → mixFB md ops last tail rz s z plan listed = true → wpMixF P ops S Q last tail rz s z plan a w → wpAnyH P md ops Q S (planF last tail rz plan) listed a w
  | [], listed, a, w, hS, hb, h => by
    simp only [mixFB, Bool.and_eq_true, decide_eq_true_eq] at hb
    unfold planF
    refine take_rd (f := 1 + (1 + planLen last tail)) hs hQ hS rz listed a hb.1.1 h (fun a' hk => ?_)
    rw [Nat.add_comm]
    refine wpAnyH_all hb.1.2 (by simp) (fun i hi => ?_)
    obtain rfl : i = z := by simpa using hi
    refine act_step hk (fun a2 w2 h1 h2 => ?_)
    have := mix_any hs hQ last (([], s) :: tail) _ a2 w2 h1 hb.2 h2
    simp only [planLen, List.length_nil, Nat.zero_add] at this
    exact this
  | (rs, e) :: rest, listed, a, w, hS, hb, h => by
    simp only [mixFB, Bool.and_eq_true, decide_eq_true_eq] at hb
    unfold planF
    refine take_rd (f := 1 + planF last tail rz rest) hs hQ hS rs listed a hb.1.1.1 h (fun a' hk => ?_)
    rw [Nat.add_comm]
    refine wpAnyH_all hb.1.1.2 (by simp) (fun i hi => ?_)
    rcases (show i = e ∨ i = z by simpa using hi) with rfl | rfl
    · exact act_step hk.1 (fun a2 w2 h1 h2 => mixF_any hs hQ last tail rz s z rest _ a2 w2 h1 hb.1.2 h2)
    · refine act_step hk.2 (fun a2 w2 h1 h2 => ?_)
      have := mix_any hs hQ last (([], e) :: rest ++ (rz, s) :: tail) _ a2 w2 h1 hb.2 h2
      simp only [List.cons_append, planLen, List.length_nil, Nat.zero_add, planLen_append] at this
      exact this

theorem wp_region_mixf {id : Nat} {a : Act} {w : World} {l : List Oper} (last : List Nat) (tail : List (List Nat × Nat)) (rz : List Nat) (s z : Nat) (plan : List (List Nat × Nat)) (hm : P.follows .mixedOrders = true) (hb : (Region.noSelect l.toArray && mixFB .any l.toArray last tail rz s z plan (Array.replicate l.toArray.size false) && decide (planF last tail rz plan = l.toArray.size)) = true)
    (hQ : ∀ c (a : Act) (d : Option Tmp) (v : Value) w, Q (.panic c) (a.put d v) w → Q (.panic c) a w) (hS : S w.drew) (h : wpMixF P l.toArray S Q last tail rz s z plan a w.drew) : (Code.region id l.toArray true).wp P Q a w := by
  simp only [Bool.and_eq_true, decide_eq_true_eq] at hb
  refine wp_region_held (S := S) hm ?_
  have := mixF_any hb.1.1 hQ last tail rz s z plan _ a w.drew hS hb.1.2 h
  rw [hb.2] at this
  exact this
end

def refOf (J : Jrn) : RefR := ⟨J.start, J.recs, J.pend⟩
/-- Tape, device, reference's journal, journal and candidates. -/
structure JkB (w : World) (d wb j : Nat) (g : Gh) (x : World) (D : Dev) (m : Nat) (J : Jrn) (A1 : Option Addr) (c1 : Nat) (A2 : Option Addr) (c2 : Nat) (A : Option Addr) (cap : Nat) (V : List Cd) : Prop where
  k : JkK w d wb g x D m (refOf J) A1 c1 A2 c2
  ja : JAt g x j d J
  cd : Cds (w.heap.size + 1) g x A cap V
  jw : w.heap.size + 3 < j
  jb : j ≠ wb
section
variable {w : World} {d wb j : Nat} {g : Gh} {x : World} {D : Dev} {m : Nat} {J : Jrn} {A1 : Option Addr} {c1 : Nat} {A2 : Option Addr} {c2 : Nat} {A : Option Addr} {cap : Nat} {V : List Cd}
theorem JkB.step (h : JkB w d wb j g x D m J A1 c1 A2 c2 A cap V) {g' : Gh} {x' : World} {M : Nat → Prop} (hx : Ext M g x g' x') (hM : ∀ o, M o → x.heap.size ≤ o) : JkB w d wb j g' x' D m J A1 c1 A2 c2 A cap V := by
  have h1 := h.k.size
  have h2 := h.k.bw
  have h3 := h.ja.lt
  exact ⟨h.k.step hx hM, h.ja.ext hx (fun e => by have := hM _ e; omega), h.cd.ext hx (fun e => by have := hM _ e; omega), h.jw, h.jb⟩
theorem JkB.next (h : JkB w d wb j g x D m J A1 c1 A2 c2 A cap V) (hm : m ≤ 100000) (n : Nat) (hn : n ≤ 1000000) (h0 : 0 < n) :
    Calls Try.prog 7 #[.pointer (some ⟨w.heap.size, 0, none⟩), .int .i64 (n : Int)] x fun e x' => ∃ v : Nat, e = .returned (.int .i64 v) ∧ v < n ∧ Ext (· = w.heap.size) g x g x' ∧ JkB w d wb j g x' D (m + 1) J A1 c1 A2 c2 A cap V :=
  (jnext h.k hm n hn h0).mono fun _ _ ⟨v, h1, h2, h3, h4⟩ => ⟨v, h1, h2, h3, h4, h.ja.ext h3 (by have := h.jw; omega), h.cd.ext h3 (by omega), h.jw, h.jb⟩
/-- A box of the law's own. -/
structure Bx (w : World) (wb j xb : Nat) (cs : List Value) (g : Gh) (x : World) : Prop where
  blk : Blk xb 35 cs x
  O : g.O xb = xb
  F : g.F xb = 0
  gt : w.heap.size + 3 < xb
  nb : xb ≠ wb
  nj : xb ≠ j
theorem Bx.ext {xb : Nat} {cs : List Value} (h : Bx w wb j xb cs g x) {g' : Gh} {x' : World} {M : Nat → Prop} (hx : Ext M g x g' x') (hM : ¬ M xb) : Bx w wb j xb cs g' x' :=
  ⟨h.blk.ext hx (by rw [h.O]; exact hM), (hx.own _ h.blk.lt).trans h.O, hx.zero _ h.blk.lt h.F, h.gt, h.nb, h.nj⟩
theorem Bx.new (h : JkB w d wb j g x D m J A1 c1 A2 c2 A cap V) : Bx w wb j x.heap.size [.int .i64 0, .slice none 0 0, .slice none 0 0] (g.box x.heap.size) (x.alloc (.cells #[.int .i64 0, .slice none 0 0, .slice none 0 0] 35)) := by
  have h1 := h.k.size
  have h2 := h.k.bw
  have h3 := h.ja.lt
  exact ⟨Blk.new x 35 [.int .i64 0, .slice none 0 0, .slice none 0 0], g.box_O _, g.box_F _, by omega, by omega, by omega⟩
theorem Bx.put3 {xb : Nat} {u0 u1 u2 : Value} (hb : JkB w d wb j g x D m J A1 c1 A2 c2 A cap V) (h : Bx w wb j xb [u0, u1, u2] g x) (v0 v1 v2 : Value) :
    JkB w d wb j g (((x.setCell ⟨xb, 0, none⟩ v0).setCell ⟨xb, 1, none⟩ v1).setCell ⟨xb, 2, none⟩ v2) D m J A1 c1 A2 c2 A cap V ∧ Bx w wb j xb [v0, v1, v2] g (((x.setCell ⟨xb, 0, none⟩ v0).setCell ⟨xb, 1, none⟩ v1).setCell ⟨xb, 2, none⟩ v2) ∧ Ext (· = xb) g x g (((x.setCell ⟨xb, 0, none⟩ v0).setCell ⟨xb, 1, none⟩ v1).setCell ⟨xb, 2, none⟩ v2) := by
  have hO := h.O
  have hx : Ext (· = xb) g x g (((x.setCell ⟨xb, 0, none⟩ v0).setCell ⟨xb, 1, none⟩ v1).setCell ⟨xb, 2, none⟩ v2) :=
    (((Ext.refl (· = xb) g x).setCell (p := ⟨xb, 0, none⟩) (fun _ => hO) h.F _).setCell (p := ⟨xb, 1, none⟩) (fun _ => hO) h.F _).setCell (p := ⟨xb, 2, none⟩) (fun _ => hO) h.F _
  have h1 := h.gt
  have h2 := h.nb
  have h3 := h.nj
  refine ⟨⟨hb.k.ext hx (fun o e => by omega) (by omega) (by omega) (fun e => h2 e.symm), hb.ja.ext hx (fun e => h3 e.symm), hb.cd.ext hx (by omega), hb.jw, hb.jb⟩, ⟨?_, hO, h.F, h.gt, h.nb, h.nj⟩, hx⟩
  have := ((h.blk.set 0 v0).set 1 v1).set 2 v2
  simpa using this
theorem cut_in (R : RefR) (v : Nat) (h : v ≤ R.recs.length) : Hid (R.cut (R.start + (v : Int)) = ⟨R.start + (v : Int), R.recs.drop v, R.pend⟩ ∧ R.cutI (R.start + (v : Int)) = 0) := by
  have e : (R.start + (v : Int) - R.start).toNat = v := by omega
  have hn : ¬ (R.start + (v : Int) < R.start ∨ R.start + (R.recs.length : Int) < R.start + (v : Int)) := by omega
  exact ⟨by unfold RefR.cut; rw [if_neg hn, e], by unfold RefR.cutI; rw [if_neg hn]⟩
end

theorem Cds.snoc {o : Nat} {g : Gh} {x : World} {A : Option Addr} {cap : Nat} {V : List Cd} (h : Cds o g x A cap V) (e : Cd) (he : CdAt g x e) {g' : Gh} {x' : World} {A' : Option Addr} {cap' : Nat} (hx : Ext (· = o) g x g' x') (ha : App 35 3 o g' x' A' (V.length + 1) cap' (celJ V ++ e.cells)) : Cds o g' x' A' cap' (V ++ [e]) := by
  refine ⟨?_, fun f hf => ?_⟩
  · rw [celJ_append, List.length_append]
    have : celJ [e] = e.cells := by simp [celJ]
    rw [this]
    exact ha
  · rcases List.mem_append.1 hf with hf | hf
    · exact ⟨(h.all f hf).1.ext hx, (h.all f hf).2.ext hx⟩
    · rw [List.mem_singleton] at hf
      subst hf
      exact ⟨he.1.ext hx, he.2.ext hx⟩
theorem CdAt.ext {g g' : Gh} {x x' : World} {e : Cd} {M : Nat → Prop} (h : CdAt g x e) (hx : Ext M g x g' x') : CdAt g' x' e := ⟨h.1.ext hx, h.2.ext hx⟩

end Go.Proofs.Ythjbaafbkalomaa
