/-
  The walk of CheckpointKeeps.
-/
import Derived.Test.YtcjkllmellampaaDoorCkB
import Derived.Deep.DeepCutAuto
import Derived.Deep.LoopGhost
namespace Go.Proofs.YtcjkllmellampaaDoor
open Go.RowKit

/-- A device at rest that holds this checkpoint. -/
def Hold (E : Dev) (m : Nat) (name : ByteArray) (o : Option Ck) : Prop := Quiet E m ∧ ∃ q0 q1, SlotIs E (slotN name 0) q0 ∧ SlotIs E (slotN name 1) q1 ∧ (newS q0 q1).1 = o
/-- What a failure of power leaves holds one of two checkpoints. -/
def Broken (E : Dev) (m : Nat) (name : ByteArray) (c : Ck) (o : Option Ck) : Prop := Fit E ∧ ∀ kp tn, (lossD (downD E) kp tn).down = true ∧ (lossD (downD E) kp tn).pend.length = 0 ∧ (Hold { lossD (downD E) kp tn with down := false } m name (some c) ∨ Hold { lossD (downD E) kp tn with down := false } m name o)
theorem Hold.of {D E : Dev} {m m' : Nat} {name : ByteArray} {o : Option Ck} (h : Hold D m' name o) (hq : Quiet E m) (he : ∀ q, E.now.m q = D.now.m q) : Hold E m name o := by
  obtain ⟨_, q0, q1, h0, h1, h2⟩ := h
  exact ⟨hq, q0, q1, h0.of (he _), h1.of (he _), h2⟩
theorem Hold.lost {D : Dev} {m : Nat} {name : ByteArray} {o : Option Ck} (h : Hold D m name o) (hm : m ≤ 1000) (hlen : ∀ q l, D.now.m q = some l → l.length ≤ 8388608) : Fit D ∧ ∀ kp tn, (lossD (downD D) kp tn).down = true ∧ (lossD (downD D) kp tn).pend.length = 0 ∧ Hold { lossD (downD D) kp tn with down := false } m name o := by
  have hq := h.1
  have hpl := hq.pl
  have hn := hq.n
  refine ⟨⟨by simp [hpl], fun k hk => by simp [hpl] at hk, by rw [hq.kp]; exact hlen, by rw [hq.kp]; omega⟩, fun kp tn => ?_⟩
  have e : lossD (downD D) kp tn = { D with down := true, fuse := 0 } := by unfold lossD; rw [if_pos (by simp [downD, hpl])]; rfl
  rw [e]
  exact ⟨rfl, by simp [hpl], h.of ⟨⟨rfl, rfl⟩, hpl, hq.kp, hn⟩ (fun _ => rfl)⟩

theorem dev_fuse0 {D : Dev} (h : D.fuse = 0) : { D with fuse := 0 } = D := by cases D; simp at h; simp [h]
/-- What a Save leaves, whatever the fuse. -/
theorem Hold.save {D : Dev} {m : Nat} {name : ByteArray} {o0 o1 : Option Ck} (hq : Quiet D m) (h0 : SlotIs D (slotN name 0) o0) (h1 : SlotIs D (slotN name 1) o1) (hm : m ≤ 250) (F : Int) (hF : 0 ≤ F) (c : Ck) (hc : CkOk c) (hs : c.seq = seqO (newS o0 o1).1 + 1) (hlen : ∀ q l, D.now.m q = some l → l.length ≤ 8388608) :
    (svI { D with fuse := F } (svOp name (newS o0 o1).2 c) = 0 ∧ Hold { svD { D with fuse := F } (svOp name (newS o0 o1).2 c) with fuse := 0 } (m + 1) name (some c)) ∨
    (svI { D with fuse := F } (svOp name (newS o0 o1).2 c) = 303 ∧ Broken { svD { D with fuse := F } (svOp name (newS o0 o1).2 c) with fuse := 0 } (m + 1) name c (newS o0 o1).1) := by
  have hn := hq.n
  have hrun : D.now.run (svOp name (newS o0 o1).2 c) = D.now.put (slotN name (newS o0 o1).2) (encC c) := by simp [Fl.run, svOp]
  have hpn := put_n D.now (slotN name (newS o0 o1).2) (encC c)
  have key : ∀ E : Dev, E.pend = [] → E.down = false → E.fuse = 0 → E.kept = E.now → E.now = D.now.put (slotN name (newS o0 o1).2) (encC c) → Hold E (m + 1) name (some c) := fun E e1 e2 e3 e4 e5 => by
    obtain ⟨p0, p1, k0, k1, k2⟩ := slots_new (D' := E) h0 h1 hc hs (by rw [e5]; exact put_same _ _ _) (fun q hq => by rw [e5]; exact put_other _ _ hq)
    exact ⟨⟨⟨e2, e3⟩, e1, e4, by rw [e5]; omega⟩, p0, p1, k0, k1, k2⟩
  rcases (show F = 0 ∨ 1 ≤ F by omega) with rfl | hF1
  · left
    rw [dev_fuse0 hq.up.fu]
    obtain ⟨e1, e2⟩ := hq.save (svOp name (newS o0 o1).2 c)
    rw [e1, e2, hrun]
    exact ⟨rfl, key _ rfl hq.up.dn rfl rfl rfl⟩
  · have hbr : svI { D with fuse := F } (svOp name (newS o0 o1).2 c) = 303 → Broken { svD { D with fuse := F } (svOp name (newS o0 o1).2 c) with fuse := 0 } (m + 1) name c (newS o0 o1).1 := fun hi => by
      have hl := fun kp tn => hq.lost hm F hF1 name (newS o0 o1).2 c hc kp tn hlen
      refine ⟨⟨(hl 0 0).1.pl, (hl 0 0).1.ops, (hl 0 0).1.len, (hl 0 0).1.n⟩, fun kp tn => ?_⟩
      obtain ⟨_, hL, hR⟩ := hl kp tn
      change (lossD (downD (svD { D with fuse := F } (svOp name (newS o0 o1).2 c))) kp tn).down = true ∧ (lossD (downD (svD { D with fuse := F } (svOp name (newS o0 o1).2 c))) kp tn).pend.length = 0 ∧ (Hold { lossD (downD (svD { D with fuse := F } (svOp name (newS o0 o1).2 c))) kp tn with down := false } (m + 1) name (some c) ∨ Hold { lossD (downD (svD { D with fuse := F } (svOp name (newS o0 o1).2 c))) kp tn with down := false } (m + 1) name (newS o0 o1).1)
      rw [hi] at hR
      generalize lossD (downD (svD { D with fuse := F } (svOp name (newS o0 o1).2 c))) kp tn = E at *
      have hQ : Quiet { E with down := false } (m + 1) := ⟨⟨rfl, hL.fu⟩, hL.pl, hL.kp, hL.n⟩
      refine ⟨hL.dn, by rw [hL.pl]; rfl, ?_⟩
      rcases hR with ⟨_, hm'⟩ | ⟨_, l, hl, hm'⟩ | ⟨h', _⟩
      · right
        refine ⟨hQ, o0, o1, h0.of ?_, h1.of ?_, rfl⟩
        all_goals
          show E.now.m _ = D.now.m _
          first
          | (by_cases e : slotN name 0 = slotN name (newS o0 o1).2
             · rw [e]; exact hm'
             · exact hL.ot _ e)
          | (by_cases e : slotN name 1 = slotN name (newS o0 o1).2
             · rw [e]; exact hm'
             · exact hL.ot _ e)
      · obtain ⟨q0, q1, k0, k1, k2⟩ := slots_torn (D' := { E with down := false }) h0 h1 hc hs hl hm' hL.ot
        rcases k2 with k2 | k2
        · exact .inl ⟨hQ, q0, q1, k0, k1, k2⟩
        · exact .inr ⟨hQ, q0, q1, k0, k1, k2⟩
      · cases h'
    rcases hq.fused F hF1 (svOp name (newS o0 o1).2 c) with ⟨hi, hd⟩ | ⟨hi, hd⟩ | ⟨hi, hd⟩
    · exact .inr ⟨hi, hbr hi⟩
    · exact .inr ⟨hi, hbr hi⟩
    · left
      rw [hi, hd, hrun]
      exact ⟨rfl, key _ rfl hq.up.dn rfl rfl rfl⟩

/-- The cells of a list of checkpoints. -/
def cel (V : List (Vw × Value)) : List Value := V.flatMap fun p => [.int .i64 p.1.pos, p.2, .bool p.1.is]
theorem cel_len : ∀ V : List (Vw × Value), (cel V).length = V.length * 3
  | [] => rfl
  | p :: V => by
    have := cel_len V
    simp only [cel, List.flatMap_cons, List.length_append, List.length_cons, List.length_nil] at this ⊢
    omega
theorem cel_get : ∀ (V : List (Vw × Value)) (k : Nat) (p : Vw × Value), V[k]? = some p → (cel V)[k * 3]? = some (.int .i64 p.1.pos) ∧ (cel V)[k * 3 + 1]? = some p.2 ∧ (cel V)[k * 3 + 2]? = some (.bool p.1.is)
  | [], _, _, h => by cases h
  | q :: V, 0, p, h => by
    obtain rfl : q = p := by simpa using h
    exact ⟨rfl, rfl, rfl⟩
  | q :: V, k + 1, p, h => by
    obtain ⟨h1, h2, h3⟩ := cel_get V k p (by simpa using h)
    refine ⟨?_, ?_, ?_⟩
    · rw [← h1]; show _ = _; rw [show (k + 1) * 3 = k * 3 + 3 by omega]; rfl
    · rw [← h2]; show _ = _; rw [show (k + 1) * 3 + 1 = (k * 3 + 1) + 3 by omega]; rfl
    · rw [← h3]; show _ = _; rw [show (k + 1) * 3 + 2 = (k * 3 + 2) + 3 by omega]; rfl
/-- The slice A reads as these checkpoints. -/
def Cands (A : Option Addr) (V : List (Vw × Value)) (g : Gh) (x : World) : Prop := Rd 3 g x A V.length (cel V) ∧ ∀ p ∈ V, BytesAt g x p.2 p.1.st
theorem Cands.stab (A : Option Addr) (V : List (Vw × Value)) : Stab (Cands A V) := fun _ _ _ _ _ hr hx => ⟨hr.1.ext hx, fun p hp => (hr.2 p hp).ext hx⟩
theorem Cands.get {A : Option Addr} {V : List (Vw × Value)} {g : Gh} {x : World} (h : Cands A V g x) {b off : Nat} (hA : A = some ⟨b, off, none⟩) {k : Nat} {p : Vw × Value} (hp : V[k]? = some p) :
    x.cell? ⟨b, off + k * 3, none⟩ = some (.int .i64 p.1.pos) ∧ x.cell? ⟨b, off + k * 3 + 1, none⟩ = some p.2 ∧ x.cell? ⟨b, off + k * 3 + 2, none⟩ = some (.bool p.1.is) := by
  have hk : k < V.length := (List.getElem?_eq_some_iff.1 hp).1
  obtain ⟨b', off', e, _, _, hc⟩ := h.1.at_ (by omega)
  rw [hA] at e
  injection e with e
  injection e with e1 e2 _
  subst e1 e2
  obtain ⟨h1, h2, h3⟩ := cel_get V k p hp
  exact ⟨hc _ _ h1, by rw [Nat.add_assoc]; exact hc _ _ h2, by rw [Nat.add_assoc]; exact hc _ _ h3⟩
theorem Cands.at_ {A : Option Addr} {V : List (Vw × Value)} {g : Gh} {x : World} (h : Cands A V g x) (hn : 0 < V.length) : ∃ b off, A = some ⟨b, off, none⟩ := by
  obtain ⟨b, off, e, _⟩ := h.1.at_ hn
  exact ⟨b, off, e⟩
/-- A literal of one checkpoint. -/
theorem Cands.one (g : Gh) (x : World) (p : Vw × Value) (h : BytesAt g x p.2 p.1.st) : Ext (fun _ => False) g x (g.lit x.heap.size 3) (x.alloc (.cells #[.int .i64 p.1.pos, p.2, .bool p.1.is] 34)) ∧ Cands (some ⟨x.heap.size, 0, none⟩) [p] (g.lit x.heap.size 3) (x.alloc (.cells #[.int .i64 p.1.pos, p.2, .bool p.1.is] 34)) := by
  have hx := Ext.lit (fun _ => False) g x (.cells #[.int .i64 p.1.pos, p.2, .bool p.1.is] 34) 3
  refine ⟨hx, ⟨rfl, fun _ => ⟨x.heap.size, 0, rfl, by simp [Gh.lit], by simp, fun j u hu => ?_⟩⟩, fun q hq => ?_⟩
  · rw [cell_at (heap_alloc_new x _), Nat.zero_add]
    simpa [cel] using hu
  · obtain rfl : q = p := by simpa using hq
    exact h.ext hx

theorem Tryd.infoCk : (Tryd.prog.info? 34).map (fun i => (i.zero, i.size, i.bytes)) = some (some (.agg #[.int .i64 0, .slice none 0 0, .bool false]), 3, 40) := by kernel_rfl
theorem Cands.full {A : Option Addr} {V : List (Vw × Value)} {g : Gh} {x : World} (h : Cands A V g x) (o : Nat) (hn : V.length ≤ 1000000) (hA : A ≠ none) : App 34 3 o g x A V.length V.length (cel V) :=
  ⟨h.1, Nat.le_refl _, by simp only [maxLen]; omega, fun e => absurd e hA, fun e => absurd e (Nat.lt_irrefl _)⟩
theorem src_ck (x : World) (p q r : Value) (hp : p.oneCell' = true) (hq : q.oneCell' = true) (hr : r.oneCell' = true) : Src Tryd.prog 3 30 (.slice (some ⟨x.heap.size, 0, none⟩) 1 1) 1 [p, q, r] (x.alloc (.cells #[p, q, r] 34)) :=
  Src.ofSlice _ Tryd.underlying30 _ 1 1 _ rfl (fun j u hu => by
    have hh : (x.alloc (.cells #[p, q, r] 34)).heap[x.heap.size]? = some (.cells #[p, q, r] 34 (0, 0)) := heap_alloc_new x _
    rw [add_lit, Nat.zero_add, cell_at hh]
    simpa using hu) (by simp [hp, hq, hr])

def Calm (bb : Bool) (si : Int) : Prop := bb = false → si = 0
/-- The candidates behind a Save. -/
def Made (si : Int) (W : List (Vw × Value)) (old x : Vw × Value) : Prop := (si = 0 ∧ W = [x]) ∨ (si = 303 ∧ W = [old, x])
/-- The device holds one of the candidates. -/
def FinP (E : Dev) (n : Nat) (W : List (Vw × Value)) (o : Option Ck) : Prop := Hold E n cN o ∧ seqO o ≤ n ∧ posO o ≤ 2 * n ∧ ∃ p ∈ W, p.1 = vw o
theorem fin_new {E : Dev} {n : Nat} {W : List (Vw × Value)} {c : Ck} {si : Int} {old : Vw × Value} {u : Value} {q : Int} (h : Hold E n cN (some c)) (hs : c.seq ≤ n) (hp : c.pos ≤ 2 * n) (hw : Made si W old (⟨q, c.st, true⟩, u)) (hq : (c.pos : Int) = q) : FinP E n W (some c) := by
  subst hq
  refine ⟨h, hs, hp, (⟨c.pos, c.st, true⟩, u), ?_, rfl⟩
  rcases hw with ⟨_, rfl⟩ | ⟨_, rfl⟩ <;> simp
theorem fin_old {E : Dev} {n n' : Nat} {W : List (Vw × Value)} {o : Option Ck} {old x : Vw × Value} (h : Hold E n cN o) (hn : n' ≤ n) (hs : seqO o ≤ n') (hp : posO o ≤ 2 * n') (hw : Made 303 W old x) (ho : old.1 = vw o) : FinP E n W o := by
  refine ⟨h, by omega, by omega, old, ?_, ho⟩
  rcases hw with ⟨e, _⟩ | ⟨_, rfl⟩
  · cases e
  · simp

/-- Whether one of the first q candidates is the checkpoint. -/
def fnd (W : List (Vw × Value)) (C : Vw) (q : Nat) : Bool := (W.take q).any fun p => sameV p.1 C
theorem fnd_next {W : List (Vw × Value)} {C : Vw} {q : Nat} {p : Vw × Value} (hp : W[q]? = some p) : fnd W C (q + 1) = (fnd W C q || sameV p.1 C) := by
  unfold fnd
  rw [List.take_add_one, hp]
  simp
theorem fnd_all {W : List (Vw × Value)} {C : Vw} (h : ∃ p ∈ W, p.1 = C) : fnd W C W.length = true := by
  obtain ⟨p, hp, rfl⟩ := h
  unfold fnd
  rw [List.take_length]
  exact List.any_eq_true.2 ⟨p, hp, sameV_self _⟩
theorem StAt.shape {g : Gh} {x : World} {v : Value} {o : Option Ck} (h : StAt g x v o) : ∃ A c, v = .slice A (vw o).st.length c := by
  cases o with
  | none => exact ⟨none, 0, h⟩
  | some c => obtain ⟨A, h1, _⟩ := h; exact ⟨A, _, h1⟩
theorem Kp.below {w : World} {t d : Nat} {g : Gh} {x x' : World} {D : Dev} {m : Nat} {B : List (Nat × TypeId × List Value)} {R : Gh → World → Prop} (h : Kp w t d g x D m B R) (hb : Below x.heap.size x x') : Kp w t d g x' D m B R := h.step (M := fun _ => False) (Ext.of_below _ g hb) (fun _ e => e.elim)

theorem kload2 {w : World} {t d : Nat} {g : Gh} {x : World} {D : Dev} {m n : Nat} {B : List (Nat × TypeId × List Value)} {R : Gh → World → Prop} {o : Option Ck} (h : Kp w t d g x D m B R) (hh : Hold D n cN o) :
    Calls Tryd.prog 17 #[.pointer (some ⟨d, 0, none⟩), .string cN] x fun e x' => ∃ g' A c, e = .returned (.tuple #[.agg #[.int .i64 (vw o).pos, .slice A (vw o).st.length c, .bool (vw o).is], .bool true]) ∧ Kp w t d g' x' D m B (fun g x => R g x ∧ BytesAt g x (.slice A (vw o).st.length c) (vw o).st) := by
  obtain ⟨hq, r0, r1, k0, k1, k2⟩ := hh
  have h1 := kload h hq.up.dn cN cN_ok r0 r1 k0 k1
  rw [k2, ← vw_pos, ← vw_is] at h1
  refine h1.mono ?_
  rintro e x' ⟨g', v, he, hkp⟩
  obtain ⟨A, c, rfl⟩ := hkp.r.2.shape
  exact ⟨g', A, c, he, hkp.with ⟨hkp.r.1, hkp.r.2.bytes⟩ (h.rs.and (Stab.bytes _ _))⟩
def KpS (w : World) (t d : Nat) (g : Gh) (D : Dev) (m : Nat) (B : List (Nat × TypeId × List Value)) (R : Gh → World → Prop) (x : World) : Prop := Kp w t d g x D m B R
/-- What holds at the head of a round. -/
def KpHead (w : World) (t d : Nat) (k : Nat) (ls ik : Value) (wr : World) : Prop :=
  ∃ (b off : Nat) (Au : Option Addr) (cu : Nat) (o : Option Ck) (g : Gh) (D : Dev) (m : Nat), ls = .slice (some ⟨b, off, none⟩) 1 1 ∧ ik = .int .i64 (k : Int) ∧ k ≤ 13 ∧ m ≤ 1 + 40 * (13 - k) ∧
    Kp w t d g wr D m [] (Cands (some ⟨b, off, none⟩) [(vw o, .slice Au (vw o).st.length cu)]) ∧ Hold D (13 - k) cN o ∧ seqO o ≤ 13 - k ∧ posO o ≤ 2 * (13 - k)

set_option maxRecDepth 100000 in
set_option maxHeartbeats 6400000 in
theorem lawKeeps_any (w : World) (A : Option Addr) (c : Nat) (L : List Int) (hr : Rd 1 (ghW w) w A L.length (L.map (Value.int .i64))) (hL : ∀ x ∈ L, (Lit.int .i64 x).wf = true) :
    Calls Tryd.prog 5 #[.slice A L.length c] w fun e w' => e = .returned (.bool true) ∧ Below w.heap.size w w' := by
  obtain ⟨hx0, ht0⟩ := TapeAt.new (c := c) hr hL
  have HX0 := Lib.hid hx0
  have HT0 := Lib.hid ht0
  clear hx0 ht0 hr hL
  go_enter Tryd.func5, Tryd.ntmps5
  go_wp2_with fail
  refine (gnew ((ghW w).box w.heap.size) _).mono ?_
  rintro e w1 ⟨d, g1, rfl, hd, hx1, hD1⟩
  have HK1 : Hid (Kp w w.heap.size d g1 w1 dev0 0 [] (fun _ _ => True)) := by
    have hs : (w.alloc (.cells #[.slice A L.length c, .int .i64 0] 25)).heap.size = w.heap.size + 1 := by simp
    exact ⟨(HX0.out.trans hx1).imp (fun _ h => h.elim), hD1, HT0.out.ext hx1 (fun h => h), by omega, Nat.le_refl _, by omega, (fun _ h => by cases h), trivial, Stab.true⟩
  clear hx1 hD1 HX0 HT0 hd
  go_wp2_with fail
  refine (known_any g1 w1).mono ?_
  rintro e w3 ⟨rfl, g3, hx3⟩
  have HK3 := Lib.hid (HK1.out.step hx3 (fun _ h => h))
  clear hx3 HK1
  go_wp2_with fail
  have hc := Cands.one g3 w3 (vw none, .slice none 0 0) (BytesAt.nil _ _)
  have HK4 := Lib.hid ((HK3.out.step hc.1 (fun _ h => h.elim)).with hc.2 (Cands.stab _ _))
  clear hc HK3
  generalize g3.lit w3.heap.size 3 = g4 at *
  dsimp only [vw] at HK4
  generalize hw4 : w3.alloc (.cells #[.int .i64 0, .slice none 0 0, .bool false] 34) = w4 at *
  generalize w3.heap.size = b4 at *
  clear hw4
  refine (knextN HK4.out (by omega) 14 (by omega) (by omega)).mono ?_
  rintro e w5 ⟨vn, rfl, hvn, hk5⟩
  have HK5 := Lib.hid hk5
  clear hk5 HK4
  go_wp2_with fail
  go_loopg [5, 6] vn (fun k ls ik wr => KpHead w w.heap.size d k ls ik wr)
  case atStart => exact ⟨b4, 0, none, 0, none, g4, dev0, 0 + 1, rfl, rfl, by omega, by omega, HK5.out, ⟨Quiet.dev0.more (by omega), none, none, SlotIs.zero rfl, SlotIs.zero rfl, rfl⟩, Nat.zero_le _, Nat.zero_le _⟩
  case round =>
    obtain ⟨b, off, Au, cu, o, g, D, m, rfl, rfl, hk, hm, hkp, hh, hsq, hps⟩ := hrel
    have HK6 := Lib.hid hkp
    have HH6 := Lib.hid hh
    have HB6 := Lib.hid (And.intro hsq hps)
    clear hkp hh hsq hps HK5
    obtain ⟨K0, rfl⟩ : ∃ K0 : Nat, K0 = gk := ⟨_, rfl⟩
    obtain ⟨wo, rfl⟩ : ∃ wo : World, wo = wr := ⟨_, rfl⟩
    by_cases hlt : 0 < K0
    · obtain ⟨c0, c1, c2⟩ := HK6.out.r.get rfl (k := 0) rfl
      simp only [Nat.zero_mul, Nat.add_zero] at c0 c1 c2
      go_wp2_with fail
      have HK7 := Lib.hid (HK6.out.box 34 [.int .i64 (vw o).pos, .slice Au (vw o).st.length cu, .bool (vw o).is])
      clear c0 c1 c2 HK6
      dsimp only [List.toArray] at HK7
      generalize g.box wo.heap.size = g7 at *
      generalize hw7 : wo.alloc (.cells #[.int .i64 (vw o).pos, .slice Au (vw o).st.length cu, .bool (vw o).is] 34) = w7 at *
      generalize wo.heap.size = lb at *
      clear hw7
      generalize hV : vw o = V at *
      have HV := Lib.hid hV
      clear hV
      go_loopg [8] 1 (fun kk i wx => ∃ q : Nat, i = .int .i64 q ∧ q ≤ 1 ∧ kk = 1 - q ∧ Kp w w.heap.size d g7 wx D m [(lb, 34, [.int .i64 V.pos, .slice Au V.st.length cu, .bool V.is])] (Cands (some ⟨b, off, none⟩) [(V, .slice Au V.st.length cu)]))
      case atStart => exact ⟨0, rfl, by omega, by omega, HK7.out⟩
      case round =>
        obtain ⟨q, rfl, hq, hkk, hkp⟩ := hrel
        rename_i wx
        have HK8 := Lib.hid hkp
        have HKK := Lib.hid hkk
        clear hkp hkk HK7
        by_cases hq0 : q = 0
        · subst hq0
          obtain ⟨c0, c1, c2⟩ := HK8.out.r.get rfl (k := 0) rfl
          simp only [Nat.zero_mul, Nat.add_zero] at c0 c1 c2
          have hb := HK8.out.blk (List.mem_cons_self ..)
          have l0 := hb.cell 0
          have l1 := hb.cell 1
          have l2 := hb.cell 2
          have lz := hb.fz
          clear hb
          go_wp2_with fail
          go_quiet (fail)
          go_wp2_with fail
          have HK9 := Lib.hid ((((HK8.out.drewN nq).put (fun p hp => by cases hp) 0 (.int .i64 V.pos)).put (fun p hp => by cases hp) 1 (.slice Au V.st.length cu)).put (fun p hp => by cases hp) 2 (.bool V.is))
          dsimp only [List.set] at HK9
          go_roundg 0
          case measure => have := HKK.out; omega
          case rel => exact ⟨1, rfl, by omega, by omega, HK9.out⟩
        · obtain rfl : q = 1 := by omega
          go_wp2_with fail
          have hV0 : 0 ≤ V.pos ∧ V.pos ≤ 26 := by
            have := HB6.out.2
            rw [← HV.out, vw_pos]
            omega
          obtain ⟨hv0, hv1⟩ := hV0
          go_cut [9] (fun s9 wx => ∃ (xb a : Nat) (l : List UInt8) (Ab : Option Addr) (cb : Nat) (gx : Gh) (mx : Nat), s9 = .pointer (some ⟨xb, 0, none⟩) ∧ a ≤ 2 ∧ l.length ≤ 19 ∧ mx ≤ m + 22 ∧ xb ≠ lb ∧
            Kp w w.heap.size d gx wx D mx [(xb, 34, [.int .i64 (V.pos + (a : Int)), .slice Ab l.length cb, .bool true]), (lb, 34, [.int .i64 V.pos, .slice Au V.st.length cu, .bool V.is])] (fun g x => Cands (some ⟨b, off, none⟩) [(V, .slice Au V.st.length cu)] g x ∧ BytesAt g x (.slice Ab l.length cb) l))
          case first =>
            have HK9 := Lib.hid HK8.out.drew
            have hS := (HK9.out.blk (List.mem_cons_self ..)).cell 0
            dsimp only [List.getElem?_cons_zero] at hS
            (refine wp_region_mixf (S := (fun x : World => x.cell? ⟨lb, 0, none⟩ = some (.int .i64 V.pos))) [] [] [12] 14 13 [([0, 1, 2, 5, 6, 8], 3), ([4], 7), ([], 9), ([10], 11)] (by kernel_rfl) (by kernel_rfl) (by intro c a d v w h; cases d <;> exact h) hS ?_; have hN : Nonempty (Held ((fun x : World => x.cell? ⟨lb, 0, none⟩ = some (.int .i64 V.pos)))) := ⟨⟨_, hS⟩⟩)
            have r0 : ∀ y : Held ((fun x : World => x.cell? ⟨lb, 0, none⟩ = some (.int .i64 V.pos))), y.w.cell? ⟨lb, 0, none⟩ = some (.int .i64 V.pos) := fun y => y.ok
            generalize hwq : wr.drew = wq at *
            clear hS hwq
            (unfold wpMixF wpRd; (repeat (first | simp only [List.filterMap_cons] | simp only [List.filterMap_nil] | simp only [List.getElem?_toArray] | simp only [List.getElem?_cons_zero] | simp only [List.getElem?_cons_succ])); (try dsimp only); change wpQuiet _ _ _ _ (_ :: _ :: _ :: _ :: _ :: _ :: []) _; (repeat (go_big_quiet_step (fail))); refine wpQuiet_nil ?_; (try dsimp only))
            refine ⟨?_, ?_⟩
            · (unfold wpAct; (repeat (first | simp only [List.getElem?_toArray] | simp only [List.getElem?_cons_zero] | simp only [List.getElem?_cons_succ])); (try dsimp only))
              go_wp2_with fail
              refine (knextN HK9.out (by omega) 3 (by omega) (by omega)).mono ?_
              rintro e x1 ⟨v1, rfl, hv1, hkb⟩
              have HK101 := Lib.hid hkb
              have hS1 : x1.cell? ⟨lb, 0, none⟩ = some (.int .i64 V.pos) := (hkb.blk (b := lb) (T := 34) (cs := [.int .i64 V.pos, .slice Au V.st.length cu, .bool V.is]) (by simp)).cell 0
              clear hkb
              go_wp2_with fail
              refine ⟨hS1, ?_⟩
              clear hS1
              have hw1 : IntKind.i64.wrap (V.pos + (v1 : Int)) = V.pos + (v1 : Int) := IntWalk.i64_in _ (by omega)
              (unfold wpMixF wpRd; (repeat (first | simp only [List.filterMap_cons] | simp only [List.filterMap_nil] | simp only [List.getElem?_toArray] | simp only [List.getElem?_cons_zero] | simp only [List.getElem?_cons_succ])); (try dsimp only); change wpQuiet _ _ _ _ (_ :: []) _; (repeat (go_big_quiet_step (fail))); refine wpQuiet_nil ?_; (try dsimp only))
              clear hw1
              refine ⟨?_, ?_⟩
              · (unfold wpAct; (repeat (first | simp only [List.getElem?_toArray] | simp only [List.getElem?_cons_zero] | simp only [List.getElem?_cons_succ])); (try dsimp only))
                go_wp2_with fail
                refine (knextN HK101.out (by omega) 20 (by omega) (by omega)).mono ?_
                rintro e x2 ⟨v2, rfl, hv2, hkb⟩
                have HK102 := Lib.hid hkb
                have hS2 : x2.cell? ⟨lb, 0, none⟩ = some (.int .i64 V.pos) := (hkb.blk (b := lb) (T := 34) (cs := [.int .i64 V.pos, .slice Au V.st.length cu, .bool V.is]) (by simp)).cell 0
                clear hkb
                go_wp2_with fail
                refine ⟨hS2, ?_⟩
                clear hS2
                (unfold wpMixF wpRd; (repeat (first | simp only [List.filterMap_cons] | simp only [List.filterMap_nil] | simp only [List.getElem?_toArray] | simp only [List.getElem?_cons_zero] | simp only [List.getElem?_cons_succ])); (try dsimp only); change wpQuiet _ _ _ _ ([]) _; (repeat (go_big_quiet_step (fail))); refine wpQuiet_nil ?_; (try dsimp only))
                refine ⟨?_, ?_⟩
                · (unfold wpAct; (repeat (first | simp only [List.getElem?_toArray] | simp only [List.getElem?_cons_zero] | simp only [List.getElem?_cons_succ])); (try dsimp only))
                  go_wp2_with fail
                  refine (knextN HK102.out (by omega) 4 (by omega) (by omega)).mono ?_
                  rintro e x3 ⟨v3, rfl, hv3, hkb⟩
                  have HK103 := Lib.hid hkb
                  have hS3 : x3.cell? ⟨lb, 0, none⟩ = some (.int .i64 V.pos) := (hkb.blk (b := lb) (T := 34) (cs := [.int .i64 V.pos, .slice Au V.st.length cu, .bool V.is]) (by simp)).cell 0
                  clear hkb
                  go_wp2_with fail
                  refine ⟨hS3, ?_⟩
                  clear hS3
                  have hw2 : IntKind.i64.wrap (1 + (v3 : Int)) = 1 + (v3 : Int) := IntWalk.i64_in _ (by omega)
                  (unfold wpMixF wpRd; (repeat (first | simp only [List.filterMap_cons] | simp only [List.filterMap_nil] | simp only [List.getElem?_toArray] | simp only [List.getElem?_cons_zero] | simp only [List.getElem?_cons_succ])); (try dsimp only); change wpQuiet _ _ _ _ (_ :: []) _; (repeat (go_big_quiet_step (fail))); refine wpQuiet_nil ?_; (try dsimp only))
                  clear hw2
                  refine ⟨?_, ?_⟩
                  · (unfold wpAct; (repeat (first | simp only [List.getElem?_toArray] | simp only [List.getElem?_cons_zero] | simp only [List.getElem?_cons_succ])); (try dsimp only))
                    have hcast : ((1 + v3 : Nat) : Int) = 1 + (v3 : Int) := by omega
                    have HBY := Lib.hid (kbytes HK103.out v2 (1 + v3) (by omega) (by omega) (by omega))
                    rw [hcast] at HBY
                    clear hcast
                    go_wp2_with fail
                    refine HBY.out.mono ?_
                    rintro e x4 ⟨Ab, cb, l, gb, rfl, hl, hkb⟩
                    have HK104 := Lib.hid hkb
                    have HL := Lib.hid hl
                    have hS4 : x4.cell? ⟨lb, 0, none⟩ = some (.int .i64 V.pos) := (hkb.blk (b := lb) (T := 34) (cs := [.int .i64 V.pos, .slice Au V.st.length cu, .bool V.is]) (by simp)).cell 0
                    clear hkb HBY hl
                    go_wp2_with fail
                    refine ⟨hS4, ?_⟩
                    clear hS4
                    (unfold wpMixF wpRd; (repeat (first | simp only [List.filterMap_cons] | simp only [List.filterMap_nil] | simp only [List.getElem?_toArray] | simp only [List.getElem?_cons_zero] | simp only [List.getElem?_cons_succ])); (try dsimp only); change wpQuiet _ _ _ _ (_ :: []) _; (repeat (go_big_quiet_step (fail))); refine wpQuiet_nil ?_; (try dsimp only))
                    (unfold wpAct; (repeat (first | simp only [List.getElem?_toArray] | simp only [List.getElem?_cons_zero] | simp only [List.getElem?_cons_succ])); (try dsimp only))
                    go_wp2_with fail
                    have HK105 := Lib.hid (HK104.out.box 34 [.int .i64 0, .slice none 0 0, .bool false])
                    dsimp only [List.toArray] at HK105
                    have hne : x4.heap.size ≠ lb := by have := (HK104.out.blk (b := lb) (T := 34) (cs := [.int .i64 V.pos, .slice Au V.st.length cu, .bool V.is]) (by simp)).lt; omega
                    generalize hww : x4.alloc (.cells #[.int .i64 0, .slice none 0 0, .bool false] 34) = x5 at *
                    generalize Gh.box _ x4.heap.size = gx5 at HK105
                    generalize x4.heap.size = xb at *
                    clear hww
                    have hS5 : x5.cell? ⟨lb, 0, none⟩ = some (.int .i64 V.pos) := (HK105.out.blk (b := lb) (T := 34) (cs := [.int .i64 V.pos, .slice Au V.st.length cu, .bool V.is]) (by simp)).cell 0
                    refine ⟨hS5, ?_⟩
                    clear hS5
                    (unfold wpMix wpRd; (repeat (first | simp only [List.filterMap_cons] | simp only [List.filterMap_nil] | simp only [List.getElem?_toArray] | simp only [List.getElem?_cons_zero] | simp only [List.getElem?_cons_succ])); (try dsimp only); change wpQuiet _ _ _ _ ([]) _; (repeat (go_big_quiet_step (fail))); refine wpQuiet_nil ?_; (try dsimp only))
                    have hbx := HK105.out.blk (b := xb) (T := 34) (cs := [.int .i64 0, .slice none 0 0, .bool false]) (by simp)
                    have e0 := hbx.cell 0
                    have e1 := hbx.cell 1
                    have e2 := hbx.cell 2
                    have ez := hbx.fz
                    clear hbx
                    go_wp2_with fail
                    have HKE := Lib.hid (((HK105.out.put (fun p hp => by obtain rfl : p = _ := (by simpa using hp); exact hne.symm) 0 (.int .i64 (V.pos + (v1 : Int)))).put (fun p hp => by obtain rfl : p = _ := (by simpa using hp); exact hne.symm) 1 (.slice Ab l.length cb)).put (fun p hp => by obtain rfl : p = _ := (by simpa using hp); exact hne.symm) 2 (.bool true))
                    dsimp only [List.set] at HKE
                    clear e0 e1 e2 ez
                    refine ⟨(HKE.out.blk (b := lb) (T := 34) (cs := [.int .i64 V.pos, .slice Au V.st.length cu, .bool V.is]) (by simp)).cell 0, ?_⟩
                    (unfold wpMix wpRd; (repeat (first | simp only [List.filterMap_cons] | simp only [List.filterMap_nil] | simp only [List.getElem?_toArray] | simp only [List.getElem?_cons_zero] | simp only [List.getElem?_cons_succ])); (try dsimp only); change wpQuiet _ _ _ _ ([]) _; (repeat (go_big_quiet_step (fail))); refine wpQuiet_nil ?_; (try dsimp only))
                    go_wp2_with fail
                    go_meet
                    exact ⟨xb, v1, l, Ab, cb, _, _, rfl, by omega, by have := HL.out; omega, by omega, hne, HKE.out⟩
                  · (unfold wpAct; (repeat (first | simp only [List.getElem?_toArray] | simp only [List.getElem?_cons_zero] | simp only [List.getElem?_cons_succ])); (try dsimp only))
                    go_wp2_with fail
                    have HK107 := Lib.hid (HK103.out.box 34 [.int .i64 0, .slice none 0 0, .bool false])
                    dsimp only [List.toArray] at HK107
                    have hne : x3.heap.size ≠ lb := by have := (HK103.out.blk (b := lb) (T := 34) (cs := [.int .i64 V.pos, .slice Au V.st.length cu, .bool V.is]) (by simp)).lt; omega
                    generalize hww : x3.alloc (.cells #[.int .i64 0, .slice none 0 0, .bool false] 34) = x7 at *
                    generalize Gh.box _ x3.heap.size = gx7 at HK107
                    generalize x3.heap.size = xb at *
                    clear hww
                    have hS7 : x7.cell? ⟨lb, 0, none⟩ = some (.int .i64 V.pos) := (HK107.out.blk (b := lb) (T := 34) (cs := [.int .i64 V.pos, .slice Au V.st.length cu, .bool V.is]) (by simp)).cell 0
                    refine ⟨hS7, ?_⟩
                    clear hS7
                    simp only [List.cons_append, List.nil_append]
                    (unfold wpMix wpRd; (repeat (first | simp only [List.filterMap_cons] | simp only [List.filterMap_nil] | simp only [List.getElem?_toArray] | simp only [List.getElem?_cons_zero] | simp only [List.getElem?_cons_succ])); (try dsimp only); change wpQuiet _ _ _ _ ([]) _; (repeat (go_big_quiet_step (fail))); refine wpQuiet_nil ?_; (try dsimp only))
                    have hcast : ((1 + v3 : Nat) : Int) = 1 + (v3 : Int) := by omega
                    have HBY := Lib.hid (kbytes HK107.out v2 (1 + v3) (by omega) (by omega) (by omega))
                    rw [hcast] at HBY
                    clear hcast
                    go_wp2_with fail
                    refine HBY.out.mono ?_
                    rintro e x8 ⟨Ab, cb, l, gb, rfl, hl, hkb⟩
                    have HK108 := Lib.hid hkb
                    have HL := Lib.hid hl
                    have hS8 : x8.cell? ⟨lb, 0, none⟩ = some (.int .i64 V.pos) := (hkb.blk (b := lb) (T := 34) (cs := [.int .i64 V.pos, .slice Au V.st.length cu, .bool V.is]) (by simp)).cell 0
                    clear hkb HBY hl
                    go_wp2_with fail
                    refine ⟨hS8, ?_⟩
                    clear hS8
                    (unfold wpMix wpRd; (repeat (first | simp only [List.filterMap_cons] | simp only [List.filterMap_nil] | simp only [List.getElem?_toArray] | simp only [List.getElem?_cons_zero] | simp only [List.getElem?_cons_succ])); (try dsimp only); change wpQuiet _ _ _ _ (_ :: []) _; (repeat (go_big_quiet_step (fail))); refine wpQuiet_nil ?_; (try dsimp only))
                    have hbx := HK108.out.blk (b := xb) (T := 34) (cs := [.int .i64 0, .slice none 0 0, .bool false]) (by simp)
                    have e0 := hbx.cell 0
                    have e1 := hbx.cell 1
                    have e2 := hbx.cell 2
                    have ez := hbx.fz
                    clear hbx
                    go_wp2_with fail
                    have HKE := Lib.hid (((HK108.out.put (fun p hp => by obtain rfl : p = _ := (by simpa using hp); exact hne.symm) 0 (.int .i64 (V.pos + (v1 : Int)))).put (fun p hp => by obtain rfl : p = _ := (by simpa using hp); exact hne.symm) 1 (.slice Ab l.length cb)).put (fun p hp => by obtain rfl : p = _ := (by simpa using hp); exact hne.symm) 2 (.bool true))
                    dsimp only [List.set] at HKE
                    clear e0 e1 e2 ez
                    refine ⟨(HKE.out.blk (b := lb) (T := 34) (cs := [.int .i64 V.pos, .slice Au V.st.length cu, .bool V.is]) (by simp)).cell 0, ?_⟩
                    (unfold wpMix wpRd; (repeat (first | simp only [List.filterMap_cons] | simp only [List.filterMap_nil] | simp only [List.getElem?_toArray] | simp only [List.getElem?_cons_zero] | simp only [List.getElem?_cons_succ])); (try dsimp only); change wpQuiet _ _ _ _ ([]) _; (repeat (go_big_quiet_step (fail))); refine wpQuiet_nil ?_; (try dsimp only))
                    go_wp2_with fail
                    go_meet
                    exact ⟨xb, v1, l, Ab, cb, _, _, rfl, by omega, by have := HL.out; omega, by omega, hne, HKE.out⟩
                · (unfold wpAct; (repeat (first | simp only [List.getElem?_toArray] | simp only [List.getElem?_cons_zero] | simp only [List.getElem?_cons_succ])); (try dsimp only))
                  go_wp2_with fail
                  have HK110 := Lib.hid (HK102.out.box 34 [.int .i64 0, .slice none 0 0, .bool false])
                  dsimp only [List.toArray] at HK110
                  have hne : x2.heap.size ≠ lb := by have := (HK102.out.blk (b := lb) (T := 34) (cs := [.int .i64 V.pos, .slice Au V.st.length cu, .bool V.is]) (by simp)).lt; omega
                  generalize hww : x2.alloc (.cells #[.int .i64 0, .slice none 0 0, .bool false] 34) = x10 at *
                  generalize Gh.box _ x2.heap.size = gx10 at HK110
                  generalize x2.heap.size = xb at *
                  clear hww
                  have hS10 : x10.cell? ⟨lb, 0, none⟩ = some (.int .i64 V.pos) := (HK110.out.blk (b := lb) (T := 34) (cs := [.int .i64 V.pos, .slice Au V.st.length cu, .bool V.is]) (by simp)).cell 0
                  refine ⟨hS10, ?_⟩
                  clear hS10
                  simp only [List.cons_append, List.nil_append]
                  (unfold wpMix wpRd; (repeat (first | simp only [List.filterMap_cons] | simp only [List.filterMap_nil] | simp only [List.getElem?_toArray] | simp only [List.getElem?_cons_zero] | simp only [List.getElem?_cons_succ])); (try dsimp only); change wpQuiet _ _ _ _ ([]) _; (repeat (go_big_quiet_step (fail))); refine wpQuiet_nil ?_; (try dsimp only))
                  go_wp2_with fail
                  refine (knextN HK110.out (by omega) 4 (by omega) (by omega)).mono ?_
                  rintro e x11 ⟨v11, rfl, hv11, hkb⟩
                  have HK111 := Lib.hid hkb
                  have hS11 : x11.cell? ⟨lb, 0, none⟩ = some (.int .i64 V.pos) := (hkb.blk (b := lb) (T := 34) (cs := [.int .i64 V.pos, .slice Au V.st.length cu, .bool V.is]) (by simp)).cell 0
                  clear hkb
                  go_wp2_with fail
                  refine ⟨hS11, ?_⟩
                  clear hS11
                  have hw2 : IntKind.i64.wrap (1 + (v11 : Int)) = 1 + (v11 : Int) := IntWalk.i64_in _ (by omega)
                  (unfold wpMix wpRd; (repeat (first | simp only [List.filterMap_cons] | simp only [List.filterMap_nil] | simp only [List.getElem?_toArray] | simp only [List.getElem?_cons_zero] | simp only [List.getElem?_cons_succ])); (try dsimp only); change wpQuiet _ _ _ _ (_ :: []) _; (repeat (go_big_quiet_step (fail))); refine wpQuiet_nil ?_; (try dsimp only))
                  clear hw2
                  have hcast : ((1 + v11 : Nat) : Int) = 1 + (v11 : Int) := by omega
                  have HBY := Lib.hid (kbytes HK111.out v2 (1 + v11) (by omega) (by omega) (by omega))
                  rw [hcast] at HBY
                  clear hcast
                  go_wp2_with fail
                  refine HBY.out.mono ?_
                  rintro e x12 ⟨Ab, cb, l, gb, rfl, hl, hkb⟩
                  have HK112 := Lib.hid hkb
                  have HL := Lib.hid hl
                  have hS12 : x12.cell? ⟨lb, 0, none⟩ = some (.int .i64 V.pos) := (hkb.blk (b := lb) (T := 34) (cs := [.int .i64 V.pos, .slice Au V.st.length cu, .bool V.is]) (by simp)).cell 0
                  clear hkb HBY hl
                  go_wp2_with fail
                  refine ⟨hS12, ?_⟩
                  clear hS12
                  (unfold wpMix wpRd; (repeat (first | simp only [List.filterMap_cons] | simp only [List.filterMap_nil] | simp only [List.getElem?_toArray] | simp only [List.getElem?_cons_zero] | simp only [List.getElem?_cons_succ])); (try dsimp only); change wpQuiet _ _ _ _ (_ :: []) _; (repeat (go_big_quiet_step (fail))); refine wpQuiet_nil ?_; (try dsimp only))
                  have hbx := HK112.out.blk (b := xb) (T := 34) (cs := [.int .i64 0, .slice none 0 0, .bool false]) (by simp)
                  have e0 := hbx.cell 0
                  have e1 := hbx.cell 1
                  have e2 := hbx.cell 2
                  have ez := hbx.fz
                  clear hbx
                  go_wp2_with fail
                  have HKE := Lib.hid (((HK112.out.put (fun p hp => by obtain rfl : p = _ := (by simpa using hp); exact hne.symm) 0 (.int .i64 (V.pos + (v1 : Int)))).put (fun p hp => by obtain rfl : p = _ := (by simpa using hp); exact hne.symm) 1 (.slice Ab l.length cb)).put (fun p hp => by obtain rfl : p = _ := (by simpa using hp); exact hne.symm) 2 (.bool true))
                  dsimp only [List.set] at HKE
                  clear e0 e1 e2 ez
                  refine ⟨(HKE.out.blk (b := lb) (T := 34) (cs := [.int .i64 V.pos, .slice Au V.st.length cu, .bool V.is]) (by simp)).cell 0, ?_⟩
                  (unfold wpMix wpRd; (repeat (first | simp only [List.filterMap_cons] | simp only [List.filterMap_nil] | simp only [List.getElem?_toArray] | simp only [List.getElem?_cons_zero] | simp only [List.getElem?_cons_succ])); (try dsimp only); change wpQuiet _ _ _ _ ([]) _; (repeat (go_big_quiet_step (fail))); refine wpQuiet_nil ?_; (try dsimp only))
                  go_wp2_with fail
                  go_meet
                  exact ⟨xb, v1, l, Ab, cb, _, _, rfl, by omega, by have := HL.out; omega, by omega, hne, HKE.out⟩
              · (unfold wpAct; (repeat (first | simp only [List.getElem?_toArray] | simp only [List.getElem?_cons_zero] | simp only [List.getElem?_cons_succ])); (try dsimp only))
                go_wp2_with fail
                have HK114 := Lib.hid (HK101.out.box 34 [.int .i64 0, .slice none 0 0, .bool false])
                dsimp only [List.toArray] at HK114
                have hne : x1.heap.size ≠ lb := by have := (HK101.out.blk (b := lb) (T := 34) (cs := [.int .i64 V.pos, .slice Au V.st.length cu, .bool V.is]) (by simp)).lt; omega
                generalize hww : x1.alloc (.cells #[.int .i64 0, .slice none 0 0, .bool false] 34) = x14 at *
                generalize Gh.box _ x1.heap.size = gx14 at HK114
                generalize x1.heap.size = xb at *
                clear hww
                have hS14 : x14.cell? ⟨lb, 0, none⟩ = some (.int .i64 V.pos) := (HK114.out.blk (b := lb) (T := 34) (cs := [.int .i64 V.pos, .slice Au V.st.length cu, .bool V.is]) (by simp)).cell 0
                refine ⟨hS14, ?_⟩
                clear hS14
                simp only [List.cons_append, List.nil_append]
                (unfold wpMix wpRd; (repeat (first | simp only [List.filterMap_cons] | simp only [List.filterMap_nil] | simp only [List.getElem?_toArray] | simp only [List.getElem?_cons_zero] | simp only [List.getElem?_cons_succ])); (try dsimp only); change wpQuiet _ _ _ _ ([]) _; (repeat (go_big_quiet_step (fail))); refine wpQuiet_nil ?_; (try dsimp only))
                go_wp2_with fail
                refine (knextN HK114.out (by omega) 20 (by omega) (by omega)).mono ?_
                rintro e x15 ⟨v15, rfl, hv15, hkb⟩
                have HK115 := Lib.hid hkb
                have hS15 : x15.cell? ⟨lb, 0, none⟩ = some (.int .i64 V.pos) := (hkb.blk (b := lb) (T := 34) (cs := [.int .i64 V.pos, .slice Au V.st.length cu, .bool V.is]) (by simp)).cell 0
                clear hkb
                go_wp2_with fail
                refine ⟨hS15, ?_⟩
                clear hS15
                (unfold wpMix wpRd; (repeat (first | simp only [List.filterMap_cons] | simp only [List.filterMap_nil] | simp only [List.getElem?_toArray] | simp only [List.getElem?_cons_zero] | simp only [List.getElem?_cons_succ])); (try dsimp only); change wpQuiet _ _ _ _ ([]) _; (repeat (go_big_quiet_step (fail))); refine wpQuiet_nil ?_; (try dsimp only))
                go_wp2_with fail
                refine (knextN HK115.out (by omega) 4 (by omega) (by omega)).mono ?_
                rintro e x16 ⟨v16, rfl, hv16, hkb⟩
                have HK116 := Lib.hid hkb
                have hS16 : x16.cell? ⟨lb, 0, none⟩ = some (.int .i64 V.pos) := (hkb.blk (b := lb) (T := 34) (cs := [.int .i64 V.pos, .slice Au V.st.length cu, .bool V.is]) (by simp)).cell 0
                clear hkb
                go_wp2_with fail
                refine ⟨hS16, ?_⟩
                clear hS16
                have hw2 : IntKind.i64.wrap (1 + (v16 : Int)) = 1 + (v16 : Int) := IntWalk.i64_in _ (by omega)
                (unfold wpMix wpRd; (repeat (first | simp only [List.filterMap_cons] | simp only [List.filterMap_nil] | simp only [List.getElem?_toArray] | simp only [List.getElem?_cons_zero] | simp only [List.getElem?_cons_succ])); (try dsimp only); change wpQuiet _ _ _ _ (_ :: []) _; (repeat (go_big_quiet_step (fail))); refine wpQuiet_nil ?_; (try dsimp only))
                clear hw2
                have hcast : ((1 + v16 : Nat) : Int) = 1 + (v16 : Int) := by omega
                have HBY := Lib.hid (kbytes HK116.out v15 (1 + v16) (by omega) (by omega) (by omega))
                rw [hcast] at HBY
                clear hcast
                go_wp2_with fail
                refine HBY.out.mono ?_
                rintro e x17 ⟨Ab, cb, l, gb, rfl, hl, hkb⟩
                have HK117 := Lib.hid hkb
                have HL := Lib.hid hl
                have hS17 : x17.cell? ⟨lb, 0, none⟩ = some (.int .i64 V.pos) := (hkb.blk (b := lb) (T := 34) (cs := [.int .i64 V.pos, .slice Au V.st.length cu, .bool V.is]) (by simp)).cell 0
                clear hkb HBY hl
                go_wp2_with fail
                refine ⟨hS17, ?_⟩
                clear hS17
                (unfold wpMix wpRd; (repeat (first | simp only [List.filterMap_cons] | simp only [List.filterMap_nil] | simp only [List.getElem?_toArray] | simp only [List.getElem?_cons_zero] | simp only [List.getElem?_cons_succ])); (try dsimp only); change wpQuiet _ _ _ _ (_ :: []) _; (repeat (go_big_quiet_step (fail))); refine wpQuiet_nil ?_; (try dsimp only))
                have hbx := HK117.out.blk (b := xb) (T := 34) (cs := [.int .i64 0, .slice none 0 0, .bool false]) (by simp)
                have e0 := hbx.cell 0
                have e1 := hbx.cell 1
                have e2 := hbx.cell 2
                have ez := hbx.fz
                clear hbx
                go_wp2_with fail
                have HKE := Lib.hid (((HK117.out.put (fun p hp => by obtain rfl : p = _ := (by simpa using hp); exact hne.symm) 0 (.int .i64 (V.pos + (v1 : Int)))).put (fun p hp => by obtain rfl : p = _ := (by simpa using hp); exact hne.symm) 1 (.slice Ab l.length cb)).put (fun p hp => by obtain rfl : p = _ := (by simpa using hp); exact hne.symm) 2 (.bool true))
                dsimp only [List.set] at HKE
                clear e0 e1 e2 ez
                refine ⟨(HKE.out.blk (b := lb) (T := 34) (cs := [.int .i64 V.pos, .slice Au V.st.length cu, .bool V.is]) (by simp)).cell 0, ?_⟩
                (unfold wpMix wpRd; (repeat (first | simp only [List.filterMap_cons] | simp only [List.filterMap_nil] | simp only [List.getElem?_toArray] | simp only [List.getElem?_cons_zero] | simp only [List.getElem?_cons_succ])); (try dsimp only); change wpQuiet _ _ _ _ ([]) _; (repeat (go_big_quiet_step (fail))); refine wpQuiet_nil ?_; (try dsimp only))
                go_wp2_with fail
                go_meet
                exact ⟨xb, v1, l, Ab, cb, _, _, rfl, by omega, by have := HL.out; omega, by omega, hne, HKE.out⟩
            · (unfold wpAct; (repeat (first | simp only [List.getElem?_toArray] | simp only [List.getElem?_cons_zero] | simp only [List.getElem?_cons_succ])); (try dsimp only))
              go_wp2_with fail
              have HK119 := Lib.hid (HK9.out.box 34 [.int .i64 0, .slice none 0 0, .bool false])
              dsimp only [List.toArray] at HK119
              have hne : wq.heap.size ≠ lb := by have := (HK9.out.blk (b := lb) (T := 34) (cs := [.int .i64 V.pos, .slice Au V.st.length cu, .bool V.is]) (by simp)).lt; omega
              generalize hww : wq.alloc (.cells #[.int .i64 0, .slice none 0 0, .bool false] 34) = x19 at *
              generalize Gh.box _ wq.heap.size = gx19 at HK119
              generalize wq.heap.size = xb at *
              clear hww
              have hS19 : x19.cell? ⟨lb, 0, none⟩ = some (.int .i64 V.pos) := (HK119.out.blk (b := lb) (T := 34) (cs := [.int .i64 V.pos, .slice Au V.st.length cu, .bool V.is]) (by simp)).cell 0
              refine ⟨hS19, ?_⟩
              clear hS19
              simp only [List.cons_append, List.nil_append]
              (unfold wpMix wpRd; (repeat (first | simp only [List.filterMap_cons] | simp only [List.filterMap_nil] | simp only [List.getElem?_toArray] | simp only [List.getElem?_cons_zero] | simp only [List.getElem?_cons_succ])); (try dsimp only); change wpQuiet _ _ _ _ ([]) _; (repeat (go_big_quiet_step (fail))); refine wpQuiet_nil ?_; (try dsimp only))
              go_wp2_with fail
              refine (knextN HK119.out (by omega) 3 (by omega) (by omega)).mono ?_
              rintro e x20 ⟨v20, rfl, hv20, hkb⟩
              have HK120 := Lib.hid hkb
              have hS20 : x20.cell? ⟨lb, 0, none⟩ = some (.int .i64 V.pos) := (hkb.blk (b := lb) (T := 34) (cs := [.int .i64 V.pos, .slice Au V.st.length cu, .bool V.is]) (by simp)).cell 0
              clear hkb
              go_wp2_with fail
              refine ⟨hS20, ?_⟩
              clear hS20
              have hw1 : IntKind.i64.wrap (V.pos + (v20 : Int)) = V.pos + (v20 : Int) := IntWalk.i64_in _ (by omega)
              (unfold wpMix wpRd; (repeat (first | simp only [List.filterMap_cons] | simp only [List.filterMap_nil] | simp only [List.getElem?_toArray] | simp only [List.getElem?_cons_zero] | simp only [List.getElem?_cons_succ])); (try dsimp only); change wpQuiet _ _ _ _ (_ :: []) _; (repeat (go_big_quiet_step (fail))); refine wpQuiet_nil ?_; (try dsimp only))
              clear hw1
              go_wp2_with fail
              refine (knextN HK120.out (by omega) 20 (by omega) (by omega)).mono ?_
              rintro e x21 ⟨v21, rfl, hv21, hkb⟩
              have HK121 := Lib.hid hkb
              have hS21 : x21.cell? ⟨lb, 0, none⟩ = some (.int .i64 V.pos) := (hkb.blk (b := lb) (T := 34) (cs := [.int .i64 V.pos, .slice Au V.st.length cu, .bool V.is]) (by simp)).cell 0
              clear hkb
              go_wp2_with fail
              refine ⟨hS21, ?_⟩
              clear hS21
              (unfold wpMix wpRd; (repeat (first | simp only [List.filterMap_cons] | simp only [List.filterMap_nil] | simp only [List.getElem?_toArray] | simp only [List.getElem?_cons_zero] | simp only [List.getElem?_cons_succ])); (try dsimp only); change wpQuiet _ _ _ _ ([]) _; (repeat (go_big_quiet_step (fail))); refine wpQuiet_nil ?_; (try dsimp only))
              go_wp2_with fail
              refine (knextN HK121.out (by omega) 4 (by omega) (by omega)).mono ?_
              rintro e x22 ⟨v22, rfl, hv22, hkb⟩
              have HK122 := Lib.hid hkb
              have hS22 : x22.cell? ⟨lb, 0, none⟩ = some (.int .i64 V.pos) := (hkb.blk (b := lb) (T := 34) (cs := [.int .i64 V.pos, .slice Au V.st.length cu, .bool V.is]) (by simp)).cell 0
              clear hkb
              go_wp2_with fail
              refine ⟨hS22, ?_⟩
              clear hS22
              have hw2 : IntKind.i64.wrap (1 + (v22 : Int)) = 1 + (v22 : Int) := IntWalk.i64_in _ (by omega)
              (unfold wpMix wpRd; (repeat (first | simp only [List.filterMap_cons] | simp only [List.filterMap_nil] | simp only [List.getElem?_toArray] | simp only [List.getElem?_cons_zero] | simp only [List.getElem?_cons_succ])); (try dsimp only); change wpQuiet _ _ _ _ (_ :: []) _; (repeat (go_big_quiet_step (fail))); refine wpQuiet_nil ?_; (try dsimp only))
              clear hw2
              have hcast : ((1 + v22 : Nat) : Int) = 1 + (v22 : Int) := by omega
              have HBY := Lib.hid (kbytes HK122.out v21 (1 + v22) (by omega) (by omega) (by omega))
              rw [hcast] at HBY
              clear hcast
              go_wp2_with fail
              refine HBY.out.mono ?_
              rintro e x23 ⟨Ab, cb, l, gb, rfl, hl, hkb⟩
              have HK123 := Lib.hid hkb
              have HL := Lib.hid hl
              have hS23 : x23.cell? ⟨lb, 0, none⟩ = some (.int .i64 V.pos) := (hkb.blk (b := lb) (T := 34) (cs := [.int .i64 V.pos, .slice Au V.st.length cu, .bool V.is]) (by simp)).cell 0
              clear hkb HBY hl
              go_wp2_with fail
              refine ⟨hS23, ?_⟩
              clear hS23
              (unfold wpMix wpRd; (repeat (first | simp only [List.filterMap_cons] | simp only [List.filterMap_nil] | simp only [List.getElem?_toArray] | simp only [List.getElem?_cons_zero] | simp only [List.getElem?_cons_succ])); (try dsimp only); change wpQuiet _ _ _ _ (_ :: []) _; (repeat (go_big_quiet_step (fail))); refine wpQuiet_nil ?_; (try dsimp only))
              have hbx := HK123.out.blk (b := xb) (T := 34) (cs := [.int .i64 0, .slice none 0 0, .bool false]) (by simp)
              have e0 := hbx.cell 0
              have e1 := hbx.cell 1
              have e2 := hbx.cell 2
              have ez := hbx.fz
              clear hbx
              go_wp2_with fail
              have HKE := Lib.hid (((HK123.out.put (fun p hp => by obtain rfl : p = _ := (by simpa using hp); exact hne.symm) 0 (.int .i64 (V.pos + (v20 : Int)))).put (fun p hp => by obtain rfl : p = _ := (by simpa using hp); exact hne.symm) 1 (.slice Ab l.length cb)).put (fun p hp => by obtain rfl : p = _ := (by simpa using hp); exact hne.symm) 2 (.bool true))
              dsimp only [List.set] at HKE
              clear e0 e1 e2 ez
              refine ⟨(HKE.out.blk (b := lb) (T := 34) (cs := [.int .i64 V.pos, .slice Au V.st.length cu, .bool V.is]) (by simp)).cell 0, ?_⟩
              (unfold wpMix wpRd; (repeat (first | simp only [List.filterMap_cons] | simp only [List.filterMap_nil] | simp only [List.getElem?_toArray] | simp only [List.getElem?_cons_zero] | simp only [List.getElem?_cons_succ])); (try dsimp only); change wpQuiet _ _ _ _ ([]) _; (repeat (go_big_quiet_step (fail))); refine wpQuiet_nil ?_; (try dsimp only))
              go_wp2_with fail
              go_meet
              exact ⟨xb, v20, l, Ab, cb, _, _, rfl, by omega, by have := HL.out; omega, by omega, hne, HKE.out⟩
          case rest =>
            obtain ⟨xb, a, l, Ab, cb, gx, mx, rfl, ha, hl, hmx, hne, hkp⟩ := hcut
            have HK10 := Lib.hid hkp
            clear hkp HK8
            go_wp2_with fail
            refine (knextN HK10.out (by omega) 3 (by omega) (by omega)).mono ?_
            rintro e w11 ⟨va, rfl, hva, hk11⟩
            have HK11 := Lib.hid hk11
            clear hk11 HK10
            obtain ⟨hq, q0, q1, hs0, hs1, hnw⟩ := HH6.out
            have HQ := Lib.hid hq
            have HS0 := Lib.hid hs0
            have HS1 := Lib.hid hs1
            have HNW := Lib.hid hnw
            clear hq hs0 hs1 hnw HH6
            go_upto_if 69 with fail
            go_cut [] (fun wx => ∃ (F : Int) (gx : Gh) (mz : Nat), 0 ≤ F ∧ F ≤ 7 ∧ mz ≤ mx + 2 ∧
              Kp w w.heap.size d gx wx { D with fuse := F } mz [(xb, 34, [.int .i64 (V.pos + (a : Int)), .slice Ab l.length cb, .bool true]), (lb, 34, [.int .i64 V.pos, .slice Au V.st.length cu, .bool V.is])] (fun g x => Cands (some ⟨b, off, none⟩) [(V, .slice Au V.st.length cu)] g x ∧ BytesAt g x (.slice Ab l.length cb) l))
            case first =>
              by_cases hv3 : va = 0
              · subst hv3
                go_wp2_with fail
                go_meet
                exact ⟨0, gx, mx + 1, by omega, by omega, by omega, by rw [dev_fuse0 HQ.out.up.fu]; exact HK11.out⟩
              · have hv4 : 0 < va := by omega
                go_wp2_with fail
                refine (knextN HK11.out (by omega) 7 (by omega) (by omega)).mono ?_
                rintro e w12 ⟨vb, rfl, hvb, hk12⟩
                have HK12 := Lib.hid hk12
                clear hk12 HK11
                go_wp2_with fail
                refine (fuse_any d gx w12 D HK12.out.hD (1 + (vb : Int)) (by omega) (by omega)).mono ?_
                rintro e w13 ⟨rfl, hP⟩
                obtain ⟨g13, hk13⟩ := HK12.out.devP hP
                have HK13 := Lib.hid hk13
                clear hk13 hP HK12
                go_wp2_with fail
                go_meet
                exact ⟨1 + (vb : Int), g13, mx + 1 + 1, by omega, by omega, by omega, HK13.out⟩
            case rest =>
              obtain ⟨F, g14, mz, hF0, hF1, hmz, hkp⟩ := hcut
              have HK14 := Lib.hid hkp
              clear hkp HK11
              have hb := HK14.out.blk (b := xb) (T := 34) (cs := [.int .i64 (V.pos + (a : Int)), .slice Ab l.length cb, .bool true]) (by simp)
              have x0 := hb.cell 0
              have x1 := hb.cell 1
              have x2 := hb.cell 2
              clear hb
              have hps : posO (newS q0 q1).1 = V.pos := by rw [HNW.out, ← HV.out, vw_pos]
              have hsq : seqO (newS q0 q1).1 ≤ 13 - K0 := by rw [HNW.out]; exact HB6.out.1
              have hqn := HQ.out.n
              have hck : CkOk ⟨seqO (newS q0 q1).1 + 1, (V.pos + (a : Int)).toNat, l⟩ := ⟨by show seqO _ + 1 < _; omega, by show (V.pos + (a : Int)).toNat < _; omega, by show l.length ≤ _; omega⟩
              have HOUT := Lib.hid (Hold.save HQ.out HS0.out HS1.out (by omega) F hF0 ⟨seqO (newS q0 q1).1 + 1, (V.pos + (a : Int)).toNat, l⟩ hck rfl (fun q r h => HK14.out.hD.len q r h))
              have HSV := Lib.hid (save_ok d g14 wc { D with fuse := F } HK14.out.hD HQ.out.up.dn cN cN_ok q0 q1 (HS0.out.of rfl) (HS1.out.of rfl) (V.pos + (a : Int)) Ab cb l HK14.out.r.2 (by omega) (by rw [hps]; omega) (by omega) (by omega) (by omega) (by show D.now.n < 256; omega) (by show D.pend.length ≤ _; rw [HQ.out.pl]; simp))
              have HPS := Lib.hid (And.intro hps (And.intro hsq (show posO (newS q0 q1).1 ≤ 2 * (13 - K0) by rw [HNW.out]; exact HB6.out.2)))
              have HCK := Lib.hid hck
              clear hps hsq hqn hck
              go_wp2_with fail
              refine HSV.out.mono ?_
              rintro e w15 ⟨rfl, g15, hx15, hd15⟩
              have HK15 := Lib.hid (HK14.out.dev hx15 hd15)
              clear hx15 hd15 HSV HK14 x0 x1 x2
              generalize svI { D with fuse := F } (svOp cN (newS q0 q1).2 ⟨seqO (newS q0 q1).1 + 1, (V.pos + (a : Int)).toNat, l⟩) = si at *
              generalize svD { D with fuse := F } (svOp cN (newS q0 q1).2 ⟨seqO (newS q0 q1).1 + 1, (V.pos + (a : Int)).toNat, l⟩) = E0 at *
              go_wp2_with fail
              refine (fuse_any d g15 w15 E0 HK15.out.hD 0 (by omega) (by omega)).mono ?_
              rintro e w16 ⟨rfl, hP⟩
              obtain ⟨g16, hk16⟩ := HK15.out.devP hP
              generalize { E0 with fuse := 0 } = E at *
              have HK16 := Lib.hid hk16
              clear hk16 hP HK15
              have hb := HK16.out.blk (b := xb) (T := 34) (cs := [.int .i64 (V.pos + (a : Int)), .slice Ab l.length cb, .bool true]) (by simp)
              have x0 := hb.cell 0
              have x1 := hb.cell 1
              have x2 := hb.cell 2
              clear hb
              go_upto_if 84 with fail
              go_cut [5] (fun s5 wx => ∃ (b' off' c' : Nat) (W : List (Vw × Value)) (gx : Gh), s5 = .slice (some ⟨b', off', none⟩) W.length c' ∧ Made si W (V, .slice Au V.st.length cu) (⟨V.pos + (a : Int), l, true⟩, .slice Ab l.length cb) ∧
                Kp w w.heap.size d gx wx E mz [] (Cands (some ⟨b', off', none⟩) W))
              case first =>
                rcases HOUT.out with ⟨rfl, _⟩ | ⟨rfl, _⟩
                · go_wp2_with fail
                  have hc := Cands.one g16 w16 (⟨V.pos + (a : Int), l, true⟩, .slice Ab l.length cb) HK16.out.r.2
                  have HK17 := Lib.hid (((HK16.out.step hc.1 (fun _ h => h.elim)).with hc.2 (Cands.stab _ _)).sub (B' := []) (fun _ h => by cases h))
                  clear hc
                  go_meet
                  exact ⟨_, _, _, _, _, rfl, .inl ⟨rfl, rfl⟩, HK17.out⟩
                · have hx17 : Ext (fun _ => False) g16 w16 g16 (w16.alloc (.cells #[.int .i64 (V.pos + (a : Int)), .slice Ab l.length cb, .bool true] 34)) := (Ext.refl _ _ _).alloc _
                  have HK17 := Lib.hid ((HK16.out.step hx17 (fun _ h => h.elim)).sub (B' := []) (fun _ h => by cases h))
                  have HA := Lib.hid (HK17.out.r.1.full (w16.heap.size + 1) (by simp) (by simp))
                  have HS := Lib.hid (src_ck w16 (.int .i64 (V.pos + (a : Int))) (.slice Ab l.length cb) (.bool true) rfl rfl rfl)
                  obtain ⟨i0, hi, hz0, hz1, hz2⟩ := info_parts Tryd.infoCk
                  clear hx17
                  go_wp2_with (at_builtin; refine wpList_append_app rfl _ _ _ _ rfl 34 i0 (.agg #[.int .i64 0, .slice none 0 0, .bool false]) 3 40 Tryd.underlying30 hi hz0 hz1 hz2 rfl (by decide) rfl HA.out rfl HS.out (by unfold maxLen; simp) (by simp) ?_; intro A' cap' w18 g18 hx18 ha18 hl18)
                  have HK18 := Lib.hid (HK17.out.step hx18 (fun o h => by simp; omega))
                  obtain ⟨b', off', rfl, _⟩ := ha18.rd.at_ (by simp)
                  have HC : Hid (Cands (some ⟨b', off', none⟩) [(V, .slice Au V.st.length cu), (⟨V.pos + (a : Int), l, true⟩, .slice Ab l.length cb)] g18 w18) := ⟨ha18.rd, fun p hp => by
                    rcases List.mem_cons.1 hp with rfl | hp
                    · exact HK18.out.r.1.2 _ (List.mem_cons_self ..)
                    · obtain rfl : p = _ := by simpa using hp
                      exact HK18.out.r.2⟩
                  clear hx18 ha18 hl18 HA HS HK17 hi hz0 hz1 hz2
                  go_wp2_with fail
                  go_meet
                  exact ⟨_, _, _, _, _, rfl, .inr ⟨rfl, rfl⟩, HK18.out.with HC.out (Cands.stab _ _)⟩
              case rest =>
                obtain ⟨b', off', c', W, g17, rfl, hmade, hkp⟩ := hcut
                have HK17 := Lib.hid hkp
                have HMD := Lib.hid hmade
                have HWL : Hid (W.length ≤ 2) := by show _ ≤ _; rcases hmade with ⟨_, rfl⟩ | ⟨_, rfl⟩ <;> simp
                clear hkp hmade x0 x1 x2 HK16
                go_upto_region 25 with fail
                go_cut [99] (fun s9 wx => ∃ (bb : Bool) (gx : Gh) (my : Nat), s9 = .bool bb ∧ Calm bb si ∧ my ≤ mz + 1 ∧ Kp w w.heap.size d gx wx E my [] (Cands (some ⟨b', off', none⟩) W))
                case first =>
                  rcases HOUT.out with ⟨rfl, _⟩ | ⟨rfl, _⟩
                  · go_wp2_with fail
                    refine (knextN HK17.out (by omega) 2 (by omega) (by omega)).mono ?_
                    rintro e w18 ⟨vc, rfl, hvc, hk18⟩
                    have HK18 := Lib.hid hk18
                    clear hk18 HK17
                    go_wp2_with fail
                    go_meet
                    exact ⟨_, g17, mz + 1, rfl, fun _ => rfl, by omega, HK18.out⟩
                  · go_wp2_with fail
                    go_meet
                    exact ⟨true, g17, mz, rfl, (fun e => by cases e), by omega, HK17.out⟩
                case rest =>
                  obtain ⟨bb, g18, my, rfl, hbb, hmy, hkp⟩ := hcut
                  have HBB := Lib.hid hbb
                  clear hbb
                  have HK18 := Lib.hid hkp
                  clear hkp HK17
                  have HLEN := Lib.hid HK18.out.hD.len
                  have HLS : Hid (Fit E ∧ ∀ kp tn, (lossD (downD E) kp tn).down = true ∧ (lossD (downD E) kp tn).pend.length = 0 ∧ ∃ o', FinP { lossD (downD E) kp tn with down := false } (13 - K0 + 1) W o') := by
                    obtain ⟨hps, hsq, hpb⟩ := HPS.out
                    rcases HOUT.out with ⟨rfl, h⟩ | ⟨rfl, h⟩
                    · obtain ⟨h1, h2⟩ := h.lost (by omega) HLEN.out
                      exact ⟨h1, fun kp tn => ⟨(h2 kp tn).1, (h2 kp tn).2.1, _, fin_new (h2 kp tn).2.2 (by show seqO _ + 1 ≤ _; omega) (by show (V.pos + (a : Int)).toNat ≤ _; omega) HMD.out (by show (((V.pos + (a : Int)).toNat : Nat) : Int) = _; omega)⟩⟩
                    · obtain ⟨h1, h2⟩ := h
                      refine ⟨h1, fun kp tn => ⟨(h2 kp tn).1, (h2 kp tn).2.1, ?_⟩⟩
                      rcases (h2 kp tn).2.2 with h3 | h3
                      · exact ⟨_, fin_new h3 (by show seqO _ + 1 ≤ _; omega) (by show (V.pos + (a : Int)).toNat ≤ _; omega) HMD.out (by show (((V.pos + (a : Int)).toNat : Nat) : Int) = _; omega)⟩
                      · exact ⟨_, fin_old h3 (n' := 13 - K0) (by omega) hsq (by omega) HMD.out (by rw [HNW.out]; exact HV.out.symm)⟩
                  go_upto_if 99 with fail
                  go_cut [] (fun wx => ∃ (gx : Gh) (mw : Nat) (Df : Dev) (o' : Option Ck), mw ≤ my + 2 ∧ FinP Df (13 - K0 + 1) W o' ∧ Kp w w.heap.size d gx wx Df mw [] (Cands (some ⟨b', off', none⟩) W))
                  case first =>
                    cases bb with
                    | false =>
                      have hsi := HBB.out rfl
                      have HFN : Hid (∃ o', FinP E (13 - K0 + 1) W o') := by
                        obtain ⟨hps, hsq, hpb⟩ := HPS.out
                        rcases HOUT.out with ⟨h', h⟩ | ⟨h', h⟩
                        · exact ⟨_, fin_new h (by show seqO _ + 1 ≤ _; omega) (by show (V.pos + (a : Int)).toNat ≤ _; omega) HMD.out (by show (((V.pos + (a : Int)).toNat : Nat) : Int) = _; omega)⟩
                        · omega
                      clear hsi
                      obtain ⟨o', hfin⟩ := HFN.out
                      have HF := Lib.hid hfin
                      clear hfin HFN
                      go_wp2_with fail
                      go_meet
                      exact ⟨g18, my, E, o', by omega, HF.out, HK18.out⟩
                    | true =>
                      go_wp2_with fail
                      refine (knextN HK18.out (by omega) 6 (by omega) (by omega)).mono ?_
                      rintro e w19 ⟨vk, rfl, hvk, hk19⟩
                      have HK19 := Lib.hid hk19
                      clear hk19 HK18
                      go_wp2_with fail
                      refine (knextN HK19.out (by omega) 40 (by omega) (by omega)).mono ?_
                      rintro e w20 ⟨vt, rfl, hvt, hk20⟩
                      have HK20 := Lib.hid hk20
                      clear hk20 HK19
                      go_wp2_with fail
                      refine (lose_any d g18 w20 E HK20.out.hD HLS.out.1 ((vk : Int) - 1) ((vt : Int) - 1) (by omega) (by omega)).mono ?_
                      rintro e w21 ⟨rfl, hP⟩
                      obtain ⟨g21, hk21⟩ := HK20.out.devP hP
                      have HK21 := Lib.hid hk21
                      obtain ⟨h1, h2, o', h3⟩ := HLS.out.2 ((vk : Int) - 1) ((vt : Int) - 1)
                      have HL1 := Lib.hid h1
                      have HL2 := Lib.hid h2
                      have HF := Lib.hid h3
                      clear hk21 hP HK20 h1 h2 h3 HLS
                      generalize lossD (downD E) ((vk : Int) - 1) ((vt : Int) - 1) = E2 at *
                      go_wp2_with fail
                      refine (restart_any d g21 w21 E2 HK21.out.hD HL1.out HL2.out).mono ?_
                      rintro e w22 ⟨rfl, hP⟩
                      obtain ⟨g22, hk22⟩ := HK21.out.devP hP
                      have HK22 := Lib.hid hk22
                      clear hk22 hP HK21 HL1 HL2
                      go_wp2_with fail
                      go_meet
                      exact ⟨g22, my + 1 + 1, _, o', by omega, HF.out, HK22.out⟩
                  case rest =>
                    obtain ⟨g23, mw, Df, o', hmw, hfin, hkp⟩ := hcut
                    have HK23 := Lib.hid hkp
                    have HF := Lib.hid hfin
                    clear hkp hfin HK18 HLS HBB HMD HOUT HNW HS0 HS1 HQ HPS HCK HLEN
                    have hWl : W.length ≤ 2 := HWL.out
                    have HLD2 := Lib.hid (kload2 HK23.out HF.out.1)
                    clear HK23
                    generalize hC : vw o' = C at *
                    have HC := Lib.hid hC
                    clear hC
                    go_wp2_with fail
                    refine HLD2.out.mono ?_
                    rintro e w24 ⟨g24, Av, cv, rfl, hkp⟩
                    have HK24 := Lib.hid (hkp.box 34 [.int .i64 C.pos, .slice Av C.st.length cv, .bool C.is])
                    dsimp only [List.toArray] at HK24
                    clear hkp HLD2
                    go_wp2_with fail
                    generalize hw25 : w24.alloc (.cells #[.int .i64 C.pos, .slice Av C.st.length cv, .bool C.is] 34) = w25 at *
                    generalize g24.box w24.heap.size = g25 at *
                    generalize w24.heap.size = kb at *
                    clear hw25
                    have HFA : Hid (fnd W C W.length = true) := fnd_all (by obtain ⟨p, hp, e⟩ := HF.out.2.2.2; exact ⟨p, hp, e.trans HC.out⟩)
                    obtain ⟨RR, hRR⟩ : ∃ RR : Gh → World → Prop, RR = fun g x => Cands (some ⟨b', off', none⟩) W g x ∧ BytesAt g x (.slice Av C.st.length cv) C.st := ⟨_, rfl⟩
                    have HRR := Lib.hid hRR
                    rw [← hRR] at HK24
                    clear hRR
                    go_loopg [13, 14] W.length (fun kk f i wx => ∃ q : Nat, i = .int .i64 q ∧ q ≤ W.length ∧ kk = W.length - q ∧ f = .bool (fnd W C q) ∧ Kp w w.heap.size d g25 wx Df mw [(kb, 34, [.int .i64 C.pos, .slice Av C.st.length cv, .bool C.is])] RR)
                    case atStart => exact ⟨0, rfl, by omega, by omega, rfl, HK24.out⟩
                    case round =>
                      obtain ⟨q, rfl, hq, hkk, rfl, hkp⟩ := hrel
                      have HK26 := Lib.hid hkp
                      have HKK := Lib.hid hkk
                      clear hkp hkk HK24
                      by_cases hqn : q < W.length
                      · obtain ⟨p, hp⟩ : ∃ p, W[q]? = some p := ⟨W[q], by simp [hqn]⟩
                        have hS : KpS w w.heap.size d g25 Df mw [(kb, 34, [.int .i64 C.pos, .slice Av C.st.length cv, .bool C.is])] RR wr.drew := HK26.out.drew
                        have hrr := HK26.out.r
                        rw [HRR.out] at hrr
                        obtain ⟨Ap, cp, hp2, _⟩ := (hrr.1.2 p (List.mem_of_getElem? hp)).ex
                        clear hrr
                        have HP := Lib.hid hp
                        have HP2 := Lib.hid hp2
                        have HFN := Lib.hid (fnd_next (C := C) hp)
                        clear hp hp2
                        have HMEM := Lib.hid (List.mem_of_getElem? HP.out)
                        by_cases hfd : fnd W C q = true
                        · rw [hfd]
                          go_wp2_with fail
                          (refine wp_region_s (S := KpS w w.heap.size d g25 Df mw [(kb, 34, [.int .i64 C.pos, .slice Av C.st.length cv, .bool C.is])] RR) (by kernel_rfl) (by kernel_rfl) hS ?_; have hN : Nonempty (Held (KpS w w.heap.size d g25 Df mw [(kb, 34, [.int .i64 C.pos, .slice Av C.st.length cv, .bool C.is])] RR)) := ⟨⟨_, hS⟩⟩; skip; (repeat (go_big_quiet_step (fail))); refine wpQuiet_nil ?_; rintro _ ⟨⟨x, hx⟩, rfl⟩; clear hN)
                          go_wp2_with fail
                          go_roundg (W.length - (q + 1))
                          case measure => have := HKK.out; omega
                          case rel => exact ⟨q + 1, by go_num, by omega, by omega, by rw [HFN.out, hfd]; rfl, hx⟩
                        · have hfd' : fnd W C q = false := by simpa using hfd
                          rw [hfd']
                          obtain ⟨pv, pu⟩ := p
                          have hpu : pu = .slice Ap pv.st.length cp := HP2.out
                          subst hpu
                          clear HP2
                          have hget : ∀ x, KpS w w.heap.size d g25 Df mw [(kb, 34, [.int .i64 C.pos, .slice Av C.st.length cv, .bool C.is])] RR x → Cands (some ⟨b', off', none⟩) W g25 x ∧ BytesAt g25 x (.slice Av C.st.length cv) C.st := fun x h => by
                            have := h.r
                            rw [HRR.out] at this
                            exact this
                          have HST : Hid (∀ x x', KpS w w.heap.size d g25 Df mw [(kb, 34, [.int .i64 C.pos, .slice Av C.st.length cv, .bool C.is])] RR x → Below x.heap.size x x' → KpS w w.heap.size d g25 Df mw [(kb, 34, [.int .i64 C.pos, .slice Av C.st.length cv, .bool C.is])] RR x') := fun x x' h hb => Kp.below h hb
                          go_wp2_with fail
                          (refine wp_region_s (S := KpS w w.heap.size d g25 Df mw [(kb, 34, [.int .i64 C.pos, .slice Av C.st.length cv, .bool C.is])] RR) (by kernel_rfl) (by kernel_rfl) hS ?_; have hN : Nonempty (Held (KpS w w.heap.size d g25 Df mw [(kb, 34, [.int .i64 C.pos, .slice Av C.st.length cv, .bool C.is])] RR)) := ⟨⟨_, hS⟩⟩; (have r0 : ∀ y : Held (KpS w w.heap.size d g25 Df mw [(kb, 34, [.int .i64 C.pos, .slice Av C.st.length cv, .bool C.is])] RR), y.w.cell? ⟨b', off' + q * 3, none⟩ = some (.int .i64 pv.pos) := fun y => ((hget _ y.ok).1.get rfl HP.out).1; have r1 : ∀ y : Held (KpS w w.heap.size d g25 Df mw [(kb, 34, [.int .i64 C.pos, .slice Av C.st.length cv, .bool C.is])] RR), y.w.cell? ⟨b', off' + q * 3 + 1, none⟩ = some (.slice Ap pv.st.length cp) := fun y => ((hget _ y.ok).1.get rfl HP.out).2.1; have r2 : ∀ y : Held (KpS w w.heap.size d g25 Df mw [(kb, 34, [.int .i64 C.pos, .slice Av C.st.length cv, .bool C.is])] RR), y.w.cell? ⟨b', off' + q * 3 + 2, none⟩ = some (.bool pv.is) := fun y => ((hget _ y.ok).1.get rfl HP.out).2.2; have s0 : ∀ y : Held (KpS w w.heap.size d g25 Df mw [(kb, 34, [.int .i64 C.pos, .slice Av C.st.length cv, .bool C.is])] RR), y.w.cell? ⟨kb, 0, none⟩ = some (.int .i64 C.pos) := fun y => (Kp.blk y.ok (List.mem_cons_self ..)).cell 0; have s1 : ∀ y : Held (KpS w w.heap.size d g25 Df mw [(kb, 34, [.int .i64 C.pos, .slice Av C.st.length cv, .bool C.is])] RR), y.w.cell? ⟨kb, 1, none⟩ = some (.slice Av C.st.length cv) := fun y => (Kp.blk y.ok (List.mem_cons_self ..)).cell 1; have s2 : ∀ y : Held (KpS w w.heap.size d g25 Df mw [(kb, 34, [.int .i64 C.pos, .slice Av C.st.length cv, .bool C.is])] RR), y.w.cell? ⟨kb, 2, none⟩ = some (.bool C.is) := fun y => (Kp.blk y.ok (List.mem_cons_self ..)).cell 2); (repeat (go_big_quiet_step ((go_at_call 18; exact held_below HST.out (same32 g25 _ pv C Ap Av _ _ cp cv (by exact (hget _ (Held.ok _)).1.2 _ HMEM.out) (by exact (hget _ (Held.ok _)).2)))))); refine wpQuiet_nil ?_; rintro _ ⟨⟨x, hx⟩, rfl⟩; clear hN)
                          clear r0 r1 r2 s0 s1 s2
                          go_wp2_with fail
                          go_roundg (W.length - (q + 1))
                          case measure => have := HKK.out; omega
                          case rel => exact ⟨q + 1, by go_num, by omega, by omega, by rw [HFN.out, hfd']; rfl, hx⟩
                      · obtain rfl : q = W.length := by omega
                        have hfa := HFA.out
                        have hb := HK26.out.blk (b := kb) (T := 34) (cs := [.int .i64 C.pos, .slice Av C.st.length cv, .bool C.is]) (by simp)
                        have x0 := hb.cell 0
                        have x1 := hb.cell 1
                        have x2 := hb.cell 2
                        clear hb
                        go_wp2_with fail
                        have hrr := HK26.out.r
                        rw [HRR.out] at hrr
                        have hc := Cands.one g25 wr (C, .slice Av C.st.length cv) hrr.2
                        have HK27 := Lib.hid (((HK26.out.step hc.1 (fun _ h => h.elim)).with hc.2 (Cands.stab _ _)).sub (B' := []) (fun _ h => by cases h))
                        have hko : ((K0 - 1 : Nat) : Int) = (K0 : Int) - 1 := by omega
                        obtain ⟨f1, f2, f3, _⟩ := HF.out
                        have e13 : 13 - (K0 - 1) = 13 - K0 + 1 := by omega
                        have HREL : Hid (KpHead w w.heap.size d (K0 - 1) (.slice (some ⟨wr.heap.size, 0, none⟩) 1 1) (.int .i64 ((K0 : Int) - 1)) (wr.alloc (.cells #[.int .i64 C.pos, .slice Av C.st.length cv, .bool C.is] 34))) := by
                          have hk27 := HK27.out
                          rw [← HC.out] at hk27 ⊢
                          exact ⟨wr.heap.size, 0, Av, cv, o', _, Df, mw, rfl, by rw [hko], by omega, by omega, hk27, by rw [e13]; exact f1, by rw [e13]; exact f2, by rw [e13]; exact f3⟩
                        clear hrr hc HK27 hko f1 f2 f3 e13
                        go_roundg (K0 - 1)
                        case measure => clear HREL; omega
                        case rel => exact HREL.out
    · obtain rfl : K0 = 0 := by omega
      go_wp2_with fail
      go_ret
      exact ⟨rfl, HK6.out.hx.finW⟩

end Go.Proofs.YtcjkllmellampaaDoor
