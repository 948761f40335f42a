/-
  The walk of the reference's All (printed by mkall14.py).
-/
import Derived.Test.YthonhikkoabhlaaDoorCrU
import Derived.Test.YthonhikkoabhlaaDoorDpG
namespace Go.Proofs.YthonhikkoabhlaaDoor
open Go.RowKit

/-! What the reference's table holds when the first i revisions are done. -/
def DoneM (d : Dep) (i : Nat) (f : Fil) : Prop := (memD d.revs f).isSome = true ∧ rkD d.revs f < i
def setsV (o : Bool) (b1 b2 b3 : Option Nat) : Value := .agg #[.bool o, .map b1, .map b2, .map b3]
def AllI (d : Dep) (M i : Nat) (w : World) : Prop := ∃ L, KM filT M L w ∧ (∀ f, ¬ DoneM d i f → kget L f = none) ∧
  ∀ f, DoneM d i f → ∃ b1 b2 b3, kget L f = some (setsV (origD d.recs f) (some b1) (some b2) (some b3)) ∧ (b1 ≠ M ∧ b2 ≠ M ∧ b3 ≠ M) ∧ SetIs b1 (tabD d f).car w ∧ SetIs b2 (tabD d f).con w ∧ SetIs b3 (tabD d f).cre w
section
variable {d : Dep} {M i : Nat} {w w' : World}
theorem AllI.below (h : AllI d M i w) (hb : Below w.heap.size w w') : AllI d M i w' := by
  obtain ⟨L, h1, h2, h3⟩ := h
  refine ⟨L, h1.below hb h1.lt, h2, fun f hf => ?_⟩
  obtain ⟨b1, b2, b3, e, hn, s1, s2, s3⟩ := h3 f hf
  exact ⟨b1, b2, b3, e, hn, s1.below hb s1.lt, s2.below hb s2.lt, s3.below hb s3.lt⟩
theorem AllI.lt (h : AllI d M i w) : M < w.heap.size := by
  obtain ⟨L, h1, _⟩ := h
  exact h1.lt
theorem AllI.get (h : AllI d M i w) {f : Fil} (hf : DoneM d i f) (ho : FOk f) {t et : TypeId} (ht : Tryd.prog.underlying t = some (.map 55 et)) :
    ∃ b1 b2 b3, (∀ x, Below w.heap.size w x → (Instr.lookup t (.map (some M)) (.agg #[.string f.1, .int .i64 f.2]) false).run Tryd.prog x = .ok (.agg #[.bool (origD d.recs f), .map (some b1), .map (some b2), .map (some b3)]) x) ∧
      SetIs b1 (tabD d f).car w ∧ SetIs b2 (tabD d f).con w ∧ SetIs b3 (tabD d f).cre w := by
  obtain ⟨L, h1, h2, h3⟩ := h
  obtain ⟨b1, b2, b3, e, hn, s1, s2, s3⟩ := h3 f hf
  exact ⟨b1, b2, b3, fun x hx => (h1.below hx h1.lt).run_some ht ho e false, s1, s2, s3⟩
theorem AllI.skip {v : Rev} (h : AllI d M i w) (hv : d.revs[i]? = some v) (ha : v.act = 5) : AllI d M (i + 1) w := by
  have key : ∀ f, DoneM d (i + 1) f → DoneM d i f := fun f hf => ⟨hf.1, by
    by_cases e : rkD d.revs f = i
    · obtain ⟨u, h1, h2⟩ := rk_at hf.1
      rw [e, hv] at h1
      cases h1
      exact absurd ha (mem_some h2).2.1
    · have := hf.2
      omega⟩
  obtain ⟨L, h1, h2, h3⟩ := h
  exact ⟨L, h1, fun f hf => h2 f fun hd => hf ⟨hd.1, by have := hd.2; omega⟩, fun f hf => h3 f (key f hf)⟩
theorem AllI.step {v : Rev} {L : List (Fil × Value)} {c1 c2 c3 : Nat} (hu : d.revs.Pairwise fun a b => a.fil ≠ b.fil) (hv : d.revs[i]? = some v) (ha : v.act ≠ 5)
    (h2 : ∀ f, ¬ DoneM d i f → kget L f = none) (h3 : ∀ f, DoneM d i f → ∃ b1 b2 b3, kget L f = some (setsV (origD d.recs f) (some b1) (some b2) (some b3)) ∧ (b1 ≠ M ∧ b2 ≠ M ∧ b3 ≠ M) ∧ SetIs b1 (tabD d f).car w ∧ SetIs b2 (tabD d f).con w ∧ SetIs b3 (tabD d f).cre w)
    (hk : KM filT M (kput L v.fil (setsV (origD d.recs v.fil) (some c1) (some c2) (some c3))) w') (hg : w.grownBy w' (some M)) (hn : c1 ≠ M ∧ c2 ≠ M ∧ c3 ≠ M)
    (s1 : SetIs c1 (tabD d v.fil).car w) (s2 : SetIs c2 (tabD d v.fil).con w) (s3 : SetIs c3 (tabD d v.fil).cre w) : AllI d M (i + 1) w' := by
  obtain ⟨hm, hr⟩ := uniq_at hu hv ha
  have keep : ∀ b S, b ≠ M → SetIs b S w → SetIs b S w' := fun b S hb hs => hs.of_block (hg.block b hs.lt fun e => by injection e with e; exact hb e)
  have key : ∀ f, DoneM d (i + 1) f → f = v.fil ∨ DoneM d i f := fun f hf => by
    by_cases e : rkD d.revs f = i
    · left
      obtain ⟨u, h1, h2⟩ := rk_at hf.1
      rw [e, hv] at h1
      cases h1
      exact (mem_some h2).2.2.symm
    · exact .inr ⟨hf.1, by have := hf.2; omega⟩
  refine ⟨_, hk, fun f hf => ?_, fun f hf => ?_⟩
  · have hne : f ≠ v.fil := fun e => hf ⟨by rw [e, hm]; rfl, by rw [e, hr]; omega⟩
    rw [kget_put, if_neg (by simpa using hne)]
    exact h2 f fun hd => hf ⟨hd.1, by have := hd.2; omega⟩
  · by_cases e : f = v.fil
    · subst e
      rw [kget_put, if_pos (beq_self_eq_true _)]
      exact ⟨c1, c2, c3, rfl, hn, keep _ _ hn.1 s1, keep _ _ hn.2.1 s2, keep _ _ hn.2.2 s3⟩
    · rw [kget_put, if_neg (by simpa using e)]
      obtain ⟨b1, b2, b3, e1, hb, t1, t2, t3⟩ := h3 f ((key f hf).resolve_left e)
      exact ⟨b1, b2, b3, e1, hb, keep _ _ hb.1 t1, keep _ _ hb.2.1 t2, keep _ _ hb.2.2 t3⟩
end
/-! The state in the midst of a round. -/
def RecCar (d : Dep) (v : Fil) (q : List Rcd) (f : Fil) : Prop := ∃ r, r ∈ recsD q v ∧ ((r.how = 1 ∧ (tabD d (r.src, r.lst)).car f) ∨ ((r.how = 2 ∨ r.how = 4) ∧ ∃ n, (r.fst ≤ n ∧ n ≤ r.lst) ∧ (tabD d (r.src, n)).con f))
def RecCre (d : Dep) (v : Fil) (q : List Rcd) (f : Fil) : Prop := ∃ r, r ∈ recsD q v ∧ r.how = 3 ∧ ∃ n, (r.fst ≤ n ∧ n ≤ r.lst) ∧ (tabD d (r.src, n)).con f
theorem recs_no {q : List Rcd} {r : Rcd} {v : Fil} (h : (r.dst, r.num) ≠ v) : recsD (q ++ [r]) v = recsD q v := by
  unfold recsD
  rw [List.filter_append]
  have : ((r.dst, r.num) == v) = false := by simpa using h
  simp [this]
theorem recs_yes {q : List Rcd} {r : Rcd} {v : Fil} (h : (r.dst, r.num) = v) : recsD (q ++ [r]) v = recsD q v ++ [r] := by
  unfold recsD
  rw [List.filter_append]
  have : ((r.dst, r.num) == v) = true := by simpa using h
  simp [this]
theorem orig_yes {q : List Rcd} {r : Rcd} {v : Fil} (h : (r.dst, r.num) = v) : origD (q ++ [r]) v = ((if recsD q v = [] then false else origD q v) || r.how == 4) := by
  unfold origD
  rw [recs_yes h]
  by_cases e : recsD q v = []
  · simp [e]
  · rw [if_neg e]
    have : (recsD q v).isEmpty = false := by simpa using e
    simp [this]
theorem car_all' {d : Dep} (H : Hist d) {v : Fil} (hm : (memD d.revs v).isSome = true) (f : Fil) : ((BefS d v f ∨ RecCar d v d.recs f) ∨ (origD d.recs v = true ∧ f = v)) ↔ (tabD d v).car f := by
  rw [tab_car H hm]
  constructor
  · rintro ((h | h) | h)
    · exact .inr (.inl h)
    · exact .inr (.inr h)
    · exact .inl h
  · rintro (h | h | h)
    · exact .inr h
    · exact .inl (.inl h)
    · exact .inl (.inr h)
theorem cre_all' {d : Dep} (H : Hist d) {v : Fil} (hm : (memD d.revs v).isSome = true) (f : Fil) : ((BefC d v f ∨ RecCre d v d.recs f) ∨ (tabD d v).car f) ↔ (tabD d v).cre f := by
  rw [tab_cre H hm]
  constructor
  · rintro ((h | h) | h)
    · exact .inl h
    · exact .inr (.inr h)
    · exact .inr (.inl h)
  · rintro (h | h | h)
    · exact .inl (.inl h)
    · exact .inr h
    · exact .inl (.inr h)
/-- The blocks of a round and what they hold. -/
structure Rnd where
  w : World
  rb : Nat
  fb : Nat
  c1 : Nat
  c2 : Nat
  c3 : Nat
  xb : Nat
  bb : Nat
  db : Nat
  V : List Value
  F : List Value
  D : List Value
  B : List Value
structure St (R : Rnd) (o : Bool) (S1 S2 S3 : Fil → Prop) (x : World) : Prop where
  bel : Below R.w.heap.size R.w x
  s1 : SetIs R.c1 S1 x
  s2 : SetIs R.c2 S2 x
  s3 : SetIs R.c3 S3 x
  xk : Blk R.xb 36 [.bool o, .map (some R.c1), .map (some R.c2), .map (some R.c3)] x
  bk : Blk R.bb 36 R.B x
  fk : Blk R.fb 55 R.F x
  rk : Blk R.rb 51 R.V x
  dk : Blk R.db 28 R.D x
structure RndOk (R : Rnd) : Prop where
  c1 : R.w.heap.size ≤ R.c1
  c2 : R.w.heap.size ≤ R.c2
  c3 : R.w.heap.size ≤ R.c3
  xb : R.w.heap.size ≤ R.xb
  bb : R.w.heap.size ≤ R.bb
  n12 : R.c1 ≠ R.c2
  n13 : R.c1 ≠ R.c3
  n23 : R.c2 ≠ R.c3
  n1 : R.xb ≠ R.c1 ∧ R.bb ≠ R.c1 ∧ R.fb ≠ R.c1 ∧ R.rb ≠ R.c1 ∧ R.db ≠ R.c1
  n2 : R.xb ≠ R.c2 ∧ R.bb ≠ R.c2 ∧ R.fb ≠ R.c2 ∧ R.rb ≠ R.c2 ∧ R.db ≠ R.c2
  n3 : R.xb ≠ R.c3 ∧ R.bb ≠ R.c3 ∧ R.fb ≠ R.c3 ∧ R.rb ≠ R.c3 ∧ R.db ≠ R.c3
  nx : R.xb ≠ R.bb ∧ R.xb ≠ R.fb ∧ R.xb ≠ R.rb ∧ R.xb ≠ R.db
  nb : R.fb ≠ R.bb ∧ R.rb ≠ R.bb ∧ R.db ≠ R.bb
section
variable {R : Rnd} {o : Bool} {S1 S2 S3 S : Fil → Prop} {x y : World}
theorem St.below (h : St R o S1 S2 S3 x) (hb : Below x.heap.size x y) : St R o S1 S2 S3 y :=
  ⟨h.bel.trans (hb.mono h.bel.size), h.s1.below hb h.s1.lt, h.s2.below hb h.s2.lt, h.s3.below hb h.s3.lt, h.xk.below hb, h.bk.below hb, h.fk.below hb, h.rk.below hb, h.dk.below hb⟩
theorem St.a1 (ok : RndOk R) (h : St R o S1 S2 S3 x) (hs : SetIs R.c1 S y) (hk : Kp (· = R.c1) x y) : St R o S S2 S3 y :=
  ⟨h.bel.trans (hk.below (fun b hb e => by have := ok.c1; omega) h.bel.size), hs, h.s2.kp hk ok.n12.symm, h.s3.kp hk ok.n13.symm, h.xk.kp hk ok.n1.1, h.bk.kp hk ok.n1.2.1, h.fk.kp hk ok.n1.2.2.1, h.rk.kp hk ok.n1.2.2.2.1, h.dk.kp hk ok.n1.2.2.2.2⟩
theorem St.a2 (ok : RndOk R) (h : St R o S1 S2 S3 x) (hs : SetIs R.c2 S y) (hk : Kp (· = R.c2) x y) : St R o S1 S S3 y :=
  ⟨h.bel.trans (hk.below (fun b hb e => by have := ok.c2; omega) h.bel.size), h.s1.kp hk ok.n12, hs, h.s3.kp hk ok.n23.symm, h.xk.kp hk ok.n2.1, h.bk.kp hk ok.n2.2.1, h.fk.kp hk ok.n2.2.2.1, h.rk.kp hk ok.n2.2.2.2.1, h.dk.kp hk ok.n2.2.2.2.2⟩
theorem St.a3 (ok : RndOk R) (h : St R o S1 S2 S3 x) (hs : SetIs R.c3 S y) (hk : Kp (· = R.c3) x y) : St R o S1 S2 S y :=
  ⟨h.bel.trans (hk.below (fun b hb e => by have := ok.c3; omega) h.bel.size), h.s1.kp hk ok.n13, h.s2.kp hk ok.n23, hs, h.xk.kp hk ok.n3.1, h.bk.kp hk ok.n3.2.1, h.fk.kp hk ok.n3.2.2.1, h.rk.kp hk ok.n3.2.2.2.1, h.dk.kp hk ok.n3.2.2.2.2⟩
theorem St.orig (ok : RndOk R) (h : St R o S1 S2 S3 x) (u : Bool) : St R u S1 S2 S3 (x.setCell ⟨R.xb, 0, none⟩ (.bool u)) := by
  have hf : ∀ b, b ≠ R.xb → (x.setCell ⟨R.xb, 0, none⟩ (.bool u)).heap[b]? = x.heap[b]? := fun b hb => Below.heap_setCell x _ _ b hb
  exact ⟨h.bel.setCell (p := ⟨R.xb, 0, none⟩) ok.xb _, h.s1.of_block (hf _ ok.n1.1.symm), h.s2.of_block (hf _ ok.n2.1.symm), h.s3.of_block (hf _ ok.n3.1.symm), h.xk.set 0 (.bool u), h.bk.of (hf _ ok.nx.1.symm), h.fk.of (hf _ ok.nx.2.1.symm), h.rk.of (hf _ ok.nx.2.2.1.symm), h.dk.of (hf _ ok.nx.2.2.2.symm)⟩
theorem St.s1c (h : St R o S1 S2 S3 x) (he : ∀ f, S1 f ↔ S f) : St R o S S2 S3 x := ⟨h.bel, h.s1.congr he, h.s2, h.s3, h.xk, h.bk, h.fk, h.rk, h.dk⟩
theorem St.s2c (h : St R o S1 S2 S3 x) (he : ∀ f, S2 f ↔ S f) : St R o S1 S S3 x := ⟨h.bel, h.s1, h.s2.congr he, h.s3, h.xk, h.bk, h.fk, h.rk, h.dk⟩
theorem St.s3c (h : St R o S1 S2 S3 x) (he : ∀ f, S3 f ↔ S f) : St R o S1 S2 S x := ⟨h.bel, h.s1, h.s2, h.s3.congr he, h.xk, h.bk, h.fk, h.rk, h.dk⟩
end
theorem getA_of_mem {d : Dep} (h : CrD d) {p : ByteArray} {n : Int} {v : Rev} (hm : memD d.revs (p, n) = some v) : getD' d.revs p n = some v := by
  rw [get_mem' h.hist.uniq p n] at hm
  exact (Option.filter_eq_some_iff.1 hm).1
/-- A member's previous one, as the reference looks for it. -/
theorem prevD_mem {d : Dep} (h : CrD d) {f : Fil} {v : Rev} (hm : memD d.revs f = some v) : (∃ u z, prevF d.revs f = some u ∧ prevD d.revs v = some z ∧ memD d.revs u = some z) ∨ (prevF d.revs f = none ∧ prevD d.revs v = none) := by
  by_cases h1 : v.act = 1
  · refine .inr ⟨prevF_add hm h1, ?_⟩
    unfold prevD
    rw [if_pos (by simpa using h1)]
  · obtain ⟨u, hb, hu, hms⟩ := h.before hm h1
    obtain ⟨z, hz⟩ := Option.isSome_iff_exists.1 hms
    have hg := getA_of_mem h (p := u.1) (n := u.2) hz
    refine .inl ⟨u, z, hu, ?_, hz⟩
    obtain ⟨_, ⟨h4, rfl⟩ | ⟨h4, rfl⟩⟩ := beforeF_act hb
    · unfold prevD
      rw [if_neg (by simpa using h1), if_pos (by simpa using h4)]
      exact hg
    · unfold prevD
      rw [if_neg (by simpa using h1), if_neg (by simpa using h4)]
      exact hg
theorem St.start (wr : World) (db : Nat) (V F D : List Value) (hd : Blk db 28 D wr) :
    RndOk ⟨wr, wr.heap.size, wr.heap.size + 1, wr.heap.size + 1 + 1, wr.heap.size + 1 + 1 + 1, wr.heap.size + 1 + 1 + 1 + 1, wr.heap.size + 1 + 1 + 1 + 1 + 1, wr.heap.size + 1 + 1 + 1 + 1 + 1 + 1, db, V, F, D, [.bool false, .map none, .map none, .map none]⟩ ∧
      St ⟨wr, wr.heap.size, wr.heap.size + 1, wr.heap.size + 1 + 1, wr.heap.size + 1 + 1 + 1, wr.heap.size + 1 + 1 + 1 + 1, wr.heap.size + 1 + 1 + 1 + 1 + 1, wr.heap.size + 1 + 1 + 1 + 1 + 1 + 1, db, V, F, D, [.bool false, .map none, .map none, .map none]⟩ true (fun _ => False) (fun _ => False) (fun _ => False)
        (((((((wr.alloc (.cells V.toArray 51)).alloc (.cells F.toArray 55)).alloc (.map #[] 0)).alloc (.map #[] 0)).alloc (.map #[] 0)).alloc (.cells #[.bool true, .map (some (wr.heap.size + 1 + 1)), .map (some (wr.heap.size + 1 + 1 + 1)), .map (some (wr.heap.size + 1 + 1 + 1 + 1))] 36)).alloc (.cells #[.bool false, .map none, .map none, .map none] 36)) := by
  have hdl := hd.lt
  refine ⟨by constructor <;> dsimp only <;> omega, ?_⟩
  have r := Blk.new wr 51 V
  have f := Blk.new (wr.alloc (.cells V.toArray 51)) 55 F
  have m1 := SetIs.new ((wr.alloc (.cells V.toArray 51)).alloc (.cells F.toArray 55))
  have m2 := SetIs.new (((wr.alloc (.cells V.toArray 51)).alloc (.cells F.toArray 55)).alloc (.map #[] 0))
  have m3 := SetIs.new ((((wr.alloc (.cells V.toArray 51)).alloc (.cells F.toArray 55)).alloc (.map #[] 0)).alloc (.map #[] 0))
  have x := Blk.new (((((wr.alloc (.cells V.toArray 51)).alloc (.cells F.toArray 55)).alloc (.map #[] 0)).alloc (.map #[] 0)).alloc (.map #[] 0)) 36 [.bool true, .map (some (wr.heap.size + 1 + 1)), .map (some (wr.heap.size + 1 + 1 + 1)), .map (some (wr.heap.size + 1 + 1 + 1 + 1))]
  have b := Blk.new ((((((wr.alloc (.cells V.toArray 51)).alloc (.cells F.toArray 55)).alloc (.map #[] 0)).alloc (.map #[] 0)).alloc (.map #[] 0)).alloc (.cells #[.bool true, .map (some (wr.heap.size + 1 + 1)), .map (some (wr.heap.size + 1 + 1 + 1)), .map (some (wr.heap.size + 1 + 1 + 1 + 1))] 36)) 36 [.bool false, .map none, .map none, .map none]
  have al : ∀ (c : Nat) (S : Fil → Prop) (y : World) (o : Obj), SetIs c S y → SetIs c S (y.alloc o) := fun c S y o h => h.of_block (Below.heap_alloc y o c h.lt)
  have sz : ∀ (y : World) (o : Obj), (y.alloc o).heap.size = y.heap.size + 1 := fun y o => by simp
  simp only [sz] at f m1 m2 m3 x b
  exact ⟨by (repeat (first | (with_reducible exact Below.refl _ _) | (with_reducible assumption) | (with_reducible refine Below.setCell ?_ ?_ _; rotate_left; focus (first | exact Nat.le_refl _ | (dsimp only; omega))) | (with_reducible refine Below.drew ?_) | (with_reducible refine below_drewN ?_ _) | (with_reducible refine Below.alloc ?_ ?_ _; rotate_left; focus (first | exact Nat.le_refl _ | (simp; done) | (simp; omega))))), al _ _ _ _ (al _ _ _ _ (al _ _ _ _ (al _ _ _ _ m1))), al _ _ _ _ (al _ _ _ _ (al _ _ _ _ m2)), al _ _ _ _ (al _ _ _ _ m3), x.alloc _, b, ((((f.alloc _).alloc _).alloc _).alloc _).alloc _, (((((r.alloc _).alloc _).alloc _).alloc _).alloc _).alloc _, ((((((hd.alloc _).alloc _).alloc _).alloc _).alloc _).alloc _).alloc _⟩
/-- The box of what was before is written. -/
def Rnd.wB (R : Rnd) (B : List Value) : Rnd := { R with B := B }
theorem St.putB {R : Rnd} {o : Bool} {S1 S2 S3 : Fil → Prop} {x : World} (ok : RndOk R) (h : St R o S1 S2 S3 x) {b0 b1 b2 b3 : Value} (hB : R.B = [b0, b1, b2, b3]) (v0 v1 v2 v3 : Value) :
    St (R.wB [v0, v1, v2, v3]) o S1 S2 S3 ((((x.setCell ⟨R.bb, 0, none⟩ v0).setCell ⟨R.bb, 1, none⟩ v1).setCell ⟨R.bb, 2, none⟩ v2).setCell ⟨R.bb, 3, none⟩ v3) := by
  have hf : ∀ b, b ≠ R.bb → ((((x.setCell ⟨R.bb, 0, none⟩ v0).setCell ⟨R.bb, 1, none⟩ v1).setCell ⟨R.bb, 2, none⟩ v2).setCell ⟨R.bb, 3, none⟩ v3).heap[b]? = x.heap[b]? := fun b hb => by
    rw [Below.heap_setCell _ _ _ b hb, Below.heap_setCell _ _ _ b hb, Below.heap_setCell _ _ _ b hb, Below.heap_setCell _ _ _ b hb]
  have hk := h.bk
  rw [hB] at hk
  exact ⟨(((h.bel.setCell (p := ⟨R.bb, 0, none⟩) ok.bb v0).setCell (p := ⟨R.bb, 1, none⟩) ok.bb v1).setCell (p := ⟨R.bb, 2, none⟩) ok.bb v2).setCell (p := ⟨R.bb, 3, none⟩) ok.bb v3, h.s1.of_block (hf _ ok.n1.2.1.symm), h.s2.of_block (hf _ ok.n2.2.1.symm), h.s3.of_block (hf _ ok.n3.2.1.symm), h.xk.of (hf _ ok.nx.1), (((hk.set 0 v0).set 1 v1).set 2 v2).set 3 v3, h.fk.of (hf _ ok.nb.1), h.rk.of (hf _ ok.nb.2.1), h.dk.of (hf _ ok.nb.2.2)⟩
theorem RndOk.wB {R : Rnd} (h : RndOk R) (B : List Value) : RndOk (R.wB B) := ⟨h.c1, h.c2, h.c3, h.xb, h.bb, h.n12, h.n13, h.n23, h.n1, h.n2, h.n3, h.nx, h.nb⟩
theorem prevD_fact {d : Dep} (h : CrD d) {f : Fil} {v : Rev} (hm : memD d.revs f = some v) : Hid (((prevD d.revs v).isSome = true ∧ prevF d.revs f = some ((prevR d.revs v).path, (prevR d.revs v).num)) ∨ ((prevD d.revs v).isSome = false ∧ prevF d.revs f = none)) := by
  show _ ∨ _
  unfold prevR
  rcases prevD_mem h hm with ⟨u, z, hu, hz, hmz⟩ | ⟨hu, hz⟩
  · rw [hz, hu]
    exact .inl ⟨rfl, congrArg some (mem_some hmz).2.2.symm⟩
  · rw [hz, hu]
    exact .inr ⟨rfl, rfl⟩
theorem Blk.c4 {b : Nat} {T : TypeId} {v0 v1 v2 v3 : Value} {x : World} (h : Blk b T [v0, v1, v2, v3] x) : x.cell? ⟨b, 0, none⟩ = some v0 ∧ x.cell? ⟨b, 1, none⟩ = some v1 ∧ x.cell? ⟨b, 2, none⟩ = some v2 ∧ x.cell? ⟨b, 3, none⟩ = some v3 := ⟨h.cell 0, h.cell 1, h.cell 2, h.cell 3⟩
theorem SetO.below {o : Option Nat} {S : Fil → Prop} {x y : World} (h : SetO o S x) (hb : Below x.heap.size x y) : SetO o S y := by
  cases o with
  | none => exact h
  | some b => exact SetIs.below h hb (SetIs.lt h)
/-- What holds when k records are done. -/
structure RecJ (d : Dep) (f : Fil) (R : Rnd) (k : Nat) (nn : Int) (x : World) : Prop where
  lo : 0 ≤ nn
  hi : nn ≤ k + 2
  nil : nn = 0 ↔ recsD (d.recs.take k) f = []
  st : St R (origD (d.recs.take k) f) (fun g => BefS d f g ∨ RecCar d f (d.recs.take k) g) (fun _ => False) (fun g => BefC d f g ∨ RecCre d f (d.recs.take k) g) x
theorem RecJ.zero {d : Dep} {f : Fil} {R : Rnd} {x : World} (h : St R true (BefS d f) (fun _ => False) (BefC d f) x) : RecJ d f R 0 0 x := by
  refine ⟨by omega, by omega, by simp [recsD], (h.s1c fun g => ?_).s3c fun g => ?_⟩
  · simp [RecCar, recsD]
  · simp [RecCre, recsD]
theorem RecJ.no {d : Dep} {f : Fil} {R : Rnd} {k : Nat} {nn : Int} {x : World} {r : Rcd} (h : RecJ d f R k nn x) (htk : d.recs.take (k + 1) = d.recs.take k ++ [r]) (hne : (r.dst, r.num) ≠ f) : RecJ d f R (k + 1) nn x := by
  have e := recs_no (q := d.recs.take k) hne
  have eo : origD (d.recs.take (k + 1)) f = origD (d.recs.take k) f := by
    unfold origD
    rw [htk, e]
  refine ⟨h.lo, by have := h.hi; omega, by rw [htk, e]; exact h.nil, ?_⟩
  rw [eo]
  refine (h.st.s1c fun g => ?_).s3c fun g => ?_
  · unfold RecCar
    rw [htk, e]
  · unfold RecCre
    rw [htk, e]
def CarR (d : Dep) (r : Rcd) (g : Fil) : Prop := (r.how = 1 ∧ (tabD d (r.src, r.lst)).car g) ∨ ((r.how = 2 ∨ r.how = 4) ∧ ∃ n, (r.fst ≤ n ∧ n ≤ r.lst) ∧ (tabD d (r.src, n)).con g)
def CreR (d : Dep) (r : Rcd) (g : Fil) : Prop := r.how = 3 ∧ ∃ n, (r.fst ≤ n ∧ n ≤ r.lst) ∧ (tabD d (r.src, n)).con g
theorem RecJ.yes {d : Dep} {f : Fil} {R : Rnd} {k : Nat} {nn n' : Int} {x : World} {r : Rcd} (hlo : 0 ≤ nn) (hhi : nn ≤ k + 2) (htk : d.recs.take (k + 1) = d.recs.take k ++ [r]) (he : (r.dst, r.num) = f) (hn : n' = nn + 1 ∨ n' = 2)
    (h : St R (origD (d.recs.take (k + 1)) f) (fun g => (BefS d f g ∨ RecCar d f (d.recs.take k) g) ∨ CarR d r g) (fun _ => False) (fun g => (BefC d f g ∨ RecCre d f (d.recs.take k) g) ∨ CreR d r g) x) : RecJ d f R (k + 1) n' x := by
  have e := recs_yes (q := d.recs.take k) he
  refine ⟨by omega, by omega, ?_, (h.s1c fun g => ?_).s3c fun g => ?_⟩
  · rw [htk, e]
    constructor
    · intro h0
      omega
    · intro h0
      simp at h0
  · unfold RecCar
    rw [htk, e]
    constructor
    · rintro ((h | ⟨r', h1, h2⟩) | h)
      · exact .inl h
      · exact .inr ⟨r', List.mem_append_left _ h1, h2⟩
      · exact .inr ⟨r, by simp, h⟩
    · rintro (h | ⟨r', h1, h2⟩)
      · exact .inl (.inl h)
      · rcases List.mem_append.1 h1 with h1 | h1
        · exact .inl (.inr ⟨r', h1, h2⟩)
        · rw [List.mem_singleton] at h1
          subst h1
          exact .inr h2
  · unfold RecCre
    rw [htk, e]
    constructor
    · rintro ((h | ⟨r', h1, h2⟩) | h)
      · exact .inl h
      · exact .inr ⟨r', List.mem_append_left _ h1, h2⟩
      · exact .inr ⟨r, by simp, h⟩
    · rintro (h | ⟨r', h1, h2⟩)
      · exact .inl (.inl h)
      · rcases List.mem_append.1 h1 with h1 | h1
        · exact .inl (.inr ⟨r', h1, h2⟩)
        · rw [List.mem_singleton] at h1
          subst h1
          exact .inr h2
/-- The state within a record. -/
structure SR (R : Rnd) (qb : Nat) (C : List Value) (o : Bool) (S1 S3 : Fil → Prop) (x : World) : Prop where
  st : St R o S1 (fun _ => False) S3 x
  qk : Blk qb 63 C x
  n1 : qb ≠ R.c1
  n3 : qb ≠ R.c3
  nx : qb ≠ R.xb
section
variable {R : Rnd} {qb : Nat} {C : List Value} {o : Bool} {S1 S3 S : Fil → Prop} {x y : World}
theorem SR.below (h : SR R qb C o S1 S3 x) (hb : Below x.heap.size x y) : SR R qb C o S1 S3 y := ⟨h.st.below hb, h.qk.below hb, h.n1, h.n3, h.nx⟩
theorem SR.a1 (ok : RndOk R) (h : SR R qb C o S1 S3 x) (hs : SetIs R.c1 S y) (hk : Kp (· = R.c1) x y) : SR R qb C o S S3 y := ⟨h.st.a1 ok hs hk, h.qk.kp hk h.n1, h.n1, h.n3, h.nx⟩
theorem SR.a3 (ok : RndOk R) (h : SR R qb C o S1 S3 x) (hs : SetIs R.c3 S y) (hk : Kp (· = R.c3) x y) : SR R qb C o S1 S y := ⟨h.st.a3 ok hs hk, h.qk.kp hk h.n3, h.n1, h.n3, h.nx⟩
theorem SR.orig (ok : RndOk R) (h : SR R qb C o S1 S3 x) (u : Bool) : SR R qb C u S1 S3 (x.setCell ⟨R.xb, 0, none⟩ (.bool u)) := ⟨h.st.orig ok u, h.qk.far h.nx _, h.n1, h.n3, h.nx⟩
theorem SR.s1c (h : SR R qb C o S1 S3 x) (he : ∀ f, S1 f ↔ S f) : SR R qb C o S S3 x := ⟨h.st.s1c he, h.qk, h.n1, h.n3, h.nx⟩
theorem SR.s3c (h : SR R qb C o S1 S3 x) (he : ∀ f, S3 f ↔ S f) : SR R qb C o S1 S x := ⟨h.st.s3c he, h.qk, h.n1, h.n3, h.nx⟩
theorem SR.new (h : St R o S1 (fun _ => False) S3 x) (C : List Value) : SR R x.heap.size C o S1 S3 (x.alloc (.cells C.toArray 63)) :=
  ⟨h.below ((Below.refl _ _).alloc (Nat.le_refl _) _), Blk.new x 63 C, fun e => by have := h.s1.lt; omega, fun e => by have := h.s3.lt; omega, fun e => by have := h.xk.lt; omega⟩
end
theorem RecJ.kept {d : Dep} {f : Fil} {R : Rnd} {k k' : Nat} {nn : Int} {x y : World} {qb : Nat} {C : List Value} {o : Bool} {S1 S3 : Fil → Prop} (h : RecJ d f R k nn x) (hs : SR R qb C o S1 S3 y) (ho : o = origD (d.recs.take k') f) (h1 : ∀ g, S1 g ↔ BefS d f g ∨ RecCar d f (d.recs.take k') g) (h3 : ∀ g, S3 g ↔ BefC d f g ∨ RecCre d f (d.recs.take k') g) (hr : recsD (d.recs.take k) f = recsD (d.recs.take k') f) : RecJ d f R k nn y := by
  have eo : origD (d.recs.take k) f = origD (d.recs.take k') f := by
    unfold origD
    rw [hr]
  refine ⟨h.lo, h.hi, h.nil, ?_⟩
  have hs2 := hs.st
  rw [ho] at hs2
  rw [eo]
  refine (hs2.s1c fun g => ?_).s3c fun g => ?_
  · rw [h1 g]
    unfold RecCar
    rw [hr]
  · rw [h3 g]
    unfold RecCre
    rw [hr]
/-- What a record brings up to its m-th source. -/
def CarW (d : Dep) (r : Rcd) (m : Int) (g : Fil) : Prop := (r.how = 1 ∧ (tabD d (r.src, r.lst)).car g) ∨ ((r.how = 2 ∨ r.how = 4) ∧ ∃ n, (r.fst ≤ n ∧ n < m) ∧ (tabD d (r.src, n)).con g)
def CreW (d : Dep) (r : Rcd) (m : Int) (g : Fil) : Prop := r.how = 3 ∧ ∃ n, (r.fst ≤ n ∧ n < m) ∧ (tabD d (r.src, n)).con g
section
variable {d : Dep} {r : Rcd} {m : Int} {g : Fil}
theorem span_zero {P : Int → Prop} : ¬ ∃ n, (r.fst ≤ n ∧ n < r.fst) ∧ P n := fun ⟨n, h, _⟩ => by omega
theorem span_succ {P : Int → Prop} (hm : r.fst ≤ m) : (∃ n, (r.fst ≤ n ∧ n < m + 1) ∧ P n) ↔ (∃ n, (r.fst ≤ n ∧ n < m) ∧ P n) ∨ P m := by
  constructor
  · rintro ⟨n, h1, h2⟩
    by_cases e : n = m
    · exact .inr (e ▸ h2)
    · exact .inl ⟨n, ⟨h1.1, by omega⟩, h2⟩
  · rintro (⟨n, h1, h2⟩ | h)
    · exact ⟨n, ⟨h1.1, by omega⟩, h2⟩
    · exact ⟨m, ⟨hm, by omega⟩, h⟩
theorem span_end {P : Int → Prop} : (∃ n, (r.fst ≤ n ∧ n < r.lst + 1) ∧ P n) ↔ ∃ n, (r.fst ≤ n ∧ n ≤ r.lst) ∧ P n := exists_congr fun n => and_congr_left fun _ => and_congr_right fun _ => by omega
theorem carW_zero : CarW d r r.fst g ↔ r.how = 1 ∧ (tabD d (r.src, r.lst)).car g := by
  unfold CarW
  exact ⟨fun h => h.elim id fun h => absurd h.2 span_zero, .inl⟩
theorem creW_zero : ¬ CreW d r r.fst g := fun h => span_zero h.2
theorem carW_succ (h : r.how = 2 ∨ r.how = 4) (hm : r.fst ≤ m) : CarW d r (m + 1) g ↔ CarW d r m g ∨ (tabD d (r.src, m)).con g := by
  unfold CarW
  rw [span_succ hm]
  constructor
  · rintro (h1 | ⟨h1, h2 | h2⟩)
    · exact .inl (.inl h1)
    · exact .inl (.inr ⟨h1, h2⟩)
    · exact .inr h2
  · rintro ((h1 | ⟨h1, h2⟩) | h2)
    · exact .inl h1
    · exact .inr ⟨h1, .inl h2⟩
    · exact .inr ⟨h, .inr h2⟩
theorem carW_same (h : ¬ (r.how = 2 ∨ r.how = 4)) : CarW d r (m + 1) g ↔ CarW d r m g := by
  unfold CarW
  exact or_congr Iff.rfl ⟨fun h1 => absurd h1.1 h, fun h1 => absurd h1.1 h⟩
theorem creW_succ (h : r.how = 3) (hm : r.fst ≤ m) : CreW d r (m + 1) g ↔ CreW d r m g ∨ (tabD d (r.src, m)).con g := by
  unfold CreW
  rw [span_succ hm]
  constructor
  · rintro ⟨h1, h2 | h2⟩
    · exact .inl ⟨h1, h2⟩
    · exact .inr h2
  · rintro (⟨h1, h2⟩ | h2)
    · exact ⟨h1, .inl h2⟩
    · exact ⟨h, .inr h2⟩
theorem creW_same (h : r.how ≠ 3) : CreW d r (m + 1) g ↔ CreW d r m g := ⟨fun h1 => absurd h1.1 h, fun h1 => absurd h1.1 h⟩
theorem carW_end : CarW d r (r.lst + 1) g ↔ CarR d r g := by
  unfold CarW CarR
  rw [span_end]
theorem creW_end : CreW d r (r.lst + 1) g ↔ CreR d r g := by
  unfold CreW CreR
  rw [span_end]
end
theorem run_field1 (a b c e : Value) (w : World) : (Instr.field 36 (.agg #[a, b, c, e]) 1).run Tryd.prog w = .ok b w := by
  unfold Instr.field
  simp [run_underlying Tryd.underlying36, Result.andThen, asAgg, part, go_sem]
theorem run_field2 (a b c e : Value) (w : World) : (Instr.field 36 (.agg #[a, b, c, e]) 2).run Tryd.prog w = .ok c w := by
  unfold Instr.field
  simp [run_underlying Tryd.underlying36, Result.andThen, asAgg, part, go_sem]
section
variable {P : Program} {w : World} {ops : Array Oper} {rest : List Oper} {o : Oper} {a : Act} {Q : Exit → Act → World → Prop}
theorem wpList_field (hg : o.guard = none) (m : Operand) (t : TypeId) (j : Nat) (hop : o.op = Op.field t m j) (v u : Value) (hm : a.eval m = v) (hrun : (Instr.field t v j).run P w = .ok u w)
    (hK : wpList P ops Q rest (a.put o.dst u) w) : wpList P ops Q (o :: rest) a w := by
  refine wpList_plain hg fun K' hK' => ?_
  unfold Oper.wp
  simp only [execOp, hop, hm, Sem.run_bind, hrun, Result.andThen]
  exact hK' _ _ hK
end
/-- What is kept while a copied set is taken in. -/
structure CpS (w0 : World) (xb qb : Nat) (X C : List Value) (y : World) : Prop where
  bel : Below w0.heap.size w0 y
  xk : Blk xb 36 X y
  qk : Blk qb 63 C y
theorem St.lts {R : Rnd} {o : Bool} {S1 S2 S3 : Fil → Prop} {x : World} (h : St R o S1 S2 S3 x) : R.w.heap.size ≤ x.heap.size ∧ R.c1 < x.heap.size ∧ R.c2 < x.heap.size ∧ R.c3 < x.heap.size ∧ R.xb < x.heap.size ∧ R.bb < x.heap.size ∧ R.fb < x.heap.size ∧ R.rb < x.heap.size ∧ R.db < x.heap.size := ⟨h.bel.size, h.s1.lt, h.s2.lt, h.s3.lt, h.xk.lt, h.bk.lt, h.fk.lt, h.rk.lt, h.dk.lt⟩
/-- What goes over a map writes its own place alone. -/
theorem St.it {R : Rnd} {o : Bool} {S1 S2 S3 : Fil → Prop} {x y : World} {m : Nat} (h : St R o S1 S2 S3 x) (hk : Kp (· = m) x y) (hm : R.w.heap.size ≤ m ∧ R.c1 < m ∧ R.c2 < m ∧ R.c3 < m ∧ R.xb < m ∧ R.bb < m ∧ R.fb < m ∧ R.rb < m ∧ R.db < m) : St R o S1 S2 S3 y := by
  obtain ⟨h0, h1, h2, h3, h4, h5, h6, h7, h8⟩ := hm
  exact ⟨h.bel.trans (hk.below (fun b hb e => by omega) h.bel.size), h.s1.kp hk (Nat.ne_of_lt h1), h.s2.kp hk (Nat.ne_of_lt h2), h.s3.kp hk (Nat.ne_of_lt h3), h.xk.kp hk (Nat.ne_of_lt h4), h.bk.kp hk (Nat.ne_of_lt h5), h.fk.kp hk (Nat.ne_of_lt h6), h.rk.kp hk (Nat.ne_of_lt h7), h.dk.kp hk (Nat.ne_of_lt h8)⟩
theorem SetO.runR {o : Option Nat} {S : Fil → Prop} {w : World} (h : SetO o S w) {f : Fil} (hf : FOk f) : ∃ c : Bool, (Instr.lookup 34 (.map o) (fileV f) false).run Tryd.prog w = .ok (.bool c) w ∧ (c = true ↔ S f) := by
  cases o with
  | none => exact ⟨false, km_nil (T := filT) Tryd.underlying34 (zeroBool w) hf false, fun h => (by cases h), fun h' => absurd h' (h f)⟩
  | some b => exact SetIs.run_has h Tryd.underlying34 (zeroBool w) hf
theorem AllI.new (d : Dep) (w : World) : AllI d w.heap.size 0 (w.alloc (.map #[] 0)) := ⟨[], KM.new w filT, fun _ _ => rfl, fun _ hf => absurd hf.2 (Nat.not_lt_zero _)⟩
set_option maxRecDepth 100000 in
set_option maxHeartbeats 12800000 in
theorem rall_any (d : Dep) (DA DB : Option Addr) (da db : Nat) (w : World) (hc : CrD d) (hA : revK.In DA d.revs w) (hB : rcdK.In DB d.recs w) :
    Calls Tryd.prog 26 #[.agg #[.slice DA d.revs.length da, .slice DB d.recs.length db]] w fun e w' => ∃ M, e = .returned (.map (some M)) ∧ AllI d M d.revs.length w' ∧ Below w.heap.size w w' := by
  have HC := Lib.hid hc
  have HI := Lib.hid hA
  have HQ := Lib.hid hB
  have hRl := hc.dep.few
  have hRr := hc.dep.fewr
  clear hc hA hB
  have hmm := @run_makeMap Tryd.prog
  go_enter Tryd.func26, Tryd.ntmps26
  go_upto_region 2 with fail
  have HM1 := Lib.hid ((Blk.new w 28 [.slice DA d.revs.length da, .slice DB d.recs.length db]).alloc (.map #[] 0))
  have hbel : Below w.heap.size w ((w.alloc (.cells [.slice DA d.revs.length da, .slice DB d.recs.length db].toArray 28)).alloc (.map #[] 0)) := by (repeat (first | (with_reducible exact Below.refl _ _) | (with_reducible assumption) | (with_reducible refine Below.setCell ?_ ?_ _; rotate_left; focus (first | exact Nat.le_refl _ | (dsimp only; omega))) | (with_reducible refine Below.drew ?_) | (with_reducible refine below_drewN ?_ _) | (with_reducible refine Below.alloc ?_ ?_ _; rotate_left; focus (first | exact Nat.le_refl _ | (simp; done) | (simp; omega)))))
  have HB1 := Lib.hid hbel
  have hal := AllI.new d (w.alloc (.cells [.slice DA d.revs.length da, .slice DB d.recs.length db].toArray 28))
  rw [show (w.alloc (.cells [.slice DA d.revs.length da, .slice DB d.recs.length db].toArray 28)).heap.size = w.heap.size + 1 by simp] at hal
  have HA1 := Lib.hid hal
  clear hbel hal
  generalize World.alloc (World.alloc w _) (.map #[] 0) = w1 at *
  generalize hM : w.heap.size + 1 = M at *
  have HMD : Hid (w.heap.size < M) := by show _ < _; omega
  clear hM
  obtain ⟨d0, d1⟩ := HM1.out.c2
  have ldb := HM1.out.lt
  go_wp2_with fail
  clear d0 d1
  go_loopw [21] (fun s wr => ∃ i : Nat, s = .int .i64 i ∧ i ≤ d.revs.length ∧ AllI d M i wr ∧ Blk w.heap.size 28 [.slice DA d.revs.length da, .slice DB d.recs.length db] wr ∧ Below w.heap.size w wr) (fun s _ => d.revs.length - (intOf s).toNat)
  case atStart => exact ⟨0, rfl, Nat.zero_le _, HA1.out, HM1.out, HB1.out⟩
  case round =>
    obtain ⟨i, rfl, hi, hai, hbk, hbel⟩ := hrel
    obtain ⟨wO, rfl⟩ : ∃ wO : World, wO = wr := ⟨_, rfl⟩
    have HAI := Lib.hid hai
    have HDK := Lib.hid hbk
    have HBE := Lib.hid hbel
    have hml := hai.lt
    clear hai hbk HA1 HM1 HB1
    by_cases hlt : i < d.revs.length
    · obtain ⟨g, off, rfl, hgl, hat⟩ := HI.out (by omega)
      have hgk := List.getElem?_eq_getElem hlt
      generalize hq : d.revs[i] = v at *
      clear hq
      have HGK := Lib.hid hgk
      (obtain ⟨vp, vn, vc, va, ⟨tb, tk, te, tx⟩, ⟨cs, cz⟩, vs, vm⟩ := v)
      have hat := hat.below hbel hgl
      (have hcv := fun j (u : Value) (hj : ((⟨vp, vn, vc, va, ⟨tb, tk, te, tx⟩, ⟨cs, cz⟩, vs, vm⟩ : Rev)).cells[j]? = some u) => ((hat).get hgk hj); have c0 := hcv 0 _ rfl; have c1 := hcv 1 _ rfl; have c2 := hcv 2 _ rfl; have c3 := hcv 3 _ rfl; have c4 := hcv 4 _ rfl; have c5 := hcv 5 _ rfl; have c6 := hcv 6 _ rfl; have c7 := hcv 7 _ rfl; have c8 := hcv 8 _ rfl; have c9 := hcv 9 _ rfl; have c10 := hcv 10 _ rfl; have c11 := hcv 11 _ rfl; have e12 : revK.n = 12 := rfl; simp only [e12, Nat.add_zero] at c0 c1 c2 c3 c4 c5 c6 c7 c8 c9 c10 c11; clear hcv e12)
      clear hat hgk hbel
      have hgl2 : g < wO.heap.size := Nat.lt_of_lt_of_le hgl HBE.out.size
      by_cases h5 : va = 5
      · have h5' : (va == 5) = true := by simpa using h5
        have HSK := Lib.hid (HAI.out.skip HGK.out h5)
        clear h5
        have hb2 := (Below.refl wO.heap.size wO).alloc (Nat.le_refl _) (.cells (#[.string vp, .int .i64 vn, .int .i64 vc, .int .i64 va, .int .i64 tb, .bool tk, .bool te, .bool tx, .int .u64 cs, .int .i64 cz, .string vs, .int .i64 vm]) 51)
        have HX2 := Lib.hid hb2
        clear hb2 hmm
        go_wp2_with fail
        go_roundw
        case rel => exact ⟨i + 1, by go_num, by omega, HSK.out.below HX2.out, HDK.out.below HX2.out, HBE.out.trans (HX2.out.mono HBE.out.size)⟩
        case measure => simp [intOf]; omega
      · have h5' : (va == 5) = false := by simpa using h5
        obtain ⟨hm, hr⟩ := uniq_at HC.out.hist.uniq HGK.out h5
        have HMEM : Hid (memD d.revs (vp, vn) = some ⟨vp, vn, vc, va, ⟨tb, tk, te, tx⟩, ⟨cs, cz⟩, vs, vm⟩ ∧ rkD d.revs (vp, vn) = i) := ⟨hm, hr⟩
        have HFO := Lib.hid (HC.out.fok (f := (vp, vn)) (by rw [HMEM.out.1]; rfl))
        have h5N : Hid (va ≠ 5) := h5
        clear hm hr h5
        go_upto_region 10 with fail
        obtain ⟨hok, hst⟩ := St.start wO w.heap.size ([.string vp, .int .i64 vn, .int .i64 vc, .int .i64 va, .int .i64 tb, .bool tk, .bool te, .bool tx, .int .u64 cs, .int .i64 cz, .string vs, .int .i64 vm]) [.string vp, .int .i64 vn] [.slice (some ⟨g, off, none⟩) d.revs.length da, .slice DB d.recs.length db] HDK.out
        have HST := Lib.hid hst
        have HOK := Lib.hid hok
        clear hst hok c0 c1 c2 c3 c4 c5 c6 c7 c8 c9 c10 c11
        generalize World.alloc (World.alloc (World.alloc (World.alloc (World.alloc (World.alloc (World.alloc wO _) _) _) _) _) _) _ = w2 at *
        generalize hbb : wO.heap.size + 1 + 1 + 1 + 1 + 1 + 1 = bb at *
        generalize hxb : wO.heap.size + 1 + 1 + 1 + 1 + 1 = xb at *
        generalize hc3 : wO.heap.size + 1 + 1 + 1 + 1 = b3 at *
        generalize hc2 : wO.heap.size + 1 + 1 + 1 = b2 at *
        generalize hc1 : wO.heap.size + 1 + 1 = b1 at *
        generalize hfb : wO.heap.size + 1 = fb at *
        generalize hrb : wO.heap.size = rb at *
        have HRB : Hid (wO.heap.size = rb ∧ rb < fb ∧ fb < b1 ∧ b1 < b2 ∧ b2 < b3 ∧ b3 < xb ∧ xb < bb) := by
          refine ⟨hrb, ?_⟩
          omega
        clear hbb hxb hc3 hc2 hc1 hfb hrb hmm
        obtain ⟨R, hR⟩ : ∃ R : Rnd, R = ⟨wO, rb, fb, b1, b2, b3, xb, bb, w.heap.size, ([.string vp, .int .i64 vn, .int .i64 vc, .int .i64 va, .int .i64 tb, .bool tk, .bool te, .bool tx, .int .u64 cs, .int .i64 cz, .string vs, .int .i64 vm]), [.string vp, .int .i64 vn], [.slice (some ⟨g, off, none⟩) d.revs.length da, .slice DB d.recs.length db], [.bool false, .map none, .map none, .map none]⟩ := ⟨_, rfl⟩
        have HR := Lib.hid hR
        rw [← hR] at HST HOK
        clear hR
        -- Previous
        have hin2 := HI.out.below (HBE.out.trans ((by have h := HST.out.bel; rw [HR.out] at h; exact h : Below wO.heap.size wO w2).mono HBE.out.size))
        have hpv := rprev_any d.revs ⟨vp, vn, vc, va, ⟨tb, tk, te, tx⟩, ⟨cs, cz⟩, vs, vm⟩ (some ⟨g, off, none⟩) DB da d.recs.length db w2 hin2 (by omega) (by have h := (HC.out.mem (f := (vp, vn)) (by rw [HMEM.out.1]; rfl)).2; dsimp only at h ⊢; omega)
        have HPD := prevD_fact HC.out HMEM.out.1
        generalize prevR d.revs ⟨vp, vn, vc, va, ⟨tb, tk, te, tx⟩, ⟨cs, cz⟩, vs, vm⟩ = z at *
        generalize (prevD d.revs ⟨vp, vn, vc, va, ⟨tb, tk, te, tx⟩, ⟨cs, cz⟩, vs, vm⟩).isSome = pis at *
        obtain ⟨zp, zn, zc, za, ⟨yb, yk, ye, yx⟩, ⟨ys, yz⟩, zs, zm⟩ := z
        unfold Rev.val Rev.cells at hpv
        dsimp only at hpv HPD
        have HPV := Lib.hid hpv
        clear hpv hin2
        have hst := HST.out
        have hxk := hst.xk
        have hbk := hst.bk
        have hrk := hst.rk
        have hdk := hst.dk
        rw [HR.out] at hxk hbk hrk hdk
        dsimp only at hxk hbk hrk hdk
        obtain ⟨d0, d1⟩ := hdk.c2
        obtain ⟨v0, v1, v2, v3, v4, v5, v6, v7, v8, v9, v10, v11⟩ := hrk.c12
        clear hst hxk hbk hrk hdk
        go_wp2_with fail
        refine HPV.out.mono ?_
        rintro e w3 ⟨rfl, hb3⟩
        have hb4 := hb3.alloc hb3.size (.cells #[.string zp, .int .i64 zn, .int .i64 zc, .int .i64 za, .int .i64 yb, .bool yk, .bool ye, .bool yx, .int .u64 ys, .int .i64 yz, .string zs, .int .i64 zm] 51)
        have HS4 := Lib.hid (HST.out.below hb4)
        have HU4 := Lib.hid (Blk.new w3 51 [.string zp, .int .i64 zn, .int .i64 zc, .int .i64 za, .int .i64 yb, .bool yk, .bool ye, .bool yx, .int .u64 ys, .int .i64 yz, .string zs, .int .i64 zm])
        clear hb3 hb4 HPV HST d0 d1 v0 v1 v2 v3 v4 v5 v6 v7 v8 v9 v10 v11
        go_upto_if 43 with fail
        generalize World.alloc w3 _ = w4 at *
        generalize w3.heap.size = ub at *
        go_cut [] from 44 to 162 (fun wx => ∃ (bo : Bool) (ob m2 m3 : Option Nat), St (R.wB [.bool bo, .map ob, .map m2, .map m3]) true (BefS d (vp, vn)) (fun _ => False) (BefC d (vp, vn)) wx ∧ SetO ob (BefS d (vp, vn)) wO)
        case first =>
          rcases HPD.out with ⟨hp, hu⟩ | ⟨hp, hu⟩
          case inl =>
            subst hp
            have hdone : DoneM d i (zp, zn) := ⟨(prevF_mem hu).1, by have h := HC.out.hist.prev _ _ hu; rw [HMEM.out.2] at h; exact h⟩
            obtain ⟨p1, p2, p3, hl, s1, s2, s3⟩ := HAI.out.get hdone (HC.out.fok (prevF_mem hu).1) Tryd.underlying77
            have HBEF : Hid ((∀ g, (tabD d (zp, zn)).car g ↔ BefS d (vp, vn) g) ∧ ∀ g, (tabD d (zp, zn)).cre g ↔ BefC d (vp, vn) g) := ⟨fun g => ⟨fun h => ⟨_, hu, h⟩, fun ⟨u, h1, h2⟩ => by rw [hu] at h1; cases h1; exact h2⟩, fun g => ⟨fun h => ⟨_, hu, h⟩, fun ⟨u, h1, h2⟩ => by rw [hu] at h1; cases h1; exact h2⟩⟩
            have HT1 := Lib.hid s1
            have HT3 := Lib.hid s3
            have hlk := hl w4 (by have h := HS4.out.bel; rw [HR.out] at h; exact h)
            dsimp only at hlk
            have hbk : Blk bb 36 [.bool false, .map none, .map none, .map none] w4 := by have h := HS4.out.bk; rw [HR.out] at h; exact h
            obtain ⟨u0, u1, -, -, -, -, -, -, -, -, -, -⟩ := HU4.out.c12
            obtain ⟨e0, e1, e2, e3⟩ := hbk.c4
            have z0 := hbk.fz 0
            have z1 := hbk.fz 1
            have z2 := hbk.fz 2
            have z3 := hbk.fz 3
            clear hbk hl hu hdone s1 s2 s3 HPD
            generalize origD d.recs (zp, zn) = po at *
            go_upto_region 13 with fail
            have hs5 := HS4.out.putB HOK.out (by rw [HR.out]) (.bool po) (.map (some p1)) (.map (some p2)) (.map (some p3))
            rw [show R.bb = bb by rw [HR.out]] at hs5
            have HS5 := Lib.hid hs5
            clear hs5 hlk e0 e1 e2 e3 z0 z1 z2 z3 u0 u1
            generalize World.setCell (World.setCell (World.setCell (World.setCell w4 _ _) _ _) _ _) _ _ = w5 at *
            have HB5 : Hid (Below wO.heap.size wO w5) := by have h := HS5.out.bel; rw [HR.out] at h; exact h
            have hbk : Blk bb 36 [.bool po, .map (some p1), .map (some p2), .map (some p3)] w5 := by have h := HS5.out.bk; rw [HR.out] at h; exact h
            have hxk : Blk xb 36 [.bool true, .map (some b1), .map (some b2), .map (some b3)] w5 := by have h := HS5.out.xk; rw [HR.out] at h; exact h
            obtain ⟨e0, e1, e2, e3⟩ := hbk.c4
            obtain ⟨x0, x1, x2, x3⟩ := hxk.c4
            have hne : p1 ≠ b1 := by have h1 := HT1.out.lt; have h2 := HRB.out; omega
            have HRA := Lib.hid (radd_any b1 p1 _ _ w5 (by have h := HS5.out.s1; rw [HR.out] at h; exact h) (HT1.out.below HB5.out HT1.out.lt) hne)
            clear hbk hxk hne
            go_upto_region 14 with (go_at_call 39; refine HRA.out.mono ?_; rintro e w6 ⟨rfl, h6s, h6k⟩)
            have HS6 := Lib.hid (HS5.out.a1 (HOK.out.wB _) (S := BefS d (vp, vn)) (by have h := h6s.congr (S' := BefS d (vp, vn)) (fun g => by rw [HBEF.out.1 g]; simp); rw [HR.out]; exact h) (by rw [HR.out]; exact h6k))
            clear h6s h6k HRA HS5 HB5 e0 e1 e2 e3 x0 x1 x2 x3
            have HB6 : Hid (Below wO.heap.size wO w6) := by have h := HS6.out.bel; rw [HR.out] at h; exact h
            have hbk : Blk bb 36 [.bool po, .map (some p1), .map (some p2), .map (some p3)] w6 := by have h := HS6.out.bk; rw [HR.out] at h; exact h
            have hxk : Blk xb 36 [.bool true, .map (some b1), .map (some b2), .map (some b3)] w6 := by have h := HS6.out.xk; rw [HR.out] at h; exact h
            obtain ⟨e0, e1, e2, e3⟩ := hbk.c4
            obtain ⟨x0, x1, x2, x3⟩ := hxk.c4
            have hne : p3 ≠ b3 := by have h1 := HT3.out.lt; have h2 := HRB.out; omega
            have HRA := Lib.hid (radd_any b3 p3 _ _ w6 (by have h := HS6.out.s3; rw [HR.out] at h; exact h) (HT3.out.below HB6.out HT3.out.lt) hne)
            clear hbk hxk hne
            go_wp2_with (go_at_call 39; refine HRA.out.mono ?_; rintro e w7 ⟨rfl, h7s, h7k⟩)
            have HS7 := Lib.hid (HS6.out.a3 (HOK.out.wB _) (S := BefC d (vp, vn)) (by have h := h7s.congr (S' := BefC d (vp, vn)) (fun g => by rw [HBEF.out.2 g]; simp); rw [HR.out]; exact h) (by rw [HR.out]; exact h7k))
            clear h7s h7k HRA HS6 HB6 e0 e1 e2 e3 x0 x1 x2 x3
            go_meet
            case rel => exact ⟨po, some p1, some p2, some p3, HS7.out, HT1.out.congr HBEF.out.1⟩
          case inr =>
            subst hp
            have HN : Hid (∀ u, prevF d.revs (vp, vn) ≠ some u) := fun u h => by rw [hu] at h; cases h
            clear hu HPD
            go_wp2_with fail
            go_meet
            case rel =>
              refine ⟨false, none, none, none, ?_, fun g ⟨u, h, _⟩ => HN.out u h⟩
              have e : R.wB [.bool false, .map none, .map none, .map none] = R := by rw [HR.out]; rfl
              rw [e]
              exact (HS4.out.s1c fun g => ⟨False.elim, fun ⟨u, h, _⟩ => HN.out u h⟩).s3c fun g => ⟨False.elim, fun ⟨u, h, _⟩ => HN.out u h⟩
        case rest =>

          obtain ⟨bo, ob, m2, m3, hst, hso⟩ := hcut
          obtain ⟨Q, hQ⟩ : ∃ Q : Rnd, Q = R.wB [.bool bo, .map ob, .map m2, .map m3] := ⟨_, rfl⟩
          rw [← hQ] at hst
          have HOKQ : Hid (RndOk Q) := by
            show RndOk Q
            rw [hQ]
            exact HOK.out.wB _
          have HQR : Hid (Q = ⟨wO, rb, fb, b1, b2, b3, xb, bb, w.heap.size, ([.string vp, .int .i64 vn, .int .i64 vc, .int .i64 va, .int .i64 tb, .bool tk, .bool te, .bool tx, .int .u64 cs, .int .i64 cz, .string vs, .int .i64 vm]), [.string vp, .int .i64 vn], [.slice (some ⟨g, off, none⟩) d.revs.length da, .slice DB d.recs.length db], [.bool bo, .map ob, .map m2, .map m3]⟩) := by
            show Q = _
            rw [hQ, HR.out]
            rfl
          have HJ := Lib.hid (RecJ.zero hst)
          have HSO := Lib.hid hso
          have hdk : Blk w.heap.size 28 [.slice (some ⟨g, off, none⟩) d.revs.length da, .slice DB d.recs.length db] wc := by have h := hst.dk; rw [HQR.out] at h; exact h
          clear hQ hst hso HR HOK HPD HS4 HU4
          obtain ⟨d0, d1⟩ := hdk.c2
          clear hdk
          go_wp2_with fail
          clear d0 d1
          go_loopw [8, 64] (fun s8 s64 x => ∃ (k : Nat) (nn : Int), s8 = .int .i64 nn ∧ s64 = .int .i64 k ∧ k ≤ d.recs.length ∧ RecJ d (vp, vn) Q k nn x) (fun _ s64 _ => d.recs.length - (intOf s64).toNat)
          case atStart => exact ⟨0, 0, rfl, rfl, Nat.zero_le _, HJ.out⟩
          case round =>
            obtain ⟨k, nn, rfl, rfl, hk, hj⟩ := hrel
            have HJ2 := Lib.hid hj
            clear hj HJ
            by_cases hkl : k < d.recs.length
            · obtain ⟨g2, off2, rfl, hgl3, hat⟩ := HQ.out (by omega)
              have hgk := List.getElem?_eq_getElem hkl
              have htk : d.recs.take (k + 1) = d.recs.take k ++ [d.recs[k]] := by rw [List.take_succ_eq_append_getElem hkl]
              have hmr := List.getElem_mem hkl
              generalize hq : d.recs[k] = r at *
              clear hq
              obtain ⟨rs, rf, rl, rt, rn, rh⟩ := r
              have HTK := Lib.hid htk
              have HMR := Lib.hid hmr
              have hbx : Below wO.heap.size wO wr := by have h := HJ2.out.st.bel; rw [HQR.out] at h; exact h
              have hat := (hat.below HBE.out hgl3).below hbx (Nat.lt_of_lt_of_le hgl3 HBE.out.size)
              (have hcv := fun j (u : Value) (hj : ((⟨rs, rf, rl, rt, rn, rh⟩ : Rcd)).cells[j]? = some u) => ((hat).get hgk hj); have c0 := hcv 0 _ rfl; have c1 := hcv 1 _ rfl; have c2 := hcv 2 _ rfl; have c3 := hcv 3 _ rfl; have c4 := hcv 4 _ rfl; have c5 := hcv 5 _ rfl; have e12 : rcdK.n = 6 := rfl; simp only [e12, Nat.add_zero] at c0 c1 c2 c3 c4 c5; clear hcv e12)
              have hgl4 : g2 < wr.heap.size := by have h1 := HBE.out.size; have h2 := hbx.size; omega
              have HS3 := Lib.hid (SR.new HJ2.out.st [.string rs, .int .i64 rf, .int .i64 rl, .string rt, .int .i64 rn, .int .i64 rh])
              clear hat hgk htk hmr hbx
              go_upto_region 18 with fail
              generalize World.alloc wr _ = x3 at *
              generalize wr.heap.size = qb at *
              clear c0 c1 c2 c3 c4 c5
              obtain ⟨q0, q1, q2, q3, q4, q5⟩ := HS3.out.qk.c6
              have hrk : Blk rb 51 ([.string vp, .int .i64 vn, .int .i64 vc, .int .i64 va, .int .i64 tb, .bool tk, .bool te, .bool tx, .int .u64 cs, .int .i64 cz, .string vs, .int .i64 vm]) x3 := by have h := HS3.out.st.rk; rw [HQR.out] at h; exact h
              obtain ⟨v0, v1, v2, v3, v4, v5, v6, v7, v8, v9, v10, v11⟩ := hrk.c12
              clear hrk
              by_cases e1 : rt.toList = vp.toList
              case neg =>
                have HNE : Hid (((⟨rs, rf, rl, rt, rn, rh⟩ : Rcd).dst, (⟨rs, rf, rl, rt, rn, rh⟩ : Rcd).num) ≠ (vp, vn)) := fun e => e1 (congrArg ByteArray.toList (congrArg Prod.fst e))
                have HNO := Lib.hid (HJ2.out.no HTK.out HNE.out)
                go_wp2_with fail
                go_roundw
                case rel => exact ⟨k + 1, nn, rfl, by go_num, by omega, HNO.out.kept HS3.out rfl (fun _ => Iff.rfl) (fun _ => Iff.rfl) (by rw [HTK.out]; exact recs_no HNE.out)⟩
                case measure => simp [intOf]; omega
              have e1' : vp = rt := (ba_data (by rw [← toList_eq, ← toList_eq, e1])).symm
              subst e1'
              clear e1
              by_cases e2 : rn = vn
              case neg =>
                have e2' : (rn == vn) = false := by simpa using e2
                have e2'' : (rn != vn) = true := by simpa using e2
                have HNE : Hid (((⟨rs, rf, rl, vp, rn, rh⟩ : Rcd).dst, (⟨rs, rf, rl, vp, rn, rh⟩ : Rcd).num) ≠ (vp, vn)) := fun e => e2 (congrArg Prod.snd e)
                have HNO := Lib.hid (HJ2.out.no HTK.out HNE.out)
                go_wp2_with fail
                go_roundw
                case rel => exact ⟨k + 1, nn, rfl, by go_num, by omega, HNO.out.kept HS3.out rfl (fun _ => Iff.rfl) (fun _ => Iff.rfl) (by rw [HTK.out]; exact recs_no HNE.out)⟩
                case measure => simp [intOf]; omega
              have e2' : vn = rn := e2.symm
              subst e2'
              clear e2

              have hlo := HJ2.out.lo
              have hhi := HJ2.out.hi
              obtain ⟨o1, ho1⟩ : ∃ o1, (if recsD (d.recs.take k) (vp, vn) = [] then false else origD (d.recs.take k) (vp, vn)) = o1 := ⟨_, rfl⟩
              have HO1 := Lib.hid ho1
              clear ho1
              have HO2 : Hid (origD (d.recs.take (k + 1)) (vp, vn) = (o1 || rh == 4)) := by
                show _ = _
                rw [HTK.out, orig_yes (by rfl), HO1.out]
              go_upto_if 83 with fail
              clear v0 v1 v2 v3 v4 v5 v6 v7 v8 v9 v10 v11 q0 q1 q2 q3 q4 q5
              go_cut [] from 82 to 133 (fun wx => SR Q qb [.string rs, .int .i64 rf, .int .i64 rl, .string vp, .int .i64 vn, .int .i64 rh] o1 (fun g => BefS d (vp, vn) g ∨ RecCar d (vp, vn) (d.recs.take k) g) (fun g => BefC d (vp, vn) g ∨ RecCre d (vp, vn) (d.recs.take k) g) wx)
              case first =>
                by_cases hn0 : nn = 0
                · have hz := HJ2.out.nil.1 hn0
                  have HO1' : Hid (o1 = false) := by
                    show _ = _
                    rw [← HO1.out, if_pos hz]
                  have e1 : (nn + 1 == 1) = true := by rw [hn0]; rfl
                  have e1' : decide (nn + 1 = 1) = true := by rw [hn0]; rfl
                  have hxk : Blk xb 36 [.bool (origD (d.recs.take k) (vp, vn)), .map (some b1), .map (some b2), .map (some b3)] x3 := by have h := HS3.out.st.xk; rw [HQR.out] at h; exact h
                  obtain ⟨y0, -, -, -⟩ := hxk.c4
                  have z0 := hxk.fz 0
                  clear hxk hz hn0
                  go_wp2_with fail
                  go_meet
                  case rel =>
                    have h := HS3.out.orig HOKQ.out false
                    rw [show Q.xb = xb by rw [HQR.out]] at h
                    rw [HO1'.out]
                    exact h
                · have hz := fun h => hn0 (HJ2.out.nil.2 h)
                  have HO1' : Hid (o1 = origD (d.recs.take k) (vp, vn)) := by
                    show _ = _
                    rw [← HO1.out, if_neg hz]
                  have e1 : (nn + 1 == 1) = false := by simp; omega
                  have e1' : decide (nn + 1 = 1) = false := by simp; omega
                  clear hz hn0
                  go_wp2_with fail
                  go_meet
                  case rel =>
                    rw [HO1'.out]
                    exact HS3.out
              case rest =>
                have HS4 := Lib.hid hcut
                clear hcut HS3 HO1
                generalize wc = x4 at *
                obtain ⟨q0, q1, q2, q3, q4, q5⟩ := HS4.out.qk.c6
                go_upto_if 87 with fail
                go_cut [8] from 85 to 133 (fun s8 wx => ∃ nn' : Int, s8 = .int .i64 nn' ∧ (nn' = nn + 1 ∨ nn' = 2) ∧ SR Q qb [.string rs, .int .i64 rf, .int .i64 rl, .string vp, .int .i64 vn, .int .i64 rh] (origD (d.recs.take (k + 1)) (vp, vn)) (fun g => BefS d (vp, vn) g ∨ RecCar d (vp, vn) (d.recs.take k) g) (fun g => BefC d (vp, vn) g ∨ RecCre d (vp, vn) (d.recs.take k) g) wx)
                case first =>
                  by_cases h4 : rh = 4
                  · have e4 : (rh == 4) = true := by simpa using h4
                    have e4' : decide (rh = 4) = true := by simpa using h4
                    have HO3 : Hid (origD (d.recs.take (k + 1)) (vp, vn) = true) := by
                      show _ = _
                      rw [HO2.out, e4, Bool.or_true]
                    have hxk : Blk xb 36 [.bool o1, .map (some b1), .map (some b2), .map (some b3)] x4 := by have h := HS4.out.st.xk; rw [HQR.out] at h; exact h
                    obtain ⟨y0, -, -, -⟩ := hxk.c4
                    have z0 := hxk.fz 0
                    clear hxk h4
                    go_wp2_with fail
                    go_meet
                    case rel =>
                      have h := HS4.out.orig HOKQ.out true
                      rw [show Q.xb = xb by rw [HQR.out]] at h
                      rw [HO3.out]
                      exact ⟨2, rfl, .inr rfl, h⟩
                  · have e4 : (rh == 4) = false := by simpa using h4
                    have e4' : decide (rh = 4) = false := by simpa using h4
                    have HO3 : Hid (origD (d.recs.take (k + 1)) (vp, vn) = o1) := by
                      show _ = _
                      rw [HO2.out, e4, Bool.or_false]
                    clear h4
                    go_wp2_with fail
                    go_meet
                    case rel =>
                      rw [HO3.out]
                      exact ⟨nn + 1, rfl, .inl rfl, HS4.out⟩
                case rest =>
                  obtain ⟨n', rfl, hn', hs⟩ := hcut
                  have HS5 := Lib.hid hs
                  have HN' := Lib.hid hn'
                  clear hs hn' HS4 HO2 q0 q1 q2 q3 q4 q5
                  generalize wc = x5 at *
                  obtain ⟨o2, ho2⟩ : ∃ o2, origD (d.recs.take (k + 1)) (vp, vn) = o2 := ⟨_, rfl⟩
                  rw [ho2] at HS5
                  have HO2E := Lib.hid ho2
                  clear ho2
                  obtain ⟨q0, q1, q2, q3, q4, q5⟩ := HS5.out.qk.c6
                  obtain ⟨hs1, hs2⟩ := HC.out.hist.span _ HMR.out
                  have hsl := HC.out.hist.src _ HMR.out rl hs2 (Int.le_refl _)
                  have hln := (HC.out.mem hsl.1).2
                  have HSRC : Hid (∀ m, rf ≤ m → m ≤ rl → DoneM d i (rs, m)) := fun m h1 h2 => by
                    have h := HC.out.hist.src _ HMR.out m h1 h2
                    refine ⟨h.1, ?_⟩
                    have h3 := h.2
                    dsimp only at h3
                    rw [HMEM.out.2] at h3
                    exact h3
                  dsimp only at hs1 hs2 hln
                  clear hsl
                  go_upto_if 91 with fail

                  obtain ⟨r0, hr0⟩ : ∃ r0 : Rcd, r0 = ⟨rs, rf, rl, vp, vn, rh⟩ := ⟨_, rfl⟩
                  obtain ⟨T1, hT1⟩ : ∃ T : Fil → Prop, T = (fun g => BefS d (vp, vn) g ∨ RecCar d (vp, vn) (d.recs.take k) g) := ⟨_, rfl⟩
                  obtain ⟨T3, hT3⟩ : ∃ T : Fil → Prop, T = (fun g => BefC d (vp, vn) g ∨ RecCre d (vp, vn) (d.recs.take k) g) := ⟨_, rfl⟩
                  rw [← hT1, ← hT3] at HS5
                  have HR0 := Lib.hid hr0
                  have HTT : Hid (T1 = (fun g => BefS d (vp, vn) g ∨ RecCar d (vp, vn) (d.recs.take k) g) ∧ T3 = (fun g => BefC d (vp, vn) g ∨ RecCre d (vp, vn) (d.recs.take k) g)) := ⟨hT1, hT3⟩
                  clear hr0 hT1 hT3
                  have hhow := HC.out.hist.how _ HMR.out
                  dsimp only at hhow
                  go_cut [] from 89 to 133 (fun wx => SR Q qb [.string rs, .int .i64 rf, .int .i64 rl, .string vp, .int .i64 vn, .int .i64 rh] o2 (fun g => T1 g ∨ CarW d r0 rf g) (fun g => T3 g ∨ CreW d r0 rf g) wx)
                  case first =>
                    by_cases h1 : rh = 1
                    · have e1 : (rh == 1) = true := by simpa using h1
                      have e1' : decide (rh = 1) = true := by simpa using h1
                      have HH : Hid (r0.how = 1) := by show _ = _; rw [HR0.out]; exact h1
                      obtain ⟨p1, p2, p3, hl, s1, -, -⟩ := HAI.out.get (HSRC.out rl hs2 (Int.le_refl _)) (HC.out.fok (HSRC.out rl hs2 (Int.le_refl _)).1) Tryd.underlying77
                      dsimp only at hl
                      have HT1 := Lib.hid s1
                      have hb5 : Below wO.heap.size wO x5 := by have h := HS5.out.st.bel; rw [HQR.out] at h; exact h
                      have hxk : Blk xb 36 [.bool o2, .map (some b1), .map (some b2), .map (some b3)] x5 := by have h := HS5.out.st.xk; rw [HQR.out] at h; exact h
                      clear h1 s1 q0 q1 q2 q3 q4 q5
                      go_upto_region 26 with fail
                      have hS : CpS wO xb qb [.bool o2, .map (some b1), .map (some b2), .map (some b3)] [.string rs, .int .i64 rf, .int .i64 rl, .string vp, .int .i64 vn, .int .i64 rh] x5.drew := ⟨hb5.drew, hxk.drew, HS5.out.qk.drew⟩
                      (refine wp_region_mix (S := CpS wO xb qb [.bool o2, .map (some b1), .map (some b2), .map (some b3)] [.string rs, .int .i64 rf, .int .i64 rl, .string vp, .int .i64 vn, .int .i64 rh]) [] [([0, 1, 2, 3, 4, 5, 6, 7, 8], 9), ([], 10)] (by kernel_rfl) (by kernel_rfl) (by intro c a d v w h; cases d <;> exact h) hS ?_; have hN : Nonempty (Held (CpS wO xb qb [.bool o2, .map (some b1), .map (some b2), .map (some b3)] [.string rs, .int .i64 rf, .int .i64 rl, .string vp, .int .i64 vn, .int .i64 rh])) := ⟨⟨_, hS⟩⟩)
                      have HS6 := Lib.hid (HS5.out.below (Below.refl _ _).drew)
                      have HB6 := Lib.hid hb5.drew
                      have y1 : ∀ y : Held (CpS wO xb qb [.bool o2, .map (some b1), .map (some b2), .map (some b3)] [.string rs, .int .i64 rf, .int .i64 rl, .string vp, .int .i64 vn, .int .i64 rh]), y.w.cell? ⟨xb, 1, none⟩ = some (.map (some b1)) := fun y => y.ok.xk.c4.2.1
                      obtain ⟨t0, t1, t2, t3, t4, t5⟩ := fun_and6 (fun y : Held (CpS wO xb qb [.bool o2, .map (some b1), .map (some b2), .map (some b3)] [.string rs, .int .i64 rf, .int .i64 rl, .string vp, .int .i64 vn, .int .i64 rh]) => y.ok.qk.c6)
                      have lk := fun y : Held (CpS wO xb qb [.bool o2, .map (some b1), .map (some b2), .map (some b3)] [.string rs, .int .i64 rf, .int .i64 rl, .string vp, .int .i64 vn, .int .i64 rh]) => hl y.w y.ok.bel
                      clear hl hxk hb5
                      generalize origD d.recs (rs, rl) = po at *
                      (unfold wpMix wpRd; (repeat (first | simp only [List.filterMap_cons] | simp only [List.filterMap_nil] | simp only [List.getElem?_toArray] | simp only [List.getElem?_cons_zero] | simp only [List.getElem?_cons_succ])); (try dsimp only); change wpQuiet _ _ _ _ (_ :: _ :: _ :: _ :: _ :: _ :: _ :: _ :: _ :: []) _; (repeat (go_big_quiet_step (fail))); refine wpQuiet_nil ?_; (try dsimp only))
                      clear y1 t0 t1 t2 t3 t4 t5 lk
                      ((repeat (first | simp only [List.getElem?_toArray] | simp only [List.getElem?_cons_zero] | simp only [List.getElem?_cons_succ])); (try dsimp only))
                      refine wpList_field rfl _ _ _ rfl (.agg #[.bool po, .map (some p1), .map (some p2), .map (some p3)]) (.map (some p1)) rfl (run_field1 _ _ _ _ _) ?_
                      go_wp2_with fail
                      refine ⟨hS, ?_⟩
                      (unfold wpMix wpRd; (repeat (first | simp only [List.filterMap_cons] | simp only [List.filterMap_nil] | simp only [List.getElem?_toArray] | simp only [List.getElem?_cons_zero] | simp only [List.getElem?_cons_succ])); (try dsimp only); change wpQuiet _ _ _ _ ([]) _; (repeat (go_big_quiet_step (fail))); refine wpQuiet_nil ?_; (try dsimp only))
                      ((repeat (first | simp only [List.getElem?_toArray] | simp only [List.getElem?_cons_zero] | simp only [List.getElem?_cons_succ])); (try dsimp only))
                      clear hS
                      generalize x5.drew = x6 at *
                      have hne : p1 ≠ b1 := by have h1 := HT1.out.lt; have h2 := HRB.out; omega
                      have HRA := Lib.hid (radd_any b1 p1 _ _ x6 (by have h := HS6.out.st.s1; rw [HQR.out] at h; exact h) (HT1.out.below HB6.out HT1.out.lt) hne)
                      clear hne
                      go_wp2_with (go_at_call 39; refine HRA.out.mono ?_; rintro e w6 ⟨rfl, h6s, h6k⟩)
                      have HS7 := Lib.hid (HS6.out.a1 HOKQ.out (S := fun g => T1 g ∨ CarW d r0 rf g) (by have h := h6s.congr (S' := fun g => T1 g ∨ CarW d r0 rf g) (fun g => by rw [show CarW d r0 rf g ↔ (tabD d (rs, rl)).car g by rw [show rf = r0.fst by rw [HR0.out], carW_zero, show (r0.src, r0.lst) = (rs, rl) by rw [HR0.out]]; exact ⟨fun h => h.2, fun h => ⟨HH.out, h⟩⟩]); rw [HQR.out]; exact h) (by rw [HQR.out]; exact h6k))
                      clear h6s h6k
                      refine ⟨⟨by have h := HS7.out.st.bel; rw [HQR.out] at h; exact h, by have h := HS7.out.st.xk; rw [HQR.out] at h; exact h, HS7.out.qk⟩, ?_⟩
                      (unfold wpMix wpRd; (repeat (first | simp only [List.filterMap_cons] | simp only [List.filterMap_nil] | simp only [List.getElem?_toArray] | simp only [List.getElem?_cons_zero] | simp only [List.getElem?_cons_succ])); (try dsimp only); change wpQuiet _ _ _ _ ([]) _; (repeat (go_big_quiet_step (fail))); refine wpQuiet_nil ?_; (try dsimp only))
                      go_wp2_with fail
                      go_meet
                      case rel =>
                        have ez : rf = r0.fst := by rw [HR0.out]
                        have k3 : ∀ g, T3 g ↔ T3 g ∨ CreW d r0 rf g := fun g => ⟨.inl, fun h => h.elim id fun h => by
                          rw [ez] at h
                          exact absurd h creW_zero⟩
                        exact HS7.out.s3c k3
                    · have e1 : (rh == 1) = false := by simpa using h1
                      have e1' : decide (rh = 1) = false := by simpa using h1
                      have HH : Hid (r0.how ≠ 1) := by show _ ≠ _; rw [HR0.out]; exact h1
                      clear h1
                      go_wp2_with fail
                      go_meet
                      case rel =>
                        have ez : rf = r0.fst := by rw [HR0.out]
                        have k1 : ∀ g, T1 g ↔ T1 g ∨ CarW d r0 rf g := fun g => ⟨.inl, fun h => h.elim id fun h => by
                          rw [ez] at h
                          exact absurd (carW_zero.1 h).1 HH.out⟩
                        have k3 : ∀ g, T3 g ↔ T3 g ∨ CreW d r0 rf g := fun g => ⟨.inl, fun h => h.elim id fun h => by
                          rw [ez] at h
                          exact absurd h creW_zero⟩
                        exact (HS5.out.s1c k1).s3c k3
                  case rest =>
                    have HS7 := Lib.hid hcut
                    clear hcut HS5 q0 q1 q2 q3 q4 q5
                    generalize wc = x7 at *
                    obtain ⟨q0, q1, q2, q3, q4, q5⟩ := HS7.out.qk.c6
                    go_wp2_with fail
                    clear q0 q1 q2 q3 q4 q5
                    go_loopw [14] (fun s x => ∃ m : Int, s = .int .i64 m ∧ rf ≤ m ∧ m ≤ rl + 1 ∧ SR Q qb [.string rs, .int .i64 rf, .int .i64 rl, .string vp, .int .i64 vn, .int .i64 rh] o2 (fun g => T1 g ∨ CarW d r0 m g) (fun g => T3 g ∨ CreW d r0 m g) x) (fun s _ => (rl + 1 - intOf s).toNat)
                    case atStart => exact ⟨rf, rfl, Int.le_refl _, by omega, HS7.out⟩
                    case round =>
                      obtain ⟨m, rfl, hm1, hm2, hs⟩ := hrel
                      have HS8 := Lib.hid hs
                      clear hs HS7
                      obtain ⟨q0, q1, q2, q3, q4, q5⟩ := HS8.out.qk.c6
                      by_cases hml : m ≤ rl
                      · obtain ⟨p1, p2, p3, hl, -, s2, -⟩ := HAI.out.get (HSRC.out m hm1 hml) (HC.out.fok (HSRC.out m hm1 hml).1) Tryd.underlying77
                        have HT2 := Lib.hid s2
                        have HB8 : Hid (Below wO.heap.size wO wr) := by have h := HS8.out.st.bel; rw [HQR.out] at h; exact h
                        have hlk := hl wr HB8.out
                        dsimp only at hlk
                        have hxk : Blk xb 36 [.bool o2, .map (some b1), .map (some b2), .map (some b3)] wr := by have h := HS8.out.st.xk; rw [HQR.out] at h; exact h
                        obtain ⟨y0, y1, y2, y3⟩ := hxk.c4
                        clear hl s2 hxk
                        generalize origD d.recs (rs, m) = po at *
                        go_upto_region 31 with (refine wpList_field rfl _ _ _ rfl (.agg #[.bool po, .map (some p1), .map (some p2), .map (some p3)]) (.map (some p2)) rfl (run_field2 _ _ _ _ _) ?_)
                        have hcs : rh = 1 ∨ rh = 2 ∨ rh = 3 ∨ rh = 4 := by omega
                        clear hhow
                        rcases hcs with hcase | hcase | hcase | hcase
                        · have hh : rh = 1 := hcase
                          have e2 : (rh == 2) = false := by rw [hh]; rfl
                          have e2' : decide (rh = 2) = false := by rw [hh]; rfl
                          have e4 : (rh == 4) = false := by rw [hh]; rfl
                          have e4' : decide (rh = 4) = false := by rw [hh]; rfl
                          have e3 : (rh == 3) = false := by rw [hh]; rfl
                          have e3' : decide (rh = 3) = false := by rw [hh]; rfl
                          have HH : Hid (r0.how = 1) := by show _ = _; rw [HR0.out]; exact hh
                          clear hh hcase
                          go_wp2_with fail
                          go_roundw
                          case rel => exact ⟨m + 1, by go_num, by omega, by omega, (HS8.out.s1c fun g => or_congr Iff.rfl (carW_same (by rw [HH.out]; decide)).symm).s3c fun g => or_congr Iff.rfl (creW_same (by rw [HH.out]; decide)).symm⟩
                          case measure => simp [intOf]; omega
                        · have hh : rh = 2 := hcase
                          have e2 : (rh == 2) = true := by rw [hh]; rfl
                          have e2' : decide (rh = 2) = true := by rw [hh]; rfl
                          have e4 : (rh == 4) = false := by rw [hh]; rfl
                          have e4' : decide (rh = 4) = false := by rw [hh]; rfl
                          have e3 : (rh == 3) = false := by rw [hh]; rfl
                          have e3' : decide (rh = 3) = false := by rw [hh]; rfl
                          have HH : Hid (r0.how = 2) := by show _ = _; rw [HR0.out]; exact hh
                          clear hh hcase
                          have hne : p2 ≠ b1 := by have h1 := HT2.out.lt; have h2 := HRB.out; omega
                          have HRA := Lib.hid (radd_any b1 p2 _ _ wr (by have h := HS8.out.st.s1; rw [HQR.out] at h; exact h) (HT2.out.below HB8.out HT2.out.lt) hne)
                          clear hne
                          go_wp2_with (go_at_call 39; refine HRA.out.mono ?_; rintro e w6 ⟨rfl, h6s, h6k⟩)
                          have HS9 := Lib.hid (HS8.out.a1 HOKQ.out (S := fun g => T1 g ∨ CarW d r0 (m + 1) g) (by have h := h6s.congr (S' := fun g => T1 g ∨ CarW d r0 (m + 1) g) (fun g => by rw [carW_succ (by rw [HH.out]; decide) (by rw [HR0.out]; exact hm1), show (r0.src, m) = (rs, m) by rw [HR0.out], or_assoc]); rw [HQR.out]; exact h) (by rw [HQR.out]; exact h6k))
                          clear h6s h6k
                          go_roundw
                          case rel => exact ⟨m + 1, by go_num, by omega, by omega, HS9.out.s3c fun g => or_congr Iff.rfl (creW_same (by rw [HH.out]; decide)).symm⟩
                          case measure => simp [intOf]; omega
                        · have hh : rh = 3 := hcase
                          have e2 : (rh == 2) = false := by rw [hh]; rfl
                          have e2' : decide (rh = 2) = false := by rw [hh]; rfl
                          have e4 : (rh == 4) = false := by rw [hh]; rfl
                          have e4' : decide (rh = 4) = false := by rw [hh]; rfl
                          have e3 : (rh == 3) = true := by rw [hh]; rfl
                          have e3' : decide (rh = 3) = true := by rw [hh]; rfl
                          have HH : Hid (r0.how = 3) := by show _ = _; rw [HR0.out]; exact hh
                          clear hh hcase
                          have hne : p2 ≠ b3 := by have h1 := HT2.out.lt; have h2 := HRB.out; omega
                          have HRA := Lib.hid (radd_any b3 p2 _ _ wr (by have h := HS8.out.st.s3; rw [HQR.out] at h; exact h) (HT2.out.below HB8.out HT2.out.lt) hne)
                          clear hne
                          go_wp2_with (go_at_call 39; refine HRA.out.mono ?_; rintro e w6 ⟨rfl, h6s, h6k⟩)
                          have HS9 := Lib.hid (HS8.out.a3 HOKQ.out (S := fun g => T3 g ∨ CreW d r0 (m + 1) g) (by have h := h6s.congr (S' := fun g => T3 g ∨ CreW d r0 (m + 1) g) (fun g => by rw [creW_succ HH.out (by rw [HR0.out]; exact hm1), show (r0.src, m) = (rs, m) by rw [HR0.out], or_assoc]); rw [HQR.out]; exact h) (by rw [HQR.out]; exact h6k))
                          clear h6s h6k
                          go_roundw
                          case rel => exact ⟨m + 1, by go_num, by omega, by omega, HS9.out.s1c fun g => or_congr Iff.rfl (carW_same (by rw [HH.out]; decide)).symm⟩
                          case measure => simp [intOf]; omega
                        · have hh : rh = 4 := hcase
                          have e2 : (rh == 2) = false := by rw [hh]; rfl
                          have e2' : decide (rh = 2) = false := by rw [hh]; rfl
                          have e4 : (rh == 4) = true := by rw [hh]; rfl
                          have e4' : decide (rh = 4) = true := by rw [hh]; rfl
                          have e3 : (rh == 3) = false := by rw [hh]; rfl
                          have e3' : decide (rh = 3) = false := by rw [hh]; rfl
                          have HH : Hid (r0.how = 4) := by show _ = _; rw [HR0.out]; exact hh
                          clear hh hcase
                          have hne : p2 ≠ b1 := by have h1 := HT2.out.lt; have h2 := HRB.out; omega
                          have HRA := Lib.hid (radd_any b1 p2 _ _ wr (by have h := HS8.out.st.s1; rw [HQR.out] at h; exact h) (HT2.out.below HB8.out HT2.out.lt) hne)
                          clear hne
                          go_wp2_with (go_at_call 39; refine HRA.out.mono ?_; rintro e w6 ⟨rfl, h6s, h6k⟩)
                          have HS9 := Lib.hid (HS8.out.a1 HOKQ.out (S := fun g => T1 g ∨ CarW d r0 (m + 1) g) (by have h := h6s.congr (S' := fun g => T1 g ∨ CarW d r0 (m + 1) g) (fun g => by rw [carW_succ (by rw [HH.out]; decide) (by rw [HR0.out]; exact hm1), show (r0.src, m) = (rs, m) by rw [HR0.out], or_assoc]); rw [HQR.out]; exact h) (by rw [HQR.out]; exact h6k))
                          clear h6s h6k
                          go_roundw
                          case rel => exact ⟨m + 1, by go_num, by omega, by omega, HS9.out.s3c fun g => or_congr Iff.rfl (creW_same (by rw [HH.out]; decide)).symm⟩
                          case measure => simp [intOf]; omega
                      · have hme : m = r0.lst + 1 := by rw [HR0.out]; show m = rl + 1; omega
                        have HFI := Lib.hid (RecJ.yes (R := Q) (x := wr) (r := r0) hlo hhi (by rw [HR0.out]; exact HTK.out) (by rw [HR0.out]) HN'.out (by
                          rw [HO2E.out]
                          have h := HS8.out.st
                          rw [HTT.out.1, HTT.out.2, hme] at h
                          exact (h.s1c fun g => or_congr Iff.rfl carW_end).s3c fun g => or_congr Iff.rfl creW_end))
                        clear hme
                        go_wp2_with fail
                        go_roundw
                        case rel => exact ⟨k + 1, n', rfl, by go_num, by omega, HFI.out⟩
                        case measure => simp [intOf]; omega
            · obtain rfl : k = d.recs.length := by omega
              have hfin := HJ2.out.st
              rw [List.take_length] at hfin
              have HS9 := Lib.hid hfin
              clear hfin HJ2
              have hmem : (memD d.revs (vp, vn)).isSome = true := by rw [HMEM.out.1]; rfl
              have HCA := Lib.hid (fun g => car_all' HC.out.hist hmem g)
              have HCE := Lib.hid (fun g => cre_all' HC.out.hist hmem g)
              have HCO := Lib.hid (fun g => tab_con HC.out.hist hmem g)
              clear hmem
              obtain ⟨oo, hoo⟩ : ∃ oo, origD d.recs (vp, vn) = oo := ⟨_, rfl⟩
              have HOO := Lib.hid hoo
              rw [hoo] at HS9 HCA
              clear hoo
              have hxk : Blk xb 36 [.bool oo, .map (some b1), .map (some b2), .map (some b3)] wr := by have h := HS9.out.xk; rw [HQR.out] at h; exact h
              have hfk : Blk fb 55 [.string vp, .int .i64 vn] wr := by have h := HS9.out.fk; rw [HQR.out] at h; exact h
              obtain ⟨y0, y1, y2, y3⟩ := hxk.c4
              obtain ⟨f0, f1⟩ := hfk.c2
              clear hxk hfk
              go_upto_if 135 with fail
              go_cut [] from 134 to 162 (fun wx => St Q oo (tabD d (vp, vn)).car (fun _ => False) (fun g => BefC d (vp, vn) g ∨ RecCre d (vp, vn) d.recs g) wx)
              case first =>
                cases oo
                · go_wp2_with fail
                  go_meet
                  case rel => exact HS9.out.s1c fun g => by rw [← HCA.out g]; simp
                · have hs1 : SetIs b1 (fun g => BefS d (vp, vn) g ∨ RecCar d (vp, vn) d.recs g) wr := by have h := HS9.out.s1; rw [HQR.out] at h; exact h
                  obtain ⟨L', hL', hLS⟩ := hs1
                  have HLS := Lib.hid hLS
                  clear hLS
                  go_wp2_with (at_mapUpdate; refine wpList_kput rfl _ _ _ 34 rfl 4 Tryd.underlying34 b1 _ rfl hL' (vp, vn) rfl HFO.out _ rfl ?_; intro w4 hm4 hg4 hs4)
                  have HS10 := Lib.hid (HS9.out.a1 HOKQ.out (S := (tabD d (vp, vn)).car) (y := w4) (by have h := (SetIs.kput hm4 HLS.out).congr (S' := (tabD d (vp, vn)).car) (fun g => by rw [← HCA.out g]; simp); rw [HQR.out]; exact h) (by rw [HQR.out]; exact .of_grown hg4 fun b e => by injection e with e; exact e.symm))
                  clear hm4 hg4 hs4
                  go_meet
                  case rel => exact HS10.out
              case rest =>
                have HS10 := Lib.hid hcut
                clear hcut HS9 y0 y1 y2 y3 f0 f1
                generalize wc = x10 at *
                have hxk : Blk xb 36 [.bool oo, .map (some b1), .map (some b2), .map (some b3)] x10 := by have h := HS10.out.xk; rw [HQR.out] at h; exact h
                obtain ⟨y0, y1, y2, y3⟩ := hxk.c4
                clear hxk
                have hne : b1 ≠ b3 := by have h := HRB.out; omega
                have HRA := Lib.hid (radd_any b3 b1 _ _ x10 (by have h := HS10.out.s3; rw [HQR.out] at h; exact h) (by have h := HS10.out.s1; rw [HQR.out] at h; exact h) hne)
                clear hne
                go_upto_region 41 with (go_at_call 39; refine HRA.out.mono ?_; rintro e x11 ⟨rfl, h6s, h6k⟩)
                have HS11 := Lib.hid (HS10.out.a3 HOKQ.out (S := (tabD d (vp, vn)).cre) (y := x11) (by have h := h6s.congr (S' := (tabD d (vp, vn)).cre) (fun g => HCE.out g); rw [HQR.out]; exact h) (by rw [HQR.out]; exact h6k))
                clear h6s h6k HRA HS10 y0 y1 y2 y3
                have hxk : Blk xb 36 [.bool oo, .map (some b1), .map (some b2), .map (some b3)] x11 := by have h := HS11.out.xk; rw [HQR.out] at h; exact h
                obtain ⟨y0, y1, y2, y3⟩ := hxk.c4
                have hs1 : SetIs b1 (tabD d (vp, vn)).car x11 := by have h := HS11.out.s1; rw [HQR.out] at h; exact h
                obtain ⟨LC, hLC, hLS⟩ := hs1
                obtain ⟨es, clock, hes, hme⟩ := hLC.open_
                have hcl := hLC.lt
                have hrg := run_range_map (P := Tryd.prog) x11 34 55 4 b1 es clock Tryd.underlying34 hes
                have hb2 : (x11.alloc (.mapIter (some b1) clock #[] clock)).heap[b1]? = some (.map es clock) := (Below.heap_alloc x11 _ b1 hcl).trans hes
                have hr2 : (x11.alloc (.mapIter (some b1) clock #[] clock)).heap[x11.heap.size]? = some (.mapIter (some b1) clock #[] clock) := heap_alloc_new x11 _
                have HRNG := Lib.hid (KR.start (T := filT) hr2 hb2)
                have HS12 := Lib.hid (HS11.out.below ((Below.refl _ _).alloc (Nat.le_refl _) (.mapIter (some b1) clock #[] clock)))
                have HLT := Lib.hid HS11.out.lts
                have HME := Lib.hid hme
                have HLS := Lib.hid hLS
                clear hLC hes hme hb2 hr2 hLS hxk HS11
                go_wp2_with fail
                clear hrg
                generalize World.alloc x11 (.mapIter (some b1) clock #[] clock) = x12 at *
                generalize hmre : x11.heap.size = mr at *
                have hmr : b1 ≠ mr := by omega
                clear hmre y0 y1 y2 y3
                go_loopw [16] (fun _ wr => ∃ V : List Fil, KR filT b1 mr clock es (V.map fun f => (f, Value.bool true)) wr ∧ St Q oo (tabD d (vp, vn)).car (fun g => g ∈ V ∧ ¬ BefS d (vp, vn) g) (tabD d (vp, vn)).cre wr) (fun _ wr => (leftOf es (rgSeen mr wr)).size)
                case atStart => exact ⟨[], HRNG.out, HS12.out.s2c fun g => by simp⟩
                case round =>
                  obtain ⟨V, hrng, hst⟩ := hrel
                  have HM : Hid ((leftOf es (rgSeen mr wr)).size = es.size - V.length) := by
                    have := hrng.left
                    show _ = _
                    simpa using this
                  rcases hrng.step HME.out 0 hmr with ⟨hperm, hnx⟩ | ⟨x, W, hx, hlt2, hnx, hen, hr', ⟨w3, hw3, hg3⟩, hsz⟩
                  · have hVT : ∀ g, g ∈ V ↔ (tabD d (vp, vn)).car g := fun g => by
                      rw [← HLS.out g, (map_perm_inj (fun _ _ e => congrArg Prod.fst e) hperm).mem_iff]
                    have HS13 := Lib.hid (hst.s2c (S := (tabD d (vp, vn)).con) fun g => by rw [hVT g, HCO.out g])
                    clear hperm hst hrng hVT
                    obtain ⟨LA, hkm, hl2, hl3⟩ := HAI.out.below (by have h := HS13.out.bel; rw [HQR.out] at h; exact h : Below wO.heap.size wO wr)
                    have HL2 := Lib.hid hl2
                    have HL3 := Lib.hid hl3
                    have hxk : Blk xb 36 [.bool oo, .map (some b1), .map (some b2), .map (some b3)] wr := by have h := HS13.out.xk; rw [HQR.out] at h; exact h
                    have hfk : Blk fb 55 [.string vp, .int .i64 vn] wr := by have h := HS13.out.fk; rw [HQR.out] at h; exact h
                    obtain ⟨y0, y1, y2, y3⟩ := hxk.c4
                    obtain ⟨f0, f1⟩ := hfk.c2
                    clear hl2 hl3 hxk hfk
                    go_wp2_with (at_mapUpdate; refine wpList_kput rfl _ _ _ 77 rfl 36 Tryd.underlying77 M _ rfl hkm (vp, vn) rfl HFO.out (setsV oo (some b1) (some b2) (some b3)) rfl ?_; intro w9 hm9 hg9 hs9)
                    have hst := HS13.out
                    rw [HQR.out] at hst
                    have hne : b1 ≠ M ∧ b2 ≠ M ∧ b3 ≠ M := by have h := HRB.out; have h2 := HAI.out.lt; omega
                    have hM := HMD.out
                    have HN := Lib.hid (AllI.step (w := wr) (w' := w9) (c1 := b1) (c2 := b2) (c3 := b3) HC.out.hist.uniq HGK.out h5N.out HL2.out HL3.out (by show KM filT M (kput LA (vp, vn) (setsV (origD d.recs (vp, vn)) _ _ _)) w9; rw [HOO.out]; exact hm9) hg9 hne hst.s1 hst.s2 hst.s3)
                    have HND := Lib.hid (hst.dk.of (hg9.block _ hst.dk.lt (fun e => by injection e with e; dsimp only at e; omega)))
                    have HNB := Lib.hid ((HBE.out.trans (hst.bel.mono HBE.out.size)).grown hg9 (Nat.le_trans HBE.out.size hst.bel.size) (fun k e => by injection e with e; omega))
                    clear hst hne hm9 hg9 hs9 hkm y0 y1 y2 y3 f0 f1
                    go_roundw
                    case rel => exact ⟨i + 1, by go_num, by omega, HN.out, HND.out, HNB.out⟩
                    case measure => simp [intOf]; omega
                  · obtain ⟨⟨gp, gn⟩, hf, rfl⟩ := List.mem_map.1 hx
                    dsimp only [filT, fileV] at hnx hen
                    have hok : FOk (gp, gn) := HME.out.oks _ hx
                    have hk3 : Kp (· = mr) wr W := by
                      have h0 : Kp (· = mr) wr w3 := by
                        rcases hw3 with rfl | rfl
                        · exact .refl _ _
                        · exact (Kp.refl _ _).drew
                      exact h0.grown hg3 (fun k e => by injection e with e; exact .inl e.symm)
                    have HSW := Lib.hid ((hst.it hk3 HLT.out).below ((Below.refl _ _).alloc (Nat.le_refl _) (.cells #[.string gp, .int .i64 gn] 55)))
                    have HRW := Lib.hid (hr'.of (Below.heap_alloc W (.cells #[.string gp, .int .i64 gn] 55) _ hr'.ltr) (Below.heap_alloc W (.cells #[.string gp, .int .i64 gn] 55) _ hr'.ltb))
                    have HV : Hid (V.length < es.size) := by
                      show _ < _
                      simpa using hlt2
                    have hbw : Below wO.heap.size wO (W.alloc (.cells #[.string gp, .int .i64 gn] 55)) := by have h := HSW.out.bel; rw [HQR.out] at h; exact h
                    obtain ⟨c, hc, hct⟩ := (HSO.out.below hbw).runR (f := (gp, gn)) hok
                    unfold fileV at hc
                    dsimp only at hc
                    have HCT := Lib.hid hct
                    have hbk : Blk bb 36 [.bool bo, .map ob, .map m2, .map m3] (W.alloc (.cells #[.string gp, .int .i64 gn] 55)) := by have h := HSW.out.bk; rw [HQR.out] at h; exact h
                    have hxk : Blk xb 36 [.bool oo, .map (some b1), .map (some b2), .map (some b3)] (W.alloc (.cells #[.string gp, .int .i64 gn] 55)) := by have h := HSW.out.xk; rw [HQR.out] at h; exact h
                    obtain ⟨e0, e1, e2, e3⟩ := hbk.c4
                    obtain ⟨y0, y1, y2, y3⟩ := hxk.c4
                    clear hrng hst hx hlt2 hr' hw3 hg3 hk3 hbw hbk hxk hct hf hsz
                    cases c
                    · have hs2 : SetIs b2 (fun g => g ∈ V ∧ ¬ BefS d (vp, vn) g) (W.alloc (.cells #[.string gp, .int .i64 gn] 55)) := by have h := HSW.out.s2; rw [HQR.out] at h; exact h
                      obtain ⟨L', hL', hLS'⟩ := hs2
                      have HLS2 := Lib.hid hLS'
                      clear hLS'
                      go_wp2_with (at_mapUpdate; refine wpList_kput rfl _ _ _ 34 rfl 4 Tryd.underlying34 b2 _ rfl hL' (gp, gn) rfl hok _ rfl ?_; intro w4 hm4 hg4 hs4)
                      have h12 : b1 ≠ b2 ∧ b2 ≠ mr := by have h := HRB.out; have h2 := HLT.out.2.2.1; rw [HQR.out] at h2; dsimp only at h2; omega
                      have h4 := Lib.hid (HRW.out.of (hg4.block _ HRW.out.ltr (fun e => by injection e with e; omega)) (hg4.block _ HRW.out.ltb (fun e => by injection e with e; omega)))
                      have HS14 := Lib.hid (HSW.out.a2 HOKQ.out (S := fun g => g ∈ V ++ [(gp, gn)] ∧ ¬ BefS d (vp, vn) g) (y := w4) (by
                        have h := (SetIs.kput hm4 HLS2.out).congr (S' := fun g => g ∈ V ++ [(gp, gn)] ∧ ¬ BefS d (vp, vn) g) (fun g => by
                          have hn : ¬ BefS d (vp, vn) (gp, gn) := fun hb => by have := HCT.out.2 hb; cases this
                          rw [List.mem_append, List.mem_singleton]
                          constructor
                          · rintro (⟨h1, h2⟩ | rfl)
                            · exact ⟨.inl h1, h2⟩
                            · exact ⟨.inr rfl, hn⟩
                          · rintro ⟨h1 | h1, h2⟩
                            · exact .inl ⟨h1, h2⟩
                            · exact .inr h1)
                        rw [HQR.out]
                        exact h) (by rw [HQR.out]; exact .of_grown hg4 fun b e => by injection e with e; exact e.symm))
                      clear hm4 hg4 hs4 h12
                      go_roundw
                      case rel => exact ⟨V ++ [(gp, gn)], by have h := h4.out; simpa using h, HS14.out⟩
                      case measure =>
                        have h5 := h4.out.left
                        have h6 := HV.out
                        rw [HM.out, h5]
                        simp
                        omega
                    · have HS14 := Lib.hid (HSW.out.s2c (S := fun g => g ∈ V ++ [(gp, gn)] ∧ ¬ BefS d (vp, vn) g) (fun g => by
                          have hn : BefS d (vp, vn) (gp, gn) := HCT.out.1 rfl
                          rw [List.mem_append, List.mem_singleton]
                          constructor
                          · rintro ⟨h1, h2⟩
                            exact ⟨.inl h1, h2⟩
                          · rintro ⟨h1 | rfl, h2⟩
                            · exact ⟨h1, h2⟩
                            · exact absurd hn h2))
                      go_wp2_with fail
                      go_roundw
                      case rel => exact ⟨V ++ [(gp, gn)], by have h := HRW.out; simpa using h, HS14.out⟩
                      case measure =>
                        have h5 := HRW.out.left
                        have h6 := HV.out
                        rw [HM.out, h5]
                        simp
                        omega
    · obtain rfl : i = d.revs.length := by omega
      go_wp2_with fail
      go_ret
      exact ⟨M, rfl, HAI.out, HBE.out⟩
theorem zeroSets (w : World) : (zeroValue 36).run Tryd.prog w = .ok (.agg #[.bool false, .map none, .map none, .map none]) w := by kernel_rfl
def OfRet (d : Dep) (f : Fil) (w : World) (e : Ending) (w' : World) : Prop :=
  (memD d.revs f = none ∧ e = .returned (.tuple #[.agg #[.bool false, .map none, .map none, .map none], .bool false]) ∧ Below w.heap.size w w') ∨
  ((memD d.revs f).isSome = true ∧ ∃ b1 b2 b3, e = .returned (.tuple #[.agg #[.bool (origD d.recs f), .map (some b1), .map (some b2), .map (some b3)], .bool true]) ∧
    SetIs b1 (tabD d f).car w' ∧ SetIs b2 (tabD d f).con w' ∧ SetIs b3 (tabD d f).cre w' ∧ Below w.heap.size w w')
theorem AllI.find {d : Dep} {M : Nat} {w : World} (h : AllI d M d.revs.length w) {f : Fil} (hf : FOk f) :
    (memD d.revs f = none ∧ (Instr.lookup 77 (.map (some M)) (.agg #[.string f.1, .int .i64 f.2]) true).run Tryd.prog w = .ok (.tuple #[.agg #[.bool false, .map none, .map none, .map none], .bool false]) w) ∨
    ((memD d.revs f).isSome = true ∧ ∃ b1 b2 b3, (Instr.lookup 77 (.map (some M)) (.agg #[.string f.1, .int .i64 f.2]) true).run Tryd.prog w = .ok (.tuple #[.agg #[.bool (origD d.recs f), .map (some b1), .map (some b2), .map (some b3)], .bool true]) w ∧
      SetIs b1 (tabD d f).car w ∧ SetIs b2 (tabD d f).con w ∧ SetIs b3 (tabD d f).cre w) := by
  obtain ⟨L, h1, h2, h3⟩ := h
  cases hm : memD d.revs f with
  | none =>
    refine .inl ⟨rfl, ?_⟩
    have hn := h2 f fun hd => by
      have := hd.1
      rw [hm] at this
      cases this
    exact h1.run_none Tryd.underlying77 (zeroSets w) (x := f) hf hn true
  | some v =>
    have hms : (memD d.revs f).isSome = true := by rw [hm]; rfl
    obtain ⟨u, hu, _⟩ := rk_at hms
    obtain ⟨b1, b2, b3, e, _, s1, s2, s3⟩ := h3 f ⟨hms, (List.getElem?_eq_some_iff.1 hu).1⟩
    exact .inr ⟨rfl, b1, b2, b3, h1.run_some Tryd.underlying77 (x := f) hf e true, s1, s2, s3⟩
theorem SetIs.put4 {b c : Nat} {S : Fil → Prop} {x : World} (h : SetIs b S x) (hn : b ≠ c) (v0 v1 v2 v3 : Value) : SetIs b S ((((x.setCell ⟨c, 0, none⟩ v0).setCell ⟨c, 1, none⟩ v1).setCell ⟨c, 2, none⟩ v2).setCell ⟨c, 3, none⟩ v3) :=
  h.of_block (by rw [Below.heap_setCell _ _ _ b hn, Below.heap_setCell _ _ _ b hn, Below.heap_setCell _ _ _ b hn, Below.heap_setCell _ _ _ b hn])
theorem ne_box {b c : Nat} {S : Fil → Prop} {T : TypeId} {cs : List Value} {x : World} (h : Blk c T cs x) (hs : SetIs b S x) : b ≠ c := fun e => by
  obtain ⟨es, k, hb⟩ := hs.isMap
  have h2 : x.heap[c]? = some (.cells cs.toArray T) := h
  rw [e, h2] at hb
  cases hb
theorem below_put4 {B b : Nat} {a x : World} (h : Below B a x) (hb : B ≤ b) (u0 u1 u2 u3 : Value) : Below B a ((((x.setCell ⟨b, 0, none⟩ u0).setCell ⟨b, 1, none⟩ u1).setCell ⟨b, 2, none⟩ u2).setCell ⟨b, 3, none⟩ u3) :=
  (((h.setCell (p := ⟨b, 0, none⟩) hb u0).setCell (p := ⟨b, 1, none⟩) hb u1).setCell (p := ⟨b, 2, none⟩) hb u2).setCell (p := ⟨b, 3, none⟩) hb u3
set_option maxRecDepth 100000 in
set_option maxHeartbeats 6400000 in
theorem rof_any (d : Dep) (A B : Option Addr) (ca cb : Nat) (p : ByteArray) (n : Int) (w : World) (hc : CrD d) (hA : revK.In A d.revs w) (hB : rcdK.In B d.recs w) (hv : FOk (p, n)) :
    Calls Tryd.prog 14 #[.agg #[.slice A d.revs.length ca, .slice B d.recs.length cb], .string p, .int .i64 n] w (OfRet d (p, n) w) := by
  have HA := Lib.hid hA
  have HB := Lib.hid hB
  have HC := Lib.hid hc
  have HV := Lib.hid hv
  clear hA hB hc hv
  go_enter Tryd.func14, Tryd.ntmps14
  go_upto_region 1 with fail
  have hb2 : Below w.heap.size w ((w.alloc (.cells [.slice A d.revs.length ca, .slice B d.recs.length cb].toArray 28)).alloc (.cells [.bool false, .map none, .map none, .map none].toArray 36)) := by (repeat (first | (with_reducible exact Below.refl _ _) | (with_reducible assumption) | (with_reducible refine Below.setCell ?_ ?_ _; rotate_left; focus (first | exact Nat.le_refl _ | (dsimp only; omega))) | (with_reducible refine Below.drew ?_) | (with_reducible refine below_drewN ?_ _) | (with_reducible refine Below.alloc ?_ ?_ _; rotate_left; focus (first | exact Nat.le_refl _ | (simp; done) | (simp; omega)))))
  have HD2 := Lib.hid ((Blk.new w 28 [.slice A d.revs.length ca, .slice B d.recs.length cb]).alloc (.cells [.bool false, .map none, .map none, .map none].toArray 36))
  have HR2 := Lib.hid (Blk.new1 w (.cells [.slice A d.revs.length ca, .slice B d.recs.length cb].toArray 28) 36 [.bool false, .map none, .map none, .map none])
  have HB2 := Lib.hid hb2
  have HA2 := Lib.hid (HA.out.below hb2)
  have HQ2 := Lib.hid (HB.out.below hb2)
  clear hb2 HA HB
  generalize World.alloc (World.alloc w _) _ = w2 at *
  obtain ⟨d0, d1⟩ := HD2.out.c2
  have HAL := Lib.hid (rall_any d A B ca cb w2 HC.out HA2.out HQ2.out)
  have ltw : w.heap.size + 1 < w2.heap.size := HR2.out.lt
  clear HA2 HQ2
  go_wp2_with fail
  refine HAL.out.mono ?_
  rintro e w3 ⟨M, rfl, hai, hb3⟩
  have HB3 := Lib.hid (HB2.out.trans (hb3.mono HB2.out.size))
  have HR3 := Lib.hid (HR2.out.below hb3)
  have ltw3 : w.heap.size + 1 < w3.heap.size := HR3.out.lt
  obtain ⟨oo, hoo⟩ : ∃ oo, origD d.recs (p, n) = oo := ⟨_, rfl⟩
  have hfi := hai.find HV.out
  dsimp only at hfi
  rw [hoo] at hfi
  have HOO := Lib.hid hoo
  clear hai hb3 hoo d0 d1 HAL HB2 HR2 HD2 ltw
  rcases hfi with ⟨hm, LK⟩ | ⟨hm, b1, b2, b3, LK, s1, s2, s3⟩
  · have HM := Lib.hid hm
    clear hm
    go_upto_region 2 with fail
    have HX5 := Lib.hid (Blk.new w3 36 [.bool false, .map none, .map none, .map none])
    have HB5 := Lib.hid (HB3.out.alloc HB3.out.size (.cells [.bool false, .map none, .map none, .map none].toArray 36))
    have HR5 := Lib.hid (HR3.out.alloc (.cells [.bool false, .map none, .map none, .map none].toArray 36))
    clear LK
    generalize World.alloc w3 _ = w5 at *
    generalize w3.heap.size = xb at *
    obtain ⟨x0, x1, x2, x3⟩ := HX5.out.c4
    obtain ⟨r0, r1, r2, r3⟩ := HR5.out.c4
    have q0 := HR5.out.fz 0
    have q1 := HR5.out.fz 1
    have q2 := HR5.out.fz 2
    have q3 := HR5.out.fz 3
    go_wp2_with fail
    have HZ := Lib.hid (((((HR5.out.set 0 (.bool false)).set 1 (.map none)).set 2 (.map none)).set 3 (.map none)))
    have HBZ := Lib.hid (below_put4 HB5.out (show w.heap.size ≤ w.heap.size + 1 by omega) (.bool false) (.map none) (.map none) (.map none))
    generalize World.setCell (World.setCell (World.setCell (World.setCell w5 _ _) _ _) _ _) _ _ = w6 at *
    obtain ⟨z0, z1, z2, z3⟩ := HZ.out.c4
    refine bodyPost_ret (v := .tuple #[.agg #[.bool false, .map none, .map none, .map none], .bool false]) (by simp [results, Tryd.results14, go_sem, z0, z1, z2, z3]) rfl ?_
    exact .inl ⟨HM.out, rfl, HBZ.out⟩
  · have HM := Lib.hid hm
    have NE : Hid (b1 ≠ w.heap.size + 1 ∧ b2 ≠ w.heap.size + 1 ∧ b3 ≠ w.heap.size + 1) := ⟨ne_box HR3.out s1, ne_box HR3.out s2, ne_box HR3.out s3⟩
    clear hm
    go_upto_region 2 with fail
    have HX5 := Lib.hid (Blk.new w3 36 [.bool oo, .map (some b1), .map (some b2), .map (some b3)])
    have HB5 := Lib.hid (HB3.out.alloc HB3.out.size (.cells [.bool oo, .map (some b1), .map (some b2), .map (some b3)].toArray 36))
    have HR5 := Lib.hid (HR3.out.alloc (.cells [.bool oo, .map (some b1), .map (some b2), .map (some b3)].toArray 36))
    have HT1 := Lib.hid (s1.below ((Below.refl _ _).alloc (Nat.le_refl _) (.cells [.bool oo, .map (some b1), .map (some b2), .map (some b3)].toArray 36)) s1.lt)
    have HT2 := Lib.hid (s2.below ((Below.refl _ _).alloc (Nat.le_refl _) (.cells [.bool oo, .map (some b1), .map (some b2), .map (some b3)].toArray 36)) s2.lt)
    have HT3 := Lib.hid (s3.below ((Below.refl _ _).alloc (Nat.le_refl _) (.cells [.bool oo, .map (some b1), .map (some b2), .map (some b3)].toArray 36)) s3.lt)
    clear LK
    generalize World.alloc w3 _ = w5 at *
    generalize w3.heap.size = xb at *
    obtain ⟨x0, x1, x2, x3⟩ := HX5.out.c4
    obtain ⟨r0, r1, r2, r3⟩ := HR5.out.c4
    have q0 := HR5.out.fz 0
    have q1 := HR5.out.fz 1
    have q2 := HR5.out.fz 2
    have q3 := HR5.out.fz 3
    go_wp2_with fail
    have HZ := Lib.hid (((((HR5.out.set 0 (.bool oo)).set 1 (.map (some b1))).set 2 (.map (some b2))).set 3 (.map (some b3))))
    have HBZ := Lib.hid (below_put4 HB5.out (show w.heap.size ≤ w.heap.size + 1 by omega) (.bool oo) (.map (some b1)) (.map (some b2)) (.map (some b3)))
    have HU1 := Lib.hid (HT1.out.put4 (c := w.heap.size + 1) NE.out.1 (.bool oo) (.map (some b1)) (.map (some b2)) (.map (some b3)))
    have HU2 := Lib.hid (HT2.out.put4 (c := w.heap.size + 1) NE.out.2.1 (.bool oo) (.map (some b1)) (.map (some b2)) (.map (some b3)))
    have HU3 := Lib.hid (HT3.out.put4 (c := w.heap.size + 1) NE.out.2.2 (.bool oo) (.map (some b1)) (.map (some b2)) (.map (some b3)))
    generalize World.setCell (World.setCell (World.setCell (World.setCell w5 _ _) _ _) _ _) _ _ = w6 at *
    obtain ⟨z0, z1, z2, z3⟩ := HZ.out.c4
    refine bodyPost_ret (v := .tuple #[.agg #[.bool oo, .map (some b1), .map (some b2), .map (some b3)], .bool true]) (by simp [results, Tryd.results14, go_sem, z0, z1, z2, z3]) rfl ?_
    exact .inr ⟨HM.out, b1, b2, b3, by rw [HOO.out], HU1.out, HU2.out, HU3.out, HBZ.out⟩
end Go.Proofs.YthonhikkoabhlaaDoor
