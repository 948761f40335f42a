/-
  The ledger in memory; the walk of newLedger.
-/
import Derived.Test.YthonhikkoabhlaaGreatDoorCrM
import Derived.Test.YthonhikkoabhlaaGreatDoorDpA
import Derived.Maps.AppendAt
import Derived.Test.YthonhikkoabhlaaGreatDoorMixF
namespace Go.Proofs.YthonhikkoabhlaaGreatDoor
open Go.RowKit

def strT : KeyT Tryz.prog 9 ByteArray where
  val := .string
  ok s := s.size ≤ 4294967281
  inj h := by injection h
  lit {x} h := ⟨_, Go.WideMaps.keyOf_string_mk Tryz.underlying9 (Nat.le_trans h (by unfold maxLen; omega))⟩
  law := Maps.string_keyed Tryz.underlying9
def intK : RowK Int := ⟨fun n => [.int .i64 n], 1, by decide, fun _ => rfl, fun x u hu => by
  simp only [List.mem_cons, List.not_mem_nil, or_false] at hu
  rw [hu]; rfl⟩
def numsD (d : List Rev) (p : ByteArray) : List Int := (d.filter fun v => v.act != 5 && v.path == p).map (·.num)

/-- Rows of one's own, one for each key, no two in one block. -/
structure GrpO {κ α : Type} [BEq κ] (base : Nat) (e : TypeId) (R : RowK α) (G : κ → List α) (L : List (κ × Value)) (w : World) : Prop where
  own : ∀ x v, kget L x = some v → w.ownsRow base e R.n v (G x).length (R.flat (G x))
  no : ∀ x, kget L x = none → G x = []
  apart : ∀ x y v u, kget L x = some v → kget L y = some u → (x == y) = false → ∀ g, v.ownBlock = some g → u.ownBlock ≠ some g
section
variable {κ α : Type} [BEq κ] [LawfulBEq κ] {base : Nat} {e : TypeId} {R : RowK α} {G : κ → List α} {L : List (κ × Value)} {w w1 w2 : World}
omit [LawfulBEq κ] in
theorem GrpO.kept {row : Option Nat} (h : GrpO base e R G L w) (hg : w.grownBy w1 row) (hr : ∀ j, row = some j → j < base) : GrpO base e R G L w1 :=
  ⟨fun x v hx => (h.own x v hx).kept hg (by
    cases hb : v.ownBlock with
    | none => exact .inl rfl
    | some g => exact .inr fun e1 => absurd (hr g e1.symm) (Nat.not_lt.2 ((h.own x v hx).lt g hb).1)), h.no, h.apart⟩
omit [LawfulBEq κ] in
theorem GrpO.at (h : GrpO base e R G L w) (x : κ) : w.ownsRow base e R.n ((kget L x).getD (.slice none 0 0)) (G x).length (R.flat (G x)) := by
  cases hx : kget L x with
  | none =>
    rw [h.no x hx]
    exact World.ownsRow_nil _ _ _ _
  | some v => exact h.own x v hx
theorem GrpO.back (h : GrpO base e R G L w) {x : κ} {a : α} {v' : Value} (hg : w.grownBy w1 ((kget L x).getD (.slice none 0 0)).ownBlock) (ho : w1.ownsRow base e R.n v' (G x ++ [a]).length (R.flat (G x ++ [a])))
    (hat : v'.ownBlock = ((kget L x).getD (.slice none 0 0)).ownBlock ∨ v'.ownBlock = some w.heap.size) : GrpO base e R (fun y => if (y == x) = true then G x ++ [a] else G y) (kput L x v') w1 := by
  have far : ∀ y u, kget L y = some u → (y == x) = false → ∀ g, u.ownBlock = some g → v'.ownBlock ≠ some g := fun y u hy hne g hu hv => by
    rcases hat with h1 | h1
    · cases hx : kget L x with
      | none =>
        rw [hx] at h1
        rw [h1] at hv
        cases hv
      | some v =>
        rw [hx] at h1
        exact h.apart y x u v hy hx hne g hu (h1.symm.trans hv)
    · rw [h1] at hv
      injection hv with hv
      have := ((h.own y u hy).lt g hu).2
      omega
  refine ⟨fun y u hy => ?_, fun y hy => ?_, fun y z u v hy hz hne g hu hv => ?_⟩
  · rw [kget_put] at hy
    cases hb : (y == x)
    · rw [hb, if_neg (by decide)] at hy
      simp only [Bool.false_eq_true, if_false]
      refine (h.own y u hy).kept hg ?_
      cases hub : u.ownBlock with
      | none => exact .inl rfl
      | some g =>
        refine .inr fun e1 => ?_
        cases hx : kget L x with
        | none =>
          rw [hx] at e1
          cases e1
        | some v =>
          rw [hx] at e1
          exact h.apart y x u v hy hx hb g hub e1.symm
    · rw [hb, if_pos rfl] at hy
      injection hy with hy
      subst hy
      simp only [if_true]
      exact ho
  · rw [kget_put] at hy
    cases hb : (y == x)
    · rw [hb, if_neg (by decide)] at hy
      simp only [Bool.false_eq_true, if_false]
      exact h.no y hy
    · rw [hb, if_pos rfl] at hy
      cases hy
  · rw [kget_put] at hy hz
    cases hb : (y == x)
    · rw [hb, if_neg (by decide)] at hy
      cases hc : (z == x)
      · rw [hc, if_neg (by decide)] at hz
        exact h.apart y z u v hy hz hne g hu hv
      · rw [hc, if_pos rfl] at hz
        injection hz with hz
        subst hz
        exact far y u hy hb g hu hv
    · rw [hb, if_pos rfl] at hy
      injection hy with hy
      subst hy
      cases hc : (z == x)
      · rw [hc, if_neg (by decide)] at hz
        exact far z v hz hc g hv hu
      · have e1 := eq_of_beq hb
        have e2 := eq_of_beq hc
        rw [e1, e2, beq_self_eq_true] at hne
        cases hne
omit [LawfulBEq κ] in
theorem GrpO.congr {G' : κ → List α} (h : GrpO base e R G L w) (hG : ∀ x, G x = G' x) : GrpO base e R G' L w := by
  have : G = G' := funext hG
  rw [← this]
  exact h
end

/-- A list of structs in memory that is new enough. -/
def Far {α : Type} (R : RowK α) (lo : Nat) (A : Option Addr) (l : List α) (w : World) : Prop := 0 < l.length → ∃ b, A = some ⟨b, 0, none⟩ ∧ lo ≤ b ∧ b < w.heap.size ∧ R.At b 0 l w
theorem Far.in_ {α : Type} {R : RowK α} {lo : Nat} {A : Option Addr} {l : List α} {w : World} (h : Far R lo A l w) : R.In A l w := fun hl => by
  obtain ⟨b, e, _, h1, h2⟩ := h hl
  exact ⟨b, 0, e, h1, h2⟩
theorem Far.kp {α : Type} {R : RowK α} {lo : Nat} {A : Option Addr} {l : List α} {w w' : World} {S : Nat → Prop} (h : Far R lo A l w) (hk : Kp S w w') (hS : ∀ b, lo ≤ b → ¬ S b) : Far R lo A l w' := fun hl => by
  obtain ⟨b, e, h0, h1, h2⟩ := h hl
  exact ⟨b, e, h0, Nat.lt_of_lt_of_le h1 hk.size, h2.of_block (hk.block b h1 (hS b h0))⟩
theorem Far.of_row {α : Type} {R : RowK α} {base : Nat} {e : TypeId} {v : Value} {l : List α} {w : World} (h : w.ownsRow base e R.n v l.length (R.flat l)) : ∃ A c, v = .slice A l.length c ∧ Far R base A l w := by
  obtain ⟨A, c, rfl⟩ := ownsRow_slice h
  refine ⟨A, c, rfl, fun hl => ?_⟩
  obtain ⟨b, off, e1, h1, h2⟩ := RowK.In.of_row h hl
  rcases h.2 with ⟨h3, h4⟩ | ⟨g, cp, cs, h3, hbg, _⟩
  · injection h3 with h3
    rw [h3] at e1
    cases e1
  · injection h3 with h3
    rw [h3] at e1
    injection e1 with e1
    injection e1 with e1 e2
    subst e1 e2
    exact ⟨g, h3, hbg, h1, h2⟩

def ledC (s : Nat) : List Value := [.map (some s), .map (some (s + 1)), .map (some (s + 2)), .map (some (s + 3)), .map (some (s + 4)), .map (some (s + 5))]
/-- The ledger of a depot: what does not change. -/
structure Led (d : Dep) (s : Nat) (w : World) : Prop where
  blk : Blk (s + 6) 75 (ledC s) w
  mem : ∃ L, KM filT s L w ∧ ∀ f, kget L f = (memD d.revs f).map Rev.val
  num : ∃ L, KM strT (s + 1) L w ∧ ∀ p, ∃ A c, (kget L p).getD (.slice none 0 0) = .slice A (numsD d.revs p).length c ∧ Far intK (s + 7) A (numsD d.revs p) w
  rcs : ∃ L, KM filT (s + 2) L w ∧ ∀ f, ∃ A c, (kget L f).getD (.slice none 0 0) = .slice A (recsD d.recs f).length c ∧ Far rcdK (s + 7) A (recsD d.recs f) w
/-- The blocks of the three maps of sets. -/
def MS (s : Nat) (b : Nat) : Prop := s + 3 ≤ b ∧ b ≤ s + 5
theorem Blk.kp {b : Nat} {T : TypeId} {cs : List Value} {S : Nat → Prop} {w w' : World} (h : Blk b T cs w) (hk : Kp S w w') (hb : ¬ S b) : Blk b T cs w' := (hk.block b h.lt hb).trans h
theorem KM.kp {P : Program} {k : TypeId} {κ : Type} {T : KeyT P k κ} {b : Nat} {L : List (κ × Value)} {S : Nat → Prop} {w w' : World} (h : KM T b L w) (hk : Kp S w w') (hb : ¬ S b) : KM T b L w' := h.of_block (hk.block b h.lt hb)
theorem Led.kp {d : Dep} {s : Nat} {w w' : World} (h : Led d s w) (hk : Kp (MS s) w w') : Led d s w' := by
  have far : ∀ b, s + 7 ≤ b → ¬ MS s b := fun b hb h => by have := h.2; omega
  obtain ⟨L1, a1, b1⟩ := h.mem
  obtain ⟨L2, a2, b2⟩ := h.num
  obtain ⟨L3, a3, b3⟩ := h.rcs
  refine ⟨h.blk.kp hk fun h => by have := h.2; omega, ⟨L1, a1.kp hk fun h => by have := h.1; omega, b1⟩, ⟨L2, a2.kp hk fun h => by have := h.1; omega, fun p => ?_⟩, ⟨L3, a3.kp hk fun h => by have := h.1; omega, fun p => ?_⟩⟩
  · obtain ⟨A, c, e, hf⟩ := b2 p
    exact ⟨A, c, e, hf.kp hk far⟩
  · obtain ⟨A, c, e, hf⟩ := b3 p
    exact ⟨A, c, e, hf.kp hk far⟩
/-- A map of sets: N holds of those that are begun, X of blocks that callers write. -/
def MemS (s : Nat) (T : Fil → Fil → Prop) (N : Fil → Prop) (X : Nat → Prop) (L : List (Fil × Value)) (w : World) : Prop :=
  ∀ f v, kget L f = some v → (N f ∧ v = .map none) ∨ (¬ N f ∧ ∃ b, v = .map (some b) ∧ s + 7 ≤ b ∧ ¬ X b ∧ SetIs b (T f) w)
section
variable {s : Nat} {T : Fil → Fil → Prop} {N : Fil → Prop} {X Y : Nat → Prop} {L : List (Fil × Value)} {w w' : World}
theorem MemS.keep {Z : Nat → Prop} (h : MemS s T N X L w) (hk : Kp Z w w') (hZ : ∀ b, Z b → X b ∨ b < s + 7) : MemS s T N X L w' := fun f v hv => (h f v hv).imp id fun ⟨hn, b, e, h1, hx, h2⟩ =>
  ⟨hn, b, e, h1, hx, h2.kp hk fun hz => (hZ b hz).elim hx fun h => by omega⟩
theorem MemS.use (h : MemS s T N X L w) (hY : ∀ b, b < w.heap.size → Y b → X b) : MemS s T N Y L w := fun f v hv => (h f v hv).imp id fun ⟨hn, b, e, h1, hx, h2⟩ =>
  ⟨hn, b, e, h1, fun hy => hx (hY b h2.lt hy), h2⟩
theorem MemS.begin {v : Fil} (h : MemS s T N X L w) : MemS s T (fun f => N f ∨ f = v) X (kput L v (.map none)) w := fun f u hu => by
  rw [kget_put] at hu
  cases hb : (f == v)
  · rw [hb, if_neg (by decide)] at hu
    have hne : f ≠ v := fun e => by rw [e, beq_self_eq_true] at hb; cases hb
    exact (h f u hu).imp (fun h => ⟨.inl h.1, h.2⟩) fun h => ⟨fun h' => h'.elim h.1 hne, h.2⟩
  · rw [hb, if_pos rfl] at hu
    injection hu with hu
    exact .inl ⟨.inr (eq_of_beq hb), hu.symm⟩
theorem MemS.finish {v : Fil} {r : Nat} (h : MemS s T (fun f => N f ∨ f = v) X L w) (hN : ¬ N v) (hr : SetIs r (T v) w) (h7 : s + 7 ≤ r) (hX : ¬ X r) : MemS s T N X (kput L v (.map (some r))) w := fun f u hu => by
  rw [kget_put] at hu
  cases hb : (f == v)
  · rw [hb, if_neg (by decide)] at hu
    have hne : f ≠ v := fun e => by rw [e, beq_self_eq_true] at hb; cases hb
    exact (h f u hu).imp (fun h => ⟨h.1.resolve_right hne, h.2⟩) fun h => ⟨fun h' => h.1 (.inl h'), h.2⟩
  · rw [hb, if_pos rfl] at hu
    injection hu with hu
    have := eq_of_beq hb
    subst this
    exact .inr ⟨hN, r, hu.symm, h7, hX, hr⟩
theorem MemS.add {v : Fil} {r : Nat} (h : MemS s T N X L w) (hN : ¬ N v) (hr : SetIs r (T v) w) (h7 : s + 7 ≤ r) (hX : ¬ X r) : MemS s T N X (kput L v (.map (some r))) w := fun f u hu => by
  rw [kget_put] at hu
  cases hb : (f == v)
  · rw [hb, if_neg (by decide)] at hu
    exact h f u hu
  · rw [hb, if_pos rfl] at hu
    injection hu with hu
    have := eq_of_beq hb
    subst this
    exact .inr ⟨hN, r, hu.symm, h7, hX, hr⟩
end
/-- What has been computed. -/
structure Memo (d : Dep) (s : Nat) (Nc Ne : Fil → Prop) (X : Nat → Prop) (w : World) : Prop where
  car : ∃ L, KM filT (s + 3) L w ∧ MemS s (fun f => (tabD d f).car) Nc X L w
  cre : ∃ L, KM filT (s + 4) L w ∧ MemS s (fun f => (tabD d f).cre) Ne X L w
  con : ∃ L, KM filT (s + 5) L w ∧ MemS s (fun f => (tabD d f).con) (fun _ => False) X L w
section
variable {d : Dep} {s : Nat} {Nc Ne : Fil → Prop} {X Y T : Nat → Prop} {w w' : World}
theorem Memo.keep (h : Memo d s Nc Ne X w) (hk : Kp T w w') (hT : ∀ b, T b → X b ∧ s + 7 ≤ b) : Memo d s Nc Ne X w' := by
  obtain ⟨L1, a1, b1⟩ := h.car
  obtain ⟨L2, a2, b2⟩ := h.cre
  obtain ⟨L3, a3, b3⟩ := h.con
  have lo : ∀ b, b < s + 7 → ¬ T b := fun b hb ht => by have := (hT b ht).2; omega
  have no : ∀ b, T b → X b ∨ b < s + 7 := fun b ht => .inl (hT b ht).1
  exact ⟨⟨L1, a1.kp hk (lo _ (by omega)), b1.keep hk no⟩, ⟨L2, a2.kp hk (lo _ (by omega)), b2.keep hk no⟩, ⟨L3, a3.kp hk (lo _ (by omega)), b3.keep hk no⟩⟩
theorem Memo.below (h : Memo d s Nc Ne X w) (hb : Below w.heap.size w w') : Memo d s Nc Ne X w' := h.keep (T := fun _ => False) (.of_below hb (Nat.le_refl _)) (fun _ h => h.elim)
/-- Another X, of blocks that are not there yet. -/
theorem Memo.use (h : Memo d s Nc Ne X w) (hY : ∀ b, b < w.heap.size → Y b → X b) : Memo d s Nc Ne Y w := by
  obtain ⟨L1, a1, b1⟩ := h.car
  obtain ⟨L2, a2, b2⟩ := h.cre
  obtain ⟨L3, a3, b3⟩ := h.con
  exact ⟨⟨L1, a1, b1.use hY⟩, ⟨L2, a2, b2.use hY⟩, ⟨L3, a3, b3.use hY⟩⟩
theorem Memo.carried {Nc' : Fil → Prop} {L : List (Fil × Value)} (h : Memo d s Nc Ne X w) (hg : w.grownBy w' (some (s + 3))) (hm : KM filT (s + 3) L w') (hs : MemS s (fun f => (tabD d f).car) Nc' X L w) : Memo d s Nc' Ne X w' := by
  obtain ⟨L2, a2, b2⟩ := h.cre
  obtain ⟨L3, a3, b3⟩ := h.con
  have hk : Kp (· = s + 3) w w' := .of_grown hg fun b e => by injection e with e; exact e.symm
  exact ⟨⟨L, hm, hs.keep hk fun b hb => .inr (by omega)⟩, ⟨L2, a2.kp hk (by omega), b2.keep hk fun b hb => .inr (by omega)⟩, ⟨L3, a3.kp hk (by omega), b3.keep hk fun b hb => .inr (by omega)⟩⟩
theorem Memo.credited {Ne' : Fil → Prop} {L : List (Fil × Value)} (h : Memo d s Nc Ne X w) (hg : w.grownBy w' (some (s + 4))) (hm : KM filT (s + 4) L w') (hs : MemS s (fun f => (tabD d f).cre) Ne' X L w) : Memo d s Nc Ne' X w' := by
  obtain ⟨L2, a2, b2⟩ := h.car
  obtain ⟨L3, a3, b3⟩ := h.con
  have hk : Kp (· = s + 4) w w' := .of_grown hg fun b e => by injection e with e; exact e.symm
  exact ⟨⟨L2, a2.kp hk (by omega), b2.keep hk fun b hb => .inr (by omega)⟩, ⟨L, hm, hs.keep hk fun b hb => .inr (by omega)⟩, ⟨L3, a3.kp hk (by omega), b3.keep hk fun b hb => .inr (by omega)⟩⟩
theorem Memo.contrib {L : List (Fil × Value)} (h : Memo d s Nc Ne X w) (hg : w.grownBy w' (some (s + 5))) (hm : KM filT (s + 5) L w') (hs : MemS s (fun f => (tabD d f).con) (fun _ => False) X L w) : Memo d s Nc Ne X w' := by
  obtain ⟨L2, a2, b2⟩ := h.car
  obtain ⟨L3, a3, b3⟩ := h.cre
  have hk : Kp (· = s + 5) w w' := .of_grown hg fun b e => by injection e with e; exact e.symm
  exact ⟨⟨L2, a2.kp hk (by omega), b2.keep hk fun b hb => .inr (by omega)⟩, ⟨L3, a3.kp hk (by omega), b3.keep hk fun b hb => .inr (by omega)⟩, ⟨L, hm, hs.keep hk fun b hb => .inr (by omega)⟩⟩
end

theorem Tryz.infoInt : (Tryz.prog.info? 3).map (fun i => (i.zero, i.size, i.bytes)) = some (some (.int .i64 0), 1, 8) := by kernel_rfl

theorem zeroInts (w : World) : (zeroValue 90).run Tryz.prog w = .ok (.slice none 0 0) w := by kernel_rfl
theorem zeroRecs (w : World) : (zeroValue 26).run Tryz.prog w = .ok (.slice none 0 0) w := by kernel_rfl
theorem zeroSet (w : World) : (zeroValue 80).run Tryz.prog w = .ok (.map none) w := by kernel_rfl
theorem zeroBool (w : World) : (zeroValue 4).run Tryz.prog w = .ok (.bool false) w := by kernel_rfl
theorem zeroRevV (w : World) : (zeroValue 43).run Tryz.prog w = .ok zeroRev.val w := by kernel_rfl
theorem nums_len (V : List Rev) (p : ByteArray) : (numsD V p).length ≤ V.length := by
  unfold numsD
  rw [List.length_map]
  exact List.length_filter_le _ _
/-- The six maps and the ledger, all new. -/
theorem ledger_new (w : World) (s : Nat) (hws : w.heap.size = s) : ∃ w8, w8 = ((((((w.alloc (.map #[] 0)).alloc (.map #[] 0)).alloc (.map #[] 0)).alloc (.map #[] 0)).alloc (.map #[] 0)).alloc (.map #[] 0)).alloc (.cells (ledC s).toArray 75) ∧
    Blk (s + 6) 75 (ledC s) w8 ∧ KM filT s [] w8 ∧ KM strT (s + 1) [] w8 ∧ KM filT (s + 2) [] w8 ∧ KM filT (s + 3) [] w8 ∧ KM filT (s + 4) [] w8 ∧ KM filT (s + 5) [] w8 ∧ w8.heap.size = s + 7 ∧ Below s w w8 := by
  subst hws
  refine ⟨_, rfl, ?_⟩
  have hs : ∀ (x : World) (o : Obj), (x.alloc o).heap.size = x.heap.size + 1 := fun x o => by simp
  have m0 := KM.new w filT
  have m1 := KM.new (w.alloc (.map #[] 0)) strT
  have m2 := KM.new ((w.alloc (.map #[] 0)).alloc (.map #[] 0)) filT
  have m3 := KM.new (((w.alloc (.map #[] 0)).alloc (.map #[] 0)).alloc (.map #[] 0)) filT
  have m4 := KM.new ((((w.alloc (.map #[] 0)).alloc (.map #[] 0)).alloc (.map #[] 0)).alloc (.map #[] 0)) filT
  have m5 := KM.new (((((w.alloc (.map #[] 0)).alloc (.map #[] 0)).alloc (.map #[] 0)).alloc (.map #[] 0)).alloc (.map #[] 0)) filT
  have b6 := Blk.new ((((((w.alloc (.map #[] 0)).alloc (.map #[] 0)).alloc (.map #[] 0)).alloc (.map #[] 0)).alloc (.map #[] 0)).alloc (.map #[] 0)) 75 (ledC w.heap.size)
  simp only [hs] at m1 m2 m3 m4 m5 b6
  refine ⟨b6, ((((((m0.alloc _).alloc _).alloc _).alloc _).alloc _).alloc _), (((((m1.alloc _).alloc _).alloc _).alloc _).alloc _), ((((m2.alloc _).alloc _).alloc _).alloc _), (((m3.alloc _).alloc _).alloc _), ((m4.alloc _).alloc _), m5.alloc _, by simp only [hs], ?_⟩
  refine Below.alloc ?_ (by simp only [hs]; omega) _
  refine Below.alloc ?_ (by simp only [hs]; omega) _
  refine Below.alloc ?_ (by simp only [hs]; omega) _
  refine Below.alloc ?_ (by simp only [hs]; omega) _
  refine Below.alloc ?_ (by simp only [hs]; omega) _
  refine Below.alloc ?_ (by simp only [hs]; omega) _
  exact Below.alloc (Below.refl _ _) (Nat.le_refl _) _

theorem memD_snoc (V : List Rev) (v : Rev) (f : Fil) : memD (V ++ [v]) f = (memD V f).or (if isM f v = true then some v else none) := by
  unfold memD
  rw [List.find?_append]
  congr 1
  cases hb : isM f v <;> simp [hb]
theorem numsD_snoc (V : List Rev) (v : Rev) (p : ByteArray) : numsD (V ++ [v]) p = numsD V p ++ (if (v.act != 5 && v.path == p) = true then [v.num] else []) := by
  unfold numsD
  rw [List.filter_append, List.map_append]
  congr 1
  cases hb : (v.act != 5 && v.path == p) <;> simp [hb]
theorem recsD_snoc (U : List Rcd) (r : Rcd) (f : Fil) : recsD (U ++ [r]) f = recsD U f ++ (if ((r.dst, r.num) == f) = true then [r] else []) := by
  unfold recsD
  rw [List.filter_append]
  congr 1
  cases hb : ((r.dst, r.num) == f) <;> simp [hb]
/-- newLedger under way: V lies among the members, V' among the numbers. -/
structure NL (x0 : World) (s : Nat) (V V' : List Rev) (LM : List (Fil × Value)) (LN : List (ByteArray × Value)) (x : World) : Prop where
  kp : Kp (fun b => b = s ∨ b = s + 1) x0 x
  mem : KM filT s LM x
  memG : ∀ f, kget LM f = (memD V f).map Rev.val
  num : KM strT (s + 1) LN x
  numG : GrpO (s + 7) 3 intK (numsD V') LN x
section
variable {x0 : World} {s : Nat} {V V' : List Rev} {LM : List (Fil × Value)} {LN : List (ByteArray × Value)} {x y z : World}
theorem NL.alloc (h : NL x0 s V V' LM LN x) (o : Obj) : NL x0 s V V' LM LN (x.alloc o) :=
  ⟨h.kp.alloc o, h.mem.alloc o, h.memG, h.num.alloc o, h.numG.kept (World.grownBy_alloc x o none) (fun j e => (by cases e))⟩
theorem NL.drew (h : NL x0 s V V' LM LN x) : NL x0 s V V' LM LN x.drew := ⟨h.kp.drew, h.mem, h.memG, h.num, ⟨h.numG.own, h.numG.no, h.numG.apart⟩⟩
theorem NL.gone (h : NL x0 s V V LM LN x) {v : Rev} (h5 : v.act = 5) : NL x0 s (V ++ [v]) (V ++ [v]) LM LN x :=
  ⟨h.kp, h.mem, fun f => by
    have h1 : isM f v = false := by unfold isM; rw [h5]; rfl
    rw [h.memG f, memD_snoc, h1]
    simp, h.num, h.numG.congr fun p => by
    have h1 : (v.act != 5 && v.path == p) = false := by rw [h5]; rfl
    rw [numsD_snoc, h1]
    simp⟩
theorem NL.member (h : NL x0 s V V' LM LN x) {v : Rev} (h5 : v.act ≠ 5) (hno : memD V v.fil = none) (hm : KM filT s (kput LM v.fil v.val) y) (hg : x.grownBy y (some s)) :
    NL x0 s (V ++ [v]) V' (kput LM v.fil v.val) LN y :=
  ⟨h.kp.grown hg (fun b e => by injection e with e; exact .inl (.inl e.symm)), hm, fun f => by
    rw [kget_put, memD_snoc]
    cases hb : (f == v.fil)
    · have h1 : isM f v = false := by
        cases h2 : isM f v
        · rfl
        · have := (isM_iff.1 h2).2
          rw [this, beq_self_eq_true] at hb
          cases hb
      rw [h1, h.memG f]
      simp
    · have := eq_of_beq hb
      subst this
      have h1 : isM v.fil v = true := isM_iff.2 ⟨h5, rfl⟩
      rw [hno, h1]
      rfl, h.num.grown hg (fun e => by injection e; omega), h.numG.kept hg (fun j e => by injection e; omega)⟩
theorem NL.number (h : NL x0 s V V' LM LN x) {v : Rev} {u : Value} (h5 : v.act ≠ 5) (hg : x.grownBy y ((kget LN v.path).getD (.slice none 0 0)).ownBlock) (ho : y.ownsRow (s + 7) 3 1 u ((numsD V' v.path).length + 1) (intK.flat (numsD V' v.path) ++ [.int .i64 v.num]))
    (hat : u.ownBlock = ((kget LN v.path).getD (.slice none 0 0)).ownBlock ∨ u.ownBlock = some x.heap.size) (hm : KM strT (s + 1) (kput LN v.path u) z) (hg2 : y.grownBy z (some (s + 1))) (hb : x0.heap.size ≤ s + 7) :
    NL x0 s V (V' ++ [v]) LM (kput LN v.path u) z := by
  have hrow : ∀ b, ((kget LN v.path).getD (.slice none 0 0)).ownBlock = some b → s + 7 ≤ b := fun b hb => ((h.numG.at v.path).lt b hb).1
  refine ⟨(h.kp.grown hg fun b e => .inr (by have := hrow b e; omega)).grown hg2 (fun b e => by injection e with e; exact .inl (.inr e.symm)), (h.mem.grown hg (fun e => by have := hrow s e.symm; omega)).grown hg2 (fun e => by injection e; omega), h.memG, hm, ?_⟩
  have h1 := h.numG.back hg (a := v.num) (by rw [List.length_append, RowK.flat_append, RowK.flat_one]; exact ho) hat
  refine (h1.kept hg2 (fun j e => by injection e; omega)).congr fun p => ?_
  rw [numsD_snoc]
  cases hp : (p == v.path)
  · have h2 : (v.path == p) = false := by
      cases h3 : (v.path == p)
      · rfl
      · rw [eq_of_beq h3, beq_self_eq_true] at hp
        cases hp
    rw [h2]
    simp
  · have := eq_of_beq hp
    subst this
    have h2 : (v.act != 5) = true := by simpa using h5
    rw [h2]
    simp
end
set_option maxRecDepth 100000 in
set_option maxHeartbeats 6400000 in
theorem newLedger_any (d : Dep) (A B : Option Addr) (ca cb : Nat) (w : World) (hA : revK.In A d.revs w) (hB : rcdK.In B d.recs w) (hn : d.revs.length ≤ 512) (hm : d.recs.length ≤ 512)
    (hu : d.revs.Pairwise fun a b => a.fil ≠ b.fil) (hr : ∀ v ∈ d.revs, FOk v.fil) (hs : ∀ r ∈ d.recs, FOk (r.dst, r.num)) :
    Calls Tryz.prog 24 #[.agg #[.slice A d.revs.length ca, .slice B d.recs.length cb]] w fun e w' =>
      e = .returned (.pointer (some ⟨w.heap.size + 1 + 6, 0, none⟩)) ∧ Led d (w.heap.size + 1) w' ∧ Memo d (w.heap.size + 1) (fun _ => False) (fun _ => False) (fun _ => False) w' ∧ Below w.heap.size w w' := by
  obtain ⟨i0, hi0, hz0, hz1, hz2⟩ := info_parts Tryz.infoInt
  have HA := Lib.hid hA
  have HB := Lib.hid hB
  have HU := Lib.hid hu
  have HR := Lib.hid hr
  have HS := Lib.hid hs
  have hmm := @run_makeMap Tryz.prog
  clear hA hB hu hr hs
  obtain ⟨s, hs⟩ : ∃ s, w.heap.size + 1 = s := ⟨_, rfl⟩
  obtain ⟨w8, hw8, f0, f1, f2, f3, f4, f5, f6, f7, f8⟩ := ledger_new (w.alloc (.cells #[.slice A d.revs.length ca, .slice B d.recs.length cb] 28)) s (by simp [hs])
  have HD8 := Lib.hid ((Blk.new w 28 [.slice A d.revs.length ca, .slice B d.recs.length cb]).below (f8.mono (show (w.alloc (.cells #[.slice A d.revs.length ca, .slice B d.recs.length cb] 28)).heap.size ≤ s by simp [hs])))
  have HB8 : Hid (Below w.heap.size w w8) := (Below.alloc (Below.refl w.heap.size w) (Nat.le_refl _) (.cells #[.slice A d.revs.length ca, .slice B d.recs.length cb] 28)).trans (f8.mono (by omega))
  have HL8 := Lib.hid f0
  have HM8 := Lib.hid (And.intro f1 (And.intro f2 (And.intro f3 (And.intro f4 (And.intro f5 f6)))))
  unfold ledC at hw8
  clear f0 f1 f2 f3 f4 f5 f6 f8
  simp only [hs]
  go_enter Tryz.func24, Tryz.ntmps24
  go_upto_region 2 with fail
  simp only [Nat.add_assoc, Nat.reduceAdd]
  rw [← hw8]
  have hqs : w.heap.size < s := by omega
  have HSQ := Lib.hid hs
  clear hmm hw8 hs
  obtain ⟨d0, d1⟩ := HD8.out.c2
  have g1 : ¬ (512 : Int) < d.revs.length := by omega
  have g2 : ¬ (512 : Int) < d.recs.length := by omega
  have HI8 : Hid (∃ LM LN, NL w8 s (d.revs.take 0) (d.revs.take 0) LM LN w8) :=
    ⟨[], [], Kp.refl _ _, HM8.out.1, fun f => rfl, HM8.out.2.1, ⟨fun x v h => (by cases h), fun x h => rfl, fun x y v u h => (by cases h)⟩⟩
  go_wp2_with fail
  clear d0 d1
  have hz8 : s + 7 ≤ w8.heap.size := by omega
  have HF7 := Lib.hid f7
  clear f7
  go_loopw [31] (fun i wr => ∃ k : Nat, i = .int .i64 k ∧ k ≤ d.revs.length ∧ ∃ LM LN, NL w8 s (d.revs.take k) (d.revs.take k) LM LN wr) (fun i _ => d.revs.length - (intOf i).toNat)
  case atStart => exact ⟨0, rfl, Nat.zero_le _, HI8.out⟩
  case round =>
    obtain ⟨k, rfl, hk, LM, LN, hnl⟩ := hrel
    have HNL := Lib.hid hnl
    by_cases hlt : k < d.revs.length
    · obtain ⟨b, off, rfl, hbl, hat⟩ := HA.out (by omega)
      have hg := List.getElem?_eq_getElem hlt
      have htk : d.revs.take (k + 1) = d.revs.take k ++ [d.revs[k]] := by rw [List.take_succ_eq_append_getElem hlt]
      have hok : FOk d.revs[k].fil := HR.out _ (List.getElem_mem hlt)
      have hno : memD (d.revs.take k) d.revs[k].fil = none := by
        unfold memD
        rw [List.find?_eq_none]
        intro u hu hp
        obtain ⟨j, hj, rfl⟩ := List.mem_iff_getElem.1 hu
        have hj' : j < k := by simp at hj; omega
        have h1 := List.pairwise_iff_getElem.1 HU.out j k (by omega) hlt hj'
        have h2 := (isM_iff.1 hp).2
        rw [List.getElem_take] at h2
        exact h1 h2
      have HTK := Lib.hid htk
      have HNO := Lib.hid hno
      generalize hq : d.revs[k] = v at *
      have hwr : Below w.heap.size w wr := HB8.out.trans (hnl.kp.below (fun b hb h => by omega) HB8.out.size)
      have hat := hat.below hwr hbl
      have HWR := Lib.hid hwr
      (have hcv := fun j (u : Value) (hj : (v).cells[j]? = some u) => ((hat).get hg hj); have c0 := hcv 0 _ rfl; have c1 := hcv 1 _ rfl; have c2 := hcv 2 _ rfl; have c3 := hcv 3 _ rfl; have c4 := hcv 4 _ rfl; have c5 := hcv 5 _ rfl; have c6 := hcv 6 _ rfl; have c7 := hcv 7 _ rfl; have c8 := hcv 8 _ rfl; have c9 := hcv 9 _ rfl; have c10 := hcv 10 _ rfl; have c11 := hcv 11 _ rfl; have e12 : revK.n = 12 := rfl; simp only [e12, Nat.add_zero] at c0 c1 c2 c3 c4 c5 c6 c7 c8 c9 c10 c11; clear hcv e12)
      have hbig : s + 7 ≤ wr.heap.size := Nat.le_trans hz8 hnl.kp.size
      clear hat hg hq hno htk hnl hwr
      cases h5 : (v.act == 5)
      rotate_left
      · have HV5 := Lib.hid h5
        go_wp2_with fail
        go_roundw
        case rel => exact ⟨k + 1, by go_num, by omega, LM, LN, by rw [HTK.out]; exact (HNL.out.alloc _).gone (by simpa using HV5.out)⟩
        case measure => simp [intOf]; omega
      · have HV5 := Lib.hid h5
        have HKV := Lib.hid (Blk.new wr 43 v.cells)
        have HN1 := Lib.hid (HNL.out.alloc (.cells v.cells.toArray 43))
        have HN0 := HNL
        (obtain ⟨vp, vn, vc, va, ⟨tb, tk, te, tx⟩, ⟨cs, cz⟩, vs, vm⟩ := v)
        unfold Rev.cells at HKV HN1
        dsimp only at *
        go_wp2_with fail
        generalize hw1 : World.alloc wr _ = w1 at *
        clear hw1 c0 c1 c2 c3 c4 c5 c6 c7 c8 c9 c10 c11
        have hS : (fun x : World => Blk wr.heap.size 43 ([.string vp, .int .i64 vn, .int .i64 vc, .int .i64 va, .int .i64 tb, .bool tk, .bool te, .bool tx, .int .u64 cs, .int .i64 cz, .string vs, .int .i64 vm]) x ∧ Blk (s + 6) 75 (ledC s) x) w1.drew := ⟨HKV.out.drew, (HL8.out.kp HN1.out.kp (by omega)).drew⟩
        (refine wp_region_mixz (S := (fun x : World => Blk wr.heap.size 43 ([.string vp, .int .i64 vn, .int .i64 vc, .int .i64 va, .int .i64 tb, .bool tk, .bool te, .bool tx, .int .u64 cs, .int .i64 cz, .string vs, .int .i64 vm]) x ∧ Blk (s + 6) 75 (ledC s) x)) [0, 1, 2, 3, 4, 5, 6, 7, 8, 9] 10 [] (by kernel_rfl) (by kernel_rfl) (by intro c a d v w h; cases d <;> exact h) hS ?_; have hN : Nonempty (Held ((fun x : World => Blk wr.heap.size 43 ([.string vp, .int .i64 vn, .int .i64 vc, .int .i64 va, .int .i64 tb, .bool tk, .bool te, .bool tx, .int .u64 cs, .int .i64 cz, .string vs, .int .i64 vm]) x ∧ Blk (s + 6) 75 (ledC s) x))) := ⟨⟨_, hS⟩⟩)
        obtain ⟨q0, q1, q2, q3, q4, q5, q6, q7, q8, q9, q10, q11⟩ := fun_and12 (fun y : Held (fun x : World => Blk wr.heap.size 43 ([.string vp, .int .i64 vn, .int .i64 vc, .int .i64 va, .int .i64 tb, .bool tk, .bool te, .bool tx, .int .u64 cs, .int .i64 cz, .string vs, .int .i64 vm]) x ∧ Blk (s + 6) 75 (ledC s) x) => y.ok.1.c12)
        have l0 : ∀ y : Held ((fun x : World => Blk wr.heap.size 43 ([.string vp, .int .i64 vn, .int .i64 vc, .int .i64 va, .int .i64 tb, .bool tk, .bool te, .bool tx, .int .u64 cs, .int .i64 cz, .string vs, .int .i64 vm]) x ∧ Blk (s + 6) 75 (ledC s) x)), y.w.cell? ⟨s + 6, 0, none⟩ = some (.map (some s)) := fun y => y.ok.2.cell 0
        (unfold wpMixZ wpRd; (repeat (first | simp only [List.filterMap_cons] | simp only [List.filterMap_nil] | simp only [List.getElem?_toArray] | simp only [List.getElem?_cons_zero] | simp only [List.getElem?_cons_succ])); (try dsimp only); change wpQuiet _ _ _ _ (_ :: _ :: _ :: _ :: _ :: _ :: _ :: _ :: _ :: _ :: []) _; (repeat (go_big_quiet_step (fail))); refine wpQuiet_nil ?_; (try dsimp only))
        clear q0 q1 q2 q3 q4 q5 q6 q7 q8 q9 q10 q11 l0
        refine wpList_kput rfl _ _ _ 66 rfl 43 Tryz.underlying66 s LM rfl HN1.out.mem.drew (vp, vn) rfl hok _ rfl ?_
        intro w2 hm2 hg2 hs2
        have HN2 := Lib.hid (HN1.out.drew.member (by simpa using HV5.out) HNO.out hm2 hg2)
        have HK2 := Lib.hid (HKV.out.drew.grown hg2 (fun e => by injection e; omega))
        clear hm2 hg2 hs2 HN1 HKV
        go_wp2_with fail
        have hnl2 : (numsD (d.revs.take k) vp).length ≤ 512 := by
          have := nums_len (d.revs.take k) vp
          rw [List.length_take] at this
          omega
        have hwz : wr.heap.size < w2.heap.size := HK2.out.lt
        have hS : (fun x : World => Blk wr.heap.size 43 ([.string vp, .int .i64 vn, .int .i64 vc, .int .i64 va, .int .i64 tb, .bool tk, .bool te, .bool tx, .int .u64 cs, .int .i64 cz, .string vs, .int .i64 vm]) x ∧ Blk (s + 6) 75 (ledC s) x ∧ KM strT (s + 1) LN x) w2.drew := ⟨HK2.out.drew, (HL8.out.kp HN2.out.kp (by omega)).drew, HN2.out.num.drew⟩
        (refine wp_region_mixz (S := (fun x : World => Blk wr.heap.size 43 ([.string vp, .int .i64 vn, .int .i64 vc, .int .i64 va, .int .i64 tb, .bool tk, .bool te, .bool tx, .int .u64 cs, .int .i64 cz, .string vs, .int .i64 vm]) x ∧ Blk (s + 6) 75 (ledC s) x ∧ KM strT (s + 1) LN x)) [] 17 [([0, 1, 2, 3, 4, 5, 6, 7, 8, 9, 10, 11, 12, 13, 14], 15), ([], 16)] (by kernel_rfl) (by kernel_rfl) (by intro c a d v w h; cases d <;> exact h) hS ?_; have hN : Nonempty (Held ((fun x : World => Blk wr.heap.size 43 ([.string vp, .int .i64 vn, .int .i64 vc, .int .i64 va, .int .i64 tb, .bool tk, .bool te, .bool tx, .int .u64 cs, .int .i64 cz, .string vs, .int .i64 vm]) x ∧ Blk (s + 6) 75 (ledC s) x ∧ KM strT (s + 1) LN x))) := ⟨⟨_, hS⟩⟩)
        obtain ⟨q0, q1, q2, q3, q4, q5, q6, q7, q8, q9, q10, q11⟩ := fun_and12 (fun y : Held (fun x : World => Blk wr.heap.size 43 ([.string vp, .int .i64 vn, .int .i64 vc, .int .i64 va, .int .i64 tb, .bool tk, .bool te, .bool tx, .int .u64 cs, .int .i64 cz, .string vs, .int .i64 vm]) x ∧ Blk (s + 6) 75 (ledC s) x ∧ KM strT (s + 1) LN x) => y.ok.1.c12)
        clear q2 q3 q4 q5 q6 q7 q8 q9 q10 q11
        have l1 : ∀ y : Held ((fun x : World => Blk wr.heap.size 43 ([.string vp, .int .i64 vn, .int .i64 vc, .int .i64 va, .int .i64 tb, .bool tk, .bool te, .bool tx, .int .u64 cs, .int .i64 cz, .string vs, .int .i64 vm]) x ∧ Blk (s + 6) 75 (ledC s) x ∧ KM strT (s + 1) LN x)), y.w.cell? ⟨s + 6, 1, none⟩ = some (.map (some (s + 1))) := fun y => y.ok.2.1.cell 1
        have lk : ∀ y : Held (fun x : World => Blk wr.heap.size 43 ([.string vp, .int .i64 vn, .int .i64 vc, .int .i64 va, .int .i64 tb, .bool tk, .bool te, .bool tx, .int .u64 cs, .int .i64 cz, .string vs, .int .i64 vm]) x ∧ Blk (s + 6) 75 (ledC s) x ∧ KM strT (s + 1) LN x), (Instr.lookup 71 (.map (some (s + 1))) (.string vp) false).run Tryz.prog y.w = .ok ((kget LN vp).getD (.slice none 0 0)) y.w := fun y => y.ok.2.2.run_get Tryz.underlying71 (zeroInts _) (x := vp) hok.1 false
        (unfold wpMixZ wpRd; (repeat (first | simp only [List.filterMap_cons] | simp only [List.filterMap_nil] | simp only [List.getElem?_toArray] | simp only [List.getElem?_cons_zero] | simp only [List.getElem?_cons_succ])); (try dsimp only); change wpQuiet _ _ _ _ (_ :: _ :: _ :: _ :: _ :: _ :: _ :: _ :: _ :: _ :: _ :: _ :: _ :: _ :: _ :: []) _; (repeat (go_big_quiet_step (fail))); refine wpQuiet_nil ?_; (try dsimp only))
        clear q0 q1 l1 lk
        have HN3 := Lib.hid ((HN2.out.alloc (.cells #[.int .i64 vn] 3)).drew)
        have HK3 := Lib.hid ((HK2.out.alloc (.cells #[.int .i64 vn] 3)).drew)
        go_wp2_with fail
        refine ⟨⟨HK3.out, HL8.out.kp HN3.out.kp (by omega), HN3.out.num⟩, ?_⟩
        (unfold wpMixZ wpRd; (repeat (first | simp only [List.filterMap_cons] | simp only [List.filterMap_nil] | simp only [List.getElem?_toArray] | simp only [List.getElem?_cons_zero] | simp only [List.getElem?_cons_succ])); (try dsimp only); change wpQuiet _ _ _ _ ([]) _; (repeat (go_big_quiet_step (fail))); refine wpQuiet_nil ?_; (try dsimp only))
        refine wpList_append_own_at _ rfl _ _ 90 rfl (s + 7) 3 i0 (.int .i64 0) 1 8 Tryz.underlying90 hi0 hz0 hz1 hz2 rfl (by decide) ((kget LN vp).getD (.slice none 0 0)) _ _ rfl (HN3.out.numG.at vp) ⟨w2.heap.size, 0, none⟩ 1 1 [.int .i64 vn] rfl rfl (fun j u hj => cell_one_new w2 _ _ j u hj) (by simp [Value.oneCell']) (by unfold maxLen; omega) (by omega) (by simp; omega) ?_
        intro u4 w4 ho4 hg4 _ hat4
        have hrow : ∀ b', ((kget LN vp).getD (.slice none 0 0)).ownBlock = some b' → s + 7 ≤ b' := fun b' hb' => ((HN3.out.numG.at vp).lt b' hb').1
        have hrow2 : ∀ b', ((kget LN vp).getD (.slice none 0 0)).ownBlock = some b' → b' ≠ wr.heap.size := fun b' hb' => by
          have h1 := ((HN0.out.numG.at vp).lt b' hb').2
          omega
        have HK4 := Lib.hid (HK3.out.grown hg4 (fun e => hrow2 _ e rfl))
        have hk4 : Kp (fun b => b = s ∨ b = s + 1) w8 w4 := HN3.out.kp.grown hg4 (fun b' e => .inr (by have := hrow b' e; have := HF7.out; omega))
        have hm4 := HN3.out.num.grown hg4 (fun e => by have := hrow _ e.symm; omega)
        refine ⟨⟨HK4.out, HL8.out.kp hk4 (by omega), hm4⟩, ?_⟩
        have HM4 := Lib.hid hm4
        have HG4 := Lib.hid (And.intro ho4 (And.intro hg4 hat4))
        clear hrow hrow2 hk4 ho4 hg4 hat4 hm4
        simp only [Act.put, List.setIfInBounds_toArray, List.set_cons_succ, List.set_cons_zero]
        (unfold wpMixZ wpRd; (repeat (first | simp only [List.filterMap_cons] | simp only [List.filterMap_nil] | simp only [List.getElem?_toArray] | simp only [List.getElem?_cons_zero] | simp only [List.getElem?_cons_succ])); (try dsimp only); change wpQuiet _ _ _ _ ([]) _; (repeat (go_big_quiet_step (fail))); refine wpQuiet_nil ?_; (try dsimp only))
        refine wpList_kput rfl _ _ _ 71 rfl 90 Tryz.underlying71 (s + 1) LN rfl HM4.out vp rfl hok.1 u4 rfl ?_
        intro w5 hm5 hg5 _
        have HN5 := Lib.hid (HN3.out.number (v := ⟨vp, vn, vc, va, ⟨tb, tk, te, tx⟩, ⟨cs, cz⟩, vs, vm⟩) (by simpa using HV5.out) HG4.out.2.1 HG4.out.1 HG4.out.2.2 hm5 hg5 (by have := HF7.out; omega))
        clear hm5 hg5 HN3 HK3 HG4 HM4 HK4
        go_wp2_with fail
        go_roundw
        case rel => exact ⟨k + 1, by go_num, by omega, _, _, by rw [HTK.out]; exact HN5.out⟩
        case measure => simp [intOf]; omega
    · obtain rfl : k = d.revs.length := by omega
      rw [List.take_length] at hnl
      have hbelow : Below w.heap.size w wr := HB8.out.trans (hnl.kp.below (fun b hb h => by omega) HB8.out.size)
      have HW9 := Lib.hid hbelow
      have HD9 := Lib.hid (HD8.out.kp hnl.kp (by omega))
      have HL9 := Lib.hid (HL8.out.kp hnl.kp (by omega))
      have HM9 := Lib.hid (And.intro (HM8.out.2.2.1.kp hnl.kp (by omega)) (And.intro (HM8.out.2.2.2.1.kp hnl.kp (by omega)) (And.intro (HM8.out.2.2.2.2.1.kp hnl.kp (by omega)) (HM8.out.2.2.2.2.2.kp hnl.kp (by omega)))))
      have HN9 := Lib.hid hnl
      have hz9 : s + 7 ≤ wr.heap.size := Nat.le_trans hz8 hnl.kp.size
      clear hbelow hnl HNL HD8 HL8 HM8 HB8 HI8 HF7 hz8 HA HU HR
      generalize wr = w9 at *
      obtain ⟨d0, d1⟩ := HD9.out.c2
      obtain ⟨j0, hj0, hy0, hy1, hy2⟩ := info_parts Tryz.infoRec
      go_wp2_with fail
      clear d0 d1
      go_loopw [69] (fun i wr => ∃ k : Nat, i = .int .i64 k ∧ k ≤ d.recs.length ∧ ∃ LR, Kp (· = s + 2) w9 wr ∧ KM filT (s + 2) LR wr ∧ GrpO w9.heap.size 51 rcdK (recsD (d.recs.take k)) LR wr) (fun i _ => d.recs.length - (intOf i).toNat)
      case atStart => exact ⟨0, rfl, Nat.zero_le _, [], Kp.refl _ _, HM9.out.1, ⟨fun x v h => (by cases h), fun x h => rfl, fun x y v u h => (by cases h)⟩⟩
      case round =>
        obtain ⟨k, rfl, hk, LR, hkp, hkm, hgr⟩ := hrel
        have HKP := Lib.hid hkp
        have HKM := Lib.hid hkm
        have HGR := Lib.hid hgr
        have HGR0 := HGR
        by_cases hlt : k < d.recs.length
        · obtain ⟨b, off, rfl, hbl, hat⟩ := HB.out (by omega)
          have hg := List.getElem?_eq_getElem hlt
          have htk : d.recs.take (k + 1) = d.recs.take k ++ [d.recs[k]] := by rw [List.take_succ_eq_append_getElem hlt]
          have hok : FOk (d.recs[k].dst, d.recs[k].num) := HS.out _ (List.getElem_mem hlt)
          have HTK := Lib.hid htk
          generalize hq : d.recs[k] = r at *
          have hwr : Below w.heap.size w wr := HW9.out.trans (hkp.below (fun b hb h => by omega) HW9.out.size)
          have hat := hat.below hwr hbl
          have hbig : w9.heap.size ≤ wr.heap.size := hkp.size
          (have hcv := fun j (u : Value) (hj : (r).cells[j]? = some u) => ((hat).get hg hj); have c0 := hcv 0 _ rfl; have c1 := hcv 1 _ rfl; have c2 := hcv 2 _ rfl; have c3 := hcv 3 _ rfl; have c4 := hcv 4 _ rfl; have c5 := hcv 5 _ rfl; have e12 : rcdK.n = 6 := rfl; simp only [e12, Nat.add_zero] at c0 c1 c2 c3 c4 c5; clear hcv e12)
          have HKR := Lib.hid (Blk.new wr 51 r.cells)
          obtain ⟨rs, rf, rl, rt, rn, rh⟩ := r
          unfold Rcd.cells at HKR
          dsimp only at *
          clear hat hg hq htk hwr hkp hkm hgr
          go_upto_region 14 with fail
          have hw1s : (wr.alloc (.cells #[.string rs, .int .i64 rf, .int .i64 rl, .string rt, .int .i64 rn, .int .i64 rh] 51)).heap.size = wr.heap.size + 1 := by simp
          have HKP1 := Lib.hid (HKP.out.alloc (.cells #[.string rs, .int .i64 rf, .int .i64 rl, .string rt, .int .i64 rn, .int .i64 rh] 51))
          have HKM1 := Lib.hid (HKM.out.alloc (.cells #[.string rs, .int .i64 rf, .int .i64 rl, .string rt, .int .i64 rn, .int .i64 rh] 51))
          have HGR1 := Lib.hid (HGR.out.kept (World.grownBy_alloc wr (.cells #[.string rs, .int .i64 rf, .int .i64 rl, .string rt, .int .i64 rn, .int .i64 rh] 51) none) (fun j e => (by cases e)))
          generalize hw1 : World.alloc wr (.cells #[.string rs, .int .i64 rf, .int .i64 rl, .string rt, .int .i64 rn, .int .i64 rh] 51) = w1 at *
          have hlt1 : wr.heap.size < w1.heap.size := by omega
          have hge1 : w9.heap.size ≤ w1.heap.size := by omega
          clear hw1 c0 c1 c2 c3 c4 c5 HKP HKM HGR hw1s
          obtain ⟨c0, c1, c2, c3, c4, c5⟩ := HKR.out.c6
          have HKF := Lib.hid (Blk.new w1 47 [.string rt, .int .i64 rn])
          have HKR2 := Lib.hid (HKR.out.alloc (.cells #[.string rt, .int .i64 rn] 47))
          have HKP2 := Lib.hid (HKP1.out.alloc (.cells #[.string rt, .int .i64 rn] 47))
          have HKM2 := Lib.hid (HKM1.out.alloc (.cells #[.string rt, .int .i64 rn] 47))
          have HGR2 := Lib.hid (HGR1.out.kept (World.grownBy_alloc w1 (.cells #[.string rt, .int .i64 rn] 47) none) (fun j e => (by cases e)))
          have hw2s : (w1.alloc (.cells #[.string rt, .int .i64 rn] 47)).heap.size = w1.heap.size + 1 := by simp
          go_wp2_with fail
          generalize hw2 : World.alloc w1 (.cells #[.string rt, .int .i64 rn] 47) = w2 at *
          have hlt2 : w1.heap.size < w2.heap.size := by omega
          clear hw2 c0 c1 c2 c3 c4 c5 hw2s HKR HKP1 HKM1 HGR1
          have hS : (fun x : World => Blk w1.heap.size 47 [.string rt, .int .i64 rn] x ∧ Blk wr.heap.size 51 [.string rs, .int .i64 rf, .int .i64 rl, .string rt, .int .i64 rn, .int .i64 rh] x ∧ Blk (s + 6) 75 (ledC s) x) w2.drew := ⟨HKF.out.drew, HKR2.out.drew, (HL9.out.kp HKP2.out (by omega)).drew⟩
          (refine wp_region_mixz (S := (fun x : World => Blk w1.heap.size 47 [.string rt, .int .i64 rn] x ∧ Blk wr.heap.size 51 [.string rs, .int .i64 rf, .int .i64 rl, .string rt, .int .i64 rn, .int .i64 rh] x ∧ Blk (s + 6) 75 (ledC s) x)) [] 11 [([0, 1, 2, 3, 4, 5], 6), ([], 7), ([8, 10], 9)] (by kernel_rfl) (by kernel_rfl) (by intro c a d v w h; cases d <;> exact h) hS ?_; have hN : Nonempty (Held ((fun x : World => Blk w1.heap.size 47 [.string rt, .int .i64 rn] x ∧ Blk wr.heap.size 51 [.string rs, .int .i64 rf, .int .i64 rl, .string rt, .int .i64 rn, .int .i64 rh] x ∧ Blk (s + 6) 75 (ledC s) x))) := ⟨⟨_, hS⟩⟩)
          obtain ⟨q0, q1, q2, q3, q4, q5⟩ := fun_and6 (fun y : Held (fun x : World => Blk w1.heap.size 47 [.string rt, .int .i64 rn] x ∧ Blk wr.heap.size 51 [.string rs, .int .i64 rf, .int .i64 rl, .string rt, .int .i64 rn, .int .i64 rh] x ∧ Blk (s + 6) 75 (ledC s) x) => y.ok.2.1.c6)
          obtain ⟨t0, t1⟩ := fun_and2 (fun y : Held (fun x : World => Blk w1.heap.size 47 [.string rt, .int .i64 rn] x ∧ Blk wr.heap.size 51 [.string rs, .int .i64 rf, .int .i64 rl, .string rt, .int .i64 rn, .int .i64 rh] x ∧ Blk (s + 6) 75 (ledC s) x) => y.ok.1.c2)
          have l2 : ∀ y : Held ((fun x : World => Blk w1.heap.size 47 [.string rt, .int .i64 rn] x ∧ Blk wr.heap.size 51 [.string rs, .int .i64 rf, .int .i64 rl, .string rt, .int .i64 rn, .int .i64 rh] x ∧ Blk (s + 6) 75 (ledC s) x)), y.w.cell? ⟨s + 6, 2, none⟩ = some (.map (some (s + 2))) := fun y => y.ok.2.2.cell 2
          (unfold wpMixZ wpRd; (repeat (first | simp only [List.filterMap_cons] | simp only [List.filterMap_nil] | simp only [List.getElem?_toArray] | simp only [List.getElem?_cons_zero] | simp only [List.getElem?_cons_succ])); (try dsimp only); change wpQuiet _ _ _ _ (_ :: _ :: _ :: _ :: _ :: _ :: []) _; (repeat (go_big_quiet_step (fail))); refine wpQuiet_nil ?_; (try dsimp only))
          clear q0 q1 q2 q3 q4 q5 t0 t1 l2
          go_wp2_with fail
          have HKF3 := Lib.hid (HKF.out.alloc (.cells #[.string rs, .int .i64 rf, .int .i64 rl, .string rt, .int .i64 rn, .int .i64 rh] 51)).drew
          have HKR3 := Lib.hid (HKR2.out.alloc (.cells #[.string rs, .int .i64 rf, .int .i64 rl, .string rt, .int .i64 rn, .int .i64 rh] 51)).drew
          have HKP3 := Lib.hid (HKP2.out.alloc (.cells #[.string rs, .int .i64 rf, .int .i64 rl, .string rt, .int .i64 rn, .int .i64 rh] 51)).drew
          have HKM3 := Lib.hid (HKM2.out.alloc (.cells #[.string rs, .int .i64 rf, .int .i64 rl, .string rt, .int .i64 rn, .int .i64 rh] 51)).drew
          have HGR3 : Hid (GrpO w9.heap.size 51 rcdK (recsD (d.recs.take k)) LR (w2.alloc (.cells #[.string rs, .int .i64 rf, .int .i64 rl, .string rt, .int .i64 rn, .int .i64 rh] 51)).drew) := HGR2.out.kept (w1 := (w2.alloc (.cells #[.string rs, .int .i64 rf, .int .i64 rl, .string rt, .int .i64 rn, .int .i64 rh] 51)).drew) (row := none) ⟨rfl, rfl, rfl, by simp, fun i hi _ => Below.heap_alloc w2 _ i hi⟩ (fun j e => (by cases e))
          have HLT3 : Hid ((∀ j u, (rcdK.cells ⟨rs, rf, rl, rt, rn, rh⟩)[j]? = some u → (w2.alloc (.cells #[.string rs, .int .i64 rf, .int .i64 rl, .string rt, .int .i64 rn, .int .i64 rh] 51)).drew.cell? ((⟨w2.heap.size, 0, none⟩ : Addr).add j) = some u)) := (rcdK.lit w2 ⟨rs, rf, rl, rt, rn, rh⟩ 51).1
          have hw3s : (w2.alloc (.cells #[.string rs, .int .i64 rf, .int .i64 rl, .string rt, .int .i64 rn, .int .i64 rh] 51)).drew.heap.size = w2.heap.size + 1 := by simp
          refine ⟨⟨HKF3.out, HKR3.out, HL9.out.kp HKP3.out (by omega)⟩, ?_⟩
          (unfold wpMixZ wpRd; (repeat (first | simp only [List.filterMap_cons] | simp only [List.filterMap_nil] | simp only [List.getElem?_toArray] | simp only [List.getElem?_cons_zero] | simp only [List.getElem?_cons_succ])); (try dsimp only); change wpQuiet _ _ _ _ ([]) _; (repeat (go_big_quiet_step (fail))); refine wpQuiet_nil ?_; (try dsimp only))
          generalize hw3 : World.drew (World.alloc w2 (.cells #[.string rs, .int .i64 rf, .int .i64 rl, .string rt, .int .i64 rn, .int .i64 rh] 51)) = w3 at *
          have hlt3 : w2.heap.size < w3.heap.size := by omega
          clear hw3 hw3s HKF HKR2 HKP2 HKM2 HGR2
          refine wpList_kentry rfl _ _ 72 rfl 26 Tryz.underlying72 (s + 2) LR rfl HKM3.out (.slice none 0 0) zeroRecs (rt, rn) rfl hok ?_
          intro st w4 hg4 hs4 hrun4
          have hlt4 : w2.heap.size < w4.heap.size := by omega
          clear hs4
          have HKF4 := Lib.hid (HKF3.out.grown hg4 (fun e => by injection e; omega))
          have HKR4 := Lib.hid (HKR3.out.grown hg4 (fun e => by injection e; omega))
          have HKP4 := Lib.hid (HKP3.out.grown hg4 (fun b' e => by injection e with e; exact .inl e.symm))
          have HGR4 := Lib.hid (HGR3.out.kept hg4 (fun j e => by injection e; omega))
          have HLT4 : Hid (∀ j u, (rcdK.cells ⟨rs, rf, rl, rt, rn, rh⟩)[j]? = some u → w4.cell? ((⟨w2.heap.size, 0, none⟩ : Addr).add j) = some u) := fun j u hj => by
            have h1 := HLT3.out j u hj
            have h2 := hg4.block w2.heap.size (by omega) (fun e => by injection e; omega)
            have e1 : ((⟨w2.heap.size, 0, none⟩ : Addr).add j) = ⟨w2.heap.size, j, none⟩ := by rw [add_lit, Nat.zero_add]
            rw [e1] at h1 ⊢
            simpa [World.cell?, h2] using h1
          refine ⟨⟨HKF4.out, HKR4.out, HL9.out.kp HKP4.out (by omega)⟩, ?_⟩
          clear HKF3 HKR3 HKP3 HKM3 HGR3 HLT3 hg4
          simp only [Act.put, List.setIfInBounds_toArray, List.set_cons_succ, List.set_cons_zero]
          (unfold wpMixZ wpRd; (repeat (first | simp only [List.filterMap_cons] | simp only [List.filterMap_nil] | simp only [List.getElem?_toArray] | simp only [List.getElem?_cons_zero] | simp only [List.getElem?_cons_succ])); (try dsimp only); change wpQuiet _ _ _ _ (_ :: _ :: []) _; (repeat (go_big_quiet_step (fail))); refine wpQuiet_nil ?_; (try dsimp only))
          have hnl : (recsD (d.recs.take k) (rt, rn)).length ≤ 512 := by
            have h1 : (recsD (d.recs.take k) (rt, rn)).length ≤ (d.recs.take k).length := List.length_filter_le _ _
            rw [List.length_take] at h1
            omega
          refine wpList_append_own_at _ rfl _ _ 26 rfl w9.heap.size 51 j0 zeroRcd.val 6 64 Tryz.underlying26 hj0 hy0 hy1 hy2 rfl (by decide) ((kget LR (rt, rn)).getD (.slice none 0 0)) _ _ rfl (HGR4.out.at (rt, rn)) ⟨w2.heap.size, 0, none⟩ 1 1 (rcdK.cells ⟨rs, rf, rl, rt, rn, rh⟩) rfl rfl HLT4.out (rcdK.one _) (by unfold maxLen; omega) (by omega) (by omega) ?_
          intro u5 w5 ho5 hg5 _ hat5
          have hrow : ∀ b', ((kget LR (rt, rn)).getD (.slice none 0 0)).ownBlock = some b' → w9.heap.size ≤ b' ∧ b' < wr.heap.size := fun b' hb' => ⟨((HGR4.out.at (rt, rn)).lt b' hb').1, ((HGR0.out.at (rt, rn)).lt b' hb').2⟩
          have HKF5 := Lib.hid (HKF4.out.grown hg5 (fun e => by have := hrow _ e; omega))
          have HKR5 := Lib.hid (HKR4.out.grown hg5 (fun e => by have := hrow _ e; omega))
          have HKP5 := Lib.hid (HKP4.out.grown hg5 (fun b' e => .inr (hrow b' e).1))
          have hsm5 : w5.heap[s + 2]? = w4.heap[s + 2]? := hg5.block (s + 2) (by omega) (fun e => by have := hrow _ e.symm; omega)
          have HGR5 := Lib.hid (HGR4.out.back hg5 (a := ⟨rs, rf, rl, rt, rn, rh⟩) (by rw [List.length_append, RowK.flat_append, RowK.flat_one]; exact ho5) hat5)
          refine ⟨⟨HKF5.out, HKR5.out, HL9.out.kp HKP5.out (by omega)⟩, ?_⟩
          have hr5 := hrun4.out w5 u5 hsm5
          clear hrun4 hsm5 ho5 hg5 hat5 hrow HKF4 HKR4 HKP4 HGR4 HLT4
          simp only [Act.put, List.setIfInBounds_toArray, List.set_cons_succ, List.set_cons_zero]
          (unfold wpMixZ wpRd; (repeat (first | simp only [List.filterMap_cons] | simp only [List.filterMap_nil] | simp only [List.getElem?_toArray] | simp only [List.getElem?_cons_zero] | simp only [List.getElem?_cons_succ])); (try dsimp only); change wpQuiet _ _ _ _ ([]) _; (repeat (go_big_quiet_step (fail))); refine wpQuiet_nil ?_; (try dsimp only))
          refine wpList_kestore rfl _ _ _ 72 rfl (s + 2) LR (rt, rn) st u5 rfl rfl rfl hr5 ?_
          intro w6 hm6 hg6 _
          have HKP6 := Lib.hid (HKP5.out.grown hg6 (fun b' e => by injection e with e; exact .inl e.symm))
          have HGR6 := Lib.hid (HGR5.out.kept hg6 (fun j e => by injection e; omega))
          have HM6 := Lib.hid hm6
          clear hm6 hg6 hr5 HKP5 HGR5 HKF5 HKR5
          go_wp2_with fail
          go_roundw
          case rel =>
            refine ⟨k + 1, by go_num, by omega, _, HKP6.out, HM6.out, HGR6.out.congr fun f => ?_⟩
            rw [HTK.out, recsD_snoc]
            cases hf : (f == (rt, rn))
            · have h1 : ((rt, rn) == f) = false := by
                cases h2 : ((rt, rn) == f)
                · rfl
                · rw [eq_of_beq h2, beq_self_eq_true] at hf
                  cases hf
              rw [h1]
              simp
            · have := eq_of_beq hf
              subst this
              simp
          case measure => simp [intOf]; omega
        · obtain rfl : k = d.recs.length := by omega
          rw [List.take_length] at hgr
          have HE : Hid (Led d s wr ∧ Memo d s (fun _ => False) (fun _ => False) (fun _ => False) wr ∧ Below w.heap.size w wr) := by
            refine ⟨⟨HL9.out.kp hkp (by omega), ⟨LM, HN9.out.mem.kp hkp (by omega), HN9.out.memG⟩, ⟨LN, HN9.out.num.kp hkp (by omega), fun p => ?_⟩, ⟨LR, hkm, fun f => ?_⟩⟩,
              ⟨⟨[], HM9.out.2.1.kp hkp (by omega), fun f v h => (by cases h)⟩, ⟨[], HM9.out.2.2.1.kp hkp (by omega), fun f v h => (by cases h)⟩, ⟨[], HM9.out.2.2.2.kp hkp (by omega), fun f v h => (by cases h)⟩⟩,
              HW9.out.trans (hkp.below (fun b hb h => by omega) HW9.out.size)⟩
            · obtain ⟨A', c', e', hf⟩ := Far.of_row (HN9.out.numG.at p)
              exact ⟨A', c', e', hf.kp hkp (fun b hb h => by omega)⟩
            · obtain ⟨A', c', e', hf⟩ := Far.of_row (hgr.at f)
              refine ⟨A', c', e', fun hl => ?_⟩
              obtain ⟨b', e1, h1, h2, h3⟩ := hf hl
              exact ⟨b', e1, by omega, h2, h3⟩
          clear hkp hkm hgr HKP HKM HGR HN9 HM9 HL9 HW9
          go_wp2_with fail
          go_ret
          exact ⟨rfl, HE.out.1, HE.out.2.1, HE.out.2.2⟩
end Go.Proofs.YthonhikkoabhlaaGreatDoor
