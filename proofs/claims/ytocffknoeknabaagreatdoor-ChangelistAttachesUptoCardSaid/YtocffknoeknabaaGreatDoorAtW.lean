/-
  The walk of changelist.Attach (printed by mkatt.py).
-/
import Derived.Test.YtocffknoeknabaaGreatDoorCgN
import Derived.Test.YtocffknoeknabaaGreatDoorCgM
import Derived.Test.YtocffknoeknabaaGreatDoorClD
namespace Go.Proofs.YtocffknoeknabaaGreatDoor
open Go.RowKit

def zpA : List Value := [.int .i64 0, .string ⟨#[]⟩, .string ⟨#[]⟩, .bool false, .slice none 0 0, .slice none 0 0]
/-- Attach under way: the pending's box, the result's, the set of the open paths. -/
structure AtI (w : World) (C : List Value) (S : ByteArray → Prop) (x : World) : Prop where
  b0 : Blk w.heap.size 41 C x
  b1 : Blk (w.heap.size + 1) 41 zpA x
  st : StrS (w.heap.size + 1 + 1) S x
  bel : Below w.heap.size w x
theorem AtI.below {w : World} {C : List Value} {S : ByteArray → Prop} {x y : World} (h : AtI w C S x) (hb : Below x.heap.size x y) : AtI w C S y :=
  ⟨h.b0.below hb, h.b1.below hb, h.st.below hb h.st.lt, h.bel.trans (hb.mono h.bel.size)⟩
theorem AtI.put {w : World} {C : List Value} {S : ByteArray → Prop} {x y : World} {L : List ByteArray} {f : ByteArray} (h : AtI w C S x) (hL : ∀ f, f ∈ L ↔ S f) (hk : KM strT (w.heap.size + 1 + 1) (kput (L.map fun f => (f, Value.bool true)) f (.bool true)) y) (hg : x.grownBy y (some (w.heap.size + 1 + 1))) : AtI w C (fun g => S g ∨ g = f) y :=
  ⟨h.b0.of (hg.block _ h.b0.lt (fun e => by injection e; omega)), h.b1.of (hg.block _ h.b1.lt (fun e => by injection e; omega)), StrS.kput hk hL, h.bel.grown hg h.bel.size (fun j e => by injection e; omega)⟩
theorem AtI.congr {w : World} {C : List Value} {S S' : ByteArray → Prop} {x : World} (h : AtI w C S x) (he : ∀ f, S f ↔ S' f) : AtI w C S' x := ⟨h.b0, h.b1, h.st.congr he, h.bel⟩
theorem AtI.setC {w : World} {C : List Value} {S : ByteArray → Prop} {x : World} (h : AtI w C S x) {p : Addr} (hp : w.heap.size + 1 + 1 < p.block) (v : Value) : AtI w C S (x.setCell p v) := by
  obtain ⟨b, o, t⟩ := p
  dsimp only at hp
  exact ⟨h.b0.of (Below.heap_setCell _ _ _ _ (by dsimp only; omega)), h.b1.of (Below.heap_setCell _ _ _ _ (by dsimp only; omega)), h.st.of_block (Below.heap_setCell _ _ _ _ (by dsimp only; omega)), h.bel.setCell (by dsimp only; omega) v⟩
theorem inSetA {α : Type} {R : RowK α} {A : Option Addr} {l : List α} {w : World} (h : R.In A l w) {p : Addr} (hp : ∀ b off, A = some ⟨b, off, none⟩ → b ≠ p.block) (v : Value) : R.In A l (w.setCell p v) := fun hl => by
  obtain ⟨b, off, e, hlt, hat⟩ := h hl
  refine ⟨b, off, e, by simpa [World.setCell] using hlt, hat.of_block (Below.heap_setCell _ _ _ _ (fun e2 => hp b off e e2))⟩
theorem ownSetA {w : World} {base size n : Nat} {e : TypeId} {v : Value} {xs : List Value} (h : w.ownsRow base e size v n xs) {p : Addr} (hp : v.ownBlock ≠ some p.block) (u : Value) : (w.setCell p u).ownsRow base e size v n xs :=
  h.kept ⟨rfl, rfl, rfl, by simp [World.setCell], fun k _ hk => Below.heap_setCell _ _ _ _ (fun e => hk (by rw [e]))⟩ (.inr hp)
theorem hasP_one (E : List Edt) (x : Edt) (s : ByteArray) : hasP (E ++ [x]) s = true ↔ hasP E s = true ∨ s = x.path := by
  rw [hasP_app, Bool.or_eq_true]
  refine or_congr Iff.rfl ?_
  rw [hasP_iff]
  simp
  exact eq_comm
theorem freshE_pre : ∀ (A : List Edt) {B E : List Edt}, freshE E (A ++ B) = true → freshE E A = true
  | [], _, _, _ => rfl
  | x :: r, B, E, h => by
    rw [List.cons_append] at h
    unfold freshE at h ⊢
    rw [Bool.and_eq_true] at h ⊢
    exact ⟨h.1, freshE_pre r h.2⟩
theorem addE_snoc (E A : List Edt) (x : Edt) : addE E (A ++ [x]) = insE (addE E A) x := by
  unfold addE
  rw [List.foldl_append]
  rfl
theorem sins_nil (c : Nat) (w : World) : Calls Tryz.prog 127 #[.slice none 0 c, .int .i64 0, .int .i64 0, (.func (.func 35) #[] #[])] w fun e w' => e = .returned (.tuple #[]) ∧ w' = w := by
  go_enter Tryz.func127, Tryz.ntmps127
  go_wp2_with fail
  go_loopw [8] (fun i wr => i = .int .i64 1 ∧ wr = w) (fun _ _ => 0)
  case atStart => exact ⟨rfl, rfl⟩
  case round =>
    obtain ⟨rfl, rfl⟩ := hrel
    go_wp2_with fail
    refine bodyPost_end (results_none rfl _ _ _) rfl ?_
    exact ⟨rfl, rfl⟩
theorem sstab_nil (c : Nat) (w : World) : Calls Tryz.prog 83 #[.slice none 0 c, .int .i64 0, (.func (.func 35) #[] #[])] w fun e w' => e = .returned (.tuple #[]) ∧ w' = w := by
  go_enter Tryz.func83, Tryz.ntmps83
  go_wp2_with fail
  go_loopw [7, 8] (fun x y wr => x = .int .i64 0 ∧ y = .int .i64 20 ∧ wr = w) (fun _ _ _ => 0)
  case atStart => exact ⟨rfl, rfl, rfl⟩
  case round =>
    obtain ⟨rfl, rfl, rfl⟩ := hrel
    have HN := Lib.hid (sins_nil c wr)
    go_wp2_with fail
    refine HN.out.mono ?_
    rintro e w2 ⟨rfl, rfl⟩
    go_wp2_with fail
    go_loopw [6] (fun x wr => x = .int .i64 20 ∧ wr = w2) (fun _ _ => 0)
    case atStart => exact ⟨rfl, rfl⟩
    case round =>
      obtain ⟨rfl, rfl⟩ := hrel
      go_wp2_with fail
      refine bodyPost_end (results_none rfl _ _ _) rfl ?_
      exact ⟨rfl, rfl⟩
theorem sort_nil (c : Nat) (w : World) : Calls Tryz.prog 34 #[.slice none 0 c, (.func (.func 35) #[] #[])] w fun e w' => e = .returned (.tuple #[]) ∧ w' = w := by
  have HN := Lib.hid (sstab_nil c w)
  go_enter Tryz.func34, Tryz.ntmps34
  go_wp2_with fail
  refine HN.out.mono ?_
  rintro e w2 ⟨rfl, rfl⟩
  go_wp2_with fail
  refine bodyPost_end (results_none rfl _ _ _) rfl ?_
  exact ⟨rfl, rfl⟩
set_option maxRecDepth 100000 in
theorem sort_own {A : Option Addr} {c m : Nat} {Q : List Rcd} {w : World} (ho : w.ownsRow m 55 6 (.slice A Q.length c) Q.length (rcdK.flat Q)) (hq : ∀ r ∈ Q, okR r) (hn : Q.length ≤ 1000) :
    Calls Tryz.prog 34 #[.slice A Q.length c, .func (.func 35) #[] #[]] w fun e w' => e = .returned (.tuple #[]) ∧ w.grownBy w' (Value.slice A Q.length c).ownBlock ∧ rcdK.In A (sortR Q) w' ∧ (sortR Q).length = Q.length := by
  rcases ownsRow_cases ho with ⟨h, h0⟩ | ⟨g, cap, h, _⟩ <;> injection h with h1 h2 h3 <;> subst h1 h3
  · have hQ : Q = [] := List.eq_nil_of_length_eq_zero h0
    subst hQ
    refine (sort_nil 0 w).mono ?_
    rintro e w2 ⟨rfl, rfl⟩
    have hnil : sortR [] = [] := by
      show (Sort.insOuter befR 0 0 0 #[]).toList = []
      rw [insOuter_stop _ _ _ _ _ (Nat.lt_irrefl 0)]
    rw [hnil]
    exact ⟨rfl, ⟨rfl, rfl, rfl, Nat.le_refl _, fun _ _ _ => rfl⟩, RowK.In.nil _ _, rfl⟩
  · obtain ⟨hH, hgl, _⟩ := holdsK_own (R := rcdK) rfl ho
    have hst : StS Q.length g 0 w Q.toArray w := ⟨by simp, fun q hq' => by rw [getElem!_pos Q.toArray q (by simpa using hq')]; simpa using hq _ (List.getElem_mem _), hH, hgl, ⟨rfl, rfl, rfl, Nat.le_refl _, fun _ _ _ => rfl⟩⟩
    refine (sortStable_any Q.length g 0 _ w w Q.toArray hst (Nat.zero_le _) (by omega)).mono ?_
    rintro e w2 ⟨rfl, d', hs, hd⟩
    have hd2 : d'.toList = sortR Q := hd
    have hat := at_holdsK (R := rcdK) hs.hold
    rw [hd2] at hat
    exact ⟨rfl, hs.grew, fun _ => ⟨g, 0, rfl, hs.gl, hat⟩, by rw [← hd2, Array.length_toList]; exact hs.sz⟩
theorem AtI.grown {w : World} {C : List Value} {S : ByteArray → Prop} {x y : World} {r : Option Nat} (h : AtI w C S x) (hg : x.grownBy y r) (hr : ∀ j, r = some j → w.heap.size + 1 + 1 < j) : AtI w C S y :=
  ⟨h.b0.of (hg.block _ h.b0.lt (fun e => by have := hr _ e.symm; omega)), h.b1.of (hg.block _ h.b1.lt (fun e => by have := hr _ e.symm; omega)), h.st.of_block (hg.block _ h.st.lt (fun e => by have := hr _ e.symm; omega)), h.bel.grown hg h.bel.size (fun j e => by have := hr j e; omega)⟩
theorem inGrown {α : Type} {R : RowK α} {A : Option Addr} {l : List α} {x y : World} {r : Option Nat} (h : R.In A l x) (hg : x.grownBy y r) (hr : ∀ b off, A = some ⟨b, off, none⟩ → r ≠ some b) : R.In A l y := fun hl => by
  obtain ⟨b, off, e, hlt, hat⟩ := h hl
  exact ⟨b, off, e, Nat.lt_of_lt_of_le hlt hg.size, hat.of_block (hg.block _ hlt (fun e2 => hr b off e e2.symm))⟩
theorem inPut6A {α : Type} {R : RowK α} {A : Option Addr} {l : List α} {x : World} {b : Nat} (h : R.In A l x) (hh : ∀ b' off, A = some ⟨b', off, none⟩ → b' ≠ b) (u0 u1 u2 u3 u4 u5 : Value) : R.In A l ((((((x.setCell ⟨b, 0, none⟩ u0).setCell ⟨b, 1, none⟩ u1).setCell ⟨b, 2, none⟩ u2).setCell ⟨b, 3, none⟩ u3).setCell ⟨b, 4, none⟩ u4).setCell ⟨b, 5, none⟩ u5) :=
  inSetA (inSetA (inSetA (inSetA (inSetA (inSetA h (p := ⟨b, 0, none⟩) hh u0) (p := ⟨b, 1, none⟩) hh u1) (p := ⟨b, 2, none⟩) hh u2) (p := ⟨b, 3, none⟩) hh u3) (p := ⟨b, 4, none⟩) hh u4) (p := ⟨b, 5, none⟩) hh u5
theorem zero_putA {b : Nat} {T : TypeId} {x : World} {v0 v1 v2 v3 v4 v5 : Value} (h : Blk b T [v0, v1, v2, v3, v4, v5] x) (u0 u1 u2 u3 u4 u5 : Value) :
    Blk b T [u0, u1, u2, u3, u4, u5] ((((((x.setCell ⟨b, 0, none⟩ u0).setCell ⟨b, 1, none⟩ u1).setCell ⟨b, 2, none⟩ u2).setCell ⟨b, 3, none⟩ u3).setCell ⟨b, 4, none⟩ u4).setCell ⟨b, 5, none⟩ u5) :=
  (((((h.set 0 u0).set 1 u1).set 2 u2).set 3 u3).set 4 u4).set 5 u5
theorem below_put6A {B b : Nat} {w0 x : World} (h : Below B w0 x) (hb : B ≤ b) (u0 u1 u2 u3 u4 u5 : Value) :
    Below B w0 ((((((x.setCell ⟨b, 0, none⟩ u0).setCell ⟨b, 1, none⟩ u1).setCell ⟨b, 2, none⟩ u2).setCell ⟨b, 3, none⟩ u3).setCell ⟨b, 4, none⟩ u4).setCell ⟨b, 5, none⟩ u5) :=
  (((((h.setCell (p := ⟨b, 0, none⟩) hb u0).setCell (p := ⟨b, 1, none⟩) hb u1).setCell (p := ⟨b, 2, none⟩) hb u2).setCell (p := ⟨b, 3, none⟩) hb u3).setCell (p := ⟨b, 4, none⟩) hb u4).setCell (p := ⟨b, 5, none⟩) hb u5
theorem lt_of_some_eq {x y : World} {b : Nat} (h : b < x.heap.size) (e : y.heap[b]? = x.heap[b]?) : b < y.heap.size := by
  rw [Array.getElem?_eq_getElem h] at e
  exact (Array.getElem?_eq_some_iff.1 e).1
theorem sliceBlock {A : Option Addr} {n c b off : Nat} (h : A = some ⟨b, off, none⟩) : (Value.slice A n c).ownBlock = some b := by rw [h]; rfl
set_option maxRecDepth 100000 in
set_option maxHeartbeats 12800000 in
theorem attach_any (p : Pnd) (X : List Edt) (Q : List Rcd) (E R F G : Option Addr) (ec rc fc gc : Nat) (w : World) (hE : edtK.In E p.edits w) (hF : edtK.In F X w) (hG : rcdK.In G Q w) (hp : EPl p.edits) (hx : ∀ x ∈ X, validB x.path.data.toList = true ∧ x.path.size ≤ 4294967281) (hq : ∀ r ∈ Q, okR r) (hn : X.length ≤ 1000 ∧ Q.length ≤ 1000) :
    Calls Tryz.prog 15 #[pndV p E ec R rc, .slice F X.length fc, .slice G Q.length gc] w (AtRet (attP p X Q) w) := by
  have HE := Lib.hid hE
  have HF := Lib.hid hF
  have HG := Lib.hid hG
  have HP := Lib.hid hp
  have HX := Lib.hid hx
  have HQ := Lib.hid hq
  have hpl := hp.len
  obtain ⟨hn1, hn2⟩ := hn
  have hmm := run_makeOpen
  clear hE hF hG hp hx hq
  have HQ181 : Hid (freshE p.edits X = false → attP p X Q = (zeroP, [], [], 181)) := fun h => by unfold attP; rw [if_pos h]
  obtain ⟨pn, pc, pt, ps, V⟩ := p
  unfold pndV pndC
  dsimp only at HE HP hpl HQ181 ⊢
  go_enter Tryz.func15, Tryz.ntmps15
  go_upto_region 2 with fail
  have HI0 : Hid (AtI w [.int .i64 pn, .string pc, .string pt, .bool ps, .slice E V.length ec, .slice R 0 rc] (fun _ => False) (((w.alloc (.cells [.int .i64 pn, .string pc, .string pt, .bool ps, .slice E V.length ec, .slice R 0 rc].toArray 41)).alloc (.cells [.int .i64 0, .string ⟨#[]⟩, .string ⟨#[]⟩, .bool false, .slice none 0 0, .slice none 0 0].toArray 41)).alloc (.map #[] 0))) := by
    refine ⟨((Blk.new w 41 [.int .i64 pn, .string pc, .string pt, .bool ps, .slice E V.length ec, .slice R 0 rc]).alloc _).alloc _, (Blk.new1 w _ 41 [.int .i64 0, .string ⟨#[]⟩, .string ⟨#[]⟩, .bool false, .slice none 0 0, .slice none 0 0]).alloc _, ?_, by (repeat (first | (with_reducible exact Below.refl _ _) | (with_reducible assumption) | (with_reducible refine Below.setCell ?_ ?_ _; rotate_left; focus (first | exact Nat.le_refl _ | (dsimp only; omega))) | (with_reducible refine Below.drew ?_) | (with_reducible refine below_drewN ?_ _) | (with_reducible refine Below.alloc ?_ ?_ _; rotate_left; focus (first | exact Nat.le_refl _ | (simp; done) | (simp; omega)))))⟩
    have h := StrS.new ((w.alloc (.cells [.int .i64 pn, .string pc, .string pt, .bool ps, .slice E V.length ec, .slice R 0 rc].toArray 41)).alloc (.cells [.int .i64 0, .string ⟨#[]⟩, .string ⟨#[]⟩, .bool false, .slice none 0 0, .slice none 0 0].toArray 41))
    rw [show ((w.alloc (.cells [.int .i64 pn, .string pc, .string pt, .bool ps, .slice E V.length ec, .slice R 0 rc].toArray 41)).alloc (.cells [.int .i64 0, .string ⟨#[]⟩, .string ⟨#[]⟩, .bool false, .slice none 0 0, .slice none 0 0].toArray 41)).heap.size = w.heap.size + 1 + 1 by simp] at h
    exact h
  clear hmm
  generalize World.alloc (World.alloc (World.alloc w _) _) (.map #[] 0) = w3 at *
  obtain ⟨d0, d1, d2, d3, d4, d5⟩ := HI0.out.b0.c6
  go_wp2_with fail
  clear d0 d1 d2 d3 d4 d5
  go_loopw [23] (fun i wr => ∃ k : Nat, i = .int .i64 k ∧ k ≤ V.length ∧ AtI w [.int .i64 pn, .string pc, .string pt, .bool ps, .slice E V.length ec, .slice R 0 rc] (fun s => hasP (V.take k) s = true) wr) (fun i _ => V.length - (intOf i).toNat)
  case atStart => exact ⟨0, rfl, Nat.zero_le _, HI0.out.congr fun s => by simp [hasP]⟩
  case round =>
    obtain ⟨k, rfl, hk, hi⟩ := hrel
    have HI := Lib.hid hi
    clear hi HI0
    by_cases hlt : k < V.length
    · obtain ⟨g, off, rfl, hgl, hat⟩ := HE.out (by omega)
      have hgk := List.getElem?_eq_getElem hlt
      have htk : V.take (k + 1) = V.take k ++ [V[k]] := by rw [List.take_succ_eq_append_getElem hlt]
      have hpu := (HP.out.use _ (List.getElem_mem hlt)).2
      generalize hq : V[k] = v at *
      obtain ⟨xp, xa, ⟨tb, tk, te, tx⟩, ⟨cs, cz⟩, xb, xs, xm, xf⟩ := v
      have HTK := Lib.hid htk
      have hat := hat.below HI.out.bel hgl
      (have hcv := fun j (u : Value) (hj : ((⟨xp, xa, ⟨tb, tk, te, tx⟩, ⟨cs, cz⟩, xb, xs, xm, xf⟩ : Edt)).cells[j]? = some u) => ((hat).get hgk hj); have c0 := hcv 0 _ rfl; have c1 := hcv 1 _ rfl; have c2 := hcv 2 _ rfl; have c3 := hcv 3 _ rfl; have c4 := hcv 4 _ rfl; have c5 := hcv 5 _ rfl; have c6 := hcv 6 _ rfl; have c7 := hcv 7 _ rfl; have c8 := hcv 8 _ rfl; have c9 := hcv 9 _ rfl; have c10 := hcv 10 _ rfl; have c11 := hcv 11 _ rfl; have e12 : edtK.n = 12 := rfl; simp only [e12, Nat.add_zero] at c0 c1 c2 c3 c4 c5 c6 c7 c8 c9 c10 c11; clear hcv e12)
      have hb4 := (Below.refl wr.heap.size wr).alloc (Nat.le_refl _) (.cells [.string xp, .int .i64 xa, .int .i64 tb, .bool tk, .bool te, .bool tx, .int .u64 cs, .int .i64 cz, .int .i64 xb, .string xs, .int .i64 xm, .int .i64 xf].toArray 44)
      have HI2 := Lib.hid (HI.out.below hb4)
      have HX4 := Lib.hid (Blk.new wr 44 [.string xp, .int .i64 xa, .int .i64 tb, .bool tk, .bool te, .bool tx, .int .u64 cs, .int .i64 cz, .int .i64 xb, .string xs, .int .i64 xm, .int .i64 xf])
      clear hat hgk hq htk hb4 HI
      go_upto_region 5 with fail
      generalize World.alloc wr _ = w4 at *
      generalize wr.heap.size = eb at *
      clear c0 c1 c2 c3 c4 c5 c6 c7 c8 c9 c10 c11
      obtain ⟨L', hL', hLS⟩ := HI2.out.st
      have HLS := Lib.hid hLS
      obtain ⟨v0, -, -, -, -, -, -, -, -, -, -, -⟩ := HX4.out.c12
      clear hLS
      go_wp2_with (at_mapUpdate; refine wpList_kput rfl _ _ _ 64 rfl 4 Tryz.underlying64 (w.heap.size + 1 + 1) _ rfl hL' xp rfl hpu _ rfl ?_; intro w5 hm5 hg5 hs5)
      have HI5 := Lib.hid (HI2.out.put HLS.out hm5 hg5)
      clear hm5 hg5 hs5 hL' v0
      go_roundw
      case rel =>
        refine ⟨k + 1, ?_, ?_, HI5.out.congr fun s => ?_⟩
        · go_num
        · omega
        · rw [HTK.out, hasP_one]
      case measure => simp [intOf]; omega
    · obtain rfl : k = V.length := by omega
      have HI1 : Hid (AtI w [.int .i64 pn, .string pc, .string pt, .bool ps, .slice E V.length ec, .slice R 0 rc] (fun s => hasP (V ++ X.take 0) s = true) wr) := HI.out.congr fun s => by simp
      clear HI
      go_wp2_with fail
      go_loopw [33] (fun i wr => ∃ k : Nat, i = .int .i64 k ∧ k ≤ X.length ∧ AtI w [.int .i64 pn, .string pc, .string pt, .bool ps, .slice E V.length ec, .slice R 0 rc] (fun s => hasP (V ++ X.take k) s = true) wr ∧ Hid (freshE V (X.take k) = true)) (fun i _ => X.length - (intOf i).toNat)
      case atStart => exact ⟨0, rfl, Nat.zero_le _, HI1.out, rfl⟩
      case round =>
        obtain ⟨k, rfl, hk, hi, HFR⟩ := hrel
        have HI := Lib.hid hi
        clear hi HI1
        by_cases hlt : k < X.length
        · obtain ⟨g, off, rfl, hgl, hat⟩ := HF.out (by omega)
          have hgk := List.getElem?_eq_getElem hlt
          have htk : X.take (k + 1) = X.take k ++ [X[k]] := by rw [List.take_succ_eq_append_getElem hlt]
          have hpu := (HX.out _ (List.getElem_mem hlt)).2
          generalize hq : X[k] = v at *
          have HGK := Lib.hid hgk
          obtain ⟨xp, xa, ⟨tb, tk, te, tx⟩, ⟨cs, cz⟩, xb, xs, xm, xf⟩ := v
          have HTK := Lib.hid htk
          have hat := hat.below HI.out.bel hgl
          (have hcv := fun j (u : Value) (hj : ((⟨xp, xa, ⟨tb, tk, te, tx⟩, ⟨cs, cz⟩, xb, xs, xm, xf⟩ : Edt)).cells[j]? = some u) => ((hat).get hgk hj); have c0 := hcv 0 _ rfl; have c1 := hcv 1 _ rfl; have c2 := hcv 2 _ rfl; have c3 := hcv 3 _ rfl; have c4 := hcv 4 _ rfl; have c5 := hcv 5 _ rfl; have c6 := hcv 6 _ rfl; have c7 := hcv 7 _ rfl; have c8 := hcv 8 _ rfl; have c9 := hcv 9 _ rfl; have c10 := hcv 10 _ rfl; have c11 := hcv 11 _ rfl; have e12 : edtK.n = 12 := rfl; simp only [e12, Nat.add_zero] at c0 c1 c2 c3 c4 c5 c6 c7 c8 c9 c10 c11; clear hcv e12)
          have hb4 := (Below.refl wr.heap.size wr).alloc (Nat.le_refl _) (.cells [.string xp, .int .i64 xa, .int .i64 tb, .bool tk, .bool te, .bool tx, .int .u64 cs, .int .i64 cz, .int .i64 xb, .string xs, .int .i64 xm, .int .i64 xf].toArray 44)
          have HI2 := Lib.hid (HI.out.below hb4)
          have HX4 := Lib.hid (Blk.new wr 44 [.string xp, .int .i64 xa, .int .i64 tb, .bool tk, .bool te, .bool tx, .int .u64 cs, .int .i64 cz, .int .i64 xb, .string xs, .int .i64 xm, .int .i64 xf])
          clear hat hgk hq htk hb4 HI
          go_upto_region 10 with fail
          generalize World.alloc wr _ = w4 at *
          generalize wr.heap.size = eb at *
          clear c0 c1 c2 c3 c4 c5 c6 c7 c8 c9 c10 c11
          obtain ⟨c, hc, hct⟩ := HI2.out.st.run_has (f := xp) hpu
          obtain ⟨v0, -, -, -, -, -, -, -, -, -, -, -⟩ := HX4.out.c12
          cases c
          · have hno : hasP (V ++ X.take k) xp = false := by
              cases h : hasP (V ++ X.take k) xp
              · rfl
              · have := hct.2 h
                cases this
            have HFR2 : Hid (freshE V (X.take (k + 1)) = true) := freshE_take k (by omega) HFR.out _ HGK.out hno
            obtain ⟨L', hL', hLS⟩ := HI2.out.st
            have HLS := Lib.hid hLS
            clear hLS hct hno
            go_wp2_with (at_mapUpdate; refine wpList_kput rfl _ _ _ 64 rfl 4 Tryz.underlying64 (w.heap.size + 1 + 1) _ rfl hL' xp rfl hpu _ rfl ?_; intro w5 hm5 hg5 hs5)
            have HI5 := Lib.hid (HI2.out.put HLS.out hm5 hg5)
            clear hm5 hg5 hs5 hL' v0 hc
            go_roundw
            case rel =>
              refine ⟨k + 1, ?_, ?_, HI5.out.congr fun s => ?_, HFR2⟩
              · go_num
              · omega
              · rw [HTK.out, ← List.append_assoc, hasP_one]
            case measure => simp [intOf]; omega
          · have HQ181 : Hid (attP ⟨pn, pc, pt, ps, V⟩ X Q = (zeroP, [], [], 181)) := HQ181.out (freshE_not k _ HGK.out (hct.1 rfl))
            clear hct
            have KR := HI2.out.b1
            unfold zpA at KR
            obtain ⟨z0, z1, z2, z3, z4, z5⟩ := KR.c6
            have f0 := KR.fz 0
            have f1 := KR.fz 1
            have f2 := KR.fz 2
            have f3 := KR.fz 3
            have f4 := KR.fz 4
            have f5 := KR.fz 5
            have hbl := HI2.out.bel
            have hlb := KR.lt
            go_wp2_with fail
            have KZ := ((((((KR.set 0 (.int .i64 0)).set 1 (.string ⟨#[]⟩)).set 2 (.string ⟨#[]⟩)).set 3 (.bool false)).set 4 (.slice none 0 0)).set 5 (.slice none 0 0))
            have HBZ : Below w.heap.size w _ := (((((hbl.setCell (p := ⟨w.heap.size + 1, 0, none⟩) (by dsimp only; omega) (.int .i64 0)).setCell (p := ⟨w.heap.size + 1, 1, none⟩) (by dsimp only; omega) (.string ⟨#[]⟩)).setCell (p := ⟨w.heap.size + 1, 2, none⟩) (by dsimp only; omega) (.string ⟨#[]⟩)).setCell (p := ⟨w.heap.size + 1, 3, none⟩) (by dsimp only; omega) (.bool false)).setCell (p := ⟨w.heap.size + 1, 4, none⟩) (by dsimp only; omega) (.slice none 0 0)).setCell (p := ⟨w.heap.size + 1, 5, none⟩) (by dsimp only; omega) (.slice none 0 0)
            clear z0 z1 z2 z3 z4 z5 f0 f1 f2 f3 f4 f5 KR hbl
            (generalize World.setCell (World.setCell (World.setCell (World.setCell (World.setCell (World.setCell _ _ _) _ _) _ _) _ _) _ _) _ _ = w9 at *)
            obtain ⟨z0, z1, z2, z3, z4, z5⟩ := KZ.c6
            refine bodyPost_ret (v := .tuple #[pnrV zeroP [] [] none none 0 0, .int .i64 181]) (by simp [results, Tryz.results15, go_sem, z0, z1, z2, z3, z4, z5]; rfl) rfl ?_
            rw [HQ181.out]
            exact ⟨none, 0, none, 0, rfl, RowK.In.nil _ _, RowK.In.nil _ _, HBZ⟩
        · obtain rfl : k = X.length := by omega
          have HFRX : Hid (freshE V X = true) := by
            have h := HFR.out
            rw [List.take_length] at h
            exact h
          clear HFR HQ181
          have HQ184 : Hid (64 < V.length + X.length ∨ 64 < Q.length → attP ⟨pn, pc, pt, ps, V⟩ X Q = (zeroP, [], [], 184)) := fun h => by
            unfold attP
            rw [if_neg (by rw [HFRX.out]; decide), if_pos h]
          have HQ0 : Hid (¬ (64 < V.length + X.length ∨ 64 < Q.length) → attP ⟨pn, pc, pt, ps, V⟩ X Q = (⟨pn, pc, pt, ps, V⟩, addE V X, sortR Q, 0)) := fun h => by
            unfold attP
            rw [if_neg (by rw [HFRX.out]; decide), if_neg h]
          obtain ⟨d0, d1, d2, d3, d4, d5⟩ := HI.out.b0.c6
          have HI2 := HI
          by_cases h1 : 64 < V.length + X.length
          · have HQ184 : Hid (attP ⟨pn, pc, pt, ps, V⟩ X Q = (zeroP, [], [], 184)) := HQ184.out (.inl h1)
            have KR := HI2.out.b1
            unfold zpA at KR
            obtain ⟨z0, z1, z2, z3, z4, z5⟩ := KR.c6
            have f0 := KR.fz 0
            have f1 := KR.fz 1
            have f2 := KR.fz 2
            have f3 := KR.fz 3
            have f4 := KR.fz 4
            have f5 := KR.fz 5
            have hbl := HI2.out.bel
            have hlb := KR.lt
            go_wp2_with fail
            have KZ := ((((((KR.set 0 (.int .i64 0)).set 1 (.string ⟨#[]⟩)).set 2 (.string ⟨#[]⟩)).set 3 (.bool false)).set 4 (.slice none 0 0)).set 5 (.slice none 0 0))
            have HBZ : Below w.heap.size w _ := (((((hbl.setCell (p := ⟨w.heap.size + 1, 0, none⟩) (by dsimp only; omega) (.int .i64 0)).setCell (p := ⟨w.heap.size + 1, 1, none⟩) (by dsimp only; omega) (.string ⟨#[]⟩)).setCell (p := ⟨w.heap.size + 1, 2, none⟩) (by dsimp only; omega) (.string ⟨#[]⟩)).setCell (p := ⟨w.heap.size + 1, 3, none⟩) (by dsimp only; omega) (.bool false)).setCell (p := ⟨w.heap.size + 1, 4, none⟩) (by dsimp only; omega) (.slice none 0 0)).setCell (p := ⟨w.heap.size + 1, 5, none⟩) (by dsimp only; omega) (.slice none 0 0)
            clear z0 z1 z2 z3 z4 z5 f0 f1 f2 f3 f4 f5 KR hbl
            (generalize World.setCell (World.setCell (World.setCell (World.setCell (World.setCell (World.setCell _ _ _) _ _) _ _) _ _) _ _) _ _ = w9 at *)
            obtain ⟨z0, z1, z2, z3, z4, z5⟩ := KZ.c6
            refine bodyPost_ret (v := .tuple #[pnrV zeroP [] [] none none 0 0, .int .i64 184]) (by simp [results, Tryz.results15, go_sem, z0, z1, z2, z3, z4, z5]; rfl) rfl ?_
            rw [HQ184.out]
            exact ⟨none, 0, none, 0, rfl, RowK.In.nil _ _, RowK.In.nil _ _, HBZ⟩
          by_cases h2 : 64 < Q.length
          · have HQ184 : Hid (attP ⟨pn, pc, pt, ps, V⟩ X Q = (zeroP, [], [], 184)) := HQ184.out (.inr h2)
            have KR := HI2.out.b1
            unfold zpA at KR
            obtain ⟨z0, z1, z2, z3, z4, z5⟩ := KR.c6
            have f0 := KR.fz 0
            have f1 := KR.fz 1
            have f2 := KR.fz 2
            have f3 := KR.fz 3
            have f4 := KR.fz 4
            have f5 := KR.fz 5
            have hbl := HI2.out.bel
            have hlb := KR.lt
            go_wp2_with fail
            have KZ := ((((((KR.set 0 (.int .i64 0)).set 1 (.string ⟨#[]⟩)).set 2 (.string ⟨#[]⟩)).set 3 (.bool false)).set 4 (.slice none 0 0)).set 5 (.slice none 0 0))
            have HBZ : Below w.heap.size w _ := (((((hbl.setCell (p := ⟨w.heap.size + 1, 0, none⟩) (by dsimp only; omega) (.int .i64 0)).setCell (p := ⟨w.heap.size + 1, 1, none⟩) (by dsimp only; omega) (.string ⟨#[]⟩)).setCell (p := ⟨w.heap.size + 1, 2, none⟩) (by dsimp only; omega) (.string ⟨#[]⟩)).setCell (p := ⟨w.heap.size + 1, 3, none⟩) (by dsimp only; omega) (.bool false)).setCell (p := ⟨w.heap.size + 1, 4, none⟩) (by dsimp only; omega) (.slice none 0 0)).setCell (p := ⟨w.heap.size + 1, 5, none⟩) (by dsimp only; omega) (.slice none 0 0)
            clear z0 z1 z2 z3 z4 z5 f0 f1 f2 f3 f4 f5 KR hbl
            (generalize World.setCell (World.setCell (World.setCell (World.setCell (World.setCell (World.setCell _ _ _) _ _) _ _) _ _) _ _) _ _ = w9 at *)
            obtain ⟨z0, z1, z2, z3, z4, z5⟩ := KZ.c6
            refine bodyPost_ret (v := .tuple #[pnrV zeroP [] [] none none 0 0, .int .i64 184]) (by simp [results, Tryz.results15, go_sem, z0, z1, z2, z3, z4, z5]; rfl) rfl ?_
            rw [HQ184.out]
            exact ⟨none, 0, none, 0, rfl, RowK.In.nil _ _, RowK.In.nil _ _, HBZ⟩
          have HQ0 : Hid (attP ⟨pn, pc, pt, ps, V⟩ X Q = (⟨pn, pc, pt, ps, V⟩, addE V X, sortR Q, 0)) := HQ0.out (by omega)
          have HCO := Lib.hid (copied_own ⟨pn, pc, pt, ps, V⟩ E R ec rc wr (HE.out.below HI.out.bel) (by dsimp only; omega))
          clear HQ184
          unfold pndV pndC at HCO
          dsimp only at HCO
          go_wp2_with fail
          refine HCO.out.mono ?_
          rintro e w6 ⟨E6, ec6, R6, rc6, m0, rfl, ho6, ⟨hm0, hel0, hr0⟩, hb6⟩
          obtain ⟨m6, hm6, hel6, hr6, hmx⟩ : ∃ m6, wr.heap.size ≤ m6 ∧ (∀ b off, E6 = some ⟨b, off, none⟩ → b < m6) ∧ w6.ownsRow m6 55 6 (.slice R6 0 rc6) 0 [] ∧ m6 ≤ w6.heap.size := by
            rcases ownsRow_cases hr0 with ⟨h, _⟩ | ⟨g, cap, h, hg1, hg2, _⟩
            · refine ⟨w6.heap.size, hb6.size, fun b off e => (ho6.lt b (by rw [e]; rfl)).2, ?_, Nat.le_refl _⟩
              rw [h]
              exact World.ownsRow_nil _ _ _ _
            · exact ⟨m0, hm0, hel0, hr0, by omega⟩
          clear hm0 hel0 hr0
          unfold pndV pndC
          dsimp only at ho6 ⊢
          have hb7 := (Below.refl w6.heap.size w6).alloc (Nat.le_refl _) (.cells #[.int .i64 pn, .string pc, .string pt, .bool ps, .slice E6 V.length ec6, .slice R6 0 rc6] 41)
          have HI7 := Lib.hid ((HI.out.below hb6).below hb7)
          have HK7 := Lib.hid (Blk.new w6 41 [.int .i64 pn, .string pc, .string pt, .bool ps, .slice E6 V.length ec6, .slice R6 0 rc6])
          have HE7 : Hid (edtK.In E6 (addE V (X.take 0)) (w6.alloc (.cells #[.int .i64 pn, .string pc, .string pt, .bool ps, .slice E6 V.length ec6, .slice R6 0 rc6] 41))) := (RowK.In.of_row ho6).below hb7
          have HR7 := Lib.hid (hr6.alloc (.cells #[.int .i64 pn, .string pc, .string pt, .bool ps, .slice E6 V.length ec6, .slice R6 0 rc6] 41))
          have hqs : w.heap.size + 1 + 1 < w6.heap.size := Nat.lt_of_lt_of_le HI.out.st.lt hb6.size
          have HRB : Hid (∀ j, (Value.slice R6 0 rc6).ownBlock = some j → m6 ≤ j ∧ j < w6.heap.size) := fun j e => hr6.lt j e
          have HEB : Hid (∀ b off, E6 = some ⟨b, off, none⟩ → b ≠ w6.heap.size ∧ w.heap.size + 1 < b ∧ ∀ j, (Value.slice R6 0 rc6).ownBlock = some j → b ≠ j) := fun b off e => ⟨fun e2 => by have := (ho6.lt b (by rw [e]; rfl)).2; omega, by have := (ho6.lt b (by rw [e]; rfl)).1; have := HI.out.st.lt; omega, fun j e2 e3 => by have := hel6 b off e; have := (hr6.lt j e2).1; omega⟩
          have hmw : w.heap.size + 1 + 1 < m6 := Nat.lt_of_lt_of_le HI.out.st.lt hm6
          clear hb6 hb7 ho6 hm6 hel6 hr6 HI HI2 HCO d0 d1 d2 d3 d4 d5
          go_upto_region 17 with fail
          generalize World.alloc w6 _ = w7 at *
          generalize w6.heap.size = qb at *
          go_wp2_with fail
          go_loopw [67] (fun i wr => ∃ (k : Nat) (Ei : Option Addr) (eci : Nat), i = .int .i64 k ∧ k ≤ X.length ∧ AtI w [.int .i64 pn, .string pc, .string pt, .bool ps, .slice E V.length ec, .slice R 0 rc] (fun s => hasP (V ++ X.take X.length) s = true) wr ∧ Blk qb 41 [.int .i64 pn, .string pc, .string pt, .bool ps, .slice Ei (addE V (X.take k)).length eci, .slice R6 0 rc6] wr ∧ edtK.In Ei (addE V (X.take k)) wr ∧ Hid (∀ b off, Ei = some ⟨b, off, none⟩ → b ≠ qb ∧ w.heap.size + 1 < b ∧ ∀ j, (Value.slice R6 0 rc6).ownBlock = some j → b ≠ j) ∧ wr.ownsRow m6 55 6 (.slice R6 0 rc6) 0 []) (fun i _ => X.length - (intOf i).toNat)
          case atStart =>
            refine ⟨0, E6, ec6, ?_, ?_, HI7.out, HK7.out, HE7.out, HEB, HR7.out⟩
            · rfl
            · exact Nat.zero_le _
          case round =>
            obtain ⟨k, Ei, eci, rfl, hk, hi, hkb, hin, HEi, hro⟩ := hrel
            have HI := Lib.hid hi
            have HK := Lib.hid hkb
            have HN := Lib.hid hin
            have HO := Lib.hid hro
            clear hi hkb hin hro HI7 HK7 HE7 HEB HR7
            by_cases hlt : k < X.length
            · obtain ⟨g, off, rfl, hgl, hat⟩ := HF.out (by omega)
              have hgk := List.getElem?_eq_getElem hlt
              have htk : X.take (k + 1) = X.take k ++ [X[k]] := by rw [List.take_succ_eq_append_getElem hlt]
              have hxv := HX.out _ (List.getElem_mem hlt)
              generalize hq : X[k] = v at *
              have HXV := Lib.hid hxv
              have HADD : Hid (addE V (X.take (k + 1)) = insE (addE V (X.take k)) v) := by
                show _ = _
                rw [htk, addE_snoc]
              have hfr : freshE V (X.take k) = true := freshE_pre (X.take k) (B := X.drop k) (by rw [List.take_append_drop]; exact HFRX.out)
              have hpl2 := (add_ok (X.take k) HP.out (fun x hx => HX.out x (List.mem_of_mem_take hx)) hfr (by rw [List.length_take]; omega)).1
              have HPL := Lib.hid hpl2
              have hat := hat.below HI.out.bel hgl
              obtain ⟨xp, xa, ⟨tb, tk, te, tx⟩, ⟨cs, cz⟩, xb, xs, xm, xf⟩ := v
              (have hcv := fun j (u : Value) (hj : ((⟨xp, xa, ⟨tb, tk, te, tx⟩, ⟨cs, cz⟩, xb, xs, xm, xf⟩ : Edt)).cells[j]? = some u) => ((hat).get hgk hj); have c0 := hcv 0 _ rfl; have c1 := hcv 1 _ rfl; have c2 := hcv 2 _ rfl; have c3 := hcv 3 _ rfl; have c4 := hcv 4 _ rfl; have c5 := hcv 5 _ rfl; have c6 := hcv 6 _ rfl; have c7 := hcv 7 _ rfl; have c8 := hcv 8 _ rfl; have c9 := hcv 9 _ rfl; have c10 := hcv 10 _ rfl; have c11 := hcv 11 _ rfl; have e12 : edtK.n = 12 := rfl; simp only [e12, Nat.add_zero] at c0 c1 c2 c3 c4 c5 c6 c7 c8 c9 c10 c11; clear hcv e12)
              have hb4 := (Below.refl wr.heap.size wr).alloc (Nat.le_refl _) (.cells [.string xp, .int .i64 xa, .int .i64 tb, .bool tk, .bool te, .bool tx, .int .u64 cs, .int .i64 cz, .int .i64 xb, .string xs, .int .i64 xm, .int .i64 xf].toArray 44)
              have HI2 := Lib.hid (HI.out.below hb4)
              have HK2 := Lib.hid (HK.out.below hb4)
              have HN2 := Lib.hid (HN.out.below hb4)
              have HO2 := Lib.hid (ownsRow_below HO.out hb4)
              have HX4 := Lib.hid (Blk.new wr 44 [.string xp, .int .i64 xa, .int .i64 tb, .bool tk, .bool te, .bool tx, .int .u64 cs, .int .i64 cz, .int .i64 xb, .string xs, .int .i64 xm, .int .i64 xf])
              clear hat hgk hq htk hb4 HI HK HN HO hfr hpl2 hxv
              go_upto_region 20 with fail
              generalize World.alloc wr _ = w8 at *
              generalize wr.heap.size = eb at *
              clear c0 c1 c2 c3 c4 c5 c6 c7 c8 c9 c10 c11
              have HW := Lib.hid (with_anyW (addE V (X.take k)) ⟨xp, xa, ⟨tb, tk, te, tx⟩, ⟨cs, cz⟩, xb, xs, xm, xf⟩ Ei eci w8 HN2.out HPL.out HXV.out)
              unfold Edt.val Edt.cells at HW
              dsimp only at HW
              obtain ⟨q0, q1, q2, q3, q4, q5⟩ := HK2.out.c6
              obtain ⟨v0, v1, v2, v3, v4, v5, v6, v7, v8, v9, v10, v11⟩ := HX4.out.c12
              generalize hLL : addE V (X.take k) = LL at *
              go_wp2_with fail
              refine HW.out.mono ?_
              rintro e w9 ⟨vv, rfl, ho9, hb9⟩
              obtain ⟨A9, c9, rfl⟩ := own_slice ho9
              have hq8 := HK2.out.lt
              have HI9 := Lib.hid (HI2.out.below hb9)
              have HK9 := Lib.hid (HK2.out.below hb9)
              have HO9 := Lib.hid (ownsRow_below HO2.out hb9)
              have HN9 := Lib.hid ho9
              clear hb9 ho9 HI2 HK2 HN2 HO2 HW q0 q1 q2 q3 q4 q5 v0 v1 v2 v3 v4 v5 v6 v7 v8 v9 v10 v11
              have q4 := HK9.out.cell 4
              have f4 := HK9.out.fz 4
              go_wp2_with fail
              have HIA := Lib.hid (HI9.out.setC (p := ⟨qb, 4, none⟩) hqs (.slice A9 (insE LL ⟨xp, xa, ⟨tb, tk, te, tx⟩, ⟨cs, cz⟩, xb, xs, xm, xf⟩).length c9))
              have HKA := Lib.hid (HK9.out.set 4 (.slice A9 (insE LL ⟨xp, xa, ⟨tb, tk, te, tx⟩, ⟨cs, cz⟩, xb, xs, xm, xf⟩).length c9))
              have HNA : Hid (edtK.In A9 (insE LL ⟨xp, xa, ⟨tb, tk, te, tx⟩, ⟨cs, cz⟩, xb, xs, xm, xf⟩) (w9.setCell ⟨qb, 4, none⟩ (.slice A9 (insE LL ⟨xp, xa, ⟨tb, tk, te, tx⟩, ⟨cs, cz⟩, xb, xs, xm, xf⟩).length c9))) := inSetA (RowK.In.of_row HN9.out) (p := ⟨qb, 4, none⟩) (fun b off e => by have := (HN9.out.lt b (by rw [e]; rfl)).1; dsimp only; omega) _
              have HEA : Hid (∀ b off, A9 = some ⟨b, off, none⟩ → b ≠ qb ∧ w.heap.size + 1 < b ∧ ∀ j, (Value.slice R6 0 rc6).ownBlock = some j → b ≠ j) := fun b off e => by
                have h1 := (HN9.out.lt b (by rw [e]; rfl)).1
                exact ⟨by omega, by omega, fun j e2 => by have := (HRB.out j e2).2; omega⟩
              have HOA := Lib.hid (ownSetA HO9.out (p := ⟨qb, 4, none⟩) (fun e => by have := (HRB.out _ e).2; dsimp only at this; omega) (.slice A9 (insE LL ⟨xp, xa, ⟨tb, tk, te, tx⟩, ⟨cs, cz⟩, xb, xs, xm, xf⟩).length c9))
              clear q4 f4 HI9 HK9 HN9 HO9
              go_roundw
              case rel =>
                refine ⟨k + 1, A9, c9, ?_, ?_, ?_, ?_, ?_, ?_, ?_⟩
                · go_num
                · omega
                · exact HIA.out
                · rw [HADD.out]; exact HKA.out
                · rw [HADD.out]; exact HNA.out
                · exact HEA
                · exact HOA.out
              case measure => simp [intOf]; omega
            · obtain rfl : k = X.length := by omega
              have HK2 : Hid (Blk qb 41 [.int .i64 pn, .string pc, .string pt, .bool ps, .slice Ei (addE V X).length eci, .slice R6 0 rc6] wr) := by
                have h := HK.out
                rw [List.take_length] at h
                exact h
              have HN2 : Hid (edtK.In Ei (addE V X) wr) := by
                have h := HN.out
                rw [List.take_length] at h
                exact h
              clear HK HN
              have hG := HG.out.below HI.out.bel
              have hnw := RowK.In.news hG
              have HNW := Lib.hid hnw
              clear hG hnw
              have q5 := HK2.out.cell 5
              obtain ⟨i0, hi0, hz0, hz1, hz2⟩ := info_parts Tryz.infoRec18
              have hmr : m6 ≤ wr.heap.size := by have := HK2.out.lt; omega
              generalize hLL : addE V X = LL at *
              have hqr := HK2.out.lt
              go_upto_region 23 with (at_builtin; go_loud (refine wpList_append_anyA rfl _ _ 35 rfl m6 55 i0 zeroRcd.val 6 64 Tryz.underlying35 hi0 hz0 hz1 hz2 rfl (by decide) (.slice R6 0 rc6) 0 [] rfl HO.out G Q.length gc (rcdK.flat Q) rfl (rcdK.flat_len Q) HNW.out (rcdK.flat_ones Q) (by unfold maxLen; omega) (by omega) hmr ?_); intro v2 w8 ho8 hg8 hat8; rw [Nat.zero_add, List.nil_append] at ho8; obtain ⟨Av, cv, rfl⟩ := own_slice ho8; have HO8 := Lib.hid ho8; have HG8 := Lib.hid hg8; have HA8 := Lib.hid (show (Value.slice Av Q.length cv).ownBlock = _ ∨ (Value.slice Av Q.length cv).ownBlock = _ from hat8); have HK8 := Lib.hid (HK2.out.of (hg8.block _ hqr (fun e => by have := (HRB.out _ e.symm).2; omega))); clear ho8 hg8 hat8 q5; have q5 := HK8.out.cell 5; have f5 := HK8.out.fz 5)
              have hv2 : (Value.slice Av Q.length cv).ownBlock ≠ some qb := fun e => by
                rcases HA8.out with e2 | e2
                · have := (HRB.out qb (by rw [← e2]; exact e)).2
                  omega
                · rw [e] at e2
                  injection e2 with e2
                  omega
              have hvm : ∀ j, (Value.slice Av Q.length cv).ownBlock = some j → w.heap.size + 1 + 1 < j := fun j e => by
                have := (HO8.out.lt j e).1
                omega
              have HKA := Lib.hid (HK8.out.set 5 (.slice Av Q.length cv))
              have HOA := Lib.hid (ownSetA HO8.out (p := ⟨qb, 5, none⟩) hv2 (.slice Av Q.length cv))
              have HIA := Lib.hid ((HI.out.grown HG8.out (fun j e => by have := (HRB.out j e).1; omega)).setC (p := ⟨qb, 5, none⟩) (by dsimp only; omega) (.slice Av Q.length cv))
              have HNA : Hid (∀ b off, Ei = some ⟨b, off, none⟩ → b < wr.heap.size → (w8.setCell ⟨qb, 5, none⟩ (.slice Av Q.length cv)).heap[b]? = wr.heap[b]? ∧ (Value.slice Av Q.length cv).ownBlock ≠ some b) := fun b off e hlt => by
                have h1 := HEi.out b off e
                have h2 : (Value.slice R6 0 rc6).ownBlock ≠ some b := fun e2 => h1.2.2 b e2 rfl
                refine ⟨(Below.heap_setCell _ _ _ _ (by dsimp only; omega)).trans (HG8.out.block b hlt (fun e2 => h2 e2.symm)), fun e2 => ?_⟩
                rcases HA8.out with e3 | e3
                · exact h2 (e3.symm.trans e2)
                · rw [e2] at e3
                  injection e3 with e3
                  omega
              clear HK8 HO8 HI HG8 q5 f5 HA8
              generalize World.setCell w8 ⟨qb, 5, none⟩ (.slice Av Q.length cv) = w9 at *
              have hso := sort_own HOA.out HQ.out (by omega)
              have HSO := Lib.hid hso
              clear hso
              have q5 := HKA.out.cell 5
              go_wp2_with fail
              refine HSO.out.mono ?_
              rintro e wz ⟨rfl, hgz, hinz, hql⟩
              have HQL : Hid ((sortR Q).length = Q.length) := hql
              have HKZ := Lib.hid (HKA.out.of (hgz.block _ HKA.out.lt (fun e => hv2 e.symm)))
              have HIZ := Lib.hid (HIA.out.grown hgz hvm)
              have HNZ : Hid (edtK.In Ei LL wz) := fun hl => by
                obtain ⟨b, off, e, hlt, hat⟩ := HN2.out hl
                have h1 := HNA.out b off e hlt
                have hz : w9.heap.size ≤ wz.heap.size := hgz.size
                have hlt9 : b < w9.heap.size := lt_of_some_eq hlt h1.1
                exact ⟨b, off, e, Nat.lt_of_lt_of_le hlt9 hz, hat.of_block ((hgz.block b hlt9 (fun e2 => h1.2 e2.symm)).trans h1.1)⟩
              have HRZ := Lib.hid hinz
              clear hgz hinz hql q5 HKA HIA HOA HN2 HNA HSO
              obtain ⟨q0, q1, q2, q3, q4, q5⟩ := HKZ.out.c6
              have KR := HIZ.out.b1
              unfold zpA at KR
              obtain ⟨z0, z1, z2, z3, z4, z5⟩ := KR.c6
              have f0 := KR.fz 0
              have f1 := KR.fz 1
              have f2 := KR.fz 2
              have f3 := KR.fz 3
              have f4 := KR.fz 4
              have f5 := KR.fz 5
              have hbl := HIZ.out.bel
              go_wp2_with fail
              have KZ := zero_putA KR (.int .i64 pn) (.string pc) (.string pt) (.bool ps) (.slice Ei LL.length eci) (.slice Av Q.length cv)
              have HBZ := below_put6A hbl (b := w.heap.size + 1) (by omega) (.int .i64 pn) (.string pc) (.string pt) (.bool ps) (.slice Ei LL.length eci) (.slice Av Q.length cv)
              have HNP := inPut6A HNZ.out (b := w.heap.size + 1) (fun b' off e => by have := (HEi.out b' off e).2.1; omega) (.int .i64 pn) (.string pc) (.string pt) (.bool ps) (.slice Ei LL.length eci) (.slice Av Q.length cv)
              have HRP := inPut6A HRZ.out (b := w.heap.size + 1) (fun b' off e => by have := hvm b' (sliceBlock e); omega) (.int .i64 pn) (.string pc) (.string pt) (.bool ps) (.slice Ei LL.length eci) (.slice Av Q.length cv)
              clear z0 z1 z2 z3 z4 z5 f0 f1 f2 f3 f4 f5 KR hbl
              (generalize World.setCell (World.setCell (World.setCell (World.setCell (World.setCell (World.setCell _ _ _) _ _) _ _) _ _) _ _) _ _ = w11 at *)
              obtain ⟨z0, z1, z2, z3, z4, z5⟩ := KZ.c6
              have hql := HQL.out
              refine bodyPost_ret (v := .tuple #[pnrV ⟨pn, pc, pt, ps, V⟩ LL (sortR Q) Ei Av eci cv, .int .i64 0]) (by unfold pnrV pnrC; rw [hql]; simp [results, Tryz.results15, go_sem, z0, z1, z2, z3, z4, z5]) rfl ?_
              rw [HQ0.out]
              exact ⟨Ei, eci, Av, cv, rfl, HNP, HRP, HBZ⟩
end Go.Proofs.YtocffknoeknabaaGreatDoor
