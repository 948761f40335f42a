/-
  The files of a device in memory, and what the operations do to them.
-/
import Derived.Test.YthjbaafbkalomaaPut
import Derived.Test.YthjbaafbkalomaaMapG
import Derived.Test.YthjbaafbkalomaaMix
namespace Go.Proofs.Ythjbaafbkalomaa
open Go.RowKit

/-- Files: the bytes by the name, and how many there are. -/
structure Fl where
  m : ByteArray → Option (List UInt8)
  n : Nat
def Fl.put (f : Fl) (k : ByteArray) (l : List UInt8) : Fl := ⟨fun q => if q = k then some l else f.m q, if (f.m k).isSome then f.n else f.n + 1⟩
def Fl.del (f : Fl) (k : ByteArray) : Fl := ⟨fun q => if q = k then none else f.m q, if (f.m k).isSome then f.n - 1 else f.n⟩
def Fl.get (f : Fl) (k : ByteArray) : List UInt8 := (f.m k).getD []

/-- A value that reads as these bytes. -/
structure BytesAt (g : Gh) (w : World) (v : Value) (l : List UInt8) : Prop where
  ex : ∃ A cap, v = .slice A l.length cap ∧ l.length ≤ cap ∧ cap ≤ maxLen ∧ (A = none → l.length = 0) ∧ Rd 1 g w A l.length (bv l)
theorem BytesAt.ext {g g' : Gh} {w w' : World} {v : Value} {l : List UInt8} {M : Nat → Prop} (h : BytesAt g w v l) (hx : Ext M g w g' w') : BytesAt g' w' v l := by
  obtain ⟨A, cap, h1, h2, h3, h4, h5⟩ := h.ex
  exact ⟨A, cap, h1, h2, h3, h4, h5.ext hx⟩

/-- Files that are only read. -/
structure FlRd (g : Gh) (w : World) (b : Nat) (f : Fl) : Prop where
  ex : ∃ L, MapIs b L w ∧ L.length = f.n ∧ (∀ k, look L k = none → f.m k = none) ∧ ∀ k v, look L k = some v → ∃ l, f.m k = some l ∧ BytesAt g w v l
theorem FlRd.ext {g g' : Gh} {w w' : World} {b : Nat} {f : Fl} {M : Nat → Prop} (h : FlRd g w b f) (hx : Ext M g w g' w') (hb : w'.heap[b]? = w.heap[b]?) : FlRd g' w' b f := by
  obtain ⟨L, h1, h2, h3, h4⟩ := h.ex
  exact ⟨L, h1.of_block hb, h2, h3, fun k v hl => let ⟨l, e1, e2⟩ := h4 k v hl; ⟨l, e1, e2.ext hx⟩⟩

/-- Files that are added to: each value may be appended to by o, no two in one block. -/
structure FlAp (o : Nat) (g : Gh) (w : World) (b : Nat) (f : Fl) : Prop where
  ex : ∃ L, MapIs b L w ∧ L.length = f.n ∧ (∀ k, look L k = none → f.m k = none) ∧ (∀ k v, look L k = some v → ∃ l A cap, f.m k = some l ∧ v = .slice A l.length cap ∧ l.length ≤ 8388608 ∧ App 5 1 o g w A l.length cap (bv l)) ∧
    (∀ k k' A n c A' n' c', look L k = some (.slice A n c) → look L k' = some (.slice A' n' c') → k ≠ k' → n < c → n' < c' → ∀ b off b' off', A = some ⟨b, off, none⟩ → A' = some ⟨b', off', none⟩ → b ≠ b')
  O : g.O b = o
  F : g.F b = 0
theorem FlAp.rd {o : Nat} {g : Gh} {w : World} {b : Nat} {f : Fl} (h : FlAp o g w b f) : FlRd g w b f := by
  obtain ⟨L, h1, h2, h3, h4, _⟩ := h.ex
  refine ⟨L, h1, h2, h3, fun k v hl => ?_⟩
  obtain ⟨l, A, cap, e1, e2, _, ha⟩ := h4 k v hl
  exact ⟨l, e1, A, cap, e2, ha.le, ha.mx, fun h => (ha.nz h).1, ha.rd⟩
theorem FlAp.lt {o : Nat} {g : Gh} {w : World} {b : Nat} {f : Fl} (h : FlAp o g w b f) : b < w.heap.size := by
  obtain ⟨L, h1, _⟩ := h.ex
  exact h1.lt
/-- Kept where neither the map nor any of its rows that have room was touched. -/
theorem FlAp.ext {o : Nat} {g g' : Gh} {w w' : World} {b : Nat} {f : Fl} {M : Nat → Prop} (h : FlAp o g w b f) (hx : Ext M g w g' w') (hm : ¬ M o) : FlAp o g' w' b f := by
  have hlt := h.lt
  obtain ⟨L, h1, h2, h3, h4, h5⟩ := h.ex
  have hb := hx.keep b hlt (by rw [h.O]; exact hm)
  refine ⟨⟨L, h1.of_block hb.1, h2, h3, fun k v hl => ?_, h5⟩, (hx.own b hlt).trans h.O, hb.2.trans h.F⟩
  obtain ⟨l, A, cap, e1, e2, e3, ha⟩ := h4 k v hl
  exact ⟨l, A, cap, e1, e2, e3, ha.ext hx hm⟩
theorem FlAp.ext0 {o : Nat} {g g' : Gh} {w w' : World} {b : Nat} {f : Fl} {M : Nat → Prop} (h : FlAp o g w b f) (hx : Ext M g w g' w') (hb : Below w.heap.size w w') (hF : ∀ k, k < w.heap.size → g'.F k = g.F k) : FlAp o g' w' b f := by
  have hlt := h.lt
  obtain ⟨L, h1, h2, h3, h4, h5⟩ := h.ex
  refine ⟨⟨L, h1.below hb hlt, h2, h3, fun k v hl => ?_, h5⟩, (hx.own b hlt).trans h.O, (hF b hlt).trans h.F⟩
  obtain ⟨l, A, cap, e1, e2, e3, ha⟩ := h4 k v hl
  exact ⟨l, A, cap, e1, e2, e3, ha.ext' hx fun b off _ hb' _ => ⟨hb.block b hb', hF b hb'⟩⟩

/-- A file gets a new value, whose row is a new block (or has no room), in a step that touched the map alone. -/
theorem FlAp.put1 {o : Nat} {g : Gh} {w w' : World} {b : Nat} {f : Fl} (h : FlAp o g w b f) (hg : w.grownBy w' (some b)) (k : ByteArray) (A : Option Addr) (cap : Nat) (l : List UInt8) (hl : l.length ≤ 8388608) (hput : ∀ L, MapIs b L w → MapIs b (Go.Proofs.Ythjbaafbkalomaa.put L k (.slice A l.length cap)) w')
    (ha : App 5 1 o g w A l.length cap (bv l)) (hnew : ∀ L, MapIs b L w → ∀ k' A' n' c' b' off' b1 off1, k' ≠ k → look L k' = some (.slice A' n' c') → n' < c' → A' = some ⟨b', off', none⟩ → A = some ⟨b1, off1, none⟩ → l.length < cap → b' ≠ b1) : FlAp o g w' b (f.put k l) := by
  have hlt := h.lt
  obtain ⟨L, h1, h2, h3, h4, h5⟩ := h.ex
  have hx : Ext (· = o) g w g w' := (Ext.refl (· = o) g w).one hg (fun _ => h.O) h.F
  have hk2 : ∀ v, look L k = some v → (f.m k).isSome = true := fun v hv => by obtain ⟨l, _, _, e, _⟩ := h4 k v hv; rw [e]; rfl
  have hk1 : look L k = none → (f.m k).isSome = false := fun hv => by rw [h3 k hv]; rfl
  have happ : ∀ A n c xs, App 5 1 o g w A n c xs → App 5 1 o g w' A n c xs := fun A n c xs ha => ha.ext' hx fun b1 off hA hb1 hlt1 => by
    obtain ⟨h0, b2, cs, e1, e2, e3, e4, e5⟩ := ha.sp hlt1
    have hne : some b1 ≠ some b := fun e => by
      injection e with e
      rw [hA] at e1; injection e1 with e1; injection e1 with e1 _
      subst e1; subst e
      rw [h.F] at e3
      omega
    exact ⟨hg.block b1 hb1 hne, rfl⟩
  refine ⟨⟨_, hput L h1, ?_, fun q hq => ?_, fun q v hq => ?_, fun q q' A1 n1 c1 A2 n2 c2 hq hq' hne hl1 hl2 => ?_⟩, h.O, h.F⟩
  · rw [put_len, h2]
    unfold Fl.put
    cases hl : look L k with
    | none => simp [hk1 hl]
    | some v => simp [hk2 v hl]
  · rw [look_put] at hq
    unfold Fl.put
    dsimp only
    split at hq
    · cases hq
    · rename_i hne; rw [if_neg hne]; exact h3 q hq
  · rw [look_put] at hq
    unfold Fl.put
    dsimp only
    split at hq
    · rename_i he
      injection hq with hq
      exact ⟨l, A, cap, by rw [if_pos he], hq.symm, hl, happ _ _ _ _ ha⟩
    · rename_i hne
      obtain ⟨l', A', cap', e1, e2, e3, ha'⟩ := h4 q v hq
      exact ⟨l', A', cap', by rw [if_neg hne]; exact e1, e2, e3, happ _ _ _ _ ha'⟩
  · rw [look_put] at hq hq'
    split at hq
    · rename_i he
      split at hq'
      · rename_i he'; exact absurd (he.trans he'.symm) hne
      · rename_i he'
        injection hq with hq
        injection hq with e1 e2 e3
        subst e1; subst e2; subst e3
        intro b1 off1 b2 off2 hA1 hA2 e
        exact hnew L h1 q' A2 n2 c2 b2 off2 b1 off1 he' hq' hl2 hA2 hA1 hl1 e.symm
    · rename_i he
      split at hq'
      · injection hq' with hq'
        injection hq' with e1 e2 e3
        subst e1; subst e2; subst e3
        intro b1 off1 b2 off2 hA1 hA2
        exact hnew L h1 q A1 n1 c1 b1 off1 b2 off2 he hq hl1 hA1 hA2 hl2
      · exact h5 q q' A1 n1 c1 A2 n2 c2 hq hq' hne hl1 hl2

theorem MapIs.inj {b : Nat} {L L' : List (ByteArray × Value)} {w : World} (h : MapIs b L w) (h' : MapIs b L' w) : L = L' := by
  obtain ⟨es, clk, q1, q2, q3⟩ := h
  obtain ⟨es', clk', q1', q2', q3'⟩ := h'
  rw [q1] at q1'
  injection q1' with q1'
  injection q1' with e1 e2
  subst e1
  have h := q2.symm.trans q2'
  clear q1 q2 q2' q3 q3'
  induction L generalizing L' with
  | nil => cases L' with
    | nil => rfl
    | cons _ _ => simp at h
  | cons x r ih => cases L' with
    | nil => simp at h
    | cons y r' =>
      simp only [List.map_cons, List.cons.injEq, Prod.mk.injEq, Value.string.injEq] at h
      obtain ⟨⟨h1, h2⟩, h3⟩ := h
      rw [ih h3, Prod.ext h1 h2]
/-- A block that is no row of bytes. -/
def Other (g : Gh) (w : World) (b : Nat) : Prop := g.F b = 0 ∨ ∃ cs e fr, w.heap[b]? = some (.cells cs e fr) ∧ e ≠ 5
/-- What an operation on files leaves: of blocks that are no rows the map alone was touched. -/
def FilesP (o nm : Nat) (g : Gh) (w : World) (f' : Fl) (e : Ending) (w' : World) : Prop :=
  e = .returned (.tuple #[]) ∧ ∃ g', Ext (· = o) g w g' w' ∧ FlAp o g' w' nm f' ∧ ∀ b, b < w.heap.size → b ≠ nm → Other g w b → w'.heap[b]? = w.heap[b]? ∧ g'.F b = g.F b

theorem filesP_new {o nm : Nat} {g g1 : Gh} {w w0 w1 w2 : World} {f : Fl} {k : ByteArray} {l : List UInt8} {A : Option Addr} {cap : Nat} (hf : FlAp o g w nm f) (hb0 : Below w.heap.size w w0) (hb : Below w0.heap.size w0 w1) (hF : ∀ b, b < w0.heap.size → g1.F b = g.F b) (hO : ∀ b, b < w0.heap.size → g1.O b = g.O b)
    (ha : App 5 1 o g1 w1 A l.length cap (bv l)) (hnew : ∀ b off, A = some ⟨b, off, none⟩ → w0.heap.size ≤ b) (hl : l.length ≤ 8388608) (hput : ∀ L, MapIs nm L w1 → MapIs nm (put L k (.slice A l.length cap)) w2) (hg : w1.grownBy w2 (some nm)) :
    FilesP o nm g w (f.put k l) (.returned (.tuple #[])) w2 := by
  have hs0 := hb0.size
  have hbb : Below w.heap.size w w1 := hb0.trans (hb.mono hs0)
  have hx : Ext (· = o) g w g1 w1 := (Ext.of_below (· = o) g hbb).up (fun b hb => hF b (by omega)) (fun b hb => hO b (by omega))
  have hf1 := hf.ext0 hx hbb (fun b hb => hF b (by omega))
  refine ⟨rfl, g1, hx.one hg (fun _ => hf.O) hf1.F, hf1.put1 hg k A cap l hl hput ha ?_, fun b hbl hne _ => ?_⟩
  · intro L hL k' A' n' c' b' off' b1 off1 hk hlk hlt hA' hA1 _ e
    have h1 := hnew b1 off1 hA1
    obtain ⟨L0, m1, m2, m3, m4, _⟩ := hf.ex
    have hL0 : look L0 k' = look L k' := by rw [(m1.below hbb hf.lt).inj hL]
    rw [← hL0] at hlk
    obtain ⟨l', A2, cap2, e1, e2, e3, ha2⟩ := m4 k' _ hlk
    injection e2 with e2 e4 e5
    subst e2
    obtain ⟨h0, b2, cs, f1, f2, f3, f4, f5⟩ := ha2.sp (by omega)
    rw [hA'] at f1
    injection f1 with f1
    injection f1 with f1 _
    have := block_lt f4
    omega
  · exact ⟨by rw [hg.block b (by have := hbb.size; omega) (fun e => hne (by injection e)), hbb.block b hbl], hF b (by omega)⟩

set_option maxRecDepth 100000 in
set_option maxHeartbeats 800000 in
theorem create_any (o nm : Nat) (g : Gh) (f : Fl) (k to : ByteArray) (tears : Bool) (fv : Value) (A : Option Addr) (c : Nat) (l : List UInt8) (w : World) (hf : FlAp o g w nm f) (hr : Rd 1 g w A l.length (bv l)) (hz : A = none → l.length = 0) (hl : l.length ≤ 8388608) :
    Calls Try.prog 66 #[.map (some nm), .agg #[fv, .string k, .string to, .slice A l.length c, .bool tears]] w (FilesP o nm g w (f.put k l)) := by
  have HF := Lib.hid hf
  have HR := Lib.hid hr
  have HZ := Lib.hid hz
  have hlt := hf.lt
  clear hf hr hz
  have hw1 : Below w.heap.size w (w.alloc (.cells #[fv, .string k, .string to, .slice A l.length c, .bool tears] 96)).drew := ((Below.refl _ _).alloc (Nat.le_refl _) _).drew
  have hS : Blk w.heap.size 96 [fv, .string k, .string to, .slice A l.length c, .bool tears] (w.alloc (.cells #[fv, .string k, .string to, .slice A l.length c, .bool tears] 96)).drew := (Blk.new w 96 [fv, .string k, .string to, .slice A l.length c, .bool tears]).drew
  go_enter Try.func66, Try.ntmps66
  go_wp2_with fail
  (refine wp_region_mix (S := Blk w.heap.size 96 [fv, .string k, .string to, .slice A l.length c, .bool tears]) [] [([0, 1, 2, 3, 4], 5), ([], 6)] (by kernel_rfl) (by kernel_rfl) (by intro c a d v w h; cases d <;> exact h) hS ?_; have hN : Nonempty (Held (Blk w.heap.size 96 [fv, .string k, .string to, .slice A l.length c, .bool tears])) := ⟨⟨_, hS⟩⟩)
  have r1 := fun y : Held (Blk w.heap.size 96 [fv, .string k, .string to, .slice A l.length c, .bool tears]) => y.ok.cell 1
  have r3 := fun y : Held (Blk w.heap.size 96 [fv, .string k, .string to, .slice A l.length c, .bool tears]) => y.ok.cell 3
  (unfold wpMix wpRd; (repeat (first | simp only [List.filterMap_cons] | simp only [List.filterMap_nil] | simp only [List.getElem?_toArray] | simp only [List.getElem?_cons_zero] | simp only [List.getElem?_cons_succ])); (try dsimp only); change wpQuiet _ _ _ _ (_ :: _ :: _ :: _ :: _ :: []) _; (repeat (go_big_quiet_step (fail))); refine wpQuiet_nil ?_; (try dsimp only))
  go_wp2_with fail
  refine (cloneB_any o g A l.length c (bv l) _ (HR.out.ext (Ext.of_below (fun _ => True) g hw1)) HZ.out (bv_one l) (by omega)).mono ?_
  rintro e w1 ⟨A', cap', g1, rfl, hb1, hF1, hO1, ha1, _, hnew1⟩
  have hS1 := hS.below hb1
  go_wp2_with fail
  refine ⟨hS1, ?_⟩
  obtain ⟨L, hL, _⟩ := HF.out.ex
  have hs1 := hb1.size
  have hL1 : MapIs nm L w1 := (hL.below hw1 hlt).below hb1 (by simp; omega)
  (unfold wpMix wpRd; (repeat (first | simp only [List.filterMap_cons] | simp only [List.filterMap_nil] | simp only [List.getElem?_toArray] | simp only [List.getElem?_cons_zero] | simp only [List.getElem?_cons_succ])); (try dsimp only); change wpQuiet _ _ _ _ ([]) _; (repeat (go_big_quiet_step (fail))); refine wpQuiet_nil ?_; (try dsimp only))
  refine wpList_put rfl _ _ _ 60 rfl 9 37 Try.underlying60 Try.underlying9 nm L rfl hL1 k rfl (.slice A' l.length cap') rfl ?_
  intro w2 hL2 hg2
  have hfin := filesP_new (k := k) (l := l) HF.out hw1 hb1 hF1 hO1 ha1 hnew1 hl (fun L' hL' => by rw [← hL1.inj hL']; exact hL2) hg2
  have HFIN := Lib.hid hfin
  clear hfin hF1 hO1
  refine ⟨?_, ?_⟩
  · exact hS1.grown hg2 (fun e => by injection e; omega)
  (unfold wpMix wpRd; (repeat (first | simp only [List.filterMap_cons] | simp only [List.filterMap_nil] | simp only [List.getElem?_toArray] | simp only [List.getElem?_cons_zero] | simp only [List.getElem?_cons_succ])); (try dsimp only); change wpQuiet _ _ _ _ ([]) _; (repeat (go_big_quiet_step (fail))); refine wpQuiet_nil ?_; (try dsimp only))
  go_end0
  exact HFIN.out

/-- The same where a row was appended to before the map was written. -/
theorem FlAp.put2 {o : Nat} {g g1 : Gh} {w w1 w' : World} {b : Nat} {f : Fl} (h : FlAp o g w b f) (hx1 : Ext (· = o) g w g1 w1) (hmap : w1.heap[b]? = w.heap[b]?) (hF1 : g1.F b = 0) {L : List (ByteArray × Value)} (hL : MapIs b L w) (k : ByteArray)
    (hoth : ∀ k' A' n' c' b' off', k' ≠ k → look L k' = some (.slice A' n' c') → n' < c' → A' = some ⟨b', off', none⟩ → b' < w.heap.size → w1.heap[b']? = w.heap[b']? ∧ g1.F b' = g.F b')
    (hg : w1.grownBy w' (some b)) (A : Option Addr) (cap : Nat) (l : List UInt8) (hl : l.length ≤ 8388608) (hput : MapIs b (Go.Proofs.Ythjbaafbkalomaa.put L k (.slice A l.length cap)) w')
    (ha : App 5 1 o g1 w1 A l.length cap (bv l)) (hnew : ∀ k' A' n' c' b' off' b1 off1, k' ≠ k → look L k' = some (.slice A' n' c') → n' < c' → A' = some ⟨b', off', none⟩ → A = some ⟨b1, off1, none⟩ → l.length < cap → b' ≠ b1) : FlAp o g1 w' b (f.put k l) := by
  have hlt := h.lt
  obtain ⟨L0, h1, h2, h3, h4, h5⟩ := h.ex
  obtain rfl := h1.inj hL
  have hO1 : g1.O b = o := (hx1.own b hlt).trans h.O
  have hx2 : Ext (· = o) g1 w1 g1 w' := (Ext.refl (· = o) g1 w1).one hg (fun _ => hO1) hF1
  have hk2 : ∀ v, look L0 k = some v → (f.m k).isSome = true := fun v hv => by obtain ⟨l, _, _, e, _⟩ := h4 k v hv; rw [e]; rfl
  have hk1 : look L0 k = none → (f.m k).isSome = false := fun hv => by rw [h3 k hv]; rfl
  have happ : ∀ A n c xs, App 5 1 o g1 w1 A n c xs → App 5 1 o g1 w' A n c xs := fun A n c xs ha => ha.ext' hx2 fun b1 off hA hb1 hlt1 => by
    obtain ⟨h0, b2, cs, e1, e2, e3, e4, e5⟩ := ha.sp hlt1
    have hne : some b1 ≠ some b := fun e => by
      injection e with e
      rw [hA] at e1; injection e1 with e1; injection e1 with e1 _
      subst e1; subst e
      rw [hF1] at e3
      omega
    exact ⟨hg.block b1 hb1 hne, rfl⟩
  refine ⟨⟨_, hput, ?_, fun q hq => ?_, fun q v hq => ?_, fun q q' A1 n1 c1 A2 n2 c2 hq hq' hne hl1 hl2 => ?_⟩, hO1, hF1⟩
  · rw [put_len, h2]
    unfold Fl.put
    cases hl : look L0 k with
    | none => simp [hk1 hl]
    | some v => simp [hk2 v hl]
  · rw [look_put] at hq
    unfold Fl.put
    dsimp only
    split at hq
    · cases hq
    · rename_i hne; rw [if_neg hne]; exact h3 q hq
  · rw [look_put] at hq
    unfold Fl.put
    dsimp only
    split at hq
    · rename_i he
      injection hq with hq
      exact ⟨l, A, cap, by rw [if_pos he], hq.symm, hl, happ _ _ _ _ ha⟩
    · rename_i hne
      obtain ⟨l', A', cap', e1, e2, e3, ha'⟩ := h4 q v hq
      refine ⟨l', A', cap', by rw [if_neg hne]; exact e1, e2, e3, happ _ _ _ _ (ha'.ext' hx1 fun b1 off hA hb1 hlt1 => ?_)⟩
      subst e2
      exact hoth q A' _ cap' b1 off hne hq hlt1 hA hb1
  · rw [look_put] at hq hq'
    split at hq
    · rename_i he
      split at hq'
      · rename_i he'; exact absurd (he.trans he'.symm) hne
      · rename_i he'
        injection hq with hq
        injection hq with e1 e2 e3
        subst e1; subst e2; subst e3
        intro b1 off1 b2 off2 hA1 hA2 e
        exact hnew q' A2 n2 c2 b2 off2 b1 off1 he' hq' hl2 hA2 hA1 hl1 e.symm
    · rename_i he
      split at hq'
      · injection hq' with hq'
        injection hq' with e1 e2 e3
        subst e1; subst e2; subst e3
        intro b1 off1 b2 off2 hA1 hA2
        exact hnew q A1 n1 c1 b1 off1 b2 off2 he hq hl1 hA1 hA2 hl2
      · exact h5 q q' A1 n1 c1 A2 n2 c2 hq hq' hne hl1 hl2

theorem FlAp.found {o : Nat} {g : Gh} {w : World} {b : Nat} {f : Fl} (h : FlAp o g w b f) {L : List (ByteArray × Value)} (hL : MapIs b L w) (k : ByteArray) :
    (Go.Proofs.Ythjbaafbkalomaa.look L k = none ∧ f.m k = none) ∨ (∃ l A cap, Go.Proofs.Ythjbaafbkalomaa.look L k = some (.slice A l.length cap) ∧ f.m k = some l ∧ l.length ≤ 8388608 ∧ App 5 1 o g w A l.length cap (bv l)) := by
  obtain ⟨L0, h1, h2, h3, h4, h5⟩ := h.ex
  obtain rfl := h1.inj hL
  cases hl : Go.Proofs.Ythjbaafbkalomaa.look L0 k with
  | none => exact .inl ⟨rfl, h3 k hl⟩
  | some v =>
    obtain ⟨l, A, cap, e1, e2, e3, ha⟩ := h4 k v hl
    subst e2
    exact .inr ⟨l, A, cap, rfl, e1, e3, ha⟩

/-- The end of 'add': A, n, c: the value that was there (or nil). -/
theorem filesP_add {o nm : Nat} {g g1 : Gh} {w w0 w1 w2 : World} {f : Fl} {k : ByteArray} {l : List UInt8} {A A' : Option Addr} {c cap' : Nat} (hf : FlAp o g w nm f) (hb0 : Below w.heap.size w w0) {L : List (ByteArray × Value)} (hL : MapIs nm L w)
    (hA : (look L k = none ∧ A = none) ∨ look L k = some (.slice A (f.get k).length c))
    (hx : Ext (· = o) g w0 g1 w1) (ha : App 5 1 o g1 w1 A' (f.get k ++ l).length cap' (bv (f.get k ++ l))) (hlies : Lies g w0 A (f.get k).length c g1 w1 A' cap')
    (hl : (f.get k ++ l).length ≤ 8388608) (hput : MapIs nm (put L k (.slice A' (f.get k ++ l).length cap')) w2) (hg : w1.grownBy w2 (some nm)) :
    FilesP o nm g w (f.put k (f.get k ++ l)) (.returned (.tuple #[])) w2 := by
  have hs0 := hb0.size
  have hlt := hf.lt
  have hx0 : Ext (· = o) g w g1 w1 := (Ext.of_below (· = o) g hb0).trans hx
  obtain ⟨L0, m1, m2, m3, m4, m5⟩ := hf.ex
  obtain rfl := m1.inj hL
  have hrow : (f.get k).length < c → ∀ b off, A = some ⟨b, off, none⟩ → b < w.heap.size ∧ ¬ Other g w b := fun hc b off hb => by
    rcases hA with ⟨_, h⟩ | h
    · rw [h] at hb; cases hb
    · obtain ⟨l', A2, cap2, e1, e2, e3, ha2⟩ := m4 k _ h
      injection e2 with e2 e4 e5
      subst e2; subst e5
      obtain ⟨h0, b2, cs, f1, f2, f3, f4, f5⟩ := ha2.sp (by omega)
      rw [hb] at f1; injection f1 with f1; injection f1 with f1 _
      refine ⟨by rw [f1]; exact block_lt f4, fun ho => ?_⟩
      rw [f1] at ho
      rcases ho with ho | ⟨cs', e', fr', ho, hne⟩
      · omega
      · rw [f4] at ho
        injection ho with ho
        injection ho with _ ho _
        exact hne ho.symm
  have hfree : ∀ b, b < w.heap.size → Other g w b → w1.heap[b]? = w.heap[b]? ∧ g1.F b = g.F b := fun b hb hF => by
    obtain ⟨e1, e2⟩ := hlies.far b (by omega) (fun hc off he => (hrow hc b off he).2 hF)
    exact ⟨e1.trans (hb0.block b hb), e2⟩
  have hnm := hfree nm hlt (.inl hf.F)
  have hdiff : ∀ k' A1 n1 c1 b1 off1, k' ≠ k → look L0 k' = some (.slice A1 n1 c1) → n1 < c1 → A1 = some ⟨b1, off1, none⟩ → (f.get k).length < c → ∀ off, A ≠ some ⟨b1, off, none⟩ := fun k' A1 n1 c1 b1 off1 hk hl1 hlt1 hA1 hc off he => by
    rcases hA with ⟨_, h⟩ | h
    · rw [h] at he; cases he
    · exact m5 k' k A1 n1 c1 A _ c hl1 h hk hlt1 hc b1 off1 b1 off hA1 he rfl
  refine ⟨rfl, g1, hx0.one hg (fun _ => hf.O) (hnm.2.trans hf.F), hf.put2 hx0 hnm.1 (hnm.2.trans hf.F) hL k ?_ hg A' cap' _ hl hput ha ?_, fun b hb hne hF => ?_⟩
  · intro k' A1 n1 c1 b1 off1 hk hl1 hlt1 hA1 hb1
    obtain ⟨e1, e2⟩ := hlies.far b1 (by omega) (fun hc off he => hdiff k' A1 n1 c1 b1 off1 hk hl1 hlt1 hA1 hc off he)
    exact ⟨e1.trans (hb0.block b1 hb1), e2⟩
  · intro k' A1 n1 c1 b1 off1 b2 off2 hk hl1 hlt1 hA1 hA2 hcap e
    subst e
    rcases hlies.at_ with ⟨h1, h2⟩ | ⟨b3, h1, h2, _⟩
    · have hc : (f.get k).length < c := by
        rw [h2, List.length_append] at hcap
        omega
      exact hdiff k' A1 n1 c1 b1 off1 hk hl1 hlt1 hA1 hc off2 (by rw [← h1]; exact hA2)
    · rw [hA2] at h1
      injection h1 with h1
      injection h1 with h1 _
      obtain ⟨l', A2, cap2, e1, e2, e3, ha2⟩ := m4 k' _ hl1
      injection e2 with e2 e4 e5
      subst e2; subst e5
      obtain ⟨h0, b4, cs, f1, f2, f3, f4, f5⟩ := ha2.sp (by omega)
      rw [hA1] at f1; injection f1 with f1; injection f1 with f1 _
      have := block_lt f4
      omega
  · exact ⟨by rw [hg.block b (by have := hx0.size; omega) (fun e => hne (by injection e)), (hfree b hb hF).1], (hfree b hb hF).2⟩

theorem zeroBytes (w : World) : (zeroValue 37).run Try.prog w = .ok (.slice none 0 0) w := by kernel_rfl

theorem look_either {P : Program} {w : World} {ops : Array Oper} {rest : List Oper} {o : Oper} {a : Act} {Q : Exit → Act → World → Prop} (hg : o.guard = none) (m x : Operand) (t : TypeId) (hop : o.op = Op.lookup t m x false) (kt et : TypeId) (ht : P.underlying t = some (.map kt et)) (hk : P.underlying kt = some .string)
    (b : Nat) (L : List (ByteArray × Value)) (hm : a.eval m = .map (some b)) (hown : MapIs b L w) (hz : (zeroValue et).run P w = .ok (.slice none 0 0) w) (k : ByteArray) (hx : a.eval x = .string k) {A : Option Addr} {n c : Nat}
    (hl : (look L k = none ∧ A = none ∧ c = 0 ∧ n = 0) ∨ look L k = some (.slice A n c)) (hK : wpList P ops Q rest (a.put o.dst (.slice A n c)) w) : wpList P ops Q (o :: rest) a w := by
  rcases hl with ⟨e1, e2, e3, e4⟩ | e1
  · subst e2; subst e3; subst e4
    exact wpList_look_none hg _ _ t false hop kt et ht hk b L hm hown (.slice none 0 0) hz k hx e1 hK
  · exact wpList_look_some hg _ _ t false hop kt et ht hk b L hm hown k hx _ e1 hK

set_option maxRecDepth 100000 in
set_option maxHeartbeats 800000 in
theorem add_any (o nm : Nat) (g : Gh) (f : Fl) (k to : ByteArray) (tears : Bool) (fv : Value) (A : Option Addr) (c : Nat) (l : List UInt8) (w : World) (hf : FlAp o g w nm f) (hr : Rd 1 g w A l.length (bv l)) (hz : A = none → l.length = 0) (hl : (f.get k ++ l).length ≤ 8388608) :
    Calls Try.prog 69 #[.map (some nm), .agg #[fv, .string k, .string to, .slice A l.length c, .bool tears]] w (FilesP o nm g w (f.put k (f.get k ++ l))) := by
  have hlt := hf.lt
  obtain ⟨i0, hi, hz0, hz1, hz2⟩ := info_parts Try.infoU8
  have hw1 : Below w.heap.size w (w.alloc (.cells #[fv, .string k, .string to, .slice A l.length c, .bool tears] 96)).drew := ((Below.refl _ _).alloc (Nat.le_refl _) _).drew
  obtain ⟨L, hL, _⟩ := hf.ex
  have hL1 := hL.below hw1 hlt
  have hx1 := Ext.of_below (· = o) g hw1
  -- the value that is there
  obtain ⟨A0, c0, hlk, ha0⟩ : ∃ A0 c0, ((look L k = none ∧ A0 = none ∧ c0 = 0 ∧ (f.get k).length = 0) ∨ look L k = some (.slice A0 (f.get k).length c0)) ∧ App 5 1 o g w A0 (f.get k).length c0 (bv (f.get k)) := by
    rcases hf.found hL k with ⟨h1, h2⟩ | ⟨l0, A0, c0, h1, h2, h3, h4⟩
    · have : f.get k = [] := by unfold Fl.get; rw [h2]; rfl
      rw [this]
      exact ⟨none, 0, .inl ⟨h1, rfl, rfl, rfl⟩, App.nil _ _ _ _ _⟩
    · have : f.get k = l0 := by unfold Fl.get; rw [h2]; rfl
      rw [this]
      exact ⟨A0, c0, .inr h1, h4⟩
  have ha1 := ha0.ext' hx1 (fun b off _ hb _ => ⟨hw1.block b hb, rfl⟩)
  have HB0 : Hid ((f.get k).length < c0 → ∀ b off, A0 = some ⟨b, off, none⟩ → b < w.heap.size ∧ b ≠ nm) := by
    intro hc b off hb
    obtain ⟨h0, b2, cs, f1, _, f3, f4, _⟩ := ha0.sp hc
    rw [hb] at f1; injection f1 with f1; injection f1 with f1 _
    refine ⟨by rw [f1]; exact block_lt f4, fun e => ?_⟩
    rw [← f1, e, hf.F] at f3
    omega
  have hs := (hr.ext hx1).src (P := Try.prog) Try.underlying37 c (bv_one l) hz
  have HA : Hid ((look L k = none ∧ A0 = none) ∨ look L k = some (.slice A0 (f.get k).length c0)) := by
    rcases hlk with ⟨h1, h2, _⟩ | h
    · exact .inl ⟨h1, h2⟩
    · exact .inr h
  have HFIN := Lib.hid (fun g1 w1 w2 A' cap' => @filesP_add o nm g g1 w _ w1 w2 f k l A0 A' c0 cap' hf hw1 L hL HA.out)
  have HL := Lib.hid hL1
  have HAP := Lib.hid ha1
  have HS := Lib.hid hs
  have HLEN := Lib.hid hl
  have hb1 : (f.get k).length + l.length ≤ 8388608 := by rw [← List.length_append]; exact hl
  have hS : Blk w.heap.size 96 [fv, .string k, .string to, .slice A l.length c, .bool tears] (w.alloc (.cells #[fv, .string k, .string to, .slice A l.length c, .bool tears] 96)).drew := (Blk.new w 96 [fv, .string k, .string to, .slice A l.length c, .bool tears]).drew
  clear hf hr hz hL hL1 hx1 ha0 ha1 hs hl
  have hbva : bv (f.get k) ++ bv l = bv (f.get k ++ l) := (bv_append _ _).symm
  have HBV := Lib.hid hbva
  have HLA : Hid ((f.get k ++ l).length = (f.get k).length + l.length) := List.length_append
  clear hbva
  generalize f.get k = l0 at *
  have hlkw : (look L k = none ∧ A0 = none ∧ c0 = 0 ∧ l0.length = 0) ∨ look L k = some (.slice A0 l0.length c0) := hlk
  clear hlk
  go_enter Try.func69, Try.ntmps69
  go_wp2_with fail
  (refine wp_region_mix (S := Blk w.heap.size 96 [fv, .string k, .string to, .slice A l.length c, .bool tears]) [] [([0, 1, 2, 3, 4, 5, 7, 8], 6), ([], 9), ([], 10)] (by kernel_rfl) (by kernel_rfl) (by intro c a d v w h; cases d <;> exact h) hS ?_; have hN : Nonempty (Held (Blk w.heap.size 96 [fv, .string k, .string to, .slice A l.length c, .bool tears])) := ⟨⟨_, hS⟩⟩)
  have r1 := fun y : Held (Blk w.heap.size 96 [fv, .string k, .string to, .slice A l.length c, .bool tears]) => y.ok.cell 1
  have r3 := fun y : Held (Blk w.heap.size 96 [fv, .string k, .string to, .slice A l.length c, .bool tears]) => y.ok.cell 3
  (unfold wpMix wpRd; (repeat (first | simp only [List.filterMap_cons] | simp only [List.filterMap_nil] | simp only [List.getElem?_toArray] | simp only [List.getElem?_cons_zero] | simp only [List.getElem?_cons_succ])); (try dsimp only); change wpQuiet _ _ _ _ (_ :: _ :: _ :: _ :: _ :: _ :: _ :: _ :: []) _; (repeat (go_big_quiet_step (fail))); refine wpQuiet_nil ?_; (try dsimp only))
  clear r1 r3
  have HL2 : Hid (∀ (Q : Exit → Act → World → Prop) (ops : Array Oper) (o : Oper) (a : Act), o.guard = none → o.op = Op.lookup 60 (.tmp 7) (.tmp 9) false → a.eval (.tmp 7) = .map (some nm) → a.eval (.tmp 9) = .string k → wpList Try.prog ops Q [] (a.put o.dst (.slice A0 l0.length c0)) (w.alloc (.cells #[fv, .string k, .string to, .slice A l.length c, .bool tears] 96)).drew → wpList Try.prog ops Q [o] a (w.alloc (.cells #[fv, .string k, .string to, .slice A l.length c, .bool tears] 96)).drew) := by
    intro Q ops o a hg hop h1 h2 hK
    rcases hlkw with ⟨e1, e2, e3, e4⟩ | e1
    · subst e2; subst e3
      rw [e4] at hK
      exact wpList_look_none hg _ _ 60 false hop 9 37 Try.underlying60 Try.underlying9 nm L h1 HL.out (.slice none 0 0) (zeroBytes _) k h2 e1 hK
    · exact wpList_look_some hg _ _ 60 false hop 9 37 Try.underlying60 Try.underlying9 nm L h1 HL.out k h2 _ e1 hK
  refine HL2.out _ _ _ _ rfl rfl rfl rfl ?_
  clear HL2 hlkw
  refine ⟨hS, ?_⟩
  (unfold wpMix wpRd; (repeat (first | simp only [List.filterMap_cons] | simp only [List.filterMap_nil] | simp only [List.getElem?_toArray] | simp only [List.getElem?_cons_zero] | simp only [List.getElem?_cons_succ])); (try dsimp only); change wpQuiet _ _ _ _ ([]) _; (repeat (go_big_quiet_step (fail))); refine wpQuiet_nil ?_; (try dsimp only))
  refine wpList_append_app rfl _ _ _ _ rfl 5 i0 (.int .u8 0) 1 1 Try.underlying37 hi hz0 hz1 hz2 rfl (by decide) rfl HAP.out rfl HS.out (by unfold maxLen; omega) (by omega) ?_
  intro A' cap' w1 g1 hx ha hlies
  rw [HBV.out] at ha
  rw [← HLA.out] at ha ⊢
  refine ⟨hS.of (hlies.far _ (by simp) (fun hc off he => ?_)).1, ?_⟩
  · have := (HB0.out hc _ _ he).1
    omega
  have hS1 : Blk w.heap.size 96 [fv, .string k, .string to, .slice A l.length c, .bool tears] w1 := hS.of (hlies.far _ (by simp) (fun hc off he => by have := (HB0.out hc _ _ he).1; omega)).1
  have hL1 : MapIs nm L w1 := HL.out.of_block (hlies.far nm (by simp; omega) (fun hc off he => (HB0.out hc _ _ he).2 rfl)).1
  (unfold wpMix wpRd; (repeat (first | simp only [List.filterMap_cons] | simp only [List.filterMap_nil] | simp only [List.getElem?_toArray] | simp only [List.getElem?_cons_zero] | simp only [List.getElem?_cons_succ])); (try dsimp only); change wpQuiet _ _ _ _ ([]) _; (repeat (go_big_quiet_step (fail))); refine wpQuiet_nil ?_; (try dsimp only))
  refine wpList_put rfl _ _ _ 60 rfl 9 37 Try.underlying60 Try.underlying9 nm L rfl hL1 k rfl (.slice A' (l0 ++ l).length cap') rfl ?_
  intro w2 hL2 hg2
  have hfin := HFIN.out g1 w1 w2 A' cap' hx ha hlies HLEN.out hL2 hg2
  have HF2 := Lib.hid hfin
  clear hfin HFIN
  refine ⟨hS1.grown hg2 (fun e => by injection e; omega), ?_⟩
  (unfold wpMix wpRd; (repeat (first | simp only [List.filterMap_cons] | simp only [List.filterMap_nil] | simp only [List.getElem?_toArray] | simp only [List.getElem?_cons_zero] | simp only [List.getElem?_cons_succ])); (try dsimp only); change wpQuiet _ _ _ _ ([]) _; (repeat (go_big_quiet_step (fail))); refine wpQuiet_nil ?_; (try dsimp only))
  go_end0
  exact HF2.out

def Fl.move (f : Fl) (k to : ByteArray) : Fl := if k = to then f else (f.put to (f.get k)).del k
theorem FlAp.moved {o : Nat} {g : Gh} {w w' : World} {b : Nat} {f : Fl} (h : FlAp o g w b f) {L : List (ByteArray × Value)} (hL : MapIs b L w) {k to : ByteArray} (hne : k ≠ to) (hg : w.grownBy w' (some b)) {A : Option Addr} {c : Nat}
    (hv : (look L k = none ∧ A = none ∧ c = 0 ∧ f.get k = []) ∨ look L k = some (.slice A (f.get k).length c)) (ha : App 5 1 o g w A (f.get k).length c (bv (f.get k))) (hlen : (f.get k).length ≤ 8388608)
    (hput : MapIs b (Go.Proofs.Ythjbaafbkalomaa.del (Go.Proofs.Ythjbaafbkalomaa.put L to (.slice A (f.get k).length c)) k) w') : FlAp o g w' b (f.move k to) := by
  have hlt := h.lt
  obtain ⟨L0, h1, h2, h3, h4, h5⟩ := h.ex
  obtain rfl := h1.inj hL
  have hx : Ext (· = o) g w g w' := (Ext.refl (· = o) g w).one hg (fun _ => h.O) h.F
  have hm : ∀ q, (f.m q).isSome = (look L0 q).isSome := fun q => by
    cases hl : look L0 q with
    | none => rw [h3 q hl]; rfl
    | some v => obtain ⟨l, _, _, e, _⟩ := h4 q v hl; rw [e]; rfl
  have happ : ∀ A n c xs, App 5 1 o g w A n c xs → App 5 1 o g w' A n c xs := fun A n c xs ha => ha.ext' hx fun b1 off hA hb1 hlt1 => by
    obtain ⟨h0, b2, cs, e1, e2, e3, e4, e5⟩ := ha.sp hlt1
    have hne : some b1 ≠ some b := fun e => by
      injection e with e
      rw [hA] at e1; injection e1 with e1; injection e1 with e1 _
      subst e1; subst e
      rw [h.F] at e3
      omega
    exact ⟨hg.block b1 hb1 hne, rfl⟩
  have hnd : ((put L0 to (.slice A (f.get k).length c)).map (·.1)).Nodup := by
    obtain ⟨_, _, _, _, _, _, hn⟩ := h1
    exact put_nodup hn _ _
  have hlook : ∀ q, look (del (put L0 to (.slice A (f.get k).length c)) k) q = if q = k then none else if q = to then some (.slice A (f.get k).length c) else look L0 q := fun q => by
    rw [look_del hnd, look_put]
  have hmv : f.move k to = (f.put to (f.get k)).del k := by unfold Fl.move; rw [if_neg hne]
  rw [hmv]
  refine ⟨⟨_, hput, ?_, fun q hq => ?_, fun q v hq => ?_, fun q q' A1 n1 c1 A2 n2 c2 hq hq' hqq hl1 hl2 => ?_⟩, h.O, h.F⟩
  · rw [del_len, put_len, look_put, if_neg hne, h2]
    simp only [Fl.del, Fl.put, if_neg hne, hm]
  · rw [hlook] at hq
    simp only [Fl.del, Fl.put]
    split at hq
    · rename_i e; rw [if_pos e]
    · rename_i e
      split at hq
      · cases hq
      · rename_i e2; rw [if_neg e, if_neg e2]; exact h3 q hq
  · rw [hlook] at hq
    simp only [Fl.del, Fl.put]
    split at hq
    · cases hq
    · rename_i e
      split at hq
      · rename_i e2
        injection hq with hq
        exact ⟨f.get k, A, c, by rw [if_neg e, if_pos e2], hq.symm, hlen, happ _ _ _ _ ha⟩
      · rename_i e2
        obtain ⟨l', A', cap', e3, e4, e5, ha'⟩ := h4 q v hq
        exact ⟨l', A', cap', by rw [if_neg e, if_neg e2]; exact e3, e4, e5, happ _ _ _ _ ha'⟩
  · rw [hlook] at hq hq'
    split at hq
    · cases hq
    · rename_i e
      split at hq'
      · cases hq'
      · rename_i e'
        have key : ∀ q A1 n1 c1 A2 n2 c2, q ≠ k → look L0 q = some (.slice A1 n1 c1) → (Value.slice A (f.get k).length c) = .slice A2 n2 c2 → n1 < c1 → n2 < c2 → ∀ b off b' off', A1 = some ⟨b, off, none⟩ → A2 = some ⟨b', off', none⟩ → b ≠ b' := by
          intro q A1 n1 c1 A2 n2 c2 hqk hql he hl1 hl2
          injection he with e1 e2 e3
          subst e1; subst e2; subst e3
          rcases hv with ⟨_, hn, hc0, _⟩ | hv
          · subst hc0; omega
          · exact h5 q k A1 n1 c1 A _ c hql hv hqk hl1 hl2
        split at hq
        · rename_i e2
          split at hq'
          · rename_i e3; exact absurd (e2.trans e3.symm) hqq
          · injection hq with hq
            intro b1 off1 b2 off2 hA1 hA2 he
            exact key q' A2 n2 c2 A1 n1 c1 e' hq' hq hl2 hl1 b2 off2 b1 off1 hA2 hA1 he.symm
        · split at hq'
          · injection hq' with hq'
            exact key q A1 n1 c1 A2 n2 c2 e hq hq' hl1 hl2
          · exact h5 q q' A1 n1 c1 A2 n2 c2 hq hq' hqq hl1 hl2

theorem beq_list {a b : ByteArray} (h : a ≠ b) : (a.toList == b.toList) = false ∧ (a.toList != b.toList) = true := by
  have : (a.toList == b.toList) = false := by
    rw [← beq_toListBytes]
    cases hb : (a == b)
    · rfl
    · exact absurd ((ba_beq _ _).1 hb) h
  exact ⟨this, by simp [bne, this]⟩
theorem beq_list_self (a : ByteArray) : (a.toList == a.toList) = true ∧ (a.toList != a.toList) = false := by simp

set_option maxRecDepth 100000 in
set_option maxHeartbeats 800000 in
theorem rename_any (o nm : Nat) (g : Gh) (f : Fl) (k to : ByteArray) (tears : Bool) (fv bvl : Value) (w : World) (hf : FlAp o g w nm f) :
    Calls Try.prog 67 #[.map (some nm), .agg #[fv, .string k, .string to, bvl, .bool tears]] w (FilesP o nm g w (f.move k to)) := by
  have hlt := hf.lt
  have hw1 : Below w.heap.size w (w.alloc (.cells #[fv, .string k, .string to, bvl, .bool tears] 96)) := ((Below.refl _ _).alloc (Nat.le_refl _) _)
  have hx1 := Ext.of_below (· = o) g hw1
  have hf1 := hf.ext0 hx1 hw1 (fun _ _ => rfl)
  by_cases hkt : k = to
  · subst hkt
    have HFIN : Hid (FilesP o nm g w (f.move k k) (.returned (.tuple #[])) (w.alloc (.cells #[fv, .string k, .string k, bvl, .bool tears] 96))) := by
      refine ⟨rfl, g, hx1, ?_, fun b hb _ _ => ⟨hw1.block b hb, rfl⟩⟩
      unfold Fl.move
      rw [if_pos rfl]
      exact hf1
    obtain ⟨q1, q2⟩ := beq_list_self k
    clear hf hf1 hx1 hw1
    go_enter Try.func67, Try.ntmps67
    go_wp2_with fail
    go_end0
    exact HFIN.out
  · obtain ⟨q1, q2⟩ := beq_list hkt
    obtain ⟨L, hL, _⟩ := hf.ex
    have hL1 := hL.below hw1 hlt
    obtain ⟨A0, c0, hlk, ha0, hln⟩ : ∃ A0 c0, ((look L k = none ∧ A0 = none ∧ c0 = 0 ∧ f.get k = []) ∨ look L k = some (.slice A0 (f.get k).length c0)) ∧ App 5 1 o g (w.alloc (.cells #[fv, .string k, .string to, bvl, .bool tears] 96)) A0 (f.get k).length c0 (bv (f.get k)) ∧ (f.get k).length ≤ 8388608 := by
      rcases hf1.found hL1 k with ⟨h1, h2⟩ | ⟨l0, A0, c0, h1, h2, h3, h4⟩
      · have : f.get k = [] := by unfold Fl.get; rw [h2]; rfl
        rw [this]
        exact ⟨none, 0, .inl ⟨h1, rfl, rfl, rfl⟩, App.nil _ _ _ _ _, by simp⟩
      · have : f.get k = l0 := by unfold Fl.get; rw [h2]; rfl
        rw [this]
        exact ⟨A0, c0, .inr h1, h4, h3⟩
    have HFIN : Hid (∀ w1 w2, (w.alloc (.cells #[fv, .string k, .string to, bvl, .bool tears] 96)).grownBy w1 (some nm) → w1.grownBy w2 (some nm) → MapIs nm (del (put L to (.slice A0 (f.get k).length c0)) k) w2 → FilesP o nm g w (f.move k to) (.returned (.tuple #[])) w2) := by
      intro w1 w2 hg1 hg2 hL2
      have hg := hg1.trans hg2
      refine ⟨rfl, g, hx1.one hg (fun _ => hf.O) hf.F, hf1.moved hL1 hkt hg hlk ha0 hln hL2, fun b hb hne _ => ?_⟩
      exact ⟨by rw [hg.block b (by simp; omega) (fun e => hne (by injection e)), hw1.block b hb], rfl⟩
    have hbk : Blk w.heap.size 96 [fv, .string k, .string to, bvl, .bool tears] (w.alloc (.cells #[fv, .string k, .string to, bvl, .bool tears] 96)) := Blk.new w _ _
    have hlkz : (look L k = none ∧ A0 = none ∧ c0 = 0 ∧ (f.get k).length = 0) ∨ look L k = some (.slice A0 (f.get k).length c0) := by
      rcases hlk with ⟨h1, h2, h3, h4⟩ | h
      · exact .inl ⟨h1, h2, h3, by rw [h4]; rfl⟩
      · exact .inr h
    have HL := Lib.hid hL1
    have HLK := Lib.hid hlkz
    clear hf hf1 hx1 hw1 hL hL1 hlk ha0 hlkz
    generalize (f.get k).length = n0 at *
    go_enter Try.func67, Try.ntmps67
    go_wp2_with (first | (with_reducible refine look_either rfl (.tmp 12) (.tmp 14) 60 rfl 9 37 Try.underlying60 Try.underlying9 nm L rfl HL.out (zeroBytes _) k rfl HLK.out ?_) | (with_reducible refine wpList_put rfl (.tmp 9) (.tmp 11) (.tmp 15) 60 rfl 9 37 Try.underlying60 Try.underlying9 nm L rfl HL.out to rfl (.slice A0 n0 c0) rfl ?_; intro w1 hL1 hg1; have hbk1 := hbk.grown hg1 (fun e => by injection e; omega); have c1 := hbk1.cell 1; have HL1 := Lib.hid hL1; clear hL1) | (with_reducible refine wpList_del rfl (.tmp 16) (.tmp 18) 60 rfl 9 37 Try.underlying60 Try.underlying9 nm _ rfl HL1.out k rfl ?_; intro w2 hL2 hg2))
    go_end0
    exact HFIN.out _ _ hg1 hg2 hL2

/-- Kept where the map and all rows are as they were. -/
theorem FlAp.same {o : Nat} {g g' : Gh} {w w' : World} {b : Nat} {f : Fl} {M : Nat → Prop} (h : FlAp o g w b f) (hx : Ext M g w g' w') (hk : ∀ k, k < w.heap.size → g.F k ≠ 0 ∨ k = b → w'.heap[k]? = w.heap[k]? ∧ g'.F k = g.F k) : FlAp o g' w' b f := by
  have hlt := h.lt
  obtain ⟨L, h1, h2, h3, h4, h5⟩ := h.ex
  obtain ⟨e1, e2⟩ := hk b hlt (.inr rfl)
  refine ⟨⟨L, h1.of_block e1, h2, h3, fun k v hl => ?_, h5⟩, (hx.own b hlt).trans h.O, e2.trans h.F⟩
  obtain ⟨l, A, cap, e1, e2, e3, ha⟩ := h4 k v hl
  refine ⟨l, A, cap, e1, e2, e3, ha.ext' hx fun b1 off hA hb1 hlt1 => hk b1 hb1 (.inl ?_)⟩
  obtain ⟨h0, b2, cs, f1, _, f3, _⟩ := ha.sp hlt1
  rw [hA] at f1; injection f1 with f1; injection f1 with f1 _
  rw [f1, f3]
  omega

end Go.Proofs.Ythjbaafbkalomaa
