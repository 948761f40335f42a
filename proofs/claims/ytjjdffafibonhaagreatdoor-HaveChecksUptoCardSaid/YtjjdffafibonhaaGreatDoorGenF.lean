/-
  The base for seats without the journal (joined by a program of ours from our own texts).
-/
import Derived.Test.YtjjdffafibonhaaGreatDoorGenA
import Derived.Test.YtjjdffafibonhaaGreatDoorMapG
import Derived.Test.YtjjdffafibonhaaGreatDoorMix
namespace Go.Proofs.YtjjdffafibonhaaGreatDoor
section
open Go.RowKit

/-- Files: the bytes by the name, and how many there are. -/
structure Fl where
  m : ByteArray → Option (List UInt8)
  n : Nat
def Fl.put (f : Fl) (k : ByteArray) (l : List UInt8) : Fl := ⟨fun q => if q = k then some l else f.m q, if (f.m k).isSome then f.n else f.n + 1⟩
def Fl.del (f : Fl) (k : ByteArray) : Fl := ⟨fun q => if q = k then none else f.m q, if (f.m k).isSome then f.n - 1 else f.n⟩
def Fl.get (f : Fl) (k : ByteArray) : List UInt8 := (f.m k).getD []

/-- A value that reads as these bytes. -/
structure BytesAt (g : Gh) (w : World) (v : Value) (l : List UInt8) : Prop where
  ex : ∃ A cap, v = .slice A l.length cap ∧ l.length ≤ cap ∧ cap ≤ maxLen ∧ (A = none → l.length = 0) ∧ Rd 1 g w A l.length (bv l)
theorem BytesAt.ext {g g' : Gh} {w w' : World} {v : Value} {l : List UInt8} {M : Nat → Prop} (h : BytesAt g w v l) (hx : Ext M g w g' w') : BytesAt g' w' v l := by
  obtain ⟨A, cap, h1, h2, h3, h4, h5⟩ := h.ex
  exact ⟨A, cap, h1, h2, h3, h4, h5.ext hx⟩

/-- Files that are only read. -/
structure FlRd (g : Gh) (w : World) (b : Nat) (f : Fl) : Prop where
  ex : ∃ L, MapIs b L w ∧ L.length = f.n ∧ (∀ k, look L k = none → f.m k = none) ∧ ∀ k v, look L k = some v → ∃ l, f.m k = some l ∧ BytesAt g w v l
theorem FlRd.ext {g g' : Gh} {w w' : World} {b : Nat} {f : Fl} {M : Nat → Prop} (h : FlRd g w b f) (hx : Ext M g w g' w') (hb : w'.heap[b]? = w.heap[b]?) : FlRd g' w' b f := by
  obtain ⟨L, h1, h2, h3, h4⟩ := h.ex
  exact ⟨L, h1.of_block hb, h2, h3, fun k v hl => let ⟨l, e1, e2⟩ := h4 k v hl; ⟨l, e1, e2.ext hx⟩⟩

/-- Files that are added to: each value may be appended to by o, no two in one block. -/
structure FlAp (o : Nat) (g : Gh) (w : World) (b : Nat) (f : Fl) : Prop where
  ex : ∃ L, MapIs b L w ∧ L.length = f.n ∧ (∀ k, look L k = none → f.m k = none) ∧ (∀ k v, look L k = some v → ∃ l A cap, f.m k = some l ∧ v = .slice A l.length cap ∧ l.length ≤ 8388608 ∧ App 5 1 o g w A l.length cap (bv l)) ∧
    (∀ k k' A n c A' n' c', look L k = some (.slice A n c) → look L k' = some (.slice A' n' c') → k ≠ k' → n < c → n' < c' → ∀ b off b' off', A = some ⟨b, off, none⟩ → A' = some ⟨b', off', none⟩ → b ≠ b')
  O : g.O b = o
  F : g.F b = 0
theorem FlAp.rd {o : Nat} {g : Gh} {w : World} {b : Nat} {f : Fl} (h : FlAp o g w b f) : FlRd g w b f := by
  obtain ⟨L, h1, h2, h3, h4, _⟩ := h.ex
  refine ⟨L, h1, h2, h3, fun k v hl => ?_⟩
  obtain ⟨l, A, cap, e1, e2, _, ha⟩ := h4 k v hl
  exact ⟨l, e1, A, cap, e2, ha.le, ha.mx, fun h => (ha.nz h).1, ha.rd⟩
theorem FlAp.lt {o : Nat} {g : Gh} {w : World} {b : Nat} {f : Fl} (h : FlAp o g w b f) : b < w.heap.size := by
  obtain ⟨L, h1, _⟩ := h.ex
  exact h1.lt
/-- Kept where neither the map nor any of its rows that have room was touched. -/
theorem FlAp.ext {o : Nat} {g g' : Gh} {w w' : World} {b : Nat} {f : Fl} {M : Nat → Prop} (h : FlAp o g w b f) (hx : Ext M g w g' w') (hm : ¬ M o) : FlAp o g' w' b f := by
  have hlt := h.lt
  obtain ⟨L, h1, h2, h3, h4, h5⟩ := h.ex
  have hb := hx.keep b hlt (by rw [h.O]; exact hm)
  refine ⟨⟨L, h1.of_block hb.1, h2, h3, fun k v hl => ?_, h5⟩, (hx.own b hlt).trans h.O, hb.2.trans h.F⟩
  obtain ⟨l, A, cap, e1, e2, e3, ha⟩ := h4 k v hl
  exact ⟨l, A, cap, e1, e2, e3, ha.ext hx hm⟩
theorem FlAp.ext0 {o : Nat} {g g' : Gh} {w w' : World} {b : Nat} {f : Fl} {M : Nat → Prop} (h : FlAp o g w b f) (hx : Ext M g w g' w') (hb : Below w.heap.size w w') (hF : ∀ k, k < w.heap.size → g'.F k = g.F k) : FlAp o g' w' b f := by
  have hlt := h.lt
  obtain ⟨L, h1, h2, h3, h4, h5⟩ := h.ex
  refine ⟨⟨L, h1.below hb hlt, h2, h3, fun k v hl => ?_, h5⟩, (hx.own b hlt).trans h.O, (hF b hlt).trans h.F⟩
  obtain ⟨l, A, cap, e1, e2, e3, ha⟩ := h4 k v hl
  exact ⟨l, A, cap, e1, e2, e3, ha.ext' hx fun b off _ hb' _ => ⟨hb.block b hb', hF b hb'⟩⟩

/-- A file gets a new value, whose row is a new block (or has no room), in a step that touched the map alone. -/
theorem FlAp.put1 {o : Nat} {g : Gh} {w w' : World} {b : Nat} {f : Fl} (h : FlAp o g w b f) (hg : w.grownBy w' (some b)) (k : ByteArray) (A : Option Addr) (cap : Nat) (l : List UInt8) (hl : l.length ≤ 8388608) (hput : ∀ L, MapIs b L w → MapIs b (Go.Proofs.YtjjdffafibonhaaGreatDoor.put L k (.slice A l.length cap)) w')
    (ha : App 5 1 o g w A l.length cap (bv l)) (hnew : ∀ L, MapIs b L w → ∀ k' A' n' c' b' off' b1 off1, k' ≠ k → look L k' = some (.slice A' n' c') → n' < c' → A' = some ⟨b', off', none⟩ → A = some ⟨b1, off1, none⟩ → l.length < cap → b' ≠ b1) : FlAp o g w' b (f.put k l) := by
  have hlt := h.lt
  obtain ⟨L, h1, h2, h3, h4, h5⟩ := h.ex
  have hx : Ext (· = o) g w g w' := (Ext.refl (· = o) g w).one hg (fun _ => h.O) h.F
  have hk2 : ∀ v, look L k = some v → (f.m k).isSome = true := fun v hv => by obtain ⟨l, _, _, e, _⟩ := h4 k v hv; rw [e]; rfl
  have hk1 : look L k = none → (f.m k).isSome = false := fun hv => by rw [h3 k hv]; rfl
  have happ : ∀ A n c xs, App 5 1 o g w A n c xs → App 5 1 o g w' A n c xs := fun A n c xs ha => ha.ext' hx fun b1 off hA hb1 hlt1 => by
    obtain ⟨h0, b2, cs, e1, e2, e3, e4, e5⟩ := ha.sp hlt1
    have hne : some b1 ≠ some b := fun e => by
      injection e with e
      rw [hA] at e1; injection e1 with e1; injection e1 with e1 _
      subst e1; subst e
      rw [h.F] at e3
      omega
    exact ⟨hg.block b1 hb1 hne, rfl⟩
  refine ⟨⟨_, hput L h1, ?_, fun q hq => ?_, fun q v hq => ?_, fun q q' A1 n1 c1 A2 n2 c2 hq hq' hne hl1 hl2 => ?_⟩, h.O, h.F⟩
  · rw [put_len, h2]
    unfold Fl.put
    cases hl : look L k with
    | none => simp [hk1 hl]
    | some v => simp [hk2 v hl]
  · rw [look_put] at hq
    unfold Fl.put
    dsimp only
    split at hq
    · cases hq
    · rename_i hne; rw [if_neg hne]; exact h3 q hq
  · rw [look_put] at hq
    unfold Fl.put
    dsimp only
    split at hq
    · rename_i he
      injection hq with hq
      exact ⟨l, A, cap, by rw [if_pos he], hq.symm, hl, happ _ _ _ _ ha⟩
    · rename_i hne
      obtain ⟨l', A', cap', e1, e2, e3, ha'⟩ := h4 q v hq
      exact ⟨l', A', cap', by rw [if_neg hne]; exact e1, e2, e3, happ _ _ _ _ ha'⟩
  · rw [look_put] at hq hq'
    split at hq
    · rename_i he
      split at hq'
      · rename_i he'; exact absurd (he.trans he'.symm) hne
      · rename_i he'
        injection hq with hq
        injection hq with e1 e2 e3
        subst e1; subst e2; subst e3
        intro b1 off1 b2 off2 hA1 hA2 e
        exact hnew L h1 q' A2 n2 c2 b2 off2 b1 off1 he' hq' hl2 hA2 hA1 hl1 e.symm
    · rename_i he
      split at hq'
      · injection hq' with hq'
        injection hq' with e1 e2 e3
        subst e1; subst e2; subst e3
        intro b1 off1 b2 off2 hA1 hA2
        exact hnew L h1 q A1 n1 c1 b1 off1 b2 off2 he hq hl1 hA1 hA2 hl2
      · exact h5 q q' A1 n1 c1 A2 n2 c2 hq hq' hne hl1 hl2

theorem MapIs.inj {b : Nat} {L L' : List (ByteArray × Value)} {w : World} (h : MapIs b L w) (h' : MapIs b L' w) : L = L' := by
  obtain ⟨es, clk, q1, q2, q3⟩ := h
  obtain ⟨es', clk', q1', q2', q3'⟩ := h'
  rw [q1] at q1'
  injection q1' with q1'
  injection q1' with e1 e2
  subst e1
  have h := q2.symm.trans q2'
  clear q1 q2 q2' q3 q3'
  induction L generalizing L' with
  | nil => cases L' with
    | nil => rfl
    | cons _ _ => simp at h
  | cons x r ih => cases L' with
    | nil => simp at h
    | cons y r' =>
      simp only [List.map_cons, List.cons.injEq, Prod.mk.injEq, Value.string.injEq] at h
      obtain ⟨⟨h1, h2⟩, h3⟩ := h
      rw [ih h3, Prod.ext h1 h2]
/-- A block that is no row of bytes. -/
def Other (g : Gh) (w : World) (b : Nat) : Prop := g.F b = 0 ∨ ∃ cs e fr, w.heap[b]? = some (.cells cs e fr) ∧ e ≠ 5
/-- What an operation on files leaves: of blocks that are no rows the map alone was touched. -/
def FilesP (o nm : Nat) (g : Gh) (w : World) (f' : Fl) (e : Ending) (w' : World) : Prop :=
  e = .returned (.tuple #[]) ∧ ∃ g', Ext (· = o) g w g' w' ∧ FlAp o g' w' nm f' ∧ ∀ b, b < w.heap.size → b ≠ nm → Other g w b → w'.heap[b]? = w.heap[b]? ∧ g'.F b = g.F b

theorem filesP_new {o nm : Nat} {g g1 : Gh} {w w0 w1 w2 : World} {f : Fl} {k : ByteArray} {l : List UInt8} {A : Option Addr} {cap : Nat} (hf : FlAp o g w nm f) (hb0 : Below w.heap.size w w0) (hb : Below w0.heap.size w0 w1) (hF : ∀ b, b < w0.heap.size → g1.F b = g.F b) (hO : ∀ b, b < w0.heap.size → g1.O b = g.O b)
    (ha : App 5 1 o g1 w1 A l.length cap (bv l)) (hnew : ∀ b off, A = some ⟨b, off, none⟩ → w0.heap.size ≤ b) (hl : l.length ≤ 8388608) (hput : ∀ L, MapIs nm L w1 → MapIs nm (put L k (.slice A l.length cap)) w2) (hg : w1.grownBy w2 (some nm)) :
    FilesP o nm g w (f.put k l) (.returned (.tuple #[])) w2 := by
  have hs0 := hb0.size
  have hbb : Below w.heap.size w w1 := hb0.trans (hb.mono hs0)
  have hx : Ext (· = o) g w g1 w1 := (Ext.of_below (· = o) g hbb).up (fun b hb => hF b (by omega)) (fun b hb => hO b (by omega))
  have hf1 := hf.ext0 hx hbb (fun b hb => hF b (by omega))
  refine ⟨rfl, g1, hx.one hg (fun _ => hf.O) hf1.F, hf1.put1 hg k A cap l hl hput ha ?_, fun b hbl hne _ => ?_⟩
  · intro L hL k' A' n' c' b' off' b1 off1 hk hlk hlt hA' hA1 _ e
    have h1 := hnew b1 off1 hA1
    obtain ⟨L0, m1, m2, m3, m4, _⟩ := hf.ex
    have hL0 : look L0 k' = look L k' := by rw [(m1.below hbb hf.lt).inj hL]
    rw [← hL0] at hlk
    obtain ⟨l', A2, cap2, e1, e2, e3, ha2⟩ := m4 k' _ hlk
    injection e2 with e2 e4 e5
    subst e2
    obtain ⟨h0, b2, cs, f1, f2, f3, f4, f5⟩ := ha2.sp (by omega)
    rw [hA'] at f1
    injection f1 with f1
    injection f1 with f1 _
    have := block_lt f4
    omega
  · exact ⟨by rw [hg.block b (by have := hbb.size; omega) (fun e => hne (by injection e)), hbb.block b hbl], hF b (by omega)⟩

set_option maxRecDepth 100000 in
set_option maxHeartbeats 800000 in
theorem create_any (o nm : Nat) (g : Gh) (f : Fl) (k to : ByteArray) (tears : Bool) (fv : Value) (A : Option Addr) (c : Nat) (l : List UInt8) (w : World) (hf : FlAp o g w nm f) (hr : Rd 1 g w A l.length (bv l)) (hz : A = none → l.length = 0) (hl : l.length ≤ 8388608) :
    Calls Tryz.prog 132 #[.map (some nm), .agg #[fv, .string k, .string to, .slice A l.length c, .bool tears]] w (FilesP o nm g w (f.put k l)) := by
  have HF := Lib.hid hf
  have HR := Lib.hid hr
  have HZ := Lib.hid hz
  have hlt := hf.lt
  clear hf hr hz
  have hw1 : Below w.heap.size w (w.alloc (.cells #[fv, .string k, .string to, .slice A l.length c, .bool tears] 111)).drew := ((Below.refl _ _).alloc (Nat.le_refl _) _).drew
  have hS : Blk w.heap.size 111 [fv, .string k, .string to, .slice A l.length c, .bool tears] (w.alloc (.cells #[fv, .string k, .string to, .slice A l.length c, .bool tears] 111)).drew := (Blk.new w 111 [fv, .string k, .string to, .slice A l.length c, .bool tears]).drew
  go_enter Tryz.func132, Tryz.ntmps132
  go_wp2_with fail
  (refine wp_region_mix (S := Blk w.heap.size 111 [fv, .string k, .string to, .slice A l.length c, .bool tears]) [] [([0, 1, 2, 3, 4], 5), ([], 6)] (by kernel_rfl) (by kernel_rfl) (by intro c a d v w h; cases d <;> exact h) hS ?_; have hN : Nonempty (Held (Blk w.heap.size 111 [fv, .string k, .string to, .slice A l.length c, .bool tears])) := ⟨⟨_, hS⟩⟩)
  have r1 := fun y : Held (Blk w.heap.size 111 [fv, .string k, .string to, .slice A l.length c, .bool tears]) => y.ok.cell 1
  have r3 := fun y : Held (Blk w.heap.size 111 [fv, .string k, .string to, .slice A l.length c, .bool tears]) => y.ok.cell 3
  (unfold wpMix wpRd; (repeat (first | simp only [List.filterMap_cons] | simp only [List.filterMap_nil] | simp only [List.getElem?_toArray] | simp only [List.getElem?_cons_zero] | simp only [List.getElem?_cons_succ])); (try dsimp only); change wpQuiet _ _ _ _ (_ :: _ :: _ :: _ :: _ :: []) _; (repeat (go_big_quiet_step (fail))); refine wpQuiet_nil ?_; (try dsimp only))
  go_wp2_with fail
  refine (cloneB_any o g A l.length c (bv l) _ (HR.out.ext (Ext.of_below (fun _ => True) g hw1)) HZ.out (bv_one l) (by omega)).mono ?_
  rintro e w1 ⟨A', cap', g1, rfl, hb1, hF1, hO1, ha1, _, hnew1⟩
  have hS1 := hS.below hb1
  go_wp2_with fail
  refine ⟨hS1, ?_⟩
  obtain ⟨L, hL, _⟩ := HF.out.ex
  have hs1 := hb1.size
  have hL1 : MapIs nm L w1 := (hL.below hw1 hlt).below hb1 (by simp; omega)
  (unfold wpMix wpRd; (repeat (first | simp only [List.filterMap_cons] | simp only [List.filterMap_nil] | simp only [List.getElem?_toArray] | simp only [List.getElem?_cons_zero] | simp only [List.getElem?_cons_succ])); (try dsimp only); change wpQuiet _ _ _ _ ([]) _; (repeat (go_big_quiet_step (fail))); refine wpQuiet_nil ?_; (try dsimp only))
  refine wpList_put rfl _ _ _ 70 rfl 9 30 Tryz.underlying70 Tryz.underlying9 nm L rfl hL1 k rfl (.slice A' l.length cap') rfl ?_
  intro w2 hL2 hg2
  have hfin := filesP_new (k := k) (l := l) HF.out hw1 hb1 hF1 hO1 ha1 hnew1 hl (fun L' hL' => by rw [← hL1.inj hL']; exact hL2) hg2
  have HFIN := Lib.hid hfin
  clear hfin hF1 hO1
  refine ⟨?_, ?_⟩
  · exact hS1.grown hg2 (fun e => by injection e; omega)
  (unfold wpMix wpRd; (repeat (first | simp only [List.filterMap_cons] | simp only [List.filterMap_nil] | simp only [List.getElem?_toArray] | simp only [List.getElem?_cons_zero] | simp only [List.getElem?_cons_succ])); (try dsimp only); change wpQuiet _ _ _ _ ([]) _; (repeat (go_big_quiet_step (fail))); refine wpQuiet_nil ?_; (try dsimp only))
  go_end0
  exact HFIN.out

/-- The same where a row was appended to before the map was written. -/
theorem FlAp.put2 {o : Nat} {g g1 : Gh} {w w1 w' : World} {b : Nat} {f : Fl} (h : FlAp o g w b f) (hx1 : Ext (· = o) g w g1 w1) (hmap : w1.heap[b]? = w.heap[b]?) (hF1 : g1.F b = 0) {L : List (ByteArray × Value)} (hL : MapIs b L w) (k : ByteArray)
    (hoth : ∀ k' A' n' c' b' off', k' ≠ k → look L k' = some (.slice A' n' c') → n' < c' → A' = some ⟨b', off', none⟩ → b' < w.heap.size → w1.heap[b']? = w.heap[b']? ∧ g1.F b' = g.F b')
    (hg : w1.grownBy w' (some b)) (A : Option Addr) (cap : Nat) (l : List UInt8) (hl : l.length ≤ 8388608) (hput : MapIs b (Go.Proofs.YtjjdffafibonhaaGreatDoor.put L k (.slice A l.length cap)) w')
    (ha : App 5 1 o g1 w1 A l.length cap (bv l)) (hnew : ∀ k' A' n' c' b' off' b1 off1, k' ≠ k → look L k' = some (.slice A' n' c') → n' < c' → A' = some ⟨b', off', none⟩ → A = some ⟨b1, off1, none⟩ → l.length < cap → b' ≠ b1) : FlAp o g1 w' b (f.put k l) := by
  have hlt := h.lt
  obtain ⟨L0, h1, h2, h3, h4, h5⟩ := h.ex
  obtain rfl := h1.inj hL
  have hO1 : g1.O b = o := (hx1.own b hlt).trans h.O
  have hx2 : Ext (· = o) g1 w1 g1 w' := (Ext.refl (· = o) g1 w1).one hg (fun _ => hO1) hF1
  have hk2 : ∀ v, look L0 k = some v → (f.m k).isSome = true := fun v hv => by obtain ⟨l, _, _, e, _⟩ := h4 k v hv; rw [e]; rfl
  have hk1 : look L0 k = none → (f.m k).isSome = false := fun hv => by rw [h3 k hv]; rfl
  have happ : ∀ A n c xs, App 5 1 o g1 w1 A n c xs → App 5 1 o g1 w' A n c xs := fun A n c xs ha => ha.ext' hx2 fun b1 off hA hb1 hlt1 => by
    obtain ⟨h0, b2, cs, e1, e2, e3, e4, e5⟩ := ha.sp hlt1
    have hne : some b1 ≠ some b := fun e => by
      injection e with e
      rw [hA] at e1; injection e1 with e1; injection e1 with e1 _
      subst e1; subst e
      rw [hF1] at e3
      omega
    exact ⟨hg.block b1 hb1 hne, rfl⟩
  refine ⟨⟨_, hput, ?_, fun q hq => ?_, fun q v hq => ?_, fun q q' A1 n1 c1 A2 n2 c2 hq hq' hne hl1 hl2 => ?_⟩, hO1, hF1⟩
  · rw [put_len, h2]
    unfold Fl.put
    cases hl : look L0 k with
    | none => simp [hk1 hl]
    | some v => simp [hk2 v hl]
  · rw [look_put] at hq
    unfold Fl.put
    dsimp only
    split at hq
    · cases hq
    · rename_i hne; rw [if_neg hne]; exact h3 q hq
  · rw [look_put] at hq
    unfold Fl.put
    dsimp only
    split at hq
    · rename_i he
      injection hq with hq
      exact ⟨l, A, cap, by rw [if_pos he], hq.symm, hl, happ _ _ _ _ ha⟩
    · rename_i hne
      obtain ⟨l', A', cap', e1, e2, e3, ha'⟩ := h4 q v hq
      refine ⟨l', A', cap', by rw [if_neg hne]; exact e1, e2, e3, happ _ _ _ _ (ha'.ext' hx1 fun b1 off hA hb1 hlt1 => ?_)⟩
      subst e2
      exact hoth q A' _ cap' b1 off hne hq hlt1 hA hb1
  · rw [look_put] at hq hq'
    split at hq
    · rename_i he
      split at hq'
      · rename_i he'; exact absurd (he.trans he'.symm) hne
      · rename_i he'
        injection hq with hq
        injection hq with e1 e2 e3
        subst e1; subst e2; subst e3
        intro b1 off1 b2 off2 hA1 hA2 e
        exact hnew q' A2 n2 c2 b2 off2 b1 off1 he' hq' hl2 hA2 hA1 hl1 e.symm
    · rename_i he
      split at hq'
      · injection hq' with hq'
        injection hq' with e1 e2 e3
        subst e1; subst e2; subst e3
        intro b1 off1 b2 off2 hA1 hA2
        exact hnew q A1 n1 c1 b1 off1 b2 off2 he hq hl1 hA1 hA2 hl2
      · exact h5 q q' A1 n1 c1 A2 n2 c2 hq hq' hne hl1 hl2

theorem FlAp.found {o : Nat} {g : Gh} {w : World} {b : Nat} {f : Fl} (h : FlAp o g w b f) {L : List (ByteArray × Value)} (hL : MapIs b L w) (k : ByteArray) :
    (Go.Proofs.YtjjdffafibonhaaGreatDoor.look L k = none ∧ f.m k = none) ∨ (∃ l A cap, Go.Proofs.YtjjdffafibonhaaGreatDoor.look L k = some (.slice A l.length cap) ∧ f.m k = some l ∧ l.length ≤ 8388608 ∧ App 5 1 o g w A l.length cap (bv l)) := by
  obtain ⟨L0, h1, h2, h3, h4, h5⟩ := h.ex
  obtain rfl := h1.inj hL
  cases hl : Go.Proofs.YtjjdffafibonhaaGreatDoor.look L0 k with
  | none => exact .inl ⟨rfl, h3 k hl⟩
  | some v =>
    obtain ⟨l, A, cap, e1, e2, e3, ha⟩ := h4 k v hl
    subst e2
    exact .inr ⟨l, A, cap, rfl, e1, e3, ha⟩

/-- The end of 'add': A, n, c: the value that was there (or nil). -/
theorem filesP_add {o nm : Nat} {g g1 : Gh} {w w0 w1 w2 : World} {f : Fl} {k : ByteArray} {l : List UInt8} {A A' : Option Addr} {c cap' : Nat} (hf : FlAp o g w nm f) (hb0 : Below w.heap.size w w0) {L : List (ByteArray × Value)} (hL : MapIs nm L w)
    (hA : (look L k = none ∧ A = none) ∨ look L k = some (.slice A (f.get k).length c))
    (hx : Ext (· = o) g w0 g1 w1) (ha : App 5 1 o g1 w1 A' (f.get k ++ l).length cap' (bv (f.get k ++ l))) (hlies : Lies g w0 A (f.get k).length c g1 w1 A' cap')
    (hl : (f.get k ++ l).length ≤ 8388608) (hput : MapIs nm (put L k (.slice A' (f.get k ++ l).length cap')) w2) (hg : w1.grownBy w2 (some nm)) :
    FilesP o nm g w (f.put k (f.get k ++ l)) (.returned (.tuple #[])) w2 := by
  have hs0 := hb0.size
  have hlt := hf.lt
  have hx0 : Ext (· = o) g w g1 w1 := (Ext.of_below (· = o) g hb0).trans hx
  obtain ⟨L0, m1, m2, m3, m4, m5⟩ := hf.ex
  obtain rfl := m1.inj hL
  have hrow : (f.get k).length < c → ∀ b off, A = some ⟨b, off, none⟩ → b < w.heap.size ∧ ¬ Other g w b := fun hc b off hb => by
    rcases hA with ⟨_, h⟩ | h
    · rw [h] at hb; cases hb
    · obtain ⟨l', A2, cap2, e1, e2, e3, ha2⟩ := m4 k _ h
      injection e2 with e2 e4 e5
      subst e2; subst e5
      obtain ⟨h0, b2, cs, f1, f2, f3, f4, f5⟩ := ha2.sp (by omega)
      rw [hb] at f1; injection f1 with f1; injection f1 with f1 _
      refine ⟨by rw [f1]; exact block_lt f4, fun ho => ?_⟩
      rw [f1] at ho
      rcases ho with ho | ⟨cs', e', fr', ho, hne⟩
      · omega
      · rw [f4] at ho
        injection ho with ho
        injection ho with _ ho _
        exact hne ho.symm
  have hfree : ∀ b, b < w.heap.size → Other g w b → w1.heap[b]? = w.heap[b]? ∧ g1.F b = g.F b := fun b hb hF => by
    obtain ⟨e1, e2⟩ := hlies.far b (by omega) (fun hc off he => (hrow hc b off he).2 hF)
    exact ⟨e1.trans (hb0.block b hb), e2⟩
  have hnm := hfree nm hlt (.inl hf.F)
  have hdiff : ∀ k' A1 n1 c1 b1 off1, k' ≠ k → look L0 k' = some (.slice A1 n1 c1) → n1 < c1 → A1 = some ⟨b1, off1, none⟩ → (f.get k).length < c → ∀ off, A ≠ some ⟨b1, off, none⟩ := fun k' A1 n1 c1 b1 off1 hk hl1 hlt1 hA1 hc off he => by
    rcases hA with ⟨_, h⟩ | h
    · rw [h] at he; cases he
    · exact m5 k' k A1 n1 c1 A _ c hl1 h hk hlt1 hc b1 off1 b1 off hA1 he rfl
  refine ⟨rfl, g1, hx0.one hg (fun _ => hf.O) (hnm.2.trans hf.F), hf.put2 hx0 hnm.1 (hnm.2.trans hf.F) hL k ?_ hg A' cap' _ hl hput ha ?_, fun b hb hne hF => ?_⟩
  · intro k' A1 n1 c1 b1 off1 hk hl1 hlt1 hA1 hb1
    obtain ⟨e1, e2⟩ := hlies.far b1 (by omega) (fun hc off he => hdiff k' A1 n1 c1 b1 off1 hk hl1 hlt1 hA1 hc off he)
    exact ⟨e1.trans (hb0.block b1 hb1), e2⟩
  · intro k' A1 n1 c1 b1 off1 b2 off2 hk hl1 hlt1 hA1 hA2 hcap e
    subst e
    rcases hlies.at_ with ⟨h1, h2⟩ | ⟨b3, h1, h2, _⟩
    · have hc : (f.get k).length < c := by
        rw [h2, List.length_append] at hcap
        omega
      exact hdiff k' A1 n1 c1 b1 off1 hk hl1 hlt1 hA1 hc off2 (by rw [← h1]; exact hA2)
    · rw [hA2] at h1
      injection h1 with h1
      injection h1 with h1 _
      obtain ⟨l', A2, cap2, e1, e2, e3, ha2⟩ := m4 k' _ hl1
      injection e2 with e2 e4 e5
      subst e2; subst e5
      obtain ⟨h0, b4, cs, f1, f2, f3, f4, f5⟩ := ha2.sp (by omega)
      rw [hA1] at f1; injection f1 with f1; injection f1 with f1 _
      have := block_lt f4
      omega
  · exact ⟨by rw [hg.block b (by have := hx0.size; omega) (fun e => hne (by injection e)), (hfree b hb hF).1], (hfree b hb hF).2⟩

theorem zeroBytes (w : World) : (zeroValue 30).run Tryz.prog w = .ok (.slice none 0 0) w := by kernel_rfl

theorem look_either {P : Program} {w : World} {ops : Array Oper} {rest : List Oper} {o : Oper} {a : Act} {Q : Exit → Act → World → Prop} (hg : o.guard = none) (m x : Operand) (t : TypeId) (hop : o.op = Op.lookup t m x false) (kt et : TypeId) (ht : P.underlying t = some (.map kt et)) (hk : P.underlying kt = some .string)
    (b : Nat) (L : List (ByteArray × Value)) (hm : a.eval m = .map (some b)) (hown : MapIs b L w) (hz : (zeroValue et).run P w = .ok (.slice none 0 0) w) (k : ByteArray) (hx : a.eval x = .string k) {A : Option Addr} {n c : Nat}
    (hl : (look L k = none ∧ A = none ∧ c = 0 ∧ n = 0) ∨ look L k = some (.slice A n c)) (hK : wpList P ops Q rest (a.put o.dst (.slice A n c)) w) : wpList P ops Q (o :: rest) a w := by
  rcases hl with ⟨e1, e2, e3, e4⟩ | e1
  · subst e2; subst e3; subst e4
    exact wpList_look_none hg _ _ t false hop kt et ht hk b L hm hown (.slice none 0 0) hz k hx e1 hK
  · exact wpList_look_some hg _ _ t false hop kt et ht hk b L hm hown k hx _ e1 hK

def Fl.move (f : Fl) (k to : ByteArray) : Fl := if k = to then f else (f.put to (f.get k)).del k
theorem FlAp.moved {o : Nat} {g : Gh} {w w' : World} {b : Nat} {f : Fl} (h : FlAp o g w b f) {L : List (ByteArray × Value)} (hL : MapIs b L w) {k to : ByteArray} (hne : k ≠ to) (hg : w.grownBy w' (some b)) {A : Option Addr} {c : Nat}
    (hv : (look L k = none ∧ A = none ∧ c = 0 ∧ f.get k = []) ∨ look L k = some (.slice A (f.get k).length c)) (ha : App 5 1 o g w A (f.get k).length c (bv (f.get k))) (hlen : (f.get k).length ≤ 8388608)
    (hput : MapIs b (Go.Proofs.YtjjdffafibonhaaGreatDoor.del (Go.Proofs.YtjjdffafibonhaaGreatDoor.put L to (.slice A (f.get k).length c)) k) w') : FlAp o g w' b (f.move k to) := by
  have hlt := h.lt
  obtain ⟨L0, h1, h2, h3, h4, h5⟩ := h.ex
  obtain rfl := h1.inj hL
  have hx : Ext (· = o) g w g w' := (Ext.refl (· = o) g w).one hg (fun _ => h.O) h.F
  have hm : ∀ q, (f.m q).isSome = (look L0 q).isSome := fun q => by
    cases hl : look L0 q with
    | none => rw [h3 q hl]; rfl
    | some v => obtain ⟨l, _, _, e, _⟩ := h4 q v hl; rw [e]; rfl
  have happ : ∀ A n c xs, App 5 1 o g w A n c xs → App 5 1 o g w' A n c xs := fun A n c xs ha => ha.ext' hx fun b1 off hA hb1 hlt1 => by
    obtain ⟨h0, b2, cs, e1, e2, e3, e4, e5⟩ := ha.sp hlt1
    have hne : some b1 ≠ some b := fun e => by
      injection e with e
      rw [hA] at e1; injection e1 with e1; injection e1 with e1 _
      subst e1; subst e
      rw [h.F] at e3
      omega
    exact ⟨hg.block b1 hb1 hne, rfl⟩
  have hnd : ((put L0 to (.slice A (f.get k).length c)).map (·.1)).Nodup := by
    obtain ⟨_, _, _, _, _, _, hn⟩ := h1
    exact put_nodup hn _ _
  have hlook : ∀ q, look (del (put L0 to (.slice A (f.get k).length c)) k) q = if q = k then none else if q = to then some (.slice A (f.get k).length c) else look L0 q := fun q => by
    rw [look_del hnd, look_put]
  have hmv : f.move k to = (f.put to (f.get k)).del k := by unfold Fl.move; rw [if_neg hne]
  rw [hmv]
  refine ⟨⟨_, hput, ?_, fun q hq => ?_, fun q v hq => ?_, fun q q' A1 n1 c1 A2 n2 c2 hq hq' hqq hl1 hl2 => ?_⟩, h.O, h.F⟩
  · rw [del_len, put_len, look_put, if_neg hne, h2]
    simp only [Fl.del, Fl.put, if_neg hne, hm]
  · rw [hlook] at hq
    simp only [Fl.del, Fl.put]
    split at hq
    · rename_i e; rw [if_pos e]
    · rename_i e
      split at hq
      · cases hq
      · rename_i e2; rw [if_neg e, if_neg e2]; exact h3 q hq
  · rw [hlook] at hq
    simp only [Fl.del, Fl.put]
    split at hq
    · cases hq
    · rename_i e
      split at hq
      · rename_i e2
        injection hq with hq
        exact ⟨f.get k, A, c, by rw [if_neg e, if_pos e2], hq.symm, hlen, happ _ _ _ _ ha⟩
      · rename_i e2
        obtain ⟨l', A', cap', e3, e4, e5, ha'⟩ := h4 q v hq
        exact ⟨l', A', cap', by rw [if_neg e, if_neg e2]; exact e3, e4, e5, happ _ _ _ _ ha'⟩
  · rw [hlook] at hq hq'
    split at hq
    · cases hq
    · rename_i e
      split at hq'
      · cases hq'
      · rename_i e'
        have key : ∀ q A1 n1 c1 A2 n2 c2, q ≠ k → look L0 q = some (.slice A1 n1 c1) → (Value.slice A (f.get k).length c) = .slice A2 n2 c2 → n1 < c1 → n2 < c2 → ∀ b off b' off', A1 = some ⟨b, off, none⟩ → A2 = some ⟨b', off', none⟩ → b ≠ b' := by
          intro q A1 n1 c1 A2 n2 c2 hqk hql he hl1 hl2
          injection he with e1 e2 e3
          subst e1; subst e2; subst e3
          rcases hv with ⟨_, hn, hc0, _⟩ | hv
          · subst hc0; omega
          · exact h5 q k A1 n1 c1 A _ c hql hv hqk hl1 hl2
        split at hq
        · rename_i e2
          split at hq'
          · rename_i e3; exact absurd (e2.trans e3.symm) hqq
          · injection hq with hq
            intro b1 off1 b2 off2 hA1 hA2 he
            exact key q' A2 n2 c2 A1 n1 c1 e' hq' hq hl2 hl1 b2 off2 b1 off1 hA2 hA1 he.symm
        · split at hq'
          · injection hq' with hq'
            exact key q A1 n1 c1 A2 n2 c2 e hq hq' hl1 hl2
          · exact h5 q q' A1 n1 c1 A2 n2 c2 hq hq' hqq hl1 hl2

theorem beq_list {a b : ByteArray} (h : a ≠ b) : (a.toList == b.toList) = false ∧ (a.toList != b.toList) = true := by
  have : (a.toList == b.toList) = false := by
    rw [← beq_toListBytes]
    cases hb : (a == b)
    · rfl
    · exact absurd ((ba_beq _ _).1 hb) h
  exact ⟨this, by simp [bne, this]⟩
theorem beq_list_self (a : ByteArray) : (a.toList == a.toList) = true ∧ (a.toList != a.toList) = false := by simp

/-- Kept where the map and all rows are as they were. -/
theorem FlAp.same {o : Nat} {g g' : Gh} {w w' : World} {b : Nat} {f : Fl} {M : Nat → Prop} (h : FlAp o g w b f) (hx : Ext M g w g' w') (hk : ∀ k, k < w.heap.size → g.F k ≠ 0 ∨ k = b → w'.heap[k]? = w.heap[k]? ∧ g'.F k = g.F k) : FlAp o g' w' b f := by
  have hlt := h.lt
  obtain ⟨L, h1, h2, h3, h4, h5⟩ := h.ex
  obtain ⟨e1, e2⟩ := hk b hlt (.inr rfl)
  refine ⟨⟨L, h1.of_block e1, h2, h3, fun k v hl => ?_, h5⟩, (hx.own b hlt).trans h.O, e2.trans h.F⟩
  obtain ⟨l, A, cap, e1, e2, e3, ha⟩ := h4 k v hl
  refine ⟨l, A, cap, e1, e2, e3, ha.ext' hx fun b1 off hA hb1 hlt1 => hk b1 hb1 (.inl ?_)⟩
  obtain ⟨h0, b2, cs, f1, _, f3, _⟩ := ha.sp hlt1
  rw [hA] at f1; injection f1 with f1; injection f1 with f1 _
  rw [f1, f3]
  omega
end

section
open Go.RowKit

set_option maxRecDepth 100000 in
set_option maxHeartbeats 800000 in
theorem mapsClone_any (b : Nat) (es : Array MapEntry) (clock : Nat) (w : World) (hb : w.heap[b]? = some (.map es clock)) :
    Calls Tryz.prog 62 #[.map (some b)] w fun e w' => e = .returned (.map (some w.heap.size)) ∧ w' = w.alloc (.map es clock) := by
  have hq := fun w => run_eql_map_nil_sl (P := Tryz.prog) w 70 _ _ (some b) Tryz.underlying70
  have ht := fun (v : Value) (w : World) => run_typeAssert_map_sl (P := Tryz.prog) w 70 20 _ _ v Tryz.underlying70
  go_enter Tryz.func62, Tryz.ntmps62
  go_wp2
  rw [run_callFunc_extern Tryz.func85 (by kernel_rfl) (by kernel_rfl) (by kernel_rfl) (e := Extern.MapsClone.clone) (by kernel_rfl), run_maps_clone_sl w 70 hb]
  simp only [Result.andThen]
  rw [Oper.upon_value]
  go_wp2
  go_ret
  exact ⟨rfl, rfl⟩

set_option maxRecDepth 100000 in
set_option maxHeartbeats 400000 in
theorem clip_any (A : Option Addr) (n c : Nat) (w : World) (h : n ≤ c) (_hc : c ≤ 9223372036854775807) :
    Calls Tryz.prog 84 #[.slice A n c] w fun e w' => e = .returned (.slice A n n) ∧ w = w' := by
  obtain ⟨i0, hi, hz0, hz1, hz2⟩ := info_parts Tryz.infoU8
  have hcut := run_cut_hm (P := Tryz.prog) Tryz.underlying30 hi A n c n n (Nat.le_refl _) h
  clear hi hz0 hz1 hz2
  go_enter Tryz.func84, Tryz.ntmps84
  go_wp2_with fail
  go_ret
  exact ⟨rfl, rfl⟩

theorem nodup_le {α : Type} [DecidableEq α] : ∀ (l l' : List α), l.Nodup → (∀ x ∈ l, x ∈ l') → l.length ≤ l'.length
  | [], _, _, _ => Nat.zero_le _
  | x :: l, l', hn, hs => by
    rw [List.nodup_cons] at hn
    have h1 : x ∈ l' := hs x (by simp)
    have h2 := nodup_le l (l'.erase x) hn.2 (fun y hy => (List.mem_erase_of_ne (fun e : y = x => hn.1 (by rw [← e]; exact hy))).2 (hs y (by simp [hy])))
    rw [List.length_erase_of_mem h1] at h2
    have := List.length_pos_of_mem h1
    simp only [List.length_cons]
    omega
def clipV : Value → Value
  | .slice A n _ => .slice A n n
  | v => v
/-- So far the copy has the entries whose stamps have been seen. -/
structure Copying (es : Array MapEntry) (seen : Array Nat) (L' : List (ByteArray × Value)) : Prop where
  has : ∀ e ∈ es.toList, seen.contains e.born = true → ∀ q, e.key = .string q → look L' q = some (clipV e.val)
  only : ∀ q v, look L' q = some v → ∃ e ∈ es.toList, seen.contains e.born = true ∧ e.key = .string q
theorem key_inj {es : Array MapEntry} {L : List (ByteArray × Value)} (he : es.toList.map (fun e => (e.key, e.val)) = L.map (fun x => (Value.string x.1, x.2))) (hn : (L.map (·.1)).Nodup) {e e' : MapEntry} (h : e ∈ es.toList) (h' : e' ∈ es.toList) (hk : e.key = e'.key) : e = e' := by
  have hkn : (es.toList.map (·.key)).Nodup := by
    have h1 : es.toList.map (·.key) = (L.map (·.1)).map Value.string := by
      have := congrArg (List.map Prod.fst) he
      simpa [List.map_map, Function.comp_def] using this
    rw [h1]
    exact List.Pairwise.map Value.string (fun a b hab e => hab (by injection e)) hn
  generalize es.toList = l at *
  clear he
  induction l with
  | nil => cases h
  | cons x l ih =>
    rw [List.map_cons, List.nodup_cons] at hkn
    rcases List.mem_cons.1 h with rfl | h1
    · rcases List.mem_cons.1 h' with rfl | h2
      · rfl
      · exact absurd (hk ▸ List.mem_map_of_mem h2) hkn.1
    · rcases List.mem_cons.1 h' with rfl | h2
      · exact absurd (hk ▸ List.mem_map_of_mem h1) hkn.1
      · exact ih h1 h2 hkn.2
theorem Copying.step {es : Array MapEntry} {seen : Array Nat} {L L' : List (ByteArray × Value)} (he : es.toList.map (fun e => (e.key, e.val)) = L.map (fun x => (Value.string x.1, x.2))) (hn : (L.map (·.1)).Nodup) (hbn : (es.toList.map (·.born)).Nodup) (h : Copying es seen L') {e : MapEntry} (hm : e ∈ es.toList) {q : ByteArray} (hq : e.key = .string q) :
    Copying es (seen.push e.born) (put L' q (clipV e.val)) := by
  refine ⟨fun e' he' hs q' hq' => ?_, fun q' v hv => ?_⟩
  · rw [look_put]
    split
    · rename_i hqq
      subst hqq
      rw [key_inj he hn he' hm (hq'.trans hq.symm)]
    · rename_i hqq
      refine h.has e' he' ?_ q' hq'
      simp only [Array.contains_push, Bool.or_eq_true, beq_iff_eq] at hs
      rcases hs with hs | hs
      · exact hs
      · have : e' = e := by
          have hb : ∀ {l : List MapEntry}, (l.map (·.born)).Nodup → e' ∈ l → e ∈ l → e' = e := by
            intro l hl h1 h2
            induction l with
            | nil => cases h1
            | cons x l ih =>
              rw [List.map_cons, List.nodup_cons] at hl
              rcases List.mem_cons.1 h1 with h1' | h1'
              · rcases List.mem_cons.1 h2 with h2' | h2'
                · rw [h1', h2']
                · exact absurd (by rw [← h1', hs]; exact List.mem_map_of_mem h2') hl.1
              · rcases List.mem_cons.1 h2 with h2' | h2'
                · exact absurd (by rw [← h2', ← hs]; exact List.mem_map_of_mem h1') hl.1
                · exact ih hl.2 h1' h2'
          exact hb hbn he' hm
        subst this
        rw [hq] at hq'
        injection hq' with hq'
        exact absurd hq'.symm hqq
  · rw [look_put] at hv
    split at hv
    · rename_i hqq
      exact ⟨e, hm, by simp, by rw [hqq]; exact hq⟩
    · obtain ⟨e', h1, h2, h3⟩ := h.only q' v hv
      exact ⟨e', h1, by rw [Array.contains_push, h2]; rfl, h3⟩
theorem look_mem {L : List (ByteArray × Value)} (hn : (L.map (·.1)).Nodup) {q : ByteArray} {v : Value} (h : (q, v) ∈ L) : look L q = some v := by
  induction L with
  | nil => cases h
  | cons x r ih =>
    rw [List.map_cons, List.nodup_cons] at hn
    rcases List.mem_cons.1 h with h6 | h6
    · subst h6; simp [look, ba_self]
    · have hne : (q == x.1) = false := by
        cases hb : (q == x.1)
        · rfl
        · exact absurd ((ba_beq _ _).1 hb ▸ List.mem_map_of_mem h6) hn.1
      have := ih hn.2 h6
      simpa [look, List.find?_cons, hne] using this
/-- A copy of files: the same bytes, in a new map whose values have no room. -/
theorem copied_end {g : Gh} {w w' : World} {b c o : Nat} {f : Fl} {es : Array MapEntry} {clock : Nat} {seen : Array Nat} {L L' : List (ByteArray × Value)} (hf : FlRd g w b f) (hL : MapIs b L w) (_hb : w.heap[b]? = some (.map es clock)) (he : es.toList.map (fun e => (e.key, e.val)) = L.map (fun x => (Value.string x.1, x.2)))
    (hbb : Below w.heap.size w w') (hc : MapIs c L' w') (hcp : Copying es seen L') (hall : ∀ x ∈ es.toList, seen.contains x.born = true) (hlen : ∀ k l, f.m k = some l → l.length ≤ 8388608) (hcw : w.heap.size ≤ c) :
    ∃ g', (∀ b, b < w.heap.size → g'.F b = g.F b) ∧ (∀ b, b < w.heap.size → g'.O b = g.O b) ∧ FlAp o g' w' c f := by
  have hcl := hc.lt
  have hx0 : Ext (fun _ => True) g w ⟨fun k => if k = c then 0 else g.F k, fun k => if k = c then o else g.O k⟩ w' := (Ext.of_below (fun _ => True) g hbb).up (fun k hk => by dsimp only; rw [if_neg (by omega)]) (fun k hk => by dsimp only; rw [if_neg (by omega)])
  obtain ⟨L0, h1, h2, h3, h4⟩ := hf.ex
  obtain rfl := h1.inj hL
  have hmem : ∀ q v, (q, v) ∈ L0 → ∃ e ∈ es.toList, e.key = .string q ∧ e.val = v := fun q v hm => by
    have h5 : (Value.string q, v) ∈ es.toList.map (fun e => (e.key, e.val)) := by rw [he]; exact List.mem_map.2 ⟨(q, v), hm, rfl⟩
    obtain ⟨e, h6, h7⟩ := List.mem_map.1 h5
    simp only [Prod.mk.injEq] at h7
    exact ⟨e, h6, h7.1, h7.2⟩
  have hmem2 : ∀ e ∈ es.toList, ∀ q, e.key = .string q → look L0 q = some e.val := fun e hm q hq => by
    obtain ⟨_, _, _, _, _, _, hkn⟩ := h1
    have h5 : (Value.string q, e.val) ∈ L0.map (fun x => (Value.string x.1, x.2)) := by rw [← he]; exact List.mem_map.2 ⟨e, hm, by rw [hq]⟩
    obtain ⟨⟨q', v'⟩, h6, h7⟩ := List.mem_map.1 h5
    simp only [Prod.mk.injEq, Value.string.injEq] at h7
    obtain ⟨rfl, rfl⟩ := h7
    exact look_mem hkn h6
  have hkeys : ∀ q, (look L' q).isSome = true ↔ (look L0 q).isSome = true := fun q => by
    constructor
    · intro h
      obtain ⟨v, hv⟩ := Option.isSome_iff_exists.1 h
      obtain ⟨e, hm, _, hq⟩ := hcp.only q v hv
      rw [hmem2 e hm q hq]; rfl
    · intro h
      rw [look_isSome] at h
      obtain ⟨⟨q', v⟩, h6, h7⟩ := List.mem_map.1 h
      dsimp only at h7
      subst h7
      obtain ⟨e, hm, hq, _⟩ := hmem q' v h6
      rw [hcp.has e hm (hall e hm) q' hq]; rfl
  refine ⟨⟨fun k => if k = c then 0 else g.F k, fun k => if k = c then o else g.O k⟩, fun k hk => by dsimp only; rw [if_neg (by omega)], fun k hk => by dsimp only; rw [if_neg (by omega)], ⟨L', hc, ?_, fun q hq => ?_, fun q v hq => ?_, ?_⟩, by simp, by simp⟩
  · rw [← h2]
    obtain ⟨_, _, _, _, _, _, hkn⟩ := h1
    obtain ⟨_, _, _, _, _, _, hkn'⟩ := hc
    have a1 := nodup_le _ _ hkn' (fun q hq => (look_isSome L0 q).1 ((hkeys q).1 ((look_isSome L' q).2 hq)))
    have a2 := nodup_le _ _ hkn (fun q hq => (look_isSome L' q).1 ((hkeys q).2 ((look_isSome L0 q).2 hq)))
    simp only [List.length_map] at a1 a2
    omega
  · refine h3 q ?_
    cases hl : look L0 q with
    | none => rfl
    | some v =>
      have := (hkeys q).2 (by rw [hl]; rfl)
      rw [hq] at this
      cases this
  · obtain ⟨e, hm, hs, hq2⟩ := hcp.only q v hq
    have e1 := hcp.has e hm hs q hq2
    rw [hq] at e1
    injection e1 with e1
    obtain ⟨l, e2, hbat⟩ := h4 q e.val (hmem2 e hm q hq2)
    obtain ⟨A, cap, e3, e4, e5, e6, e7⟩ := hbat.ex
    rw [e3] at e1
    exact ⟨l, A, l.length, e2, e1, hlen q l e2, ⟨e7.ext hx0, Nat.le_refl _, by omega, fun hA => ⟨e6 hA, e6 hA⟩, fun h => absurd h (Nat.lt_irrefl _)⟩⟩
  · intro k k' A n cc A' n' c' h1' h2' _ hlt
    obtain ⟨e, hm, hs, hq2⟩ := hcp.only k _ h1'
    have e1 := hcp.has e hm hs k hq2
    rw [h1'] at e1
    injection e1 with e1
    obtain ⟨l, e2, hbat⟩ := h4 k e.val (hmem2 e hm k hq2)
    obtain ⟨A2, cap, e3, _⟩ := hbat.ex
    rw [e3] at e1
    injection e1 with _ e5 e6
    omega

def CopiedP (o : Nat) (g : Gh) (w : World) (f : Fl) (e : Ending) (w' : World) : Prop :=
  ∃ c g', e = .returned (.map (some c)) ∧ w.heap.size ≤ c ∧ Below w.heap.size w w' ∧ (∀ b, b < w.heap.size → g'.F b = g.F b) ∧ (∀ b, b < w.heap.size → g'.O b = g.O b) ∧ FlAp o g' w' c f
def seenOf (r : Nat) (w : World) : Array Nat := match w.heap[r]? with
  | some (.mapIter _ _ seen _) => seen
  | _ => #[]
theorem run_makeMap_hint {P : Program} (t k e : TypeId) (kd : IntKind) (n : Int) (ht : P.underlying t = some (.map k e)) (w : World) :
    (Instr.makeMap t (some (.int kd n))).run P w = .ok (.map (some w.heap.size)) (w.alloc (.map #[] 0)) := by
  simp [Instr.makeMap, run_underlying ht]; rfl
theorem setBlock_grown (w : World) (r : Nat) (o : Obj) : w.grownBy (ChangeMaps.setBlock w r o) (some r) :=
  ⟨rfl, rfl, rfl, by simp [ChangeMaps.setBlock], fun i _ hne => by
    have hri : r ≠ i := fun e => hne (by rw [e])
    simp [ChangeMaps.setBlock, hri]⟩
theorem setBlock_at {w : World} {r : Nat} {o0 : Obj} (h : w.heap[r]? = some o0) (o : Obj) : (ChangeMaps.setBlock w r o).heap[r]? = some o := by
  have := block_lt h
  simp [ChangeMaps.setBlock, this]

set_option maxRecDepth 100000 in
set_option maxHeartbeats 1600000 in
theorem copied_any (o b : Nat) (g : Gh) (f : Fl) (w : World) (hf : FlRd g w b f) (hlen : ∀ k l, f.m k = some l → l.length ≤ 8388608) (hn : f.n ≤ 1000000) :
    Calls Tryz.prog 61 #[.map (some b)] w (CopiedP o g w f) := by
  obtain ⟨L, hL, hLn, hL3, hL4⟩ := hf.ex
  have hL' := hL
  obtain ⟨es, clock, hb, he, hbn, hbc, hkn⟩ := hL'
  have hln := fun ty => hL.run_len (P := Tryz.prog) Tryz.underlying70 ty
  have hblt := hL.lt
  have hmk := fun (n : Int) (W : World) => run_makeMap_hint (P := Tryz.prog) 70 9 30 .i64 n Tryz.underlying70 W
  have hb1 : (w.alloc (.map #[] 0)).heap[b]? = some (.map es clock) := (Below.heap_alloc w _ b hblt).trans hb
  have hrg := run_range_map (P := Tryz.prog) (w.alloc (.map #[] 0)) 70 9 30 b es clock Tryz.underlying70 hb1
  have HEND := Lib.hid (fun w' seen L' => @copied_end g w w' b w.heap.size o f es clock seen L L' hf hL hb he)
  have hval : ∀ e ∈ es.toList, ∃ q A n c, e.key = .string q ∧ e.val = .slice A n c ∧ n ≤ c ∧ c ≤ 9223372036854775807 := fun e hm => by
    have h5 : (e.key, e.val) ∈ L.map (fun x => (Value.string x.1, x.2)) := by rw [← he]; exact List.mem_map.2 ⟨e, hm, rfl⟩
    obtain ⟨⟨q, v⟩, h6, h7⟩ := List.mem_map.1 h5
    simp only [Prod.mk.injEq] at h7
    obtain ⟨l, e2, hbat⟩ := hL4 q v (look_mem hkn h6)
    obtain ⟨A, cap, e3, e4, e5, _⟩ := hbat.ex
    exact ⟨q, A, _, cap, h7.1.symm, by rw [← h7.2, e3], e4, by simp only [maxLen] at e5; omega⟩
  have HV := Lib.hid hval
  have HE := Lib.hid he
  have HBN := Lib.hid hbn
  have HBC := Lib.hid hbc
  have HKN := Lib.hid hkn
  have HLEN := Lib.hid hlen
  have hLb : L.length ≤ 1000000 := by omega
  have HB0 := Lib.hid hb
  clear hf hL hLn hL3 hL4 hb he hbn hbc hkn hval hlen hn
  go_enter Tryz.func61, Tryz.ntmps61
  go_wp2_with fail
  clear hln hmk hrg
  go_loopw [11] (fun _ wr => ∃ seen L' last, wr.heap[w.heap.size + 1]? = some (.mapIter (some b) clock seen last) ∧ clock ≤ last ∧ wr.heap[b]? = some (.map es clock) ∧ MapIs w.heap.size L' wr ∧ Copying es seen L' ∧ Below w.heap.size w wr ∧ seenOf (w.heap.size + 1) wr = seen) (fun _ wr => (leftOf es (seenOf (w.heap.size + 1) wr)).size)
  case atStart =>
    have q1 : ((w.alloc (.map #[] 0)).alloc (.mapIter (some b) clock #[] clock)).heap[w.heap.size + 1]? = some (.mapIter (some b) clock #[] clock) := by
      have := heap_alloc_new (w.alloc (.map #[] 0)) (.mapIter (some b) clock #[] clock)
      simpa using this
    refine ⟨#[], [], clock, q1, Nat.le_refl _, (Below.heap_alloc _ _ b (by simp; omega)).trans hb1, (MapIs.new w).alloc _, ⟨fun e _ h => by simp at h, fun q v h => by simp [look] at h⟩, ((Below.refl _ _).alloc (Nat.le_refl _) _).alloc (by simp) _, ?_⟩
    unfold seenOf
    rw [q1]
  case round =>
    obtain ⟨seen, L', last, hit, hlast, hmb, hmc, hcp, hbel, hseen⟩ := hrel
    rcases run_next_at (P := Tryz.prog) wr 0 (w.heap.size + 1) b clock last seen es clock hit hmb HBC.out hlast with ⟨h0, hnx⟩ | ⟨e, hel, w1, hw1, hnx⟩
    · obtain ⟨g', hF, hO, hfl⟩ := HEND.out wr seen L' hbel hmc hcp (all_seen es seen h0) HLEN.out (Nat.le_refl _)
      have HFL := Lib.hid hfl
      have HF := Lib.hid hF
      have HO := Lib.hid hO
      clear HEND hfl hF hO hit hmb hmc hcp
      go_wp2_with fail
      go_ret
      exact ⟨w.heap.size, g', rfl, Nat.le_refl _, hbel, HF.out, HO.out, HFL.out⟩
    · obtain ⟨hem, hens⟩ := mem_left hel
      obtain ⟨q, A, n, c, hq, hv, hnc, hcm⟩ := HV.out e hem
      have hshr := left_shrinks es seen e hel
      have hw1h : w1.heap = wr.heap := by rcases hw1 with rfl | rfl <;> rfl
      have hg1 := setBlock_grown w1 (w.heap.size + 1) (.mapIter (some b) clock (seen.push e.born) clock)
      have hit1 := setBlock_at (w := w1) (r := w.heap.size + 1) (by rw [hw1h]; exact hit) (.mapIter (some b) clock (seen.push e.born) clock)
      have hbw1 : Below w.heap.size w w1 := by
        rcases hw1 with rfl | rfl
        · exact hbel
        · exact hbel.drew
      have hsz1 : w1.heap.size = wr.heap.size := by rw [hw1h]
      have hlt1 := block_lt hit
      generalize hW : ChangeMaps.setBlock w1 (w.heap.size + 1) (.mapIter (some b) clock (seen.push e.born) clock) = W at hnx hg1 hit1
      have hmbW : W.heap[b]? = some (.map es clock) := (hg1.block b (by omega) (fun h => by injection h; omega)).trans (by rw [hw1h]; exact hmb)
      have hmcW : MapIs w.heap.size L' W := hmc.of_block ((hg1.block _ (by omega) (fun h => by injection h; omega)).trans (by rw [hw1h]))
      have hbW : Below w.heap.size w W := hbw1.grown hg1 (by omega) (fun k hk => by injection hk; omega)
      have hen := run_entry_at (P := Tryz.prog) W (w.heap.size + 1) b clock seen es clock e hit1 hmbW hem HBN.out
      rw [hq, hv] at hnx hen
      have hcp1 := hcp.step HE.out HKN.out HBN.out hem hq
      rw [hv] at hcp1
      have HCP := Lib.hid hcp1
      have HMC := Lib.hid hmcW
      have HIT := Lib.hid hit1
      have HMB := Lib.hid hmbW
      have HSH := Lib.hid hshr
      have HSN := Lib.hid hseen
      have hszW := hg1.size
      clear hit hmb hmc hcp hel hw1 hem hens hq hv hw1h hg1 hit1 hW hmbW hmcW hcp1 hshr hseen
      go_wp2_with fail
      refine (clip_any A n c _ hnc hcm).mono ?_
      rintro e1 w2 ⟨rfl, rfl⟩
      go_wp2_with (with_reducible refine wpList_put rfl (.tmp 16) (.tmp 17) (.tmp 19) 70 rfl 9 30 Tryz.underlying70 Tryz.underlying9 w.heap.size L' rfl HMC.out q rfl (.slice A n n) rfl ?_; intro w3 hm3 hg3)
      go_frame
      go_roundw
      case rel =>
        refine ⟨seen.push e.born, _, clock, (hg3.block _ (by omega) (fun h => by injection h; omega)).trans HIT.out, Nat.le_refl _, (hg3.block _ (by omega) (fun h => by injection h; omega)).trans HMB.out, hm3, HCP.out, hbW.grown hg3 (by omega) (fun k hk => by injection hk; omega), ?_⟩
        unfold seenOf
        rw [(hg3.block _ (by omega) (fun h => by injection h; omega)).trans HIT.out]
      case measure =>
        have e1 : seenOf (w.heap.size + 1) w3 = seen.push e.born := by
          unfold seenOf
          rw [(hg3.block _ (by omega) (fun h => by injection h; omega)).trans HIT.out]
        rw [e1, HSN.out]
        exact HSH.out
end

section
open Go.RowKit

/-- A pending operation: kind 0 create, 1 add, else rename. -/
structure POp where
  kind : Nat
  name : ByteArray
  to : ByteArray
  bytes : List UInt8
  tears : Bool
def fnV (k : Nat) : Value := .func (.func (if k = 0 then 132 else if k = 1 then 132 else 132)) #[] #[]
def Fl.run (f : Fl) (o : POp) : Fl := if o.kind = 0 then f.put o.name o.bytes else f.put o.name o.bytes

/-- The cells of operations. -/
def OpsR (g : Gh) (w : World) : List Value → List POp → Prop
  | [], [] => True
  | f :: n :: t :: b :: k :: xs, o :: ops => (f = fnV o.kind ∧ n = .string o.name ∧ t = .string o.to ∧ k = .bool o.tears ∧ BytesAt g w b o.bytes) ∧ OpsR g w xs ops
  | _, _ => False
theorem OpsR.ext {g g' : Gh} {w w' : World} {M : Nat → Prop} (hx : Ext M g w g' w') : ∀ {xs : List Value} {ops : List POp}, OpsR g w xs ops → OpsR g' w' xs ops
  | [], [], _ => trivial
  | _ :: _ :: _ :: _ :: _ :: _, _ :: _, ⟨⟨h1, h2, h3, h4, h5⟩, h6⟩ => ⟨⟨h1, h2, h3, h4, h5.ext hx⟩, OpsR.ext hx h6⟩
theorem OpsR.snoc {g : Gh} {w : World} : ∀ {xs : List Value} {ops : List POp}, OpsR g w xs ops → ∀ {o : POp} {b : Value}, BytesAt g w b o.bytes → OpsR g w (xs ++ [fnV o.kind, .string o.name, .string o.to, b, .bool o.tears]) (ops ++ [o])
  | [], [], _, _, _, hb => ⟨⟨rfl, rfl, rfl, rfl, hb⟩, trivial⟩
  | _ :: _ :: _ :: _ :: _ :: _, _ :: _, ⟨h1, h2⟩, _, _, hb => ⟨h1, OpsR.snoc h2 hb⟩

structure Dev where
  kept : Fl
  now : Fl
  pend : List POp
  down : Bool
  fuse : Int

/-- What the device's fields lead to. -/
structure DevIn (g : Gh) (w : World) (d : Nat) (km nm : Nat) (A : Option Addr) (cap : Nat) (xs : List Value) (D : Dev) : Prop where
  ne : km ≠ nm
  kO : g.O km = d
  kF : g.F km = 0
  kept : FlRd g w km D.kept
  now : FlAp d g w nm D.now
  pend : App 111 5 d g w A D.pend.length cap xs
  ops : OpsR g w xs D.pend
  O : g.O d = d
  F : g.F d = 0
  f0 : 0 ≤ D.fuse
  f1 : D.fuse ≤ 4611686018427387904
def devCs (km nm : Nat) (A : Option Addr) (cap : Nat) (D : Dev) : List Value := [.map (some km), .map (some nm), .slice A D.pend.length cap, .bool D.down, .int .i64 D.fuse]
def DevAt (g : Gh) (w : World) (d : Nat) (D : Dev) : Prop := ∃ km nm A cap xs, Blk d 73 (devCs km nm A cap D) w ∧ DevIn g w d km nm A cap xs D

theorem FlRd.lt {g : Gh} {w : World} {b : Nat} {f : Fl} (h : FlRd g w b f) : b < w.heap.size := by
  obtain ⟨L, h1, _⟩ := h.ex
  exact h1.lt
/-- The inside is kept where all is as it was but the device's own block. -/
theorem DevIn.keep {g g' : Gh} {w w' : World} {d km nm : Nat} {A : Option Addr} {cap : Nat} {xs : List Value} {D : Dev} {M : Nat → Prop} (h : DevIn g w d km nm A cap xs D) (hx : Ext M g w g' w') (hd : d < w.heap.size)
    (hk : ∀ k, k < w.heap.size → k ≠ d → g.F k ≠ 0 ∨ k = nm ∨ k = km → w'.heap[k]? = w.heap[k]? ∧ g'.F k = g.F k) (hdm : d ≠ nm) (hdk : d ≠ km) : DevIn g' w' d km nm A cap xs D := by
  have hFd : ∀ k, g.F k ≠ 0 → k ≠ d := fun k hF e => by rw [e, h.F] at hF; exact hF rfl
  obtain ⟨q1, q2⟩ := hk km h.kept.lt (Ne.symm hdk) (.inr (.inr rfl))
  refine ⟨h.ne, (hx.own km h.kept.lt).trans h.kO, q2.trans h.kF, h.kept.ext hx q1, h.now.same hx fun k hkl ho => ?_, h.pend.ext' hx fun b off hA hb hlt => ?_, h.ops.ext hx, (hx.own d hd).trans h.O, hx.zero d hd h.F, h.f0, h.f1⟩
  · rcases ho with ho | ho
    · exact hk k hkl (hFd k ho) (.inl ho)
    · exact hk k hkl (by rw [ho]; exact Ne.symm hdm) (.inr (.inl ho))
  · obtain ⟨h0, b2, cs, f1, _, f3, _⟩ := h.pend.sp hlt
    rw [hA] at f1; injection f1 with f1; injection f1 with f1 _
    have : g.F b ≠ 0 := by rw [f1, f3]; omega
    exact hk b hb (hFd b this) (.inl this)
theorem map_ne {w : World} {d b : Nat} {T : TypeId} {cs : List Value} {L : List (ByteArray × Value)} (h : Blk d T cs w) (hm : MapIs b L w) : d ≠ b := fun e => by
  obtain ⟨es, clk, h1, _⟩ := hm
  subst e
  unfold Blk at h
  rw [h] at h1
  cases h1
theorem DevIn.nes {g : Gh} {w : World} {d km nm : Nat} {A : Option Addr} {cap : Nat} {xs : List Value} {D : Dev} {T : TypeId} {cs : List Value} (h : DevIn g w d km nm A cap xs D) (hb : Blk d T cs w) : d ≠ nm ∧ d ≠ km := by
  obtain ⟨L, h1, _⟩ := h.now.ex
  obtain ⟨L', h1', _⟩ := h.kept.ex
  exact ⟨map_ne hb h1, map_ne hb h1'⟩
theorem DevAt.ext {g g' : Gh} {w w' : World} {d : Nat} {D : Dev} {M : Nat → Prop} (h : DevAt g w d D) (hx : Ext M g w g' w') (hm : ¬ M d) : DevAt g' w' d D := by
  obtain ⟨km, nm, A, cap, xs, hb, hi⟩ := h
  obtain ⟨n1, n2⟩ := hi.nes hb
  refine ⟨km, nm, A, cap, xs, hb.ext hx (by rw [hi.O]; exact hm), hi.ne, (hx.own km hi.kept.lt).trans hi.kO, ((hx.keep km hi.kept.lt (by rw [hi.kO]; exact hm)).2).trans hi.kF, hi.kept.ext hx (hx.keep km hi.kept.lt (by rw [hi.kO]; exact hm)).1, hi.now.ext hx hm, hi.pend.ext hx hm, hi.ops.ext hx, (hx.own d hb.lt).trans hi.O, hx.zero d hb.lt hi.F, hi.f0, hi.f1⟩
theorem DevAt.lt {g : Gh} {w : World} {d : Nat} {D : Dev} (h : DevAt g w d D) : d < w.heap.size := by
  obtain ⟨km, nm, A, cap, xs, hb, hi⟩ := h
  exact hb.lt
theorem DevAt.owner {g : Gh} {w : World} {d : Nat} {D : Dev} (h : DevAt g w d D) : g.O d = d := by
  obtain ⟨km, nm, A, cap, xs, hb, hi⟩ := h
  exact hi.O
/-- Only the device's own block is written. -/
theorem DevIn.self {g : Gh} {w w' : World} {d km nm : Nat} {A : Option Addr} {cap : Nat} {xs : List Value} {D : Dev} {T : TypeId} {cs : List Value} (h : DevIn g w d km nm A cap xs D) (hb : Blk d T cs w) (hg : w.grownBy w' (some d)) : Ext (· = d) g w g w' ∧ DevIn g w' d km nm A cap xs D := by
  obtain ⟨n1, n2⟩ := h.nes hb
  have hx : Ext (· = d) g w g w' := (Ext.refl (· = d) g w).one hg (fun _ => h.O) h.F
  exact ⟨hx, h.keep hx hb.lt (fun k hk hne _ => ⟨hg.block k hk (fun e => hne (by injection e)), rfl⟩) n1 n2⟩
/-- What a call on the device leaves. -/
def DevP (d : Nat) (g : Gh) (w : World) (D' : Dev) (w' : World) : Prop := ∃ g', Ext (· = d) g w g' w' ∧ DevAt g' w' d D'
theorem DevIn.fused {g : Gh} {w : World} {d km nm : Nat} {A : Option Addr} {cap : Nat} {xs : List Value} {D : Dev} (h : DevIn g w d km nm A cap xs D) {dn : Bool} {fu : Int} (h0 : 0 ≤ fu) (h1 : fu ≤ 4611686018427387904) : DevIn g w d km nm A cap xs { D with down := dn, fuse := fu } :=
  ⟨h.ne, h.kO, h.kF, h.kept, h.now, h.pend, h.ops, h.O, h.F, h0, h1⟩

/-- The fuse burns: does the power fail by it? -/
def burnB (D : Dev) : Bool := decide (D.fuse = 1)
def burnD (D : Dev) : Dev := if D.fuse = 0 then D else { D with down := burnB D, fuse := D.fuse - 1 }

set_option maxRecDepth 100000 in
set_option maxHeartbeats 800000 in
theorem burn_any (d : Nat) (g : Gh) (w : World) (D : Dev) (hD : DevAt g w d D) :
    Calls Tryz.prog 134 #[.pointer (some ⟨d, 0, none⟩)] w fun e w' => e = .returned (.bool (burnB D)) ∧ Ext (· = d) g w g w' ∧ DevAt g w' d (burnD D) := by
  obtain ⟨km, nm, A, cap, xs, hb, hi⟩ := hD
  have hf0 := hi.f0
  have hf1 := hi.f1
  have c0 : w.cell? ⟨d, 3, none⟩ = some (.bool D.down) := hb.cell 3
  have c1 : w.cell? ⟨d, 4, none⟩ = some (.int .i64 D.fuse) := hb.cell 4
  have z := hb.fz
  by_cases h0 : D.fuse = 0
  · have HFIN : Hid (burnB D = false ∧ DevAt g w d (burnD D)) := by
      refine ⟨by simp [burnB, h0], ?_⟩
      unfold burnD
      rw [if_pos h0]
      exact ⟨km, nm, A, cap, xs, hb, hi⟩
    have hq : (D.fuse == 0) = true := by simpa using h0
    clear hb hi h0
    go_enter Tryz.func134, Tryz.ntmps134
    go_wp2_with fail
    go_ret
    exact ⟨ret_bool HFIN.out.1.symm, Ext.refl _ _ _, HFIN.out.2⟩
  · have hq : (D.fuse == 0) = false := by simpa using h0
    have hq2 : (D.fuse - 1 == 0) = burnB D := by
      unfold burnB
      rw [Bool.eq_iff_iff]
      simp
      omega
    have HFIN : Hid (∀ w', w.grownBy w' (some d) → Blk d 73 (devCs km nm A cap { D with down := burnB D, fuse := D.fuse - 1 }) w' → Ext (· = d) g w g w' ∧ DevAt g w' d (burnD D)) := by
      intro w' hg hB
      obtain ⟨hx, hi'⟩ := hi.self hb hg
      refine ⟨hx, km, nm, A, cap, xs, ?_, ?_⟩
      · unfold burnD; rw [if_neg h0]; exact hB
      · unfold burnD; rw [if_neg h0]; exact hi'.fused (by omega) (by omega)
    have HB := Lib.hid hb
    clear hb hi
    generalize burnB D = bb at *
    go_enter Tryz.func134, Tryz.ntmps134
    go_wp2_with fail
    go_ret
    exact ⟨rfl, HFIN.out _ ((grownBy_setCell w ⟨d, 4, none⟩ _).trans (grownBy_setCell _ ⟨d, 3, none⟩ _)) ((HB.out.set 4 _).set 3 _)⟩

/-- Names that a slice of strings holds. -/
def namesOk (l : List ByteArray) : Bool := l.all (nmB true 64)
def checkI (D : Dev) (file : ByteArray) (names : List ByteArray) : Int := if D.down then 303 else if namesOk names = false then 300 else if (D.now.m file).isNone then 301 else 0

set_option maxRecDepth 100000 in
set_option maxHeartbeats 1600000 in
theorem check_any (d : Nat) (g : Gh) (w : World) (D : Dev) (hD : DevAt g w d D) (file : ByteArray) (names : List ByteArray) (b : Nat) (c : Nat) (hnm : Blk b 9 (names.map Value.string) w) (hsz : ∀ s ∈ names, s.size ≤ 9223372036854775807) (hl : names.length ≤ 2) (h0 : 0 < names.length) :
    Calls Tryz.prog 94 #[.pointer (some ⟨d, 0, none⟩), .string file, .slice (some ⟨b, 0, none⟩) names.length c] w fun e w' => e = .returned (.int .i64 (checkI D file names)) ∧ w = w' := by
  obtain ⟨km, nm, A, cap, xs, hb, hi⟩ := hD
  have c0 : w.cell? ⟨d, 3, none⟩ = some (.bool D.down) := hb.cell 3
  have c1 : w.cell? ⟨d, 1, none⟩ = some (.map (some nm)) := hb.cell 1
  cases hdn : D.down
  · rw [hdn] at c0
    have HC : Hid (checkI D file names = if namesOk names = false then 300 else if (D.now.m file).isNone then 301 else 0) := by
      show _ = _
      unfold checkI
      rw [hdn]
      rfl
    obtain ⟨L, hL, _⟩ := hi.now.ex
    have hfd := hi.now.found hL file
    have HL := Lib.hid hL
    have HFD := Lib.hid hfd
    have HNM := Lib.hid hnm
    have HSZ := Lib.hid hsz
    clear hb hi hdn hL hfd hnm hsz
    go_enter Tryz.func94, Tryz.ntmps94
    go_wp2_with fail
    go_loop [17] (fun i => ∃ k : Nat, k ≤ names.length ∧ i = .int .i64 k ∧ Hid (namesOk (names.take k) = true)) (fun i => names.length - (intOf i).toNat)
    case atStart => exact ⟨0, Nat.zero_le _, rfl, rfl⟩
    case round =>
      obtain ⟨k, hk, rfl, HK⟩ := hrel
      by_cases hlt : k < names.length
      · have hcell : w.cell? ⟨b, k, none⟩ = some (.string names[k]) := by
          have := HNM.out.cell k
          rw [this]
          simp [hlt]
        have hs1 := HSZ.out names[k] (List.getElem_mem hlt)
        have htk : Hid (namesOk (names.take (k + 1)) = (namesOk (names.take k) && nmB true 64 names[k])) := by
          show _ = _
          unfold namesOk
          rw [List.take_succ_eq_append_getElem hlt, List.all_append]
          simp
        have hbad : Hid (nmB true 64 names[k] = false → checkI D file names = 300) := by
          intro hf
          rw [HC.out, if_pos]
          unfold namesOk
          rw [List.all_eq_false]
          exact ⟨_, List.getElem_mem hlt, by simp [hf]⟩
        generalize names[k] = nmk at *
        cases hv : nmB true 64 nmk
        · have HV := Lib.hid hv
          clear hv
          go_wp2_with fail
          refine (dname_any nmk _ hs1).mono ?_
          rw [HV.out]
          rintro e w' ⟨rfl, rfl⟩
          go_wp2_with fail
          go_ret
          exact ⟨ret_int (hbad.out HV.out).symm, rfl⟩
        · have HV := Lib.hid hv
          clear hv
          go_wp2_with fail
          refine (dname_any nmk _ hs1).mono ?_
          rw [HV.out]
          rintro e w' ⟨rfl, rfl⟩
          go_wp2_with fail
          go_round
          case rel => exact ⟨k + 1, by omega, by go_num, by show _ = _; rw [htk.out, HK.out, HV.out]; rfl⟩
          case measure => simp [intOf]; omega
      · have hall : Hid (namesOk names = true) := by
          have := HK.out
          rwa [List.take_of_length_le (by omega)] at this
        rcases HFD.out with ⟨h1, h2⟩ | ⟨l, A1, c1, h1, h2, _, _⟩
        · have HFIN : Hid (checkI D file names = 301) := by
            show _ = _
            rw [HC.out, if_neg (by rw [hall.out]; simp), if_pos (by rw [h2]; rfl)]
          have H1 := Lib.hid h1
          clear h1 h2 HFD
          go_wp2_with (with_reducible refine wpList_look_none rfl (.tmp 29) (.tmp 30) 70 true rfl 9 30 Tryz.underlying70 Tryz.underlying9 nm L rfl HL.out (.slice none 0 0) (zeroBytes _) file rfl H1.out ?_)
          go_ret
          exact ⟨ret_int HFIN.out.symm, rfl⟩
        · have HFIN : Hid (checkI D file names = 0) := by
            show _ = _
            rw [HC.out, if_neg (by rw [hall.out]; simp), if_neg (by rw [h2]; simp)]
          have H1 := Lib.hid h1
          clear h1 h2 HFD
          go_wp2_with (with_reducible refine wpList_look_some rfl (.tmp 29) (.tmp 30) 70 true rfl 9 30 Tryz.underlying70 Tryz.underlying9 nm L rfl HL.out file rfl _ H1.out ?_)
          go_ret
          exact ⟨ret_int HFIN.out.symm, rfl⟩
  · rw [hdn] at c0
    have HC : Hid (checkI D file names = 303) := by
      show _ = _
      unfold checkI
      rw [hdn]
      rfl
    clear hb hi hdn hnm hsz
    go_enter Tryz.func94, Tryz.ntmps94
    go_wp2_with fail
    go_ret
    exact ⟨ret_int HC.out.symm, rfl⟩

def fl0 : Fl := ⟨fun _ => none, 0⟩
def dev0 : Dev := ⟨fl0, fl0, [], false, 0⟩
set_option maxRecDepth 100000 in
set_option maxHeartbeats 800000 in
theorem new_any (g : Gh) (w : World) : Calls Tryz.prog 11 #[] w fun e w' => ∃ d g', e = .returned (.pointer (some ⟨d, 0, none⟩)) ∧ w.heap.size ≤ d ∧ Below w.heap.size w w' ∧ (∀ b, b < w.heap.size → g'.F b = g.F b) ∧ (∀ b, b < w.heap.size → g'.O b = g.O b) ∧ DevAt g' w' d dev0 := by
  have hmm := @run_makeMap Tryz.prog
  go_enter Tryz.func11, Tryz.ntmps11
  go_wp2_with fail
  go_ret
  have hb2 : Blk (w.heap.size + 1 + 1) 73 (devCs w.heap.size (w.heap.size + 1) none 0 dev0) (((w.alloc (.map #[] 0)).alloc (.map #[] 0)).alloc (.cells #[.map (some w.heap.size), .map (some (w.heap.size + 1)), .slice none 0 0, .bool false, .int .i64 0] 73)) := by
    have := Blk.new ((w.alloc (.map #[] 0)).alloc (.map #[] 0)) 73 (devCs w.heap.size (w.heap.size + 1) none 0 dev0)
    simpa [devCs, dev0] using this
  have hm1 : MapIs w.heap.size [] (((w.alloc (.map #[] 0)).alloc (.map #[] 0)).alloc (.cells #[.map (some w.heap.size), .map (some (w.heap.size + 1)), .slice none 0 0, .bool false, .int .i64 0] 73)) := ((MapIs.new w).alloc _).alloc _
  have hm2 : MapIs (w.heap.size + 1) [] (((w.alloc (.map #[] 0)).alloc (.map #[] 0)).alloc (.cells #[.map (some w.heap.size), .map (some (w.heap.size + 1)), .slice none 0 0, .bool false, .int .i64 0] 73)) := by
    have := (MapIs.new (w.alloc (.map #[] 0))).alloc (.cells #[.map (some w.heap.size), .map (some (w.heap.size + 1)), .slice none 0 0, .bool false, .int .i64 0] 73)
    simpa using this
  refine ⟨w.heap.size + 1 + 1, ⟨fun b => if b < w.heap.size then g.F b else 0, fun b => if b < w.heap.size then g.O b else w.heap.size + 1 + 1⟩, rfl, by omega, (((Below.refl _ _).alloc (Nat.le_refl _) _).alloc (by simp) _).alloc (by simp; omega) _, fun b hb => by simp [hb], fun b hb => by simp [hb], w.heap.size, w.heap.size + 1, none, 0, [], hb2, ?_⟩
  refine ⟨by omega, by simp, by simp, ⟨[], hm1, rfl, fun _ _ => rfl, fun k v h => by simp [look] at h⟩, ⟨⟨[], hm2, rfl, fun _ _ => rfl, fun k v h => by simp [look] at h, fun k k' A n c A' n' c' h => by simp [look] at h⟩, (by dsimp only; rw [if_neg (by omega)]), (by dsimp only; rw [if_neg (by omega)])⟩, App.nil _ _ _ _ _, trivial, ?_, ?_, by simp [dev0], by simp [dev0]⟩
  · dsimp only; rw [if_neg (by omega)]
  · dsimp only; rw [if_neg (by omega)]

set_option maxRecDepth 100000 in
set_option maxHeartbeats 800000 in
theorem fuse_any (d : Nat) (g : Gh) (w : World) (D : Dev) (hD : DevAt g w d D) (n : Int) (h0 : 0 ≤ n) (h1 : n ≤ 4611686018427387904) :
    Calls Tryz.prog 19 #[.pointer (some ⟨d, 0, none⟩), .int .i64 n] w fun e w' => e = .returned (.tuple #[]) ∧ DevP d g w { D with fuse := n } w' := by
  obtain ⟨km, nm, A, cap, xs, hb, hi⟩ := hD
  have c1 : w.cell? ⟨d, 4, none⟩ = some (.int .i64 D.fuse) := hb.cell 4
  have z := hb.fz
  have hmx : max n 0 = n := by omega
  have HFIN : Hid (∀ w', w.grownBy w' (some d) → Blk d 73 (devCs km nm A cap { D with fuse := n }) w' → DevP d g w { D with fuse := n } w') := by
    intro w' hg hB
    obtain ⟨hx, hi'⟩ := hi.self hb hg
    exact ⟨g, hx, km, nm, A, cap, xs, hB, hi'.fused (dn := D.down) h0 h1⟩
  have HB := Lib.hid hb
  clear hb hi
  go_enter Tryz.func19, Tryz.ntmps19
  go_wp2_with fail
  go_end0
  exact ⟨rfl, HFIN.out _ (grownBy_setCell w ⟨d, 4, none⟩ _) (HB.out.set 4 _)⟩
end

section
open Go.RowKit

/-- A new block of one's own. -/
def Gh.box (g : Gh) (b : Nat) : Gh := ⟨fun k => if k = b then 0 else g.F k, fun k => if k = b then b else g.O k⟩
theorem Ext.box (M : Nat → Prop) (g : Gh) (w : World) (o : Obj) : Ext M g w (g.box w.heap.size) (w.alloc o) :=
  ((Ext.refl M g w).alloc o).up (fun b hb => by simp only [Gh.box]; rw [if_neg (by omega)]) (fun b hb => by simp only [Gh.box]; rw [if_neg (by omega)])
theorem Gh.box_O (g : Gh) (b : Nat) : (g.box b).O b = b := by simp [Gh.box]
theorem Gh.box_F (g : Gh) (b : Nat) : (g.box b).F b = 0 := by simp [Gh.box]

theorem FlAp.same2 {o : Nat} {g g' : Gh} {w w' : World} {b : Nat} {f : Fl} {M : Nat → Prop} (h : FlAp o g w b f) (hx : Ext M g w g' w') (hb : w'.heap[b]? = w.heap[b]? ∧ g'.F b = g.F b) (hk : ∀ k cs, w.heap[k]? = some (.cells cs 5 (0, 0)) → w'.heap[k]? = w.heap[k]? ∧ g'.F k = g.F k) : FlAp o g' w' b f := by
  have hlt := h.lt
  obtain ⟨L, h1, h2, h3, h4, h5⟩ := h.ex
  refine ⟨⟨L, h1.of_block hb.1, h2, h3, fun k v hl => ?_, h5⟩, (hx.own b hlt).trans h.O, hb.2.trans h.F⟩
  obtain ⟨l, A, cap, e1, e2, e3, ha⟩ := h4 k v hl
  refine ⟨l, A, cap, e1, e2, e3, ha.ext' hx fun b1 off hA hb1 hlt1 => ?_⟩
  obtain ⟨h0, b2, cs, f1, _, f3, f4, _⟩ := ha.sp hlt1
  rw [hA] at f1; injection f1 with f1; injection f1 with f1 _
  rw [f1]
  exact hk b2 cs f4

theorem Tryz.infoOp : (Tryz.prog.info? 111).map (fun i => (i.zero, i.size, i.bytes)) = some (some (.agg #[.nilFunc, .string ⟨#[]⟩, .string ⟨#[]⟩, .slice none 0 0, .bool false]), 5, 72) := by kernel_rfl

def doI (D : Dev) : Int := if burnB D then 303 else 0
def doD (D : Dev) (o : POp) : Dev := if burnB D then burnD D else { burnD D with now := D.now.run o, pend := D.pend ++ [o] }
theorem burn_now (D : Dev) : (burnD D).now = D.now ∧ (burnD D).pend = D.pend ∧ (burnD D).kept = D.kept := by
  unfold burnD; split <;> exact ⟨rfl, rfl, rfl⟩

theorem BytesAt.rd {g : Gh} {w : World} {A : Option Addr} {n c : Nat} {l : List UInt8} (h : BytesAt g w (.slice A n c) l) : n = l.length ∧ (A = none → l.length = 0) ∧ Rd 1 g w A l.length (bv l) := by
  obtain ⟨A', cap, h1, h2, h3, h4, h5⟩ := h.ex
  injection h1 with e1 e2 e3
  subst e1
  exact ⟨e2, h4, h5⟩
theorem Lies.below {g g' : Gh} {w w0 w' : World} {A A' : Option Addr} {n cap cap' : Nat} (hb : Below w.heap.size w w0) (h : Lies g w0 A n cap g' w' A' cap') : Lies g w A n cap g' w' A' cap' := by
  have hs := hb.size
  refine ⟨?_, fun b hb' hc => ?_⟩
  · rcases h.at_ with h | ⟨b, h1, h2, h3⟩
    · exact .inl h
    · exact .inr ⟨b, h1, by omega, h3⟩
  · obtain ⟨e1, e2⟩ := h.far b (by omega) hc
    exact ⟨e1.trans (hb.block b hb'), e2⟩
/-- The end: the operation is carried out and listed. -/
theorem do_end {d km nm : Nat} {g g2 g3 : Gh} {w w2 w3 w4 : World} {A A' : Option Addr} {cap cap' : Nat} {xs : List Value} {D : Dev} {o : POp} {bvl : Value} (hb : Blk d 73 (devCs km nm A cap D) w) (hi : DevIn g w d km nm A cap xs D)
    (hx : Ext (· = d) g w g2 w2) (hnow : FlAp d g2 w2 nm (D.now.run o)) (hoth : ∀ b, b < w.heap.size → b ≠ nm → Other g w b → w2.heap[b]? = w.heap[b]? ∧ g2.F b = g.F b)
    (hx3 : Ext (· = d) g2 w2 g3 w3) (ha : App 111 5 d g3 w3 A' (D.pend.length + 1) cap' (xs ++ [fnV o.kind, .string o.name, .string o.to, bvl, .bool o.tears])) (hl : Lies g2 w2 A D.pend.length cap g3 w3 A' cap')
    (hbv : BytesAt g w bvl o.bytes) (hg : w3.grownBy w4 (some d)) (hB : Blk d 73 (devCs km nm A' cap' { D with now := D.now.run o, pend := D.pend ++ [o] }) w4) :
    DevP d g w { D with now := D.now.run o, pend := D.pend ++ [o] } w4 := by
  obtain ⟨n1, n2⟩ := hi.nes hb
  have hs := hx.size
  have hdk := hb.lt
  have hkl := hi.kept.lt
  have e1 := hoth d hdk n1 (.inl hi.F)
  have e2 := hoth km hkl hi.ne (.inl hi.kF)
  have hF2d : g2.F d = 0 := e1.2.trans hi.F
  -- the row of operations in w2
  have hrowT : D.pend.length < cap → ∀ b off, A = some ⟨b, off, none⟩ → ∃ cs, w2.heap[b]? = some (.cells cs 111 (0, 0)) ∧ g2.F b ≠ 0 := fun hc b off hb' => by
    obtain ⟨h0, b2, cs, f1, _, f3, f4, _⟩ := hi.pend.sp hc
    rw [hb'] at f1; injection f1 with f1; injection f1 with f1 _
    have hbne : b ≠ nm := fun e => by
      obtain ⟨L, hL, _⟩ := hi.now.ex
      obtain ⟨es, clk, q, _⟩ := hL
      rw [f1] at e
      rw [e, q] at f4
      cases f4
    have := hoth b (by rw [f1]; exact block_lt f4) hbne (.inr ⟨cs, 111, (0, 0), by rw [f1]; exact f4, by decide⟩)
    exact ⟨cs, by rw [this.1, f1]; exact f4, by rw [this.2, f1, f3]; omega⟩
  have hfar0 : ∀ b, b < w2.heap.size → g2.F b = 0 → w3.heap[b]? = w2.heap[b]? ∧ g3.F b = g2.F b := fun b hb' hF => hl.far b hb' fun hc off he => by
    obtain ⟨cs, _, h⟩ := hrowT hc b off he
    exact h hF
  have hfar8 : ∀ b cs, w2.heap[b]? = some (.cells cs 5 (0, 0)) → w3.heap[b]? = w2.heap[b]? ∧ g3.F b = g2.F b := fun b cs hb' => hl.far b (block_lt hb') fun hc off he => by
    obtain ⟨cs', h, _⟩ := hrowT hc b off he
    rw [hb'] at h
    injection h with h
    injection h with _ h _
    exact absurd h (by decide)
  have hO2 : g2.O d = d := (hx.own d hdk).trans hi.O
  have q3d := hfar0 d (by omega) hF2d
  have q3k := hfar0 km (by omega) (e2.2.trans hi.kF)
  have q3n := hfar0 nm hnow.lt hnow.F
  have hx4 : Ext (· = d) g3 w3 g3 w4 := (Ext.refl _ _ _).one hg (fun _ => (hx3.own d (by omega)).trans hO2) (q3d.2.trans hF2d)
  have hblk : ∀ b, b < w3.heap.size → b ≠ d → w4.heap[b]? = w3.heap[b]? := fun b hb' hne => hg.block b hb' (fun e => hne (by injection e))
  have hs3 := hx3.size
  have hnow3 := hnow.same2 hx3 q3n hfar8
  refine ⟨g3, (hx.trans hx3).trans hx4, km, nm, A', cap', xs ++ [fnV o.kind, .string o.name, .string o.to, bvl, .bool o.tears], hB, hi.ne, ?_, ?_, ?_, ?_, ?_, ?_, ?_, ?_, hi.f0, hi.f1⟩
  · exact (hx3.own km (by omega)).trans ((hx.own km hkl).trans hi.kO)
  · exact q3k.2.trans (e2.2.trans hi.kF)
  · exact ((hi.kept.ext hx e2.1).ext hx3 q3k.1).ext hx4 (hblk km (by omega) (Ne.symm n2))
  · exact hnow3.same hx4 fun k hk ho => ⟨hblk k hk (fun e => by
      subst e
      rcases ho with ho | ho
      · exact ho (q3d.2.trans hF2d)
      · exact n1 ho), rfl⟩
  · have hlen : (D.pend ++ [o]).length = D.pend.length + 1 := by simp
    show App 111 5 d g3 w4 A' (D.pend ++ [o]).length cap' _
    rw [hlen]
    exact ha.ext' hx4 fun b off hA hb' hlt => ⟨hblk b hb' (fun e => by
      subst e
      obtain ⟨h0, b2, cs, f1, _, f3, _⟩ := ha.sp hlt
      rw [hA] at f1; injection f1 with f1; injection f1 with f1 _
      rw [← f1, q3d.2.trans hF2d] at f3
      omega), rfl⟩
  · exact (((hi.ops.ext hx).ext hx3).snoc ((hbv.ext hx).ext hx3)).ext hx4
  · exact (hx3.own d (by omega)).trans hO2
  · exact q3d.2.trans hF2d

set_option maxRecDepth 100000 in
set_option maxHeartbeats 1600000 in
theorem do_create (d : Nat) (g : Gh) (w : World) (D : Dev) (hD : DevAt g w d D) (o : POp) (hk : o.kind = 0) (A1 : Option Addr) (c1 : Nat) (hr : BytesAt g w (.slice A1 o.bytes.length c1) o.bytes) (hlen : o.bytes.length ≤ 8388608) (hpl : D.pend.length ≤ 1000000) :
    Calls Tryz.prog 131 #[.pointer (some ⟨d, 0, none⟩), .agg #[.func (.func 132) #[] #[], .string o.name, .string o.to, .slice A1 o.bytes.length c1, .bool o.tears]] w fun e w' => e = .returned (.int .i64 (doI D)) ∧ DevP d g w (doD D o) w' := by
  obtain ⟨i0, hi0, hz0, hz1, hz2⟩ := info_parts Tryz.infoOp
  obtain ⟨bn1, bn2, bn3⟩ := burn_now D
  have hx0 := Ext.box (· = d) g w (.cells #[.func (.func 132) #[] #[], .string o.name, .string o.to, .slice A1 o.bytes.length c1, .bool o.tears] 111)
  have hx00 := Ext.box (fun _ => False) g w (.cells #[.func (.func 132) #[] #[], .string o.name, .string o.to, .slice A1 o.bytes.length c1, .bool o.tears] 111)
  have hD1 := hD.ext hx00 (fun h => h)
  have hbk : Blk w.heap.size 111 [.func (.func 132) #[] #[], .string o.name, .string o.to, .slice A1 o.bytes.length c1, .bool o.tears] (w.alloc (.cells #[.func (.func 132) #[] #[], .string o.name, .string o.to, .slice A1 o.bytes.length c1, .bool o.tears] 111)) := Blk.new w _ _
  have hdlt := hD.lt
  have hr1 := hr.ext hx00
  have hgO := Gh.box_O g w.heap.size
  have hgF := Gh.box_F g w.heap.size
  generalize g.box w.heap.size = g1 at *
  have HX0 := Lib.hid hx0
  have HGF := Lib.hid hgF
  have HGO := Lib.hid hgO
  have HBK := Lib.hid hbk
  clear hx0 hx00 hD hr hgF hgO hbk bn3
  have HBN := Lib.hid bn1
  have HBP := Lib.hid bn2
  clear bn1 bn2
  cases hbb : burnB D
  · have HI : Hid (doI D = 0) := by simp [Hid, doI, hbb]
    have HDD : Hid (doD D o = { burnD D with now := (burnD D).now.run o, pend := (burnD D).pend ++ [o] }) := by
      show _ = _
      unfold doD
      rw [hbb, HBN.out, HBP.out]
      rfl
    have HBB := Lib.hid hbb
    clear hbb
    go_enter Tryz.func131, Tryz.ntmps131
    go_wp2_with fail
    refine (burn_any d g1 _ D hD1).mono ?_
    rw [HBB.out]
    rintro e w1 ⟨rfl, hx1, hD2⟩
    have hbk1 := HBK.out.ext hx1 (by rw [HGO.out]; omega)
    have hs1 := hx1.size
    have hw1lt : w.heap.size < w1.heap.size := by have := hbk1.lt; omega
    obtain ⟨km, nm, A, cap, xs, hbd, hi⟩ := hD2
    have hns := hi.nes hbd
    have hr2 := hr1.ext hx1
    have hS : (fun x => Blk w.heap.size 111 [.func (.func 132) #[] #[], .string o.name, .string o.to, .slice A1 o.bytes.length c1, .bool o.tears] x ∧ Blk d 73 (devCs km nm A cap (burnD D)) x) w1.drew := ⟨hbk1, hbd⟩
    have hdr : Ext (· = d) g1 w1 g1 w1.drew := (Ext.refl _ _ _).drew
    have HI2 := Lib.hid (hi.keep hdr hbd.lt (fun _ _ _ _ => ⟨rfl, rfl⟩) hns.1 hns.2)
    have HBD : Hid (Blk d 73 (devCs km nm A cap (burnD D)) w1.drew) := hbd
    have HX1 := Lib.hid ((HX0.out.trans hx1).trans hdr)
    have HR2 := Lib.hid (hr2.ext hdr)
    have hplb : (burnD D).pend.length ≤ 1000000 := by rw [HBP.out]; exact hpl
    clear hi hbd hx1 hr1 hr2 hD1
    generalize burnD D = E at *
    have HBK1 : Hid (Blk w.heap.size 111 [.func (.func 132) #[] #[], .string o.name, .string o.to, .slice A1 o.bytes.length c1, .bool o.tears] w1.drew) := hbk1
    clear hbk1 hdr
    go_wp2_with fail
    (refine wp_region_mix (S := fun x => Blk w.heap.size 111 [.func (.func 132) #[] #[], .string o.name, .string o.to, .slice A1 o.bytes.length c1, .bool o.tears] x ∧ Blk d 73 (devCs km nm A cap E) x) [] [([0, 1, 2, 3, 4, 5, 6], 7)] (by kernel_rfl) (by kernel_rfl) (by intro c a d v w h; cases d <;> exact h) hS ?_; have hN : Nonempty (Held (fun x => Blk w.heap.size 111 [.func (.func 132) #[] #[], .string o.name, .string o.to, .slice A1 o.bytes.length c1, .bool o.tears] x ∧ Blk d 73 (devCs km nm A cap E) x)) := ⟨⟨_, hS⟩⟩)
    have r0 := fun y : Held (fun x => Blk w.heap.size 111 [.func (.func 132) #[] #[], .string o.name, .string o.to, .slice A1 o.bytes.length c1, .bool o.tears] x ∧ Blk d 73 (devCs km nm A cap E) x) => y.ok.1.cell 0
    have r1 := fun y : Held (fun x => Blk w.heap.size 111 [.func (.func 132) #[] #[], .string o.name, .string o.to, .slice A1 o.bytes.length c1, .bool o.tears] x ∧ Blk d 73 (devCs km nm A cap E) x) => y.ok.1.cell 1
    have r2 := fun y : Held (fun x => Blk w.heap.size 111 [.func (.func 132) #[] #[], .string o.name, .string o.to, .slice A1 o.bytes.length c1, .bool o.tears] x ∧ Blk d 73 (devCs km nm A cap E) x) => y.ok.1.cell 2
    have r3 := fun y : Held (fun x => Blk w.heap.size 111 [.func (.func 132) #[] #[], .string o.name, .string o.to, .slice A1 o.bytes.length c1, .bool o.tears] x ∧ Blk d 73 (devCs km nm A cap E) x) => y.ok.1.cell 3
    have r4 := fun y : Held (fun x => Blk w.heap.size 111 [.func (.func 132) #[] #[], .string o.name, .string o.to, .slice A1 o.bytes.length c1, .bool o.tears] x ∧ Blk d 73 (devCs km nm A cap E) x) => y.ok.1.cell 4
    have s1 : ∀ y : Held (fun x => Blk w.heap.size 111 [.func (.func 132) #[] #[], .string o.name, .string o.to, .slice A1 o.bytes.length c1, .bool o.tears] x ∧ Blk d 73 (devCs km nm A cap E) x), y.w.cell? ⟨d, 1, none⟩ = some (.map (some nm)) := fun y => y.ok.2.cell 1
    (unfold wpMix wpRd; (repeat (first | simp only [List.filterMap_cons] | simp only [List.filterMap_nil] | simp only [List.getElem?_toArray] | simp only [List.getElem?_cons_zero] | simp only [List.getElem?_cons_succ])); (try dsimp only); change wpQuiet _ _ _ _ (_ :: _ :: _ :: _ :: _ :: _ :: _ :: []) _; (repeat (go_big_quiet_step (fail))); refine wpQuiet_nil ?_; (try dsimp only))
    clear r0 r1 r2 r3 r4 s1 hN
    go_wp2_with fail
    obtain ⟨_, hrz, hrr⟩ := HR2.out.rd
    obtain ⟨Lm, hLm, _⟩ := HI2.out.now.ex
    have hopnm : w.heap.size ≠ nm := map_ne HBK1.out hLm
    refine (create_any d nm g1 E.now o.name o.to o.tears _ A1 c1 o.bytes _ HI2.out.now hrr hrz hlen).mono ?_
    rintro e w2 ⟨rfl, g2, hx2, hnow2, hoth2⟩
    have q1 := hoth2 w.heap.size hw1lt hopnm (.inl HGF.out)
    have q2 := hoth2 d HBD.out.lt hns.1 (.inl HI2.out.F)
    have hS2 : (fun x => Blk w.heap.size 111 [.func (.func 132) #[] #[], .string o.name, .string o.to, .slice A1 o.bytes.length c1, .bool o.tears] x ∧ Blk d 73 (devCs km nm A cap E) x) w2 := ⟨HBK1.out.of q1.1, HBD.out.of q2.1⟩
    have hxall := HX1.out.trans hx2
    have hs2 := hx2.size
    have HFIN : Hid (∀ g3 w3 w4 A' cap', Ext (· = d) g2 w2 g3 w3 → App 111 5 d g3 w3 A' (E.pend.length + 1) cap' (xs ++ [.func (.func 132) #[] #[], .string o.name, .string o.to, .slice A1 o.bytes.length c1, .bool o.tears]) → Lies g2 w2 A E.pend.length cap g3 w3 A' cap' → w3.grownBy w4 (some d) → Blk d 73 (devCs km nm A' cap' { E with now := E.now.run o, pend := E.pend ++ [o] }) w4 → DevP d g w (doD D o) w4) := by
      intro g3 w3 w4 A' cap' h1 h2 h3 h4 h5
      obtain ⟨g4, hx4, hD4⟩ := do_end (o := o) (bvl := .slice A1 o.bytes.length c1) HBD.out HI2.out hx2 (by unfold Fl.run; simpa [hk] using hnow2) hoth2 h1 (by simpa [fnV, hk] using h2) h3 HR2.out h4 h5
      rw [HDD.out]
      exact ⟨g4, HX1.out.trans hx4, hD4⟩
    have hAP : App 111 5 d g2 w2 A E.pend.length cap xs := HI2.out.pend.ext' hx2 fun b off hA hb hlt => by
      obtain ⟨h0, b2, cs, f1, _, f3, f4, _⟩ := HI2.out.pend.sp hlt
      rw [hA] at f1; injection f1 with f1; injection f1 with f1 _
      have hbne : b ≠ nm := fun e => by
        obtain ⟨es, clk, q, _⟩ := hLm
        rw [f1] at e
        rw [e, q] at f4
        cases f4
      exact hoth2 b hb hbne (.inr ⟨cs, 111, (0, 0), by rw [f1]; exact f4, by decide⟩)
    have HAP := Lib.hid hAP
    have hal2 : Ext (fun _ => False) g2 w2 g2 (w2.drew.alloc (.cells #[.func (.func 132) #[] #[], .string o.name, .string o.to, .slice A1 o.bytes.length c1, .bool o.tears] 111)) := ((Ext.refl _ _ _).drew).alloc _
    have HAP3 := Lib.hid (hAP.ext hal2 (fun h => h))
    have HSRC : Hid (Src Tryz.prog 5 71 (.slice (some ⟨w2.heap.size, 0, none⟩) 1 1) 1 [.func (.func 132) #[] #[], .string o.name, .string o.to, .slice A1 o.bytes.length c1, .bool o.tears] (w2.drew.alloc (.cells #[.func (.func 132) #[] #[], .string o.name, .string o.to, .slice A1 o.bytes.length c1, .bool o.tears] 111))) :=
      Src.ofSlice _ Tryz.underlying71 _ 1 1 _ rfl (fun j u hu => by
        have hh : (w2.drew.alloc (.cells #[.func (.func 132) #[] #[], .string o.name, .string o.to, .slice A1 o.bytes.length c1, .bool o.tears] 111)).heap[w2.heap.size]? = some (.cells #[.func (.func 132) #[] #[], .string o.name, .string o.to, .slice A1 o.bytes.length c1, .bool o.tears] 111 (0, 0)) := heap_alloc_new w2.drew _
        rw [add_lit, Nat.zero_add, cell_at hh]
        simpa using hu) (by simp [Value.oneCell'])
    have HF0 : Hid (g2.F w.heap.size = 0 ∧ g2.F d = 0) := ⟨q1.2.trans HGF.out, q2.2.trans HI2.out.F⟩
    have HRW : Hid (E.pend.length < cap → ∀ b off, A = some ⟨b, off, none⟩ → g2.F b ≠ 0) := by
      intro hc b off hb
      obtain ⟨h0, b2, cs, f1, _, f3, _⟩ := hAP.sp hc
      rw [hb] at f1; injection f1 with f1; injection f1 with f1 _
      rw [f1, f3]
      omega
    have HD2 := hS2
    clear hS hAP q1 q2 hoth2 hnow2 hrz hrr hLm
    have HS2 := Lib.hid hS2
    have hS : (fun x => Blk w.heap.size 111 [.func (.func 132) #[] #[], .string o.name, .string o.to, .slice A1 o.bytes.length c1, .bool o.tears] x ∧ Blk d 73 (devCs km nm A cap E) x) w2.drew := hS2
    clear hS2 HD2
    go_wp2_with fail
    refine ⟨HS2.out, ?_⟩
    (unfold wpMix wpRd; (repeat (first | simp only [List.filterMap_cons] | simp only [List.filterMap_nil] | simp only [List.getElem?_toArray] | simp only [List.getElem?_cons_zero] | simp only [List.getElem?_cons_succ])); (try dsimp only); change wpQuiet _ _ _ _ ([]) _; (repeat (go_big_quiet_step (fail))); refine wpQuiet_nil ?_; (try dsimp only))
    go_wp2_with fail
    (refine wp_region_mixz (S := fun x => Blk w.heap.size 111 [.func (.func 132) #[] #[], .string o.name, .string o.to, .slice A1 o.bytes.length c1, .bool o.tears] x ∧ Blk d 73 (devCs km nm A cap E) x) [8, 9] 10 [([0, 1, 2, 3, 4, 5], 6), ([], 7)] (by kernel_rfl) (by kernel_rfl) (by intro c a d v w h; cases d <;> exact h) hS ?_; have hN : Nonempty (Held (fun x => Blk w.heap.size 111 [.func (.func 132) #[] #[], .string o.name, .string o.to, .slice A1 o.bytes.length c1, .bool o.tears] x ∧ Blk d 73 (devCs km nm A cap E) x)) := ⟨⟨_, hS⟩⟩)
    have r0 := fun y : Held (fun x => Blk w.heap.size 111 [.func (.func 132) #[] #[], .string o.name, .string o.to, .slice A1 o.bytes.length c1, .bool o.tears] x ∧ Blk d 73 (devCs km nm A cap E) x) => y.ok.1.cell 0
    have r1 := fun y : Held (fun x => Blk w.heap.size 111 [.func (.func 132) #[] #[], .string o.name, .string o.to, .slice A1 o.bytes.length c1, .bool o.tears] x ∧ Blk d 73 (devCs km nm A cap E) x) => y.ok.1.cell 1
    have r2 := fun y : Held (fun x => Blk w.heap.size 111 [.func (.func 132) #[] #[], .string o.name, .string o.to, .slice A1 o.bytes.length c1, .bool o.tears] x ∧ Blk d 73 (devCs km nm A cap E) x) => y.ok.1.cell 2
    have r3 := fun y : Held (fun x => Blk w.heap.size 111 [.func (.func 132) #[] #[], .string o.name, .string o.to, .slice A1 o.bytes.length c1, .bool o.tears] x ∧ Blk d 73 (devCs km nm A cap E) x) => y.ok.1.cell 3
    have r4 := fun y : Held (fun x => Blk w.heap.size 111 [.func (.func 132) #[] #[], .string o.name, .string o.to, .slice A1 o.bytes.length c1, .bool o.tears] x ∧ Blk d 73 (devCs km nm A cap E) x) => y.ok.1.cell 4
    have s1 : ∀ y : Held (fun x => Blk w.heap.size 111 [.func (.func 132) #[] #[], .string o.name, .string o.to, .slice A1 o.bytes.length c1, .bool o.tears] x ∧ Blk d 73 (devCs km nm A cap E) x), y.w.cell? ⟨d, 2, none⟩ = some (.slice A E.pend.length cap) := fun y => y.ok.2.cell 2
    (unfold wpMixZ wpRd; (repeat (first | simp only [List.filterMap_cons] | simp only [List.filterMap_nil] | simp only [List.getElem?_toArray] | simp only [List.getElem?_cons_zero] | simp only [List.getElem?_cons_succ])); (try dsimp only); change wpQuiet _ _ _ _ (_ :: _ :: _ :: _ :: _ :: _ :: []) _; (repeat (go_big_quiet_step (fail))); refine wpQuiet_nil ?_; (try dsimp only))
    clear r0 r1 r2 r3 r4 s1
    go_wp2_with fail
    refine ⟨⟨hS.1.alloc _, hS.2.alloc _⟩, ?_⟩
    (unfold wpMixZ wpRd; (repeat (first | simp only [List.filterMap_cons] | simp only [List.filterMap_nil] | simp only [List.getElem?_toArray] | simp only [List.getElem?_cons_zero] | simp only [List.getElem?_cons_succ])); (try dsimp only); change wpQuiet _ _ _ _ ([]) _; (repeat (go_big_quiet_step (fail))); refine wpQuiet_nil ?_; (try dsimp only))
    refine wpList_append_app rfl _ _ _ _ rfl 111 i0 _ 5 72 Tryz.underlying71 hi0 hz0 hz1 hz2 rfl (by decide) rfl HAP3.out rfl HSRC.out (by unfold maxLen; omega) (by omega) ?_
    intro A' cap' w3 g3 hx3 ha3 hl3
    have hbel2 : Below w2.heap.size w2 (w2.drew.alloc (.cells #[.func (.func 132) #[] #[], .string o.name, .string o.to, .slice A1 o.bytes.length c1, .bool o.tears] 111)) := ((Below.refl _ _).drew).alloc (Nat.le_refl _) _
    have hx3' : Ext (· = d) g2 w2 g3 w3 := (Ext.of_below (· = d) g2 hbel2).trans hx3
    have hl3' := hl3.below hbel2
    have hs3 := hx3.size
    have hS3 : (fun x => Blk w.heap.size 111 [.func (.func 132) #[] #[], .string o.name, .string o.to, .slice A1 o.bytes.length c1, .bool o.tears] x ∧ Blk d 73 (devCs km nm A cap E) x) w3 :=
      ⟨HS2.out.1.of (hl3'.far _ HS2.out.1.lt (fun hc off he => HRW.out hc _ _ he HF0.out.1)).1, HS2.out.2.of (hl3'.far _ HS2.out.2.lt (fun hc off he => HRW.out hc _ _ he HF0.out.2)).1⟩
    have HX3 := Lib.hid hx3'
    have HA3 := Lib.hid ha3
    have HL3 := Lib.hid hl3'
    clear hx3 hx3' ha3 hl3 hl3' hbel2
    refine ⟨hS3, ?_⟩
    have c2 : w3.cell? ⟨d, 2, none⟩ = some (.slice A E.pend.length cap) := hS3.2.cell 2
    have z2 := hS3.2.fz
    have HD3 := Lib.hid hS3.2
    clear hS3
    go_frame
    (unfold wpMixZ wpRd; (repeat (first | simp only [List.filterMap_cons] | simp only [List.filterMap_nil] | simp only [List.getElem?_toArray] | simp only [List.getElem?_cons_zero] | simp only [List.getElem?_cons_succ])); (try dsimp only); change wpQuiet _ _ _ _ (_ :: _ :: []) _; (repeat (go_big_quiet_step (fail))); refine wpQuiet_nil ?_; (try dsimp only))
    clear hN
    go_wp2_with fail
    go_ret
    refine ⟨ret_int HI.out.symm, HFIN.out g3 w3 _ A' cap' HX3.out HA3.out HL3.out (grownBy_setCell w3 ⟨d, 2, none⟩ _) ?_⟩
    have := HD3.out.set 2 (.slice A' (E.pend.length + 1) cap')
    simpa [devCs] using this
  · have HI : Hid (doI D = 303) := by simp [Hid, doI, hbb]
    have HDD : Hid (doD D o = burnD D) := by
      show _ = _
      unfold doD
      rw [hbb]
      rfl
    have HBB := Lib.hid hbb
    clear hbb
    go_enter Tryz.func131, Tryz.ntmps131
    go_wp2_with fail
    refine (burn_any d g1 _ D hD1).mono ?_
    rw [HBB.out]
    rintro e w1 ⟨rfl, hx1, hD2⟩
    go_wp2_with fail
    go_ret
    exact ⟨ret_int HI.out.symm, g1, HX0.out.trans hx1, by rw [HDD.out]; exact hD2⟩
end

section
open Go.RowKit

theorem DevAt.files {g : Gh} {w : World} {d : Nat} {D : Dev} (h : DevAt g w d D) : ∃ nm L, w.cell? ⟨d, 1, none⟩ = some (.map (some nm)) ∧ MapIs nm L w ∧ L.length = D.now.n ∧ ∀ k, (look L k = none ∧ D.now.m k = none) ∨ (∃ l A cap, look L k = some (.slice A l.length cap) ∧ D.now.m k = some l ∧ l.length ≤ 8388608 ∧ BytesAt g w (.slice A l.length cap) l) := by
  obtain ⟨km, nm, A, cap, xs, hb, hi⟩ := h
  obtain ⟨L, hL, hn, _⟩ := hi.now.ex
  refine ⟨nm, L, hb.cell 1, hL, hn, fun k => ?_⟩
  rcases hi.now.found hL k with h | ⟨l, A, cap, h1, h2, h3, h4⟩
  · exact .inl h
  · exact .inr ⟨l, A, cap, h1, h2, h3, A, cap, rfl, h4.le, h4.mx, fun hA => (h4.nz hA).1, h4.rd⟩
theorem check_valid {D : Dev} {file : ByteArray} {names : List ByteArray} (hd : D.down = false) (hn : namesOk names = true) : checkI D file names = if (D.now.m file).isNone then 301 else 0 := by
  unfold checkI
  rw [hd, hn]
  rfl
theorem check_down {D : Dev} {file : ByteArray} {names : List ByteArray} (hd : D.down = true) : checkI D file names = 303 := by
  unfold checkI
  rw [hd]
  rfl
theorem DevP.pre {d : Nat} {g g1 : Gh} {w w1 w' : World} {D : Dev} (hx : Ext (· = d) g w g1 w1) (h : DevP d g1 w1 D w') : DevP d g w D w' := by
  obtain ⟨g', h1, h2⟩ := h
  exact ⟨g', hx.trans h1, h2⟩
theorem BytesAt.of_new {g : Gh} {w : World} {A : Option Addr} {cap o : Nat} {l : List UInt8} {e : TypeId} (h : App e 1 o g w A l.length cap (bv l)) : BytesAt g w (.slice A l.length cap) l := ⟨A, cap, rfl, h.le, h.mx, fun hA => (h.nz hA).1, h.rd⟩

/-- What a call that is refused while the device is down, and else carries out an operation, leaves. -/
def actI (D : Dev) : Int := if D.down then 303 else doI D
def actD (D : Dev) (o : POp) : Dev := if D.down then D else doD D o

set_option maxRecDepth 100000 in
set_option maxHeartbeats 1600000 in
theorem dcreate_any (d : Nat) (g : Gh) (w : World) (D : Dev) (hD : DevAt g w d D) (k : ByteArray) (A : Option Addr) (c : Nat) (l : List UInt8) (hr : BytesAt g w (.slice A l.length c) l) (hnm : namesOk [k] = true) (hl : l.length ≤ 4194304) (hn : D.now.n < 256) (hpl : D.pend.length ≤ 1000000) :
    Calls Tryz.prog 100 #[.pointer (some ⟨d, 0, none⟩), .string k, .slice A l.length c] w fun e w' => e = .returned (.int .i64 (actI D)) ∧ DevP d g w (actD D ⟨0, k, ⟨#[]⟩, l, true⟩) w' := by
  have hx0 := Ext.box (· = d) g w (.cells ([k].map Value.string).toArray 9)
  have hx00 := Ext.box (fun _ => False) g w (.cells ([k].map Value.string).toArray 9)
  have hD1 := hD.ext hx00 (fun h => h)
  have HBK : Hid (Blk w.heap.size 9 ([k].map Value.string) (w.alloc (.cells ([k].map Value.string).toArray 9))) := Blk.new w _ _
  have HSZ : Hid (∀ s ∈ [k], s.size ≤ 9223372036854775807) := by
    intro s hs
    have h1 := List.all_eq_true.1 hnm s hs
    simp only [nmB, Bool.and_eq_true, decide_eq_true_eq] at h1
    omega
  have hr1 := hr.ext hx00
  generalize g.box w.heap.size = g1 at *
  have HX0 := Lib.hid hx0
  have HR := Lib.hid hr1
  clear hx0 hx00 hD hr hr1
  simp only [List.map_cons, List.map_nil] at HX0 HBK hD1 HR
  cases hdn : D.down
  rotate_left
  · have HI : Hid (actI D = 303) := by simp [Hid, actI, hdn]
    have HC : Hid (checkI D k [k] = 303) := check_down hdn
    have HDD : Hid (actD D ⟨0, k, ⟨#[]⟩, l, true⟩ = D) := by simp [Hid, actD, hdn]
    clear hdn
    go_enter Tryz.func100, Tryz.ntmps100
    go_wp2_with fail
    refine (check_any d g1 _ D hD1 k [k] w.heap.size _ HBK.out HSZ.out (by simp) (by simp)).mono ?_
    rw [HC.out]
    rintro e w1 ⟨rfl, rfl⟩
    go_wp2_with fail
    go_ret
    exact ⟨ret_int HI.out.symm, g1, HX0.out, by rw [HDD.out]; exact hD1⟩
  · have HI : Hid (actI D = doI D) := by simp [Hid, actI, hdn]
    have HDD : Hid (actD D ⟨0, k, ⟨#[]⟩, l, true⟩ = doD D ⟨0, k, ⟨#[]⟩, l, true⟩) := by simp [Hid, actD, hdn]
    have hcv := check_valid (file := k) hdn hnm
    clear hdn
    obtain ⟨nm, L, cnm, hL, hLn, hfind⟩ := hD1.files
    have hln := fun ty => hL.run_len (P := Tryz.prog) Tryz.underlying70 ty
    have hLb : L.length < 256 := by omega
    clear hL hLn hfind
    have HL := Lib.hid (show True from trivial)
    have HCV := Lib.hid hcv
    clear hcv
    obtain ⟨_, hrz, hrr⟩ := HR.out.rd
    have HRR := Lib.hid hrr
    have HRZ := Lib.hid hrz
    clear hrr hrz
    cases hno : (D.now.m k).isNone
    all_goals
      rw [hno] at HCV
      have HCV2 := Lib.hid HCV.out
      clear hno HCV
      go_enter Tryz.func100, Tryz.ntmps100
      go_wp2_with fail
      refine (check_any d g1 _ D hD1 k [k] w.heap.size _ HBK.out HSZ.out (by simp) (by simp)).mono ?_
      rw [HCV2.out]
      rintro e w1 ⟨rfl, rfl⟩
      simp only [Bool.false_eq_true, if_false, if_true]
      go_wp2_with fail
      refine (cloneB_any d g1 A l.length c (bv l) _ HRR.out HRZ.out (bv_one l) (by omega)).mono ?_
      rintro e w2 ⟨A', cap', g2, rfl, hb2, hF2, hO2, ha2, _, _⟩
      have hx2 : Ext (fun _ => False) g1 _ g2 w2 := (Ext.of_below (fun _ => False) g1 hb2).up hF2 hO2
      have hD2 := hD1.ext hx2 (fun h => h)
      have hbat := BytesAt.of_new ha2
      have HX2 := Lib.hid (HX0.out.trans (hx2.imp (fun _ h => h.elim)))
      clear hx2 hF2 hO2 ha2 hb2 cnm hln
      go_wp2_with fail
      refine (do_create d g2 _ D hD2 ⟨0, k, ⟨#[]⟩, l, true⟩ rfl A' cap' hbat (by show l.length ≤ _; omega) hpl).mono ?_
      rintro e w3 ⟨rfl, hP⟩
      go_wp2_with fail
      go_ret
      exact ⟨ret_int HI.out.symm, by rw [HDD.out]; exact hP.pre HX2.out⟩

/-- What Read returns: an error, or a copy of the bytes. -/
def ReadP (_d _o : Nat) (g : Gh) (w : World) (D : Dev) (k : ByteArray) (e : Ending) (w' : World) : Prop :=
  ∃ A cap g', Ext (fun _ => False) g w g' w' ∧ e = .returned (.tuple #[.slice A (if D.down then 0 else (D.now.get k).length) cap, .int .i64 (if D.down then 303 else if (D.now.m k).isNone then 301 else 0)]) ∧ (D.down = false → BytesAt g' w' (.slice A (D.now.get k).length cap) (D.now.get k))
set_option maxRecDepth 100000 in
set_option maxHeartbeats 1600000 in
theorem dread_any (d o : Nat) (g : Gh) (w : World) (D : Dev) (hD : DevAt g w d D) (k : ByteArray) (hnm : namesOk [k] = true) :
    Calls Tryz.prog 69 #[.pointer (some ⟨d, 0, none⟩), .string k] w (ReadP d o g w D k) := by
  have hx0 := Ext.box (· = d) g w (.cells ([k].map Value.string).toArray 9)
  have hx00 := Ext.box (fun _ => False) g w (.cells ([k].map Value.string).toArray 9)
  have hD1 := hD.ext hx00 (fun h => h)
  have HBK : Hid (Blk w.heap.size 9 ([k].map Value.string) (w.alloc (.cells ([k].map Value.string).toArray 9))) := Blk.new w _ _
  have HSZ : Hid (∀ s ∈ [k], s.size ≤ 9223372036854775807) := by
    intro s hs
    have h1 := List.all_eq_true.1 hnm s hs
    simp only [nmB, Bool.and_eq_true, decide_eq_true_eq] at h1
    omega
  generalize g.box w.heap.size = g1 at *
  have HX0 := Lib.hid hx00
  clear hx0 hx00 hD
  simp only [List.map_cons, List.map_nil] at HX0 HBK hD1
  cases hdn : D.down
  · have HCV := Lib.hid (check_valid (file := k) hdn hnm)
    have HDN := Lib.hid hdn
    clear hdn
    obtain ⟨nm, L, cnm, hL, hLn, hfind⟩ := hD1.files
    rcases hfind k with ⟨h1, h2⟩ | ⟨l, A0, c0, h1, h2, h3, h4⟩
    · have HC : Hid (checkI D k [k] = 301) := by show _ = _; rw [HCV.out, h2]; rfl
      have HFIN : Hid (ReadP d o g w D k (.returned (.tuple #[.slice none 0 0, .int .i64 301])) (w.alloc (.cells #[.string k] 9))) := by
        have hg : D.now.get k = [] := by unfold Fl.get; rw [h2]; rfl
        refine ⟨none, 0, g1, HX0.out, ?_, fun _ => ?_⟩
        · rw [HDN.out, h2, hg]; rfl
        · rw [hg]; exact ⟨none, 0, rfl, Nat.le_refl _, Nat.zero_le _, fun _ => rfl, Rd.nil _ _ _ _⟩
      clear hL hLn hfind h1 h2 HCV cnm
      go_enter Tryz.func69, Tryz.ntmps69
      go_wp2_with fail
      refine (check_any d g1 _ D hD1 k [k] w.heap.size _ HBK.out HSZ.out (by simp) (by simp)).mono ?_
      rw [HC.out]
      rintro e w1 ⟨rfl, rfl⟩
      go_wp2_with fail
      go_ret2
      exact HFIN.out
    · have HC : Hid (checkI D k [k] = 0) := by show _ = _; rw [HCV.out, h2]; rfl
      have HFIN : Hid (∀ A' cap' g2 w2, Ext (fun _ => False) g w g2 w2 → App 5 1 o g2 w2 A' l.length cap' (bv l) → ReadP d o g w D k (.returned (.tuple #[.slice A' l.length cap', .int .i64 0])) w2) := by
        intro A' cap' g2 w2 hx ha
        have hg : D.now.get k = l := by unfold Fl.get; rw [h2]; rfl
        refine ⟨A', cap', g2, hx, ?_, fun _ => ?_⟩
        · rw [HDN.out, h2, hg]; rfl
        · rw [hg]; exact BytesAt.of_new ha
      obtain ⟨_, hrz, hrr⟩ := h4.rd
      have HRR := Lib.hid hrr
      have HRZ := Lib.hid hrz
      have HLK := Lib.hid h1
      have HL := Lib.hid hL
      clear hL hLn hfind h1 h2 HCV hrr hrz h4
      go_enter Tryz.func69, Tryz.ntmps69
      go_wp2_with fail
      refine (check_any d g1 _ D hD1 k [k] w.heap.size _ HBK.out HSZ.out (by simp) (by simp)).mono ?_
      rw [HC.out]
      rintro e w1 ⟨rfl, rfl⟩
      go_wp2_with (with_reducible refine wpList_look_some rfl (.tmp 18) (.tmp 19) 70 false rfl 9 30 Tryz.underlying70 Tryz.underlying9 nm L rfl HL.out k rfl _ HLK.out ?_)
      refine (cloneB_any o g1 A0 l.length c0 (bv l) _ HRR.out HRZ.out (bv_one l) (by omega)).mono ?_
      rintro e w2 ⟨A', cap', g2, rfl, hb2, hF2, hO2, ha2, _, _⟩
      have hx2 : Ext (fun _ => False) g1 _ g2 w2 := (Ext.of_below (fun _ => False) g1 hb2).up hF2 hO2
      have HR2 := Lib.hid (HFIN.out A' cap' g2 w2 (HX0.out.trans hx2) ha2)
      clear hx2 hF2 hO2 ha2 hb2 cnm HFIN
      go_wp2_with fail
      go_ret2
      exact HR2.out
  · have HC : Hid (checkI D k [k] = 303) := check_down hdn
    have HFIN : Hid (ReadP d o g w D k (.returned (.tuple #[.slice none 0 0, .int .i64 303])) (w.alloc (.cells #[.string k] 9))) := by
      refine ⟨none, 0, g1, HX0.out, ?_, fun h => by rw [hdn] at h; cases h⟩
      rw [hdn]; rfl
    clear hdn
    go_enter Tryz.func69, Tryz.ntmps69
    go_wp2_with fail
    refine (check_any d g1 _ D hD1 k [k] w.heap.size _ HBK.out HSZ.out (by simp) (by simp)).mono ?_
    rw [HC.out]
    rintro e w1 ⟨rfl, rfl⟩
    go_wp2_with fail
    go_ret2
    exact HFIN.out
end

section
open Go.RowKit

def Gh.give (g : Gh) (b o : Nat) : Gh := ⟨fun k => if k = b then 0 else g.F k, fun k => if k = b then o else g.O k⟩
theorem Ext.give (M : Nat → Prop) (g : Gh) (w : World) (ob : Obj) (o : Nat) : Ext M g w (g.give w.heap.size o) (w.alloc ob) :=
  ((Ext.refl M g w).alloc ob).up (fun b hb => by simp only [Gh.give]; rw [if_neg (by omega)]) (fun b hb => by simp only [Gh.give]; rw [if_neg (by omega)])
theorem Gh.give_O (g : Gh) (b o : Nat) : (g.give b o).O b = o := by simp [Gh.give]
theorem Gh.give_F (g : Gh) (b o : Nat) : (g.give b o).F b = 0 := by simp [Gh.give]

/-- A copy of a map by its entries. -/
theorem MapIs.clone {b : Nat} {L : List (ByteArray × Value)} {w : World} {es : Array MapEntry} {clock : Nat} (h : MapIs b L w) (hb : w.heap[b]? = some (.map es clock)) : MapIs w.heap.size L (w.alloc (.map es clock)) := by
  obtain ⟨es', clock', h1, h2⟩ := h
  rw [hb] at h1
  injection h1 with h1
  injection h1 with e1 e2
  subst e1; subst e2
  exact ⟨es, clock, heap_alloc_new w _, h2⟩

def syncI (D : Dev) : Int := if D.down then 303 else if burnB D then 303 else 0
def syncD (D : Dev) : Dev := if D.down then D else if burnB D then burnD D else if (burnD D).pend.length = 0 then burnD D else { burnD D with kept := (burnD D).now, pend := [] }

theorem sync_end {d km nm : Nat} {g : Gh} {w w1 : World} {A : Option Addr} {cap : Nat} {xs : List Value} {E : Dev} {es : Array MapEntry} {clock : Nat} (hb : Blk d 73 (devCs km nm A cap E) w) (hi : DevIn g w d km nm A cap xs E) (hm : w.heap[nm]? = some (.map es clock))
    (hg : (w.alloc (.map es clock)).grownBy w1 (some d)) (hB : Blk d 73 (devCs w.heap.size nm none 0 { E with kept := E.now, pend := [] }) w1) : DevP d g w { E with kept := E.now, pend := [] } w1 := by
  obtain ⟨n1, n2⟩ := hi.nes hb
  have hlt := hb.lt
  have hx := Ext.give (fun _ => False) g w (.map es clock) d
  have hO := Gh.give_O g w.heap.size d
  have hF := Gh.give_F g w.heap.size d
  have hnml := hi.now.lt
  obtain ⟨L, hL, hn, h3, h4⟩ := hi.now.rd.ex
  have hL1 := hL.clone hm
  generalize g.give w.heap.size d = g1 at *
  have hx2 : Ext (· = d) g1 (w.alloc (.map es clock)) g1 w1 := (Ext.refl _ _ _).one hg (fun _ => by rw [hx.own d hlt]; exact hi.O) (hx.zero d hlt hi.F)
  have hblk : ∀ b, b < w.heap.size + 1 → b ≠ d → w1.heap[b]? = (w.alloc (.map es clock)).heap[b]? := fun b hb' hne => hg.block b (by simpa using hb') (fun e => hne (by injection e))
  have hkept : FlRd g1 (w.alloc (.map es clock)) w.heap.size E.now := ⟨L, hL1, hn, h3, fun k v hl => let ⟨l, e1, e2⟩ := h4 k v hl; ⟨l, e1, e2.ext hx⟩⟩
  refine ⟨g1, (hx.imp (fun _ h => h.elim)).trans hx2, w.heap.size, nm, none, 0, [], hB, by omega, hO, hF, hkept.ext hx2 (hblk _ (by omega) (by omega)), ?_, App.nil _ _ _ _ _, trivial, ?_, hx.zero d hlt hi.F, hi.f0, hi.f1⟩
  · exact (hi.now.ext hx (fun h => h)).same hx2 fun k hk ho => ⟨hblk k (by simpa using hk) (fun e => by
      subst e
      rcases ho with ho | ho
      · exact ho (hx.zero k hlt hi.F)
      · exact n1 ho), rfl⟩
  · rw [hx.own d hlt]; exact hi.O

set_option maxRecDepth 100000 in
set_option maxHeartbeats 1600000 in
theorem sync_any (d : Nat) (g : Gh) (w : World) (D : Dev) (hD : DevAt g w d D) (hpl : D.pend.length ≤ 1000000) :
    Calls Tryz.prog 102 #[.pointer (some ⟨d, 0, none⟩)] w fun e w' => e = .returned (.int .i64 (syncI D)) ∧ DevP d g w (syncD D) w' := by
  have hD0 := hD
  obtain ⟨km, nm, A, cap, xs, hb, hi⟩ := hD0
  have c3 : w.cell? ⟨d, 3, none⟩ = some (.bool D.down) := hb.cell 3
  clear hb hi
  cases hdn : D.down
  · rw [hdn] at c3
    cases hbb : burnB D
    · have HI : Hid (syncI D = 0) := by simp [Hid, syncI, hdn, hbb]
      have HDD : Hid (syncD D = if (burnD D).pend.length = 0 then burnD D else { burnD D with kept := (burnD D).now, pend := [] }) := by simp [Hid, syncD, hdn, hbb]
      have HBB := Lib.hid hbb
      have hpE : (burnD D).pend.length ≤ 1000000 := by rw [(burn_now D).2.1]; exact hpl
      clear hbb hdn
      go_enter Tryz.func102, Tryz.ntmps102
      go_wp2_with fail
      refine (burn_any d g _ D hD).mono ?_
      rw [HBB.out]
      rintro e w1 ⟨rfl, hx1, hD2⟩
      have HX1 := Lib.hid hx1
      have HD2 := Lib.hid hD2
      obtain ⟨km, nm, A, cap, xs, hb, hi⟩ := hD2
      have c2 : w1.cell? ⟨d, 2, none⟩ = some (.slice A (burnD D).pend.length cap) := hb.cell 2
      have c1 : w1.cell? ⟨d, 1, none⟩ = some (.map (some nm)) := hb.cell 1
      clear hx1 c3
      generalize burnD D = E at *
      by_cases h0 : E.pend.length = 0
      · have h0b : decide (0 < E.pend.length) = false := decide_eq_false (by omega)
        have HFIN : Hid (DevP d g w (syncD D) w1) := by
          rw [Hid, HDD.out, if_pos h0]
          exact ⟨g, HX1.out, HD2.out⟩
        have H0 := Lib.hid h0
        clear h0 hb hi
        go_wp2_with fail
        go_ret
        exact ⟨ret_int HI.out.symm, HFIN.out⟩
      · have h0b : decide (0 < E.pend.length) = true := decide_eq_true (by omega)
        obtain ⟨L, hL, _⟩ := hi.now.ex
        obtain ⟨es, clock, hm, _⟩ := hL
        have HM := Lib.hid hm
        have hbk := hb
        have z := (hbk.alloc (.map es clock)).fz
        have a0 : (w1.alloc (.map es clock)).cell? ⟨d, 0, none⟩ = some (.map (some km)) := (hbk.alloc (.map es clock)).cell 0
        have a2 : (w1.alloc (.map es clock)).cell? ⟨d, 2, none⟩ = some (.slice A E.pend.length cap) := (hbk.alloc (.map es clock)).cell 2
        have HFIN : Hid (∀ w2, (w1.alloc (.map es clock)).grownBy w2 (some d) → Blk d 73 (devCs w1.heap.size nm none 0 { E with kept := E.now, pend := [] }) w2 → DevP d g w (syncD D) w2) := by
          intro w2 hg hB
          rw [HDD.out, if_neg h0]
          exact (sync_end hb hi HM.out hg hB).pre HX1.out
        have HBK := Lib.hid (hb.alloc (.map es clock))
        clear h0 hb hi hm hbk
        go_wp2_with fail
        refine (mapsClone_any nm es clock _ HM.out).mono ?_
        rintro e w2 ⟨rfl, rfl⟩
        go_wp2_with fail
        go_ret
        refine ⟨ret_int HI.out.symm, HFIN.out _ ((grownBy_setCell _ ⟨d, 0, none⟩ _).trans (grownBy_setCell _ ⟨d, 2, none⟩ _)) ?_⟩
        exact (HBK.out.set 0 _).set 2 _
    · have HI : Hid (syncI D = 303) := by simp [Hid, syncI, hdn, hbb]
      have HDD : Hid (syncD D = burnD D) := by simp [Hid, syncD, hdn, hbb]
      have HBB := Lib.hid hbb
      clear hbb hdn
      go_enter Tryz.func102, Tryz.ntmps102
      go_wp2_with fail
      refine (burn_any d g _ D hD).mono ?_
      rw [HBB.out]
      rintro e w1 ⟨rfl, hx1, hD2⟩
      go_wp2_with fail
      go_ret
      exact ⟨ret_int HI.out.symm, g, hx1, by rw [HDD.out]; exact hD2⟩
  · rw [hdn] at c3
    have HI : Hid (syncI D = 303) := by simp [Hid, syncI, hdn]
    have HDD : Hid (syncD D = D) := by simp [Hid, syncD, hdn]
    clear hdn
    go_enter Tryz.func102, Tryz.ntmps102
    go_wp2_with fail
    go_ret
    exact ⟨ret_int HI.out.symm, g, Ext.refl _ _ _, by rw [HDD.out]; exact hD⟩
end

end Go.Proofs.YtjjdffafibonhaaGreatDoor
