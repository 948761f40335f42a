/-
  The base for seats without the journal (joined by a program of ours from our own texts).
-/
import Derived.Test.YtjjdffafibonhaaGreatDoorGenF
import Derived.Test.YtjjdffafibonhaaGreatDoorGenA
import Derived.Lib.SlBytesConst
import Derived.WalkMore
namespace Go.Proofs.YtjjdffafibonhaaGreatDoor
section
open Go.RowKit

/-- The cells of a list of byte strings. -/
def RecsR (g : Gh) (w : World) : List Value → List (List UInt8) → Prop
  | [], [] => True
  | v :: vs, r :: rs => BytesAt g w v r ∧ RecsR g w vs rs
  | _, _ => False
theorem RecsR.ext {g g' : Gh} {w w' : World} {M : Nat → Prop} (hx : Ext M g w g' w') : ∀ {vs : List Value} {rs : List (List UInt8)}, RecsR g w vs rs → RecsR g' w' vs rs
  | [], [], _ => trivial
  | _ :: _, _ :: _, ⟨h1, h2⟩ => ⟨h1.ext hx, RecsR.ext hx h2⟩
theorem RecsR.len {g : Gh} {w : World} : ∀ {vs : List Value} {rs : List (List UInt8)}, RecsR g w vs rs → vs.length = rs.length
  | [], [], _ => rfl
  | _ :: _, _ :: _, ⟨_, h2⟩ => by simp [RecsR.len h2]
theorem RecsR.append {g : Gh} {w : World} : ∀ {vs : List Value} {rs : List (List UInt8)}, RecsR g w vs rs → ∀ {vs' : List Value} {rs' : List (List UInt8)}, RecsR g w vs' rs' → RecsR g w (vs ++ vs') (rs ++ rs')
  | [], [], _, _, _, h => h
  | _ :: _, _ :: _, ⟨h1, h2⟩, _, _, h => ⟨h1, RecsR.append h2 h⟩
theorem RecsR.get {g : Gh} {w : World} : ∀ {vs : List Value} {rs : List (List UInt8)}, RecsR g w vs rs → ∀ {k : Nat} (hk : k < rs.length), ∃ v, vs[k]? = some v ∧ BytesAt g w v rs[k]
  | [], [], _, _, hk => by simp at hk
  | _ :: _, _ :: _, ⟨h1, _⟩, 0, _ => ⟨_, rfl, h1⟩
  | _ :: _, _ :: _, ⟨_, h2⟩, k + 1, hk => by
    obtain ⟨v, h3, h4⟩ := RecsR.get h2 (k := k) (by simpa using hk)
    exact ⟨v, by simpa using h3, by simpa using h4⟩
theorem RecsR.drop {g : Gh} {w : World} : ∀ {vs : List Value} {rs : List (List UInt8)}, RecsR g w vs rs → ∀ k, RecsR g w (vs.drop k) (rs.drop k)
  | [], [], _, k => by simp [RecsR]
  | _ :: _, _ :: _, ⟨h1, h2⟩, 0 => ⟨h1, h2⟩
  | _ :: _, _ :: _, ⟨_, h2⟩, k + 1 => by simpa using RecsR.drop h2 k
theorem RecsR.one {g : Gh} {w : World} : ∀ {vs : List Value} {rs : List (List UInt8)}, RecsR g w vs rs → ∀ u ∈ vs, u.oneCell' = true
  | [], [], _, _, h => by cases h
  | _ :: _, _ :: _, ⟨h1, h2⟩, u, h => by
    rcases List.mem_cons.1 h with rfl | h
    · obtain ⟨A, cap, rfl, _⟩ := h1.ex
      rfl
    · exact RecsR.one h2 u h

structure Jrn where
  name : ByteArray
  start : Int
  recs : List (List UInt8)
  pend : List (List UInt8)
  bytes : Int
  whole : Bool
  dead : Bool
structure JIn (g : Gh) (w : World) (j : Nat) (A1 : Option Addr) (c1 : Nat) (v1 : List Value) (A2 : Option Addr) (c2 : Nat) (v2 : List Value) (J : Jrn) : Prop where
  r1 : App 30 1 j g w A1 J.recs.length c1 v1
  q1 : RecsR g w v1 J.recs
  r2 : App 30 1 j g w A2 J.pend.length c2 v2
  q2 : RecsR g w v2 J.pend
  ne : J.recs.length < c1 → J.pend.length < c2 → ∀ b off b' off', A1 = some ⟨b, off, none⟩ → A2 = some ⟨b', off', none⟩ → b ≠ b'
  O : g.O j = j
  F : g.F j = 0
def jCs (d : Nat) (A1 : Option Addr) (c1 : Nat) (A2 : Option Addr) (c2 : Nat) (J : Jrn) : List Value := [.pointer (some ⟨d, 0, none⟩), .string J.name, .int .i64 J.start, .slice A1 J.recs.length c1, .slice A2 J.pend.length c2, .int .i64 J.bytes, .bool J.whole, .bool J.dead]
theorem JIn.ext {g g' : Gh} {w w' : World} {j : Nat} {A1 A2 : Option Addr} {c1 c2 : Nat} {v1 v2 : List Value} {J : Jrn} {M : Nat → Prop} (h : JIn g w j A1 c1 v1 A2 c2 v2 J) (hx : Ext M g w g' w') (hm : ¬ M j) (hj : j < w.heap.size) : JIn g' w' j A1 c1 v1 A2 c2 v2 J :=
  ⟨h.r1.ext hx hm, h.q1.ext hx, h.r2.ext hx hm, h.q2.ext hx, h.ne, (hx.own j hj).trans h.O, hx.zero j hj h.F⟩
/-- A row of a slice with room is not block j itself. -/
theorem App.not_self {e : TypeId} {sz o : Nat} {g : Gh} {w : World} {A : Option Addr} {n cap : Nat} {xs : List Value} (h : App e sz o g w A n cap xs) {j : Nat} (hF : g.F j = 0) (hsz : 0 < sz) (hlt : n < cap) {b off : Nat} (hA : A = some ⟨b, off, none⟩) : b ≠ j := fun e => by
  obtain ⟨h0, b2, cs, f1, _, f3, _⟩ := h.sp hlt
  rw [hA] at f1; injection f1 with f1; injection f1 with f1 _
  rw [← f1, e, hF] at f3
  have := Nat.mul_pos h0 hsz
  omega
/-- Only the journal's own block is written. -/
theorem JIn.self {g : Gh} {w w' : World} {j : Nat} {A1 A2 : Option Addr} {c1 c2 : Nat} {v1 v2 : List Value} {J : Jrn} (h : JIn g w j A1 c1 v1 A2 c2 v2 J) (hg : w.grownBy w' (some j)) : Ext (· = j) g w g w' ∧ JIn g w' j A1 c1 v1 A2 c2 v2 J := by
  have hx : Ext (· = j) g w g w' := (Ext.refl (· = j) g w).one hg (fun _ => h.O) h.F
  refine ⟨hx, h.r1.ext' hx (fun b off hA hb hlt => ⟨hg.block b hb (fun e => h.r1.not_self h.F (by decide) hlt hA (by injection e)), rfl⟩), h.q1.ext hx, h.r2.ext' hx (fun b off hA hb hlt => ⟨hg.block b hb (fun e => h.r2.not_self h.F (by decide) hlt hA (by injection e)), rfl⟩), h.q2.ext hx, h.ne, h.O, h.F⟩

section
end
end

section
section
open Go.RowKit

noncomputable def frameB (r : List UInt8) : List UInt8 := encU r.length ++ encU (sumF r).toNat ++ r
theorem frameB_len (r : List UInt8) (h : r.length ≤ 65536) : (frameB r).length ≤ r.length + 20 := by
  have p10 : (128 : Nat) ^ 10 = 1180591620717411303424 := by decide
  have h1 := encU_len r.length 10 (by omega) (by omega)
  have h2 := encU_len (sumF r).toNat 10 (by have := sumF_bd r; omega) (by omega)
  unfold frameB
  simp only [List.length_append]
  omega

/-- A slice of bytes appended to by o. -/
def ByteP (o : Nat) (g : Gh) (w : World) (l : List UInt8) (e : Ending) (w' : World) : Prop :=
  ∃ A cap g', e = .returned (.slice A l.length cap) ∧ Ext (· = o) g w g' w' ∧ App 5 1 o g' w' A l.length cap (bv l)

end

section
open Go.RowKit

theorem owner_new (g : Gh) (n : Nat) : ∃ o, ∀ b, b < n → g.O b ≠ o := by
  have h : ∃ m, ∀ b, b < n → g.O b < m := by
    induction n with
    | zero => exact ⟨0, fun b hb => by omega⟩
    | succ n ih =>
      obtain ⟨m, hm⟩ := ih
      refine ⟨max m (g.O n + 1), fun b hb => ?_⟩
      by_cases h : b = n
      · subst h; omega
      · have := hm b (by omega); omega
  obtain ⟨m, hm⟩ := h
  exact ⟨m, fun b hb e => by have := hm b hb; omega⟩

noncomputable def framesB : List (List UInt8) → List UInt8
  | [] => []
  | r :: rs => frameB r ++ framesB rs
theorem framesB_append (a b : List (List UInt8)) : framesB (a ++ b) = framesB a ++ framesB b := by
  induction a with
  | nil => rfl
  | cons r rs ih => simp [framesB, ih]
theorem framesB_snoc {l : List (List UInt8)} {k : Nat} (h : k < l.length) : framesB (l.take (k + 1)) = framesB (l.take k) ++ frameB l[k] := by
  rw [List.take_add_one, framesB_append, List.getElem?_eq_getElem h]
  simp [framesB]
theorem framesB_take (l : List (List UInt8)) (k : Nat) : (framesB (l.take k)).length ≤ (framesB l).length := by
  have h := framesB_append (l.take k) (l.drop k)
  rw [List.take_append_drop] at h
  rw [h, List.length_append]
  omega

end
end

section
open Go.RowKit

/-- A new block of literal cells. -/
def Gh.lit (g : Gh) (b n : Nat) : Gh := ⟨fun k => if k = b then n else g.F k, g.O⟩
theorem Ext.lit (M : Nat → Prop) (g : Gh) (w : World) (ob : Obj) (n : Nat) : Ext M g w (g.lit w.heap.size n) (w.alloc ob) :=
  ((Ext.refl M g w).alloc ob).up (fun b hb => by simp only [Gh.lit]; rw [if_neg (by omega)]) (fun b hb => rfl)
theorem App.lit (g : Gh) (w : World) (cs : List Value) (e : TypeId) (fr : Nat × Nat) (n o : Nat) (hn : cs.length = n) (hm : n ≤ maxLen) : App e 1 o (g.lit w.heap.size n) (w.alloc (.cells cs.toArray e fr)) (some ⟨w.heap.size, 0, none⟩) n n cs := by
  refine ⟨⟨by omega, fun _ => ⟨w.heap.size, 0, rfl, by simp [Gh.lit], by simp, fun j u hu => ?_⟩⟩, Nat.le_refl _, hm, (fun h => by cases h), fun h => absurd h (Nat.lt_irrefl _)⟩
  rw [cell_at (heap_alloc_new w _)]
  simpa using hu

noncomputable def fileB (start : Nat) (rs : List (List UInt8)) : List UInt8 := [83, 89, 74, 76] ++ encU start ++ framesB rs

theorem fileB_snoc (st : Nat) {l : List (List UInt8)} {k : Nat} (h : k < l.length) : fileB st (l.take (k + 1)) = fileB st (l.take k) ++ frameB l[k] := by
  unfold fileB
  rw [framesB_snoc h, ← List.append_assoc]
theorem fileB_take (st : Nat) (l : List (List UInt8)) (k : Nat) : (fileB st (l.take k)).length ≤ (fileB st l).length := by
  unfold fileB
  have := framesB_take l k
  simp only [List.length_append]
  omega
end

section
open Go.RowKit

structure CStep where
  f : FuncId
  fst : List Value
  cap : List Value
  i : Dev → Int
  act : Dev → Dev
  pre : Dev → Prop
def CStep.v (s : CStep) : Value := .func (.func s.f) s.fst.toArray s.cap.toArray
theorem run_enter {P : Program} {f : FuncId} {fn : Func} {c : Code} (hf : P.funcs[f]? = some fn) (hname : (fn.name == "runtime.NumGoroutine") = false) (hb : fn.body = some c) (args : Array Value) (w : World) : (callFunc f args).run P w = .ok (.enter f args) w := by
  have h1 : fn.name ≠ "runtime.NumGoroutine" := by simpa using hname
  simp [callFunc, hf, h1, hb]
def CStep.ok (s : CStep) (I : Gh → World → Prop) (d : Nat) : Prop := (∀ args w, (callFunc s.f args).run Tryz.prog w = .ok (.enter s.f args) w) ∧ ∀ g w D, I g w → DevAt g w d D → s.pre D → Calls Tryz.prog s.f (s.fst ++ s.cap).toArray w fun e w' => e = .returned (.int .i64 (s.i D)) ∧ DevP d g w (s.act D) w'
def carryI : List CStep → Dev → Int
  | [], _ => 0
  | s :: ss, D => if s.i D = 0 then carryI ss (s.act D) else s.i D
def carryD : List CStep → Dev → Dev
  | [], D => D
  | s :: ss, D => if s.i D = 0 then carryD ss (s.act D) else s.act D
def carryJ (i : Int) (J : Jrn) : Jrn := if i = 0 then J else { J with dead := decide (i = 303) }
def carryPre : List CStep → Dev → Prop
  | [], _ => True
  | s :: ss, D => s.pre D ∧ (s.i D = 0 → carryPre ss (s.act D))
end

section
open Go.RowKit

def jappI (J : Jrn) (r : List UInt8) : Int := if J.dead then 313 else if 65536 < r.length then 310 else if 4096 ≤ J.recs.length + J.pend.length then 311 else if 1048576 < J.bytes + r.length then 311 else 0
def jappJ (J : Jrn) (r : List UInt8) : Jrn := if jappI J r = 0 then { J with pend := J.pend ++ [r], bytes := J.bytes + r.length } else J
/-- The pending records grow. -/
theorem JIn.pushed {g g3 : Gh} {w w3 : World} {j : Nat} {A1 A2 A3 : Option Addr} {c1 c2 c3 m : Nat} {v1 v2 nv : List Value} {J : Jrn} {rs : List (List UInt8)} (h : JIn g w j A1 c1 v1 A2 c2 v2 J) (hj : j < w.heap.size) (hx : Ext (· = j) g w g3 w3) (ha : App 30 1 j g3 w3 A3 (J.pend.length + m) c3 (v2 ++ nv)) (hl : Lies g w A2 J.pend.length c2 g3 w3 A3 c3) (hq : RecsR g w nv rs) (hm : rs.length = m) (b : Int) :
    JIn g3 w3 j A1 c1 v1 A3 c3 (v2 ++ nv) { J with pend := J.pend ++ rs, bytes := b } ∧ w3.heap[j]? = w.heap[j]? := by
  have hjf := hl.far j hj (fun hlt off he => h.r2.not_self h.F (by decide) hlt he rfl)
  refine ⟨⟨h.r1.ext' hx (fun b off hA hb hlt => hl.far b hb (fun hlt2 off2 he => h.ne hlt hlt2 _ _ _ _ hA he rfl)), h.q1.ext hx, ?_, (h.q2.append hq).ext hx, ?_, (hx.own j hj).trans h.O, hjf.2.trans h.F⟩, hjf.1⟩
  · rw [List.length_append, hm]; exact ha
  · intro h1 h2 b off b' off' e1 e2 e
    dsimp only at h2
    rw [List.length_append, hm] at h2
    rcases hl.at_ with ⟨e3, e4⟩ | ⟨b2, e3, e4, _⟩
    · exact h.ne h1 (by omega) _ _ _ _ e1 (e3 ▸ e2) e
    · rw [e3] at e2; injection e2 with e2; injection e2 with e2 _
      obtain ⟨_, b3, cs, f1, _, _, f4, _⟩ := h.r1.sp h1
      rw [e1] at f1; injection f1 with f1; injection f1 with f1 _
      have := block_lt f4
      omega
end

section
open Go.RowKit

theorem run_enters {P : Program} {f : FuncId} {fn : Func} (hf : P.funcs[f]? = some fn) (hname : (fn.name == "runtime.NumGoroutine") = false) (hb : fn.body.isSome = true) (args : Array Value) (w : World) : (callFunc f args).run P w = .ok (.enter f args) w := by
  obtain ⟨c, hc⟩ := Option.isSome_iff_exists.1 hb
  exact run_enter hf hname hc args w
def Jrn.file (J : Jrn) : ByteArray := J.name ++ ⟨#[46, 108, 111, 103]⟩
def Jrn.fresh (J : Jrn) : ByteArray := J.name ++ ⟨#[46, 110, 101, 119]⟩
structure JOk (J : Jrn) : Prop where
  nm : J.name.size ≤ 40
  n1 : namesOk [J.file] = true
  n2 : namesOk [J.fresh] = true
  n3 : namesOk [J.fresh, J.file] = true
  st0 : 0 ≤ J.start
  st1 : J.start < 9223372036854775808
  rl : ∀ r ∈ J.recs ++ J.pend, r.length ≤ 65536
  cnt : (J.recs ++ J.pend).length ≤ 1000000
def sSync (d : Nat) : CStep := ⟨102, [.pointer (some ⟨d, 0, none⟩)], [], syncI, syncD, fun D => D.pend.length ≤ 1000000⟩

theorem sSync_ok (I : Gh → World → Prop) (d : Nat) : (sSync d).ok I d := by
  refine ⟨fun args w => run_enters Tryz.func102 (by kernel_rfl) (by kernel_rfl) args w, fun g w D h1 h2 h3 => ?_⟩
  exact sync_any d g w D h2 h3

/-- The pending records join the durable ones. -/
theorem JIn.joined {g g3 : Gh} {w w3 : World} {j : Nat} {A1 A2 A3 : Option Addr} {c1 c2 c3 : Nat} {v1 v2 : List Value} {J : Jrn} (h : JIn g w j A1 c1 v1 A2 c2 v2 J) (hj : j < w.heap.size) (hx : Ext (· = j) g w g3 w3) (ha : App 30 1 j g3 w3 A3 (J.recs.length + J.pend.length) c3 (v1 ++ v2)) (hl : Lies g w A1 J.recs.length c1 g3 w3 A3 c3) :
    JIn g3 w3 j A3 c3 (v1 ++ v2) none 0 [] { J with recs := J.recs ++ J.pend, pend := [], whole := true } ∧ w3.heap[j]? = w.heap[j]? := by
  have hjf := hl.far j hj (fun hlt off he => h.r1.not_self h.F (by decide) hlt he rfl)
  refine ⟨⟨?_, (h.q1.append h.q2).ext hx, App.nil _ _ _ _ _, trivial, fun _ h2 => absurd h2 (Nat.lt_irrefl _), (hx.own j hj).trans h.O, hjf.2.trans h.F⟩, hjf.1⟩
  rw [List.length_append]; exact ha
theorem calls_rd (g : Gh) (w : World) (e : TypeId) (ss : List CStep) (hm : ss.length ≤ maxLen) : Rd 1 (g.lit w.heap.size ss.length) (w.alloc (.cells (ss.map CStep.v).toArray e)) (some ⟨w.heap.size, 0, none⟩) ss.length (ss.map CStep.v) := (App.lit g w (ss.map CStep.v) e (0, 0) ss.length 0 (by simp) hm).rd
end

section
open Go.RowKit

def lens : List (List UInt8) → Nat
  | [] => 0
  | r :: rs => r.length + lens rs
theorem lens_append (a b : List (List UInt8)) : lens (a ++ b) = lens a + lens b := by
  induction a with
  | nil => simp [lens]
  | cons r rs ih => simp [lens, ih]; omega
theorem lens_snoc {l : List (List UInt8)} {k : Nat} (h : k < l.length) : lens (l.take (k + 1)) = lens (l.take k) + l[k].length := by
  rw [List.take_add_one, lens_append, List.getElem?_eq_getElem h]
  simp [lens]
theorem lens_take (l : List (List UInt8)) (k : Nat) : lens (l.take k) ≤ lens l := by
  have h := lens_append (l.take k) (l.drop k)
  rw [List.take_append_drop] at h
  omega
def disJ (J : Jrn) : Jrn := if J.dead then J else { J with pend := [], bytes := J.bytes - lens J.pend }

/-- Get: the record at a position. -/
def getR (J : Jrn) (p : Int) : Option (List UInt8) := if p < J.start then none else if J.start + J.recs.length ≤ p then none else J.recs[(p - J.start).toNat]?
/-- What Get returns. -/
def GetP (_o : Nat) (g : Gh) (w : World) (r : Option (List UInt8)) (e : Ending) (w' : World) : Prop :=
  match r with
  | none => e = .returned (.tuple #[.slice none 0 0, .bool false]) ∧ ∃ n, w' = w.drewN n
  | some l => ∃ A c g', e = .returned (.tuple #[.slice A l.length c, .bool true]) ∧ Ext (fun _ => False) g w g' w' ∧ BytesAt g' w' (.slice A l.length c) l
end

section
open Go.RowKit

/-- The journal's records are others, in a block of their own. -/
theorem JIn.cutOff {g g6 : Gh} {w w6 : World} {j : Nat} {B1 B2 A' : Option Addr} {e1 e2 c' : Nat} {u1 u2 vs : List Value} {J : Jrn} {rs : List (List UInt8)} (h : JIn g w j B1 e1 u1 B2 e2 u2 J) (hj : j < w.heap.size) (hx : Ext (fun _ => False) g w g6 w6) (ha : App 30 1 j g6 w6 A' rs.length c' vs) (hq : RecsR g w vs rs) (hnew : ∀ b off, A' = some ⟨b, off, none⟩ → w.heap.size ≤ b) (st b' : Int) (wh : Bool) :
    JIn g6 w6 j A' c' vs B2 e2 u2 { J with start := st, recs := rs, bytes := b', whole := wh } := by
  refine ⟨ha, hq.ext hx, h.r2.ext hx (fun h => h), h.q2.ext hx, ?_, (hx.own j hj).trans h.O, hx.zero j hj h.F⟩
  intro h1 h2 b off b2 off2 e1 e2 e
  obtain ⟨_, b3, cs, f1, _, _, f4, _⟩ := h.r2.sp h2
  rw [e2] at f1; injection f1 with f1; injection f1 with f1 _
  have := block_lt f4
  have := hnew b off e1
  omega
end

section
open Go.RowKit

theorem Ext.box2 (M : Nat → Prop) (g : Gh) (w : World) (o1 o2 : Obj) : Ext M g w ((g.box w.heap.size).box (w.heap.size + 1)) ((w.alloc o1).alloc o2) := by
  have h := Ext.box M (g.box w.heap.size) (w.alloc o1) o2
  rw [show (w.alloc o1).heap.size = w.heap.size + 1 from by simp] at h
  exact (Ext.box M g w o1).trans h
def cutJ (J : Jrn) (p k : Nat) (i : Int) : Jrn := if i = 0 then { J with start := p, recs := J.recs.drop k, bytes := J.bytes - lens (J.recs.take k), whole := true } else carryJ i J
end

section
open Go.RowKit

/-- Nothing happened to what there was. -/
def SameP (g : Gh) (w w' : World) : Prop := ∃ g', Ext (fun _ => False) g w g' w'
end

section
section
open Go.RowKit

def jrn0 (name : ByteArray) : Jrn := ⟨name, 0, [], [], 0, false, false⟩
theorem namesOk_of (name : ByteArray) (sfx : List UInt8) (h : nmB false 40 name = true) (hs : sfx.length ≤ 10) (ho : sfx.all (okc true) = true) : nmB true 64 (name ++ ⟨sfx.toArray⟩) = true := by
  unfold nmB at h ⊢
  simp only [Bool.and_eq_true, decide_eq_true_eq] at h ⊢
  obtain ⟨⟨h1, h2⟩, h3⟩ := h
  have hz : (name ++ (⟨sfx.toArray⟩ : ByteArray)).size = name.size + sfx.length := by
    rw [ByteArray.size_append]; rfl
  refine ⟨⟨by omega, by omega⟩, ?_⟩
  have hd : (name ++ (⟨sfx.toArray⟩ : ByteArray)).data.toList = name.data.toList ++ sfx := by
    rw [ByteArray.data_append]; simp
  rw [hd, List.all_append, ho, Bool.and_true, List.all_eq_true]
  intro c hc
  have := (List.all_eq_true.1 h3) c hc
  unfold okc at this ⊢
  simp only [Bool.false_and, Bool.or_false, Bool.true_and] at this ⊢
  rw [this]; rfl
theorem JOk.names {name : ByteArray} (h : nmB false 40 name = true) {J : Jrn} (hn : J.name = name) : J.name.size ≤ 40 ∧ namesOk [J.file] = true ∧ namesOk [J.fresh] = true ∧ namesOk [J.fresh, J.file] = true := by
  subst hn
  have h1 := namesOk_of J.name [46, 108, 111, 103] h (by decide) (by decide)
  have h2 := namesOk_of J.name [46, 110, 101, 119] h (by decide) (by decide)
  refine ⟨?_, ?_, ?_, ?_⟩
  · unfold nmB at h
    simp only [Bool.and_eq_true, decide_eq_true_eq] at h
    exact h.1.2
  · simp only [namesOk, Jrn.file, List.all_cons, List.all_nil, Bool.and_true]; exact h1
  · simp only [namesOk, Jrn.fresh, List.all_cons, List.all_nil, Bool.and_true]; exact h2
  · simp only [namesOk, Jrn.file, Jrn.fresh, List.all_cons, List.all_nil, Bool.and_true, Bool.and_eq_true]; exact ⟨h2, h1⟩
end

section
open Go.RowKit

theorem framesB_len : ∀ (rs : List (List UInt8)), (∀ r ∈ rs, r.length ≤ 65536) → (framesB rs).length ≤ lens rs + 20 * rs.length
  | [], _ => by simp [framesB, lens]
  | r :: rs, h => by
    have h1 := frameB_len r (h r (List.mem_cons_self ..))
    have h2 := framesB_len rs (fun q hq => h q (List.mem_cons_of_mem _ hq))
    simp only [framesB, lens, List.length_append, List.length_cons]
    omega
theorem fileB_len (st : Nat) (hst : st < 9223372036854775808) (rs : List (List UInt8)) (h : ∀ r ∈ rs, r.length ≤ 65536) : (fileB st rs).length ≤ 14 + lens rs + 20 * rs.length := by
  have h1 := framesB_len rs h
  have h2 := encU_len st 10 (Nat.lt_of_lt_of_le hst (by decide)) (by decide)
  unfold fileB
  simp only [List.length_append, List.length_cons, List.length_nil]
  omega

structure Up (D : Dev) : Prop where
  dn : D.down = false
  fu : D.fuse = 0
theorem Up.burnB {D : Dev} (h : Up D) : burnB D = false := by simp [Go.Proofs.YtjjdffafibonhaaGreatDoor.burnB, h.fu]
theorem Up.burnD {D : Dev} (h : Up D) : burnD D = D := by simp [Go.Proofs.YtjjdffafibonhaaGreatDoor.burnD, h.fu]
theorem Up.actI {D : Dev} (h : Up D) : actI D = 0 := by simp [Go.Proofs.YtjjdffafibonhaaGreatDoor.actI, h.dn, doI, h.burnB]
theorem Up.actD {D : Dev} (h : Up D) (o : POp) : actD D o = { D with now := D.now.run o, pend := D.pend ++ [o] } := by
  simp only [Go.Proofs.YtjjdffafibonhaaGreatDoor.actD, h.dn, doD, h.burnB, h.burnD]
  simp
theorem Up.acted {D : Dev} (h : Up D) (f : Fl) (l : List POp) : Up { D with now := f, pend := l } := ⟨h.dn, h.fu⟩
theorem Up.syncI {D : Dev} (h : Up D) : syncI D = 0 := by simp [Go.Proofs.YtjjdffafibonhaaGreatDoor.syncI, h.dn, h.burnB]
theorem Up.syncD {D : Dev} (h : Up D) (hp : D.pend ≠ []) : syncD D = { D with kept := D.now, pend := [] } := by
  simp only [Go.Proofs.YtjjdffafibonhaaGreatDoor.syncD, h.dn, h.burnB, h.burnD]
  simp [hp]

theorem ba_append_inj {a b c : ByteArray} (h : a ++ b = a ++ c) : b.data.toList = c.data.toList := by
  have := congrArg (fun x : ByteArray => x.data.toList) h
  simpa [ByteArray.data_append] using this
theorem Jrn.fresh_ne (J : Jrn) : J.fresh ≠ J.file := fun h => by
  have := ba_append_inj h
  simp at this
theorem Jrn.file_ne (J : Jrn) : J.file ≠ J.fresh := fun h => J.fresh_ne h.symm

def cntF (f : Fl) (k : ByteArray) : Nat := if (f.m k).isSome then 1 else 0

/-- Files once a new file has been written and put in the place of the journal's. -/
theorem Fl.swap (f : Fl) {a b : ByteArray} (hne : a ≠ b) (l : List UInt8) (ha : f.m a = none) (hn : cntF f b ≤ f.n) :
    ((f.put a l).move a b).m = (fun q => if q = a then none else if q = b then some l else f.m q) ∧ ((f.put a l).move a b).n = f.n - cntF f b + 1 := by
  have hg : (f.put a l).get a = l := by simp [Fl.get, Fl.put]
  unfold Fl.move
  rw [if_neg hne, hg]
  constructor
  · funext q
    by_cases h1 : q = a <;> by_cases h2 : q = b <;> simp [Fl.del, Fl.put, h1, h2]
  · have hb : b ≠ a := fun e => hne e.symm
    unfold cntF at *
    cases hfb : f.m b <;> simp [Fl.del, Fl.put, ha, hne, hb, hfb] at *
    omega
theorem Fl.added (f : Fl) {b : ByteArray} (l l0 : List UInt8) (hb : f.m b = some l0) : (f.put b (f.get b ++ l)).m = (fun q => if q = b then some (l0 ++ l) else f.m q) ∧ (f.put b (f.get b ++ l)).n = f.n := by
  have hg : f.get b = l0 := by simp [Fl.get, hb]
  rw [hg]
  simp [Fl.put, hb]

/-- A journal and its device, no failure of power; c other files; at most m records were ever appended. -/
structure Good (J : Jrn) (D : Dev) (c m : Nat) : Prop where
  up : Up D
  pl : D.pend = []
  kp : D.kept = D.now
  nm : nmB false 40 J.name = true
  dead : J.dead = false
  st0 : 0 ≤ J.start
  st1 : J.start + J.recs.length + J.pend.length ≤ m
  rl : ∀ r ∈ J.recs ++ J.pend, r.length ≤ 65536
  cnt : J.recs.length + J.pend.length ≤ 4096
  by' : J.bytes = lens J.recs + lens J.pend
  bx : lens J.recs + lens J.pend ≤ 1048576
  wh : J.whole = true → D.now.m J.file = some (fileB J.start.toNat J.recs)
  nw : J.whole = false → D.now.m J.file = none ∧ J.recs = [] ∧ J.start = 0
  fr : D.now.m J.fresh = none
  nn : D.now.n = c + cntF D.now J.file

section
variable {J : Jrn} {D : Dev} {c m : Nat}
theorem Good.jok (h : Good J D c m) (hm : m ≤ 4611686018427387904) : JOk J := by
  obtain ⟨n0, n1, n2, n3⟩ := JOk.names h.nm (J := J) rfl
  have := h.st1
  have := h.cnt
  exact ⟨n0, n1, n2, n3, h.st0, by omega, h.rl, by rw [List.length_append]; omega⟩

theorem Good.new {D : Dev} (up : Up D) (pl : D.pend = []) (kp : D.kept = D.now) {name : ByteArray} (hn : nmB false 40 name = true) (h1 : D.now.m (jrn0 name).file = none) (h2 : D.now.m (jrn0 name).fresh = none) (m : Nat) : Good (jrn0 name) D D.now.n m :=
  ⟨up, pl, kp, hn, rfl, Int.le_refl _, by simp [jrn0], by simp [jrn0], by simp [jrn0], by simp [jrn0, lens], by simp [jrn0, lens], (fun h => by cases h), fun _ => ⟨h1, rfl, rfl⟩, h2, by simp [cntF, h1]⟩
theorem Good.dev0 {name : ByteArray} (hn : nmB false 40 name = true) (m : Nat) : Good (jrn0 name) dev0 0 m :=
  Good.new ⟨rfl, rfl⟩ rfl rfl hn rfl rfl m

theorem Good.appI (h : Good J D c m) (r : List UInt8) : jappI J r = if 65536 < r.length then 310 else if 4096 ≤ J.recs.length + J.pend.length then 311 else if 1048576 < lens J.recs + lens J.pend + r.length then 311 else 0 := by
  unfold jappI
  rw [h.dead, h.by']
  have h1 : ((4096 : Int) ≤ J.recs.length + J.pend.length) ↔ 4096 ≤ J.recs.length + J.pend.length := by omega
  have h2 : (1048576 < (lens J.recs : Int) + lens J.pend + r.length) ↔ 1048576 < lens J.recs + lens J.pend + r.length := by omega
  simp [h2]
theorem Good.appJ (h : Good J D c m) (r : List UInt8) : Good (jappJ J r) D c (m + 1) := by
  have hst := h.st1
  unfold jappJ
  split
  · rename_i hi
    rw [h.appI] at hi
    split at hi
    · omega
    split at hi
    · omega
    split at hi
    · omega
    rename_i k1 k2 k3
    have hb := h.by'
    refine ⟨h.up, h.pl, h.kp, h.nm, h.dead, h.st0, ?_, ?_, ?_, ?_, ?_, h.wh, h.nw, h.fr, h.nn⟩
    · simp only [List.length_append, List.length_cons, List.length_nil]; omega
    · intro q hq
      simp only [List.mem_append, List.mem_cons, List.not_mem_nil, or_false] at hq
      rcases hq with hq | hq | hq
      · exact h.rl q (List.mem_append_left _ hq)
      · exact h.rl q (List.mem_append_right _ hq)
      · subst hq; omega
    · simp only [List.length_append, List.length_cons, List.length_nil]; omega
    · simp only [lens_append, lens]; omega
    · simp only [lens_append, lens]; omega
  · exact ⟨h.up, h.pl, h.kp, h.nm, h.dead, h.st0, by omega, h.rl, h.cnt, h.by', h.bx, h.wh, h.nw, h.fr, h.nn⟩
theorem Good.more (h : Good J D c m) {m' : Nat} (hm : m ≤ m') : Good J D c m' := by
  have hst := h.st1
  exact ⟨h.up, h.pl, h.kp, h.nm, h.dead, h.st0, by omega, h.rl, h.cnt, h.by', h.bx, h.wh, h.nw, h.fr, h.nn⟩
theorem Good.discard (h : Good J D c m) : disJ J = { J with pend := [], bytes := lens J.recs } ∧ Good { J with pend := [], bytes := lens J.recs } D c m := by
  have hst := h.st1
  have hb := h.by'
  have := h.cnt
  have := h.bx
  constructor
  · unfold disJ
    rw [h.dead, hb]
    simp
  · refine ⟨h.up, h.pl, h.kp, h.nm, h.dead, h.st0, ?_, ?_, ?_, ?_, ?_, h.wh, h.nw, h.fr, h.nn⟩
    · simp only [List.length_nil]; omega
    · intro q hq
      rw [List.append_nil] at hq
      exact h.rl q (List.mem_append_left _ hq)
    · simp only [List.length_nil]; omega
    · simp [lens]
    · simp only [lens]; omega

/-- The device once a file has been changed and synced. -/
def synced (D : Dev) (f : Fl) : Dev := { D with kept := f, now := f, pend := [] }
theorem two_steps {D : Dev} (h : Up D) (_hp : D.pend = []) (o : POp) : syncD (actD D o) = synced D (D.now.run o) := by
  rw [h.actD, (h.acted _ _).syncD (by simp)]
  rfl
theorem three_steps {D : Dev} (h : Up D) (_hp : D.pend = []) (o o' : POp) : syncD (actD (actD D o) o') = synced D ((D.now.run o).run o') := by
  rw [h.actD, (h.acted _ _).actD, (h.acted _ _).syncD (by simp)]
  rfl

theorem carry2 {s1 s2 : CStep} {D : Dev} (h1 : s1.i D = 0) (h2 : s2.i (s1.act D) = 0) : carryI [s1, s2] D = 0 ∧ carryD [s1, s2] D = s2.act (s1.act D) := by
  simp [carryI, carryD, h1, h2]
theorem carry3 {s1 s2 s3 : CStep} {D : Dev} (h1 : s1.i D = 0) (h2 : s2.i (s1.act D) = 0) (h3 : s3.i (s2.act (s1.act D)) = 0) : carryI [s1, s2, s3] D = 0 ∧ carryD [s1, s2, s3] D = s3.act (s2.act (s1.act D)) := by
  simp [carryI, carryD, h1, h2, h3]
theorem Up.act {D : Dev} (h : Up D) (o : POp) : Up (Go.Proofs.YtjjdffafibonhaaGreatDoor.actD D o) := by rw [h.actD]; exact h.acted _ _

end
end
end

section
open Go.RowKit

section
def comR (J : Jrn) : Jrn := { J with recs := J.recs ++ J.pend, pend := [], whole := J.whole || !J.pend.isEmpty }
def cutI (J : Jrn) (p : Int) : Int := if p < J.start ∨ J.start + J.recs.length < p then 312 else 0
def cutR (J : Jrn) (p : Int) : Jrn := if p ≤ J.start ∨ J.start + J.recs.length < p then J else { J with start := p, recs := J.recs.drop (p - J.start).toNat, bytes := J.bytes - lens (J.recs.take (p - J.start).toNat), whole := true }
end

def disR (J : Jrn) : Jrn := { J with pend := [], bytes := lens J.recs }
theorem gnew (g : Gh) (w : World) : Calls Tryz.prog 11 #[] w fun e w' => ∃ d g', e = .returned (.pointer (some ⟨d, 0, none⟩)) ∧ w.heap.size ≤ d ∧ Ext (fun _ => False) g w g' w' ∧ DevAt g' w' d dev0 := by
  refine (new_any g w).mono ?_
  rintro e w' ⟨d, g', h1, h2, h3, h4, h5, h6⟩
  exact ⟨d, g', h1, h2, (Ext.of_below (fun _ => False) g h3).up h4 h5, h6⟩
end

section
open Go.RowKit

theorem Ext.litB (M : Nat → Prop) (g : Gh) (w : World) (l : List UInt8) (fr : Nat × Nat) : Ext M g w (g.lit w.heap.size l.length) (w.alloc (.cells (bv l).toArray 5 fr)) := Ext.lit M g w _ _
set_option maxRecDepth 100000 in
theorem BytesAt.lit (g : Gh) (w : World) (l : List UInt8) (fr : Nat × Nat) (hl : l.length ≤ 1000) : BytesAt (g.lit w.heap.size l.length) (w.alloc (.cells (bv l).toArray 5 fr)) (.slice (some ⟨w.heap.size, 0, none⟩) l.length l.length) l := by
  have h := App.lit g w (bv l) 5 fr l.length 0 (bv_len l) (by unfold maxLen; omega)
  exact BytesAt.of_new h
set_option maxRecDepth 100000 in
theorem BytesAt.str {g : Gh} {w : World} {A : Option Addr} {n c : Nat} {l : List UInt8} (h : BytesAt g w (.slice A n c) l) : (convert 30 9 (.slice A n c)).run Tryz.prog w = .ok (.string ⟨l.toArray⟩) w := by
  obtain ⟨A', cap, he, _, _, hz, hr⟩ := h.ex
  injection he with e1 e2 e3
  subst e1 e2 e3
  cases A with
  | none =>
    have h0 := hz rfl
    have hl : l = [] := List.eq_nil_of_length_eq_zero h0
    subst hl
    rw [run_convert_bytes_string w _ _ _ _ _ _ Tryz.underlying30 Tryz.underlying5 Tryz.underlying9]
    rfl
  | some a =>
    refine run_convert_bytes_back w _ _ _ a c l Tryz.underlying30 Tryz.underlying5 Tryz.underlying9 (fun k hk => ?_)
    obtain ⟨b, off, hA, _, _, hc⟩ := hr.at_ (by omega)
    injection hA with hA
    subst hA
    rw [add_lit]
    exact hc k _ (bv_get hk)

def gh0 : Gh := ⟨fun _ => 0, fun b => b⟩
theorem Ext.fin {g' : Gh} {w w' : World} (h : Ext (fun o => w.heap.size ≤ o) gh0 w g' w') : Below w.heap.size w w' :=
  h.to_below (Nat.le_refl _) (fun b hb => by show ¬ w.heap.size ≤ b; omega)
end

section
open Go.RowKit

def foldI (v n : Int) : Int := if n ≤ 1 then 0 else v % n
theorem foldI_lt {v n : Int} (h : 1 ≤ n) : 0 ≤ foldI v n ∧ foldI v n < n := by
  unfold foldI
  split
  · omega
  · exact ⟨Int.emod_nonneg _ (by omega), Int.emod_lt_of_pos _ (by omega)⟩
theorem tmod_neg {v n : Int} (hn : 0 < n) (h : v.tmod n < 0) : v.tmod n + n = v % n := by
  have h0 : v < 0 := by
    rcases Int.lt_or_le v 0 with h1 | h1
    · exact h1
    · have := Int.tmod_nonneg n h1
      omega
  have e1 : v.tmod n = -((-v) % n) := by
    have h2 := Int.tmod_eq_emod_of_nonneg (a := -v) (b := n) (by omega)
    rw [Int.neg_tmod] at h2
    omega
  have r0 := Int.emod_nonneg (-v) (show n ≠ 0 by omega)
  have r1 := Int.emod_lt_of_pos (-v) hn
  have e2 := Int.mul_ediv_add_emod (-v) n
  rw [e1] at h ⊢
  have e3 : v = (n - (-v) % n) + n * (-((-v) / n) - 1) := by
    rw [Int.mul_sub, Int.mul_neg, Int.mul_one]; omega
  have e4 : v % n = (n - (-v) % n) % n := by
    conv => lhs; rw [e3]
    rw [Int.add_mul_emod_self_left]
  rw [e4, Int.emod_eq_of_lt (a := n - (-v) % n) (b := n) (by omega) (by omega)]
  omega
theorem tmod_pos {v n : Int} (hn : 0 < n) (h : ¬ v.tmod n < 0) : v.tmod n = v % n := by
  rcases Int.lt_or_le v 0 with h1 | h1
  · have e1 : v.tmod n = -((-v) % n) := by
      have h2 := Int.tmod_eq_emod_of_nonneg (a := -v) (b := n) (by omega)
      rw [Int.neg_tmod] at h2
      omega
    have r0 := Int.emod_nonneg (-v) (show n ≠ 0 by omega)
    have r2 : (-v) % n = 0 := by omega
    have : n ∣ v := by
      have := Int.dvd_of_emod_eq_zero r2
      exact (Int.dvd_neg.1 this)
    rw [Int.emod_eq_zero_of_dvd this]
    omega
  · exact Int.tmod_eq_emod_of_nonneg h1
set_option maxRecDepth 100000 in
theorem fold_any (v n : Int) (w : World) (_hv : -9223372036854775808 ≤ v) (_hv2 : v ≤ 9223372036854775807) (hn : n ≤ 4611686018427387904) : Calls Tryz.prog 13 #[.int .i64 v, .int .i64 n] w fun e w' => e = .returned (.int .i64 (foldI v n)) ∧ w = w' := by
  by_cases h1 : n ≤ 1
  · have HF : Hid (foldI v n = 0) := by show _ = _; simp [foldI, h1]
    rw [HF.out]
    go_enter Tryz.func13, Tryz.ntmps13
    go_wp2_with fail
    go_ret
    exact ⟨rfl, rfl⟩
  have HF : Hid (foldI v n = v % n) := by show _ = _; simp [foldI, h1]
  have hb1 : v.tmod n < n := Int.tmod_lt_of_pos v (by omega)
  have hb2 : -n < v.tmod n := Int.lt_tmod_of_pos v (by omega)
  rw [HF.out]
  by_cases h2 : v.tmod n < 0
  · have HE := Lib.hid (tmod_neg (by omega) h2)
    go_enter Tryz.func13, Tryz.ntmps13
    go_wp2_with fail
    go_ret
    exact ⟨ret_int HE.out, rfl⟩
  · have HE := Lib.hid (tmod_pos (by omega) h2)
    go_enter Tryz.func13, Tryz.ntmps13
    go_wp2_with fail
    go_ret
    exact ⟨ret_int HE.out, rfl⟩

theorem made_zeros (n : Nat) : madeCells #[.int .u8 0] n = (bv (List.replicate n 0)).toArray := by
  apply Array.ext
  · simp [madeCells, bv]
  · intro i h1 h2
    simp [madeCells, bv, u8v, Nat.mod_one]
/-- make([]byte, n). -/
theorem make_zeros (n : Nat) (hn : n ≤ 100000) : ∃ zs : List UInt8, zs.length = n ∧ ∀ w, (Instr.makeSlice 30 (.int .i64 (n : Int)) (.int .i64 (n : Int))).run Tryz.prog w = .ok (.slice (some ⟨w.heap.size, 0, none⟩) n n) (w.alloc (.cells (bv zs).toArray 5)) := by
  obtain ⟨i0, hi, hz0, hz1, hz2⟩ := info_parts Tryz.infoU8
  refine ⟨List.replicate n 0, by simp, fun w => ?_⟩
  have := run_make (P := Tryz.prog) w 30 5 i0 (.int .u8 0) Tryz.underlying30 hi hz0 .i64 .i64 (n : Int) (n : Int) (by omega) (by omega) (by rw [hz2]; omega) (by omega)
  rw [hz1] at this
  simpa [Value.cells, made_zeros] using this
theorem BytesAt.litN (g : Gh) (w : World) (l : List UInt8) (n : Nat) (fr : Nat × Nat) (hn : l.length = n) (hl : n ≤ 100000) : BytesAt (g.lit w.heap.size n) (w.alloc (.cells (bv l).toArray 5 fr)) (.slice (some ⟨w.heap.size, 0, none⟩) n n) l := by
  subst hn
  have h := App.lit g w (bv l) 5 fr l.length 0 (bv_len l) (by simp only [maxLen]; omega)
  exact BytesAt.of_new h
end

section
open Go.RowKit

theorem enc_read (v : Nat) (hv : v < 18446744073709551616) (r : List UInt8) : decU 0 0 (encU v ++ r) = (v, (encU v).length, 0) := by
  have := dec_enc v 0 0 r (by omega) (by simpa using hv) (by omega)
  simpa using this
theorem sumF_nat (r : List UInt8) : (((sumF r).toNat : Nat) : Int) = sumF r ∧ (sumF r).toNat < 18446744073709551616 := by
  have := sumF_bd r
  omega
theorem frame_read {L : List UInt8} {at_ : Nat} {r rest : List UInt8} (h : L.drop at_ = frameB r ++ rest) (hl : r.length ≤ 65536) :
    decU 0 0 (L.drop at_) = (r.length, (encU r.length).length, 0) ∧ decU 0 0 (L.drop (at_ + (encU r.length).length)) = ((sumF r).toNat, (encU (sumF r).toNat).length, 0) ∧
    (L.drop (at_ + (encU r.length).length + (encU (sumF r).toNat).length)).take r.length = r ∧ at_ + (encU r.length).length + (encU (sumF r).toNat).length + r.length + rest.length = L.length ∧ at_ < L.length := by
  have hs := (sumF_nat r).2
  have p := encU_pos r.length
  have h1 : L.drop at_ = encU r.length ++ (encU (sumF r).toNat ++ (r ++ rest)) := by rw [h, frameB]; simp
  have h2 : L.drop (at_ + (encU r.length).length) = encU (sumF r).toNat ++ (r ++ rest) := by
    rw [← List.drop_drop, h1, List.drop_left]
  have h3 : L.drop (at_ + (encU r.length).length + (encU (sumF r).toNat).length) = r ++ rest := by
    rw [← List.drop_drop, h2, List.drop_left]
  have hlen := congrArg List.length h1
  simp only [List.length_drop, List.length_append] at hlen
  refine ⟨?_, ?_, ?_, by omega, by omega⟩
  · rw [h1]; exact enc_read _ (by omega) _
  · rw [h2]; exact enc_read _ hs _
  · rw [h3, List.take_left]

/-- A frame of which the end lacks. -/
def Torn (t : List UInt8) : Prop := ∃ r : List UInt8, r.length ≤ 65536 ∧ t <+: frameB r ∧ t ≠ frameB r
theorem Torn.nil : Torn [] := ⟨[], by simp, List.nil_prefix, fun h => by
  have h1 := congrArg List.length h
  have h2 := encU_pos 0
  simp [frameB] at h1
  omega⟩
theorem prefix_split {a b t : List UInt8} (h : t <+: a ++ b) : (t <+: a ∧ t ≠ a) ∨ ∃ t2, t = a ++ t2 ∧ t2 <+: b := by
  rcases Nat.lt_or_ge t.length a.length with hl | hl
  · left
    refine ⟨List.prefix_of_prefix_length_le h (List.prefix_append a b) (by omega), fun e => ?_⟩
    rw [e] at hl; omega
  · right
    have h2 : a <+: t := List.prefix_of_prefix_length_le (List.prefix_append a b) h hl
    obtain ⟨t2, rfl⟩ := h2
    exact ⟨t2, rfl, (List.prefix_append_right_inj a).1 h⟩
theorem torn_read {t : List UInt8} (h : Torn t) : decU 0 0 t = (0, 0, 11) ∨ ∃ rl e1 : Nat, rl ≤ 65536 ∧ decU 0 0 t = (rl, e1, 0) ∧ e1 ≤ t.length ∧ (decU 0 0 (t.drop e1) = (0, 0, 11) ∨
    ∃ s e2 : Nat, s < 18446744073709551616 ∧ decU 0 0 (t.drop e1) = (s, e2, 0) ∧ e1 + e2 ≤ t.length ∧ t.length < e1 + e2 + rl) := by
  obtain ⟨r, hl, hp, hne⟩ := h
  have hs := (sumF_nat r).2
  have hf : frameB r = encU r.length ++ (encU (sumF r).toNat ++ r) := by simp [frameB]
  rw [hf] at hp hne
  rcases prefix_split hp with ⟨h1, h2⟩ | ⟨t2, rfl, h1⟩
  · left
    exact dec_short r.length 0 0 t (by omega) (by omega) h1 h2
  right
  refine ⟨r.length, (encU r.length).length, hl, enc_read _ (by omega) _, by simp, ?_⟩
  rw [List.drop_left]
  rcases prefix_split h1 with ⟨h1, h2⟩ | ⟨t3, rfl, h3⟩
  · left
    exact dec_short (sumF r).toNat 0 0 t2 (by omega) (by omega) h1 h2
  right
  refine ⟨(sumF r).toNat, (encU (sumF r).toNat).length, hs, enc_read _ hs _, by simp, ?_⟩
  have hle := h3.length_le
  have : t3.length ≠ r.length := fun e => by
    have := h3.eq_of_length e
    rw [this] at hne
    exact hne rfl
  simp only [List.length_append]
  omega
theorem torn_at {L t : List UInt8} {at_ : Nat} (h : L.drop at_ = t) (ht : Torn t) (hlt : at_ ≤ L.length) : L.length = at_ + t.length ∧ (decU 0 0 (L.drop at_) = (0, 0, 11) ∨ ∃ rl e1 : Nat, rl ≤ 65536 ∧ decU 0 0 (L.drop at_) = (rl, e1, 0) ∧ at_ + e1 ≤ L.length ∧ (decU 0 0 (L.drop (at_ + e1)) = (0, 0, 11) ∨
    ∃ s e2 : Nat, s < 18446744073709551616 ∧ decU 0 0 (L.drop (at_ + e1)) = (s, e2, 0) ∧ at_ + e1 + e2 ≤ L.length ∧ L.length < at_ + e1 + e2 + rl)) := by
  have hlen := congrArg List.length h
  rw [List.length_drop] at hlen
  refine ⟨by omega, ?_⟩
  rcases torn_read ht with h1 | ⟨rl, e1, a1, a2, a3, a4⟩
  · left; rw [h]; exact h1
  right
  refine ⟨rl, e1, a1, by rw [h]; exact a2, by omega, ?_⟩
  rw [← List.drop_drop, h]
  rcases a4 with a4 | ⟨s, e2, b1, b2, b3, b4⟩
  · exact .inl a4
  · exact .inr ⟨s, e2, b1, b2, by omega, by omega⟩

/-- The bytes of a journal's file, as they are read: frame after frame. -/
theorem file_drop (st : Nat) (rs : List (List UInt8)) (t : List UInt8) (k : Nat) (hk : k < rs.length) : (fileB st rs ++ t).drop (fileB st (rs.take k)).length = frameB rs[k] ++ (framesB (rs.drop (k + 1)) ++ t) := by
  have h1 : rs = rs.take k ++ rs[k] :: rs.drop (k + 1) := by
    rw [List.getElem_cons_drop, List.take_append_drop]
  have h2 : fileB st rs = fileB st (rs.take k) ++ (frameB rs[k] ++ framesB (rs.drop (k + 1))) := by
    conv => lhs; rw [h1]
    unfold fileB
    rw [framesB_append]
    simp only [framesB, List.append_assoc]
  rw [h2, List.append_assoc, List.drop_left, List.append_assoc]
theorem file_end (st : Nat) (rs : List (List UInt8)) (t : List UInt8) : (fileB st rs ++ t).drop (fileB st rs).length = t := List.drop_left ..
theorem file_next (st : Nat) (rs : List (List UInt8)) (k : Nat) (hk : k < rs.length) : (fileB st (rs.take (k + 1))).length = (fileB st (rs.take k)).length + (encU rs[k].length).length + (encU (sumF rs[k]).toNat).length + rs[k].length := by
  rw [fileB_snoc st hk, List.length_append, frameB]
  simp only [List.length_append]
  omega
theorem file_start (st : Nat) (hst : st < 18446744073709551616) (rs : List (List UInt8)) (t : List UInt8) : decU 0 0 ((fileB st rs ++ t).drop 4) = (st, (encU st).length, 0) ∧ 4 + (encU st).length = (fileB st (rs.take 0)).length ∧ 4 ≤ (fileB st rs ++ t).length ∧ (fileB st rs ++ t).take 4 = [83, 89, 74, 76] := by
  refine ⟨?_, ?_, ?_, ?_⟩
  · have : (fileB st rs ++ t).drop 4 = encU st ++ (framesB rs ++ t) := by simp [fileB]
    rw [this]
    exact enc_read st hst _
  · simp [fileB, framesB]; omega
  · simp [fileB]
  · simp [fileB]
end

section
section
open Go.RowKit

theorem BytesAt.take {g : Gh} {w : World} {A : Option Addr} {n c : Nat} {l : List UInt8} (h : BytesAt g w (.slice A n c) l) {k : Nat} (hk : k ≤ n) : BytesAt g w (.slice A k c) (l.take k) := by
  obtain ⟨A', cap, he, h1, h2, hz, hr⟩ := h.ex
  injection he with e1 e2 e3
  subst e1 e2 e3
  have hc := hr.cut (l := 0) (k := k) (m := l.length) (by omega) (by omega)
  rw [cutA_zero] at hc
  simp only [List.drop_zero, Nat.mul_one, bv_take] at hc
  have hlen : (l.take k).length = k := by rw [List.length_take]; omega
  refine ⟨A, c, by rw [hlen], by omega, h2, fun e => by rw [hlen]; have := hz e; omega, ?_⟩
  rw [hlen]; exact hc

set_option maxRecDepth 100000 in
theorem equal_any (g : Gh) (w : World) (A B : Option Addr) (n m c c' : Nat) (l : List UInt8) (h1 : BytesAt g w (.slice A n c) l) (h2 : BytesAt g w (.slice B m c') l) :
    Calls Tryz.prog 128 #[.slice A n c, .slice B m c'] w fun e w' => e = .returned (.bool true) ∧ ∃ k, w' = w.drewN k := by
  have s1 := h1.str
  have s2 := h2.str
  go_enter Tryz.func128, Tryz.ntmps128
  go_wp2_with fail
  (try go_quiet (fail))
  (try go_wp2_with fail)
  go_ret
  first | exact ⟨rfl, 0, rfl⟩ | exact ⟨rfl, nq, rfl⟩

set_option maxRecDepth 100000 in
theorem bytesPrefix_any (g : Gh) (w : World) (A B : Option Addr) (n c c' : Nat) (l M : List UInt8) (h1 : BytesAt g w (.slice A n c) l) (h2 : BytesAt g w (.slice B 4 c') M) (hn : 4 ≤ n) (hm : l.take 4 = M) :
    Calls Tryz.prog 97 #[.slice A n c, .slice B 4 c'] w fun e w' => e = .returned (.bool true) ∧ ∃ k, w' = w.drewN k := by
  obtain ⟨i0, hi, hz0, hz1, hz2⟩ := info_parts Tryz.infoU8
  have hnc : n ≤ c := by
    obtain ⟨A', cap, he, q1, q2, hz, hr⟩ := h1.ex
    injection he with e1 e2 e3
    omega
  have hcut := run_cut_h (P := Tryz.prog) Tryz.underlying30 hi A n c 4 (by omega)
  have H1 := Lib.hid (h1.take hn)
  have H2 := Lib.hid h2
  rw [hm] at H1
  clear h1 h2 hm
  go_enter Tryz.func97, Tryz.ntmps97
  go_wp2_with fail
  refine (equal_any g w A B 4 4 c c' M H1.out H2.out).mono ?_
  rintro e w' ⟨rfl, k, rfl⟩
  go_wp2_with fail
  go_ret
  exact ⟨rfl, k, rfl⟩

/-- The durable records grow by one. -/
theorem JIn.recd {g g3 : Gh} {w w3 : World} {j : Nat} {A1 A2 A3 : Option Addr} {c1 c2 c3 : Nat} {v1 v2 : List Value} {nv : Value} {J : Jrn} {r : List UInt8} (h : JIn g w j A1 c1 v1 A2 c2 v2 J) (hp : J.pend = []) (hj : j < w.heap.size) (hx : Ext (· = j) g w g3 w3) (ha : App 30 1 j g3 w3 A3 (J.recs.length + 1) c3 (v1 ++ [nv])) (hl : Lies g w A1 J.recs.length c1 g3 w3 A3 c3) (hq : BytesAt g w nv r) (J' : Jrn) (h1 : J'.recs = J.recs ++ [r]) (h2 : J'.pend = []) :
    JIn g3 w3 j A3 c3 (v1 ++ [nv]) A2 c2 v2 J' ∧ w3.heap[j]? = w.heap[j]? := by
  have hjf := hl.far j hj (fun hlt off he => h.r1.not_self h.F (by decide) hlt he rfl)
  have hr2 := h.r2
  have hq2 := h.q2
  rw [hp] at hr2 hq2
  have hc2 : ¬ 0 < c2 := fun hlt => absurd (hr2.sp hlt).1 (Nat.lt_irrefl _)
  refine ⟨⟨?_, ?_, ?_, ?_, ?_, (hx.own j hj).trans h.O, hjf.2.trans h.F⟩, hjf.1⟩
  · rw [h1, List.length_append]; exact ha
  · rw [h1]; exact (h.q1.append (vs' := [nv]) (rs' := [r]) ⟨hq, trivial⟩).ext hx
  · rw [h2]; exact hr2.ext' hx (fun _ _ _ _ hlt => absurd hlt hc2)
  · rw [h2]; exact hq2.ext hx
  · intro _ hlt
    rw [h2] at hlt
    exact absurd hlt hc2

/-- What recover makes of a file. -/
def recJ (name : ByteArray) (st : Nat) (rs : List (List UInt8)) (wh : Bool) : Jrn := ⟨name, st, rs, [], lens rs, wh, false⟩
theorem UintP.ok {l : List UInt8} {at_ v n n1 : Nat} {w w' : World} {e : Ending} (h : UintP l at_ w e w') (hd : decU 0 0 (l.drop at_) = (v, n, 0)) (hn : at_ + n = n1) : e = .returned (.tuple #[.int .u64 (v : Int), .int .i64 (n1 : Int), .int .i64 0]) ∧ w = w' := by
  subst hn
  unfold UintP at h
  rw [hd] at h
  exact h
theorem UintP.bad {l : List UInt8} {at_ : Nat} {w w' : World} {e : Ending} (h : UintP l at_ w e w') (hd : decU 0 0 (l.drop at_) = (0, 0, 11)) : e = .returned (.tuple #[.int .u64 0, .int .i64 0, .int .i64 11]) ∧ w = w' := by
  unfold UintP at h
  rw [hd] at h
  exact h

end

section
open Go.RowKit

end
end

end Go.Proofs.YtjjdffafibonhaaGreatDoor
