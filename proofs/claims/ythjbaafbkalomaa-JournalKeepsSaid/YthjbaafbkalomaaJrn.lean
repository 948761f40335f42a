/-
  The journal in memory; its small functions; the frame of a record.
-/
import Derived.Test.YthjbaafbkalomaaDev4
import Derived.Test.YthjbaafbkalomaaSum
namespace Go.Proofs.Ythjbaafbkalomaa
open Go.RowKit

/-- The cells of a list of byte strings. -/
def RecsR (g : Gh) (w : World) : List Value → List (List UInt8) → Prop
  | [], [] => True
  | v :: vs, r :: rs => BytesAt g w v r ∧ RecsR g w vs rs
  | _, _ => False
theorem RecsR.ext {g g' : Gh} {w w' : World} {M : Nat → Prop} (hx : Ext M g w g' w') : ∀ {vs : List Value} {rs : List (List UInt8)}, RecsR g w vs rs → RecsR g' w' vs rs
  | [], [], _ => trivial
  | _ :: _, _ :: _, ⟨h1, h2⟩ => ⟨h1.ext hx, RecsR.ext hx h2⟩
theorem RecsR.len {g : Gh} {w : World} : ∀ {vs : List Value} {rs : List (List UInt8)}, RecsR g w vs rs → vs.length = rs.length
  | [], [], _ => rfl
  | _ :: _, _ :: _, ⟨_, h2⟩ => by simp [RecsR.len h2]
theorem RecsR.append {g : Gh} {w : World} : ∀ {vs : List Value} {rs : List (List UInt8)}, RecsR g w vs rs → ∀ {vs' : List Value} {rs' : List (List UInt8)}, RecsR g w vs' rs' → RecsR g w (vs ++ vs') (rs ++ rs')
  | [], [], _, _, _, h => h
  | _ :: _, _ :: _, ⟨h1, h2⟩, _, _, h => ⟨h1, RecsR.append h2 h⟩
theorem RecsR.get {g : Gh} {w : World} : ∀ {vs : List Value} {rs : List (List UInt8)}, RecsR g w vs rs → ∀ {k : Nat} (hk : k < rs.length), ∃ v, vs[k]? = some v ∧ BytesAt g w v rs[k]
  | [], [], _, _, hk => by simp at hk
  | _ :: _, _ :: _, ⟨h1, _⟩, 0, _ => ⟨_, rfl, h1⟩
  | _ :: _, _ :: _, ⟨_, h2⟩, k + 1, hk => by
    obtain ⟨v, h3, h4⟩ := RecsR.get h2 (k := k) (by simpa using hk)
    exact ⟨v, by simpa using h3, by simpa using h4⟩
theorem RecsR.drop {g : Gh} {w : World} : ∀ {vs : List Value} {rs : List (List UInt8)}, RecsR g w vs rs → ∀ k, RecsR g w (vs.drop k) (rs.drop k)
  | [], [], _, k => by simp [RecsR]
  | _ :: _, _ :: _, ⟨h1, h2⟩, 0 => ⟨h1, h2⟩
  | _ :: _, _ :: _, ⟨_, h2⟩, k + 1 => by simpa using RecsR.drop h2 k
theorem RecsR.one {g : Gh} {w : World} : ∀ {vs : List Value} {rs : List (List UInt8)}, RecsR g w vs rs → ∀ u ∈ vs, u.oneCell' = true
  | [], [], _, _, h => by cases h
  | _ :: _, _ :: _, ⟨h1, h2⟩, u, h => by
    rcases List.mem_cons.1 h with rfl | h
    · obtain ⟨A, cap, rfl, _⟩ := h1.ex
      rfl
    · exact RecsR.one h2 u h

structure Jrn where
  name : ByteArray
  start : Int
  recs : List (List UInt8)
  pend : List (List UInt8)
  bytes : Int
  whole : Bool
  dead : Bool
structure JIn (g : Gh) (w : World) (j : Nat) (A1 : Option Addr) (c1 : Nat) (v1 : List Value) (A2 : Option Addr) (c2 : Nat) (v2 : List Value) (J : Jrn) : Prop where
  r1 : App 37 1 j g w A1 J.recs.length c1 v1
  q1 : RecsR g w v1 J.recs
  r2 : App 37 1 j g w A2 J.pend.length c2 v2
  q2 : RecsR g w v2 J.pend
  ne : J.recs.length < c1 → J.pend.length < c2 → ∀ b off b' off', A1 = some ⟨b, off, none⟩ → A2 = some ⟨b', off', none⟩ → b ≠ b'
  O : g.O j = j
  F : g.F j = 0
def jCs (d : Nat) (A1 : Option Addr) (c1 : Nat) (A2 : Option Addr) (c2 : Nat) (J : Jrn) : List Value := [.pointer (some ⟨d, 0, none⟩), .string J.name, .int .i64 J.start, .slice A1 J.recs.length c1, .slice A2 J.pend.length c2, .int .i64 J.bytes, .bool J.whole, .bool J.dead]
def JAt (g : Gh) (w : World) (j d : Nat) (J : Jrn) : Prop := ∃ A1 c1 v1 A2 c2 v2, Blk j 66 (jCs d A1 c1 A2 c2 J) w ∧ JIn g w j A1 c1 v1 A2 c2 v2 J
theorem JIn.ext {g g' : Gh} {w w' : World} {j : Nat} {A1 A2 : Option Addr} {c1 c2 : Nat} {v1 v2 : List Value} {J : Jrn} {M : Nat → Prop} (h : JIn g w j A1 c1 v1 A2 c2 v2 J) (hx : Ext M g w g' w') (hm : ¬ M j) (hj : j < w.heap.size) : JIn g' w' j A1 c1 v1 A2 c2 v2 J :=
  ⟨h.r1.ext hx hm, h.q1.ext hx, h.r2.ext hx hm, h.q2.ext hx, h.ne, (hx.own j hj).trans h.O, hx.zero j hj h.F⟩
theorem JAt.ext {g g' : Gh} {w w' : World} {j d : Nat} {J : Jrn} {M : Nat → Prop} (h : JAt g w j d J) (hx : Ext M g w g' w') (hm : ¬ M j) : JAt g' w' j d J := by
  obtain ⟨A1, c1, v1, A2, c2, v2, hb, hi⟩ := h
  exact ⟨A1, c1, v1, A2, c2, v2, hb.ext hx (by rw [hi.O]; exact hm), hi.ext hx hm hb.lt⟩
theorem JAt.lt {g : Gh} {w : World} {j d : Nat} {J : Jrn} (h : JAt g w j d J) : j < w.heap.size := by
  obtain ⟨A1, c1, v1, A2, c2, v2, hb, hi⟩ := h
  exact hb.lt
/-- A row of a slice with room is not block j itself. -/
theorem App.not_self {e : TypeId} {sz o : Nat} {g : Gh} {w : World} {A : Option Addr} {n cap : Nat} {xs : List Value} (h : App e sz o g w A n cap xs) {j : Nat} (hF : g.F j = 0) (hsz : 0 < sz) (hlt : n < cap) {b off : Nat} (hA : A = some ⟨b, off, none⟩) : b ≠ j := fun e => by
  obtain ⟨h0, b2, cs, f1, _, f3, _⟩ := h.sp hlt
  rw [hA] at f1; injection f1 with f1; injection f1 with f1 _
  rw [← f1, e, hF] at f3
  have := Nat.mul_pos h0 hsz
  omega
/-- Only the journal's own block is written. -/
theorem JIn.self {g : Gh} {w w' : World} {j : Nat} {A1 A2 : Option Addr} {c1 c2 : Nat} {v1 v2 : List Value} {J : Jrn} (h : JIn g w j A1 c1 v1 A2 c2 v2 J) (hg : w.grownBy w' (some j)) : Ext (· = j) g w g w' ∧ JIn g w' j A1 c1 v1 A2 c2 v2 J := by
  have hx : Ext (· = j) g w g w' := (Ext.refl (· = j) g w).one hg (fun _ => h.O) h.F
  refine ⟨hx, h.r1.ext' hx (fun b off hA hb hlt => ⟨hg.block b hb (fun e => h.r1.not_self h.F (by decide) hlt hA (by injection e)), rfl⟩), h.q1.ext hx, h.r2.ext' hx (fun b off hA hb hlt => ⟨hg.block b hb (fun e => h.r2.not_self h.F (by decide) hlt hA (by injection e)), rfl⟩), h.q2.ext hx, h.ne, h.O, h.F⟩

section
variable (j d : Nat) (g : Gh) (w : World) (J : Jrn) (hJ : JAt g w j d J)
include hJ
set_option maxRecDepth 100000 in
theorem jstart_any : Calls Try.prog 29 #[.pointer (some ⟨j, 0, none⟩)] w fun e w' => e = .returned (.int .i64 J.start) ∧ w = w' := by
  obtain ⟨A1, c1, v1, A2, c2, v2, hb, hi⟩ := hJ
  have c : w.cell? ⟨j, 2, none⟩ = some (.int .i64 J.start) := hb.cell 2
  clear hb hi
  go_enter Try.func29, Try.ntmps29
  go_wp2_with fail
  go_ret
  exact ⟨rfl, rfl⟩
set_option maxRecDepth 100000 in
theorem jdead_any : Calls Try.prog 16 #[.pointer (some ⟨j, 0, none⟩)] w fun e w' => e = .returned (.bool J.dead) ∧ w = w' := by
  obtain ⟨A1, c1, v1, A2, c2, v2, hb, hi⟩ := hJ
  have c : w.cell? ⟨j, 7, none⟩ = some (.bool J.dead) := hb.cell 7
  clear hb hi
  go_enter Try.func16, Try.ntmps16
  go_wp2_with fail
  go_ret
  exact ⟨rfl, rfl⟩
set_option maxRecDepth 100000 in
theorem jpending_any : Calls Try.prog 23 #[.pointer (some ⟨j, 0, none⟩)] w fun e w' => e = .returned (.int .i64 J.pend.length) ∧ w = w' := by
  obtain ⟨A1, c1, v1, A2, c2, v2, hb, hi⟩ := hJ
  have c : w.cell? ⟨j, 4, none⟩ = some (.slice A2 J.pend.length c2) := hb.cell 4
  clear hb hi
  go_enter Try.func23, Try.ntmps23
  go_wp2_with fail
  go_ret
  exact ⟨rfl, rfl⟩
set_option maxRecDepth 100000 in
theorem jend_any (h0 : 0 ≤ J.start) (h1 : J.start ≤ 4611686018427387904) (h2 : J.recs.length ≤ 1000000) : Calls Try.prog 30 #[.pointer (some ⟨j, 0, none⟩)] w fun e w' => e = .returned (.int .i64 (J.start + J.recs.length)) ∧ ∃ n, w' = w.drewN n := by
  obtain ⟨A1, c1, v1, A2, c2, v2, hb, hi⟩ := hJ
  have c : w.cell? ⟨j, 2, none⟩ = some (.int .i64 J.start) := hb.cell 2
  have c' : w.cell? ⟨j, 3, none⟩ = some (.slice A1 J.recs.length c1) := hb.cell 3
  clear hb hi
  go_enter Try.func30, Try.ntmps30
  go_wp2_with fail
  (try go_quiet (fail))
  (try go_wp2_with fail)
  go_ret
  first | exact ⟨rfl, 0, rfl⟩ | exact ⟨rfl, nq, rfl⟩
set_option maxRecDepth 100000 in
theorem jfile_any (hn : J.name.size ≤ 40) : Calls Try.prog 26 #[.pointer (some ⟨j, 0, none⟩)] w fun e w' => e = .returned (.string (J.name ++ ⟨#[46, 108, 111, 103]⟩)) ∧ w = w' := by
  obtain ⟨A1, c1, v1, A2, c2, v2, hb, hi⟩ := hJ
  have c : w.cell? ⟨j, 1, none⟩ = some (.string J.name) := hb.cell 1
  clear hb hi
  go_enter Try.func26, Try.ntmps26
  go_wp2_with fail
  go_ret
  exact ⟨rfl, rfl⟩
set_option maxRecDepth 100000 in
theorem jfresh_any (hn : J.name.size ≤ 40) : Calls Try.prog 52 #[.pointer (some ⟨j, 0, none⟩)] w fun e w' => e = .returned (.string (J.name ++ ⟨#[46, 110, 101, 119]⟩)) ∧ w = w' := by
  obtain ⟨A1, c1, v1, A2, c2, v2, hb, hi⟩ := hJ
  have c : w.cell? ⟨j, 1, none⟩ = some (.string J.name) := hb.cell 1
  clear hb hi
  go_enter Try.func52, Try.ntmps52
  go_wp2_with fail
  go_ret
  exact ⟨rfl, rfl⟩
end

end Go.Proofs.Ythjbaafbkalomaa
