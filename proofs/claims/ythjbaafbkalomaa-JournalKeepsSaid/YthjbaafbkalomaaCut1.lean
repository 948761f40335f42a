/-
  Cut's closure: the new file is written from the boxes that it captured.
-/
import Derived.Test.YthjbaafbkalomaaDiscard
namespace Go.Proofs.Ythjbaafbkalomaa
open Go.RowKit

/-- What Cut's closure stands on: the journal, and three boxes of nobody else's. -/
structure CutIn (j d x y z : Nat) (J : Jrn) (p : Nat) (A : Option Addr) (c : Nat) (vs : List Value) (rs : List (List UInt8)) (g : Gh) (w : World) : Prop where
  jat : JAt g w j d J
  bx : Blk x 28 [.pointer (some ⟨j, 0, none⟩)] w
  by' : Blk y 3 [.int .i64 p] w
  bz : Blk z 33 [.slice A rs.length c] w
  ox : g.O x ≠ d
  oy : g.O y ≠ d
  oz : g.O z ≠ d
  rd : Rd 1 g w A rs.length vs
  rr : RecsR g w vs rs
theorem CutIn.ext {j d x y z : Nat} {J : Jrn} {p : Nat} {A : Option Addr} {c : Nat} {vs : List Value} {rs : List (List UInt8)} {g g' : Gh} {w w' : World} (h : CutIn j d x y z J p A c vs rs g w) (hx : Ext (· = d) g w g' w') (hne : j ≠ d) : CutIn j d x y z J p A c vs rs g' w' :=
  ⟨h.jat.ext hx hne, h.bx.ext hx h.ox, h.by'.ext hx h.oy, h.bz.ext hx h.oz, by rw [hx.own x h.bx.lt]; exact h.ox, by rw [hx.own y h.by'.lt]; exact h.oy, by rw [hx.own z h.bz.lt]; exact h.oz, h.rd.ext hx, h.rr.ext hx⟩

set_option maxRecDepth 100000 in
set_option maxHeartbeats 1600000 in
theorem cut1_any (j d x y z : Nat) (g : Gh) (w : World) (J : Jrn) (D : Dev) (p : Nat) (A : Option Addr) (c : Nat) (vs : List Value) (rs : List (List UInt8)) (h : CutIn j d x y z J p A c vs rs g w) (hD : DevAt g w d D) (hok : JOk J) (hp : p < 9223372036854775808) (hrl : ∀ r ∈ rs, r.length ≤ 65536) (hl : (fileB p rs).length ≤ 4194304) (hnn : D.now.n < 256) (hpl : D.pend.length ≤ 1000000) (hcl : rs.length ≤ 1000000) :
    Calls Try.prog 36 #[.pointer (some ⟨x, 0, none⟩), .pointer (some ⟨y, 0, none⟩), .pointer (some ⟨z, 0, none⟩)] w fun e w' => e = .returned (.int .i64 (actI D)) ∧ DevP d g w (actD D ⟨0, J.fresh, ⟨#[]⟩, fileB p rs, true⟩) w' := by
  have c1 : w.cell? ⟨x, 0, none⟩ = some (.pointer (some ⟨j, 0, none⟩)) := h.bx.cell 0
  have c2 : w.cell? ⟨y, 0, none⟩ = some (.int .i64 p) := h.by'.cell 0
  have c3 : w.cell? ⟨z, 0, none⟩ = some (.slice A rs.length c) := h.bz.cell 0
  have H := Lib.hid h
  have HD := Lib.hid hD
  have HRL := Lib.hid hrl
  clear h hD hrl
  go_enter Try.func36, Try.ntmps36
  go_wp2_with fail
  refine (write_any j d g w J D H.out.jat HD.out p A c vs rs H.out.rd H.out.rr hok.nm hok.n2 (by omega) HRL.out hl hnn hpl hcl).mono ?_
  rintro e w2 ⟨rfl, hP⟩
  have HP := Lib.hid hP
  clear hP
  go_wp2_with fail
  go_ret
  exact ⟨rfl, HP.out⟩

noncomputable def sCut (J : Jrn) (x y z p : Nat) (rs : List (List UInt8)) : CStep := ⟨36, [], [.pointer (some ⟨x, 0, none⟩), .pointer (some ⟨y, 0, none⟩), .pointer (some ⟨z, 0, none⟩)], actI, fun D => actD D ⟨0, J.fresh, ⟨#[]⟩, fileB p rs, true⟩, fun D => (fileB p rs).length ≤ 4194304 ∧ D.now.n < 256 ∧ D.pend.length ≤ 1000000⟩
theorem sCut_ok {J : Jrn} (hJ : JOk J) (j d x y z p : Nat) (A : Option Addr) (c : Nat) (vs : List Value) (rs : List (List UInt8)) (hp : p < 9223372036854775808) (hrl : ∀ r ∈ rs, r.length ≤ 65536) (hcl : rs.length ≤ 1000000) : (sCut J x y z p rs).ok (CutIn j d x y z J p A c vs rs) d := by
  refine ⟨fun args w => run_enters Try.func36 (by kernel_rfl) (by kernel_rfl) args w, fun g w D h1 h2 ⟨h3, h4, h5⟩ => ?_⟩
  exact cut1_any j d x y z g w J D p A c vs rs h1 h2 hJ hp hrl h3 h4 h5 hcl
theorem sRep_ok' {J : Jrn} (hJ : JOk J) (j d : Nat) (I : Gh → World → Prop) (hI : ∀ g w, I g w → JAt g w j d J) : (sRep J j).ok I d :=
  ⟨(sRep_ok hJ j d).1, fun g w D h1 h2 h3 => (sRep_ok hJ j d).2 g w D (hI g w h1) h2 h3⟩

/-- The journal's records are others, in a block of their own. -/
theorem JIn.cutOff {g g6 : Gh} {w w6 : World} {j : Nat} {B1 B2 A' : Option Addr} {e1 e2 c' : Nat} {u1 u2 vs : List Value} {J : Jrn} {rs : List (List UInt8)} (h : JIn g w j B1 e1 u1 B2 e2 u2 J) (hj : j < w.heap.size) (hx : Ext (fun _ => False) g w g6 w6) (ha : App 37 1 j g6 w6 A' rs.length c' vs) (hq : RecsR g w vs rs) (hnew : ∀ b off, A' = some ⟨b, off, none⟩ → w.heap.size ≤ b) (st b' : Int) (wh : Bool) :
    JIn g6 w6 j A' c' vs B2 e2 u2 { J with start := st, recs := rs, bytes := b', whole := wh } := by
  refine ⟨ha, hq.ext hx, h.r2.ext hx (fun h => h), h.q2.ext hx, ?_, (hx.own j hj).trans h.O, hx.zero j hj h.F⟩
  intro h1 h2 b off b2 off2 e1 e2 e
  obtain ⟨_, b3, cs, f1, _, _, f4, _⟩ := h.r2.sp h2
  rw [e2] at f1; injection f1 with f1; injection f1 with f1 _
  have := block_lt f4
  have := hnew b off e1
  omega

end Go.Proofs.Ythjbaafbkalomaa
