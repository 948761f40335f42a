/-
  The table of leases as plain data, what each call makes of it, and that the program's calls do just that.
-/
import Derived.Test.YtphoodnclmplhaaDoorLease4
namespace Go.Proofs.YtphoodnclmplhaaDoor
open Go.RowKit

structure LOp where
  kind : Int
  p : ByteArray
  h : ByteArray
  fence : Int
  n : Int
structure Tab where
  clk : Int
  m : List (ByteArray × Lease)

def lk (m : List (ByteArray × Lease)) (p : ByteArray) : Option Lease := (m.find? (fun x => p == x.1)).map (·.2)
def pt (m : List (ByteArray × Lease)) (p : ByteArray) (l : Lease) : List (ByteArray × Lease) := match m with
  | [] => [(p, l)]
  | x :: r => if p == x.1 then (p, l) :: r else x :: pt r p l
def encL (m : List (ByteArray × Lease)) : List (ByteArray × Value) := m.map fun x => (x.1, x.2.val)
def zeroL : Lease := ⟨⟨#[]⟩, ⟨#[]⟩, 0, 0, 0⟩

theorem look_enc (m : List (ByteArray × Lease)) (p : ByteArray) : look (encL m) p = (lk m p).map Lease.val := by
  unfold look lk encL
  induction m with
  | nil => rfl
  | cons x r ih =>
    rw [List.map_cons, List.find?_cons, List.find?_cons]
    cases h : (p == x.1)
    · simpa [h] using ih
    · simp
theorem put_enc (m : List (ByteArray × Lease)) (p : ByteArray) (l : Lease) : put (encL m) p l.val = encL (pt m p l) := by
  unfold encL
  induction m with
  | nil => rfl
  | cons x r ih =>
    simp only [List.map_cons, put, pt]
    cases h : (p == x.1)
    · simp [ih]
    · simp
theorem enc_len (m : List (ByteArray × Lease)) : (encL m).length = m.length := by simp [encL]

def acqT (T : Tab) (p h : ByteArray) (n : Int) : Tab × Lease × Int :=
  if isPathB p = false then (T, zeroL, 190) else if isNameB h = false then (T, zeroL, 191) else if isTermB n = false then (T, zeroL, 192) else
  match lk T.m p with
  | none => if 64 ≤ T.m.length then (T, zeroL, 195) else (⟨T.clk, pt T.m p ⟨p, h, 1, T.clk, T.clk + n⟩⟩, ⟨p, h, 1, T.clk, T.clk + n⟩, 0)
  | some l => if hNow T.clk l.since l.til = true then (T, zeroL, 193) else if 1073741824 ≤ l.fence then (T, zeroL, 195) else (⟨T.clk, pt T.m p ⟨p, h, l.fence + 1, T.clk, T.clk + n⟩⟩, ⟨p, h, l.fence + 1, T.clk, T.clk + n⟩, 0)
def renT (T : Tab) (p h : ByteArray) (f n : Int) : Tab × Lease × Int :=
  if isTermB n = false then (T, zeroL, 192) else
  match lk T.m p with
  | none => (T, zeroL, 194)
  | some l => if hldB T.clk l.holder l.fence l.since l.til h f = true then (⟨T.clk, pt T.m p ⟨l.path, l.holder, l.fence, l.since, max l.til (T.clk + n)⟩⟩, ⟨l.path, l.holder, l.fence, l.since, max l.til (T.clk + n)⟩, 0) else (T, zeroL, 194)
def endT (T : Tab) (l : Lease) : Tab := ⟨T.clk, pt T.m l.path ⟨l.path, l.holder, l.fence, l.since, T.clk⟩⟩
def relT (T : Tab) (p h : ByteArray) (f : Int) : Tab × Int := match lk T.m p with
  | none => (T, 194)
  | some l => if hldB T.clk l.holder l.fence l.since l.til h f = true then (endT T l, 0) else (T, 194)
def brkT (T : Tab) (p : ByteArray) : Tab × Int := match lk T.m p with
  | none => (T, 194)
  | some l => if hNow T.clk l.since l.til = true then (endT T l, 0) else (T, 194)
def advT (T : Tab) (n : Int) : Tab × Int := if n < 0 ∨ 1099511627776 - T.clk < n then (T, 196) else (⟨T.clk + n, T.m⟩, 0)
def doT (T : Tab) (o : LOp) : Tab × Lease × Int :=
  if o.kind = 1 then acqT T o.p o.h o.n else if o.kind = 2 then renT T o.p o.h o.fence o.n
  else if o.kind = 3 then ((relT T o.p o.h o.fence).1, zeroL, (relT T o.p o.h o.fence).2) else if o.kind = 4 then ((brkT T o.p).1, zeroL, (brkT T o.p).2)
  else ((advT T o.n).1, zeroL, (advT T o.n).2)

/-- What holds of every table that calls make. -/
structure TabOk (T : Tab) : Prop where
  c0 : 0 ≤ T.clk
  c1 : T.clk ≤ 1099511627776
  f0 : ∀ x ∈ T.m, 0 ≤ x.2.fence
theorem lk_mem {m : List (ByteArray × Lease)} {p : ByteArray} {l : Lease} (h : lk m p = some l) : ∃ x ∈ m, p = x.1 ∧ x.2 = l := by
  unfold lk at h
  rw [Option.map_eq_some_iff] at h
  obtain ⟨x, hx, rfl⟩ := h
  have := List.find?_some hx
  exact ⟨x, List.mem_of_find?_eq_some hx, (ba_beq _ _).1 this, rfl⟩

/-- The table T lies at block b, its map at block m. -/
def TabT (b m : Nat) (T : Tab) (w : World) : Prop := TabAt b m T.clk (encL T.m) w

/-- How a call ends that returns a lease and an error, and leaves the table T. -/
def LeasePost (b m : Nat) (w : World) (r : Tab × Lease × Int) (e : Ending) (w' : World) : Prop := e = .returned (.tuple #[r.2.1.val, .int .i64 r.2.2]) ∧ TabT b m r.1 w' ∧ Only b m w w'
def ErrPost (b m : Nat) (w : World) (r : Tab × Int) (e : Ending) (w' : World) : Prop := e = .returned (.int .i64 r.2) ∧ TabT b m r.1 w' ∧ Only b m w w'

theorem post_same {b m : Nat} {w : World} {T : Tab} {e : Ending} {w' : World} {c : Int} (hT : TabT b m T w) (h : e = .returned (.tuple #[.agg #[.string ⟨#[]⟩, .string ⟨#[]⟩, .int .i64 0, .int .i64 0, .int .i64 0], .int .i64 c]) ∧ Below w.heap.size w w') : LeasePost b m w (T, zeroL, c) e w' :=
  ⟨h.1, TabAt.after hT h.2, Only.of_below h.2⟩

theorem acq_post (b m : Nat) (T : Tab) (p h : ByteArray) (n : Int) (w : World) (hT : TabT b m T w) (ok : TabOk T) :
    Calls Tryd.prog 18 #[.pointer (some ⟨b, 0, none⟩), .string p, .string h, .int .i64 n] w (LeasePost b m w (acqT T p h n)) := by
  unfold acqT
  cases h1 : isPathB p
  · exact (acq_path b p h n w h1).mono fun e w' hh => post_same hT hh
  rw [if_neg (by simp)]
  cases h2 : isNameB h
  · exact (acq_name b p h n w h1 h2).mono fun e w' hh => post_same hT hh
  rw [if_neg (by simp)]
  cases h3 : isTermB n
  · exact (acq_term b p h n w h1 h2 h3).mono fun e w' hh => post_same hT hh
  rw [if_neg (by simp)]
  cases hl : lk T.m p with
  | none =>
    have hl' : look (encL T.m) p = none := by rw [look_enc, hl]; rfl
    by_cases hn : 64 ≤ T.m.length
    · simp only [hn, if_true]
      exact (acq_full b m T.clk _ p h n w hT h1 h2 h3 hl' (by rw [enc_len]; exact hn)).mono fun e w' hh => post_same hT hh
    · simp only [hn, if_false]
      refine (acq_new b m T.clk _ p h n w hT ok.c0 ok.c1 h1 h2 h3 hl' (by rw [enc_len]; omega)).mono fun e w' hh => ⟨hh.1, ?_, hh.2.2⟩
      have := hh.2.1
      rw [show (Value.agg #[.string p, .string h, .int .i64 1, .int .i64 T.clk, .int .i64 (T.clk + n)]) = (⟨p, h, 1, T.clk, T.clk + n⟩ : Lease).val from rfl, put_enc] at this
      exact this
  | some l =>
    obtain ⟨x, hx, _, hxl⟩ := lk_mem hl
    have hf0 := ok.f0 x hx
    rw [hxl] at hf0
    obtain ⟨lp, lh, lf, ls, lu⟩ := l
    have hl' : look (encL T.m) p = some (.agg #[.string lp, .string lh, .int .i64 lf, .int .i64 ls, .int .i64 lu]) := by rw [look_enc, hl]; rfl
    dsimp only at hf0 ⊢
    cases hv : hNow T.clk ls lu
    · rw [if_neg (by simp)]
      by_cases hn : 1073741824 ≤ lf
      · simp only [hn, if_true]
        exact (acq_limit b m T.clk _ p h n w hT h1 h2 h3 lp lh lf ls lu hl' hv hn).mono fun e w' hh => post_same hT hh
      · simp only [hn, if_false]
        refine (acq_next b m T.clk _ p h n w hT ok.c0 ok.c1 h1 h2 h3 lp lh lf ls lu hl' hv (by omega) hf0).mono fun e w' hh => ⟨hh.1, ?_, hh.2.2⟩
        have := hh.2.1
        rw [show (Value.agg #[.string p, .string h, .int .i64 (lf + 1), .int .i64 T.clk, .int .i64 (T.clk + n)]) = (⟨p, h, lf + 1, T.clk, T.clk + n⟩ : Lease).val from rfl, put_enc] at this
        exact this
    · rw [if_pos rfl]
      exact (acq_held b m T.clk _ p h n w hT h1 h2 h3 lp lh lf ls lu hl' hv).mono fun e w' hh => post_same hT hh

theorem ren_post (b m : Nat) (T : Tab) (p h : ByteArray) (f n : Int) (w : World) (hT : TabT b m T w) (ok : TabOk T) :
    Calls Tryd.prog 25 #[.pointer (some ⟨b, 0, none⟩), .string p, .string h, .int .i64 f, .int .i64 n] w (LeasePost b m w (renT T p h f n)) := by
  unfold renT
  cases h3 : isTermB n
  · exact (renew_term b p h f n w h3).mono fun e w' hh => post_same hT hh
  rw [if_neg (by simp)]
  cases hl : lk T.m p with
  | none =>
    have hl' : look (encL T.m) p = none := by rw [look_enc, hl]; rfl
    exact (renew_none b m T.clk _ p h f n w hT h3 hl').mono fun e w' hh => post_same hT hh
  | some l =>
    obtain ⟨lp, lh, lf, ls, lu⟩ := l
    have hl' : look (encL T.m) p = some (.agg #[.string lp, .string lh, .int .i64 lf, .int .i64 ls, .int .i64 lu]) := by rw [look_enc, hl]; rfl
    dsimp only
    cases hv : hldB T.clk lh lf ls lu h f
    · rw [if_neg (by simp)]
      exact (renew_no b m T.clk _ p h f n w hT h3 lp lh lf ls lu hl' hv).mono fun e w' hh => post_same hT hh
    · rw [if_pos rfl]
      refine (renew_yes b m T.clk _ p h f n w hT h3 ok.c0 ok.c1 lp lh lf ls lu hl' hv).mono fun e w' hh => ⟨hh.1, ?_, hh.2.2⟩
      have := hh.2.1
      rw [show (Value.agg #[.string lp, .string lh, .int .i64 lf, .int .i64 ls, .int .i64 (max lu (T.clk + n))]) = (⟨lp, lh, lf, ls, max lu (T.clk + n)⟩ : Lease).val from rfl, put_enc] at this
      exact this

theorem rel_post (b m : Nat) (T : Tab) (p h : ByteArray) (f : Int) (w : World) (hT : TabT b m T w) :
    Calls Tryd.prog 26 #[.pointer (some ⟨b, 0, none⟩), .string p, .string h, .int .i64 f] w (ErrPost b m w (relT T p h f)) := by
  unfold relT
  cases hl : lk T.m p with
  | none =>
    have hl' : look (encL T.m) p = none := by rw [look_enc, hl]; rfl
    exact (release_none b m T.clk _ p h f w hT hl').mono fun e w' hh => ⟨hh.1, TabAt.after hT hh.2, Only.of_below hh.2⟩
  | some l =>
    obtain ⟨lp, lh, lf, ls, lu⟩ := l
    have hl' : look (encL T.m) p = some (.agg #[.string lp, .string lh, .int .i64 lf, .int .i64 ls, .int .i64 lu]) := by rw [look_enc, hl]; rfl
    dsimp only
    cases hv : hldB T.clk lh lf ls lu h f
    · rw [if_neg (by simp)]
      exact (release_no w hT hl' hv).mono fun e w' hh => ⟨hh.1, TabAt.after hT hh.2, Only.of_below hh.2⟩
    · rw [if_pos rfl]
      refine (release_yes w hT hl' hv).mono fun e w' hh => ⟨hh.1, ?_, hh.2.2⟩
      have := hh.2.1
      rw [show (Value.agg #[.string lp, .string lh, .int .i64 lf, .int .i64 ls, .int .i64 T.clk]) = (⟨lp, lh, lf, ls, T.clk⟩ : Lease).val from rfl, put_enc] at this
      exact this

theorem brk_post (b m : Nat) (T : Tab) (p : ByteArray) (w : World) (hT : TabT b m T w) :
    Calls Tryd.prog 27 #[.pointer (some ⟨b, 0, none⟩), .string p] w (ErrPost b m w (brkT T p)) := by
  unfold brkT
  cases hl : lk T.m p with
  | none =>
    have hl' : look (encL T.m) p = none := by rw [look_enc, hl]; rfl
    exact (break_none b m T.clk _ p w hT hl').mono fun e w' hh => ⟨hh.1, TabAt.after hT hh.2, Only.of_below hh.2⟩
  | some l =>
    obtain ⟨lp, lh, lf, ls, lu⟩ := l
    have hl' : look (encL T.m) p = some (.agg #[.string lp, .string lh, .int .i64 lf, .int .i64 ls, .int .i64 lu]) := by rw [look_enc, hl]; rfl
    dsimp only
    cases hv : hNow T.clk ls lu
    · rw [if_neg (by simp)]
      exact (break_no w hT hl' hv).mono fun e w' hh => ⟨hh.1, TabAt.after hT hh.2, Only.of_below hh.2⟩
    · rw [if_pos rfl]
      refine (break_yes w hT hl' hv).mono fun e w' hh => ⟨hh.1, ?_, hh.2.2⟩
      have := hh.2.1
      rw [show (Value.agg #[.string lp, .string lh, .int .i64 lf, .int .i64 ls, .int .i64 T.clk]) = (⟨lp, lh, lf, ls, T.clk⟩ : Lease).val from rfl, put_enc] at this
      exact this

theorem adv_post (b m : Nat) (T : Tab) (n : Int) (w : World) (hT : TabT b m T w) (ok : TabOk T) :
    Calls Tryd.prog 28 #[.pointer (some ⟨b, 0, none⟩), .int .i64 n] w (ErrPost b m w (advT T n)) := by
  unfold advT
  by_cases h : n < 0 ∨ 1099511627776 - T.clk < n
  · rw [if_pos h]
    exact (advance_no b m T.clk _ n w hT ok.c0 ok.c1 h).mono fun e w' hh => ⟨hh.1, hh.2 ▸ hT, hh.2 ▸ Only.refl _ _ _⟩
  · rw [if_neg h]
    exact (advance_yes b m T.clk _ n w hT ok.c0 ok.c1 (by omega) (by omega)).mono fun e w' hh => ⟨hh.1, hh.2.1, hh.2.2⟩

end Go.Proofs.YtphoodnclmplhaaDoor
