/-
  The reference's journal.
-/
import Derived.Test.YthjbaafbkalomaaApp
namespace Go.Proofs.Ythjbaafbkalomaa
open Go.RowKit

structure RefR where
  start : Int
  recs : List (List UInt8)
  pend : List (List UInt8)
/-- A list of byte strings that can be read. -/
structure RecsAt (g : Gh) (w : World) (A : Option Addr) (c : Nat) (rs : List (List UInt8)) : Prop where
  ex : ∃ vs, Rd 1 g w A rs.length vs ∧ RecsR g w vs rs
  le : rs.length ≤ c
  mx : c ≤ maxLen
  nz : A = none → rs.length = 0
theorem RecsAt.ext {g g' : Gh} {w w' : World} {A : Option Addr} {c : Nat} {rs : List (List UInt8)} {M : Nat → Prop} (h : RecsAt g w A c rs) (hx : Ext M g w g' w') : RecsAt g' w' A c rs := by
  obtain ⟨vs, h1, h2⟩ := h.ex
  exact ⟨⟨vs, h1.ext hx, h2.ext hx⟩, h.le, h.mx, h.nz⟩
theorem RecsAt.nil (g : Gh) (w : World) : RecsAt g w none 0 [] := ⟨⟨[], Rd.nil _ _ _ _, trivial⟩, Nat.le_refl _, Nat.zero_le _, fun _ => rfl⟩
theorem RecsAt.get {g : Gh} {w : World} {A : Option Addr} {c : Nat} {rs : List (List UInt8)} (h : RecsAt g w A c rs) {k : Nat} (hk : k < rs.length) : ∃ b off Ar cr, A = some ⟨b, off, none⟩ ∧ w.cell? ⟨b, off + k, none⟩ = some (.slice Ar rs[k].length cr) ∧ BytesAt g w (.slice Ar rs[k].length cr) rs[k] := by
  obtain ⟨vs, h1, h2⟩ := h.ex
  obtain ⟨v, hv, hb⟩ := h2.get hk
  obtain ⟨b, off, hA, _, _, hc⟩ := h1.at_ (by omega)
  have h3 := hc k _ hv
  obtain ⟨Ar, cr, rfl, _⟩ := hb.ex
  exact ⟨b, off, Ar, cr, hA, h3, hb⟩
theorem RecsAt.ofApp {g : Gh} {w : World} {A : Option Addr} {c o n : Nat} {e : TypeId} {vs : List Value} {rs : List (List UInt8)} (h : App e 1 o g w A n c vs) (hn : rs.length = n) (hr : RecsR g w vs rs) : RecsAt g w A c rs := by
  subst hn
  exact ⟨⟨vs, h.rd, hr⟩, h.le, h.mx, fun e => (h.nz e).1⟩
def RefAt (g : Gh) (w : World) (v : Value) (R : RefR) : Prop := ∃ A1 c1 A2 c2, v = .agg #[.int .i64 R.start, .slice A1 R.recs.length c1, .slice A2 R.pend.length c2] ∧ RecsAt g w A1 c1 R.recs ∧ RecsAt g w A2 c2 R.pend
theorem RefAt.ext {g g' : Gh} {w w' : World} {v : Value} {R : RefR} {M : Nat → Prop} (h : RefAt g w v R) (hx : Ext M g w g' w') : RefAt g' w' v R := by
  obtain ⟨A1, c1, A2, c2, h1, h2, h3⟩ := h
  exact ⟨A1, c1, A2, c2, h1, h2.ext hx, h3.ext hx⟩

set_option maxRecDepth 100000 in
set_option maxHeartbeats 800000 in
theorem rsize_any (g : Gh) (w : World) (A : Option Addr) (c : Nat) (rs : List (List UInt8)) (h : RecsAt g w A c rs) (hn : rs.length ≤ 1000000) (hb : lens rs ≤ 1000000000) :
    Calls Try.prog 34 #[.slice A rs.length c] w fun e w' => e = .returned (.int .i64 (lens rs)) ∧ w = w' := by
  have H := Lib.hid h
  clear h
  go_enter Try.func34, Try.ntmps34
  go_wp2_with fail
  go_loop [3, 4] (fun s i => ∃ k : Nat, k ≤ rs.length ∧ i = .int .i64 k ∧ s = .int .i64 (lens (rs.take k) : Nat)) (fun _ i => rs.length - (intOf i).toNat)
  case atStart => exact ⟨0, Nat.zero_le _, rfl, rfl⟩
  case round =>
    obtain ⟨k, hk, rfl, rfl⟩ := hrel
    by_cases hlt : k < rs.length
    · obtain ⟨b, off, Ar, cr, rfl, hc, _⟩ := H.out.get hlt
      have hsn := lens_snoc hlt
      have h1 := lens_take rs (k + 1)
      generalize rs[k].length = rl at *
      generalize hL1 : lens (rs.take (k + 1)) = L1 at *
      generalize hL0 : lens (rs.take k) = L0 at *
      go_wp2_with fail
      go_round
      case rel => exact ⟨k + 1, by omega, by go_num, by rw [hL1, hsn]; go_num⟩
      case measure => simp [intOf]; omega
    · obtain rfl : k = rs.length := by omega
      rw [List.take_length]
      go_wp2_with fail
      go_ret
      exact ⟨rfl, rfl⟩

/-- Two boxes of structs laid one after the other. -/
theorem Ext.two (g : Gh) (w : World) (o1 o2 : Obj) : Ext (fun _ => False) g w ((g.box w.heap.size).box (w.heap.size + 1)) ((w.alloc o1).alloc o2) := Ext.box2 _ g w o1 o2
def sameB (R S : RefR) : Bool := decide (R.start = S.start) && decide (R.recs = S.recs)
theorem ba_ne {a b : List UInt8} (h : a ≠ b) : ((⟨a.toArray⟩ : ByteArray) == ⟨b.toArray⟩) = false := by
  cases e : ((⟨a.toArray⟩ : ByteArray) == ⟨b.toArray⟩)
  · rfl
  · rw [ba_beq] at e
    exact absurd (by simpa using congrArg (fun x : ByteArray => x.data.toList) e) h
set_option maxRecDepth 100000 in
set_option maxHeartbeats 1600000 in
theorem same_any (g : Gh) (w : World) (v u : Value) (R S : RefR) (hv : RefAt g w v R) (hu : RefAt g w u S) (hn : R.recs.length ≤ 1000000) :
    Calls Try.prog 22 #[v, u] w fun e w' => e = .returned (.bool (sameB R S)) ∧ SameP g w w' := by
  obtain ⟨A1, c1, A2, c2, rfl, hv1, _⟩ := hv
  obtain ⟨B1, d1, B2, d2, rfl, hu1, _⟩ := hu
  have hx := Ext.two g w (.cells #[.int .i64 R.start, .slice A1 R.recs.length c1, .slice A2 R.pend.length c2] 35) (.cells #[.int .i64 S.start, .slice B1 S.recs.length d1, .slice B2 S.pend.length d2] 35)
  have hb1 : Blk w.heap.size 35 [.int .i64 R.start, .slice A1 R.recs.length c1, .slice A2 R.pend.length c2] ((w.alloc (.cells #[.int .i64 R.start, .slice A1 R.recs.length c1, .slice A2 R.pend.length c2] 35)).alloc (.cells #[.int .i64 S.start, .slice B1 S.recs.length d1, .slice B2 S.pend.length d2] 35)) := (Blk.new w 35 [.int .i64 R.start, .slice A1 R.recs.length c1, .slice A2 R.pend.length c2]).alloc _
  have hb2 : Blk (w.heap.size + 1) 35 [.int .i64 S.start, .slice B1 S.recs.length d1, .slice B2 S.pend.length d2] ((w.alloc (.cells #[.int .i64 R.start, .slice A1 R.recs.length c1, .slice A2 R.pend.length c2] 35)).alloc (.cells #[.int .i64 S.start, .slice B1 S.recs.length d1, .slice B2 S.pend.length d2] 35)) := by
    have := Blk.new (w.alloc (.cells #[.int .i64 R.start, .slice A1 R.recs.length c1, .slice A2 R.pend.length c2] 35)) 35 [.int .i64 S.start, .slice B1 S.recs.length d1, .slice B2 S.pend.length d2]
    simpa using this
  have HX := Lib.hid hx
  have HV := Lib.hid (hv1.ext hx)
  have HU := Lib.hid (hu1.ext hx)
  clear hx hv1 hu1
  by_cases h1 : R.start = S.start
  · by_cases h2 : R.recs.length = S.recs.length
    · have q1 := hb1.cell 1
      have q2 := hb2.cell 1
      have hne1 : (R.start != S.start) = false := by simp [h1]
      have hne2 : (((R.recs.length : Nat) : Int) != ((S.recs.length : Nat) : Int)) = false := by simp [h2]
      have HE : Hid (sameB R S = decide (R.recs = S.recs)) := by show _ = _; simp [sameB, h1]
      rw [HE.out]
      have H2 := Lib.hid h2
      clear h1 h2
      go_enter Try.func22, Try.ntmps22
      go_wp2_with fail
      generalize hw2 : ((w.alloc (.cells #[.int .i64 R.start, .slice A1 R.recs.length c1, .slice A2 R.pend.length c2] 35)).alloc (.cells #[.int .i64 S.start, .slice B1 S.recs.length d1, .slice B2 S.pend.length d2] 35)) = w2 at *
      clear hb1 hb2 hne1 hne2
      have HW2 := Lib.hid hw2
      clear hw2
      go_loopw [5] (fun i wr => ∃ k nn : Nat, k ≤ R.recs.length ∧ i = .int .i64 k ∧ wr = w2.drewN nn ∧ Hid (R.recs.take k = S.recs.take k)) (fun i _ => R.recs.length - (intOf i).toNat)
      case atStart => exact ⟨0, 0, Nat.zero_le _, rfl, rfl, rfl⟩
      case round =>
        obtain ⟨k, nn, hk, rfl, rfl, ht⟩ := hrel
        have hxd : Ext (fun _ => False) ((g.box w.heap.size).box (w.heap.size + 1)) w2 ((g.box w.heap.size).box (w.heap.size + 1)) (w2.drewN nn) := (Ext.refl _ _ _).drewN _
        by_cases hlt : k < R.recs.length
        · have hlt2 : k < S.recs.length := by rw [← H2.out]; exact hlt
          obtain ⟨b, off, Ar, cr, rfl, hc, hba⟩ := (HV.out.ext hxd).get hlt
          obtain ⟨b', off', Br, dr, rfl, hc', hba'⟩ := (HU.out.ext hxd).get hlt2
          have s1 : ∀ n, (convert 37 9 (.slice Ar R.recs[k].length cr)).run Try.prog ((w2.drewN nn).drewN n) = .ok (.string ⟨R.recs[k].toArray⟩) ((w2.drewN nn).drewN n) := fun n => (hba.ext (M := fun _ => False) ((Ext.refl _ _ _).drewN n)).str
          have s2 : ∀ n, (convert 37 9 (.slice Br S.recs[k].length dr)).run Try.prog ((w2.drewN nn).drewN n) = .ok (.string ⟨S.recs[k].toArray⟩) ((w2.drewN nn).drewN n) := fun n => (hba'.ext (M := fun _ => False) ((Ext.refl _ _ _).drewN n)).str
          have HXD := Lib.hid hxd
          clear hxd hba hba'
          generalize hwd : w2.drewN nn = wd at *
          have HWD := Lib.hid hwd
          have p1 : wd.cell? ⟨w.heap.size, 1, none⟩ = some (.slice (some ⟨b, off, none⟩) R.recs.length c1) := by rw [← hwd]; exact q1
          have p2 : wd.cell? ⟨w.heap.size + 1, 1, none⟩ = some (.slice (some ⟨b', off', none⟩) S.recs.length d1) := by rw [← hwd]; exact q2
          clear hwd q1 q2
          by_cases he : R.recs[k] = S.recs[k]
          · have HT : Hid (R.recs.take (k + 1) = S.recs.take (k + 1)) := by
              show _ = _
              rw [List.take_add_one, List.take_add_one, List.getElem?_eq_getElem hlt, List.getElem?_eq_getElem hlt2, he, ht.out]
            rw [he] at s1 hc
            generalize S.recs[k] = r at *
            clear he
            go_wp2_with fail
            go_quiet (fail)
            go_wp2_with fail
            go_round
            case rel => exact ⟨k + 1, nn + nq, by omega, by go_num, by rw [← HWD.out]; simp [World.drewN, Nat.add_assoc], HT.out⟩
            case measure => simp [intOf]; omega
          · have hne := ba_ne he
            have hne2 : (R.recs[k] == S.recs[k]) = false := beq_eq_false_iff_ne.2 he
            have HF : Hid (decide (R.recs = S.recs) = false) := by
              show _ = _
              rw [decide_eq_false_iff_not]
              intro e
              apply he
              simp only [e]
            clear hne he
            generalize S.recs[k] = r at *
            generalize R.recs[k] = r' at *
            go_wp2_with fail
            go_quiet (fail)
            go_wp2_with fail
            go_ret
            exact ⟨ret_bool HF.out.symm, _, (HX.out.trans HXD.out).drewN nq⟩
        · obtain rfl : k = R.recs.length := by omega
          have HT : Hid (decide (R.recs = S.recs) = true) := by
            have h := ht.out
            rw [List.take_length, H2.out, List.take_length] at h
            show _ = _
            simpa using h
          have HXD := Lib.hid hxd
          clear hxd
          generalize hwd : w2.drewN nn = wd at *
          have p1 : wd.cell? ⟨w.heap.size, 1, none⟩ = some (.slice A1 R.recs.length c1) := by rw [← hwd]; exact q1
          clear hwd q1 q2
          go_wp2_with fail
          go_ret
          exact ⟨ret_bool HT.out.symm, _, HX.out.trans HXD.out⟩
    · have HE : Hid (sameB R S = false) := by
        show _ = _
        have : R.recs ≠ S.recs := fun e => h2 (by rw [e])
        simp [sameB, this]
      have hne1 : (R.start != S.start) = false := by simp [h1]
      have hne2 : (((R.recs.length : Nat) : Int) != ((S.recs.length : Nat) : Int)) = true := by simp; omega
      have q1 := hb1.cell 1
      have q2 := hb2.cell 1
      rw [HE.out]
      clear h1 h2 hb1 hb2
      go_enter Try.func22, Try.ntmps22
      go_wp2_with fail
      go_ret
      exact ⟨rfl, _, HX.out⟩
  · have HE : Hid (sameB R S = false) := by show _ = _; simp [sameB, h1]
    have hne1 : (R.start != S.start) = true := by simp [h1]
    rw [HE.out]
    clear h1 hb1 hb2
    go_enter Try.func22, Try.ntmps22
    go_wp2_with fail
    go_ret
    exact ⟨rfl, _, HX.out⟩

end Go.Proofs.Ythjbaafbkalomaa
