/-
  recover: the file is read, up to the first frame that is not complete.
  Open of a journal that has a file; and of one on a device without power.
-/
import Derived.Test.YthjbaafbkalomaaRecP
import Derived.Test.YthjbaafbkalomaaCodec
import Derived.WalkMore
namespace Go.Proofs.Ythjbaafbkalomaa
section
open Go.RowKit

theorem BytesAt.take {g : Gh} {w : World} {A : Option Addr} {n c : Nat} {l : List UInt8} (h : BytesAt g w (.slice A n c) l) {k : Nat} (hk : k ≤ n) : BytesAt g w (.slice A k c) (l.take k) := by
  obtain ⟨A', cap, he, h1, h2, hz, hr⟩ := h.ex
  injection he with e1 e2 e3
  subst e1 e2 e3
  have hc := hr.cut (l := 0) (k := k) (m := l.length) (by omega) (by omega)
  rw [cutA_zero] at hc
  simp only [List.drop_zero, Nat.mul_one, bv_take] at hc
  have hlen : (l.take k).length = k := by rw [List.length_take]; omega
  refine ⟨A, c, by rw [hlen], by omega, h2, fun e => by rw [hlen]; have := hz e; omega, ?_⟩
  rw [hlen]; exact hc

set_option maxRecDepth 100000 in
theorem equal_any (g : Gh) (w : World) (A B : Option Addr) (n m c c' : Nat) (l : List UInt8) (h1 : BytesAt g w (.slice A n c) l) (h2 : BytesAt g w (.slice B m c') l) :
    Calls Try.prog 59 #[.slice A n c, .slice B m c'] w fun e w' => e = .returned (.bool true) ∧ ∃ k, w' = w.drewN k := by
  have s1 := h1.str
  have s2 := h2.str
  go_enter Try.func59, Try.ntmps59
  go_wp2_with fail
  (try go_quiet (fail))
  (try go_wp2_with fail)
  go_ret
  first | exact ⟨rfl, 0, rfl⟩ | exact ⟨rfl, nq, rfl⟩

set_option maxRecDepth 100000 in
theorem hasPrefix_any (g : Gh) (w : World) (A B : Option Addr) (n c c' : Nat) (l M : List UInt8) (h1 : BytesAt g w (.slice A n c) l) (h2 : BytesAt g w (.slice B 4 c') M) (hn : 4 ≤ n) (hm : l.take 4 = M) :
    Calls Try.prog 46 #[.slice A n c, .slice B 4 c'] w fun e w' => e = .returned (.bool true) ∧ ∃ k, w' = w.drewN k := by
  obtain ⟨i0, hi, hz0, hz1, hz2⟩ := info_parts Try.infoU8
  have hnc : n ≤ c := by
    obtain ⟨A', cap, he, q1, q2, hz, hr⟩ := h1.ex
    injection he with e1 e2 e3
    omega
  have hcut := run_cut_h (P := Try.prog) Try.underlying37 hi A n c 4 (by omega)
  have H1 := Lib.hid (h1.take hn)
  have H2 := Lib.hid h2
  rw [hm] at H1
  clear h1 h2 hm
  go_enter Try.func46, Try.ntmps46
  go_wp2_with fail
  refine (equal_any g w A B 4 4 c c' M H1.out H2.out).mono ?_
  rintro e w' ⟨rfl, k, rfl⟩
  go_wp2_with fail
  go_ret
  exact ⟨rfl, k, rfl⟩

/-- The durable records grow by one. -/
theorem JIn.recd {g g3 : Gh} {w w3 : World} {j : Nat} {A1 A2 A3 : Option Addr} {c1 c2 c3 : Nat} {v1 v2 : List Value} {nv : Value} {J : Jrn} {r : List UInt8} (h : JIn g w j A1 c1 v1 A2 c2 v2 J) (hp : J.pend = []) (hj : j < w.heap.size) (hx : Ext (· = j) g w g3 w3) (ha : App 37 1 j g3 w3 A3 (J.recs.length + 1) c3 (v1 ++ [nv])) (hl : Lies g w A1 J.recs.length c1 g3 w3 A3 c3) (hq : BytesAt g w nv r) (J' : Jrn) (h1 : J'.recs = J.recs ++ [r]) (h2 : J'.pend = []) :
    JIn g3 w3 j A3 c3 (v1 ++ [nv]) A2 c2 v2 J' ∧ w3.heap[j]? = w.heap[j]? := by
  have hjf := hl.far j hj (fun hlt off he => h.r1.not_self h.F (by decide) hlt he rfl)
  have hr2 := h.r2
  have hq2 := h.q2
  rw [hp] at hr2 hq2
  have hc2 : ¬ 0 < c2 := fun hlt => absurd (hr2.sp hlt).1 (Nat.lt_irrefl _)
  refine ⟨⟨?_, ?_, ?_, ?_, ?_, (hx.own j hj).trans h.O, hjf.2.trans h.F⟩, hjf.1⟩
  · rw [h1, List.length_append]; exact ha
  · rw [h1]; exact (h.q1.append (vs' := [nv]) (rs' := [r]) ⟨hq, trivial⟩).ext hx
  · rw [h2]; exact hr2.ext' hx (fun _ _ _ _ hlt => absurd hlt hc2)
  · rw [h2]; exact hq2.ext hx
  · intro _ hlt
    rw [h2] at hlt
    exact absurd hlt hc2

/-- What recover makes of a file. -/
def recJ (name : ByteArray) (st : Nat) (rs : List (List UInt8)) (wh : Bool) : Jrn := ⟨name, st, rs, [], lens rs, wh, false⟩
theorem UintP.ok {l : List UInt8} {at_ v n n1 : Nat} {w w' : World} {e : Ending} (h : UintP l at_ w e w') (hd : decU 0 0 (l.drop at_) = (v, n, 0)) (hn : at_ + n = n1) : e = .returned (.tuple #[.int .u64 (v : Int), .int .i64 (n1 : Int), .int .i64 0]) ∧ w = w' := by
  subst hn
  unfold UintP at h
  rw [hd] at h
  exact h
theorem UintP.bad {l : List UInt8} {at_ : Nat} {w w' : World} {e : Ending} (h : UintP l at_ w e w') (hd : decU 0 0 (l.drop at_) = (0, 0, 11)) : e = .returned (.tuple #[.int .u64 0, .int .i64 0, .int .i64 11]) ∧ w = w' := by
  unfold UintP at h
  rw [hd] at h
  exact h

set_option maxRecDepth 100000 in
set_option maxHeartbeats 1600000 in
theorem recover_any (j d : Nat) (g : Gh) (w : World) (name : ByteArray) (hJ : JAt g w j d (jrn0 name)) (st : Nat) (hst : st < 9223372036854775808) (rs : List (List UInt8)) (t : List UInt8) (ht : Torn t) (hrl : ∀ r ∈ rs, r.length ≤ 65536) (hcl : rs.length ≤ 1000000) (hbl : lens rs ≤ 1000000000) (A : Option Addr) (c : Nat) (hb : BytesAt g w (.slice A (fileB st rs ++ t).length c) (fileB st rs ++ t)) (hlen : (fileB st rs ++ t).length ≤ 140737488355328) :
    Calls Try.prog 27 #[.pointer (some ⟨j, 0, none⟩), .slice A (fileB st rs ++ t).length c] w fun e w' => e = .returned (.tuple #[]) ∧ JP j d g w (recJ name st rs t.isEmpty) w' := by
  have hcv := fun (w : World) (C : Array Value) (n c : Nat) => Lib.run_convert_bytes_const (P := Try.prog) w 37 5 C n c Try.underlying37 Try.underlying5
  obtain ⟨f1, f2, f3, f4⟩ := file_start st (by omega) rs t
  have hx0 := Ext.litB (fun _ => False) g w [83, 89, 74, 76] (4, 5)
  have HM := Lib.hid (BytesAt.lit g w [83, 89, 74, 76] (4, 5) (by decide))
  have HB := Lib.hid (hb.ext hx0)
  have HJ := Lib.hid (hJ.ext hx0 (fun h => h))
  have HX0 := Lib.hid hx0
  have HF1 := Lib.hid f1
  have HF2 := Lib.hid f2
  have HF4 := Lib.hid f4
  have HRL := Lib.hid hrl
  have HFD := Lib.hid (fun k hk => file_drop st rs t k hk)
  have HFE := Lib.hid (file_end st rs t)
  have HFL : Hid ((fileB st rs).length ≤ (fileB st rs ++ t).length) := by show _ ≤ _; rw [List.length_append]; omega
  have HFN := Lib.hid (fun k hk => file_next st rs k hk)
  have HT := Lib.hid ht
  clear hb hx0 hJ f1 f2 f4 hrl ht
  simp only [List.length_cons, List.length_nil, Nat.zero_add, Nat.reduceAdd] at HM HB HJ HX0
  generalize g.lit w.heap.size 4 = g0 at *
  have HE0 : Hid ((fileB st rs).length = (fileB st (rs.take rs.length)).length) := by show _ = _; rw [List.take_length]
  generalize fileB st rs ++ t = L at *
  go_enter Try.func27, Try.ntmps27
  go_wp2_with fail
  go_step3
  go_wp2_with fail
  refine (hasPrefix_any g0 _ A _ L.length c 4 L [83, 89, 74, 76] HB.out HM.out f3 HF4.out).mono ?_
  rintro e w1 ⟨rfl, n1, rfl⟩
  have hx1 : Ext (fun _ => False) g0 (w.alloc (.cells (bv [83, 89, 74, 76]).toArray 5 (4, 5))) g0 ((w.alloc (.cells (bv [83, 89, 74, 76]).toArray 5 (4, 5))).drewN n1) := (Ext.refl _ _ _).drewN _
  have HX1 := Lib.hid (HX0.out.trans hx1)
  have HJ1 := Lib.hid (HJ.out.ext hx1 (fun h => h))
  have HB1 := Lib.hid (HB.out.ext hx1)
  clear hx1 HX0 HJ HB HM hcv
  generalize (w.alloc (.cells (bv [83, 89, 74, 76]).toArray 5 (4, 5))).drewN n1 = w1 at *
  obtain ⟨hbz, hbr, hcc⟩ : (A = none → L.length = 0) ∧ Rd 1 g0 w1 A L.length (bv L) ∧ L.length ≤ c := by
    obtain ⟨A', cap, he, q1, q2, hz, hr⟩ := HB1.out.ex
    injection he with e1 e2 e3
    subst e1 e3
    exact ⟨hz, hr, q1⟩
  have HBR := Lib.hid hbr
  clear hbz hbr
  go_wp2_with fail
  refine (uint_any g0 A c L 4 w1 HBR.out hlen f3 hcc).mono ?_
  rintro e w' hu
  obtain ⟨rfl, rfl⟩ := hu.ok HF1.out HF2.out
  clear hu
  obtain ⟨A1, c1, v1, A2, c2, v2, hb1, hi1⟩ := HJ1.out
  have q2 : w1.cell? ⟨j, 2, none⟩ = some (.int .i64 0) := hb1.cell 2
  have q6 : w1.cell? ⟨j, 6, none⟩ = some (.bool false) := hb1.cell 6
  have z := hb1.fz
  have hwrap : IntKind.i64.wrap (st : Int) = st := by rw [IntKind.wrap_i64]; omega
  have HB2 := Lib.hid hb1
  have HI2 := Lib.hid hi1
  clear hb1 hi1
  go_wp2_with fail
  go_step3
  go_wp2_with fail
  clear q2 q6 z hwrap
  go_loopw [5] (fun i wr => ∃ (k : Nat) (gr : Gh) (B1 : Option Addr) (e1 : Nat) (u1 : List Value), k ≤ rs.length ∧ i = .int .i64 ((fileB st (rs.take k)).length : Nat) ∧ Ext (· = j) g0 w1 gr wr ∧ Blk j 66 (jCs d B1 e1 A2 c2 (recJ name st (rs.take k) true)) wr ∧ JIn gr wr j B1 e1 u1 A2 c2 v2 (recJ name st (rs.take k) true)) (fun i _ => L.length - (intOf i).toNat)
  case atStart =>
    obtain ⟨y1, hi7⟩ := HI2.out.self (grownBy_setCell w1 ⟨j, 2, none⟩ (.int .i64 st))
    obtain ⟨y2, hi8⟩ := hi7.self (grownBy_setCell _ ⟨j, 6, none⟩ (.bool true))
    refine ⟨0, g0, A1, c1, v1, Nat.zero_le _, rfl, y1.trans y2, ?_, ?_⟩
    · have := ((HB2.out.set 2 (.int .i64 st)).set 6 (.bool true))
      simpa [jCs, jrn0, recJ, lens] using this
    · exact ⟨hi8.r1, hi8.q1, hi8.r2, hi8.q2, hi8.ne, hi8.O, hi8.F⟩
  case round =>
    obtain ⟨k, gr, B1, e1, u1, hk, rfl, hx, hb, hi⟩ := hrel
    have HX3 := Lib.hid hx
    have HB3 := Lib.hid hb
    have HI3 := Lib.hid hi
    have HR3 := Lib.hid (HBR.out.ext hx)
    have z := hb.fz
    have q3 : wr.cell? ⟨j, 3, none⟩ = some (.slice B1 (rs.take k).length e1) := hb.cell 3
    have q5 : wr.cell? ⟨j, 5, none⟩ = some (.int .i64 (lens (rs.take k))) := hb.cell 5
    have q6 : wr.cell? ⟨j, 6, none⟩ = some (.bool true) := hb.cell 6
    clear hx hb hi
    by_cases hlt : k < rs.length
    · obtain ⟨d1, d2, d3, d4, d5⟩ := frame_read (HFD.out k hlt) (HRL.out _ (List.getElem_mem hlt))
      have hrl := HRL.out _ (List.getElem_mem hlt)
      have HN := Lib.hid (HFN.out k hlt)
      have HLS := Lib.hid (lens_snoc hlt)
      have HTS : Hid (rs.take (k + 1) = rs.take k ++ [rs[k]]) := by
        show _ = _
        rw [List.take_add_one, List.getElem?_eq_getElem hlt]; rfl
      have hlt0 := lens_take rs k
      have HLT1 := Lib.hid (lens_take rs (k + 1))
      have hsn := sumF_nat rs[k]
      have HSN := Lib.hid hsn.1
      generalize hr : rs[k] = r at *
      have hTL : (rs.take k).length = k := by rw [List.length_take]; omega
      generalize hfk : (fileB st (rs.take k)).length = p at *
      generalize hp1 : p + (encU r.length).length = p1 at *
      generalize hp2 : p1 + (encU (sumF r).toNat).length = p2 at *
      have hle2 : p2 + r.length ≤ L.length := by omega
      have hle1 : p1 ≤ L.length := by omega
      have hle0 : p ≤ L.length := by omega
      have HD1 := Lib.hid d1
      have HD2 := Lib.hid d2
      have hrd := (HR3.out.cut (l := p2) (k := r.length) (m := p2 + r.length) hle2 (Nat.le_refl _))
      simp only [Nat.mul_one, bv_drop, bv_take] at hrd
      rw [d3] at hrd
      have HRD := Lib.hid hrd
      obtain ⟨i0, hi0, hz0, hz1, hz2⟩ := info_parts Try.infoU8
      have hcut' := run_cut_lhm (P := Try.prog) Try.underlying37 hi0 A L.length c p2 (p2 + r.length) (p2 + r.length) (by omega) (by omega) (by omega)
      rw [hz1] at hcut'
      have hsub : p2 + r.length - p2 = r.length := by omega
      rw [hsub] at hcut'
      have hcut : ∀ w, (Instr.slice 37 (.slice A L.length c) (some (.int .i64 (p2 : Int))) (some (.int .i64 ((p2 : Int) + (r.length : Int)))) (some (.int .i64 ((p2 : Int) + (r.length : Int))))).run Try.prog w = .ok (.slice (cutA 1 A (p2 + r.length) p2) r.length r.length) w := by
        intro w
        have := hcut' w
        simpa using this
      have hcz : cutA 1 A (p2 + r.length) p2 = none → r.length = 0 := fun h => by
        rcases Nat.eq_zero_or_pos r.length with h' | h'
        · exact h'
        · obtain ⟨b, off, hA, _⟩ := hrd.at_ h'
          rw [h] at hA; cases hA
      have HBA : Hid (BytesAt gr wr (.slice (cutA 1 A (p2 + r.length) p2) r.length r.length) r) := ⟨_, _, rfl, Nat.le_refl _, by simp only [maxLen]; omega, hcz, hrd⟩
      clear hcut' hrd hcz d1 d2 d3 d4 hsn hsub
      generalize cutA 1 A (p2 + r.length) p2 = A3 at *
      have HCUT := Lib.hid hcut
      clear hcut
      have hwrap : IntKind.i64.wrap (r.length : Int) = r.length := by rw [IntKind.wrap_i64]; omega
      have hplt : decide ((p : Int) < L.length) = true := by simp; omega
      generalize hrn : r.length = rl at *
      go_wp2_with fail
      refine (uint_any gr A c L p wr HR3.out hlen hle0 hcc).mono ?_
      rintro e w' hu
      obtain ⟨rfl, rfl⟩ := hu.ok HD1.out hp1
      clear hu
      go_wp2_with fail
      refine (uint_any gr A c L p1 wr HR3.out hlen hle1 hcc).mono ?_
      rintro e w' hu
      obtain ⟨rfl, rfl⟩ := hu.ok HD2.out hp2
      clear hu
      rw [HSN.out]
      have hcut := HCUT.out
      have hsz : decide ((L.length : Int) - p2 < rl) = false := by simp; omega
      go_wp2_with fail
      have hsum := sum_any gr A3 rl r wr (by rw [hrn]; exact HRD.out) (by omega)
      rw [hrn] at hsum
      refine hsum.mono ?_
      rintro e w' ⟨rfl, rfl⟩
      clear hsum
      obtain ⟨i1, hi1, hy0, hy1, hy2⟩ := info_parts Try.infoBytes
      have hal : Ext (fun _ => False) gr wr gr (wr.alloc (.cells #[.slice A3 rl rl] 37)) := (Ext.refl _ _ _).alloc _
      have HI4 := Lib.hid (HI3.out.ext hal (fun h => h) HB3.out.lt)
      have HB4 : Hid (Blk j 66 (jCs d B1 e1 A2 c2 (recJ name st (rs.take k) true)) (wr.alloc (.cells #[.slice A3 rl rl] 37))) := HB3.out.alloc _
      have HX4 := Lib.hid (HX3.out.trans (hal.imp (fun _ h => h.elim)))
      have HA4 := Lib.hid (HBA.out.ext hal)
      have HSRC : Hid (Src Try.prog 1 33 (.slice (some ⟨wr.heap.size, 0, none⟩) 1 1) 1 [.slice A3 rl rl] (wr.alloc (.cells #[.slice A3 rl rl] 37))) :=
        Src.ofSlice _ Try.underlying33 _ 1 1 _ rfl (fun j u hu => by
          have hh : (wr.alloc (.cells #[.slice A3 rl rl] 37)).heap[wr.heap.size]? = some (.cells #[.slice A3 rl rl] 37 (0, 0)) := heap_alloc_new wr _
          rw [add_lit, Nat.zero_add, cell_at hh]
          simpa using hu) (by simp [Value.oneCell'])
      have HAP : Hid (App 37 1 j gr (wr.alloc (.cells #[.slice A3 rl rl] 37)) B1 (rs.take k).length e1 u1) := HI4.out.r1
      clear hal
      rw [hTL] at HAP q3
      generalize hL0 : lens (rs.take k) = L0 at *
      go_wp2_with (at_builtin; refine wpList_append_app rfl _ _ _ _ rfl 37 i1 (.slice none 0 0) 1 24 Try.underlying33 hi1 hy0 hy1 hy2 rfl (by decide) rfl HAP.out rfl HSRC.out (by unfold maxLen; omega) (by omega) ?_; intro A5 c5 w5 g5 hx5 ha5 hl5; have HR5 := Lib.hid (HI4.out.recd rfl HB4.out.lt hx5 (by rw [show (recJ name st (rs.take k) true).recs.length = k from hTL]; exact ha5) (by rw [show (recJ name st (rs.take k) true).recs.length = k from hTL]; exact hl5) HA4.out (recJ name st (rs.take (k + 1)) true) HTS.out rfl); have HB5 : Hid (Blk j 66 (jCs d B1 e1 A2 c2 (recJ name st (rs.take k) true)) w5) := HB4.out.of HR5.out.2; have q3' : w5.cell? ⟨j, 3, none⟩ = some (.slice B1 k e1) := (show w5.cell? ⟨j, 3, none⟩ = some (.slice B1 (rs.take k).length e1) from HB5.out.cell 3).trans (by rw [hTL]); have q5' : w5.cell? ⟨j, 5, none⟩ = some (.int .i64 L0) := (show w5.cell? ⟨j, 5, none⟩ = some (.int .i64 ((lens (rs.take k) : Nat) : Int)) from HB5.out.cell 5).trans (by rw [hL0]); have z' := HB5.out.fz; have HX5 := Lib.hid (HX4.out.trans hx5); clear hx5 ha5 hl5 q3 q5 q6 z)
      go_round
      case rel =>
        obtain ⟨y1, hi7⟩ := HR5.out.1.self (grownBy_setCell w5 ⟨j, 3, none⟩ (.slice A5 (k + 1) c5))
        obtain ⟨y2, hi8⟩ := hi7.self (grownBy_setCell _ ⟨j, 5, none⟩ (.int .i64 ((L0 : Int) + rl)))
        have hTL1 : (rs.take (k + 1)).length = k + 1 := by rw [List.length_take]; omega
        refine ⟨k + 1, g5, A5, c5, _, by omega, ?_, HX5.out.trans (y1.trans y2), ?_, hi8⟩
        · rw [HN.out]
          simp only [Int.natCast_add]
        · have := ((HB5.out.set 3 (.slice A5 (k + 1) c5)).set 5 (.int .i64 ((L0 : Int) + rl)))
          have e5 : ((lens (rs.take (k + 1)) : Nat) : Int) = (L0 : Int) + rl := by rw [HLS.out]; simp
          simp only [jCs, recJ, hTL1, e5]
          simpa [jCs, recJ] using this
      case measure =>
        have := encU_pos rl
        simp [intOf]
        omega
    · obtain rfl : k = rs.length := by omega
      have HFE2 := HFE
      have hTL : rs.take rs.length = rs := List.take_length
      rw [hTL] at HB3 HI3 q3 q5
      rw [hTL]
      have HFIN : Hid (∀ wh, wh = t.isEmpty → JP j d g w (recJ name st rs t.isEmpty) (wr.setCell ⟨j, 6, none⟩ (.bool wh))) := by
        intro wh hwh
        obtain ⟨y2, hi8⟩ := HI3.out.self (grownBy_setCell wr ⟨j, 6, none⟩ (.bool wh))
        refine ⟨gr, ((HX1.out.imp (fun _ h => h.elim)).trans HX3.out).trans y2, B1, e1, u1, A2, c2, v2, ?_, ⟨hi8.r1, hi8.q1, hi8.r2, hi8.q2, hi8.ne, hi8.O, hi8.F⟩⟩
        have := HB3.out.set 6 (.bool wh)
        rw [← hwh]
        simpa [jCs, recJ] using this
      have HFIN0 : Hid (t = [] → JP j d g w (recJ name st rs t.isEmpty) wr) := by
        intro h0
        refine ⟨gr, (HX1.out.imp (fun _ h => h.elim)).trans HX3.out, B1, e1, u1, A2, c2, v2, ?_, ?_⟩
        · rw [h0]; exact HB3.out
        · rw [h0]; exact HI3.out
      have hfl : (fileB st rs).length ≤ L.length := HFL.out
      obtain ⟨hlen2, htc⟩ := torn_at HFE2.out HT.out hfl
      generalize (fileB st rs).length = p at *
      by_cases ht0 : t = []
      · have hge : L.length ≤ p := by rw [ht0] at hlen2; simp at hlen2; omega
        clear hlen2 htc
        go_wp2_with fail
        rw [Exit.noGoto_normal]
        go_end0
        exact ⟨rfl, HFIN0.out ht0⟩
      · have hge : p < L.length := by
          have : t.length ≠ 0 := fun h => ht0 (List.eq_nil_of_length_eq_zero h)
          omega
        have HEM : Hid (false = t.isEmpty) := by show _ = _; simp [ht0]
        clear hlen2
        rcases htc with htc | ⟨rl, e5, t1, t2, t3, htc⟩
        · have HC := Lib.hid htc
          clear htc
          go_wp2_with fail
          refine (uint_any gr A c L p wr HR3.out hlen hfl hcc).mono ?_
          rintro e w' hu
          obtain ⟨rfl, rfl⟩ := hu.bad HC.out
          clear hu
          go_wp2_with fail
          rw [Exit.noGoto_normal]
          go_end0
          exact ⟨rfl, HFIN.out _ HEM.out⟩
        obtain ⟨p1, hp1⟩ : ∃ p1, p + e5 = p1 := ⟨_, rfl⟩
        rw [hp1] at t3 htc
        have HT2 := Lib.hid t2
        have HP1 := Lib.hid hp1
        clear t2 hp1
        have hwrap : IntKind.i64.wrap (rl : Int) = rl := by rw [IntKind.wrap_i64]; omega
        rcases htc with htc | ⟨s, e6, t4, t5, t6, t7⟩
        · have HC := Lib.hid htc
          clear htc
          go_wp2_with fail
          refine (uint_any gr A c L p wr HR3.out hlen hfl hcc).mono ?_
          rintro e w' hu
          obtain ⟨rfl, rfl⟩ := hu.ok HT2.out HP1.out
          clear hu
          go_wp2_with fail
          refine (uint_any gr A c L p1 wr HR3.out hlen t3 hcc).mono ?_
          rintro e w' hu
          obtain ⟨rfl, rfl⟩ := hu.bad HC.out
          clear hu
          go_wp2_with fail
          rw [Exit.noGoto_normal]
          go_end0
          exact ⟨rfl, HFIN.out _ HEM.out⟩
        · obtain ⟨p2, hp2⟩ : ∃ p2, p1 + e6 = p2 := ⟨_, rfl⟩
          rw [hp2] at t6 t7
          have HT5 := Lib.hid t5
          have HP2 := Lib.hid hp2
          clear t5 hp2
          have hsz : L.length < p2 + rl := by omega
          go_wp2_with fail
          refine (uint_any gr A c L p wr HR3.out hlen hfl hcc).mono ?_
          rintro e w' hu
          obtain ⟨rfl, rfl⟩ := hu.ok HT2.out HP1.out
          clear hu
          go_wp2_with fail
          refine (uint_any gr A c L p1 wr HR3.out hlen t3 hcc).mono ?_
          rintro e w' hu
          obtain ⟨rfl, rfl⟩ := hu.ok HT5.out HP2.out
          clear hu
          go_wp2_with fail
          rw [Exit.noGoto_normal]
          go_end0
          exact ⟨rfl, HFIN.out _ HEM.out⟩
end

section
open Go.RowKit

set_option maxRecDepth 100000 in
theorem open_some (d : Nat) (g : Gh) (w : World) (D : Dev) (hD : DevAt g w d D) (name : ByteArray) (h : nmB false 40 name = true) (hdn : D.down = false) (st : Nat) (hst : st < 9223372036854775808) (rs : List (List UInt8)) (t : List UInt8) (hm : D.now.m (jrn0 name).file = some (fileB st rs ++ t)) (ht : Torn t) (hrl : ∀ r ∈ rs, r.length ≤ 65536) (hcl : rs.length ≤ 1000000) (hbl : lens rs ≤ 1000000000) (hlen : (fileB st rs ++ t).length ≤ 140737488355328) :
    Calls Try.prog 5 #[.pointer (some ⟨d, 0, none⟩), .string name] w fun e w' => ∃ j g', e = .returned (.tuple #[.pointer (some ⟨j, 0, none⟩), .int .i64 0]) ∧ w.heap.size ≤ j ∧ Ext (fun o => o = j) g w g' w' ∧ JAt g' w' j d (recJ name st rs t.isEmpty) := by
  obtain ⟨n0, n1, n2, n3⟩ := JOk.names h (J := jrn0 name) rfl
  have hx := Ext.box (fun _ => False) g w (.cells #[.pointer (some ⟨d, 0, none⟩), .string name, .int .i64 0, .slice none 0 0, .slice none 0 0, .int .i64 0, .bool false, .bool false] 66)
  have hJ := JAt.new g w d name
  have HX := Lib.hid hx
  have HJ := Lib.hid hJ
  have HD := Lib.hid (hD.ext hx (fun h => h))
  have HRL := Lib.hid hrl
  have HT := Lib.hid ht
  have HG : Hid (D.now.get (jrn0 name).file = fileB st rs ++ t) := by show _ = _; unfold Fl.get; rw [hm]; rfl
  clear hx hJ hD hrl ht
  go_enter Try.func5, Try.ntmps5
  go_wp2_with fail
  refine (jname_any name w (by have : name.size ≤ 40 := n0; omega)).mono ?_
  rw [h]
  rintro e w' ⟨rfl, rfl⟩
  go_wp2_with fail
  refine (jfile_any w.heap.size d _ _ (jrn0 name) HJ.out n0).mono ?_
  rintro e w' ⟨rfl, rfl⟩
  go_wp2_with fail
  refine (dread_any d 0 _ _ D HD.out (jrn0 name).file n1).mono ?_
  rintro e w2 ⟨A, cap, g2, hx2, rfl, hB⟩
  have HB := Lib.hid (hB hdn)
  have HX2 := Lib.hid hx2
  have HJ2 := Lib.hid (HJ.out.ext hx2 (fun h => h))
  clear hx2 hB
  rw [HG.out] at HB
  rw [hdn, hm, HG.out]
  generalize hL : (fileB st rs ++ t).length = len at *
  go_wp2_with fail
  subst hL
  refine (recover_any w.heap.size d g2 w2 name HJ2.out st hst rs t HT.out HRL.out hcl hbl A cap HB.out hlen).mono ?_
  rintro e w3 ⟨rfl, g3, hx3, hJ3⟩
  have HX3 := Lib.hid (((HX.out.trans HX2.out).imp (fun _ h => h.elim)).trans hx3)
  have HJ3 := Lib.hid hJ3
  clear hx3 hJ3
  go_wp2_with fail
  go_ret2
  exact ⟨w.heap.size, g3, rfl, Nat.le_refl _, HX3.out, HJ3.out⟩

set_option maxRecDepth 100000 in
theorem open_down (d : Nat) (g : Gh) (w : World) (D : Dev) (hD : DevAt g w d D) (name : ByteArray) (h : nmB false 40 name = true) (hdn : D.down = true) :
    Calls Try.prog 5 #[.pointer (some ⟨d, 0, none⟩), .string name] w fun e w' => e = .returned (.tuple #[.pointer none, .int .i64 303]) ∧ SameP g w w' := by
  obtain ⟨n0, n1, n2, n3⟩ := JOk.names h (J := jrn0 name) rfl
  have hx := Ext.box (fun _ => False) g w (.cells #[.pointer (some ⟨d, 0, none⟩), .string name, .int .i64 0, .slice none 0 0, .slice none 0 0, .int .i64 0, .bool false, .bool false] 66)
  have hJ := JAt.new g w d name
  have HX := Lib.hid hx
  have HJ := Lib.hid hJ
  have HD := Lib.hid (hD.ext hx (fun h => h))
  clear hx hJ hD
  go_enter Try.func5, Try.ntmps5
  go_wp2_with fail
  refine (jname_any name w (by have : name.size ≤ 40 := n0; omega)).mono ?_
  rw [h]
  rintro e w' ⟨rfl, rfl⟩
  go_wp2_with fail
  refine (jfile_any w.heap.size d _ _ (jrn0 name) HJ.out n0).mono ?_
  rintro e w' ⟨rfl, rfl⟩
  go_wp2_with fail
  refine (dread_any d 0 _ _ D HD.out (jrn0 name).file n1).mono ?_
  rintro e w2 ⟨A, cap, g2, hx2, rfl, _⟩
  have HX2 := Lib.hid hx2
  clear hx2
  rw [hdn]
  go_wp2_with fail
  go_ret2
  exact ⟨rfl, g2, HX.out.trans HX2.out⟩

/-- A journal on a device that is not down, opened anew. -/
theorem gopen (d : Nat) (g : Gh) (w : World) (J : Jrn) (D : Dev) (c m : Nat) (hD : DevAt g w d D) (hG : Good J D c m) (hm : m ≤ 4611686018427387904) :
    Calls Try.prog 5 #[.pointer (some ⟨d, 0, none⟩), .string J.name] w fun e w' => ∃ j g', e = .returned (.tuple #[.pointer (some ⟨j, 0, none⟩), .int .i64 0]) ∧ w.heap.size ≤ j ∧ Ext (fun o => o = j) g w g' w' ∧ JAt g' w' j d (disR J) := by
  have h1 := hG.st0
  have h2 := hG.st1
  have h3 := hG.cnt
  have h4 := hG.bx
  have h5 := hG.dead
  have hrl : ∀ r ∈ J.recs, r.length ≤ 65536 := fun r hr => hG.rl r (List.mem_append_left _ hr)
  cases hw : J.whole
  · obtain ⟨e1, e2, e3⟩ := hG.nw hw
    refine (open_none d g w D hD J.name hG.nm hG.up.dn e1).mono ?_
    rintro e w' ⟨j', g', a1, a2, a3, a4⟩
    refine ⟨j', g', a1, a2, a3.imp (fun _ h => h.elim), ?_⟩
    have : disR J = jrn0 J.name := by
      rcases J with ⟨a, b, cc, dd, e, f, g⟩
      simp only at hw e2 e3 h5
      subst hw e2 e3 h5
      rfl
    rw [this]; exact a4
  · have e1 := hG.wh hw
    have hl := fileB_len J.start.toNat (by omega) J.recs hrl
    refine (open_some d g w D hD J.name hG.nm hG.up.dn J.start.toNat (by omega) J.recs [] (by rw [List.append_nil]; exact e1) Torn.nil hrl (by omega) (by omega) (by rw [List.append_nil]; omega)).mono ?_
    rintro e w' ⟨j', g', a1, a2, a3, a4⟩
    refine ⟨j', g', a1, a2, a3, ?_⟩
    have : disR J = recJ J.name J.start.toNat J.recs ([] : List UInt8).isEmpty := by
      rcases J with ⟨a, b, cc, dd, e, f, g⟩
      simp only at hw h5 h1
      subst hw h5
      have hb : ((b.toNat : Nat) : Int) = b := by omega
      simp only [disR, recJ, hb]
      rfl
    rw [this]; exact a4
end

end Go.Proofs.Ythjbaafbkalomaa
