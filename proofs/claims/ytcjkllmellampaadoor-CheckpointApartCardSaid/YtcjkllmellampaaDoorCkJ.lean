/-
  A journal with records of one byte each; the reference's Recover; lists of byte strings compared.
-/
import Derived.Test.YtcjkllmellampaaDoorCkR
import Derived.Test.YtcjkllmellampaaDoorCkKn
namespace Go.Proofs.YtcjkllmellampaaDoor
open Go.RowKit

/-- n records of one byte each. -/
def bL (n : Nat) : List (List UInt8) := (List.range n).map fun i => [UInt8.ofNat i]
theorem bL_len (n : Nat) : (bL n).length = n := by simp [bL]
theorem bL_succ (n : Nat) : bL (n + 1) = bL n ++ [[UInt8.ofNat n]] := by simp [bL, List.range_succ]
theorem bL_lens (n : Nat) : lens (bL n) = n := by
  induction n with
  | zero => rfl
  | succ n ih => rw [bL_succ, lens_append, ih]; simp [lens]
theorem bL_get (n k : Nat) (h : k < n) : (bL n)[k]? = some [UInt8.ofNat k] := by simp [bL, h]

/-- What log leaves. -/
def LogP (d : Nat) (name : ByteArray) (n before m : Nat) (g : Gh) (w : World) (D : Dev) (e : Ending) (w' : World) : Prop :=
  ∃ j J' D' g', e = .returned (.tuple #[.pointer (some ⟨j, 0, none⟩), .bool true]) ∧ w.heap.size ≤ j ∧ Ext (fun o => o = d ∨ w.heap.size ≤ o) g w g' w' ∧ JAt g' w' j d J' ∧ DevAt g' w' d D' ∧ Good J' D' D.now.n m ∧
    J'.name = name ∧ J'.start = before ∧ J'.recs = (bL n).drop before ∧ J'.pend = [] ∧ ∀ q, q ≠ (jrn0 name).file → q ≠ (jrn0 name).fresh → D'.now.m q = D.now.m q

set_option maxRecDepth 100000 in
set_option maxHeartbeats 6400000 in
theorem log_any (d : Nat) (g : Gh) (w : World) (D : Dev) (hD : DevAt g w d D) (up : Up D) (pl : D.pend = []) (kp : D.kept = D.now) (name : ByteArray) (hn : nmB false 40 name = true) (h1 : D.now.m (jrn0 name).file = none) (h2 : D.now.m (jrn0 name).fresh = none) (hc : D.now.n ≤ 200) (n before : Nat) (hn10 : n ≤ 100) (hb : before ≤ n) :
    Calls Tryd.prog 26 #[.pointer (some ⟨d, 0, none⟩), .string name, .int .i64 n, .int .i64 before] w (LogP d name n before 200 g w D) := by
  have HD := Lib.hid hD
  have HG := Lib.hid (Good.new up pl kp hn h1 h2 0)
  have hdn := up.dn
  have hdl := hD.lt
  clear hD up pl kp
  go_enter Tryd.func26, Tryd.ntmps26
  go_wp2_with fail
  refine (open_none d g w D HD.out name hn hdn h1).mono ?_
  rintro e w1 ⟨j, g1, rfl, hj, hx1, hJ1⟩
  have HX1 := Lib.hid (hx1.imp (fun o (h : False) => (h.elim : o = d ∨ w.heap.size ≤ o)))
  have HJ1 := Lib.hid hJ1
  have HD1 := Lib.hid (HD.out.ext hx1 (fun h => h))
  clear hx1 hJ1 HD
  go_wp2_with fail
  go_loopw [12] (fun i wr => ∃ (k : Nat) (gr : Gh) (J : Jrn), k ≤ n ∧ i = .int .i64 k ∧ Ext (fun o => o = d ∨ w.heap.size ≤ o) g w gr wr ∧ JAt gr wr j d J ∧ DevAt gr wr d D ∧ Good J D D.now.n k ∧ J.recs = [] ∧ J.pend = bL k ∧ J.start = 0 ∧ J.name = name) (fun i _ => n - (intOf i).toNat)
  case atStart => exact ⟨0, g1, jrn0 name, Nat.zero_le _, rfl, HX1.out, HJ1.out, HD1.out, HG.out, rfl, rfl, rfl, rfl⟩
  case round =>
    obtain ⟨k, gr, J, hk, rfl, hx, hJr, hDr, hGr, q1, q2, q3, q4⟩ := hrel
    have HX2 := Lib.hid hx
    have HJ2 := Lib.hid hJr
    have HD2 := Lib.hid hDr
    have HG2 := Lib.hid hGr
    have HQ := Lib.hid (And.intro q1 (And.intro q2 (And.intro q3 q4)))
    clear hx hJr hDr hGr q1 q2 q3 q4 HX1 HJ1 HD1 HG
    have hsz := HX2.out.size
    by_cases hlt : k < n
    · have hx3 := Ext.litB (fun _ => False) gr wr [UInt8.ofNat k] (0, 0)
      have hb3 := BytesAt.lit gr wr [UInt8.ofNat k] (0, 0) (by simp)
      have hk8 : (UInt8.ofNat k).toNat = k := by simp; omega
      have hbv : (bv [UInt8.ofNat k]).toArray = #[.int .u8 (k : Int)] := by simp only [bv, List.map_cons, List.map_nil, u8v, hk8]
      have hwrap : IntKind.u8.wrap (k : Int) = k := by rw [IntKind.wrap_u8]; omega
      simp only [List.length_cons, List.length_nil, Nat.zero_add] at hx3 hb3
      rw [hbv] at hx3 hb3
      have HX3 := Lib.hid (HX2.out.trans (hx3.imp (fun o (h : False) => (h.elim : o = d ∨ w.heap.size ≤ o))))
      have HB3 := Lib.hid hb3
      have HJ3 := Lib.hid (HJ2.out.ext hx3 (fun h => h))
      have HD3 := Lib.hid (HD2.out.ext hx3 (fun h => h))
      have HA : Hid (jappI J [UInt8.ofNat k] = 0) := by
        show _ = _
        rw [HG2.out.appI, HQ.out.1, HQ.out.2.1]
        simp only [List.length_cons, List.length_nil, bL_len, bL_lens, lens]
        rw [if_neg (by omega), if_neg (by omega), if_neg (by omega)]
      have HJE : Hid (jappJ J [UInt8.ofNat k] = { J with pend := J.pend ++ [[UInt8.ofNat k]], bytes := J.bytes + 1 }) := by
        show _ = _
        unfold jappJ
        rw [if_pos HA.out]
        simp
      clear hx3 hb3 hbv
      go_wp2_with fail
      refine (gappend j d _ _ J D D.now.n k HJ3.out HD3.out HG2.out (by omega) hc _ _ [UInt8.ofNat k] HB3.out (by simp)).mono ?_
      rw [HA.out]
      rintro e w4 ⟨rfl, g4, hx4, hJ4, hD4⟩
      have HX4 := Lib.hid (HX3.out.trans (hx4.imp (fun o (h : o = d ∨ o = j) => show o = d ∨ w.heap.size ≤ o by omega)))
      have HJ4 := Lib.hid hJ4
      have HD4 := Lib.hid hD4
      have HG4 := Lib.hid (HG2.out.appJ [UInt8.ofNat k])
      clear hx4 hJ4 hD4 HX3 HJ3 HD3
      go_wp2_with fail
      go_round
      case rel =>
        refine ⟨k + 1, g4, _, by omega, by go_num, HX4.out, HJ4.out, HD4.out, HG4.out, ?_, ?_, ?_, ?_⟩
        · rw [HJE.out]; exact HQ.out.1
        · rw [HJE.out, bL_succ, ← HQ.out.2.1]
        · rw [HJE.out]; exact HQ.out.2.2.1
        · rw [HJE.out]; exact HQ.out.2.2.2
      case measure => simp [intOf]; omega
    · obtain rfl : k = n := by omega
      go_wp2_with fail
      refine (gcommit j d gr wr J D D.now.n k HJ2.out HD2.out HG2.out (by omega) hc).mono ?_
      rintro e w5 ⟨rfl, D5, ⟨g5, hx5, hJ5, hD5⟩, hG5, hot5⟩
      have HX5 := Lib.hid (HX2.out.trans (hx5.imp (fun o (h : o = d ∨ o = j) => show o = d ∨ w.heap.size ≤ o by omega)))
      have HJ5 := Lib.hid hJ5
      have HD5 := Lib.hid hD5
      have HG5 := Lib.hid hG5
      have HO5 := Lib.hid hot5
      have HC : Hid (cutI (comR J) before = 0) := by
        show _ = _
        unfold cutI comR
        simp only [HQ.out.1, HQ.out.2.1, HQ.out.2.2.1, List.nil_append, bL_len]
        rw [if_neg (by omega)]
      have HCR : Hid ((cutR (comR J) before).name = name ∧ (cutR (comR J) before).start = before ∧ (cutR (comR J) before).recs = (bL k).drop before ∧ (cutR (comR J) before).pend = []) := by
        show _ ∧ _
        unfold cutR
        by_cases h0 : before = 0
        · subst h0
          rw [if_pos (.inl (by simp only [comR, HQ.out.2.2.1]; omega))]
          refine ⟨HQ.out.2.2.2, by simp only [comR, HQ.out.2.2.1]; rfl, ?_, rfl⟩
          simp only [comR, HQ.out.1, HQ.out.2.1, List.nil_append, List.drop_zero]
        · rw [if_neg (by simp only [comR, HQ.out.2.2.1, HQ.out.1, HQ.out.2.1, List.nil_append, bL_len]; omega)]
          refine ⟨HQ.out.2.2.2, rfl, ?_, rfl⟩
          simp only [comR, HQ.out.1, HQ.out.2.1, HQ.out.2.2.1, List.nil_append]
          congr 1
      clear hx5 hJ5 hD5 hG5 hot5
      go_wp2_with fail
      refine (gcut j d g5 w5 _ D5 D.now.n k HJ5.out HD5.out HG5.out (by omega) hc before).mono ?_
      rw [HC.out]
      rintro e w6 ⟨rfl, D6, ⟨g6, hx6, hJ6, hD6⟩, hG6, hot6⟩
      have HX6 := Lib.hid (HX5.out.trans (hx6.imp (fun o (h : o = d ∨ o = j) => show o = d ∨ w.heap.size ≤ o by omega)))
      have HE6 := Lib.hid (And.intro hJ6 (And.intro hD6 (And.intro hG6 hot6)))
      clear hx6 hJ6 hD6 hG6 hot6
      go_wp2_with fail
      go_ret2
      have hf : ∀ {J' : Jrn}, J'.name = name → J'.file = (jrn0 name).file ∧ J'.fresh = (jrn0 name).fresh := fun h => by simp [Jrn.file, Jrn.fresh, jrn0, h]
      have hcn : (comR J).name = name := HQ.out.2.2.2
      refine ⟨j, _, D6, g6, rfl, hj, HX6.out, HE6.out.1, HE6.out.2.1, HE6.out.2.2.1.more (by omega), HCR.out.1, HCR.out.2.1, HCR.out.2.2.1, HCR.out.2.2.2, fun q k1 k2 => ?_⟩
      rw [HE6.out.2.2.2 q (by rw [(hf hcn).1]; exact k1) (by rw [(hf hcn).2]; exact k2)]
      exact HO5.out q (by rw [(hf HQ.out.2.2.2).1]; exact k1) (by rw [(hf HQ.out.2.2.2).2]; exact k2)

set_option maxRecDepth 100000 in
theorem rend_any (g : Gh) (w : World) (s : Int) (A1 A2 : Option Addr) (n1 c1 n2 c2 : Nat) (h0 : 0 ≤ s) (h1 : s ≤ 4611686018427387904) (h2 : n1 ≤ 1000000) :
    Calls Tryd.prog 41 #[.agg #[.int .i64 s, .slice A1 n1 c1, .slice A2 n2 c2]] w fun e w' => e = .returned (.int .i64 (s + n1)) ∧ SameP g w w' := by
  have hx := Ext.box (fun _ => False) g w (.cells #[.int .i64 s, .slice A1 n1 c1, .slice A2 n2 c2] 62)
  have HX := Lib.hid hx
  clear hx
  go_enter Tryd.func41, Tryd.ntmps41
  go_wp2_with fail
  go_ret
  exact ⟨rfl, _, HX.out⟩

theorem ba_ne {a b : List UInt8} (h : a ≠ b) : ((⟨a.toArray⟩ : ByteArray) == ⟨b.toArray⟩) = false := by
  cases e : ((⟨a.toArray⟩ : ByteArray) == ⟨b.toArray⟩)
  · rfl
  · rw [ba_beq] at e
    exact absurd (by simpa using congrArg (fun x : ByteArray => x.data.toList) e) h

set_option maxRecDepth 100000 in
set_option maxHeartbeats 1600000 in
theorem stexts_any (g : Gh) (w : World) (A1 A2 : Option Addr) (c1 c2 : Nat) (rs : List (List UInt8)) (h1 : RecsAt g w A1 c1 rs) (h2 : RecsAt g w A2 c2 rs) (hn : rs.length ≤ 1000000) :
    Calls Tryd.prog 28 #[.slice A1 rs.length c1, .slice A2 rs.length c2] w fun e w' => e = .returned (.bool true) ∧ SameP g w w' := by
  have HV := Lib.hid h1
  have HU := Lib.hid h2
  clear h1 h2
  go_enter Tryd.func28, Tryd.ntmps28
  go_wp2_with fail
  go_loopw [5] (fun i wr => ∃ k nn : Nat, k ≤ rs.length ∧ i = .int .i64 k ∧ wr = w.drewN nn) (fun i _ => rs.length - (intOf i).toNat)
  case atStart => exact ⟨0, 0, Nat.zero_le _, rfl, rfl⟩
  case round =>
    obtain ⟨k, nn, hk, rfl, rfl⟩ := hrel
    have hxd : Ext (fun _ => False) g w g (w.drewN nn) := (Ext.refl _ _ _).drewN _
    by_cases hlt : k < rs.length
    · obtain ⟨b, off, Ar, cr, rfl, hc, hba⟩ := (HV.out.ext hxd).get hlt
      obtain ⟨b', off', Br, dr, rfl, hc', hba'⟩ := (HU.out.ext hxd).get hlt
      have s1 : ∀ n, (convert 32 9 (.slice Ar rs[k].length cr)).run Tryd.prog ((w.drewN nn).drewN n) = .ok (.string ⟨rs[k].toArray⟩) ((w.drewN nn).drewN n) := fun n => (hba.ext (M := fun _ => False) ((Ext.refl _ _ _).drewN n)).str
      have s2 : ∀ n, (convert 32 9 (.slice Br rs[k].length dr)).run Tryd.prog ((w.drewN nn).drewN n) = .ok (.string ⟨rs[k].toArray⟩) ((w.drewN nn).drewN n) := fun n => (hba'.ext (M := fun _ => False) ((Ext.refl _ _ _).drewN n)).str
      clear hxd hba hba'
      generalize rs[k] = r at *
      generalize hwd : w.drewN nn = wd at *
      have HWD := Lib.hid hwd
      clear hwd
      go_wp2_with fail
      go_quiet (fail)
      go_wp2_with fail
      go_round
      case rel => exact ⟨k + 1, nn + nq, by omega, by go_num, by rw [← HWD.out]; simp [World.drewN, Nat.add_assoc]⟩
      case measure => simp [intOf]; omega
    · obtain rfl : k = rs.length := by omega
      go_wp2_with fail
      go_ret
      exact ⟨rfl, g, hxd⟩

set_option maxRecDepth 100000 in
set_option maxHeartbeats 1600000 in
theorem rrec_gap (g : Gh) (w : World) (p : Int) (As : Option Addr) (ns cs : Nat) (b : Bool) (s : Int) (A1 A2 : Option Addr) (n1 c1 n2 c2 : Nat) (h0 : 0 ≤ s) (h1 : s ≤ 4611686018427387904) (h2 : n1 ≤ 1000000) (hg : p < s ∨ s + n1 < p) :
    Calls Tryd.prog 27 #[.agg #[.int .i64 p, .slice As ns cs, .bool b], .agg #[.int .i64 s, .slice A1 n1 c1, .slice A2 n2 c2]] w fun e w' => e = .returned (.tuple #[.int .i64 0, .slice none 0 0, .slice none 0 0, .int .i64 322]) ∧ SameP g w w' := by
  have hxb := Ext.box2 (fun _ => False) g w (.cells #[.int .i64 p, .slice As ns cs, .bool b] 34) (.cells #[.int .i64 s, .slice A1 n1 c1, .slice A2 n2 c2] 62)
  have hb1 : Blk w.heap.size 34 [.int .i64 p, .slice As ns cs, .bool b] ((w.alloc (.cells #[.int .i64 p, .slice As ns cs, .bool b] 34)).alloc (.cells #[.int .i64 s, .slice A1 n1 c1, .slice A2 n2 c2] 62)) := (Blk.new w 34 [.int .i64 p, .slice As ns cs, .bool b]).alloc _
  have hb2 : Blk (w.heap.size + 1) 62 [.int .i64 s, .slice A1 n1 c1, .slice A2 n2 c2] ((w.alloc (.cells #[.int .i64 p, .slice As ns cs, .bool b] 34)).alloc (.cells #[.int .i64 s, .slice A1 n1 c1, .slice A2 n2 c2] 62)) := by
    have := Blk.new (w.alloc (.cells #[.int .i64 p, .slice As ns cs, .bool b] 34)) 62 [.int .i64 s, .slice A1 n1 c1, .slice A2 n2 c2]
    simpa using this
  have HX := Lib.hid hxb
  have HB1 := Lib.hid hb1
  have HB2 := Lib.hid hb2
  clear hxb hb1 hb2
  have HC1 : Hid (∀ (y : Held (fun x => ∃ gx, Ext (fun _ => False) ((g.box w.heap.size).box (w.heap.size + 1)) ((w.alloc (.cells #[.int .i64 p, .slice As ns cs, .bool b] 34)).alloc (.cells #[.int .i64 s, .slice A1 n1 c1, .slice A2 n2 c2] 62)) gx x)) (i : Nat), y.w.cell? ⟨w.heap.size, i, none⟩ = [Value.int .i64 p, .slice As ns cs, .bool b][i]?) := fun y i => by obtain ⟨gx, hx⟩ := y.ok; exact (HB1.out.ext hx (fun h => h)).cell i
  have HC2 : Hid (∀ (y : Held (fun x => ∃ gx, Ext (fun _ => False) ((g.box w.heap.size).box (w.heap.size + 1)) ((w.alloc (.cells #[.int .i64 p, .slice As ns cs, .bool b] 34)).alloc (.cells #[.int .i64 s, .slice A1 n1 c1, .slice A2 n2 c2] 62)) gx x)) (i : Nat), y.w.cell? ⟨w.heap.size + 1, i, none⟩ = [Value.int .i64 s, .slice A1 n1 c1, .slice A2 n2 c2][i]?) := fun y i => by obtain ⟨gx, hx⟩ := y.ok; exact (HB2.out.ext hx (fun h => h)).cell i
  have HCA : Hid (∀ y : Held (fun x => ∃ gx, Ext (fun _ => False) ((g.box w.heap.size).box (w.heap.size + 1)) ((w.alloc (.cells #[.int .i64 p, .slice As ns cs, .bool b] 34)).alloc (.cells #[.int .i64 s, .slice A1 n1 c1, .slice A2 n2 c2] 62)) gx x), Calls Tryd.prog 41 #[.agg #[.int .i64 s, .slice A1 n1 c1, .slice A2 n2 c2]] y.w fun e w' => e = .returned (.int .i64 (s + n1)) ∧ ∃ z : Held (fun x => ∃ gx, Ext (fun _ => False) ((g.box w.heap.size).box (w.heap.size + 1)) ((w.alloc (.cells #[.int .i64 p, .slice As ns cs, .bool b] 34)).alloc (.cells #[.int .i64 s, .slice A1 n1 c1, .slice A2 n2 c2] 62)) gx x), w' = z.w) := fun y => by
    obtain ⟨gx, hx⟩ := y.ok
    refine (rend_any gx y.w s A1 A2 n1 c1 n2 c2 h0 h1 h2).mono ?_
    rintro e w' ⟨rfl, g', hx'⟩
    exact ⟨rfl, ⟨w', g', hx.trans hx'⟩, rfl⟩
  have hS : (fun x => ∃ gx, Ext (fun _ => False) ((g.box w.heap.size).box (w.heap.size + 1)) ((w.alloc (.cells #[.int .i64 p, .slice As ns cs, .bool b] 34)).alloc (.cells #[.int .i64 s, .slice A1 n1 c1, .slice A2 n2 c2] 62)) gx x) ((w.alloc (.cells #[.int .i64 p, .slice As ns cs, .bool b] 34)).alloc (.cells #[.int .i64 s, .slice A1 n1 c1, .slice A2 n2 c2] 62)).drew := ⟨_, (Ext.refl _ _ _).drew⟩
  have hlo : decide (p < s) = true ∨ (decide (p < s) = false ∧ decide (s + (n1 : Int) < p) = true) := by
    rcases Classical.em (p < s) with h | h
    · exact .inl (by simpa using h)
    · exact .inr ⟨by simpa using h, by simpa using hg.resolve_left h⟩
  clear hg
  rcases hlo with hlo | ⟨hlo, hhi⟩
  all_goals (
    go_enter Tryd.func27, Tryd.ntmps27
    go_wp2_with fail
    (refine wp_region_s (S := fun x => ∃ gx, Ext (fun _ => False) ((g.box w.heap.size).box (w.heap.size + 1)) ((w.alloc (.cells #[.int .i64 p, .slice As ns cs, .bool b] 34)).alloc (.cells #[.int .i64 s, .slice A1 n1 c1, .slice A2 n2 c2] 62)) gx x) (by kernel_rfl) (by kernel_rfl) hS ?_; have hN : Nonempty (Held (fun x => ∃ gx, Ext (fun _ => False) ((g.box w.heap.size).box (w.heap.size + 1)) ((w.alloc (.cells #[.int .i64 p, .slice As ns cs, .bool b] 34)).alloc (.cells #[.int .i64 s, .slice A1 n1 c1, .slice A2 n2 c2] 62)) gx x)) := ⟨⟨_, hS⟩⟩; (have r0 : ∀ y : Held (fun x => ∃ gx, Ext (fun _ => False) ((g.box w.heap.size).box (w.heap.size + 1)) ((w.alloc (.cells #[.int .i64 p, .slice As ns cs, .bool b] 34)).alloc (.cells #[.int .i64 s, .slice A1 n1 c1, .slice A2 n2 c2] 62)) gx x), y.w.cell? ⟨w.heap.size, 0, none⟩ = some (.int .i64 p) := fun y => HC1.out y 0; have q0 : ∀ y : Held (fun x => ∃ gx, Ext (fun _ => False) ((g.box w.heap.size).box (w.heap.size + 1)) ((w.alloc (.cells #[.int .i64 p, .slice As ns cs, .bool b] 34)).alloc (.cells #[.int .i64 s, .slice A1 n1 c1, .slice A2 n2 c2] 62)) gx x), y.w.cell? ⟨w.heap.size + 1, 0, none⟩ = some (.int .i64 s) := fun y => HC2.out y 0; have q1 : ∀ y : Held (fun x => ∃ gx, Ext (fun _ => False) ((g.box w.heap.size).box (w.heap.size + 1)) ((w.alloc (.cells #[.int .i64 p, .slice As ns cs, .bool b] 34)).alloc (.cells #[.int .i64 s, .slice A1 n1 c1, .slice A2 n2 c2] 62)) gx x), y.w.cell? ⟨w.heap.size + 1, 1, none⟩ = some (.slice A1 n1 c1) := fun y => HC2.out y 1; have q2 : ∀ y : Held (fun x => ∃ gx, Ext (fun _ => False) ((g.box w.heap.size).box (w.heap.size + 1)) ((w.alloc (.cells #[.int .i64 p, .slice As ns cs, .bool b] 34)).alloc (.cells #[.int .i64 s, .slice A1 n1 c1, .slice A2 n2 c2] 62)) gx x), y.w.cell? ⟨w.heap.size + 1, 2, none⟩ = some (.slice A2 n2 c2) := fun y => HC2.out y 2); (repeat (go_big_quiet_step ((go_at_call 41; exact HCA.out _)))); refine wpQuiet_nil ?_; rintro _ ⟨⟨x, hx⟩, rfl⟩; clear hN)
    clear r0 q0 q1 q2
    obtain ⟨gx, hx⟩ := hx
    go_wp2_with fail
    refine bodyPost_ret (v := .tuple #[.int .i64 0, .slice none 0 0, .slice none 0 0, .int .i64 322]) (by simp [results, Tryd.results27, go_sem]) rfl ⟨rfl, gx, HX.out.trans hx⟩)

set_option maxRecDepth 100000 in
set_option maxHeartbeats 1600000 in
theorem rrec_ok (g : Gh) (w : World) (p : Int) (As : Option Addr) (ns cs : Nat) (b : Bool) (s : Int) (A1 A2 : Option Addr) (n1 c1 n2 c2 : Nat) (h0 : 0 ≤ s) (h1 : s ≤ 4611686018427387904) (h2 : n1 ≤ 1000000) (k : Nat) (hk : p - s = k) (hkn : k ≤ n1) :
    Calls Tryd.prog 27 #[.agg #[.int .i64 p, .slice As ns cs, .bool b], .agg #[.int .i64 s, .slice A1 n1 c1, .slice A2 n2 c2]] w fun e w' => e = .returned (.tuple #[.int .i64 p, .slice As ns cs, .slice (cutA 1 A1 c1 k) (n1 - k) (c1 - k), .int .i64 0]) ∧ SameP g w w' := by
  obtain ⟨i0, hi0, hz0, hz1, hz2⟩ := info_parts Tryd.infoBytes
  have hcl := run_cut_l (P := Tryd.prog) Tryd.underlying54 hi0 A1 n1 c1 k hkn
  rw [hz1] at hcl
  have hxb := Ext.box2 (fun _ => False) g w (.cells #[.int .i64 p, .slice As ns cs, .bool b] 34) (.cells #[.int .i64 s, .slice A1 n1 c1, .slice A2 n2 c2] 62)
  have hb1 : Blk w.heap.size 34 [.int .i64 p, .slice As ns cs, .bool b] ((w.alloc (.cells #[.int .i64 p, .slice As ns cs, .bool b] 34)).alloc (.cells #[.int .i64 s, .slice A1 n1 c1, .slice A2 n2 c2] 62)) := (Blk.new w 34 [.int .i64 p, .slice As ns cs, .bool b]).alloc _
  have hb2 : Blk (w.heap.size + 1) 62 [.int .i64 s, .slice A1 n1 c1, .slice A2 n2 c2] ((w.alloc (.cells #[.int .i64 p, .slice As ns cs, .bool b] 34)).alloc (.cells #[.int .i64 s, .slice A1 n1 c1, .slice A2 n2 c2] 62)) := by
    have := Blk.new (w.alloc (.cells #[.int .i64 p, .slice As ns cs, .bool b] 34)) 62 [.int .i64 s, .slice A1 n1 c1, .slice A2 n2 c2]
    simpa using this
  have HX := Lib.hid hxb
  have HB1 := Lib.hid hb1
  have HB2 := Lib.hid hb2
  clear hxb hb1 hb2
  have HC1 : Hid (∀ (y : Held (fun x => ∃ gx, Ext (fun _ => False) ((g.box w.heap.size).box (w.heap.size + 1)) ((w.alloc (.cells #[.int .i64 p, .slice As ns cs, .bool b] 34)).alloc (.cells #[.int .i64 s, .slice A1 n1 c1, .slice A2 n2 c2] 62)) gx x)) (i : Nat), y.w.cell? ⟨w.heap.size, i, none⟩ = [Value.int .i64 p, .slice As ns cs, .bool b][i]?) := fun y i => by obtain ⟨gx, hx⟩ := y.ok; exact (HB1.out.ext hx (fun h => h)).cell i
  have HC2 : Hid (∀ (y : Held (fun x => ∃ gx, Ext (fun _ => False) ((g.box w.heap.size).box (w.heap.size + 1)) ((w.alloc (.cells #[.int .i64 p, .slice As ns cs, .bool b] 34)).alloc (.cells #[.int .i64 s, .slice A1 n1 c1, .slice A2 n2 c2] 62)) gx x)) (i : Nat), y.w.cell? ⟨w.heap.size + 1, i, none⟩ = [Value.int .i64 s, .slice A1 n1 c1, .slice A2 n2 c2][i]?) := fun y i => by obtain ⟨gx, hx⟩ := y.ok; exact (HB2.out.ext hx (fun h => h)).cell i
  have HCA : Hid (∀ y : Held (fun x => ∃ gx, Ext (fun _ => False) ((g.box w.heap.size).box (w.heap.size + 1)) ((w.alloc (.cells #[.int .i64 p, .slice As ns cs, .bool b] 34)).alloc (.cells #[.int .i64 s, .slice A1 n1 c1, .slice A2 n2 c2] 62)) gx x), Calls Tryd.prog 41 #[.agg #[.int .i64 s, .slice A1 n1 c1, .slice A2 n2 c2]] y.w fun e w' => e = .returned (.int .i64 (s + n1)) ∧ ∃ z : Held (fun x => ∃ gx, Ext (fun _ => False) ((g.box w.heap.size).box (w.heap.size + 1)) ((w.alloc (.cells #[.int .i64 p, .slice As ns cs, .bool b] 34)).alloc (.cells #[.int .i64 s, .slice A1 n1 c1, .slice A2 n2 c2] 62)) gx x), w' = z.w) := fun y => by
    obtain ⟨gx, hx⟩ := y.ok
    refine (rend_any gx y.w s A1 A2 n1 c1 n2 c2 h0 h1 h2).mono ?_
    rintro e w' ⟨rfl, g', hx'⟩
    exact ⟨rfl, ⟨w', g', hx.trans hx'⟩, rfl⟩
  have hS : (fun x => ∃ gx, Ext (fun _ => False) ((g.box w.heap.size).box (w.heap.size + 1)) ((w.alloc (.cells #[.int .i64 p, .slice As ns cs, .bool b] 34)).alloc (.cells #[.int .i64 s, .slice A1 n1 c1, .slice A2 n2 c2] 62)) gx x) ((w.alloc (.cells #[.int .i64 p, .slice As ns cs, .bool b] 34)).alloc (.cells #[.int .i64 s, .slice A1 n1 c1, .slice A2 n2 c2] 62)).drew := ⟨_, (Ext.refl _ _ _).drew⟩
  have hlo : decide (p < s) = false := by simp; omega
  have hhi : decide (s + (n1 : Int) < p) = false := by simp; omega
  go_enter Tryd.func27, Tryd.ntmps27
  go_wp2_with fail
  (refine wp_region_s (S := fun x => ∃ gx, Ext (fun _ => False) ((g.box w.heap.size).box (w.heap.size + 1)) ((w.alloc (.cells #[.int .i64 p, .slice As ns cs, .bool b] 34)).alloc (.cells #[.int .i64 s, .slice A1 n1 c1, .slice A2 n2 c2] 62)) gx x) (by kernel_rfl) (by kernel_rfl) hS ?_; have hN : Nonempty (Held (fun x => ∃ gx, Ext (fun _ => False) ((g.box w.heap.size).box (w.heap.size + 1)) ((w.alloc (.cells #[.int .i64 p, .slice As ns cs, .bool b] 34)).alloc (.cells #[.int .i64 s, .slice A1 n1 c1, .slice A2 n2 c2] 62)) gx x)) := ⟨⟨_, hS⟩⟩; (have r0 : ∀ y : Held (fun x => ∃ gx, Ext (fun _ => False) ((g.box w.heap.size).box (w.heap.size + 1)) ((w.alloc (.cells #[.int .i64 p, .slice As ns cs, .bool b] 34)).alloc (.cells #[.int .i64 s, .slice A1 n1 c1, .slice A2 n2 c2] 62)) gx x), y.w.cell? ⟨w.heap.size, 0, none⟩ = some (.int .i64 p) := fun y => HC1.out y 0; have q0 : ∀ y : Held (fun x => ∃ gx, Ext (fun _ => False) ((g.box w.heap.size).box (w.heap.size + 1)) ((w.alloc (.cells #[.int .i64 p, .slice As ns cs, .bool b] 34)).alloc (.cells #[.int .i64 s, .slice A1 n1 c1, .slice A2 n2 c2] 62)) gx x), y.w.cell? ⟨w.heap.size + 1, 0, none⟩ = some (.int .i64 s) := fun y => HC2.out y 0; have q1 : ∀ y : Held (fun x => ∃ gx, Ext (fun _ => False) ((g.box w.heap.size).box (w.heap.size + 1)) ((w.alloc (.cells #[.int .i64 p, .slice As ns cs, .bool b] 34)).alloc (.cells #[.int .i64 s, .slice A1 n1 c1, .slice A2 n2 c2] 62)) gx x), y.w.cell? ⟨w.heap.size + 1, 1, none⟩ = some (.slice A1 n1 c1) := fun y => HC2.out y 1; have q2 : ∀ y : Held (fun x => ∃ gx, Ext (fun _ => False) ((g.box w.heap.size).box (w.heap.size + 1)) ((w.alloc (.cells #[.int .i64 p, .slice As ns cs, .bool b] 34)).alloc (.cells #[.int .i64 s, .slice A1 n1 c1, .slice A2 n2 c2] 62)) gx x), y.w.cell? ⟨w.heap.size + 1, 2, none⟩ = some (.slice A2 n2 c2) := fun y => HC2.out y 2); (repeat (go_big_quiet_step ((go_at_call 41; exact HCA.out _)))); refine wpQuiet_nil ?_; rintro _ ⟨⟨x, hx⟩, rfl⟩; clear hN)
  clear r0 q0 q1 q2
  obtain ⟨gx, hx⟩ := hx
  rename_i x
  have c0 : x.cell? ⟨w.heap.size, 0, none⟩ = some (.int .i64 p) := (HB1.out.ext hx (fun h => h)).cell 0
  have c1' : x.cell? ⟨w.heap.size, 1, none⟩ = some (.slice As ns cs) := (HB1.out.ext hx (fun h => h)).cell 1
  have d0 : x.cell? ⟨w.heap.size + 1, 0, none⟩ = some (.int .i64 s) := (HB2.out.ext hx (fun h => h)).cell 0
  have d1 : x.cell? ⟨w.heap.size + 1, 1, none⟩ = some (.slice A1 n1 c1) := (HB2.out.ext hx (fun h => h)).cell 1
  have HXX := Lib.hid (HX.out.trans hx)
  clear hx hS
  go_wp2_with fail
  go_quiet (fail)
  go_wp2_with fail
  refine bodyPost_ret (v := .tuple #[.int .i64 p, .slice As ns cs, .slice (cutA 1 A1 c1 k) (n1 - k) (c1 - k), .int .i64 0]) (by simp [results, Tryd.results27, go_sem]) rfl ⟨rfl, gx, ?_⟩
  first | exact HXX.out.drewN _ | exact HXX.out

end Go.Proofs.YtcjkllmellampaaDoor
