/-
  The reference's Append.
-/
import Derived.Test.YthjbaafbkalomaaRef2
namespace Go.Proofs.Ythjbaafbkalomaa
open Go.RowKit

theorem rsize_held (g : Gh) (W : World) (A : Option Addr) (c : Nat) (rs : List (List UInt8)) (h : RecsAt g W A c rs) (hn : rs.length ≤ 1000000) (hb : lens rs ≤ 1000000000) (y : Held (fun x => ∃ n, x = W.drewN n)) :
    Calls Try.prog 34 #[.slice A rs.length c] y.w fun e w'' => e = .returned (.int .i64 (lens rs)) ∧ ∃ z : Held (fun x => ∃ n, x = W.drewN n), w'' = z.w := by
  obtain ⟨yw, n, rfl⟩ := y
  refine (rsize_any g _ A c rs (h.ext (M := fun _ => False) ((Ext.refl _ _ _).drewN n)) hn hb).mono ?_
  rintro e w' ⟨rfl, rfl⟩
  exact ⟨rfl, ⟨W.drewN n, n, rfl⟩, rfl⟩

theorem BytesAt.src' {g : Gh} {w : World} {A : Option Addr} {n c : Nat} {l : List UInt8} (h : BytesAt g w (.slice A n c) l) : Src Try.prog 1 37 (.slice A n c) n (bv l) w := by
  obtain ⟨hn, hz, hr⟩ := h.rd
  subst hn
  exact hr.src Try.underlying37 c (bv_one l) hz

theorem BytesAt.of_app {g : Gh} {w : World} {A : Option Addr} {cap o n : Nat} {l : List UInt8} {e : TypeId} (h : App e 1 o g w A n cap (bv l)) (hn : l.length = n) : BytesAt g w (.slice A n cap) l := by
  subst hn
  exact BytesAt.of_new h
theorem src_one (w : World) (v : Value) (h1 : v.oneCell' = true) : Src Try.prog 1 33 (.slice (some ⟨w.heap.size, 0, none⟩) 1 1) 1 [v] (w.alloc (.cells #[v] 37)) :=
  Src.ofSlice _ Try.underlying33 _ 1 1 _ rfl (fun j u hu => by
    have hh : (w.alloc (.cells #[v] 37)).heap[w.heap.size]? = some (.cells #[v] 37 (0, 0)) := heap_alloc_new w _
    rw [add_lit, Nat.zero_add, cell_at hh]
    simpa using hu) (by simpa using h1)

set_option maxRecDepth 100000 in
set_option maxHeartbeats 1600000 in
theorem rappend_any (g : Gh) (w : World) (v : Value) (R : RefR) (h : RefAt g w v R) (h1 : R.recs.length + R.pend.length < 4096) (A : Option Addr) (c : Nat) (r : List UInt8) (hr : BytesAt g w (.slice A r.length c) r) (hl : r.length ≤ 65536) (hb : lens R.recs + lens R.pend + r.length ≤ 1048576) :
    Calls Try.prog 10 #[v, .slice A r.length c] w (RefP g w ⟨R.start, R.recs, R.pend ++ [r]⟩ 0) := by
  obtain ⟨A1, c1, A2, c2, rfl, hr1, hr2⟩ := h
  have hx := Ext.two g w (.cells #[.int .i64 R.start, .slice A1 R.recs.length c1, .slice A2 R.pend.length c2] 35) (.cells #[.int .i64 0, .slice none 0 0, .slice none 0 0] 35)
  have hb1 : Blk w.heap.size 35 [.int .i64 R.start, .slice A1 R.recs.length c1, .slice A2 R.pend.length c2] ((w.alloc (.cells #[.int .i64 R.start, .slice A1 R.recs.length c1, .slice A2 R.pend.length c2] 35)).alloc (.cells #[.int .i64 0, .slice none 0 0, .slice none 0 0] 35)) := (Blk.new w 35 [.int .i64 R.start, .slice A1 R.recs.length c1, .slice A2 R.pend.length c2]).alloc _
  have hb2 : Blk (w.heap.size + 1) 35 [.int .i64 0, .slice none 0 0, .slice none 0 0] ((w.alloc (.cells #[.int .i64 R.start, .slice A1 R.recs.length c1, .slice A2 R.pend.length c2] 35)).alloc (.cells #[.int .i64 0, .slice none 0 0, .slice none 0 0] 35)) := by
    have := Blk.new (w.alloc (.cells #[.int .i64 R.start, .slice A1 R.recs.length c1, .slice A2 R.pend.length c2] 35)) 35 [.int .i64 0, .slice none 0 0, .slice none 0 0]
    simpa using this
  obtain ⟨o, ho⟩ := owner_new ((g.box w.heap.size).box (w.heap.size + 1)) (w.heap.size + 1 + 1)
  have hO1 : ((g.box w.heap.size).box (w.heap.size + 1)).O w.heap.size = w.heap.size := by simp [Gh.box]
  have hO2 : ((g.box w.heap.size).box (w.heap.size + 1)).O (w.heap.size + 1) = w.heap.size + 1 := by simp [Gh.box]
  have hF1 : ((g.box w.heap.size).box (w.heap.size + 1)).F w.heap.size = 0 := by simp [Gh.box]
  have hF2 : ((g.box w.heap.size).box (w.heap.size + 1)).F (w.heap.size + 1) = 0 := by simp [Gh.box]
  have ho1 : o ≠ w.heap.size := fun e => ho w.heap.size (by omega) (by rw [hO1, e])
  have ho2 : o ≠ w.heap.size + 1 := fun e => ho (w.heap.size + 1) (by omega) (by rw [hO2, e])
  have HO : Hid (∀ b, b < w.heap.size → g.O b ≠ o) := by
    intro b hb e
    exact ho b (by omega) (by rw [← e]; simp only [Gh.box]; rw [if_neg (by omega), if_neg (by omega)])
  obtain ⟨i0, hi0, hz0, hz1, hz2⟩ := info_parts Try.infoBytes
  obtain ⟨i1, hi1, hy0, hy1, hy2⟩ := info_parts Try.infoU8
  have HX := Lib.hid hx
  have HR1 := Lib.hid (hr1.ext hx)
  have HR2 := Lib.hid (hr2.ext hx)
  have HRR := Lib.hid (hr.ext hx)
  have HB1 := Lib.hid hb1
  have HB2 := Lib.hid hb2
  have c1' : ((w.alloc (.cells #[.int .i64 R.start, .slice A1 R.recs.length c1, .slice A2 R.pend.length c2] 35)).alloc (.cells #[.int .i64 0, .slice none 0 0, .slice none 0 0] 35)).cell? ⟨w.heap.size, 1, none⟩ = some (.slice A1 R.recs.length c1) := hb1.cell 1
  have c2' : ((w.alloc (.cells #[.int .i64 R.start, .slice A1 R.recs.length c1, .slice A2 R.pend.length c2] 35)).alloc (.cells #[.int .i64 0, .slice none 0 0, .slice none 0 0] 35)).cell? ⟨w.heap.size, 2, none⟩ = some (.slice A2 R.pend.length c2) := hb1.cell 2
  have hS : (fun x => ∃ n, x = ((w.alloc (.cells #[.int .i64 R.start, .slice A1 R.recs.length c1, .slice A2 R.pend.length c2] 35)).alloc (.cells #[.int .i64 0, .slice none 0 0, .slice none 0 0] 35)).drewN n) ((w.alloc (.cells #[.int .i64 R.start, .slice A1 R.recs.length c1, .slice A2 R.pend.length c2] 35)).alloc (.cells #[.int .i64 0, .slice none 0 0, .slice none 0 0] 35)).drew := ⟨1, rfl⟩
  clear hr1 hr2 hr ho hx hb1 hb2
  generalize (g.box w.heap.size).box (w.heap.size + 1) = g2 at *
  have h3' : decide ((4096 : Int) ≤ (R.recs.length : Int) + (R.pend.length : Int)) = false := by simp; omega
  have HBB := Lib.hid hb
  clear hb
  have HL1 : Hid (lens R.recs ≤ 1000000000) := by show lens R.recs ≤ _; have := HBB.out; omega
  have HL2 : Hid (lens R.pend ≤ 1000000000) := by show lens R.pend ≤ _; have := HBB.out; omega
  have hn1 : R.recs.length ≤ 1000000 := by omega
  have hn2 : R.pend.length ≤ 1000000 := by omega
  have HC1 : Hid (∀ y : Held (fun x => ∃ n, x = ((w.alloc (.cells #[.int .i64 R.start, .slice A1 R.recs.length c1, .slice A2 R.pend.length c2] 35)).alloc (.cells #[.int .i64 0, .slice none 0 0, .slice none 0 0] 35)).drewN n), Calls Try.prog 34 #[.slice A1 R.recs.length c1] y.w fun e w'' => e = .returned (.int .i64 (lens R.recs)) ∧ ∃ z : Held (fun x => ∃ n, x = ((w.alloc (.cells #[.int .i64 R.start, .slice A1 R.recs.length c1, .slice A2 R.pend.length c2] 35)).alloc (.cells #[.int .i64 0, .slice none 0 0, .slice none 0 0] 35)).drewN n), w'' = z.w) := fun y => rsize_held g2 _ A1 c1 R.recs HR1.out hn1 HL1.out y
  have HC2 : Hid (∀ y : Held (fun x => ∃ n, x = ((w.alloc (.cells #[.int .i64 R.start, .slice A1 R.recs.length c1, .slice A2 R.pend.length c2] 35)).alloc (.cells #[.int .i64 0, .slice none 0 0, .slice none 0 0] 35)).drewN n), Calls Try.prog 34 #[.slice A2 R.pend.length c2] y.w fun e w'' => e = .returned (.int .i64 (lens R.pend)) ∧ ∃ z : Held (fun x => ∃ n, x = ((w.alloc (.cells #[.int .i64 R.start, .slice A1 R.recs.length c1, .slice A2 R.pend.length c2] 35)).alloc (.cells #[.int .i64 0, .slice none 0 0, .slice none 0 0] 35)).drewN n), w'' = z.w) := fun y => rsize_held g2 _ A2 c2 R.pend HR2.out hn2 HL2.out y
  have hl1 : 0 ≤ ((lens R.recs : Nat) : Int) ∧ ((lens R.recs : Nat) : Int) ≤ 1000000000 := ⟨by omega, by have := HL1.out; omega⟩
  have hl2 : 0 ≤ ((lens R.pend : Nat) : Int) ∧ ((lens R.pend : Nat) : Int) ≤ 1000000000 := ⟨by omega, by have := HL2.out; omega⟩
  have HBI : Hid (((lens R.recs : Nat) : Int) + ((lens R.pend : Nat) : Int) + (r.length : Int) ≤ 1048576) := by show _ ≤ _; have := HBB.out; omega
  clear HL1 HL2 HBB
  obtain ⟨hl10, hl11⟩ := hl1
  obtain ⟨hl20, hl21⟩ := hl2
  generalize ((lens R.recs : Nat) : Int) = l1 at *
  generalize ((lens R.pend : Nat) : Int) = l2 at *
  generalize hq1 : R.recs.length = n1 at *
  generalize hq2 : R.pend.length = n2 at *
  generalize hq3 : r.length = rl at *
  generalize hq4 : R.start = st at *
  have HQ := Lib.hid (And.intro hq1 (And.intro hq2 (And.intro hq3 hq4)))
  clear hq1 hq2 hq3 hq4
  go_enter Try.func10, Try.ntmps10
  go_wp2_with fail
  (refine wp_region_s (S := fun x => ∃ n, x = ((w.alloc (.cells #[.int .i64 st, .slice A1 n1 c1, .slice A2 n2 c2] 35)).alloc (.cells #[.int .i64 0, .slice none 0 0, .slice none 0 0] 35)).drewN n) (by kernel_rfl) (by kernel_rfl) hS ?_; have hN : Nonempty (Held (fun x => ∃ n, x = ((w.alloc (.cells #[.int .i64 st, .slice A1 n1 c1, .slice A2 n2 c2] 35)).alloc (.cells #[.int .i64 0, .slice none 0 0, .slice none 0 0] 35)).drewN n)) := ⟨⟨_, hS⟩⟩; (have x1 : ∀ y : Held (fun x => ∃ n, x = ((w.alloc (.cells #[.int .i64 st, .slice A1 n1 c1, .slice A2 n2 c2] 35)).alloc (.cells #[.int .i64 0, .slice none 0 0, .slice none 0 0] 35)).drewN n), y.w.cell? ⟨w.heap.size, 1, none⟩ = some (.slice A1 n1 c1) := fun y => (by obtain ⟨n, hn⟩ := y.ok; rw [hn]; exact c1'); have x2 : ∀ y : Held (fun x => ∃ n, x = ((w.alloc (.cells #[.int .i64 st, .slice A1 n1 c1, .slice A2 n2 c2] 35)).alloc (.cells #[.int .i64 0, .slice none 0 0, .slice none 0 0] 35)).drewN n), y.w.cell? ⟨w.heap.size, 2, none⟩ = some (.slice A2 n2 c2) := fun y => (by obtain ⟨n, hn⟩ := y.ok; rw [hn]; exact c2')); (repeat (go_big_quiet_step ((go_at_call 34; first | with_reducible exact HC1.out _ | with_reducible exact HC2.out _)))); refine wpQuiet_nil ?_; rintro _ ⟨⟨x, hx⟩, rfl⟩; clear hN)
  clear x1 x2
  obtain ⟨nq, rfl⟩ := hx
  have h4 : ¬ (1048576 : Int) < l1 + l2 + (rl : Int) := by have := HBI.out; omega
  have hxq : Ext (fun _ => False) g2 ((w.alloc (.cells #[.int .i64 st, .slice A1 n1 c1, .slice A2 n2 c2] 35)).alloc (.cells #[.int .i64 0, .slice none 0 0, .slice none 0 0] 35)) g2 (((w.alloc (.cells #[.int .i64 st, .slice A1 n1 c1, .slice A2 n2 c2] 35)).alloc (.cells #[.int .i64 0, .slice none 0 0, .slice none 0 0] 35)).drewN nq) := (Ext.refl _ _ _).drewN _
  have HXQ := Lib.hid (HX.out.trans hxq)
  have HB1Q := Lib.hid (HB1.out.drewN nq)
  have HB2Q := Lib.hid (HB2.out.drewN nq)
  have HR1Q := Lib.hid (HR1.out.ext hxq)
  have HR2Q := Lib.hid (HR2.out.ext hxq)
  have HRRQ := Lib.hid (HRR.out.ext hxq)
  clear hxq HX HB1 HB2 HR1 HR2 HRR HC1 HC2 c1' c2' hS
  generalize ((w.alloc (.cells #[.int .i64 st, .slice A1 n1 c1, .slice A2 n2 c2] 35)).alloc (.cells #[.int .i64 0, .slice none 0 0, .slice none 0 0] 35)).drewN nq = w2 at *
  obtain ⟨vs2, hv2, hs2⟩ := HR2Q.out.src
  have HV2 := Lib.hid hv2
  obtain ⟨e1, e2, e3, e4⟩ := HQ.out
  rw [e2] at hs2
  have HS2 := Lib.hid (hs2 _ _ _ (Ext.refl (fun _ => False) g2 w2))
  clear hv2 hs2 e1 e2 e3 e4
  obtain ⟨o', ho'⟩ := owner_new (g2.give w2.heap.size o) (w2.heap.size + 1)
  have hoo : o ≠ o' := fun e => ho' w2.heap.size (by omega) (by rw [Gh.give_O, e])
  have lb1 := HB1Q.out.lt
  have lb2 := HB2Q.out.lt
  have ho1' : o' ≠ w.heap.size := fun e => ho' w.heap.size (by omega) (by simp only [Gh.give]; rw [if_neg (by omega), hO1, e])
  have ho2' : o' ≠ w.heap.size + 1 := fun e => ho' (w.heap.size + 1) (by omega) (by simp only [Gh.give]; rw [if_neg (by omega), hO2, e])
  have HO' : Hid (∀ b, b < w.heap.size → g.O b ≠ o') := by
    intro b hb e
    have hlt : b < w2.heap.size := by omega
    refine ho' b (by omega) ?_
    simp only [Gh.give]; rw [if_neg (by omega), HXQ.out.own b hb, e]
  clear ho'
  have q2 : w2.cell? ⟨w.heap.size, 2, none⟩ = some (.slice A2 n2 c2) := HB1Q.out.cell 2
  have z2 := HB1Q.out.fz
  have HM : Hid (∀ x, x = o → x = o ∨ x = o') := fun _ h => .inl h
  have HM' : Hid (∀ x, x = o' → x = o ∨ x = o') := fun _ h => .inr h
  go_wp2_with (at_builtin; first
    | (refine wpList_append_app rfl _ _ _ _ rfl 37 i0 (.slice none 0 0) 1 24 Try.underlying33 hi0 hz0 hz1 hz2 rfl (by decide) rfl (App.nil 37 1 o g2 w2) rfl HS2.out (by unfold maxLen; omega) (by omega) ?_; intro A3 c3 w3 g3 hx3 ha3 _; simp only [Nat.zero_add, List.nil_append] at ha3; rw [Nat.zero_add]; have HX3 := Lib.hid ((HXQ.out.imp (fun _ h => h.elim)).trans (hx3.imp HM.out)); have HA3 := Lib.hid ha3; have HB13 := Lib.hid (HB1Q.out.ext hx3 (by rw [hO1]; exact fun e => ho1 e.symm)); have HB23 := Lib.hid (HB2Q.out.ext hx3 (by rw [hO2]; exact fun e => ho2 e.symm)); have HR13 := Lib.hid (HR1Q.out.ext hx3); have HV23 := Lib.hid (HV2.out.ext hx3); have HRR3 := Lib.hid (HRRQ.out.ext hx3); have hO13 := (hx3.own _ lb1).trans hO1; have hO23 := (hx3.own _ lb2).trans hO2; have hF13 := hx3.zero _ lb1 hF1; have hF23 := hx3.zero _ lb2 hF2; clear hx3 ha3 q2 z2 lb1 lb2; have lb1 := HB13.out.lt; have lb2 := HB23.out.lt; have HS4 := Lib.hid (HRR3.out.src'))
    | (refine wpList_append_app rfl _ _ _ _ rfl 5 i1 (.int .u8 0) 1 1 Try.underlying37 hi1 hy0 hy1 hy2 rfl (by decide) rfl (App.nil 5 1 o' g3 w3) rfl HS4.out (by unfold maxLen; omega) (by omega) ?_; intro A4 c4 w4 g4 hx4 ha4 _; simp only [Nat.zero_add, List.nil_append] at ha4; rw [Nat.zero_add]; have hal : Ext (fun _ => False) g4 w4 g4 (w4.alloc (.cells #[.slice A4 rl c4] 37)) := (Ext.refl _ _ _).alloc _; have HX5 := Lib.hid ((HX3.out.trans (hx4.imp HM'.out)).trans (hal.imp (fun _ h => h.elim))); have HA5 := Lib.hid ((HA3.out.ext hx4 hoo).ext hal (fun h => h)); have HB15 := Lib.hid ((HB13.out.ext hx4 (by rw [hO13]; exact fun e => ho1' e.symm)).ext hal (fun h => h)); have HB25 := Lib.hid ((HB23.out.ext hx4 (by rw [hO23]; exact fun e => ho2' e.symm)).ext hal (fun h => h)); have HR15 := Lib.hid ((HR13.out.ext hx4).ext hal); have HV25 := Lib.hid ((HV23.out.ext hx4).ext hal); have HE5 := Lib.hid ((BytesAt.of_app ha4 HQ.out.2.2.1).ext hal); have hO15 := (hx4.own _ lb1).trans hO13; have hO25 := (hx4.own _ lb2).trans hO23; have hF15 := hx4.zero _ lb1 hF13; have hF25 := hx4.zero _ lb2 hF23; have HS5 : Hid (Src Try.prog 1 33 (.slice (some ⟨w4.heap.size, 0, none⟩) 1 1) 1 [.slice A4 rl c4] (w4.alloc (.cells #[.slice A4 rl c4] 37))) := src_one w4 (.slice A4 rl c4) rfl; clear hx4 ha4 hal lb1 lb2; have lb1 := HB15.out.lt; have lb2 := HB25.out.lt)
    | (refine wpList_append_app rfl _ _ _ _ rfl 37 i0 (.slice none 0 0) 1 24 Try.underlying33 hi0 hz0 hz1 hz2 rfl (by decide) rfl HA5.out rfl HS5.out (by unfold maxLen; omega) (by omega) ?_; intro A6 c6 w6 g6 hx6 ha6 _; have HX6 := Lib.hid (HX5.out.trans (hx6.imp HM.out)); have HA6 := Lib.hid ha6; have HB16 := Lib.hid (HB15.out.ext hx6 (by rw [hO15]; exact fun e => ho1 e.symm)); have HB26 := Lib.hid (HB25.out.ext hx6 (by rw [hO25]; exact fun e => ho2 e.symm)); have HR16 := Lib.hid (HR15.out.ext hx6); have HV26 := Lib.hid (HV25.out.ext hx6); have HE6 := Lib.hid (HE5.out.ext hx6); have hO16 := (hx6.own _ lb1).trans hO15; have hO26 := (hx6.own _ lb2).trans hO25; have hF16 := hx6.zero _ lb1 hF15; have hF26 := hx6.zero _ lb2 hF25; clear hx6 ha6; have p0 : w6.cell? ⟨w.heap.size, 0, none⟩ = some (.int .i64 st) := HB16.out.cell 0; have p1 : w6.cell? ⟨w.heap.size, 1, none⟩ = some (.slice A1 n1 c1) := HB16.out.cell 1; have p2 : w6.cell? ⟨w.heap.size, 2, none⟩ = some (.slice A2 n2 c2) := HB16.out.cell 2; have pz := HB16.out.fz; have r0 : w6.cell? ⟨w.heap.size + 1, 0, none⟩ = some (.int .i64 0) := HB26.out.cell 0; have r1 : w6.cell? ⟨w.heap.size + 1, 1, none⟩ = some (.slice none 0 0) := HB26.out.cell 1; have r2 : w6.cell? ⟨w.heap.size + 1, 2, none⟩ = some (.slice none 0 0) := HB26.out.cell 2; have rz := HB26.out.fz))
  refine bodyPost_ret (v := .tuple #[.agg #[.int .i64 st, .slice A1 n1 c1, .slice A6 (n2 + 1) c6], .int .i64 0]) (by simp [results, Try.results10, go_sem, r0, r1, r2]) rfl ?_
  obtain ⟨e1, e2, e3, e4⟩ := HQ.out
  have hx7 := HX6.out.setCell (p := ⟨w.heap.size, 2, none⟩) (fun h => absurd h (Nat.lt_irrefl _)) hF16 (.slice A6 (n2 + 1) c6)
  have hxs := hx7.set3n (b := w.heap.size + 1) (by omega) hF26 (.int .i64 st) (.slice A1 n1 c1) (.slice A6 (n2 + 1) c6)
  have hxt : Ext (fun x => x = w.heap.size ∨ x = w.heap.size + 1) g6 w6 g6 ((((w6.setCell ⟨w.heap.size, 2, none⟩ (.slice A6 (n2 + 1) c6)).setCell ⟨w.heap.size + 1, 0, none⟩ (.int .i64 st)).setCell ⟨w.heap.size + 1, 1, none⟩ (.slice A1 n1 c1)).setCell ⟨w.heap.size + 1, 2, none⟩ (.slice A6 (n2 + 1) c6)) :=
    ((((Ext.refl _ _ _).setCell (fun _ => .inl hO16) hF16 _).setCell (fun _ => .inr hO26) hF26 _).setCell (fun _ => .inr hO26) hF26 _).setCell (fun _ => .inr hO26) hF26 _
  refine ⟨_, _, rfl, hxs.more (fun b hb e => ?_), A1, c1, A6, c6, ?_, HR16.out.ext hxt, ?_⟩
  · rcases e with e | e
    · exact absurd e (HO.out b hb)
    · exact absurd e (HO'.out b hb)
  · simp only [e1, List.length_append, e2, List.length_cons, List.length_nil]
  · refine (RecsAt.ofApp HA6.out (by simp only [List.length_append, e2, List.length_cons, List.length_nil]) ?_).ext hxt
    exact HV26.out.append (vs' := [.slice A4 rl c4]) (rs' := [r]) ⟨HE6.out, trivial⟩

set_option maxRecDepth 100000 in
set_option maxHeartbeats 1600000 in
theorem is_any (j d : Nat) (g : Gh) (w : World) (J : Jrn) (v : Value) (hJ : JAt g w j d J) (hv : RefAt g w v ⟨J.start, J.recs, J.pend⟩) (h0 : 0 ≤ J.start) (h1 : J.start ≤ 4611686018427387904) (h2 : J.recs.length ≤ 4096) (h3 : ∀ r ∈ J.recs, r.length ≤ 65536) :
    Calls Try.prog 17 #[.pointer (some ⟨j, 0, none⟩), v] w fun e w' => e = .returned (.bool true) ∧ SameP g w w' := by
  have HV0 := Lib.hid hv
  obtain ⟨A1, c1, A2, c2, rfl, _, _⟩ := hv
  have hx := Ext.box (fun _ => False) g w (.cells #[.int .i64 J.start, .slice A1 J.recs.length c1, .slice A2 J.pend.length c2] 35)
  have HX := Lib.hid hx
  have HJ := Lib.hid (hJ.ext hx (fun h => h))
  have HV := Lib.hid (HV0.out.ext hx)
  have HB : Hid (Blk w.heap.size 35 [.int .i64 J.start, .slice A1 J.recs.length c1, .slice A2 J.pend.length c2] (w.alloc (.cells #[.int .i64 J.start, .slice A1 J.recs.length c1, .slice A2 J.pend.length c2] 35))) := Blk.new w 35 [.int .i64 J.start, .slice A1 J.recs.length c1, .slice A2 J.pend.length c2]
  have H3 := Lib.hid h3
  clear hx hJ HV0 h3
  generalize g.box w.heap.size = g1 at *
  go_enter Try.func17, Try.ntmps17
  go_wp2_with fail
  generalize (w.alloc (.cells #[.int .i64 J.start, .slice A1 J.recs.length c1, .slice A2 J.pend.length c2] 35)) = w1 at *
  refine (look_any j d g1 w1 J HJ.out h0 h1 h2 H3.out).mono ?_
  rintro e w2 ⟨u, g2, rfl, hx2, hu⟩
  have HX2 := Lib.hid (HX.out.trans hx2)
  have HJ2 := Lib.hid (HJ.out.ext hx2 (fun h => h))
  have HV2 := Lib.hid (HV.out.ext hx2)
  have HB2 := Lib.hid (HB.out.ext hx2 (fun h => h))
  have HU2 := Lib.hid hu
  obtain ⟨B1, e1, B2, e2, rfl, _, _⟩ := hu
  have hxy := Ext.box (fun _ => False) g2 w2 (.cells #[.int .i64 J.start, .slice B1 J.recs.length e1, .slice B2 0 e2] 35)
  have HX3 := Lib.hid (HX2.out.trans hxy)
  have HJ3 := Lib.hid (HJ2.out.ext hxy (fun h => h))
  have HV3 := Lib.hid (HV2.out.ext hxy)
  have HU3 := Lib.hid (HU2.out.ext hxy)
  have HB3 := Lib.hid (HB2.out.ext hxy (fun h => h))
  have HY3 : Hid (Blk w2.heap.size 35 [.int .i64 J.start, .slice B1 J.recs.length e1, .slice B2 0 e2] (w2.alloc (.cells #[.int .i64 J.start, .slice B1 J.recs.length e1, .slice B2 0 e2] 35))) := Blk.new w2 35 [.int .i64 J.start, .slice B1 J.recs.length e1, .slice B2 0 e2]
  clear hx2 hxy HX HJ HV HB HX2 HJ2 HV2 HU2 HB2
  generalize g2.box w2.heap.size = g3 at *
  have HSM : Hid (∀ y : Held (SameP g3 (w2.alloc (.cells #[.int .i64 J.start, .slice B1 J.recs.length e1, .slice B2 0 e2] 35))), Calls Try.prog 22 #[.agg #[.int .i64 J.start, .slice B1 J.recs.length e1, .slice B2 0 e2], .agg #[.int .i64 J.start, .slice A1 J.recs.length c1, .slice A2 J.pend.length c2]] y.w fun e w'' => e = .returned (.bool true) ∧ ∃ z : Held (SameP g3 (w2.alloc (.cells #[.int .i64 J.start, .slice B1 J.recs.length e1, .slice B2 0 e2] 35))), w'' = z.w) := by
    intro y
    obtain ⟨yw, g', hn⟩ := y
    refine (same_any g' yw _ _ ⟨J.start, J.recs, []⟩ ⟨J.start, J.recs, J.pend⟩ (HU3.out.ext hn) (HV3.out.ext hn) (by show J.recs.length ≤ _; omega)).mono ?_
    have hsm : sameB ⟨J.start, J.recs, []⟩ ⟨J.start, J.recs, J.pend⟩ = true := by simp [sameB]
    rw [hsm]
    rintro e w4 ⟨rfl, g4, hx4⟩
    exact ⟨rfl, ⟨w4, g4, hn.trans hx4⟩, rfl⟩
  have HPD : Hid (∀ y : Held (SameP g3 (w2.alloc (.cells #[.int .i64 J.start, .slice B1 J.recs.length e1, .slice B2 0 e2] 35))), Calls Try.prog 23 #[.pointer (some ⟨j, 0, none⟩)] y.w fun e w'' => e = .returned (.int .i64 J.pend.length) ∧ ∃ z : Held (SameP g3 (w2.alloc (.cells #[.int .i64 J.start, .slice B1 J.recs.length e1, .slice B2 0 e2] 35))), w'' = z.w) := by
    intro y
    obtain ⟨yw, g', hn⟩ := y
    refine (jpending_any j d g' yw J (HJ3.out.ext hn (fun h => h))).mono ?_
    rintro e w4 ⟨rfl, rfl⟩
    exact ⟨rfl, ⟨yw, g', hn⟩, rfl⟩
  have hS : (SameP g3 (w2.alloc (.cells #[.int .i64 J.start, .slice B1 J.recs.length e1, .slice B2 0 e2] 35))) (w2.alloc (.cells #[.int .i64 J.start, .slice B1 J.recs.length e1, .slice B2 0 e2] 35)).drew := ⟨g3, (Ext.refl _ _ _).drew⟩
  go_wp2_with fail
  (refine wp_region_s (S := SameP g3 (w2.alloc (.cells #[.int .i64 J.start, .slice B1 J.recs.length e1, .slice B2 0 e2] 35))) (by kernel_rfl) (by kernel_rfl) hS ?_; have hN : Nonempty (Held (SameP g3 (w2.alloc (.cells #[.int .i64 J.start, .slice B1 J.recs.length e1, .slice B2 0 e2] 35)))) := ⟨⟨_, hS⟩⟩; (have x0 : ∀ y : Held (SameP g3 (w2.alloc (.cells #[.int .i64 J.start, .slice B1 J.recs.length e1, .slice B2 0 e2] 35))), y.w.cell? ⟨w.heap.size, 0, none⟩ = some (.int .i64 J.start) := fun y => (by obtain ⟨g', hn⟩ := y.ok; exact (HB3.out.ext hn (fun h => h)).cell 0); have x1 : ∀ y : Held (SameP g3 (w2.alloc (.cells #[.int .i64 J.start, .slice B1 J.recs.length e1, .slice B2 0 e2] 35))), y.w.cell? ⟨w.heap.size, 1, none⟩ = some (.slice A1 J.recs.length c1) := fun y => (by obtain ⟨g', hn⟩ := y.ok; exact (HB3.out.ext hn (fun h => h)).cell 1); have x2 : ∀ y : Held (SameP g3 (w2.alloc (.cells #[.int .i64 J.start, .slice B1 J.recs.length e1, .slice B2 0 e2] 35))), y.w.cell? ⟨w.heap.size, 2, none⟩ = some (.slice A2 J.pend.length c2) := fun y => (by obtain ⟨g', hn⟩ := y.ok; exact (HB3.out.ext hn (fun h => h)).cell 2); have y0 : ∀ y : Held (SameP g3 (w2.alloc (.cells #[.int .i64 J.start, .slice B1 J.recs.length e1, .slice B2 0 e2] 35))), y.w.cell? ⟨w2.heap.size, 0, none⟩ = some (.int .i64 J.start) := fun y => (by obtain ⟨g', hn⟩ := y.ok; exact (HY3.out.ext hn (fun h => h)).cell 0); have y1 : ∀ y : Held (SameP g3 (w2.alloc (.cells #[.int .i64 J.start, .slice B1 J.recs.length e1, .slice B2 0 e2] 35))), y.w.cell? ⟨w2.heap.size, 1, none⟩ = some (.slice B1 J.recs.length e1) := fun y => (by obtain ⟨g', hn⟩ := y.ok; exact (HY3.out.ext hn (fun h => h)).cell 1); have y2 : ∀ y : Held (SameP g3 (w2.alloc (.cells #[.int .i64 J.start, .slice B1 J.recs.length e1, .slice B2 0 e2] 35))), y.w.cell? ⟨w2.heap.size, 2, none⟩ = some (.slice B2 0 e2) := fun y => (by obtain ⟨g', hn⟩ := y.ok; exact (HY3.out.ext hn (fun h => h)).cell 2)); (repeat (go_big_quiet_step ((first | (go_at_call 22; exact HSM.out _) | (go_at_call 23; exact HPD.out _))))); refine wpQuiet_nil ?_; rintro _ ⟨⟨x, hx⟩, rfl⟩; clear hN)
  clear x0 x1 x2 y0 y1 y2
  obtain ⟨g4, hx4⟩ := hx
  go_wp2_with fail
  go_ret
  exact ⟨rfl, _, HX3.out.trans hx4⟩

end Go.Proofs.Ythjbaafbkalomaa
