/-
  The walk of JournalPlays.
-/
import Derived.Test.YtopggjpaplhboaaJPl0
namespace Go.Proofs.Ytopggjpaplhboaa
open Go.RowKit

def refOf (J : Jrn) : RefR := ⟨J.start, J.recs, J.pend⟩
set_option maxRecDepth 100000 in
set_option maxHeartbeats 6400000 in
theorem lawPlays_any (w : World) (A : Option Addr) (c : Nat) (L : List Int) (hr : Rd 1 (ghW w) w A L.length (L.map (Value.int .i64))) (hL : ∀ x ∈ L, (Lit.int .i64 x).wf = true) :
    Calls Try.prog 8 #[.slice A L.length c] w fun e w' => e = .returned (.bool true) ∧ Below w.heap.size w w' := by
  obtain ⟨hx0, ht0⟩ := TapeAt.new (c := c) hr hL
  have HX0 := Lib.hid hx0
  have HT0 := Lib.hid ht0
  clear hx0 ht0 hr hL
  go_enter Try.func8, Try.ntmps8
  go_wp2_with fail
  refine (gnew ((ghW w).box w.heap.size) _).mono ?_
  rintro e w1 ⟨d, g1, rfl, hd, hx1, hD1⟩
  have HX1 := Lib.hid (HX0.out.trans hx1)
  have HT1 := Lib.hid (HT0.out.ext hx1 (fun h => h))
  have HD1 := Lib.hid hD1
  have s0 := HT0.out.lt
  have d1 := hD1.lt
  clear hx1 hD1 HX0 HT0
  go_wp2_with fail
  refine (open_none d g1 w1 dev0 HD1.out ⟨#[106]⟩ (by decide) rfl rfl).mono ?_
  rintro e w3 ⟨j, g3, rfl, ha, hx3, hA3⟩
  have HX3 := Lib.hid (HX1.out.trans hx3)
  have HT3 := Lib.hid (HT1.out.ext hx3 (fun h => h))
  have HD3 := Lib.hid (HD1.out.ext hx3 (fun h => h))
  have HJ3 := Lib.hid hA3
  have j3 := hA3.lt
  have hdt : w.heap.size < d := by
    have : (w.alloc (.cells #[.slice A L.length c, .int .i64 0] 43)).heap.size = w.heap.size + 1 := by simp
    omega
  have hjd : d < j := by omega
  clear hx3 hA3 HX1 HT1 HD1 hd ha s0 d1
  go_wp2_with fail
  refine (known_any g3 w3).mono ?_
  rintro e w4 ⟨rfl, g4, hx4⟩
  have hdl := HD3.out.lt
  have htl := HT3.out.lt
  have hs3 := HX3.out.size
  have HX4 : Hid (Ext (fun o => w.heap.size ≤ o) (ghW w) w g4 w4) := (HX3.out.imp (fun _ h => h.elim)).trans (hx4.imp (fun o h => Nat.le_trans hs3 h))
  have HT4 := Lib.hid (HT3.out.ext hx4 (by omega))
  have HD4 := Lib.hid (HD3.out.ext hx4 (by omega))
  have HJ4 := Lib.hid (HJ3.out.ext hx4 (by omega))
  have hs4 := hx4.size
  have hj4 : j < w4.heap.size := by omega
  clear hx4 HX3 HT3 HD3 HJ3 hdl htl hs3 hs4 j3
  go_wp2_with fail
  have hxb := Ext.box (fun _ => False) g4 w4 (.cells #[.int .i64 0, .slice none 0 0, .slice none 0 0] 48)
  have HP5 : Hid (Pl w (g4.box w4.heap.size) (w4.alloc (.cells #[.int .i64 0, .slice none 0 0, .slice none 0 0] 48)) w.heap.size d w4.heap.size j (jrn0 ⟨#[106]⟩) dev0 0 (refOf (jrn0 ⟨#[106]⟩)) none 0 none 0) := by
    have := HX4.out.size
    exact ⟨HX4.out.trans (hxb.imp (fun _ h => h.elim)), HJ4.out.ext hxb (fun h => h), HD4.out.ext hxb (fun h => h), HT4.out.ext hxb (fun h => h), Blk.new w4 48 [.int .i64 0, .slice none 0 0, .slice none 0 0], RecsAt.nil _ _, RecsAt.nil _ _, g4.box_O _, g4.box_F _, by omega, by omega, by omega, by omega, by omega, by omega, by omega, by omega, by omega⟩
  clear hxb HX4 HT4 HD4 HJ4
  generalize g4.box w4.heap.size = g5 at *
  generalize hw5 : w4.alloc (.cells #[.int .i64 0, .slice none 0 0, .slice none 0 0] 48) = w5 at *
  generalize hwb : w4.heap.size = wb at *
  clear hw5 hwb
  refine (next_any w.heap.size 0 g5 w5 HP5.out.ht (by omega) 30 (by omega)).mono ?_
  rintro e w6 ⟨v, rfl, hv0, hv1, hx6, ht6⟩
  have HP6 := Lib.hid (HP5.out.tape hx6 ht6)
  obtain ⟨vn, rfl⟩ : ∃ vn : Nat, v = vn := ⟨v.toNat, by omega⟩
  have hvn : vn ≤ 29 := by omega
  clear hx6 ht6 HP5 hv0 hv1 hj4 hjd hdt
  go_wp2_with fail
  go_loopw [5, 8] (fun q i wr => ∃ (k m j : Nat) (gr : Gh) (Jr : Jrn) (D : Dev) (A1 : Option Addr) (c1 : Nat) (A2 : Option Addr) (c2 : Nat), q = .pointer (some ⟨j, 0, none⟩) ∧ i = .int .i64 k ∧ k ≤ 29 ∧ Pl w gr wr w.heap.size d wb j Jr D m (refOf Jr) A1 c1 A2 c2 ∧ Good Jr D 0 (29 - k) ∧ m ≤ 1 + 10 * (29 - k) ∧ Jr.name = ⟨#[106]⟩ ∧ Jr.recs.length + Jr.pend.length ≤ 29 - k ∧ lens Jr.recs + lens Jr.pend ≤ 6 * (29 - k)) (fun _ i _ => (intOf i).toNat)
  case atStart => exact ⟨vn, 0 + 1, j, g5, jrn0 ⟨#[106]⟩, dev0, none, 0, none, 0, rfl, rfl, hvn, HP6.out, Good.dev0 (by decide) _, by omega, rfl, by simp [jrn0], by simp [jrn0, lens]⟩
  case round =>
    obtain ⟨k, m, jr, gr, Jr, D, A1, c1, A2, c2, rfl, rfl, hk, hpl, hG, hm, hnm, hcnt, hlen⟩ := hrel
    have HP7 := Lib.hid hpl
    have HG7 := Lib.hid hG
    have HN7 := Lib.hid hnm
    have HC7 := Lib.hid (And.intro hcnt hlen)
    clear hpl hG hnm hcnt hlen HP6
    by_cases hlt : 0 < k
    · go_wp2_with fail
      refine (next_any w.heap.size m gr wr HP7.out.ht (by omega) 8 (by omega)).mono ?_
      rintro e w8 ⟨v, rfl, hv0, hv1, hx8, ht8⟩
      have HP8 := Lib.hid (HP7.out.tape hx8 ht8)
      obtain ⟨sw, rfl⟩ : ∃ sw : Nat, v = sw := ⟨v.toNat, by omega⟩
      have hsw : sw ≤ 7 := by omega
      clear hx8 ht8 HP7 hv0 hv1
      generalize gr = g8 at *
      have q0 : w8.cell? ⟨wb, 0, none⟩ = some (.int .i64 Jr.start) := HP8.out.hb.cell 0
      have q1 : w8.cell? ⟨wb, 1, none⟩ = some (.slice A1 Jr.recs.length c1) := HP8.out.hb.cell 1
      have q2 : w8.cell? ⟨wb, 2, none⟩ = some (.slice A2 Jr.pend.length c2) := HP8.out.hb.cell 2
      have qz := HP8.out.hb.fz
      rcases (show sw = 0 ∨ sw = 1 ∨ sw = 2 ∨ sw = 3 ∨ sw = 4 ∨ sw = 5 ∨ sw = 6 ∨ sw = 7 by omega) with rfl | rfl | rfl | rfl | rfl | rfl | rfl | rfl
      · go_wp2_with fail
        refine (gcommit jr d g8 w8 Jr D 0 _ HP8.out.hJ HP8.out.hD HG7.out (by omega) (by omega)).mono ?_
        rintro e w9 ⟨rfl, D9, hP, hG9, _⟩
        obtain ⟨g9, hp9, _⟩ := HP8.out.op hP
        have HP9 := Lib.hid hp9
        have HG12 := Lib.hid hG9
        have HN12 : Hid ((comR Jr).name = ⟨#[106]⟩) := HN7.out
        have HC12 : Hid ((comR Jr).recs.length + (comR Jr).pend.length ≤ 29 - k ∧ lens (comR Jr).recs + lens (comR Jr).pend ≤ 6 * (29 - k)) := ⟨by have := HC7.out.1; show (Jr.recs ++ Jr.pend).length + 0 ≤ _; rw [List.length_append]; omega, by have := HC7.out.2; show lens (Jr.recs ++ Jr.pend) + 0 ≤ _; rw [lens_append]; omega⟩
        have HREF : Hid (∀ g10 w10 v', RefAt g10 w10 v' ⟨(refOf Jr).start, (refOf Jr).recs ++ (refOf Jr).pend.take Jr.pend.length, []⟩ → RefAt g10 w10 v' (refOf (comR Jr))) := by
          intro g10 w10 v' h
          have e : (refOf Jr).recs ++ (refOf Jr).pend.take Jr.pend.length = Jr.recs ++ Jr.pend := by show Jr.recs ++ Jr.pend.take Jr.pend.length = _; rw [List.take_length]
          rw [e] at h
          exact h
        have q09 : w9.cell? ⟨wb, 0, none⟩ = some (.int .i64 Jr.start) := hp9.hb.cell 0
        have q19 : w9.cell? ⟨wb, 1, none⟩ = some (.slice A1 Jr.recs.length c1) := hp9.hb.cell 1
        have q29 : w9.cell? ⟨wb, 2, none⟩ = some (.slice A2 Jr.pend.length c2) := hp9.hb.cell 2
        have qz9 := hp9.hb.fz
        clear hp9 hP hG9 HP8 q0 q1 q2 qz
        generalize comR Jr = K at *
        have hc1 : Jr.recs.length ≤ 1000000 := by have := HC7.out.1; omega
        have hc2 : Jr.pend.length ≤ 1000000 := by have := HC7.out.1; omega
        go_wp2_with fail
        refine (rcommit_any g9 w9 _ (refOf Jr) HP9.out.ref hc1 hc2 Jr.pend.length (Nat.le_refl _)).mono ?_
        rintro e w10 ⟨v', g10, rfl, hx10, hv⟩
        have hv' := HREF.out _ _ _ hv
        have HP10 := Lib.hid (HP9.out.same hx10)
        obtain ⟨B1, e1, B2, e2, rfl, h1, h2⟩ := hv'
        have HP12 := Lib.hid (HP10.out.store (R' := refOf K) h1 h2)
        have q010 : w10.cell? ⟨wb, 0, none⟩ = some (.int .i64 Jr.start) := HP10.out.hb.cell 0
        have q110 : w10.cell? ⟨wb, 1, none⟩ = some (.slice A1 Jr.recs.length c1) := HP10.out.hb.cell 1
        have q210 : w10.cell? ⟨wb, 2, none⟩ = some (.slice A2 Jr.pend.length c2) := HP10.out.hb.cell 2
        have qz10 := HP10.out.hb.fz
        clear hx10 hv h1 h2 HP9 HP10 HREF q09 q19 q29 qz9 hc1 hc2
        have k1 := HG12.out.st0
        have k2 := HG12.out.st1
        have k3 := HG12.out.cnt
        have HIS : Hid (Calls Try.prog 32 #[.pointer (some ⟨jr, 0, none⟩), .agg #[.int .i64 (refOf K).start, .slice B1 (refOf K).recs.length e1, .slice B2 (refOf K).pend.length e2]] (((w10.setCell ⟨wb, 0, none⟩ (.int .i64 (refOf K).start)).setCell ⟨wb, 1, none⟩ (.slice B1 (refOf K).recs.length e1)).setCell ⟨wb, 2, none⟩ (.slice B2 (refOf K).pend.length e2)) fun e w' => e = .returned (.bool true) ∧ SameP g10 (((w10.setCell ⟨wb, 0, none⟩ (.int .i64 (refOf K).start)).setCell ⟨wb, 1, none⟩ (.slice B1 (refOf K).recs.length e1)).setCell ⟨wb, 2, none⟩ (.slice B2 (refOf K).pend.length e2)) w') := is_any jr d g10 (((w10.setCell ⟨wb, 0, none⟩ (.int .i64 (refOf K).start)).setCell ⟨wb, 1, none⟩ (.slice B1 (refOf K).recs.length e1)).setCell ⟨wb, 2, none⟩ (.slice B2 (refOf K).pend.length e2)) K _ HP12.out.hJ HP12.out.ref k1 (by omega) (by omega) (fun r hr => HG12.out.rl r (List.mem_append_left _ hr))
        clear k1 k2 k3
        go_wp2_with fail
        refine HIS.out.mono ?_
        rintro e w13 ⟨rfl, g13, hx13⟩
        have HP13 := Lib.hid (HP12.out.same hx13)
        clear hx13
        go_wp2_with fail
        refine (jdead_any jr d g13 w13 K HP13.out.hJ).mono ?_
        rw [HG12.out.dead]
        rintro e w' ⟨rfl, rfl⟩
        go_wp2_with fail
        go_round
        case rel =>
          refine ⟨k - 1, (m + 1), jr, g13, K, D9, B1, e1, B2, e2, rfl, ?_, by omega, HP13.out, HG12.out.more (by omega), by omega, HN12.out, by have := HC12.out.1; omega, by have := HC12.out.2; omega⟩
          have : ((k - 1 : Nat) : Int) = (k : Int) - 1 := by omega
          rw [this]
        case measure => simp [intOf]; omega
      · go_wp2_with fail
        refine (gcommit jr d g8 w8 Jr D 0 _ HP8.out.hJ HP8.out.hD HG7.out (by omega) (by omega)).mono ?_
        rintro e w9 ⟨rfl, D9, hP, hG9, _⟩
        obtain ⟨g9, hp9, _⟩ := HP8.out.op hP
        have HP9 := Lib.hid hp9
        have HG12 := Lib.hid hG9
        have HN12 : Hid ((comR Jr).name = ⟨#[106]⟩) := HN7.out
        have HC12 : Hid ((comR Jr).recs.length + (comR Jr).pend.length ≤ 29 - k ∧ lens (comR Jr).recs + lens (comR Jr).pend ≤ 6 * (29 - k)) := ⟨by have := HC7.out.1; show (Jr.recs ++ Jr.pend).length + 0 ≤ _; rw [List.length_append]; omega, by have := HC7.out.2; show lens (Jr.recs ++ Jr.pend) + 0 ≤ _; rw [lens_append]; omega⟩
        have HREF : Hid (∀ g10 w10 v', RefAt g10 w10 v' ⟨(refOf Jr).start, (refOf Jr).recs ++ (refOf Jr).pend.take Jr.pend.length, []⟩ → RefAt g10 w10 v' (refOf (comR Jr))) := by
          intro g10 w10 v' h
          have e : (refOf Jr).recs ++ (refOf Jr).pend.take Jr.pend.length = Jr.recs ++ Jr.pend := by show Jr.recs ++ Jr.pend.take Jr.pend.length = _; rw [List.take_length]
          rw [e] at h
          exact h
        have q09 : w9.cell? ⟨wb, 0, none⟩ = some (.int .i64 Jr.start) := hp9.hb.cell 0
        have q19 : w9.cell? ⟨wb, 1, none⟩ = some (.slice A1 Jr.recs.length c1) := hp9.hb.cell 1
        have q29 : w9.cell? ⟨wb, 2, none⟩ = some (.slice A2 Jr.pend.length c2) := hp9.hb.cell 2
        have qz9 := hp9.hb.fz
        clear hp9 hP hG9 HP8 q0 q1 q2 qz
        generalize comR Jr = K at *
        have hc1 : Jr.recs.length ≤ 1000000 := by have := HC7.out.1; omega
        have hc2 : Jr.pend.length ≤ 1000000 := by have := HC7.out.1; omega
        go_wp2_with fail
        refine (rcommit_any g9 w9 _ (refOf Jr) HP9.out.ref hc1 hc2 Jr.pend.length (Nat.le_refl _)).mono ?_
        rintro e w10 ⟨v', g10, rfl, hx10, hv⟩
        have hv' := HREF.out _ _ _ hv
        have HP10 := Lib.hid (HP9.out.same hx10)
        obtain ⟨B1, e1, B2, e2, rfl, h1, h2⟩ := hv'
        have HP12 := Lib.hid (HP10.out.store (R' := refOf K) h1 h2)
        have q010 : w10.cell? ⟨wb, 0, none⟩ = some (.int .i64 Jr.start) := HP10.out.hb.cell 0
        have q110 : w10.cell? ⟨wb, 1, none⟩ = some (.slice A1 Jr.recs.length c1) := HP10.out.hb.cell 1
        have q210 : w10.cell? ⟨wb, 2, none⟩ = some (.slice A2 Jr.pend.length c2) := HP10.out.hb.cell 2
        have qz10 := HP10.out.hb.fz
        clear hx10 hv h1 h2 HP9 HP10 HREF q09 q19 q29 qz9 hc1 hc2
        have k1 := HG12.out.st0
        have k2 := HG12.out.st1
        have k3 := HG12.out.cnt
        have HIS : Hid (Calls Try.prog 32 #[.pointer (some ⟨jr, 0, none⟩), .agg #[.int .i64 (refOf K).start, .slice B1 (refOf K).recs.length e1, .slice B2 (refOf K).pend.length e2]] (((w10.setCell ⟨wb, 0, none⟩ (.int .i64 (refOf K).start)).setCell ⟨wb, 1, none⟩ (.slice B1 (refOf K).recs.length e1)).setCell ⟨wb, 2, none⟩ (.slice B2 (refOf K).pend.length e2)) fun e w' => e = .returned (.bool true) ∧ SameP g10 (((w10.setCell ⟨wb, 0, none⟩ (.int .i64 (refOf K).start)).setCell ⟨wb, 1, none⟩ (.slice B1 (refOf K).recs.length e1)).setCell ⟨wb, 2, none⟩ (.slice B2 (refOf K).pend.length e2)) w') := is_any jr d g10 (((w10.setCell ⟨wb, 0, none⟩ (.int .i64 (refOf K).start)).setCell ⟨wb, 1, none⟩ (.slice B1 (refOf K).recs.length e1)).setCell ⟨wb, 2, none⟩ (.slice B2 (refOf K).pend.length e2)) K _ HP12.out.hJ HP12.out.ref k1 (by omega) (by omega) (fun r hr => HG12.out.rl r (List.mem_append_left _ hr))
        clear k1 k2 k3
        go_wp2_with fail
        refine HIS.out.mono ?_
        rintro e w13 ⟨rfl, g13, hx13⟩
        have HP13 := Lib.hid (HP12.out.same hx13)
        clear hx13
        go_wp2_with fail
        refine (jdead_any jr d g13 w13 K HP13.out.hJ).mono ?_
        rw [HG12.out.dead]
        rintro e w' ⟨rfl, rfl⟩
        go_wp2_with fail
        go_round
        case rel =>
          refine ⟨k - 1, (m + 1), jr, g13, K, D9, B1, e1, B2, e2, rfl, ?_, by omega, HP13.out, HG12.out.more (by omega), by omega, HN12.out, by have := HC12.out.1; omega, by have := HC12.out.2; omega⟩
          have : ((k - 1 : Nat) : Int) = (k : Int) - 1 := by omega
          rw [this]
        case measure => simp [intOf]; omega
      · go_wp2_with fail
        have HP9 := Lib.hid (HP8.out.same ((Ext.refl (fun _ => False) g8 w8).drew))
        have hS : (fun x => Blk wb 48 [.int .i64 Jr.start, .slice A1 Jr.recs.length c1, .slice A2 Jr.pend.length c2] x) w8.drew := HP9.out.hb
        have hcc := HC7.out.1
        have HG8 := HG7
        clear HP8 q0 q1 q2 qz
        (refine wp_region_mix (S := fun x => Blk wb 48 [.int .i64 Jr.start, .slice A1 Jr.recs.length c1, .slice A2 Jr.pend.length c2] x) [8, 9, 10] [([0, 1, 2, 3, 4, 5, 6], 7)] (by kernel_rfl) (by kernel_rfl) (by intro c a d v w h; cases d <;> exact h) hS ?_; have hN : Nonempty (Held (fun x => Blk wb 48 [.int .i64 Jr.start, .slice A1 Jr.recs.length c1, .slice A2 Jr.pend.length c2] x)) := ⟨⟨_, hS⟩⟩)
        have x0 : ∀ y : Held (fun x => Blk wb 48 [.int .i64 Jr.start, .slice A1 Jr.recs.length c1, .slice A2 Jr.pend.length c2] x), y.w.cell? ⟨wb, 0, none⟩ = some (.int .i64 Jr.start) := fun y => y.ok.cell 0
        have x1 : ∀ y : Held (fun x => Blk wb 48 [.int .i64 Jr.start, .slice A1 Jr.recs.length c1, .slice A2 Jr.pend.length c2] x), y.w.cell? ⟨wb, 1, none⟩ = some (.slice A1 Jr.recs.length c1) := fun y => y.ok.cell 1
        (unfold wpMix wpRd; (repeat (first | simp only [List.filterMap_cons] | simp only [List.filterMap_nil] | simp only [List.getElem?_toArray] | simp only [List.getElem?_cons_zero] | simp only [List.getElem?_cons_succ])); (try dsimp only); change wpQuiet _ _ _ _ (_ :: _ :: _ :: _ :: _ :: _ :: _ :: []) _; (repeat (go_big_quiet_step (fail))); refine wpQuiet_nil ?_; (try dsimp only))
        clear x0 x1
        go_wp2_with fail
        refine (next_any w.heap.size (m + 1) g8 _ HP9.out.ht (by omega) ((Jr.recs.length : Int) + 3) (by omega)).mono ?_
        rintro e w10 ⟨v, rfl, hv0, hv1, hx10, ht10⟩
        have HP10 := Lib.hid (HP9.out.tape hx10 ht10)
        have hS10 : (fun x => Blk wb 48 [.int .i64 Jr.start, .slice A1 Jr.recs.length c1, .slice A2 Jr.pend.length c2] x) w10 := HP10.out.hb
        have st0 := HG8.out.st0
        have st1 := HG8.out.st1
        have hv2 : v < Jr.recs.length + 3 := by omega
        clear hx10 ht10 hv1 HP9
        go_wp2_with fail
        refine ⟨hS10, ?_⟩
        (unfold wpMix wpRd; (repeat (first | simp only [List.filterMap_cons] | simp only [List.filterMap_nil] | simp only [List.getElem?_toArray] | simp only [List.getElem?_cons_zero] | simp only [List.getElem?_cons_succ])); (try dsimp only); change wpQuiet _ _ _ _ (_ :: _ :: _ :: []) _; (repeat (go_big_quiet_step (fail))); refine wpQuiet_nil ?_; (try dsimp only))
        clear hN
        have HST : Hid ((refOf Jr).start = Jr.start) := rfl
        generalize hpp : Jr.start + v - 1 = pp at *
        have HCI : Hid ((refOf Jr).cutI pp = cutI Jr pp) := rfl
        have HREF : Hid ((refOf Jr).cut pp = refOf (cutR Jr pp)) := by
          show _ = _
          unfold RefR.cut cutR refOf
          by_cases h1 : pp < Jr.start ∨ Jr.start + Jr.recs.length < pp
          · rw [if_pos h1, if_pos (by rcases h1 with h1 | h1; exact .inl (by omega); exact .inr h1)]
          · rw [if_neg h1]
            by_cases h2 : pp = Jr.start
            · rw [if_pos (.inl (by omega)), h2]
              simp
            · rw [if_neg (by omega)]
        have HN12 : Hid ((cutR Jr pp).name = ⟨#[106]⟩) := by show _ = _; unfold cutR; split <;> exact HN7.out
        have HC12 : Hid ((cutR Jr pp).recs.length + (cutR Jr pp).pend.length ≤ 29 - k ∧ lens (cutR Jr pp).recs + lens (cutR Jr pp).pend ≤ 6 * (29 - k)) := by
          have h1 := HC7.out.1
          have h2 := HC7.out.2
          unfold cutR
          split
          · exact ⟨h1, h2⟩
          · refine ⟨?_, ?_⟩
            · show (Jr.recs.drop _).length + Jr.pend.length ≤ _
              rw [List.length_drop]; omega
            · show lens (Jr.recs.drop _) + lens Jr.pend ≤ _
              have := lens_append (Jr.recs.take (pp - Jr.start).toNat) (Jr.recs.drop (pp - Jr.start).toNat)
              rw [List.take_append_drop] at this
              omega
        have HRC : Hid (∀ g11 w11, RefAt g11 w11 (.agg #[.int .i64 Jr.start, .slice A1 Jr.recs.length c1, .slice A2 Jr.pend.length c2]) (refOf Jr) → Calls Try.prog 29 #[.agg #[.int .i64 Jr.start, .slice A1 Jr.recs.length c1, .slice A2 Jr.pend.length c2], .int .i64 pp] w11 (RefP g11 w11 (refOf (cutR Jr pp)) (cutI Jr pp))) := by
          intro g11 w11 h
          have := rcut_any g11 w11 _ (refOf Jr) h pp st0 (by show Jr.start ≤ _; omega) (by show Jr.recs.length ≤ _; omega)
          rw [HREF.out, HCI.out] at this
          exact this
        have HGC := Lib.hid (gcut jr d g8 w10 Jr D 0 _ HP10.out.hJ HP10.out.hD HG8.out (by omega) (by omega) pp)
        clear hpp HREF HCI st0 st1 hv0 hv2 hcc
        generalize cutI Jr pp = ci at *
        generalize cutR Jr pp = K at *
        go_wp2_with fail
        refine HGC.out.mono ?_
        rintro e w11 ⟨rfl, D9, hP, hG9, _⟩
        obtain ⟨g11, hp11, _⟩ := HP10.out.op hP
        have HP11 := Lib.hid hp11
        have HG12 := Lib.hid hG9
        have q011 : w11.cell? ⟨wb, 0, none⟩ = some (.int .i64 Jr.start) := hp11.hb.cell 0
        have q111 : w11.cell? ⟨wb, 1, none⟩ = some (.slice A1 Jr.recs.length c1) := hp11.hb.cell 1
        have q211 : w11.cell? ⟨wb, 2, none⟩ = some (.slice A2 Jr.pend.length c2) := hp11.hb.cell 2
        have qz11 := hp11.hb.fz
        clear hp11 hP hG9 HP10 hS10 hS HGC
        go_wp2_with fail
        refine (HRC.out g11 w11 HP11.out.ref).mono ?_
        rintro e w12 ⟨v', g12, rfl, hx12, hv'⟩
        have HP12' := Lib.hid (HP11.out.same hx12)
        obtain ⟨B1, e1, B2, e2, rfl, h1, h2⟩ := hv'
        have HP12 := Lib.hid (HP12'.out.store (R' := refOf K) h1 h2)
        have q012 : w12.cell? ⟨wb, 0, none⟩ = some (.int .i64 Jr.start) := HP12'.out.hb.cell 0
        have q112 : w12.cell? ⟨wb, 1, none⟩ = some (.slice A1 Jr.recs.length c1) := HP12'.out.hb.cell 1
        have q212 : w12.cell? ⟨wb, 2, none⟩ = some (.slice A2 Jr.pend.length c2) := HP12'.out.hb.cell 2
        have qz12 := HP12'.out.hb.fz
        clear hx12 h1 h2 HP11 HP12' HRC q011 q111 q211 qz11
        have k1 := HG12.out.st0
        have k2 := HG12.out.st1
        have k3 := HG12.out.cnt
        have HIS : Hid (Calls Try.prog 32 #[.pointer (some ⟨jr, 0, none⟩), .agg #[.int .i64 (refOf K).start, .slice B1 (refOf K).recs.length e1, .slice B2 (refOf K).pend.length e2]] (((w12.setCell ⟨wb, 0, none⟩ (.int .i64 (refOf K).start)).setCell ⟨wb, 1, none⟩ (.slice B1 (refOf K).recs.length e1)).setCell ⟨wb, 2, none⟩ (.slice B2 (refOf K).pend.length e2)) fun e w' => e = .returned (.bool true) ∧ SameP g12 (((w12.setCell ⟨wb, 0, none⟩ (.int .i64 (refOf K).start)).setCell ⟨wb, 1, none⟩ (.slice B1 (refOf K).recs.length e1)).setCell ⟨wb, 2, none⟩ (.slice B2 (refOf K).pend.length e2)) w') := is_any jr d g12 (((w12.setCell ⟨wb, 0, none⟩ (.int .i64 (refOf K).start)).setCell ⟨wb, 1, none⟩ (.slice B1 (refOf K).recs.length e1)).setCell ⟨wb, 2, none⟩ (.slice B2 (refOf K).pend.length e2)) K _ HP12.out.hJ HP12.out.ref k1 (by omega) (by omega) (fun r hr => HG12.out.rl r (List.mem_append_left _ hr))
        clear k1 k2 k3
        go_wp2_with fail
        refine HIS.out.mono ?_
        rintro e w13 ⟨rfl, g13, hx13⟩
        have HP13 := Lib.hid (HP12.out.same hx13)
        clear hx13
        go_wp2_with fail
        refine (jdead_any jr d g13 w13 K HP13.out.hJ).mono ?_
        rw [HG12.out.dead]
        rintro e w' ⟨rfl, rfl⟩
        go_wp2_with fail
        go_round
        case rel =>
          refine ⟨k - 1, (m + 1 + 1), jr, g13, K, D9, B1, e1, B2, e2, rfl, ?_, by omega, HP13.out, HG12.out.more (by omega), by omega, HN12.out, by have := HC12.out.1; omega, by have := HC12.out.2; omega⟩
          have : ((k - 1 : Nat) : Int) = (k : Int) - 1 := by omega
          rw [this]
        case measure => simp [intOf]; omega
      · go_wp2_with fail
        refine (gdiscard jr d g8 w8 Jr D 0 _ HP8.out.hJ HP8.out.hD HG7.out (by omega) (by omega)).mono ?_
        rintro e w9 ⟨rfl, hP, hG9⟩
        obtain ⟨g9, hp9, _⟩ := HP8.out.op hP
        have z9 := hp9.hb.fz
        have q29 : w9.cell? ⟨wb, 2, none⟩ = some (.slice A2 Jr.pend.length c2) := hp9.hb.cell 2
        have HP12 : Hid (Pl w g9 (w9.setCell ⟨wb, 2, none⟩ (.slice none 0 0)) w.heap.size d wb jr (disR Jr) D (m + 1) (refOf (disR Jr)) A1 c1 none 0) := hp9.nil2
        have HG12 := Lib.hid hG9
        have HN12 : Hid ((disR Jr).name = ⟨#[106]⟩) := HN7.out
        have HC12 : Hid ((disR Jr).recs.length + (disR Jr).pend.length ≤ 29 - k ∧ lens (disR Jr).recs + lens (disR Jr).pend ≤ 6 * (29 - k)) := ⟨by have := HC7.out.1; show Jr.recs.length + 0 ≤ _; omega, by have := HC7.out.2; show lens Jr.recs + 0 ≤ _; omega⟩
        have q09 : w9.cell? ⟨wb, 0, none⟩ = some (.int .i64 Jr.start) := hp9.hb.cell 0
        have q19 : w9.cell? ⟨wb, 1, none⟩ = some (.slice A1 Jr.recs.length c1) := hp9.hb.cell 1
        clear hp9 hP hG9 HP8 q0 q1 q2 qz
        have k1 := HG12.out.st0
        have k2 := HG12.out.st1
        have k3 := HG12.out.cnt
        have HIS : Hid (Calls Try.prog 32 #[.pointer (some ⟨jr, 0, none⟩), .agg #[.int .i64 Jr.start, .slice A1 Jr.recs.length c1, .slice none 0 0]] (w9.setCell ⟨wb, 2, none⟩ (.slice none 0 0)) fun e w' => e = .returned (.bool true) ∧ SameP g9 (w9.setCell ⟨wb, 2, none⟩ (.slice none 0 0)) w') := is_any jr d g9 (w9.setCell ⟨wb, 2, none⟩ (.slice none 0 0)) (disR Jr) _ HP12.out.hJ HP12.out.ref k1 (by omega) (by omega) (fun r hr => HG12.out.rl r (List.mem_append_left _ hr))
        clear k1 k2 k3
        go_wp2_with fail
        refine HIS.out.mono ?_
        rintro e w13 ⟨rfl, g13, hx13⟩
        have HP13 := Lib.hid (HP12.out.same hx13)
        clear hx13
        go_wp2_with fail
        refine (jdead_any jr d g13 w13 (disR Jr) HP13.out.hJ).mono ?_
        rw [HG12.out.dead]
        rintro e w' ⟨rfl, rfl⟩
        go_wp2_with fail
        go_round
        case rel =>
          refine ⟨k - 1, (m + 1), jr, g13, (disR Jr), D, A1, c1, none, 0, rfl, ?_, by omega, HP13.out, HG12.out.more (by omega), by omega, HN12.out, by have := HC12.out.1; omega, by have := HC12.out.2; omega⟩
          have : ((k - 1 : Nat) : Int) = (k : Int) - 1 := by omega
          rw [this]
        case measure => simp [intOf]; omega
      · have HOP : Hid (Calls Try.prog 12 #[.pointer (some ⟨d, 0, none⟩), .string ⟨#[106]⟩] w8 fun e w' => ∃ j g', e = .returned (.tuple #[.pointer (some ⟨j, 0, none⟩), .int .i64 0]) ∧ w8.heap.size ≤ j ∧ Ext (fun o => o = j) g8 w8 g' w' ∧ JAt g' w' j d (disR Jr)) := by
          have := gopen d g8 w8 Jr D 0 _ HP8.out.hD HG7.out (by omega)
          rw [HN7.out] at this
          exact this
        go_wp2_with fail
        refine HOP.out.mono ?_
        rintro e w9 ⟨j9, g9, rfl, hj9, hx9, hJ9⟩
        have hp9 := HP8.out.reopen hj9 hx9 hJ9
        have HP12 : Hid (Pl w g9 (w9.setCell ⟨wb, 2, none⟩ (.slice none 0 0)) w.heap.size d wb j9 (disR Jr) D (m + 1) (refOf (disR Jr)) A1 c1 none 0) := hp9.nil2
        have HG12 : Hid (Good (disR Jr) D 0 (29 - k)) := HG7.out.discard.2
        have HN12 : Hid ((disR Jr).name = ⟨#[106]⟩) := HN7.out
        have HC12 : Hid ((disR Jr).recs.length + (disR Jr).pend.length ≤ 29 - k ∧ lens (disR Jr).recs + lens (disR Jr).pend ≤ 6 * (29 - k)) := ⟨by have := HC7.out.1; show Jr.recs.length + 0 ≤ _; omega, by have := HC7.out.2; show lens Jr.recs + 0 ≤ _; omega⟩
        have q09 : w9.cell? ⟨wb, 0, none⟩ = some (.int .i64 Jr.start) := hp9.hb.cell 0
        have q19 : w9.cell? ⟨wb, 1, none⟩ = some (.slice A1 Jr.recs.length c1) := hp9.hb.cell 1
        have q29 : w9.cell? ⟨wb, 2, none⟩ = some (.slice A2 Jr.pend.length c2) := hp9.hb.cell 2
        have qz9 := hp9.hb.fz
        clear hp9 hj9 hx9 hJ9 HP8 q0 q1 q2 qz HOP
        have k1 := HG12.out.st0
        have k2 := HG12.out.st1
        have k3 := HG12.out.cnt
        have HIS : Hid (Calls Try.prog 32 #[.pointer (some ⟨j9, 0, none⟩), .agg #[.int .i64 Jr.start, .slice A1 Jr.recs.length c1, .slice none 0 0]] (w9.setCell ⟨wb, 2, none⟩ (.slice none 0 0)) fun e w' => e = .returned (.bool true) ∧ SameP g9 (w9.setCell ⟨wb, 2, none⟩ (.slice none 0 0)) w') := is_any j9 d g9 (w9.setCell ⟨wb, 2, none⟩ (.slice none 0 0)) (disR Jr) _ HP12.out.hJ HP12.out.ref k1 (by omega) (by omega) (fun r hr => HG12.out.rl r (List.mem_append_left _ hr))
        clear k1 k2 k3
        go_wp2_with fail
        refine HIS.out.mono ?_
        rintro e w13 ⟨rfl, g13, hx13⟩
        have HP13 := Lib.hid (HP12.out.same hx13)
        clear hx13
        go_wp2_with fail
        refine (jdead_any j9 d g13 w13 (disR Jr) HP13.out.hJ).mono ?_
        rw [HG12.out.dead]
        rintro e w' ⟨rfl, rfl⟩
        go_wp2_with fail
        go_round
        case rel =>
          refine ⟨k - 1, (m + 1), j9, g13, (disR Jr), D, A1, c1, none, 0, rfl, ?_, by omega, HP13.out, HG12.out.more (by omega), by omega, HN12.out, by have := HC12.out.1; omega, by have := HC12.out.2; omega⟩
          have : ((k - 1 : Nat) : Int) = (k : Int) - 1 := by omega
          rw [this]
        case measure => simp [intOf]; omega
      · go_wp2_with fail
        refine (record_any w.heap.size (m + 1) g8 w8 HP8.out.ht (by omega)).mono ?_
        rintro e w9 ⟨A9, c9, l, g9, rfl, hl9, hB9, hx9, ht9⟩
        have HP9 := Lib.hid (HP8.out.tape hx9 ht9)
        have HB9 := Lib.hid hB9
        have hcc := HC7.out.1
        have hcl := HC7.out.2
        have ha := HG7.out.app0 l (by omega) (by omega) (by omega)
        have HG12 := Lib.hid (HG7.out.appJ l)
        have HA1 := Lib.hid ha.1
        have HN12 : Hid ((jappJ Jr l).name = ⟨#[106]⟩) := by show _ = _; rw [ha.2]; exact HN7.out
        have HC12 : Hid ((jappJ Jr l).recs.length + (jappJ Jr l).pend.length ≤ 29 - k + 1 ∧ lens (jappJ Jr l).recs + lens (jappJ Jr l).pend ≤ 6 * (29 - k + 1)) := by
          rw [ha.2]
          refine ⟨?_, ?_⟩
          · show Jr.recs.length + (Jr.pend ++ [l]).length ≤ _
            rw [List.length_append, List.length_cons, List.length_nil]; omega
          · show lens Jr.recs + lens (Jr.pend ++ [l]) ≤ _
            rw [lens_append]; simp only [lens]; omega
        have HREF : Hid (∀ g10 w10 v', RefAt g10 w10 v' ⟨(refOf Jr).start, (refOf Jr).recs, (refOf Jr).pend ++ [l]⟩ → RefAt g10 w10 v' (refOf (jappJ Jr l))) := by
          intro g10 w10 v' h
          rw [ha.2]; exact h
        have HAP : Hid (Calls Try.prog 20 #[.pointer (some ⟨jr, 0, none⟩), .slice A9 l.length c9] w9 fun e w' => e = .returned (.int .i64 (jappI Jr l)) ∧ BothP jr d g9 w9 (jappJ Jr l) D w') := gappend jr d g9 w9 Jr D 0 _ HP9.out.hJ HP9.out.hD HG7.out (by omega) (by omega) A9 c9 l HB9.out (by omega)
        rw [HA1.out] at HAP
        have HRA : Hid (∀ g10 w10, RefAt g10 w10 (.agg #[.int .i64 Jr.start, .slice A1 Jr.recs.length c1, .slice A2 Jr.pend.length c2]) (refOf Jr) → BytesAt g10 w10 (.slice A9 l.length c9) l → Calls Try.prog 31 #[.agg #[.int .i64 Jr.start, .slice A1 Jr.recs.length c1, .slice A2 Jr.pend.length c2], .slice A9 l.length c9] w10 (RefP g10 w10 ⟨(refOf Jr).start, (refOf Jr).recs, (refOf Jr).pend ++ [l]⟩ 0)) := by
          intro g10 w10 h1 h2
          exact rappend_any g10 w10 _ (refOf Jr) h1 (by show Jr.recs.length + Jr.pend.length < _; omega) A9 c9 l h2 (by omega) (by show lens Jr.recs + lens Jr.pend + _ ≤ _; omega)
        clear hx9 ht9 hB9 ha HP8 q0 q1 q2 qz hcc hcl
        generalize l.length = ln at *
        go_wp2_with fail
        refine HAP.out.mono ?_
        rintro e w10 ⟨rfl, hP⟩
        obtain ⟨g10, hp10, hx10⟩ := HP9.out.op hP
        have HP10 := Lib.hid hp10
        have HB10 := Lib.hid (HB9.out.ext hx10)
        have q010 : w10.cell? ⟨wb, 0, none⟩ = some (.int .i64 Jr.start) := hp10.hb.cell 0
        have q110 : w10.cell? ⟨wb, 1, none⟩ = some (.slice A1 Jr.recs.length c1) := hp10.hb.cell 1
        have q210 : w10.cell? ⟨wb, 2, none⟩ = some (.slice A2 Jr.pend.length c2) := hp10.hb.cell 2
        have qz10 := hp10.hb.fz
        clear hp10 hx10 hP HP9 HB9 HAP
        generalize jappJ Jr l = K at *
        go_wp2_with fail
        refine (HRA.out g10 w10 HP10.out.ref HB10.out).mono ?_
        rintro e w11 ⟨v', g11, rfl, hx11, hv⟩
        have hv' := HREF.out _ _ _ hv
        have HP11 := Lib.hid (HP10.out.same hx11)
        obtain ⟨B1, e1, B2, e2, rfl, h1, h2⟩ := hv'
        have HP12 := Lib.hid (HP11.out.store (R' := refOf K) h1 h2)
        have q011 : w11.cell? ⟨wb, 0, none⟩ = some (.int .i64 Jr.start) := HP11.out.hb.cell 0
        have q111 : w11.cell? ⟨wb, 1, none⟩ = some (.slice A1 Jr.recs.length c1) := HP11.out.hb.cell 1
        have q211 : w11.cell? ⟨wb, 2, none⟩ = some (.slice A2 Jr.pend.length c2) := HP11.out.hb.cell 2
        have qz11 := HP11.out.hb.fz
        clear hx11 hv h1 h2 HP10 HB10 HP11 HREF HRA q010 q110 q210 qz10
        have k1 := HG12.out.st0
        have k2 := HG12.out.st1
        have k3 := HG12.out.cnt
        have HIS : Hid (Calls Try.prog 32 #[.pointer (some ⟨jr, 0, none⟩), .agg #[.int .i64 (refOf K).start, .slice B1 (refOf K).recs.length e1, .slice B2 (refOf K).pend.length e2]] (((w11.setCell ⟨wb, 0, none⟩ (.int .i64 (refOf K).start)).setCell ⟨wb, 1, none⟩ (.slice B1 (refOf K).recs.length e1)).setCell ⟨wb, 2, none⟩ (.slice B2 (refOf K).pend.length e2)) fun e w' => e = .returned (.bool true) ∧ SameP g11 (((w11.setCell ⟨wb, 0, none⟩ (.int .i64 (refOf K).start)).setCell ⟨wb, 1, none⟩ (.slice B1 (refOf K).recs.length e1)).setCell ⟨wb, 2, none⟩ (.slice B2 (refOf K).pend.length e2)) w') := is_any jr d g11 (((w11.setCell ⟨wb, 0, none⟩ (.int .i64 (refOf K).start)).setCell ⟨wb, 1, none⟩ (.slice B1 (refOf K).recs.length e1)).setCell ⟨wb, 2, none⟩ (.slice B2 (refOf K).pend.length e2)) K _ HP12.out.hJ HP12.out.ref k1 (by omega) (by omega) (fun r hr => HG12.out.rl r (List.mem_append_left _ hr))
        clear k1 k2 k3
        go_wp2_with fail
        refine HIS.out.mono ?_
        rintro e w13 ⟨rfl, g13, hx13⟩
        have HP13 := Lib.hid (HP12.out.same hx13)
        clear hx13
        go_wp2_with fail
        refine (jdead_any jr d g13 w13 K HP13.out.hJ).mono ?_
        rw [HG12.out.dead]
        rintro e w' ⟨rfl, rfl⟩
        go_wp2_with fail
        go_round
        case rel =>
          refine ⟨k - 1, (m + 1 + 8), jr, g13, K, D, B1, e1, B2, e2, rfl, ?_, by omega, HP13.out, HG12.out.more (by omega), by omega, HN12.out, by have := HC12.out.1; omega, by have := HC12.out.2; omega⟩
          have : ((k - 1 : Nat) : Int) = (k : Int) - 1 := by omega
          rw [this]
        case measure => simp [intOf]; omega
      · go_wp2_with fail
        refine (record_any w.heap.size (m + 1) g8 w8 HP8.out.ht (by omega)).mono ?_
        rintro e w9 ⟨A9, c9, l, g9, rfl, hl9, hB9, hx9, ht9⟩
        have HP9 := Lib.hid (HP8.out.tape hx9 ht9)
        have HB9 := Lib.hid hB9
        have hcc := HC7.out.1
        have hcl := HC7.out.2
        have ha := HG7.out.app0 l (by omega) (by omega) (by omega)
        have HG12 := Lib.hid (HG7.out.appJ l)
        have HA1 := Lib.hid ha.1
        have HN12 : Hid ((jappJ Jr l).name = ⟨#[106]⟩) := by show _ = _; rw [ha.2]; exact HN7.out
        have HC12 : Hid ((jappJ Jr l).recs.length + (jappJ Jr l).pend.length ≤ 29 - k + 1 ∧ lens (jappJ Jr l).recs + lens (jappJ Jr l).pend ≤ 6 * (29 - k + 1)) := by
          rw [ha.2]
          refine ⟨?_, ?_⟩
          · show Jr.recs.length + (Jr.pend ++ [l]).length ≤ _
            rw [List.length_append, List.length_cons, List.length_nil]; omega
          · show lens Jr.recs + lens (Jr.pend ++ [l]) ≤ _
            rw [lens_append]; simp only [lens]; omega
        have HREF : Hid (∀ g10 w10 v', RefAt g10 w10 v' ⟨(refOf Jr).start, (refOf Jr).recs, (refOf Jr).pend ++ [l]⟩ → RefAt g10 w10 v' (refOf (jappJ Jr l))) := by
          intro g10 w10 v' h
          rw [ha.2]; exact h
        have HAP : Hid (Calls Try.prog 20 #[.pointer (some ⟨jr, 0, none⟩), .slice A9 l.length c9] w9 fun e w' => e = .returned (.int .i64 (jappI Jr l)) ∧ BothP jr d g9 w9 (jappJ Jr l) D w') := gappend jr d g9 w9 Jr D 0 _ HP9.out.hJ HP9.out.hD HG7.out (by omega) (by omega) A9 c9 l HB9.out (by omega)
        rw [HA1.out] at HAP
        have HRA : Hid (∀ g10 w10, RefAt g10 w10 (.agg #[.int .i64 Jr.start, .slice A1 Jr.recs.length c1, .slice A2 Jr.pend.length c2]) (refOf Jr) → BytesAt g10 w10 (.slice A9 l.length c9) l → Calls Try.prog 31 #[.agg #[.int .i64 Jr.start, .slice A1 Jr.recs.length c1, .slice A2 Jr.pend.length c2], .slice A9 l.length c9] w10 (RefP g10 w10 ⟨(refOf Jr).start, (refOf Jr).recs, (refOf Jr).pend ++ [l]⟩ 0)) := by
          intro g10 w10 h1 h2
          exact rappend_any g10 w10 _ (refOf Jr) h1 (by show Jr.recs.length + Jr.pend.length < _; omega) A9 c9 l h2 (by omega) (by show lens Jr.recs + lens Jr.pend + _ ≤ _; omega)
        clear hx9 ht9 hB9 ha HP8 q0 q1 q2 qz hcc hcl
        generalize l.length = ln at *
        go_wp2_with fail
        refine HAP.out.mono ?_
        rintro e w10 ⟨rfl, hP⟩
        obtain ⟨g10, hp10, hx10⟩ := HP9.out.op hP
        have HP10 := Lib.hid hp10
        have HB10 := Lib.hid (HB9.out.ext hx10)
        have q010 : w10.cell? ⟨wb, 0, none⟩ = some (.int .i64 Jr.start) := hp10.hb.cell 0
        have q110 : w10.cell? ⟨wb, 1, none⟩ = some (.slice A1 Jr.recs.length c1) := hp10.hb.cell 1
        have q210 : w10.cell? ⟨wb, 2, none⟩ = some (.slice A2 Jr.pend.length c2) := hp10.hb.cell 2
        have qz10 := hp10.hb.fz
        clear hp10 hx10 hP HP9 HB9 HAP
        generalize jappJ Jr l = K at *
        go_wp2_with fail
        refine (HRA.out g10 w10 HP10.out.ref HB10.out).mono ?_
        rintro e w11 ⟨v', g11, rfl, hx11, hv⟩
        have hv' := HREF.out _ _ _ hv
        have HP11 := Lib.hid (HP10.out.same hx11)
        obtain ⟨B1, e1, B2, e2, rfl, h1, h2⟩ := hv'
        have HP12 := Lib.hid (HP11.out.store (R' := refOf K) h1 h2)
        have q011 : w11.cell? ⟨wb, 0, none⟩ = some (.int .i64 Jr.start) := HP11.out.hb.cell 0
        have q111 : w11.cell? ⟨wb, 1, none⟩ = some (.slice A1 Jr.recs.length c1) := HP11.out.hb.cell 1
        have q211 : w11.cell? ⟨wb, 2, none⟩ = some (.slice A2 Jr.pend.length c2) := HP11.out.hb.cell 2
        have qz11 := HP11.out.hb.fz
        clear hx11 hv h1 h2 HP10 HB10 HP11 HREF HRA q010 q110 q210 qz10
        have k1 := HG12.out.st0
        have k2 := HG12.out.st1
        have k3 := HG12.out.cnt
        have HIS : Hid (Calls Try.prog 32 #[.pointer (some ⟨jr, 0, none⟩), .agg #[.int .i64 (refOf K).start, .slice B1 (refOf K).recs.length e1, .slice B2 (refOf K).pend.length e2]] (((w11.setCell ⟨wb, 0, none⟩ (.int .i64 (refOf K).start)).setCell ⟨wb, 1, none⟩ (.slice B1 (refOf K).recs.length e1)).setCell ⟨wb, 2, none⟩ (.slice B2 (refOf K).pend.length e2)) fun e w' => e = .returned (.bool true) ∧ SameP g11 (((w11.setCell ⟨wb, 0, none⟩ (.int .i64 (refOf K).start)).setCell ⟨wb, 1, none⟩ (.slice B1 (refOf K).recs.length e1)).setCell ⟨wb, 2, none⟩ (.slice B2 (refOf K).pend.length e2)) w') := is_any jr d g11 (((w11.setCell ⟨wb, 0, none⟩ (.int .i64 (refOf K).start)).setCell ⟨wb, 1, none⟩ (.slice B1 (refOf K).recs.length e1)).setCell ⟨wb, 2, none⟩ (.slice B2 (refOf K).pend.length e2)) K _ HP12.out.hJ HP12.out.ref k1 (by omega) (by omega) (fun r hr => HG12.out.rl r (List.mem_append_left _ hr))
        clear k1 k2 k3
        go_wp2_with fail
        refine HIS.out.mono ?_
        rintro e w13 ⟨rfl, g13, hx13⟩
        have HP13 := Lib.hid (HP12.out.same hx13)
        clear hx13
        go_wp2_with fail
        refine (jdead_any jr d g13 w13 K HP13.out.hJ).mono ?_
        rw [HG12.out.dead]
        rintro e w' ⟨rfl, rfl⟩
        go_wp2_with fail
        go_round
        case rel =>
          refine ⟨k - 1, (m + 1 + 8), jr, g13, K, D, B1, e1, B2, e2, rfl, ?_, by omega, HP13.out, HG12.out.more (by omega), by omega, HN12.out, by have := HC12.out.1; omega, by have := HC12.out.2; omega⟩
          have : ((k - 1 : Nat) : Int) = (k : Int) - 1 := by omega
          rw [this]
        case measure => simp [intOf]; omega
      · go_wp2_with fail
        refine (record_any w.heap.size (m + 1) g8 w8 HP8.out.ht (by omega)).mono ?_
        rintro e w9 ⟨A9, c9, l, g9, rfl, hl9, hB9, hx9, ht9⟩
        have HP9 := Lib.hid (HP8.out.tape hx9 ht9)
        have HB9 := Lib.hid hB9
        have hcc := HC7.out.1
        have hcl := HC7.out.2
        have ha := HG7.out.app0 l (by omega) (by omega) (by omega)
        have HG12 := Lib.hid (HG7.out.appJ l)
        have HA1 := Lib.hid ha.1
        have HN12 : Hid ((jappJ Jr l).name = ⟨#[106]⟩) := by show _ = _; rw [ha.2]; exact HN7.out
        have HC12 : Hid ((jappJ Jr l).recs.length + (jappJ Jr l).pend.length ≤ 29 - k + 1 ∧ lens (jappJ Jr l).recs + lens (jappJ Jr l).pend ≤ 6 * (29 - k + 1)) := by
          rw [ha.2]
          refine ⟨?_, ?_⟩
          · show Jr.recs.length + (Jr.pend ++ [l]).length ≤ _
            rw [List.length_append, List.length_cons, List.length_nil]; omega
          · show lens Jr.recs + lens (Jr.pend ++ [l]) ≤ _
            rw [lens_append]; simp only [lens]; omega
        have HREF : Hid (∀ g10 w10 v', RefAt g10 w10 v' ⟨(refOf Jr).start, (refOf Jr).recs, (refOf Jr).pend ++ [l]⟩ → RefAt g10 w10 v' (refOf (jappJ Jr l))) := by
          intro g10 w10 v' h
          rw [ha.2]; exact h
        have HAP : Hid (Calls Try.prog 20 #[.pointer (some ⟨jr, 0, none⟩), .slice A9 l.length c9] w9 fun e w' => e = .returned (.int .i64 (jappI Jr l)) ∧ BothP jr d g9 w9 (jappJ Jr l) D w') := gappend jr d g9 w9 Jr D 0 _ HP9.out.hJ HP9.out.hD HG7.out (by omega) (by omega) A9 c9 l HB9.out (by omega)
        rw [HA1.out] at HAP
        have HRA : Hid (∀ g10 w10, RefAt g10 w10 (.agg #[.int .i64 Jr.start, .slice A1 Jr.recs.length c1, .slice A2 Jr.pend.length c2]) (refOf Jr) → BytesAt g10 w10 (.slice A9 l.length c9) l → Calls Try.prog 31 #[.agg #[.int .i64 Jr.start, .slice A1 Jr.recs.length c1, .slice A2 Jr.pend.length c2], .slice A9 l.length c9] w10 (RefP g10 w10 ⟨(refOf Jr).start, (refOf Jr).recs, (refOf Jr).pend ++ [l]⟩ 0)) := by
          intro g10 w10 h1 h2
          exact rappend_any g10 w10 _ (refOf Jr) h1 (by show Jr.recs.length + Jr.pend.length < _; omega) A9 c9 l h2 (by omega) (by show lens Jr.recs + lens Jr.pend + _ ≤ _; omega)
        clear hx9 ht9 hB9 ha HP8 q0 q1 q2 qz hcc hcl
        generalize l.length = ln at *
        go_wp2_with fail
        refine HAP.out.mono ?_
        rintro e w10 ⟨rfl, hP⟩
        obtain ⟨g10, hp10, hx10⟩ := HP9.out.op hP
        have HP10 := Lib.hid hp10
        have HB10 := Lib.hid (HB9.out.ext hx10)
        have q010 : w10.cell? ⟨wb, 0, none⟩ = some (.int .i64 Jr.start) := hp10.hb.cell 0
        have q110 : w10.cell? ⟨wb, 1, none⟩ = some (.slice A1 Jr.recs.length c1) := hp10.hb.cell 1
        have q210 : w10.cell? ⟨wb, 2, none⟩ = some (.slice A2 Jr.pend.length c2) := hp10.hb.cell 2
        have qz10 := hp10.hb.fz
        clear hp10 hx10 hP HP9 HB9 HAP
        generalize jappJ Jr l = K at *
        go_wp2_with fail
        refine (HRA.out g10 w10 HP10.out.ref HB10.out).mono ?_
        rintro e w11 ⟨v', g11, rfl, hx11, hv⟩
        have hv' := HREF.out _ _ _ hv
        have HP11 := Lib.hid (HP10.out.same hx11)
        obtain ⟨B1, e1, B2, e2, rfl, h1, h2⟩ := hv'
        have HP12 := Lib.hid (HP11.out.store (R' := refOf K) h1 h2)
        have q011 : w11.cell? ⟨wb, 0, none⟩ = some (.int .i64 Jr.start) := HP11.out.hb.cell 0
        have q111 : w11.cell? ⟨wb, 1, none⟩ = some (.slice A1 Jr.recs.length c1) := HP11.out.hb.cell 1
        have q211 : w11.cell? ⟨wb, 2, none⟩ = some (.slice A2 Jr.pend.length c2) := HP11.out.hb.cell 2
        have qz11 := HP11.out.hb.fz
        clear hx11 hv h1 h2 HP10 HB10 HP11 HREF HRA q010 q110 q210 qz10
        have k1 := HG12.out.st0
        have k2 := HG12.out.st1
        have k3 := HG12.out.cnt
        have HIS : Hid (Calls Try.prog 32 #[.pointer (some ⟨jr, 0, none⟩), .agg #[.int .i64 (refOf K).start, .slice B1 (refOf K).recs.length e1, .slice B2 (refOf K).pend.length e2]] (((w11.setCell ⟨wb, 0, none⟩ (.int .i64 (refOf K).start)).setCell ⟨wb, 1, none⟩ (.slice B1 (refOf K).recs.length e1)).setCell ⟨wb, 2, none⟩ (.slice B2 (refOf K).pend.length e2)) fun e w' => e = .returned (.bool true) ∧ SameP g11 (((w11.setCell ⟨wb, 0, none⟩ (.int .i64 (refOf K).start)).setCell ⟨wb, 1, none⟩ (.slice B1 (refOf K).recs.length e1)).setCell ⟨wb, 2, none⟩ (.slice B2 (refOf K).pend.length e2)) w') := is_any jr d g11 (((w11.setCell ⟨wb, 0, none⟩ (.int .i64 (refOf K).start)).setCell ⟨wb, 1, none⟩ (.slice B1 (refOf K).recs.length e1)).setCell ⟨wb, 2, none⟩ (.slice B2 (refOf K).pend.length e2)) K _ HP12.out.hJ HP12.out.ref k1 (by omega) (by omega) (fun r hr => HG12.out.rl r (List.mem_append_left _ hr))
        clear k1 k2 k3
        go_wp2_with fail
        refine HIS.out.mono ?_
        rintro e w13 ⟨rfl, g13, hx13⟩
        have HP13 := Lib.hid (HP12.out.same hx13)
        clear hx13
        go_wp2_with fail
        refine (jdead_any jr d g13 w13 K HP13.out.hJ).mono ?_
        rw [HG12.out.dead]
        rintro e w' ⟨rfl, rfl⟩
        go_wp2_with fail
        go_round
        case rel =>
          refine ⟨k - 1, (m + 1 + 8), jr, g13, K, D, B1, e1, B2, e2, rfl, ?_, by omega, HP13.out, HG12.out.more (by omega), by omega, HN12.out, by have := HC12.out.1; omega, by have := HC12.out.2; omega⟩
          have : ((k - 1 : Nat) : Int) = (k : Int) - 1 := by omega
          rw [this]
        case measure => simp [intOf]; omega
    · obtain rfl : k = 0 := by omega
      go_wp2_with fail
      go_ret
      exact ⟨rfl, HP7.out.hx.finW⟩

end Go.Proofs.Ytopggjpaplhboaa
