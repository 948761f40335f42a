/-
  The walk of CheckpointRecovers.
-/
import Derived.Test.YtcjkllmellampaaDoorCkB
import Derived.Test.YtcjkllmellampaaDoorCkJ
namespace Go.Proofs.YtcjkllmellampaaDoor
open Go.RowKit

/-- A step that touches what belongs to an owner of its own. -/
theorem Kp.own {w : World} {t d : Nat} {g : Gh} {x : World} {D : Dev} {m : Nat} {B : List (Nat × TypeId × List Value)} {R : Gh → World → Prop} (h : Kp w t d g x D m B R) {g' : Gh} {x' : World} {o : Nat} (hx : Ext (· = o) g x g' x') (h0 : w.heap.size ≤ o) (h1 : t ≠ o) (h2 : d ≠ o) (h3 : ∀ p ∈ B, p.1 ≠ o) : Kp w t d g' x' D m B R :=
  ⟨h.hx.trans (hx.imp (fun a e => by subst e; exact h0)), h.hD.ext hx h2, h.ht.ext hx h1, h.dw, h.tw, h.dt, h.boxes hx h3, h.rs _ _ _ _ _ h.r hx, h.rs⟩

theorem opens_good {J : Jrn} {D D2 : Dev} {c m d : Nat} (hG : Good J D c m) (hm : m ≤ 4611686018427387904) (hdn : D2.down = false) (he : D2.now.m J.file = D.now.m J.file) : Opens d D2 J.name (disR J) := by
  intro g w hD
  have h1 := hG.st0
  have h2 := hG.st1
  have h3 := hG.cnt
  have h4 := hG.bx
  have h5 := hG.dead
  have hrl : ∀ r ∈ J.recs, r.length ≤ 65536 := fun r hr => hG.rl r (List.mem_append_left _ hr)
  cases hw : J.whole
  · obtain ⟨e1, e2, e3⟩ := hG.nw hw
    refine (open_none d g w D2 hD J.name hG.nm hdn (he.trans e1)).mono ?_
    rintro e w' ⟨j', g', a1, a2, a3, a4⟩
    refine ⟨j', g', a1, a2, a3.imp (fun _ h => h.elim), ?_⟩
    have : disR J = jrn0 J.name := by
      rcases J with ⟨a, b, cc, dd, e, f, g⟩
      simp only at hw e2 e3 h5
      subst hw e2 e3 h5
      rfl
    rw [this]; exact a4
  · have e1 := hG.wh hw
    have hl := fileB_len J.start.toNat (by omega) J.recs hrl
    refine (open_some d g w D2 hD J.name hG.nm hdn J.start.toNat (by omega) J.recs [] (by rw [List.append_nil]; exact he.trans e1) Torn.nil hrl (by omega) (by omega) (by rw [List.append_nil]; omega)).mono ?_
    rintro e w' ⟨j', g', a1, a2, a3, a4⟩
    refine ⟨j', g', a1, a2, a3, ?_⟩
    have : disR J = recJ J.name J.start.toNat J.recs ([] : List UInt8).isEmpty := by
      rcases J with ⟨a, b, cc, dd, e, f, g⟩
      simp only at hw h5 h1
      subst hw h5
      have hb : ((b.toNat : Nat) : Int) = b := by omega
      simp only [disR, recJ, hb]
      rfl
    rw [this]; exact a4

def jN : ByteArray := ⟨#[106]⟩
theorem jN_ok : nmB false 40 ⟨#[106]⟩ = true := by decide
theorem cj_two : TwoNames ⟨#[99]⟩ ⟨#[106]⟩ := ⟨by decide, by decide, by decide⟩

/-- What is there ahead of Recover. -/
def RvMid (w : World) (t d bc bj before N : Nat) (x : World) : Prop :=
  ∃ (g : Gh) (D : Dev) (m : Nat) (oo o0 o1 : Option Ck) (p : Int) (As : Option Addr) (ns cs : Nat) (isb : Bool) (A1 : Option Addr) (c1 : Nat) (J : Jrn),
    Kp w t d g x D m [(bc, 34, [.int .i64 p, .slice As ns cs, .bool isb]), (bj, 62, [.int .i64 before, .slice A1 ((bL N).drop before).length c1, .slice none 0 0])] (fun g x => BytesAt g x (.slice As ns cs) (vw oo).st ∧ RecsAt g x A1 c1 ((bL N).drop before)) ∧
    D.down = false ∧ SlotIs D (slotN ⟨#[99]⟩ 0) o0 ∧ SlotIs D (slotN ⟨#[99]⟩ 1) o1 ∧ (newS o0 o1).1 = oo ∧ (posO oo : Int) = p ∧ posO oo ≤ 100 ∧ Opens d D ⟨#[106]⟩ J ∧ J.start = before ∧ J.recs = (bL N).drop before

theorem bL_small {n : Nat} {r : List UInt8} (h : r ∈ bL n) : r.length ≤ 65536 := by
  simp only [bL, List.mem_map] at h
  obtain ⟨i, _, rfl⟩ := h
  simp

/-- The first Save under a name. -/
theorem gsave0 (d : Nat) (g : Gh) (w : World) (D : Dev) (m : Nat) (hD : DevAt g w d D) (hq : Quiet D m) (hm : m ≤ 250) (name : ByteArray) (h : nmB false 40 name = true) (h0 : D.now.m (slotN name 0) = none) (h1 : D.now.m (slotN name 1) = none) (p : Nat) (A : Option Addr) (cap : Nat) (st : List UInt8) (hr : BytesAt g w (.slice A st.length cap) st)
    (hpb : p < 1000000) (hl : st.length ≤ 2097152) :
    Calls Tryd.prog 16 #[.pointer (some ⟨d, 0, none⟩), .string name, .int .i64 p, .slice A st.length cap] w fun e w' => e = .returned (.int .i64 0) ∧ ∃ D' p0 p1, SaveP d g w D' w' ∧ Quiet D' (m + 1) ∧ SlotIs D' (slotN name 0) p0 ∧ SlotIs D' (slotN name 1) p1 ∧ (newS p0 p1).1 = some ⟨1, p, st⟩ ∧ ∀ q, q ≠ slotN name 0 → q ≠ slotN name 1 → D'.now.m q = D.now.m q := by
  have e0 : posO (newS none none).1 = 0 := rfl
  have e1 : seqO (newS none none).1 = 0 := rfl
  have h := gsave d g w D m hD hq hm name h none none (SlotIs.zero h0) (SlotIs.zero h1) p A cap st hr (by omega) (by rw [e0]; omega) (by omega) (by rw [e1]; omega) hl
  rw [e1] at h
  exact h
set_option maxRecDepth 100000 in
set_option maxHeartbeats 6400000 in
theorem lawRecovers_any (w : World) (A : Option Addr) (c : Nat) (L : List Int) (hr : Rd 1 (ghW w) w A L.length (L.map (Value.int .i64))) (hL : ∀ x ∈ L, (Lit.int .i64 x).wf = true) :
    Calls Tryd.prog 8 #[.slice A L.length c] w fun e w' => e = .returned (.bool true) ∧ Below w.heap.size w w' := by
  obtain ⟨hx0, ht0⟩ := TapeAt.new (c := c) hr hL
  have HX0 := Lib.hid hx0
  have HT0 := Lib.hid ht0
  obtain ⟨i0, hi0, hz0, hz1, hz2⟩ := info_parts Tryd.infoBytes
  clear hx0 ht0 hr hL
  go_enter Tryd.func8, Tryd.ntmps8
  go_wp2_with fail
  refine (gnew ((ghW w).box w.heap.size) _).mono ?_
  rintro e w1 ⟨d, g1, rfl, hd, hx1, hD1⟩
  have HK1 : Hid (Kp w w.heap.size d g1 w1 dev0 0 [] (fun _ _ => True)) := by
    have hs : (w.alloc (.cells #[.slice A L.length c, .int .i64 0] 25)).heap.size = w.heap.size + 1 := by simp
    exact ⟨(HX0.out.trans hx1).imp (fun _ h => h.elim), hD1, HT0.out.ext hx1 (fun h => h), by omega, Nat.le_refl _, by omega, (fun _ h => by cases h), trivial, Stab.true⟩
  clear hx1 hD1 HX0 HT0 hd
  go_wp2_with fail
  refine (known_any g1 w1).mono ?_
  rintro e w3 ⟨rfl, g3, hx3⟩
  have HK3 := Lib.hid (HK1.out.step hx3 (fun _ h => h))
  clear hx3 HK1
  go_wp2_with fail
  refine (knextN HK3.out (by omega) 7 (by omega) (by omega)).mono ?_
  rintro e w4 ⟨N, rfl, hN, hk4⟩
  have HK4 := Lib.hid hk4
  clear hk4 HK3
  go_wp2_with fail
  refine (knextN HK4.out (by omega) (N + 1) (by omega) (by omega)).mono ?_
  rintro e w5 ⟨before, rfl, hbf, hk5⟩
  have HK5 := Lib.hid hk5
  clear hk5 HK4
  go_wp2_with fail
  refine (log_any d g3 w5 dev0 HK5.out.hD ⟨rfl, rfl⟩ rfl rfl ⟨#[106]⟩ jN_ok rfl rfl (by decide) N before (by omega) (by omega)).mono ?_
  rintro e w6 ⟨j, J', D6, g6, rfl, hj6, hx6, hJ6, hD6, hG6, q1, q2, q3, q4, q5⟩
  have HK6 := Lib.hid (HK5.out.dev hx6 hD6)
  have HQ6 : Hid (Quiet D6 1) := by
    refine ⟨hG6.up, hG6.pl, hG6.kp, ?_⟩
    have := hG6.nn
    have : cntF D6.now J'.file ≤ 1 := by unfold cntF; split <;> omega
    have : dev0.now.n = 0 := rfl
    omega
  have HO6 : Hid (∀ D2 : Dev, D2.down = false → D2.now.m ⟨#[106, 46, 108, 111, 103]⟩ = D6.now.m ⟨#[106, 46, 108, 111, 103]⟩ → ∃ J, Opens d D2 ⟨#[106]⟩ J ∧ J.start = before ∧ J.recs = (bL N).drop before) := by
    intro D2 hdn he
    have e1 : J'.file = ⟨#[106, 46, 108, 111, 103]⟩ := by rw [Jrn.file, q1]; rfl
    have h := opens_good (d := d) hG6 (by omega) hdn (by rw [e1]; exact he)
    rw [q1] at h
    exact ⟨disR J', h, q2, q3⟩
  have HS6 : Hid (D6.now.m (slotN ⟨#[99]⟩ 0) = none ∧ D6.now.m (slotN ⟨#[99]⟩ 1) = none) := ⟨q5 _ (by decide) (by decide), q5 _ (by decide) (by decide)⟩
  clear hx6 hJ6 hD6 hG6 q1 q2 q3 q4 q5 hj6 HK5
  go_wp2_with fail
  have HK7 : Hid (Kp w w.heap.size d (g6.box w6.heap.size) (w6.alloc (.cells #[.int .i64 before, .slice none 0 0, .slice none 0 0] 62)) D6 (0 + 1 + 1) [(w6.heap.size, 62, [.int .i64 before, .slice none 0 0, .slice none 0 0])] (fun _ _ => True)) := HK6.out.box 62 [.int .i64 before, .slice none 0 0, .slice none 0 0]
  have hbj : w.heap.size ≤ w6.heap.size := HK6.out.hx.size
  have htl := HK6.out.ht.lt
  have hdl := HK6.out.hD.lt
  have hsz7 : (w6.alloc (.cells #[.int .i64 before, .slice none 0 0, .slice none 0 0] 62)).heap.size = w6.heap.size + 1 := by simp
  generalize w6.alloc (.cells #[.int .i64 before, .slice none 0 0, .slice none 0 0] 62) = w7 at *
  generalize g6.box w6.heap.size = g7 at *
  clear HK6
  have HSZ : Hid (w.heap.size < w7.heap.size ∧ w6.heap.size < w7.heap.size ∧ d < w7.heap.size) := ⟨by omega, by omega, by omega⟩
  clear hsz7 hbj htl hdl
  generalize w6.heap.size = bj at *
  obtain ⟨o, ho⟩ : ∃ o, o = w7.heap.size := ⟨_, rfl⟩
  have HO : Hid (w.heap.size ≤ o ∧ w.heap.size ≠ o ∧ d ≠ o ∧ bj ≠ o) := by have := HSZ.out; exact ⟨by omega, by omega, by omega, by omega⟩
  clear ho HSZ
  go_loopw [10] (fun i wr => ∃ (n : Nat) (gr : Gh) (B : Option Addr) (cb : Nat) (vs : List Value), before + n ≤ N ∧ i = .int .i64 ((before : Int) + n) ∧ Kp w w.heap.size d gr wr D6 (0 + 1 + 1) [(bj, 62, [.int .i64 before, .slice B n cb, .slice none 0 0])] (fun _ _ => True) ∧ App 32 1 o gr wr B n cb vs ∧ RecsR gr wr vs (((bL N).drop before).take n)) (fun i _ => N - (intOf i).toNat)
  case atStart => exact ⟨0, g7, none, 0, [], by omega, by go_num, HK7.out, App.nil _ _ _ _ _, trivial⟩
  case round =>
    obtain ⟨n, gr, B, cb, vs, hn, rfl, hk, ha, hrr⟩ := hrel
    have HK8 := Lib.hid hk
    have HA8 := Lib.hid ha
    have HR8 := Lib.hid hrr
    clear hk ha hrr HK7
    by_cases hlt : before + n < N
    · have hlt' : (before : Int) + n < N := by omega
      have hdl : ((bL N).drop before).length = N - before := by rw [List.length_drop, bL_len]
      have HTS : Hid (((bL N).drop before).take (n + 1) = ((bL N).drop before).take n ++ [[UInt8.ofNat (before + n)]]) := by
        show _ = _
        rw [List.take_add_one, List.getElem?_drop, bL_get N _ hlt]; rfl
      obtain ⟨k, hk⟩ : ∃ k, before + n = k := ⟨_, rfl⟩
      have hki : (before : Int) + n = k := by omega
      rw [hk] at HTS
      have hx3 := Ext.litB (fun _ => False) gr wr [UInt8.ofNat k] (0, 0)
      have hb3 := BytesAt.lit gr wr [UInt8.ofNat k] (0, 0) (by simp)
      have hk8 : (UInt8.ofNat k).toNat = k := by simp; omega
      have hbv : (bv [UInt8.ofNat k]).toArray = #[.int .u8 (k : Int)] := by simp only [bv, List.map_cons, List.map_nil, u8v, hk8]
      have hwrap : IntKind.u8.wrap ((before : Int) + n) = k := by rw [IntKind.wrap_u8]; omega
      simp only [List.length_cons, List.length_nil, Nat.zero_add] at hx3 hb3
      rw [hbv] at hx3 hb3
      have hal : Ext (fun _ => False) (gr.lit wr.heap.size 1) (wr.alloc (.cells #[.int .u8 (k : Int)] 5)) (gr.lit wr.heap.size 1) ((wr.alloc (.cells #[.int .u8 (k : Int)] 5)).alloc (.cells #[.slice (some ⟨wr.heap.size, 0, none⟩) 1 1] 32)) := (Ext.refl _ _ _).alloc _
      have hy := hx3.trans hal
      have HK9 := Lib.hid (HK8.out.step hy (fun _ h => h.elim))
      have HA9 := Lib.hid (HA8.out.ext hy (fun h => h))
      have HR9 := Lib.hid (HR8.out.ext hy)
      have HB9 := Lib.hid (hb3.ext hal)
      have HSRC : Hid (Src Tryd.prog 1 54 (.slice (some ⟨wr.heap.size + 1, 0, none⟩) 1 1) 1 [.slice (some ⟨wr.heap.size, 0, none⟩) 1 1] ((wr.alloc (.cells #[.int .u8 (k : Int)] 5)).alloc (.cells #[.slice (some ⟨wr.heap.size, 0, none⟩) 1 1] 32))) :=
        Src.ofSlice _ Tryd.underlying54 _ 1 1 _ rfl (fun j u hu => by
          have hh : ((wr.alloc (.cells #[.int .u8 (k : Int)] 5)).alloc (.cells #[.slice (some ⟨wr.heap.size, 0, none⟩) 1 1] 32)).heap[wr.heap.size + 1]? = some (.cells #[.slice (some ⟨wr.heap.size, 0, none⟩) 1 1] 32 (0, 0)) := by
            have := heap_alloc_new (wr.alloc (.cells #[.int .u8 (k : Int)] 5)) (.cells #[.slice (some ⟨wr.heap.size, 0, none⟩) 1 1] 32)
            simpa using this
          rw [add_lit, Nat.zero_add, cell_at hh]
          simpa using hu) (by simp [Value.oneCell'])
      have b1 : wr.cell? ⟨bj, 1, none⟩ = some (.slice B n cb) := (HK8.out.blk (List.mem_cons_self ..)).cell 1
      clear hx3 hb3 hal hy hbv hk8 hk HK8 HA8 HR8
      go_wp2_with (at_builtin; refine wpList_append_app rfl _ _ _ _ rfl 32 i0 (.slice none 0 0) 1 24 Tryd.underlying54 hi0 hz0 hz1 hz2 rfl (by decide) rfl HA9.out rfl HSRC.out (by unfold maxLen; omega) (by omega) ?_; intro A7 c7 w10 g10 hx10 ha10 hl10; have HK10 := Lib.hid (HK9.out.own hx10 HO.out.1 HO.out.2.1 HO.out.2.2.1 (by intro p hp; rw [List.mem_singleton.1 hp]; exact HO.out.2.2.2)); have HA10 := Lib.hid ha10; have HR10 := Lib.hid (RecsR.append (HR9.out.ext hx10) (vs' := [.slice (some ⟨wr.heap.size, 0, none⟩) 1 1]) (rs' := [[UInt8.ofNat k]]) ⟨HB9.out.ext hx10, trivial⟩); have n1 : w10.cell? ⟨bj, 1, none⟩ = some (.slice B n cb) := (HK10.out.blk (List.mem_cons_self ..)).cell 1; have nz := (HK10.out.blk (List.mem_cons_self ..)).fz; clear hx10 ha10 hl10 b1)
      go_round
      case rel =>
        have hput := HK10.out.put (by simp) 1 (.slice A7 (n + 1) c7)
        obtain ⟨u1, u2, u3, _⟩ := HK10.out.bx _ (List.mem_cons_self ..)
        have hxs : Ext (· = bj) g10 w10 g10 (w10.setCell ⟨bj, 1, none⟩ (.slice A7 (n + 1) c7)) := (Ext.refl _ _ _).setCell (fun _ => u2) u3 _
        refine ⟨n + 1, g10, A7, c7, _, by omega, congrArg (Value.int .i64) (by omega), hput, HA10.out.ext hxs (fun e => HO.out.2.2.2 e.symm), ?_⟩
        rw [HTS.out]; exact HR10.out.ext hxs
      case measure => simp [intOf]; omega
    · obtain ⟨hnn, hge⟩ : n = N - before ∧ ¬ (before : Int) + n < N := ⟨by omega, by omega⟩
      have hdl : ((bL N).drop before).length = n := by rw [List.length_drop, bL_len, hnn]
      have HRA : Hid (RecsAt gr wr B cb ((bL N).drop before)) := RecsAt.ofApp HA8.out hdl (by have := HR8.out; rwa [← hdl, List.take_length] at this)
      have HK9 : Hid (Kp w w.heap.size d gr wr D6 (0 + 1 + 1) [(bj, 62, [.int .i64 before, .slice B ((bL N).drop before).length cb, .slice none 0 0])] (fun g x => RecsAt g x B cb ((bL N).drop before))) := by
        show Kp _ _ _ _ _ _ _ _ _
        rw [hdl]
        exact HK8.out.with HRA.out (fun _ _ _ _ _ hr hx => hr.ext hx)
      clear HK8 HA8 HR8 HRA hnn hdl
      go_wp2_with fail
      have HK10 : Hid (Kp w w.heap.size d (gr.box wr.heap.size) (wr.alloc (.cells #[.int .i64 0, .slice none 0 0, .bool false] 34)) D6 (0 + 1 + 1) [(wr.heap.size, 34, [.int .i64 0, .slice none 0 0, .bool false]), (bj, 62, [.int .i64 before, .slice B ((bL N).drop before).length cb, .slice none 0 0])] (fun g x => RecsAt g x B cb ((bL N).drop before))) := HK9.out.box 34 [.int .i64 0, .slice none 0 0, .bool false]
      have hbl := (HK9.out.blk (List.mem_cons_self ..)).lt
      clear HK9
      generalize wr.alloc (.cells #[.int .i64 0, .slice none 0 0, .bool false] 34) = w10 at *
      have hne : bj ≠ wr.heap.size := by omega
      generalize gr.box wr.heap.size = g10 at *
      generalize wr.heap.size = bc at *
      refine (knextN HK10.out (by omega) 4 (by omega) (by omega)).mono ?_
      rintro e w11 ⟨v4, rfl, hv4, hk11⟩
      have HK11 := Lib.hid hk11
      clear hk11 HK10
      by_cases h4 : 0 < v4
      · have h4' : (0 : Int) < v4 := by omega
        go_wp2_with fail
        refine (knextN HK11.out (by omega) (N + 3) (by omega) (by omega)).mono ?_
        rintro e w12 ⟨p, rfl, hp, hk12⟩
        have HK12 := Lib.hid hk12
        clear hk12 HK11
        go_wp2_with fail
        refine (knextN HK12.out (by omega) 5 (by omega) (by omega)).mono ?_
        rintro e w13 ⟨sn, rfl, hsn, hk13⟩
        have HK13 := Lib.hid hk13
        clear hk13 HK12
        go_wp2_with fail
        refine (kbytes HK13.out sn 9 (by omega) (by omega) (by omega)).mono ?_
        rintro e w14 ⟨As, cs, st, g14, rfl, hst, hk14⟩
        have HK14 := Lib.hid hk14
        have HST := Lib.hid hst
        clear hk14 HK13 hst
        have nz := (HK14.out.blk (List.mem_cons_self ..)).fz
        have n0 : w14.cell? ⟨bc, 0, none⟩ = some (.int .i64 0) := (HK14.out.blk (List.mem_cons_self ..)).cell 0
        have n1 : w14.cell? ⟨bc, 1, none⟩ = some (.slice none 0 0) := (HK14.out.blk (List.mem_cons_self ..)).cell 1
        have n2 : w14.cell? ⟨bc, 2, none⟩ = some (.bool false) := (HK14.out.blk (List.mem_cons_self ..)).cell 2
        have HK15 : Hid (Kp w w.heap.size d g14 (((w14.setCell ⟨bc, 0, none⟩ (.int .i64 p)).setCell ⟨bc, 1, none⟩ (.slice As st.length cs)).setCell ⟨bc, 2, none⟩ (.bool true)) D6 (0 + 1 + 1 + 1 + 1 + 1 + sn) [(bc, 34, [.int .i64 p, .slice As st.length cs, .bool true]), (bj, 62, [.int .i64 before, .slice B ((bL N).drop before).length cb, .slice none 0 0])] (fun g x => RecsAt g x B cb ((bL N).drop before) ∧ BytesAt g x (.slice As st.length cs) st)) :=
          ((HK14.out.put (by simpa using hne) 0 (.int .i64 p)).put (by simpa using hne) 1 (.slice As st.length cs)).put (by simpa using hne) 2 (.bool true)
        go_wp2_with fail
        generalize ((w14.setCell ⟨bc, 0, none⟩ (.int .i64 p)).setCell ⟨bc, 1, none⟩ (.slice As st.length cs)).setCell ⟨bc, 2, none⟩ (.bool true) = w15 at *
        clear n0 n1 n2 nz HK14
        have n0 : w15.cell? ⟨bc, 0, none⟩ = some (.int .i64 p) := (HK15.out.blk (List.mem_cons_self ..)).cell 0
        have n1 : w15.cell? ⟨bc, 1, none⟩ = some (.slice As st.length cs) := (HK15.out.blk (List.mem_cons_self ..)).cell 1
        go_wp2_with fail
        refine (gsave0 d g14 w15 D6 1 HK15.out.hD HQ6.out (by omega) ⟨#[99]⟩ cN_ok HS6.out.1 HS6.out.2 p As cs st HK15.out.r.2 (by omega) (by have := HST.out; omega)).mono ?_
        rintro e w16 ⟨rfl, D16, p0, p1, ⟨g16, hx16, hD16⟩, hq16, hs0, hs1, hnw, hot⟩
        have HM : Hid (RvMid w w.heap.size d bc bj before N w16) := by
          obtain ⟨J, hJ, js, jr⟩ := HO6.out D16 hq16.up.dn (hot _ (by decide) (by decide))
          have hk := HK15.out.dev hx16 hD16
          refine ⟨g16, D16, _, _, p0, p1, p, As, _, cs, true, B, cb, J, hk.with ⟨?_, hk.r.1⟩ (Stab.and (Stab.bytes _ _) (fun _ _ _ _ _ hr hx => hr.ext hx)), hq16.up.dn, hs0, hs1, hnw, ?_, ?_, hJ, js, jr⟩
          · exact hk.r.2
          · simp [posO]
          · simp [posO]; omega
        clear hx16 hD16 hq16 hs0 hs1 hnw hot HK15 n0 n1
        clear HQ6 HO6 HS6
        obtain ⟨g, D, m, oo, o0, o1, p, As, ns, cs, isb, A1, c1, J, hk, hdn, hs0, hs1, hnw, hpp, hp9, hop, hjs, hjr⟩ := HM.out
        have HK := Lib.hid hk
        have n0 : w16.cell? ⟨bc, 0, none⟩ = some (.int .i64 p) := (hk.blk (List.mem_cons_self ..)).cell 0
        have hjl : J.recs.length = N - before := by rw [hjr, List.length_drop, bL_len]
        have HRV := Lib.hid (recover_all d g w16 D hk.hD hdn ⟨#[99]⟩ ⟨#[106]⟩ cj_two o0 o1 hs0 hs1 J hop (by omega) (by omega) (by omega) (fun r hr => by rw [hjr] at hr; exact bL_small (List.mem_of_mem_drop hr)) (by rw [hnw]; omega))
        clear hk hdn hs0 hs1 HM
        go_wp2_with fail
        refine HRV.out.mono ?_
        rw [hnw]
        rintro e w17 ⟨g17, hx17, ⟨hgap, rfl⟩ | ⟨k, A17, c17, v17, hk1, hk2, hst17, hrc17, rfl⟩⟩
        · have HK17 := Lib.hid (HK.out.step hx17 (fun _ h => h))
          rw [hpp, hjs, hjr] at hgap
          have HGAP := Lib.hid hgap
          have a0 : w17.cell? ⟨bc, 0, none⟩ = some (.int .i64 p) := (HK17.out.blk (List.mem_cons_self ..)).cell 0
          have a1 : w17.cell? ⟨bc, 1, none⟩ = some (.slice As ns cs) := (HK17.out.blk (List.mem_cons_self ..)).cell 1
          have a2 : w17.cell? ⟨bc, 2, none⟩ = some (.bool isb) := (HK17.out.blk (List.mem_cons_self ..)).cell 2
          have b0 : w17.cell? ⟨bj, 0, none⟩ = some (.int .i64 before) := (HK17.out.blk (List.mem_cons_of_mem _ (List.mem_cons_self ..))).cell 0
          have b1 : w17.cell? ⟨bj, 1, none⟩ = some (.slice A1 ((bL N).drop before).length c1) := (HK17.out.blk (List.mem_cons_of_mem _ (List.mem_cons_self ..))).cell 1
          have b2 : w17.cell? ⟨bj, 2, none⟩ = some (.slice none 0 0) := (HK17.out.blk (List.mem_cons_of_mem _ (List.mem_cons_self ..))).cell 2
          have hlen : ((bL N).drop before).length ≤ 1000000 := by rw [← hjr]; omega
          clear hx17 HK HRV hgap n0 hnw hpp hop hjs hjr hp9 hjl
          generalize ((bL N).drop before).length = n1 at *
          go_wp2_with fail
          refine (rrec_gap g17 w17 p As ns cs isb before A1 none n1 c1 0 0 (by omega) (by omega) hlen HGAP.out).mono ?_
          rintro e w18 ⟨rfl, g18, hx18⟩
          have HK18 := Lib.hid (HK17.out.step hx18 (fun _ h => h.elim))
          have hstr : (convert 32 9 (.slice none 0 0)).run Tryd.prog w18 = .ok (.string ⟨#[]⟩) w18 := (BytesAt.nil g18 w18).str
          clear hx18 HK17
          go_wp2_with fail
          refine (stexts_any g18 w18 none none 0 0 [] (RecsAt.nil _ _) (RecsAt.nil _ _) (by simp)).mono ?_
          rintro e w19 ⟨rfl, g19, hx19⟩
          have HX19 := Lib.hid (HK18.out.step hx19 (fun _ h => h.elim)).hx
          go_wp2_with fail
          go_ret
          exact ⟨rfl, HX19.out.finW⟩
        · rw [hpp, hjs] at hk1
          rw [hjr] at hrc17 hk2
          rw [hpp, hjr]
          have hkp : p - (before : Int) = k := by omega
          have HK17 := Lib.hid (HK.out.step hx17 (fun _ h => h))
          obtain ⟨Av, cv, rfl⟩ := hst17.shape
          have HSV := Lib.hid hst17.bytes
          have HRC := Lib.hid hrc17
          have a0 : w17.cell? ⟨bc, 0, none⟩ = some (.int .i64 p) := (HK17.out.blk (List.mem_cons_self ..)).cell 0
          have a1 : w17.cell? ⟨bc, 1, none⟩ = some (.slice As ns cs) := (HK17.out.blk (List.mem_cons_self ..)).cell 1
          have a2 : w17.cell? ⟨bc, 2, none⟩ = some (.bool isb) := (HK17.out.blk (List.mem_cons_self ..)).cell 2
          have b0 : w17.cell? ⟨bj, 0, none⟩ = some (.int .i64 before) := (HK17.out.blk (List.mem_cons_of_mem _ (List.mem_cons_self ..))).cell 0
          have b1 : w17.cell? ⟨bj, 1, none⟩ = some (.slice A1 ((bL N).drop before).length c1) := (HK17.out.blk (List.mem_cons_of_mem _ (List.mem_cons_self ..))).cell 1
          have b2 : w17.cell? ⟨bj, 2, none⟩ = some (.slice none 0 0) := (HK17.out.blk (List.mem_cons_of_mem _ (List.mem_cons_self ..))).cell 2
          have hlen : ((bL N).drop before).length ≤ 1000000 := by rw [← hjr]; omega
          have HRD : Hid (RecsAt g17 w17 (cutA 1 A1 c1 k) (c1 - k) (((bL N).drop before).drop k)) := HK17.out.r.2.drop hk2
          have HKP := Lib.hid hkp
          have hdl : (((bL N).drop before).drop k).length = ((bL N).drop before).length - k := by rw [List.length_drop]
          rw [hdl]
          have HDL := Lib.hid hdl
          have HLN := Lib.hid hlen
          clear hx17 HK HRV n0 hnw hpp hop hjs hjr hp9 hjl hst17 hrc17 hk1 hkp hdl hlen
          generalize hn1 : ((bL N).drop before).length = n1 at *
          go_wp2_with fail
          refine (rrec_ok g17 w17 p As ns cs isb before A1 none n1 c1 0 0 (by omega) (by omega) HLN.out k HKP.out hk2).mono ?_
          rintro e w18 ⟨rfl, g18, hx18⟩
          have HK18 := Lib.hid (HK17.out.step hx18 (fun _ h => h.elim))
          have hs1 : (convert 32 9 (.slice Av (vw oo).st.length cv)).run Tryd.prog w18 = .ok (.string ⟨(vw oo).st.toArray⟩) w18 := (HSV.out.ext hx18).str
          have hs2 : (convert 32 9 (.slice As ns cs)).run Tryd.prog w18 = .ok (.string ⟨(vw oo).st.toArray⟩) w18 := HK18.out.r.1.str
          have HT := Lib.hid (stexts_any g18 w18 A17 (cutA 1 A1 c1 k) c17 (c1 - k) _ (HRC.out.ext hx18) (HRD.out.ext hx18) (by rw [HDL.out]; have := HLN.out; omega))
          rw [HDL.out] at HT
          clear hx18 HK17 a0 a1 a2 b0 b1 b2
          generalize (vw oo).st = sv at *
          go_wp2_with fail
          refine HT.out.mono ?_
          rintro e w19 ⟨rfl, g19, hx19⟩
          have HX19 := Lib.hid (HK18.out.step hx19 (fun _ h => h.elim)).hx
          go_wp2_with fail
          go_ret
          exact ⟨rfl, HX19.out.finW⟩
      · obtain rfl : v4 = 0 := by omega
        obtain ⟨w16, rfl⟩ : ∃ w16, w16 = w11 := ⟨_, rfl⟩
        have HM : Hid (RvMid w w.heap.size d bc bj before N w16) := by
          obtain ⟨J, hJ, js, jr⟩ := HO6.out D6 HQ6.out.up.dn rfl
          exact ⟨g10, D6, _, none, none, none, 0, none, 0, 0, false, B, cb, J, HK11.out.with ⟨BytesAt.nil _ _, HK11.out.r⟩ (Stab.and (Stab.bytes _ _) (fun _ _ _ _ _ hr hx => hr.ext hx)), HQ6.out.up.dn, SlotIs.zero HS6.out.1, SlotIs.zero HS6.out.2, rfl, rfl, (by decide), hJ, js, jr⟩
        clear HK11
        clear HQ6 HO6 HS6
        obtain ⟨g, D, m, oo, o0, o1, p, As, ns, cs, isb, A1, c1, J, hk, hdn, hs0, hs1, hnw, hpp, hp9, hop, hjs, hjr⟩ := HM.out
        have HK := Lib.hid hk
        have n0 : w16.cell? ⟨bc, 0, none⟩ = some (.int .i64 p) := (hk.blk (List.mem_cons_self ..)).cell 0
        have hjl : J.recs.length = N - before := by rw [hjr, List.length_drop, bL_len]
        have HRV := Lib.hid (recover_all d g w16 D hk.hD hdn ⟨#[99]⟩ ⟨#[106]⟩ cj_two o0 o1 hs0 hs1 J hop (by omega) (by omega) (by omega) (fun r hr => by rw [hjr] at hr; exact bL_small (List.mem_of_mem_drop hr)) (by rw [hnw]; omega))
        clear hk hdn hs0 hs1 HM
        go_wp2_with fail
        refine HRV.out.mono ?_
        rw [hnw]
        rintro e w17 ⟨g17, hx17, ⟨hgap, rfl⟩ | ⟨k, A17, c17, v17, hk1, hk2, hst17, hrc17, rfl⟩⟩
        · have HK17 := Lib.hid (HK.out.step hx17 (fun _ h => h))
          rw [hpp, hjs, hjr] at hgap
          have HGAP := Lib.hid hgap
          have a0 : w17.cell? ⟨bc, 0, none⟩ = some (.int .i64 p) := (HK17.out.blk (List.mem_cons_self ..)).cell 0
          have a1 : w17.cell? ⟨bc, 1, none⟩ = some (.slice As ns cs) := (HK17.out.blk (List.mem_cons_self ..)).cell 1
          have a2 : w17.cell? ⟨bc, 2, none⟩ = some (.bool isb) := (HK17.out.blk (List.mem_cons_self ..)).cell 2
          have b0 : w17.cell? ⟨bj, 0, none⟩ = some (.int .i64 before) := (HK17.out.blk (List.mem_cons_of_mem _ (List.mem_cons_self ..))).cell 0
          have b1 : w17.cell? ⟨bj, 1, none⟩ = some (.slice A1 ((bL N).drop before).length c1) := (HK17.out.blk (List.mem_cons_of_mem _ (List.mem_cons_self ..))).cell 1
          have b2 : w17.cell? ⟨bj, 2, none⟩ = some (.slice none 0 0) := (HK17.out.blk (List.mem_cons_of_mem _ (List.mem_cons_self ..))).cell 2
          have hlen : ((bL N).drop before).length ≤ 1000000 := by rw [← hjr]; omega
          clear hx17 HK HRV hgap n0 hnw hpp hop hjs hjr hp9 hjl
          generalize ((bL N).drop before).length = n1 at *
          go_wp2_with fail
          refine (rrec_gap g17 w17 p As ns cs isb before A1 none n1 c1 0 0 (by omega) (by omega) hlen HGAP.out).mono ?_
          rintro e w18 ⟨rfl, g18, hx18⟩
          have HK18 := Lib.hid (HK17.out.step hx18 (fun _ h => h.elim))
          have hstr : (convert 32 9 (.slice none 0 0)).run Tryd.prog w18 = .ok (.string ⟨#[]⟩) w18 := (BytesAt.nil g18 w18).str
          clear hx18 HK17
          go_wp2_with fail
          refine (stexts_any g18 w18 none none 0 0 [] (RecsAt.nil _ _) (RecsAt.nil _ _) (by simp)).mono ?_
          rintro e w19 ⟨rfl, g19, hx19⟩
          have HX19 := Lib.hid (HK18.out.step hx19 (fun _ h => h.elim)).hx
          go_wp2_with fail
          go_ret
          exact ⟨rfl, HX19.out.finW⟩
        · rw [hpp, hjs] at hk1
          rw [hjr] at hrc17 hk2
          rw [hpp, hjr]
          have hkp : p - (before : Int) = k := by omega
          have HK17 := Lib.hid (HK.out.step hx17 (fun _ h => h))
          obtain ⟨Av, cv, rfl⟩ := hst17.shape
          have HSV := Lib.hid hst17.bytes
          have HRC := Lib.hid hrc17
          have a0 : w17.cell? ⟨bc, 0, none⟩ = some (.int .i64 p) := (HK17.out.blk (List.mem_cons_self ..)).cell 0
          have a1 : w17.cell? ⟨bc, 1, none⟩ = some (.slice As ns cs) := (HK17.out.blk (List.mem_cons_self ..)).cell 1
          have a2 : w17.cell? ⟨bc, 2, none⟩ = some (.bool isb) := (HK17.out.blk (List.mem_cons_self ..)).cell 2
          have b0 : w17.cell? ⟨bj, 0, none⟩ = some (.int .i64 before) := (HK17.out.blk (List.mem_cons_of_mem _ (List.mem_cons_self ..))).cell 0
          have b1 : w17.cell? ⟨bj, 1, none⟩ = some (.slice A1 ((bL N).drop before).length c1) := (HK17.out.blk (List.mem_cons_of_mem _ (List.mem_cons_self ..))).cell 1
          have b2 : w17.cell? ⟨bj, 2, none⟩ = some (.slice none 0 0) := (HK17.out.blk (List.mem_cons_of_mem _ (List.mem_cons_self ..))).cell 2
          have hlen : ((bL N).drop before).length ≤ 1000000 := by rw [← hjr]; omega
          have HRD : Hid (RecsAt g17 w17 (cutA 1 A1 c1 k) (c1 - k) (((bL N).drop before).drop k)) := HK17.out.r.2.drop hk2
          have HKP := Lib.hid hkp
          have hdl : (((bL N).drop before).drop k).length = ((bL N).drop before).length - k := by rw [List.length_drop]
          rw [hdl]
          have HDL := Lib.hid hdl
          have HLN := Lib.hid hlen
          clear hx17 HK HRV n0 hnw hpp hop hjs hjr hp9 hjl hst17 hrc17 hk1 hkp hdl hlen
          generalize hn1 : ((bL N).drop before).length = n1 at *
          go_wp2_with fail
          refine (rrec_ok g17 w17 p As ns cs isb before A1 none n1 c1 0 0 (by omega) (by omega) HLN.out k HKP.out hk2).mono ?_
          rintro e w18 ⟨rfl, g18, hx18⟩
          have HK18 := Lib.hid (HK17.out.step hx18 (fun _ h => h.elim))
          have hs1 : (convert 32 9 (.slice Av (vw oo).st.length cv)).run Tryd.prog w18 = .ok (.string ⟨(vw oo).st.toArray⟩) w18 := (HSV.out.ext hx18).str
          have hs2 : (convert 32 9 (.slice As ns cs)).run Tryd.prog w18 = .ok (.string ⟨(vw oo).st.toArray⟩) w18 := HK18.out.r.1.str
          have HT := Lib.hid (stexts_any g18 w18 A17 (cutA 1 A1 c1 k) c17 (c1 - k) _ (HRC.out.ext hx18) (HRD.out.ext hx18) (by rw [HDL.out]; have := HLN.out; omega))
          rw [HDL.out] at HT
          clear hx18 HK17 a0 a1 a2 b0 b1 b2
          generalize (vw oo).st = sv at *
          go_wp2_with fail
          refine HT.out.mono ?_
          rintro e w19 ⟨rfl, g19, hx19⟩
          have HX19 := Lib.hid (HK18.out.step hx19 (fun _ h => h.elim)).hx
          go_wp2_with fail
          go_ret
          exact ⟨rfl, HX19.out.finW⟩

end Go.Proofs.YtcjkllmellampaaDoor
