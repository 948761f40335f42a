/-
  The walk of CheckpointApart.
-/
import Derived.Test.YtcjkllmellampaaDoorCkB
import Derived.Test.YtcjkllmellampaaDoorCkJ
namespace Go.Proofs.YtcjkllmellampaaDoor
open Go.RowKit

theorem DevAt.cnt {g : Gh} {w : World} {d : Nat} {D : Dev} (h : DevAt g w d D) (k : ByteArray) : cntF D.now k ≤ D.now.n := by
  obtain ⟨km, nm, A, cap, xs, _, hi⟩ := h
  obtain ⟨L, h1, h2, h3, h4, _⟩ := hi.now.ex
  unfold cntF
  split
  · rename_i hk
    cases hl : L with
    | nil => rw [h3 k (by rw [hl]; rfl)] at hk; cases hk
    | cons p L' => rw [← h2, hl]; simp
  · omega
/-- The journal's file is there as it was; other files may have changed. -/
theorem Good.dev {J : Jrn} {D D' : Dev} {c m k d : Nat} {g : Gh} {w : World} (h : Good J D c m) (hD : DevAt g w d D') (hq : Quiet D' k) (e1 : D'.now.m J.file = D.now.m J.file) (e2 : D'.now.m J.fresh = D.now.m J.fresh) : Good J D' (D'.now.n - cntF D'.now J.file) m := by
  have := hD.cnt J.file
  exact ⟨hq.up, hq.pl, hq.kp, h.nm, h.dead, h.st0, h.st1, h.rl, h.cnt, h.by', h.bx, fun hw => e1.trans (h.wh hw), fun hw => by rw [e1]; exact h.nw hw, e2.trans h.fr, by omega⟩
theorem Good.quiet {J : Jrn} {D : Dev} {c m k : Nat} (h : Good J D c m) (hc : c + 1 ≤ k) : Quiet D k := by
  have := h.nn
  have : cntF D.now J.file ≤ 1 := by unfold cntF; split <;> omega
  exact ⟨h.up, h.pl, h.kp, by omega⟩

theorem Quiet.fit {g : Gh} {w : World} {d : Nat} {D : Dev} {m : Nat} (hD : DevAt g w d D) (h : Quiet D m) (hm : m ≤ 1000000) : Fit D := by
  have := h.n
  exact ⟨by simp [h.pl], fun k hk => by simp [h.pl] at hk, by rw [h.kp]; exact hD.len, by rw [h.kp]; omega⟩
theorem Quiet.lossD {D : Dev} {m : Nat} (h : Quiet D m) (kp tn : Int) : lossD (downD D) kp tn = downD D := by unfold Go.Proofs.YtcjkllmellampaaDoor.lossD; rw [if_pos (by simp [downD, h.pl])]

/-- A checkpoint is there. -/
def CkH (D : Dev) (name : ByteArray) (o : Option Ck) : Prop := ∃ p0 p1, SlotIs D (slotN name 0) p0 ∧ SlotIs D (slotN name 1) p1 ∧ (newS p0 p1).1 = o
theorem CkH.of {D D' : Dev} {name : ByteArray} {o : Option Ck} (h : CkH D name o) (e0 : D'.now.m (slotN name 0) = D.now.m (slotN name 0)) (e1 : D'.now.m (slotN name 1) = D.now.m (slotN name 1)) : CkH D' name o := by
  obtain ⟨p0, p1, h0, h1, h2⟩ := h
  exact ⟨p0, p1, h0.of e0, h1.of e1, h2⟩
theorem gsaveH (d : Nat) (g : Gh) (w : World) (D : Dev) (m : Nat) (hD : DevAt g w d D) (hq : Quiet D m) (hm : m ≤ 250) (name : ByteArray) (h : nmB false 40 name = true) (o : Option Ck) (ho : CkH D name o) (p : Nat) (x : UInt8) (v : Int) (hv : v = x.toNat)
    (hp : posO o ≤ p) (hpb : p < 1000000) (hsq : seqO o + 1 < 1000000) :
    Calls Tryd.prog 16 #[.pointer (some ⟨d, 0, none⟩), .string name, .int .i64 p, .slice (some ⟨w.heap.size, 0, none⟩) 1 1] (w.alloc (.cells #[.int .u8 v] 5)) fun e w' => e = .returned (.int .i64 0) ∧ ∃ D', SaveP d g w D' w' ∧ Quiet D' (m + 1) ∧ CkH D' name (some ⟨seqO o + 1, p, [x]⟩) ∧ ∀ q, q ≠ slotN name 0 → q ≠ slotN name 1 → D'.now.m q = D.now.m q := by
  obtain ⟨p0, p1, h0, h1, h2⟩ := ho
  subst hv
  have hc := gsave_lit d g w D m hD hq hm name h p0 p1 h0 h1 p [x] (0, 0) (by omega) (by rw [h2]; omega) (by omega) (by rw [h2]; omega) (by simp)
  rw [h2] at hc
  refine hc.mono ?_
  rintro e w' ⟨he, D', q0, q1, k1, k2, k3, k4, k5, k6⟩
  exact ⟨he, D', k1, k2, ⟨q0, q1, k3, k4, k5⟩, k6⟩

/-- A step of the device and the journal. -/
theorem Kp.both {w : World} {t d : Nat} {g : Gh} {x : World} {D : Dev} {m : Nat} {B : List (Nat × TypeId × List Value)} {R : Gh → World → Prop} (h : Kp w t d g x D m B R) {g' : Gh} {x' : World} {D' : Dev} {j : Nat} (hx : Ext (fun o => o = d ∨ o = j) g x g' x') (hD : DevAt g' x' d D') (h0 : w.heap.size ≤ j) (h1 : t ≠ j) (h3 : ∀ p ∈ B, p.1 ≠ j) : Kp w t d g' x' D' m B R :=
  ⟨h.hx.trans (hx.imp (fun a e => by rcases e with rfl | rfl; exact h.dw; exact h0)), hD, h.ht.ext hx (fun e => by rcases e with e | e; exact h.dt e.symm; exact h1 e), h.dw, h.tw, h.dt, h.boxes hx (fun p hp e => by rcases e with e | e; exact (h.bx p hp).2.2.2.2.2 e; exact h3 p hp e), h.rs _ _ _ _ _ h.r hx, h.rs⟩

def ccN : ByteArray := ⟨#[99, 45, 99]⟩
/-- The loop's head: k rounds are left. -/
def ApHead (w : World) (d j K n0 k n : Nat) (x : World) : Prop :=
  ∃ (g : Gh) (D : Dev) (m c : Nat) (J : Jrn) (oa ob : Option Ck), Kp w w.heap.size d g x D m [] (fun _ _ => True) ∧ JAt g x j d J ∧ w.heap.size ≤ j ∧ w.heap.size ≠ j ∧ d ≠ j ∧ n = n0 + (K - k) ∧ k ≤ K ∧ Quiet D (1 + 4 * (K - k)) ∧ Good J D c (200 + (K - k)) ∧ c ≤ 1 + 4 * (K - k) ∧
    J.name = ⟨#[99, 45, 99]⟩ ∧ J.start = 0 ∧ J.recs = bL n ∧ J.pend = [] ∧ CkH D ⟨#[99]⟩ oa ∧ CkH D ⟨#[99, 99]⟩ ob ∧
    (k < K → ∃ s, s ≤ K - k ∧ oa = some ⟨s, 8 - k, [UInt8.ofNat (k + 1)]⟩) ∧ (k = K → oa = none) ∧ (k < K → ∃ s, s ≤ K - k ∧ ob = some ⟨s, 8 - k, [UInt8.ofNat (k + 2)]⟩) ∧ (k = K → ob = none)

theorem ap_pos {K k : Nat} {o : Option Ck} {b : UInt8} (hK : K ≤ 5) (hk : k ≤ K) (h1 : k < K → ∃ s, s ≤ K - k ∧ o = some ⟨s, 8 - k, [b]⟩) (h2 : k = K → o = none) : posO o ≤ 9 - k ∧ seqO o ≤ K - k := by
  by_cases h : k = K
  · rw [h2 h]; exact ⟨Nat.zero_le _, Nat.zero_le _⟩
  · obtain ⟨s, h3, rfl⟩ := h1 (by omega)
    exact ⟨by show 8 - k ≤ _; omega, h3⟩
theorem bL_all {n : Nat} {r : List UInt8} (h : r ∈ bL n) : r.length ≤ 65536 := by
  simp only [bL, List.mem_map] at h
  obtain ⟨i, _, rfl⟩ := h
  simp

set_option maxRecDepth 100000 in
set_option maxHeartbeats 6400000 in
theorem lawCApart_any (w : World) (A : Option Addr) (c : Nat) (L : List Int) (hr : Rd 1 (ghW w) w A L.length (L.map (Value.int .i64))) (hL : ∀ x ∈ L, (Lit.int .i64 x).wf = true) :
    Calls Tryd.prog 9 #[.slice A L.length c] w fun e w' => e = .returned (.bool true) ∧ Below w.heap.size w w' := by
  obtain ⟨hx0, ht0⟩ := TapeAt.new (c := c) hr hL
  have HX0 := Lib.hid hx0
  have HT0 := Lib.hid ht0
  clear hx0 ht0 hr hL
  go_enter Tryd.func9, Tryd.ntmps9
  go_wp2_with fail
  refine (gnew ((ghW w).box w.heap.size) _).mono ?_
  rintro e w1 ⟨d, g1, rfl, hd, hx1, hD1⟩
  have HK1 : Hid (Kp w w.heap.size d g1 w1 dev0 0 [] (fun _ _ => True)) := by
    have hs : (w.alloc (.cells #[.slice A L.length c, .int .i64 0] 25)).heap.size = w.heap.size + 1 := by simp
    exact ⟨(HX0.out.trans hx1).imp (fun _ h => h.elim), hD1, HT0.out.ext hx1 (fun h => h), by omega, Nat.le_refl _, by omega, (fun _ h => by cases h), trivial, Stab.true⟩
  clear hx1 hD1 HX0 HT0 hd
  go_wp2_with fail
  refine (known_any g1 w1).mono ?_
  rintro e w3 ⟨rfl, g3, hx3⟩
  have HK3 := Lib.hid (HK1.out.step hx3 (fun _ h => h))
  clear hx3 HK1
  go_wp2_with fail
  refine (knextN HK3.out (by omega) 6 (by omega) (by omega)).mono ?_
  rintro e w4 ⟨n0, rfl, hN, hk4⟩
  have HK4 := Lib.hid hk4
  clear hk4 HK3
  go_wp2_with fail
  refine (log_any d g3 w4 dev0 HK4.out.hD ⟨rfl, rfl⟩ rfl rfl ⟨#[99, 45, 99]⟩ (by decide) rfl rfl (by decide) n0 0 (by omega) (by omega)).mono ?_
  rintro e w6 ⟨j, J', D6, g6, rfl, hj6, hx6, hJ6, hD6, hG6, q1, q2, q3, q4, q5⟩
  have HK6 := Lib.hid (HK4.out.dev hx6 hD6)
  have htl := HK4.out.ht.lt
  have hdl := HK4.out.hD.lt
  have hszw := HK4.out.hx.size
  have HE6 : Hid (JAt g6 w6 j d J' ∧ Good J' D6 0 200 ∧ J'.name = ⟨#[99, 45, 99]⟩ ∧ J'.start = 0 ∧ J'.recs = bL n0 ∧ J'.pend = [] ∧ CkH D6 ⟨#[99]⟩ none ∧ CkH D6 ⟨#[99, 99]⟩ none) :=
    ⟨hJ6, hG6, q1, q2, q3, q4, ⟨none, none, SlotIs.zero (q5 _ (by decide) (by decide)), SlotIs.zero (q5 _ (by decide) (by decide)), rfl⟩, ⟨none, none, SlotIs.zero (q5 _ (by decide) (by decide)), SlotIs.zero (q5 _ (by decide) (by decide)), rfl⟩⟩
  have HJW : Hid (w.heap.size ≤ j ∧ w.heap.size ≠ j ∧ d ≠ j) := ⟨by omega, by omega, by omega⟩
  clear hx6 hJ6 hD6 hG6 q1 q2 q3 q4 q5 hj6 HK4 htl hdl hszw
  go_wp2_with fail
  refine (next_any w.heap.size _ g6 w6 HK6.out.ht (by omega) 5 (by omega)).mono ?_
  rintro e w7 ⟨kv, rfl, hkv0, hkv, hx7, ht7⟩
  have HK7 := Lib.hid (HK6.out.tape hx7 ht7)
  obtain ⟨K, hK⟩ : ∃ K : Nat, 1 + kv = K := ⟨(1 + kv).toNat, by omega⟩
  have hK1 : 1 ≤ K := by omega
  have hK5 : K ≤ 5 := by omega
  have HL7 : Hid (ApHead w d j K n0 K n0 w7) := by
    obtain ⟨e1, e2, e3, e4, e5, e6, e7, e8⟩ := HE6.out
    obtain ⟨j1, j2, j3⟩ := HJW.out
    exact ⟨g6, D6, _, 0, J', none, none, HK7.out, e1.ext hx7 (fun e => j2 e.symm), j1, j2, j3, by omega, Nat.le_refl _, (e2.quiet (Nat.le_refl _)).more (by omega), e2.more (by omega), by omega, e3, e4, e5, e6, e7, e8, fun h => absurd h (Nat.lt_irrefl _), fun _ => rfl, fun h => absurd h (Nat.lt_irrefl _), fun _ => rfl⟩
  clear hx7 ht7 HK7 HK6 HE6 HJW hkv0 hkv
  go_wp2_with fail
  go_loopw [5, 8] (fun n i wr => ∃ nn k : Nat, n = .int .i64 nn ∧ i = .int .i64 k ∧ ApHead w d j K n0 k nn wr) (fun _ i _ => (intOf i).toNat)
  case atStart => exact ⟨n0, K, rfl, by first | rfl | rw [hK], HL7.out⟩
  case round =>
    obtain ⟨nn, k, rfl, rfl, g, D, m, cc, J, oa, ob, hk, hj, j1, j2, j3, hn, hkK, hq, hG, hcc, q1, q2, q3, q4, ha, hb, a1, a2, b1, b2⟩ := hrel
    clear HL7 hK
    have HK8 := Lib.hid hk
    have HJ8 := Lib.hid hj
    have HQ8 := Lib.hid hq
    have HG8 := Lib.hid hG
    have HQQ := Lib.hid (And.intro q1 (And.intro q2 (And.intro q3 q4)))
    have HA8 := Lib.hid ha
    have HB8 := Lib.hid hb
    have HAB := Lib.hid (And.intro a1 (And.intro a2 (And.intro b1 b2)))
    have HNN := Lib.hid hn
    have hnb : nn ≤ n0 + 5 := by rw [hn]; exact Nat.add_le_add_left (Nat.le_trans (Nat.sub_le _ _) hK5) _
    clear hk hj hq hG q1 q2 q3 q4 ha hb a1 a2 b1 b2 hn
    by_cases hlt : 0 < k
    · have hlt' : (0 : Int) < k := by omega
      obtain ⟨pa, sa⟩ := ap_pos hK5 hkK HAB.out.1 HAB.out.2.1
      obtain ⟨pb, sb⟩ := ap_pos hK5 hkK HAB.out.2.2.1 HAB.out.2.2.2
      have PAB := Lib.hid (And.intro pa (And.intro sa (And.intro pb sb)))
      have hwrap : IntKind.u8.wrap (k : Int) = k := by rw [IntKind.wrap_u8]; omega
      have hwrap1 : IntKind.u8.wrap ((k : Int) + 1) = (k : Int) + 1 := by rw [IntKind.wrap_u8]; omega
      have hwrap2 : IntKind.u8.wrap (nn : Int) = nn := by rw [IntKind.wrap_u8]; omega
      obtain ⟨p, hp⟩ : ∃ p : Nat, 9 - k = p := ⟨_, rfl⟩
      have hpi : (9 : Int) - k = p := by omega
      clear pa sa pb sb
      go_wp2_with fail
      have hu1 : (k : Int) = (UInt8.ofNat k).toNat := by simp; omega
      refine (gsaveH d g wr D _ HK8.out.hD HQ8.out (by omega) ⟨#[99]⟩ cN_ok oa HA8.out p (UInt8.ofNat k) (k : Int) hu1 (by have := PAB.out.1; omega) (by omega) (by have := PAB.out.2.1; omega)).mono ?_
      rintro e w9 ⟨rfl, D9, ⟨g9, hx9, hD9⟩, hq9, ha9, ho9⟩
      have hne9 := HJ8.out.ne_dev HK8.out.hD
      have hjl := HJ8.out.lt
      have HK9 := Lib.hid (HK8.out.dev hx9 hD9)
      have HJ9 := Lib.hid (HJ8.out.ext hx9 (by omega))
      have HQ9 := Lib.hid hq9
      have HA9 := Lib.hid ha9
      have HB9 := Lib.hid (HB8.out.of (ho9 _ (by decide) (by decide)) (ho9 _ (by decide) (by decide)))
      have HG9 : Hid (∃ c9, Good J D9 c9 (200 + (K - k))) := ⟨_, HG8.out.dev hD9 hq9 (by simp only [Jrn.file, HQQ.out.1]; exact ho9 _ (by decide) (by decide)) (by simp only [Jrn.fresh, HQQ.out.1]; exact ho9 _ (by decide) (by decide))⟩
      clear hx9 hD9 hq9 ha9 ho9 HK8 HJ8 HQ8 HA8 HB8 HG8 hu1 hne9 hjl
      go_wp2_with fail
      have hu2 : (k : Int) + 1 = (UInt8.ofNat (k + 1)).toNat := by simp; omega
      refine (gsaveH d g9 w9 D9 _ HK9.out.hD HQ9.out (by omega) ⟨#[99, 99]⟩ (by decide) ob HB9.out p (UInt8.ofNat (k + 1)) _ hu2 (by have := PAB.out.2.2.1; omega) (by omega) (by have := PAB.out.2.2.2; omega)).mono ?_
      rintro e w10 ⟨rfl, D10, ⟨g10, hx10, hD10⟩, hq10, hb10, ho10⟩
      obtain ⟨c9, hG9⟩ := HG9.out
      have hne9 := HJ9.out.ne_dev HK9.out.hD
      have hjl := HJ9.out.lt
      have HK10 := Lib.hid (HK9.out.dev hx10 hD10)
      have HJ10 := Lib.hid (HJ9.out.ext hx10 (by omega))
      have HB10 := Lib.hid hb10
      have HA10 := Lib.hid (HA9.out.of (ho10 _ (by decide) (by decide)) (ho10 _ (by decide) (by decide)))
      have HC10 : Hid (∃ c10, c10 ≤ 1 + 4 * (K - k) + 2 ∧ Good J D10 c10 (200 + (K - k))) := ⟨_, by have := hq10.n; omega, hG9.dev hD10 hq10 (by simp only [Jrn.file, HQQ.out.1]; exact ho10 _ (by decide) (by decide)) (by simp only [Jrn.fresh, HQQ.out.1]; exact ho10 _ (by decide) (by decide))⟩
      clear hx10 hD10 hq10 hb10 ho10 HK9 HJ9 HQ9 HA9 HB9 HG9 hG9 hne9 hjl hu2
      obtain ⟨c10, hc10, hG10⟩ := HC10.out
      have HG10 := Lib.hid hG10
      clear hG10 HC10
      have hx3 := Ext.litB (fun _ => False) g10 w10 [UInt8.ofNat nn] (0, 0)
      have hb3 := BytesAt.lit g10 w10 [UInt8.ofNat nn] (0, 0) (by simp)
      have hk8 : (UInt8.ofNat nn).toNat = nn := by simp; omega
      have hbv : (bv [UInt8.ofNat nn]).toArray = #[.int .u8 (nn : Int)] := by simp only [bv, List.map_cons, List.map_nil, u8v, hk8]
      simp only [List.length_cons, List.length_nil, Nat.zero_add] at hx3 hb3
      rw [hbv] at hx3 hb3
      have HK11 := Lib.hid (HK10.out.step hx3 (fun _ h => h.elim))
      have HBY := Lib.hid hb3
      have HJ11 := Lib.hid (HJ10.out.ext hx3 (fun h => h))
      have HA : Hid (jappI J [UInt8.ofNat nn] = 0) := by
        show _ = _
        rw [HG10.out.appI, HQQ.out.2.2.1, HQQ.out.2.2.2]
        simp only [List.length_cons, List.length_nil, bL_len, bL_lens, lens]
        rw [if_neg (by omega), if_neg (by omega), if_neg (by omega)]
      have HJE : Hid (jappJ J [UInt8.ofNat nn] = { J with pend := J.pend ++ [[UInt8.ofNat nn]], bytes := J.bytes + 1 }) := by
        show _ = _
        unfold jappJ
        rw [if_pos HA.out]
        simp
      clear hx3 hb3 hbv hk8 HK10 HJ10
      go_wp2_with fail
      refine (gappend j d _ _ J D10 c10 _ HJ11.out HK11.out.hD HG10.out (by omega) (by omega) _ _ [UInt8.ofNat nn] HBY.out (by simp)).mono ?_
      rw [HA.out]
      rintro e w12 ⟨rfl, g12, hx12, hJ12, hD12⟩
      have HK12 := Lib.hid (HK11.out.both hx12 hD12 j1 j2 (by simp))
      have HJ12 := Lib.hid hJ12
      have HG12 := Lib.hid (HG10.out.appJ [UInt8.ofNat nn])
      clear hx12 hJ12 hD12 HK11 HJ11 HG10
      go_wp2_with fail
      refine (gcommit j d g12 w12 _ D10 c10 _ HJ12.out HK12.out.hD HG12.out (by omega) (by omega)).mono ?_
      rintro e w13 ⟨rfl, D13, ⟨g13, hx13, hJ13, hD13⟩, hG13, hot13⟩
      have HK13 := Lib.hid (HK12.out.both hx13 hD13 j1 j2 (by simp))
      have HJ13 := Lib.hid hJ13
      have HG13 := Lib.hid hG13
      have hn12 : (jappJ J [UInt8.ofNat nn]).name = ⟨#[99, 45, 99]⟩ := by rw [HJE.out]; exact HQQ.out.1
      have HQ13 : Hid ((comR (jappJ J [UInt8.ofNat nn])).name = ⟨#[99, 45, 99]⟩ ∧ (comR (jappJ J [UInt8.ofNat nn])).start = 0 ∧ (comR (jappJ J [UInt8.ofNat nn])).recs = bL (nn + 1) ∧ (comR (jappJ J [UInt8.ofNat nn])).pend = []) := by
        rw [HJE.out, bL_succ, ← HQQ.out.2.2.1]
        refine ⟨HQQ.out.1, HQQ.out.2.1, ?_, rfl⟩
        simp only [comR, HQQ.out.2.2.2, List.nil_append]
      have HS13 : Hid (CkH D13 ⟨#[99]⟩ (some ⟨seqO oa + 1, p, [UInt8.ofNat k]⟩) ∧ CkH D13 ⟨#[99, 99]⟩ (some ⟨seqO ob + 1, p, [UInt8.ofNat (k + 1)]⟩)) := by
        have hf : (jappJ J [UInt8.ofNat nn]).file = ⟨#[99, 45, 99, 46, 108, 111, 103]⟩ := by rw [Jrn.file, hn12]; rfl
        have hg : (jappJ J [UInt8.ofNat nn]).fresh = ⟨#[99, 45, 99, 46, 110, 101, 119]⟩ := by rw [Jrn.fresh, hn12]; rfl
        rw [hf, hg] at hot13
        exact ⟨HA10.out.of (hot13 _ (by decide) (by decide)) (hot13 _ (by decide) (by decide)), HB10.out.of (hot13 _ (by decide) (by decide)) (hot13 _ (by decide) (by decide))⟩
      clear hx13 hJ13 hD13 hG13 hot13 HK12 HJ12 HG12 HA10 HB10 hn12
      go_wp2_with fail
      go_round
      case rel =>
        obtain ⟨r1, r2, r3, r4⟩ := HQ13.out
        refine ⟨nn + 1, k - 1, by go_num, congrArg (Value.int .i64) (by omega), g13, D13, _, c10, _, _, _, HK13.out, HJ13.out, j1, j2, j3, by have := HNN.out; omega, by omega, (HG13.out.quiet (Nat.le_refl _)).more (by omega), HG13.out.more (by omega), by omega, r1, r2, r3, r4, HS13.out.1, HS13.out.2, fun _ => ⟨seqO oa + 1, by have := PAB.out.2.1; omega, ?_⟩, fun h => by omega, fun _ => ⟨seqO ob + 1, by have := PAB.out.2.2.2; omega, ?_⟩, fun h => by omega⟩
        · rw [show k - 1 + 1 = k by omega, show 8 - (k - 1) = p by omega]
        · rw [show k - 1 + 2 = k + 1 by omega, show 8 - (k - 1) = p by omega]
      case measure => simp [intOf]; omega
    · obtain rfl : k = 0 := by omega
      have hk0 : ¬ (0 : Int) < ((0 : Nat) : Int) := by omega
      obtain ⟨sa, hsa, ea⟩ := HAB.out.1 hK1
      obtain ⟨sb, hsb, eb⟩ := HAB.out.2.2.1 hK1
      subst ea eb
      have HF8 := Lib.hid (Quiet.fit HK8.out.hD HQ8.out (by omega))
      clear HAB
      go_wp2_with fail
      refine (lose_any d g wr D HK8.out.hD HF8.out 0 0 (by omega) (by omega)).mono ?_
      rw [HQ8.out.lossD]
      rintro e w9 ⟨rfl, hP9⟩
      obtain ⟨g9, hk9⟩ := HK8.out.devP hP9
      have HK9 := Lib.hid hk9
      clear hP9 hk9 HK8 HJ8 HF8
      go_wp2_with fail
      refine (restart_any d g9 w9 (downD D) HK9.out.hD rfl (by simp [downD, HQ8.out.pl])).mono ?_
      rintro e w10 ⟨rfl, hP10⟩
      obtain ⟨g10, hk10⟩ := HK9.out.devP hP10
      have hE : ({ downD D with down := false } : Dev) = D := by
        have h1 := HQ8.out.up.dn
        have h2 := HQ8.out.up.fu
        cases D; simp only at h1 h2; simp [downD, h1, h2]
      rw [hE] at hk10
      have HK10 := Lib.hid hk10
      clear hP10 hk10 HK9 hE
      obtain ⟨p0, p1, s0, s1, e1⟩ := HA8.out
      obtain ⟨q0, q1, t0, t1, e2⟩ := HB8.out
      have HLA := Lib.hid (fun (g : Gh) (x : World) (B : List (Nat × TypeId × List Value)) (R : Gh → World → Prop) (h : Kp w w.heap.size d g x D m B R) => kload h HQ8.out.up.dn ⟨#[99]⟩ cN_ok p0 p1 s0 s1)
      have HLB := Lib.hid (fun (g : Gh) (x : World) (B : List (Nat × TypeId × List Value)) (R : Gh → World → Prop) (h : Kp w w.heap.size d g x D m B R) => kload h HQ8.out.up.dn ⟨#[99, 99]⟩ (by decide) q0 q1 t0 t1)
      rw [e1] at HLA
      rw [e2] at HLB
      have x8 : ∀ (s : Nat) (b : UInt8), ((posO (some ⟨s, 8 - 0, [b]⟩) : Nat) : Int) = 8 := fun _ _ => rfl
      rw [x8] at HLA HLB
      clear x8 e1 e2 s0 s1 t0 t1 HA8 HB8
      go_wp2_with fail
      refine (HLA.out g10 w10 _ _ HK10.out).mono ?_
      rintro e w11 ⟨g11, va, rfl, hk11⟩
      obtain ⟨Aa, hva, hba⟩ := hk11.r.2
      have hva : va = .slice Aa 1 1 := hva
      subst hva
      have hbw11 := hk11.hx.size
      have HK12 : Hid (Kp w w.heap.size d (g11.box w11.heap.size) (w11.alloc (.cells #[.int .i64 8, .slice Aa 1 1, .bool true] 34)) D m [(w11.heap.size, 34, [.int .i64 8, .slice Aa 1 1, .bool true])] (fun g x => BytesAt g x (.slice Aa 1 1) [1])) := (hk11.with (R' := fun g x => BytesAt g x (.slice Aa 1 1) [1]) hba (Stab.bytes _ _)).box 34 [.int .i64 8, .slice Aa 1 1, .bool true]
      clear hk11 hba HK10 HLA
      rw [show (some (⟨sa, 8 - 0, [UInt8.ofNat (0 + 1)]⟩ : Ck)).isSome = true from rfl]
      go_wp2_with fail
      generalize w11.alloc (.cells #[.int .i64 8, .slice Aa 1 1, .bool true] 34) = w12 at *
      generalize g11.box w11.heap.size = g12 at *
      generalize w11.heap.size = na at *
      refine (HLB.out g12 w12 _ _ HK12.out).mono ?_
      rintro e w13 ⟨g13, vb, rfl, hk13⟩
      obtain ⟨Ab, hvb, hbb⟩ := hk13.r.2
      have hvb : vb = .slice Ab 1 1 := hvb
      subst hvb
      have HK14 : Hid (Kp w w.heap.size d (g13.box w13.heap.size) (w13.alloc (.cells #[.int .i64 8, .slice Ab 1 1, .bool true] 34)) D m [(w13.heap.size, 34, [.int .i64 8, .slice Ab 1 1, .bool true]), (na, 34, [.int .i64 8, .slice Aa 1 1, .bool true])] (fun g x => BytesAt g x (.slice Aa 1 1) [1] ∧ BytesAt g x (.slice Ab 1 1) [2])) := (hk13.with (R' := fun g x => BytesAt g x (.slice Aa 1 1) [1] ∧ BytesAt g x (.slice Ab 1 1) [2]) ⟨hk13.r.1, hbb⟩ ((Stab.bytes _ _).and (Stab.bytes _ _))).box 34 [.int .i64 8, .slice Ab 1 1, .bool true]
      clear hk13 hbb HK12 HLB
      rw [show (some (⟨sb, 8 - 0, [UInt8.ofNat (0 + 2)]⟩ : Ck)).isSome = true from rfl]
      go_wp2_with fail
      generalize w13.alloc (.cells #[.int .i64 8, .slice Ab 1 1, .bool true] 34) = w14 at *
      generalize g13.box w13.heap.size = g14 at *
      generalize w13.heap.size = nb at *
      have HOP := Lib.hid (gopen d g14 w14 J D cc _ HK14.out.hD HG8.out (by omega))
      rw [HQQ.out.1] at HOP
      refine HOP.out.mono ?_
      rintro e w15 ⟨i', g15, rfl, hi', hx15, hJ15⟩
      have HK15 := Lib.hid (HK14.out.step hx15 (fun o (e : o = i') => by omega))
      have HJ15 := Lib.hid hJ15
      have HDR : Hid ((disR J).start = 0 ∧ (disR J).recs = bL nn ∧ (disR J).recs.length = nn) := ⟨HQQ.out.2.1, HQQ.out.2.2.1, by show J.recs.length = nn; rw [HQQ.out.2.2.1, bL_len]⟩
      clear hx15 hJ15 hi' HK14 HOP HQQ HG8
      generalize disR J = J15 at *
      go_wp2_with fail
      refine (jend_any i' d g15 w15 J15 HJ15.out (by rw [HDR.out.1]; omega) (by rw [HDR.out.1]; omega) (by rw [HDR.out.2.2]; omega)).mono ?_
      rw [HDR.out.1, HDR.out.2.2]
      rintro e w' ⟨rfl, n15, rfl⟩
      have hxd : Ext (fun _ => False) g15 w15 g15 (w15.drewN n15) := (Ext.refl _ _ _).drewN _
      have HK16 := Lib.hid (HK15.out.step hxd (fun _ h => h.elim))
      have HJ16 := Lib.hid (HJ15.out.ext hxd (fun h => h))
      clear hxd HK15 HJ15
      generalize w15.drewN n15 = w16 at *
      go_wp2_with fail
      refine (jstart_any i' d g15 w16 J15 HJ16.out).mono ?_
      rw [HDR.out.1]
      rintro e w' ⟨rfl, rfl⟩
      go_wp2_with fail
      go_loopw [15, 16, 17] (fun i _ _ wr => ∃ (k : Nat) (gr : Gh), i = .int .i64 k ∧ k ≤ nn ∧ Kp w w.heap.size d gr wr D m [(nb, 34, [.int .i64 8, .slice Ab 1 1, .bool true]), (na, 34, [.int .i64 8, .slice Aa 1 1, .bool true])] (fun g x => BytesAt g x (.slice Aa 1 1) [1] ∧ BytesAt g x (.slice Ab 1 1) [2]) ∧ JAt gr wr i' d J15) (fun i _ _ _ => nn - (intOf i).toNat)
      case atStart => exact ⟨0, g15, rfl, Nat.zero_le _, HK16.out, HJ16.out⟩
      case round =>
        obtain ⟨k, gr, rfl, hk, hkp, hjr⟩ := hrel
        have HK17 := Lib.hid hkp
        have HJ17 := Lib.hid hjr
        clear hkp hjr HK16 HJ16
        by_cases hkn : k < nn
        · have hkn' : (k : Int) < nn := by omega
          have HGR : Hid (getR J15 k = some [UInt8.ofNat k]) := by
            show _ = _
            unfold getR
            rw [HDR.out.1, HDR.out.2.2, HDR.out.2.1, if_neg (by omega), if_neg (by omega)]
            have : ((k : Int) - 0).toNat = k := by omega
            rw [this, bL_get _ _ hkn]
          have hwrap : IntKind.u8.wrap (k : Int) = k := by rw [IntKind.wrap_u8]; omega
          go_wp2_with fail
          refine (get_any i' d gr _ J15 HJ17.out _ (by rw [HDR.out.1]; omega) (by rw [HDR.out.1]; omega) (by rw [HDR.out.2.2]; omega) (fun r hr => by rw [HDR.out.2.1] at hr; exact bL_all hr) (by omega) (by omega)).mono ?_
          rw [HGR.out]
          rintro e w18 ⟨A5, c5, g18, rfl, hx18, hb18⟩
          have hs1 : (convert 32 9 (.slice A5 1 c5)).run Tryd.prog w18 = .ok (.string ⟨#[UInt8.ofNat k]⟩) w18 := hb18.str
          have hx19 := Ext.litB (fun _ => False) g18 w18 [UInt8.ofNat k] (0, 0)
          have hb19 := (BytesAt.lit g18 w18 [UInt8.ofNat k] (0, 0) (by simp)).str
          have hk8 : (UInt8.ofNat k).toNat = k := by simp; omega
          have hbv : (bv [UInt8.ofNat k]).toArray = #[.int .u8 (k : Int)] := by simp only [bv, List.map_cons, List.map_nil, u8v, hk8]
          simp only [List.length_cons, List.length_nil, Nat.zero_add] at hx19 hb19
          rw [hbv] at hx19 hb19
          have hy := hx18.trans hx19
          have HK19 := Lib.hid (HK17.out.step hy (fun _ h => h.elim))
          have HJ19 := Lib.hid (HJ17.out.ext hy (fun h => h))
          clear hx18 hb18 hx19 hy HK17 HJ17 hbv hk8
          simp only [List.length_cons, List.length_nil, Nat.zero_add]
          go_wp2_with fail
          go_round
          case rel => exact ⟨k + 1, _, by go_num, by omega, HK19.out, HJ19.out⟩
          case measure => simp [intOf]; omega
        · obtain rfl : k = nn := by omega
          have a0 : wr.cell? ⟨na, 0, none⟩ = some (.int .i64 8) := (HK17.out.blk (List.mem_cons_of_mem _ (List.mem_cons_self ..))).cell 0
          have a1 : wr.cell? ⟨na, 1, none⟩ = some (.slice Aa 1 1) := (HK17.out.blk (List.mem_cons_of_mem _ (List.mem_cons_self ..))).cell 1
          have b0 : wr.cell? ⟨nb, 0, none⟩ = some (.int .i64 8) := (HK17.out.blk (List.mem_cons_self ..)).cell 0
          have b1 : wr.cell? ⟨nb, 1, none⟩ = some (.slice Ab 1 1) := (HK17.out.blk (List.mem_cons_self ..)).cell 1
          have hs1 : (convert 32 9 (.slice Aa 1 1)).run Tryd.prog wr = .ok (.string ⟨#[1]⟩) wr := HK17.out.r.1.str
          have hs2 : (convert 32 9 (.slice Ab 1 1)).run Tryd.prog wr = .ok (.string ⟨#[2]⟩) wr := HK17.out.r.2.str
          have HX := Lib.hid HK17.out.hx
          clear HK17 HJ17
          go_wp2_with fail
          go_ret
          exact ⟨rfl, HX.out.finW⟩

end Go.Proofs.YtcjkllmellampaaDoor
