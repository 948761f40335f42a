/-
  The walk of CheckpointEvery.
-/
import Derived.Test.YtcjkllmellampaaDoorCkKn
import Derived.Test.YtcjkllmellampaaDoorOpenK
import Derived.Test.YtcjkllmellampaaDoorFold
namespace Go.Proofs.YtcjkllmellampaaDoor
open Go.RowKit

theorem bytes_of_nums : ∀ (zs : List Int), (∀ n ∈ zs, (Lit.int .u8 n).wf = true) → ∃ l : List UInt8, l.length = zs.length ∧ zs.map (Value.int .u8) = bv l
  | [], _ => ⟨[], rfl, rfl⟩
  | z :: zs, h => by
    obtain ⟨l, h1, h2⟩ := bytes_of_nums zs (fun n hn => h n (List.mem_cons_of_mem _ hn))
    obtain ⟨x, hx⟩ := wf_u8 (h z (List.mem_cons_self ..))
    exact ⟨x :: l, by simp [h1], by simp [bv, u8v, hx] at h2 ⊢; exact h2⟩
theorem BytesAt.ofNums {w : World} {A : Option Addr} {c : Nat} {zs : List Int} (h1 : zs.length ≤ c) (h2 : c ≤ maxLen) (h3 : A = none → zs.length = 0) (h4 : Rd 1 (ghW w) w A zs.length (zs.map (Value.int .u8))) (h5 : ∀ n ∈ zs, (Lit.int .u8 n).wf = true) : ∃ l : List UInt8, l.length = zs.length ∧ BytesAt (ghW w) w (.slice A zs.length c) l := by
  obtain ⟨l, e1, e2⟩ := bytes_of_nums zs h5
  refine ⟨l, e1, A, c, by rw [e1], by omega, h2, fun h => by rw [e1]; exact h3 h, ?_⟩
  rw [e1, ← e2]; exact h4


set_option maxRecDepth 100000 in
set_option maxHeartbeats 6400000 in
theorem lawEvery_any (w : World) (Aa Ab : Option Addr) (na ca nb cb : Nat) (a b : List UInt8) (ha : BytesAt (ghW w) w (.slice Aa na ca) a) (hb : BytesAt (ghW w) w (.slice Ab nb cb) b) (hna : a.length = na) (hnb : b.length = nb) (fu kp tn : Int) (hf0 : -9223372036854775808 ≤ fu) (hf1 : fu ≤ 9223372036854775807) (hk0 : -9223372036854775808 ≤ kp) (hk1 : kp ≤ 9223372036854775807) (ht0 : -9223372036854775808 ≤ tn) (ht1 : tn ≤ 9223372036854775807) :
    Calls Tryd.prog 6 #[.slice Aa na ca, .slice Ab nb cb, .int .i64 fu, .int .i64 kp, .int .i64 tn] w fun e w' => e = .returned (.bool true) ∧ Below w.heap.size w w' := by
  have HA0 := Lib.hid ha
  have HB0 := Lib.hid hb
  have HNA := Lib.hid hna
  have HNB := Lib.hid hnb
  clear ha hb hna hnb
  by_cases h1 : 200 < na
  · go_enter Tryd.func6, Tryd.ntmps6
    go_wp2_with fail
    go_ret
    exact ⟨rfl, Below.refl _ _⟩
  by_cases h2 : 200 < nb
  · go_enter Tryd.func6, Tryd.ntmps6
    go_wp2_with fail
    go_ret
    exact ⟨rfl, Below.refl _ _⟩
  go_enter Tryd.func6, Tryd.ntmps6
  go_wp2_with fail
  refine (gnew (ghW w) w).mono ?_
  rintro e w1 ⟨d, g1, rfl, hd, hx1, hD1⟩
  have HX1 : Hid (Ext (fun o => w.heap.size ≤ o) (ghW w) w g1 w1) := hx1.imp (fun _ h => h.elim)
  have HD1 := Lib.hid hD1
  have HA1 := Lib.hid (HA0.out.ext hx1)
  have HB1 := Lib.hid (HB0.out.ext hx1)
  clear hx1 hD1
  go_wp2_with fail
  refine (known_any g1 w1).mono ?_
  rintro e w3 ⟨rfl, g3, hx3⟩
  have hdl := HD1.out.lt
  have HX3 := Lib.hid (HX1.out.trans (hx3.imp (fun o h => Nat.le_trans HX1.out.size h)))
  have HD3 := Lib.hid (HD1.out.ext hx3 (by omega))
  have HA3 := Lib.hid (HA1.out.ext hx3)
  have HB3 := Lib.hid (HB1.out.ext hx3)
  clear hx3 HX1 HD1 HA1 HB1 hdl
  have la := HNA.out
  have lb := HNB.out
  have HC3 := Lib.hid (gsave d g3 w3 dev0 0 HD3.out Quiet.dev0 (by omega) ⟨#[99]⟩ cN_ok none none (SlotIs.zero rfl) (SlotIs.zero rfl) 1 Aa ca a (by rw [la]; exact HA3.out) (by omega) (by decide) (by omega) (by decide) (by omega))
  rw [la] at HC3
  clear la lb
  go_wp2_with fail
  refine HC3.out.mono ?_
  rintro e w4 ⟨rfl, D4, p0, p1, ⟨g4, hx4, hD4⟩, hq4, hs0, hs1, hnw, _⟩
  have hsz3 := HX3.out.size
  have HX4 := Lib.hid (HX3.out.trans (hx4.imp (fun o h => show w.heap.size ≤ o from h.elim (fun h => by omega) (fun h => by omega))))
  have HD4 := Lib.hid hD4
  have HA4 := Lib.hid (HA3.out.ext hx4)
  have HB4 := Lib.hid (HB3.out.ext hx4)
  have HQ4 := Lib.hid hq4
  have HS0 := Lib.hid hs0
  have HS1 := Lib.hid hs1
  have HNW : Hid ((newS p0 p1).1 = some ⟨1, 1, a⟩) := hnw
  clear hx4 hD4 hq4 hs0 hs1 hnw HX3 HD3 HA3 HB3 HC3
  go_wp2_with fail
  have hfb := foldI_lt (v := fu) (n := 8) (by omega)
  have hkb := foldI_lt (v := kp) (n := 6) (by omega)
  have htb := foldI_lt (v := tn) (n := 60) (by omega)
  refine (fold_any fu 8 w4 hf0 hf1 (by omega)).mono ?_
  rintro e w' ⟨rfl, rfl⟩
  obtain ⟨hfb0, hfb1⟩ := hfb
  obtain ⟨hkb0, hkb1⟩ := hkb
  obtain ⟨htb0, htb1⟩ := htb
  generalize foldI fu 8 = F0 at *
  go_wp2_with fail
  refine (fuse_any d g4 w4 D4 HD4.out (1 + F0) (by omega) (by omega)).mono ?_
  rintro e w5 ⟨rfl, g5, hx5, hD5⟩
  have HA5 := Lib.hid (HA4.out.ext hx5)
  have HB5 := Lib.hid (HB4.out.ext hx5)
  have HX5 := Lib.hid (HX4.out.trans (hx5.imp (fun o h => show w.heap.size ≤ o from by subst h; omega)))
  have HD5 := Lib.hid hD5
  have hlen := HD4.out.len
  have lb := HNB.out
  have hck : CkOk ⟨seqO (newS p0 p1).1 + 1, Int.toNat 2, b⟩ := ⟨by rw [HNW.out]; show (1 : Nat) + 1 < _; omega, by show (2 : Nat) < _; omega, by show b.length ≤ _; omega⟩
  have HLOST := Lib.hid (HQ4.out.lost (by omega) (1 + F0) (by omega) ⟨#[99]⟩ (newS p0 p1).2 ⟨seqO (newS p0 p1).1 + 1, Int.toNat 2, b⟩ hck (foldI kp 6) (foldI tn 60 - 1) hlen)
  have hs0' : SlotIs { D4 with fuse := 1 + F0 } (slotN ⟨#[99]⟩ 0) p0 := HS0.out.of rfl
  have hs1' : SlotIs { D4 with fuse := 1 + F0 } (slotN ⟨#[99]⟩ 1) p1 := HS1.out.of rfl
  have hn4 := HQ4.out.n
  have HSV := Lib.hid (save_ok d g5 w5 { D4 with fuse := 1 + F0 } HD5.out HQ4.out.up.dn ⟨#[99]⟩ cN_ok p0 p1 hs0' hs1' 2 Ab cb b (by rw [lb]; exact HB5.out) (by omega) (by rw [HNW.out]; show ((1 : Nat) : Int) ≤ 2; omega) (by omega) (by rw [HNW.out]; show (1 : Nat) + 1 < _; omega) (by omega) (by show D4.now.n < 256; omega) (by show D4.pend.length ≤ _; rw [HQ4.out.pl]; simp))
  rw [lb] at HSV
  have HCK := Lib.hid hck
  clear hx5 hD5 HX4 HD4 HA4 HB4 hlen hs0' hs1' hn4 lb hck hfb0 hfb1
  generalize hI : svI { D4 with fuse := 1 + F0 } (svOp ⟨#[99]⟩ (newS p0 p1).2 ⟨seqO (newS p0 p1).1 + 1, Int.toNat 2, b⟩) = si at *
  generalize hE : svD { D4 with fuse := 1 + F0 } (svOp ⟨#[99]⟩ (newS p0 p1).2 ⟨seqO (newS p0 p1).1 + 1, Int.toNat 2, b⟩) = E at *
  clear hI hE
  go_wp2_with fail
  refine HSV.out.mono ?_
  rintro e w6 ⟨rfl, g6, hx6, hD6⟩
  have hsz5 := HX5.out.size
  have HA6 := Lib.hid (HA5.out.ext hx6)
  have HB6 := Lib.hid (HB5.out.ext hx6)
  have HX6 := Lib.hid (HX5.out.trans (hx6.imp (fun o h => show w.heap.size ≤ o from h.elim (fun h => by omega) (fun h => by omega))))
  have HD6 := Lib.hid hD6
  clear hx6 hD6 HX5 HD5 HA5 HB5 HSV
  go_wp2_with fail
  refine (fold_any kp 6 w6 hk0 hk1 (by omega)).mono ?_
  rintro e w' ⟨rfl, rfl⟩
  go_wp2_with fail
  refine (fold_any tn 60 w6 ht0 ht1 (by omega)).mono ?_
  rintro e w' ⟨rfl, rfl⟩
  generalize foldI kp 6 = kp' at *
  generalize foldI tn 60 = tn' at *
  go_wp2_with fail
  refine (lose_any d g6 w6 E HD6.out HLOST.out.1 kp' (tn' - 1) (by omega) (by omega)).mono ?_
  rintro e w7 ⟨rfl, g7, hx7, hD7⟩
  have HA7 := Lib.hid (HA6.out.ext hx7)
  have HB7 := Lib.hid (HB6.out.ext hx7)
  have HX7 := Lib.hid (HX6.out.trans (hx7.imp (fun o h => show w.heap.size ≤ o from by subst h; omega)))
  have HD7 := Lib.hid hD7
  have HL := Lib.hid HLOST.out.2.1
  have HR := Lib.hid HLOST.out.2.2
  clear hx7 hD7 HX6 HD6 HA6 HB6 HLOST
  generalize lossD (downD E) kp' (tn' - 1) = E2 at *
  go_wp2_with fail
  refine (restart_any d g7 w7 E2 HD7.out HL.out.dn (by rw [HL.out.pl]; rfl)).mono ?_
  rintro e w8 ⟨rfl, g8, hx8, hD8⟩
  have HA8 := Lib.hid (HA7.out.ext hx8)
  have HB8 := Lib.hid (HB7.out.ext hx8)
  have HX8 := Lib.hid (HX7.out.trans (hx8.imp (fun o h => show w.heap.size ≤ o from by subst h; omega)))
  have HD8 := Lib.hid hD8
  clear hx8 hD8 HX7 HD7 HA7 HB7
  have hfin : ∃ q0 q1, SlotIs { E2 with down := false } (slotN ⟨#[99]⟩ 0) q0 ∧ SlotIs { E2 with down := false } (slotN ⟨#[99]⟩ 1) q1 ∧ ((si = 0 ∧ (newS q0 q1).1 = some ⟨2, 2, b⟩) ∨ (si = 303 ∧ ((newS q0 q1).1 = some ⟨2, 2, b⟩ ∨ (newS q0 q1).1 = some ⟨1, 1, a⟩))) := by
    have hce : (⟨seqO (newS p0 p1).1 + 1, Int.toNat 2, b⟩ : Ck) = ⟨2, 2, b⟩ := by rw [HNW.out]; rfl
    have hot : ∀ q, q ≠ slotN ⟨#[99]⟩ (newS p0 p1).2 → ({ E2 with down := false } : Dev).now.m q = D4.now.m q := HL.out.ot
    rcases HR.out with ⟨hi, hm⟩ | ⟨hi, l, hl, hm⟩ | ⟨hi, hm⟩
    · have hall : ∀ q, ({ E2 with down := false } : Dev).now.m q = D4.now.m q := fun q => by
        by_cases hq : q = slotN ⟨#[99]⟩ (newS p0 p1).2
        · rw [hq]; exact hm
        · exact hot q hq
      exact ⟨p0, p1, HS0.out.of (hall _), HS1.out.of (hall _), .inr ⟨hi, .inr HNW.out⟩⟩
    · obtain ⟨q0, q1, k0, k1, k2⟩ := slots_torn (D' := { E2 with down := false }) HS0.out HS1.out HCK.out rfl hl hm hot
      refine ⟨q0, q1, k0, k1, .inr ⟨hi, ?_⟩⟩
      rcases k2 with k2 | k2
      · exact .inl (by rw [k2, hce])
      · exact .inr (by rw [k2, HNW.out])
    · obtain ⟨q0, q1, k0, k1, k2⟩ := slots_new (D' := { E2 with down := false }) HS0.out HS1.out HCK.out rfl hm hot
      exact ⟨q0, q1, k0, k1, .inl ⟨hi, by rw [k2, hce]⟩⟩
  obtain ⟨q0, q1, k0, k1, k2⟩ := hfin
  have HK0 := Lib.hid k0
  have HK1 := Lib.hid k1
  clear k0 k1 HL HR HS0 HS1 HNW HCK HQ4
  have HLD := Lib.hid (load_any d g8 w8 { E2 with down := false } HD8.out rfl ⟨#[99]⟩ cN_ok q0 q1 HK0.out HK1.out)
  have hstrA : ∀ x, BytesAt g8 x (.slice Aa na ca) a → (convert 32 9 (.slice Aa na ca)).run Tryd.prog x = .ok (.string ⟨a.toArray⟩) x := fun x h => h.str
  have sz8 := HX8.out.size
  go_wp2_with fail
  refine HLD.out.mono ?_
  rintro e w9 ⟨g9, x, hx9, hst, rfl⟩
  have hsA := (HA8.out.ext hx9).str
  have hsB := (HB8.out.ext hx9).str
  have HX9 := Lib.hid (HX8.out.trans (hx9.imp (fun o h => show w.heap.size ≤ o by omega)))
  clear hx9 HX8 HD8 HA8 HB8 HLD hstrA
  rcases k2 with ⟨rfl, k2⟩ | ⟨rfl, k2 | k2⟩
  · rw [k2] at hst ⊢
    rw [show ((posO (some (⟨2, 2, b⟩ : Ck)) : Nat) : Int) = 2 from rfl, show (some (⟨2, 2, b⟩ : Ck)).isSome = true from rfl]
    obtain ⟨A9, rfl, hby⟩ := hst
    have hsx := hby.str
    dsimp only at hsx
    clear hby k2
    go_wp2_with fail
    all_goals (go_ret; exact ⟨rfl, HX9.out.finW⟩)
  · rw [k2] at hst ⊢
    rw [show ((posO (some (⟨2, 2, b⟩ : Ck)) : Nat) : Int) = 2 from rfl, show (some (⟨2, 2, b⟩ : Ck)).isSome = true from rfl]
    obtain ⟨A9, rfl, hby⟩ := hst
    have hsx := hby.str
    dsimp only at hsx
    clear hby k2
    go_wp2_with fail
    all_goals (go_ret; exact ⟨rfl, HX9.out.finW⟩)
  · rw [k2] at hst ⊢
    rw [show ((posO (some (⟨1, 1, a⟩ : Ck)) : Nat) : Int) = 1 from rfl, show (some (⟨1, 1, a⟩ : Ck)).isSome = true from rfl]
    obtain ⟨A9, rfl, hby⟩ := hst
    have hsx := hby.str
    dsimp only at hsx
    clear hby k2
    go_wp2_with fail
    all_goals (go_ret; exact ⟨rfl, HX9.out.finW⟩)


theorem lawEvery_nums (w : World) (Aa : Option Addr) (ca : Nat) (za : List Int) (a1 : za.length ≤ ca) (a2 : ca ≤ maxLen) (a3 : Aa = none → za.length = 0) (a4 : Rd 1 (ghW w) w Aa za.length (za.map (Value.int .u8))) (a5 : ∀ n ∈ za, (Lit.int .u8 n).wf = true) (Ab : Option Addr) (cb : Nat) (zb : List Int) (b1 : zb.length ≤ cb) (b2 : cb ≤ maxLen) (b3 : Ab = none → zb.length = 0) (b4 : Rd 1 (ghW w) w Ab zb.length (zb.map (Value.int .u8))) (b5 : ∀ n ∈ zb, (Lit.int .u8 n).wf = true)
    (fu kp tn : Int) (hf : (Lit.int .i64 fu).wf = true) (hk : (Lit.int .i64 kp).wf = true) (ht : (Lit.int .i64 tn).wf = true) :
    Calls Tryd.prog 6 #[.slice Aa za.length ca, .slice Ab zb.length cb, .int .i64 fu, .int .i64 kp, .int .i64 tn] w fun e w' => e = .returned (.bool true) ∧ Below w.heap.size w w' := by
  obtain ⟨a, ha, hA⟩ := BytesAt.ofNums a1 a2 a3 a4 a5
  obtain ⟨b, hb, hB⟩ := BytesAt.ofNums b1 b2 b3 b4 b5
  exact lawEvery_any w Aa Ab _ ca _ cb a b hA hB ha hb fu kp tn (wf_i64 hf).1 (wf_i64 hf).2 (wf_i64 hk).1 (wf_i64 hk).2 (wf_i64 ht).1 (wf_i64 ht).2

end Go.Proofs.YtcjkllmellampaaDoor
