/-
  The walk of JournalEvery.
-/
import Derived.Test.YtopggjpaplhboaaLoss
import Derived.Test.YtopggjpaplhboaaOpenK
import Derived.Test.YtopggjpaplhboaaApp
namespace Go.Proofs.Ytopggjpaplhboaa
open Go.RowKit

theorem bytes_of_nums : ∀ (zs : List Int), (∀ n ∈ zs, (Lit.int .u8 n).wf = true) → ∃ l : List UInt8, l.length = zs.length ∧ zs.map (Value.int .u8) = bv l
  | [], _ => ⟨[], rfl, rfl⟩
  | z :: zs, h => by
    obtain ⟨l, h1, h2⟩ := bytes_of_nums zs (fun n hn => h n (List.mem_cons_of_mem _ hn))
    obtain ⟨x, hx⟩ := wf_u8 (h z (List.mem_cons_self ..))
    exact ⟨x :: l, by simp [h1], by simp [bv, u8v, hx] at h2 ⊢; exact h2⟩
theorem BytesAt.ofNums {w : World} {A : Option Addr} {c : Nat} {zs : List Int} (h1 : zs.length ≤ c) (h2 : c ≤ maxLen) (h3 : A = none → zs.length = 0) (h4 : Rd 1 (ghW w) w A zs.length (zs.map (Value.int .u8))) (h5 : ∀ n ∈ zs, (Lit.int .u8 n).wf = true) : ∃ l : List UInt8, l.length = zs.length ∧ BytesAt (ghW w) w (.slice A zs.length c) l := by
  obtain ⟨l, e1, e2⟩ := bytes_of_nums zs h5
  refine ⟨l, e1, A, c, by rw [e1], by omega, h2, fun h => by rw [e1]; exact h3 h, ?_⟩
  rw [e1, ← e2]; exact h4

set_option maxRecDepth 100000 in
set_option maxHeartbeats 6400000 in
theorem lawEvery_any (w : World) (Aa Ab : Option Addr) (na ca nb cb : Nat) (a b : List UInt8) (ha : BytesAt (ghW w) w (.slice Aa na ca) a) (hb : BytesAt (ghW w) w (.slice Ab nb cb) b) (hna : a.length = na) (hnb : b.length = nb) (fu kp tn : Int) (hf0 : -9223372036854775808 ≤ fu) (hf1 : fu ≤ 9223372036854775807) (hk0 : -9223372036854775808 ≤ kp) (hk1 : kp ≤ 9223372036854775807) (ht0 : -9223372036854775808 ≤ tn) (ht1 : tn ≤ 9223372036854775807) :
    Calls Try.prog 10 #[.slice Aa na ca, .slice Ab nb cb, .int .i64 fu, .int .i64 kp, .int .i64 tn] w fun e w' => e = .returned (.bool true) ∧ Below w.heap.size w w' := by
  have hcv := fun (w : World) (C : Array Value) (n c : Nat) => Lib.run_convert_bytes_const (P := Try.prog) w 32 5 C n c Try.underlying32 Try.underlying5
  have HA0 := Lib.hid ha
  have HB0 := Lib.hid hb
  have HNA := Lib.hid hna
  have HNB := Lib.hid hnb
  clear ha hb hna hnb
  by_cases h1 : 200 < na
  · go_enter Try.func10, Try.ntmps10
    go_wp2_with fail
    go_ret
    exact ⟨rfl, Below.refl _ _⟩
  by_cases h2 : 200 < nb
  · go_enter Try.func10, Try.ntmps10
    go_wp2_with fail
    go_ret
    exact ⟨rfl, Below.refl _ _⟩
  go_enter Try.func10, Try.ntmps10
  go_wp2_with fail
  refine (gnew (ghW w) w).mono ?_
  rintro e w1 ⟨d, g1, rfl, hd, hx1, hD1⟩
  have HX1 := Lib.hid hx1
  have HD1 := Lib.hid hD1
  have HA1 := Lib.hid (HA0.out.ext hx1)
  have HB1 := Lib.hid (HB0.out.ext hx1)
  clear hx1 hD1
  go_wp2_with fail
  refine (open_none d g1 w1 dev0 HD1.out ⟨#[106]⟩ (by decide) rfl rfl).mono ?_
  rintro e w2 ⟨j, g2, rfl, hj, hx2, hJ2⟩
  have hjw : w.heap.size ≤ j := Nat.le_trans HX1.out.size hj
  have HX2 : Hid (Ext (fun o => w.heap.size ≤ o) (ghW w) w g2 w2) := (HX1.out.trans hx2).imp (fun _ h => h.elim)
  have HJ2 := Lib.hid hJ2
  have HD2 := Lib.hid (HD1.out.ext hx2 (fun h => h))
  have HA2 := Lib.hid (HA1.out.ext hx2)
  have HB2 := Lib.hid (HB1.out.ext hx2)
  clear hx2 hJ2 HX1 HD1 HA1 HB1 hj
  go_wp2_with fail
  refine (known_any g2 w2).mono ?_
  rintro e w3 ⟨rfl, g3, hx3⟩
  have hjl := HJ2.out.lt
  have hdl := HD2.out.lt
  have HX3 := Lib.hid (HX2.out.trans (hx3.imp (fun o h => Nat.le_trans HX2.out.size h)))
  have HJ3 := Lib.hid (HJ2.out.ext hx3 (by omega))
  have HD3 := Lib.hid (HD2.out.ext hx3 (by omega))
  have HA3 := Lib.hid (HA2.out.ext hx3)
  have HB3 := Lib.hid (HB2.out.ext hx3)
  have HG3 : Hid (Good (jrn0 ⟨#[106]⟩) dev0 0 0) := Good.dev0 (by decide) 0
  clear hx3 HX2 HJ2 HD2 HA2 HB2 hjl hdl
  go_wp2_with fail
  refine (gappend_lit j d g3 w3 _ _ 0 0 HJ3.out HD3.out HG3.out (by omega) (by omega) [48] (1, 2) (by decide)).mono ?_
  have HG4 := Lib.hid (HG3.out.appJ [48])
  rw [show jappI (jrn0 ⟨#[106]⟩) [48] = 0 from by decide, show jappJ (jrn0 ⟨#[106]⟩) [48] = ⟨⟨#[106]⟩, 0, [], [[48]], 1, false, false⟩ from rfl]
  rw [show jappJ (jrn0 ⟨#[106]⟩) [48] = ⟨⟨#[106]⟩, 0, [], [[48]], 1, false, false⟩ from rfl] at HG4
  rintro e w4 ⟨rfl, hP⟩
  obtain ⟨g4, hx4, hJ4, hD4⟩ := hP
  have HA4 := Lib.hid (HA3.out.ext hx4)
  have HB4 := Lib.hid (HB3.out.ext hx4)
  have HX4 := Lib.hid (HX3.out.trans (hx4.imp (fun o h => show w.heap.size ≤ o from by rcases h with rfl | rfl <;> omega)))
  have HJ4 := Lib.hid hJ4
  have HD4 := Lib.hid hD4
  clear hx4 hJ4 hD4 HX3 HJ3 HD3 HA3 HB3
  go_wp2_with fail
  refine (gcommit j d g4 w4 _ _ 0 _ HJ4.out HD4.out HG4.out (by omega) (by omega)).mono ?_
  rw [show comR ⟨⟨#[106]⟩, 0, [], [[48]], 1, false, false⟩ = ⟨⟨#[106]⟩, 0, [[48]], [], 1, true, false⟩ from rfl]
  rintro e w5 ⟨rfl, D5, hP, hG5, _⟩
  obtain ⟨g5, hx5, hJ5, hD5⟩ := hP
  have HA5 := Lib.hid (HA4.out.ext hx5)
  have HB5 := Lib.hid (HB4.out.ext hx5)
  have HX5 := Lib.hid (HX4.out.trans (hx5.imp (fun o h => show w.heap.size ≤ o from by rcases h with rfl | rfl <;> omega)))
  have HJ5 := Lib.hid hJ5
  have HD5 := Lib.hid hD5
  have HG5 := Lib.hid hG5
  clear hx5 hJ5 hD5 hG5 HX4 HJ4 HD4 HA4 HB4
  have la := HNA.out
  have lb := HNB.out
  have ha5 := HG5.out.app0 a (by omega) (by simp) (by simp [lens]; omega)
  have HC5 : Hid (Calls Try.prog 20 #[.pointer (some ⟨j, 0, none⟩), .slice Aa na ca] w5 fun e w' => e = .returned (.int .i64 0) ∧ BothP j d g5 w5 ⟨⟨#[106]⟩, 0, [[48]], [a], 1 + a.length, true, false⟩ D5 w') := by
    have := gappend j d g5 w5 _ D5 0 _ HJ5.out HD5.out HG5.out (by omega) (by omega) Aa ca a (by rw [la]; exact HA5.out) (by omega)
    rw [ha5.1, ha5.2, la] at this
    rw [la]
    exact this
  have HG6 : Hid (Good ⟨⟨#[106]⟩, 0, [[48]], [a], 1 + a.length, true, false⟩ D5 0 (0 + 1 + 1)) := by
    have := HG5.out.appJ a
    rw [ha5.2] at this
    exact this
  clear ha5
  go_wp2_with fail
  refine HC5.out.mono ?_
  rintro e w6 ⟨rfl, hP⟩
  obtain ⟨g6, hx6, hJ6, hD6⟩ := hP
  have HA6 := Lib.hid (HA5.out.ext hx6)
  have HB6 := Lib.hid (HB5.out.ext hx6)
  have HX6 := Lib.hid (HX5.out.trans (hx6.imp (fun o h => show w.heap.size ≤ o from by rcases h with rfl | rfl <;> omega)))
  have HJ6 := Lib.hid hJ6
  have HD6 := Lib.hid hD6
  clear hx6 hJ6 hD6 HX5 HJ5 HD5 HA5 HB5 HC5
  have ha6 := HG6.out.app0 b (by omega) (by simp) (by simp [lens]; omega)
  have HC6 : Hid (Calls Try.prog 20 #[.pointer (some ⟨j, 0, none⟩), .slice Ab nb cb] w6 fun e w' => e = .returned (.int .i64 0) ∧ BothP j d g6 w6 ⟨⟨#[106]⟩, 0, [[48]], [a, b], 1 + a.length + b.length, true, false⟩ D5 w') := by
    have := gappend j d g6 w6 _ D5 0 _ HJ6.out HD6.out HG6.out (by omega) (by omega) Ab cb b (by rw [lb]; exact HB6.out) (by omega)
    rw [ha6.1, ha6.2, lb] at this
    rw [lb]
    exact this
  have HG7 : Hid (Good ⟨⟨#[106]⟩, 0, [[48]], [a, b], 1 + a.length + b.length, true, false⟩ D5 0 (0 + 1 + 1 + 1)) := by
    have := HG6.out.appJ b
    rw [ha6.2] at this
    exact this
  clear ha6 la lb
  go_wp2_with fail
  refine HC6.out.mono ?_
  rintro e w7 ⟨rfl, hP⟩
  obtain ⟨g7, hx7, hJ7, hD7⟩ := hP
  have HA7 := Lib.hid (HA6.out.ext hx7)
  have HB7 := Lib.hid (HB6.out.ext hx7)
  have HX7 := Lib.hid (HX6.out.trans (hx7.imp (fun o h => show w.heap.size ≤ o from by rcases h with rfl | rfl <;> omega)))
  have HJ7 := Lib.hid hJ7
  have HD7 := Lib.hid hD7
  clear hx7 hJ7 hD7 HX6 HJ6 HD6 HA6 HB6 HC6
  generalize hK : (⟨⟨#[106]⟩, 0, [[48]], [a, b], 1 + a.length + b.length, true, false⟩ : Jrn) = K at *
  have HK := Lib.hid hK
  clear hK
  go_wp2_with fail
  have hfb := foldI_lt (v := fu) (n := 8) (by omega)
  have hkb := foldI_lt (v := kp) (n := 6) (by omega)
  have htb := foldI_lt (v := tn) (n := 60) (by omega)
  refine (fold_any fu 8 w7 hf0 hf1 (by omega)).mono ?_
  rintro e w' ⟨rfl, rfl⟩
  obtain ⟨hfb0, hfb1⟩ := hfb
  obtain ⟨hkb0, hkb1⟩ := hkb
  obtain ⟨htb0, htb1⟩ := htb
  generalize foldI fu 8 = F0 at *
  go_wp2_with fail
  refine (fuse_any d g7 w7 D5 HD7.out (1 + F0) (by omega) (by omega)).mono ?_
  rintro e w8 ⟨rfl, g8, hx8, hD8⟩
  have hnjd := HJ7.out.ne_dev HD7.out
  have HA8 := Lib.hid (HA7.out.ext hx8)
  have HB8 := Lib.hid (HB7.out.ext hx8)
  have HX8 := Lib.hid (HX7.out.trans (hx8.imp (fun o h => show w.heap.size ≤ o from by subst h; omega)))
  have HJ8 := Lib.hid (HJ7.out.ext hx8 hnjd)
  have HD8 := Lib.hid hD8
  have hlen := HD7.out.len
  have hKw : K.whole = true := by rw [← HK.out]
  have hKp : K.pend ≠ [] := by rw [← HK.out]; simp
  have hfus := HG7.out.fused (by omega) hKw hKp (1 + F0) (by omega) j d
  have hlost := HG7.out.lost (by omega) (by omega) hKw hKp (1 + F0) (by omega) j d (foldI kp 6) (foldI tn 60 - 1) hkb0 hlen
  have HCM : Hid (Calls Try.prog 21 #[.pointer (some ⟨j, 0, none⟩)] w8 fun e w' => e = .returned (.int .i64 (comI K j d { D5 with fuse := 1 + F0 })) ∧ BothP j d g8 w8 (comJ K j d { D5 with fuse := 1 + F0 }) (comD K j d { D5 with fuse := 1 + F0 }) w') := commit_any j d g8 w8 K { D5 with fuse := 1 + F0 } HJ8.out HD8.out (HG7.out.jok (by omega)) hfus.1
  have HLOST := Lib.hid hlost
  clear hx8 hD8 HX7 HJ7 HD7 HA7 HB7 hfus hlost hlen hKw hKp hfb0 hfb1
  generalize comI K j d { D5 with fuse := 1 + F0 } = ci at *
  generalize comD K j d { D5 with fuse := 1 + F0 } = E at *
  generalize comJ K j d { D5 with fuse := 1 + F0 } = K' at *
  go_wp2_with fail
  refine HCM.out.mono ?_
  rintro e w9 ⟨rfl, hP⟩
  obtain ⟨g9, hx9, hJ9, hD9⟩ := hP
  have HA9 := Lib.hid (HA8.out.ext hx9)
  have HB9 := Lib.hid (HB8.out.ext hx9)
  have HX9 := Lib.hid (HX8.out.trans (hx9.imp (fun o h => show w.heap.size ≤ o from by rcases h with rfl | rfl <;> omega)))
  have HD9 := Lib.hid hD9
  clear hx9 hJ9 hD9 HX8 HJ8 HD8 HA8 HB8 HCM
  obtain ⟨hci, hfit, k, t, hl, hck⟩ := HLOST.out
  have HFIT := Lib.hid hfit
  have HL := Lib.hid hl
  have HCK := Lib.hid hck
  have HCI := Lib.hid hci
  clear hci hfit hl hck HLOST
  go_wp2_with fail
  refine (fold_any kp 6 w9 hk0 hk1 (by omega)).mono ?_
  rintro e w' ⟨rfl, rfl⟩
  go_wp2_with fail
  refine (fold_any tn 60 w9 ht0 ht1 (by omega)).mono ?_
  rintro e w' ⟨rfl, rfl⟩
  generalize foldI kp 6 = kp' at *
  generalize foldI tn 60 = tn' at *
  go_wp2_with fail
  refine (lose_any d g9 w9 E HD9.out HFIT.out kp' (tn' - 1) (by omega) (by omega)).mono ?_
  rintro e w10 ⟨rfl, g10, hx10, hD10⟩
  have HA10 := Lib.hid (HA9.out.ext hx10)
  have HB10 := Lib.hid (HB9.out.ext hx10)
  have HX10 := Lib.hid (HX9.out.trans (hx10.imp (fun o h => show w.heap.size ≤ o from by subst h; omega)))
  have HD10 := Lib.hid hD10
  clear hx10 hD10 HX9 HD9 HA9 HB9
  generalize lossD (downD E) kp' (tn' - 1) = E2 at *
  go_wp2_with fail
  refine (restart_any d g10 w10 E2 HD10.out HL.out.dn HL.out.pl).mono ?_
  rintro e w11 ⟨rfl, g11, hx11, hD11⟩
  have HA11 := Lib.hid (HA10.out.ext hx11)
  have HB11 := Lib.hid (HB10.out.ext hx11)
  have HX11 := Lib.hid (HX10.out.trans (hx11.imp (fun o h => show w.heap.size ≤ o from by subst h; omega)))
  have HD11 := Lib.hid hD11
  clear hx11 hD11 HX10 HD10 HA10 HB10
  have hfile := HL.out.file
  have hle := HL.out.le
  rw [← HK.out] at hfile hle
  simp only [Int.toNat_zero] at hfile
  have hle2 : k ≤ 2 := hle
  have hck2 : ci = 0 → k = 2 := fun h => by
    have := HCK.out h
    rw [← HK.out] at this
    exact this
  have hbl := HD11.out.len _ _ hfile
  have lla := HNA.out
  have llb := HNB.out
  have hrs : ∀ r ∈ [[48]] ++ [a, b].take k, r.length ≤ 65536 := by
    intro r hr
    rcases List.mem_append.1 hr with hr | hr
    · simp at hr; subst hr; decide
    · have := List.mem_of_mem_take hr
      simp at this
      rcases this with rfl | rfl <;> omega
  have hcl : ([[48]] ++ [a, b].take k).length ≤ 3 := by simp; omega
  have hls : lens ([[48]] ++ [a, b].take k) ≤ 1000000000 := by
    rw [lens_append]
    have := lens_take [a, b] k
    simp only [lens, List.length_cons, List.length_nil] at this ⊢
    omega
  have HOP := Lib.hid (open_some d g11 w11 _ HD11.out ⟨#[106]⟩ (by decide) rfl 0 (by omega) ([[48]] ++ [a, b].take k) t hfile HL.out.torn hrs (by omega) hls (by omega))
  have HRS := Lib.hid hrs
  clear hfile hle hbl lla llb hrs hls hcl HL
  go_wp2_with fail
  refine HOP.out.mono ?_
  rintro e w12 ⟨j2, g12, rfl, hj2, hx12, hJ12⟩
  have hs11 := HX11.out.size
  have HA12 := Lib.hid (HA11.out.ext hx12)
  have HB12 := Lib.hid (HB11.out.ext hx12)
  have HX12 := Lib.hid (HX11.out.trans (hx12.imp (fun o h => show w.heap.size ≤ o from by subst h; omega)))
  have HJ12 := Lib.hid hJ12
  clear hx12 hJ12 HX11 HD11 HA11 HB11 HOP hj2 hs11
  generalize t.isEmpty = te at *
  rcases (show k = 0 ∨ k = 1 ∨ k = 2 by omega) with rfl | rfl | rfl
  · obtain rfl : ci = 303 := by
      rcases HCI.out with h | h
      · have := hck2 h; omega
      · exact h
    clear hck2 HCI HCK
    have HJ13 : Hid (JAt g12 w12 j2 d (recJ ⟨#[106]⟩ 0 [[48]] te)) := HJ12.out
    have HR13 : Hid (∀ r ∈ ([[48]] : List (List UInt8)), r.length ≤ 65536) := HRS.out
    clear HJ12 HRS
    go_wp2_with fail
    refine (jend_any j2 d g12 w12 (recJ ⟨#[106]⟩ 0 [[48]] te) HJ13.out (Int.le_refl _) (by simp [recJ]) (by simp [recJ])).mono ?_
    rw [show (recJ ⟨#[106]⟩ 0 [[48]] te).start + ((recJ ⟨#[106]⟩ 0 [[48]] te).recs.length : Int) = 1 from rfl]
    rintro e w13 ⟨rfl, n13, rfl⟩
    have hx13 : Ext (fun _ => False) g12 w12 g12 (w12.drewN n13) := (Ext.refl _ _ _).drewN _
    have HX13 := Lib.hid (HX12.out.trans (hx13.imp (fun _ h => h.elim)))
    have HJ14 := Lib.hid (HJ13.out.ext hx13 (fun h => h))
    have HA13 := Lib.hid (HA12.out.ext hx13)
    have HB13 := Lib.hid (HB12.out.ext hx13)
    clear hx13 HX12 HJ13 HA12 HB12
    generalize w12.drewN n13 = w13 at *
    go_wp2_with fail
    refine (get_any j2 d g12 w13 (recJ ⟨#[106]⟩ 0 [[48]] te) HJ14.out 0 (Int.le_refl _) (by simp [recJ]) (by simp [recJ]) HR13.out (by decide) (by decide)).mono ?_
    rw [show getR (recJ ⟨#[106]⟩ 0 [[48]] te) 0 = some [48] from rfl]
    rintro e w14 ⟨Ax, cx, g14, rfl, hx14, hBx⟩
    have HX14 := Lib.hid (HX13.out.trans (hx14.imp (fun _ h => h.elim)))
    have HJ15 := Lib.hid (HJ14.out.ext hx14 (fun h => h))
    have HA14 := Lib.hid (HA13.out.ext hx14)
    have HB14 := Lib.hid (HB13.out.ext hx14)
    have HBX14 := Lib.hid hBx
    clear hx14 hBx HX13 HJ14 HA13 HB13
    go_wp2_with fail
    refine (get_any j2 d g14 w14 (recJ ⟨#[106]⟩ 0 [[48]] te) HJ15.out 1 (Int.le_refl _) (by simp [recJ]) (by simp [recJ]) HR13.out (by decide) (by decide)).mono ?_
    rw [show getR (recJ ⟨#[106]⟩ 0 [[48]] te) 1 = none from rfl]
    rintro e ww ⟨rfl, nn, rfl⟩
    have hxx : Ext (fun _ => False) g14 w14 g14 (w14.drewN nn) := (Ext.refl _ _ _).drewN _
    have HX15 := Lib.hid (HX14.out.trans (hxx.imp (fun _ h => h.elim)))
    have HJ16 := Lib.hid (HJ15.out.ext hxx (fun h => h))
    have HA15 := Lib.hid (HA14.out.ext hxx)
    have HB15 := Lib.hid (HB14.out.ext hxx)
    have HBX15x := Lib.hid (HBX14.out.ext hxx)
    clear hxx HX14 HJ15 HA14 HB14 HBX14
    generalize w14.drewN nn = w15 at *
    go_wp2_with fail
    refine (get_any j2 d g14 w15 (recJ ⟨#[106]⟩ 0 [[48]] te) HJ16.out 2 (Int.le_refl _) (by simp [recJ]) (by simp [recJ]) HR13.out (by decide) (by decide)).mono ?_
    rw [show getR (recJ ⟨#[106]⟩ 0 [[48]] te) 2 = none from rfl]
    rintro e ww ⟨rfl, nn, rfl⟩
    have hxx : Ext (fun _ => False) g14 w15 g14 (w15.drewN nn) := (Ext.refl _ _ _).drewN _
    have HX16 := Lib.hid (HX15.out.trans (hxx.imp (fun _ h => h.elim)))
    have HJ17 := Lib.hid (HJ16.out.ext hxx (fun h => h))
    have HA16 := Lib.hid (HA15.out.ext hxx)
    have HB16 := Lib.hid (HB15.out.ext hxx)
    have HBX16x := Lib.hid (HBX15x.out.ext hxx)
    clear hxx HX15 HJ16 HA15 HB15 HBX15x
    generalize w15.drewN nn = w16 at *
    go_wp2_with fail
    refine (jstart_any j2 d g14 w16 (recJ ⟨#[106]⟩ 0 [[48]] te) HJ17.out).mono ?_
    rw [show (recJ ⟨#[106]⟩ 0 [[48]] te).start = (0 : Int) from rfl]
    rintro e w' ⟨rfl, rfl⟩
    have hsx := HBX16x.out.str
    change (convert 32 9 (.slice Ax 1 cx)).run Try.prog _ = _ at hsx
    have hsa := HA16.out.str
    have hsb := HB16.out.str
    (try rw [HNA.out])
    (try rw [HNB.out])
    go_wp2_with fail
    go_ret
    exact ⟨rfl, HX16.out.finW⟩
  · obtain rfl : ci = 303 := by
      rcases HCI.out with h | h
      · have := hck2 h; omega
      · exact h
    clear hck2 HCI HCK
    have HJ13 : Hid (JAt g12 w12 j2 d (recJ ⟨#[106]⟩ 0 [[48], a] te)) := HJ12.out
    have HR13 : Hid (∀ r ∈ ([[48], a] : List (List UInt8)), r.length ≤ 65536) := HRS.out
    clear HJ12 HRS
    go_wp2_with fail
    refine (jend_any j2 d g12 w12 (recJ ⟨#[106]⟩ 0 [[48], a] te) HJ13.out (Int.le_refl _) (by simp [recJ]) (by simp [recJ])).mono ?_
    rw [show (recJ ⟨#[106]⟩ 0 [[48], a] te).start + ((recJ ⟨#[106]⟩ 0 [[48], a] te).recs.length : Int) = 2 from rfl]
    rintro e w13 ⟨rfl, n13, rfl⟩
    have hx13 : Ext (fun _ => False) g12 w12 g12 (w12.drewN n13) := (Ext.refl _ _ _).drewN _
    have HX13 := Lib.hid (HX12.out.trans (hx13.imp (fun _ h => h.elim)))
    have HJ14 := Lib.hid (HJ13.out.ext hx13 (fun h => h))
    have HA13 := Lib.hid (HA12.out.ext hx13)
    have HB13 := Lib.hid (HB12.out.ext hx13)
    clear hx13 HX12 HJ13 HA12 HB12
    generalize w12.drewN n13 = w13 at *
    go_wp2_with fail
    refine (get_any j2 d g12 w13 (recJ ⟨#[106]⟩ 0 [[48], a] te) HJ14.out 0 (Int.le_refl _) (by simp [recJ]) (by simp [recJ]) HR13.out (by decide) (by decide)).mono ?_
    rw [show getR (recJ ⟨#[106]⟩ 0 [[48], a] te) 0 = some [48] from rfl]
    rintro e w14 ⟨Ax, cx, g14, rfl, hx14, hBx⟩
    have HX14 := Lib.hid (HX13.out.trans (hx14.imp (fun _ h => h.elim)))
    have HJ15 := Lib.hid (HJ14.out.ext hx14 (fun h => h))
    have HA14 := Lib.hid (HA13.out.ext hx14)
    have HB14 := Lib.hid (HB13.out.ext hx14)
    have HBX14 := Lib.hid hBx
    clear hx14 hBx HX13 HJ14 HA13 HB13
    go_wp2_with fail
    refine (get_any j2 d g14 w14 (recJ ⟨#[106]⟩ 0 [[48], a] te) HJ15.out 1 (Int.le_refl _) (by simp [recJ]) (by simp [recJ]) HR13.out (by decide) (by decide)).mono ?_
    rw [show getR (recJ ⟨#[106]⟩ 0 [[48], a] te) 1 = some a from rfl]
    rintro e w15 ⟨Ap, cp, g15, rfl, hxx, hBx⟩
    have HX15 := Lib.hid (HX14.out.trans (hxx.imp (fun _ h => h.elim)))
    have HJ16 := Lib.hid (HJ15.out.ext hxx (fun h => h))
    have HA15 := Lib.hid (HA14.out.ext hxx)
    have HB15 := Lib.hid (HB14.out.ext hxx)
    have HBX15x := Lib.hid (HBX14.out.ext hxx)
    have HBX15p := Lib.hid hBx
    clear hxx HX14 HJ15 HA14 HB14 HBX14 hBx
    go_wp2_with fail
    refine (get_any j2 d g15 w15 (recJ ⟨#[106]⟩ 0 [[48], a] te) HJ16.out 2 (Int.le_refl _) (by simp [recJ]) (by simp [recJ]) HR13.out (by decide) (by decide)).mono ?_
    rw [show getR (recJ ⟨#[106]⟩ 0 [[48], a] te) 2 = none from rfl]
    rintro e ww ⟨rfl, nn, rfl⟩
    have hxx : Ext (fun _ => False) g15 w15 g15 (w15.drewN nn) := (Ext.refl _ _ _).drewN _
    have HX16 := Lib.hid (HX15.out.trans (hxx.imp (fun _ h => h.elim)))
    have HJ17 := Lib.hid (HJ16.out.ext hxx (fun h => h))
    have HA16 := Lib.hid (HA15.out.ext hxx)
    have HB16 := Lib.hid (HB15.out.ext hxx)
    have HBX16x := Lib.hid (HBX15x.out.ext hxx)
    have HBX16p := Lib.hid (HBX15p.out.ext hxx)
    clear hxx HX15 HJ16 HA15 HB15 HBX15x HBX15p
    generalize w15.drewN nn = w16 at *
    go_wp2_with fail
    refine (jstart_any j2 d g15 w16 (recJ ⟨#[106]⟩ 0 [[48], a] te) HJ17.out).mono ?_
    rw [show (recJ ⟨#[106]⟩ 0 [[48], a] te).start = (0 : Int) from rfl]
    rintro e w' ⟨rfl, rfl⟩
    have hsx := HBX16x.out.str
    have hsp := HBX16p.out.str
    change (convert 32 9 (.slice Ax 1 cx)).run Try.prog _ = _ at hsx
    have hsa := HA16.out.str
    have hsb := HB16.out.str
    rw [HNA.out] at hsp
    (try rw [HNA.out])
    (try rw [HNB.out])
    go_wp2_with fail
    go_ret
    exact ⟨rfl, HX16.out.finW⟩
  · rcases HCI.out with rfl | rfl
    · clear hck2 HCI HCK
      have HJ13 : Hid (JAt g12 w12 j2 d (recJ ⟨#[106]⟩ 0 [[48], a, b] te)) := HJ12.out
      have HR13 : Hid (∀ r ∈ ([[48], a, b] : List (List UInt8)), r.length ≤ 65536) := HRS.out
      clear HJ12 HRS
      go_wp2_with fail
      refine (jend_any j2 d g12 w12 (recJ ⟨#[106]⟩ 0 [[48], a, b] te) HJ13.out (Int.le_refl _) (by simp [recJ]) (by simp [recJ])).mono ?_
      rw [show (recJ ⟨#[106]⟩ 0 [[48], a, b] te).start + ((recJ ⟨#[106]⟩ 0 [[48], a, b] te).recs.length : Int) = 3 from rfl]
      rintro e w13 ⟨rfl, n13, rfl⟩
      have hx13 : Ext (fun _ => False) g12 w12 g12 (w12.drewN n13) := (Ext.refl _ _ _).drewN _
      have HX13 := Lib.hid (HX12.out.trans (hx13.imp (fun _ h => h.elim)))
      have HJ14 := Lib.hid (HJ13.out.ext hx13 (fun h => h))
      have HA13 := Lib.hid (HA12.out.ext hx13)
      have HB13 := Lib.hid (HB12.out.ext hx13)
      clear hx13 HX12 HJ13 HA12 HB12
      generalize w12.drewN n13 = w13 at *
      go_wp2_with fail
      refine (get_any j2 d g12 w13 (recJ ⟨#[106]⟩ 0 [[48], a, b] te) HJ14.out 0 (Int.le_refl _) (by simp [recJ]) (by simp [recJ]) HR13.out (by decide) (by decide)).mono ?_
      rw [show getR (recJ ⟨#[106]⟩ 0 [[48], a, b] te) 0 = some [48] from rfl]
      rintro e w14 ⟨Ax, cx, g14, rfl, hx14, hBx⟩
      have HX14 := Lib.hid (HX13.out.trans (hx14.imp (fun _ h => h.elim)))
      have HJ15 := Lib.hid (HJ14.out.ext hx14 (fun h => h))
      have HA14 := Lib.hid (HA13.out.ext hx14)
      have HB14 := Lib.hid (HB13.out.ext hx14)
      have HBX14 := Lib.hid hBx
      clear hx14 hBx HX13 HJ14 HA13 HB13
      go_wp2_with fail
      refine (get_any j2 d g14 w14 (recJ ⟨#[106]⟩ 0 [[48], a, b] te) HJ15.out 1 (Int.le_refl _) (by simp [recJ]) (by simp [recJ]) HR13.out (by decide) (by decide)).mono ?_
      rw [show getR (recJ ⟨#[106]⟩ 0 [[48], a, b] te) 1 = some a from rfl]
      rintro e w15 ⟨Ap, cp, g15, rfl, hxx, hBx⟩
      have HX15 := Lib.hid (HX14.out.trans (hxx.imp (fun _ h => h.elim)))
      have HJ16 := Lib.hid (HJ15.out.ext hxx (fun h => h))
      have HA15 := Lib.hid (HA14.out.ext hxx)
      have HB15 := Lib.hid (HB14.out.ext hxx)
      have HBX15x := Lib.hid (HBX14.out.ext hxx)
      have HBX15p := Lib.hid hBx
      clear hxx HX14 HJ15 HA14 HB14 HBX14 hBx
      go_wp2_with fail
      refine (get_any j2 d g15 w15 (recJ ⟨#[106]⟩ 0 [[48], a, b] te) HJ16.out 2 (Int.le_refl _) (by simp [recJ]) (by simp [recJ]) HR13.out (by decide) (by decide)).mono ?_
      rw [show getR (recJ ⟨#[106]⟩ 0 [[48], a, b] te) 2 = some b from rfl]
      rintro e w16 ⟨Aq, cq, g16, rfl, hxx, hBx⟩
      have HX16 := Lib.hid (HX15.out.trans (hxx.imp (fun _ h => h.elim)))
      have HJ17 := Lib.hid (HJ16.out.ext hxx (fun h => h))
      have HA16 := Lib.hid (HA15.out.ext hxx)
      have HB16 := Lib.hid (HB15.out.ext hxx)
      have HBX16x := Lib.hid (HBX15x.out.ext hxx)
      have HBX16p := Lib.hid (HBX15p.out.ext hxx)
      have HBX16q := Lib.hid hBx
      clear hxx HX15 HJ16 HA15 HB15 HBX15x HBX15p hBx
      go_wp2_with fail
      refine (jstart_any j2 d g16 w16 (recJ ⟨#[106]⟩ 0 [[48], a, b] te) HJ17.out).mono ?_
      rw [show (recJ ⟨#[106]⟩ 0 [[48], a, b] te).start = (0 : Int) from rfl]
      rintro e w' ⟨rfl, rfl⟩
      have hsx := HBX16x.out.str
      have hsp := HBX16p.out.str
      have hsq := HBX16q.out.str
      change (convert 32 9 (.slice Ax 1 cx)).run Try.prog _ = _ at hsx
      have hsa := HA16.out.str
      have hsb := HB16.out.str
      rw [HNA.out] at hsp
      rw [HNB.out] at hsq
      (try rw [HNA.out])
      (try rw [HNB.out])
      go_wp2_with fail
      go_ret
      exact ⟨rfl, HX16.out.finW⟩
    · clear hck2 HCI HCK
      have HJ13 : Hid (JAt g12 w12 j2 d (recJ ⟨#[106]⟩ 0 [[48], a, b] te)) := HJ12.out
      have HR13 : Hid (∀ r ∈ ([[48], a, b] : List (List UInt8)), r.length ≤ 65536) := HRS.out
      clear HJ12 HRS
      go_wp2_with fail
      refine (jend_any j2 d g12 w12 (recJ ⟨#[106]⟩ 0 [[48], a, b] te) HJ13.out (Int.le_refl _) (by simp [recJ]) (by simp [recJ])).mono ?_
      rw [show (recJ ⟨#[106]⟩ 0 [[48], a, b] te).start + ((recJ ⟨#[106]⟩ 0 [[48], a, b] te).recs.length : Int) = 3 from rfl]
      rintro e w13 ⟨rfl, n13, rfl⟩
      have hx13 : Ext (fun _ => False) g12 w12 g12 (w12.drewN n13) := (Ext.refl _ _ _).drewN _
      have HX13 := Lib.hid (HX12.out.trans (hx13.imp (fun _ h => h.elim)))
      have HJ14 := Lib.hid (HJ13.out.ext hx13 (fun h => h))
      have HA13 := Lib.hid (HA12.out.ext hx13)
      have HB13 := Lib.hid (HB12.out.ext hx13)
      clear hx13 HX12 HJ13 HA12 HB12
      generalize w12.drewN n13 = w13 at *
      go_wp2_with fail
      refine (get_any j2 d g12 w13 (recJ ⟨#[106]⟩ 0 [[48], a, b] te) HJ14.out 0 (Int.le_refl _) (by simp [recJ]) (by simp [recJ]) HR13.out (by decide) (by decide)).mono ?_
      rw [show getR (recJ ⟨#[106]⟩ 0 [[48], a, b] te) 0 = some [48] from rfl]
      rintro e w14 ⟨Ax, cx, g14, rfl, hx14, hBx⟩
      have HX14 := Lib.hid (HX13.out.trans (hx14.imp (fun _ h => h.elim)))
      have HJ15 := Lib.hid (HJ14.out.ext hx14 (fun h => h))
      have HA14 := Lib.hid (HA13.out.ext hx14)
      have HB14 := Lib.hid (HB13.out.ext hx14)
      have HBX14 := Lib.hid hBx
      clear hx14 hBx HX13 HJ14 HA13 HB13
      go_wp2_with fail
      refine (get_any j2 d g14 w14 (recJ ⟨#[106]⟩ 0 [[48], a, b] te) HJ15.out 1 (Int.le_refl _) (by simp [recJ]) (by simp [recJ]) HR13.out (by decide) (by decide)).mono ?_
      rw [show getR (recJ ⟨#[106]⟩ 0 [[48], a, b] te) 1 = some a from rfl]
      rintro e w15 ⟨Ap, cp, g15, rfl, hxx, hBx⟩
      have HX15 := Lib.hid (HX14.out.trans (hxx.imp (fun _ h => h.elim)))
      have HJ16 := Lib.hid (HJ15.out.ext hxx (fun h => h))
      have HA15 := Lib.hid (HA14.out.ext hxx)
      have HB15 := Lib.hid (HB14.out.ext hxx)
      have HBX15x := Lib.hid (HBX14.out.ext hxx)
      have HBX15p := Lib.hid hBx
      clear hxx HX14 HJ15 HA14 HB14 HBX14 hBx
      go_wp2_with fail
      refine (get_any j2 d g15 w15 (recJ ⟨#[106]⟩ 0 [[48], a, b] te) HJ16.out 2 (Int.le_refl _) (by simp [recJ]) (by simp [recJ]) HR13.out (by decide) (by decide)).mono ?_
      rw [show getR (recJ ⟨#[106]⟩ 0 [[48], a, b] te) 2 = some b from rfl]
      rintro e w16 ⟨Aq, cq, g16, rfl, hxx, hBx⟩
      have HX16 := Lib.hid (HX15.out.trans (hxx.imp (fun _ h => h.elim)))
      have HJ17 := Lib.hid (HJ16.out.ext hxx (fun h => h))
      have HA16 := Lib.hid (HA15.out.ext hxx)
      have HB16 := Lib.hid (HB15.out.ext hxx)
      have HBX16x := Lib.hid (HBX15x.out.ext hxx)
      have HBX16p := Lib.hid (HBX15p.out.ext hxx)
      have HBX16q := Lib.hid hBx
      clear hxx HX15 HJ16 HA15 HB15 HBX15x HBX15p hBx
      go_wp2_with fail
      refine (jstart_any j2 d g16 w16 (recJ ⟨#[106]⟩ 0 [[48], a, b] te) HJ17.out).mono ?_
      rw [show (recJ ⟨#[106]⟩ 0 [[48], a, b] te).start = (0 : Int) from rfl]
      rintro e w' ⟨rfl, rfl⟩
      have hsx := HBX16x.out.str
      have hsp := HBX16p.out.str
      have hsq := HBX16q.out.str
      change (convert 32 9 (.slice Ax 1 cx)).run Try.prog _ = _ at hsx
      have hsa := HA16.out.str
      have hsb := HB16.out.str
      rw [HNA.out] at hsp
      rw [HNB.out] at hsq
      (try rw [HNA.out])
      (try rw [HNB.out])
      go_wp2_with fail
      go_ret
      exact ⟨rfl, HX16.out.finW⟩

end Go.Proofs.Ytopggjpaplhboaa
