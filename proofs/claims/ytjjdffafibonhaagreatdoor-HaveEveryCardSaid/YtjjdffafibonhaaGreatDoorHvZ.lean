/-
  The walk of HaveEvery.
-/
import Derived.Test.YtjjdffafibonhaaGreatDoorHvI
namespace Go.Proofs.YtjjdffafibonhaaGreatDoor
open Go.RowKit

def eA : List Hv := [⟨⟨#[47, 47, 100, 47, 97]⟩, 1, ⟨#[47, 47, 99, 47, 97]⟩⟩, ⟨⟨#[47, 47, 100, 47, 98]⟩, 1, ⟨#[47, 47, 99, 47, 98]⟩⟩]
def eB (m : Nat) : List Hv := [⟨⟨#[47, 47, 100, 47, 97]⟩, 2 + (m : Int), ⟨#[47, 47, 99, 47, 98]⟩⟩, ⟨⟨#[47, 47, 100, 47, 98]⟩, 2, ⟨#[47, 47, 99, 47, 97]⟩⟩]
theorem eA_put : putAll [] eA = eA := by kernel_rfl
theorem eB_put (m : Nat) : putAll eA (eB m) = eB m := by kernel_rfl
theorem eB_form : ∀ m, m < 9 → formB (eB m) = true := by decide +kernel
theorem eB_loc (m : Nat) : (eB m).map (·.loc) = [⟨#[47, 47, 99, 47, 98]⟩, ⟨#[47, 47, 99, 47, 97]⟩] := rfl
theorem eA_set : setI [] eA = 0 := by
  unfold setI
  rw [if_neg (by decide +kernel), if_neg (fun h => h (by rw [eA_put]; decide +kernel)), if_neg (by rw [eA_put]; decide +kernel)]
theorem eB_set (m : Nat) (hm : m < 9) : setI eA (eB m) = 0 := by
  unfold setI
  rw [if_neg (by rw [eB_form m hm]; decide), if_neg (fun h => h (by rw [eB_put, eB_loc]; decide +kernel)), if_neg (by rw [eB_put]; show ¬ 1024 < 2; decide)]
theorem eA_nu : ∀ h ∈ eA, h.num < 4611686018427387904 := by decide
theorem eB_nu (m : Nat) (hm : m < 9) : ∀ h ∈ eB m, h.num < 4611686018427387904 := fun h hh => by
  rcases List.mem_cons.1 hh with rfl | hh
  · show 2 + (m : Int) < _; omega
  · rw [List.mem_singleton] at hh; subst hh; show (2 : Int) < _; decide
theorem eAB (m : Nat) : eA ≠ eB m := fun e => by
  have := congrArg (fun l => (l.map (·.loc))) e
  revert this
  rw [show (eB m).map (·.loc) = [⟨#[47, 47, 99, 47, 98]⟩, ⟨#[47, 47, 99, 47, 97]⟩] from rfl]
  decide +kernel

set_option maxRecDepth 100000 in
set_option maxHeartbeats 6400000 in
theorem lawEvery_any (w : World) (fu kp tn n : Int) (hf0 : -9223372036854775808 ≤ fu) (hf1 : fu ≤ 9223372036854775807) (hk0 : -9223372036854775808 ≤ kp) (hk1 : kp ≤ 9223372036854775807) (ht0 : -9223372036854775808 ≤ tn) (ht1 : tn ≤ 9223372036854775807) (hn0 : -9223372036854775808 ≤ n) (hn1 : n ≤ 9223372036854775807) :
    Calls Tryz.prog 4 #[.int .i64 fu, .int .i64 kp, .int .i64 tn, .int .i64 n] w fun e w' => e = .returned (.bool true) ∧ Below w.heap.size w w' := by
  go_enter Tryz.func4, Tryz.ntmps4
  go_wp2_with fail
  refine (gnew (ghW w) w).mono ?_
  rintro e w1 ⟨d, g1, rfl, hd, hx1, hD1⟩
  have HX1 : Hid (Ext (fun o => w.heap.size ≤ o) (ghW w) w g1 w1) := hx1.imp (fun _ h => h.elim)
  have HD1 := Lib.hid hD1
  clear hx1 hD1
  go_wp2_with fail
  refine (qopen_new d g1 w1 HD1.out ⟨#[104]⟩ hN_ok).mono ?_
  rintro e w2 ⟨b, hb, rfl, g2, hx2, hS2⟩
  have hsz1 := HX1.out.size
  have HX2 := Lib.hid (HX1.out.trans (hx2.imp (fun o h => show w.heap.size ≤ o by omega)))
  have HS2 := Lib.hid hS2
  have hdl := HD1.out.lt
  have hbl : b < w2.heap.size := by
    obtain ⟨k, D, o0, o1, _, hQ⟩ := hS2
    exact hQ.hv.lt
  clear hx2 hS2 HX1 HD1
  have hx3 := Ext.lit (fun _ => False) g2 w2 (.cells (celH eA).toArray 32) (2 * 3)
  have hr3 := Rd.lit 3 g2 w2 (celH eA) 32 (0, 0) 2 rfl
  have HX3 := Lib.hid (HX2.out.trans (hx3.imp (fun o (h : False) => (h.elim : w.heap.size ≤ o))))
  have HS3 := Lib.hid (HS2.out.ext hx3 (fun h => h) (fun h => h))
  have HA3 := Lib.hid hr3
  have hsz3 := hx3.size
  have HE3 : Hid (w2.alloc (.cells #[.string ⟨#[47, 47, 100, 47, 97]⟩, .int .i64 1, .string ⟨#[47, 47, 99, 47, 97]⟩, .string ⟨#[47, 47, 100, 47, 98]⟩, .int .i64 1, .string ⟨#[47, 47, 99, 47, 98]⟩] 32) = w2.alloc (.cells (celH eA).toArray 32)) := rfl
  clear hx3 hr3 HX2 HS2
  generalize g2.lit w2.heap.size (2 * 3) = g3 at *
  obtain ⟨m, hm⟩ : ∃ m : Nat, foldI n 9 = (m : Int) := ⟨(foldI n 9).toNat, by have := (foldI_lt (v := n) (n := 9) (by decide)).1; omega⟩
  have hm2 : m < 9 := by have := (foldI_lt (v := n) (n := 9) (by decide)).2; omega
  have HM := Lib.hid hm
  clear hm
  go_wp2_with fail
  refine (fold_any n 9 _ hn0 hn1 (by omega)).mono ?_
  rintro e w' ⟨rfl, rfl⟩
  rw [HM.out]
  rw [HE3.out]
  generalize hw3 : w2.alloc (.cells (celH eA).toArray 32) = w3 at *
  clear hw3 HE3
  have hx4 := Ext.lit (fun _ => False) g3 w3 (.cells (celH (eB m)).toArray 32) (2 * 3)
  have hr4 := Rd.lit 3 g3 w3 (celH (eB m)) 32 (0, 0) 2 rfl
  have HX4 := Lib.hid (HX3.out.trans (hx4.imp (fun o (h : False) => (h.elim : w.heap.size ≤ o))))
  have HS4 := Lib.hid (HS3.out.ext hx4 (fun h => h) (fun h => h))
  have HA4 := Lib.hid (HA3.out.ext hx4)
  have HB4 := Lib.hid hr4
  have hsz4 := hx4.size
  have HE4 : Hid (w3.alloc (.cells #[.string ⟨#[47, 47, 100, 47, 97]⟩, .int .i64 (2 + (m : Int)), .string ⟨#[47, 47, 99, 47, 98]⟩, .string ⟨#[47, 47, 100, 47, 98]⟩, .int .i64 2, .string ⟨#[47, 47, 99, 47, 97]⟩] 32) = w3.alloc (.cells (celH (eB m)).toArray 32)) := rfl
  clear hx4 hr4 HX3 HS3 HA3
  generalize g3.lit w3.heap.size (2 * 3) = g4 at *
  go_wp2_with fail
  rw [HE4.out]
  generalize hw4 : w3.alloc (.cells (celH (eB m)).toArray 32) = w4 at *
  clear hw4 HE4
  refine (known_any g4 w4).mono ?_
  rintro e w5 ⟨rfl, g5, hx5⟩
  have hsz5 := hx5.size
  have HX5 := Lib.hid (HX4.out.trans (hx5.imp (fun o h => show w.heap.size ≤ o by omega)))
  have HS5 := Lib.hid (HS4.out.ext hx5 (by omega) (by omega))
  have HA5 := Lib.hid (HA4.out.ext hx5)
  have HB5 := Lib.hid (HB4.out.ext hx5)
  clear hx5 HX4 HS4 HA4 HB4
  have HQ5 := qset g5 w5 b d _ 0 [] HS5.out (by omega) _ 2 eA HA5.out (by decide) eA_nu
  rw [eA_set, setE, if_pos eA_set, eA_put] at HQ5
  have HQ6 := Lib.hid HQ5
  clear HQ5
  go_wp2_with fail
  refine HQ6.out.mono ?_
  rintro e w6 ⟨rfl, g6, hx6, hS6⟩
  have hsz6 := hx6.size
  have HX6 := Lib.hid (HX5.out.trans (hx6.imp (fun o h => show w.heap.size ≤ o by omega)))
  have HS6 := Lib.hid hS6.toG
  have HA6 := Lib.hid (HA5.out.ext hx6)
  have HB6 := Lib.hid (HB5.out.ext hx6)
  clear hx6 hS6 HX5 HS5 HA5 HB5 HQ6
  have hfb := foldI_lt (v := fu) (n := 8) (by omega)
  have hkb := foldI_lt (v := kp) (n := 6) (by omega)
  have htb := foldI_lt (v := tn) (n := 80) (by omega)
  obtain ⟨hfb0, hfb1⟩ := hfb
  obtain ⟨hkb0, hkb1⟩ := hkb
  obtain ⟨htb0, htb1⟩ := htb
  go_wp2_with fail
  refine (fold_any fu 8 w6 hf0 hf1 (by omega)).mono ?_
  rintro e w' ⟨rfl, rfl⟩
  generalize foldI fu 8 = F0 at *
  go_wp2_with fail
  refine (HS6.out.fuse (1 + F0) (by omega) (by omega)).mono ?_
  rintro e w7 ⟨rfl, g7, hx7, hS7⟩
  have hsz7 := hx7.size
  have HX7 := Lib.hid (HX6.out.trans (hx7.imp (fun o h => show w.heap.size ≤ o by subst h; omega)))
  have HA7 := Lib.hid (HA6.out.ext hx7)
  have HB7 := Lib.hid (HB6.out.ext hx7)
  have hq := fset hS7 (by omega) _ 2 (eB m) HB7.out (by show 2 ≤ 100000; decide) (eB_nu m hm2)
  rw [eB_set m hm2, setE, if_pos (eB_set m hm2), eB_put] at hq
  have HQ7 := Lib.hid hq
  clear hx7 hS7 HX6 HS6 HA6 HB6 hq
  go_wp2_with fail
  refine HQ7.out.mono ?_
  rintro e w8 ⟨j, g8, rfl, hx8, hor⟩
  have hsz8 := hx8.size
  have HX8 := Lib.hid (HX7.out.trans (hx8.imp (fun o h => show w.heap.size ≤ o by omega)))
  have HA8 := Lib.hid (HA7.out.ext hx8)
  have HB8 := Lib.hid (HB7.out.ext hx8)
  have hv : ∃ P : List Hv → Prop, HvV g8 w8 d ⟨#[104]⟩ 2 P ∧ ((j = 0 ∧ ∀ L, P L → L = eB m) ∨ (j = 303 ∧ ∀ L, P L → L = eA ∨ L = eB m)) := by
    rcases hor with ⟨rfl, F', hF', hg⟩ | ⟨rfl, hX⟩
    · exact ⟨_, hg.u.lost (by omega), .inl ⟨rfl, fun L h => h⟩⟩
    · exact ⟨_, hX.2.1, .inr ⟨rfl, fun L h => h⟩⟩
  obtain ⟨P, hV, hP⟩ := hv
  have HV8 := Lib.hid hV
  have HP := Lib.hid hP
  have hj : j = 0 ∨ j = 303 := hP.elim (fun h => .inl h.1) (fun h => .inr h.1)
  have HJ := Lib.hid hj
  clear hx8 hor hV hP hj HX7 HA7 HB7 HQ7
  go_wp2_with fail
  refine (fold_any kp 6 w8 hk0 hk1 (by omega)).mono ?_
  rintro e w' ⟨rfl, rfl⟩
  generalize foldI kp 6 = K0 at *
  go_wp2_with fail
  refine (fold_any tn 80 w8 ht0 ht1 (by omega)).mono ?_
  rintro e w' ⟨rfl, rfl⟩
  generalize foldI tn 80 = T0 at *
  go_wp2_with fail
  refine (HV8.out.lose K0 (T0 - 1) (by omega) (by omega)).mono ?_
  rintro e w9 ⟨rfl, g9, hx9, L, hL, hW9⟩
  have hsz9 := hx9.size
  have HX9 := Lib.hid (HX8.out.trans (hx9.imp (fun o h => show w.heap.size ≤ o by subst h; omega)))
  have HA9 := Lib.hid (HA8.out.ext hx9)
  have HB9 := Lib.hid (HB8.out.ext hx9)
  have HW9 := Lib.hid hW9
  have HL := Lib.hid hL
  clear hx9 hW9 hL HX8 HA8 HB8 HV8
  go_wp2_with fail
  refine HW9.out.restart.mono ?_
  rintro e w10 ⟨rfl, g10, hx10, hU10⟩
  have hsz10 := hx10.size
  have HX10 := Lib.hid (HX9.out.trans (hx10.imp (fun o h => show w.heap.size ≤ o by subst h; omega)))
  have HA10 := Lib.hid (HA9.out.ext hx10)
  have HB10 := Lib.hid (HB9.out.ext hx10)
  have HU10 := Lib.hid hU10
  clear hx10 hU10 HX9 HA9 HB9 HW9
  go_wp2_with fail
  refine HU10.out.openF.mono ?_
  rintro e w11 ⟨b2, hb2, rfl, g11, hx11, _, hS11⟩
  have hsz11 := hx11.size
  have HX11 := Lib.hid (HX10.out.trans (hx11.imp (fun o h => show w.heap.size ≤ o by omega)))
  have HA11 := Lib.hid (HA10.out.ext hx11)
  have HB11 := Lib.hid (HB10.out.ext hx11)
  obtain ⟨k, D, o0, o1, _, hQ11⟩ := hS11 rfl
  have HI := Lib.hid (his_any g11 w11 b2 d _ _ L false hQ11.hv _ 2 (eB m) HB11.out (by show 2 ≤ 1000000; decide))
  have HH11 := Lib.hid hQ11.hv
  clear hx11 hS11 hQ11 HX10 HA10 HB10 HU10
  go_wp2_with fail
  refine HI.out.mono ?_
  rintro e w12 ⟨v, rfl, hv, hb12⟩
  have HX12 := Lib.hid (HX11.out.below hb12)
  have hx12 := Ext.of_below (fun _ => False) g11 hb12
  cases v
  · have hLA : L = eA ∧ j = 303 := by
      rcases HP.out with ⟨hj0, h⟩ | ⟨hj0, h⟩
      · exact absurd (hv.2 (h L HL.out)) (by decide)
      · rcases h L HL.out with h | h
        · exact ⟨h, hj0⟩
        · exact absurd (hv.2 h) (by decide)
    obtain ⟨hLA, rfl⟩ := hLA
    have HI2 := Lib.hid (his_any g11 w12 b2 d _ _ L false (HH11.out.ext hx12 (fun h => h)) _ 2 eA (HA11.out.ext hx12) (by decide))
    have HLA := Lib.hid hLA
    clear hx12 hb12 hv hLA HI
    go_wp2_with fail
    refine HI2.out.mono ?_
    rintro e w13 ⟨v, rfl, hv, hb13⟩
    have hv1 := hv.2 HLA.out
    subst hv1
    have HX13 := Lib.hid (HX12.out.below hb13)
    clear hv hb13
    go_wp2_with fail
    go_ret
    exact ⟨rfl, HX13.out.finW⟩
  · clear hx12 hb12 hv
    rcases HJ.out with rfl | rfl
    · go_wp2_with fail
      go_ret
      exact ⟨rfl, HX12.out.finW⟩
    · go_wp2_with fail
      go_ret
      exact ⟨rfl, HX12.out.finW⟩

theorem lawEvery (w : World) (fu kp tn n : Int) (hf : (Lit.int .i64 fu).wf = true) (hk : (Lit.int .i64 kp).wf = true) (ht : (Lit.int .i64 tn).wf = true) (hn : (Lit.int .i64 n).wf = true) :
    Calls Tryz.prog 4 #[.int .i64 fu, .int .i64 kp, .int .i64 tn, .int .i64 n] w fun e w' => e = .returned (.bool true) ∧ Below w.heap.size w w' :=
  lawEvery_any w fu kp tn n (wf_i64 hf).1 (wf_i64 hf).2 (wf_i64 hk).1 (wf_i64 hk).2 (wf_i64 ht).1 (wf_i64 ht).2 (wf_i64 hn).1 (wf_i64 hn).2

end Go.Proofs.YtjjdffafibonhaaGreatDoor
