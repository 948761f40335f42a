/-
  The walk of CheckpointNames.
-/
import Derived.Test.YtcjkllmellampaaDoorCkR
import Derived.Test.YtcjkllmellampaaDoorCkKn
import Derived.Test.YtcjkllmellampaaDoorOpenK
import Derived.Test.YtcjkllmellampaaDoorPlay
namespace Go.Proofs.YtcjkllmellampaaDoor
open Go.RowKit

/-- The answers to names. -/
def wI (a : ByteArray) (x : Int) : Int := if nmB false 40 a = true then x else 323
theorem wI_ok {a : ByteArray} (h : nmB false 40 a = true) (x : Int) : wI a x = x := if_pos h
theorem wI_bad {a : ByteArray} (h : nmB false 40 a = false) (x : Int) : wI a x = 323 := if_neg (by rw [h]; decide)
def bI (a b : ByteArray) (x : Int) : Int := if nmB false 40 a = true ∧ nmB false 40 b = true ∧ a ≠ b then x else 323

theorem opens_fresh {d : Nat} {D : Dev} {name : ByteArray} (h : nmB false 40 name = true) (hdn : D.down = false) (hm : D.now.m (jrn0 name).file = none) : Opens d D name (jrn0 name) := by
  intro g w hD
  refine (open_none d g w D hD name h hdn hm).mono ?_
  rintro e w' ⟨j, g', h1, h2, h3, h4⟩
  exact ⟨j, g', h1, h2, h3.imp (fun _ h => h.elim), h4⟩

section
variable (d : Nat) (g : Gh) (w : World) (a b : ByteArray) (ha : a.size ≤ 9223372036854775807) (hb : b.size ≤ 9223372036854775807)
include ha
theorem nload0 (hD : DevAt g w d dev0) : Calls Tryd.prog 23 #[.pointer (some ⟨d, 0, none⟩), .string a] w fun e w' => e = .returned (.tuple #[.int .i64 0, .slice none 0 0, .bool false, .int .i64 (wI a 0)]) ∧ ∃ g', Ext (fun o => w.heap.size ≤ o) g w g' w' := by
  cases h : nmB false 40 a
  · rw [wI_bad h]
    refine (load_bad d w a ha h).mono ?_
    rintro e w' ⟨rfl, rfl⟩
    exact ⟨rfl, g, Ext.refl _ _ _⟩
  · rw [wI_ok h]
    refine (load_any d g w dev0 hD rfl a h none none (SlotIs.zero rfl) (SlotIs.zero rfl)).mono ?_
    rintro e w' ⟨g', x, hx, hs, rfl⟩
    obtain rfl : x = .slice none 0 0 := hs
    exact ⟨rfl, g', hx⟩
include hb
theorem nrec0 (hD : DevAt g w d dev0) : Calls Tryd.prog 25 #[.pointer (some ⟨d, 0, none⟩), .string a, .string b] w fun e w' => ∃ A c, e = .returned (.tuple #[.int .i64 0, .slice none 0 0, .slice A 0 c, .int .i64 (bI a b 0)]) ∧ ∃ g', Ext (fun o => w.heap.size ≤ o) g w g' w' := by
  by_cases h : nmB false 40 a = true ∧ nmB false 40 b = true ∧ a ≠ b
  · have e : bI a b 0 = 0 := if_pos h
    rw [e]
    refine (recover_all d g w dev0 hD rfl a b ⟨h.1, h.2.1, h.2.2⟩ none none (SlotIs.zero rfl) (SlotIs.zero rfl) (jrn0 b) (opens_fresh h.2.1 rfl rfl) (by simp [jrn0]) (by simp [jrn0]) (by simp [jrn0]) (by simp [jrn0]) (by decide)).mono ?_
    rintro e w' ⟨g', hx, ⟨hh, _⟩ | ⟨k, A, c, v, hp, hk, hs, hr, rfl⟩⟩
    · simp [jrn0, newS, posO] at hh
    · obtain rfl : v = .slice none 0 0 := hs
      obtain rfl : k = 0 := by simpa [jrn0] using hk
      exact ⟨A, c, rfl, g', hx⟩
  · have e : bI a b 0 = 323 := if_neg h
    rw [e]
    refine (recover_bad d w a b ha hb ?_).mono ?_
    · by_cases h1 : nmB false 40 a = true
      · by_cases h2 : nmB false 40 b = true
        · exact .inr (.inr (Classical.byContradiction fun h3 => h ⟨h1, h2, h3⟩))
        · exact .inr (.inl (by simpa using h2))
      · exact .inl (by simpa using h1)
    · rintro e w' ⟨rfl, rfl⟩
      exact ⟨none, 0, rfl, g, Ext.refl _ _ _⟩
omit hb in
theorem nsave0 (hD : DevAt g w d dev0) : Calls Tryd.prog 16 #[.pointer (some ⟨d, 0, none⟩), .string a, .int .i64 0, .slice none 0 0] w fun e w' => e = .returned (.int .i64 (wI a 0)) ∧ ∃ D', SaveP d g w D' w' ∧ Quiet D' 1 := by
  cases h : nmB false 40 a
  · rw [wI_bad h]
    refine (save_bad d w a ha h 0 _).mono ?_
    rintro e w' ⟨rfl, hB⟩
    have hx := Ext.of_below (fun o => o = d ∨ w.heap.size ≤ o) g hB
    exact ⟨rfl, dev0, ⟨g, hx, (hD.ext (Ext.of_below (fun _ => False) g hB) (fun h => h))⟩, Quiet.dev0.more (by omega)⟩
  · rw [wI_ok h]
    refine (gsave d g w dev0 0 hD Quiet.dev0 (by omega) a h none none (SlotIs.zero rfl) (SlotIs.zero rfl) 0 none 0 [] (BytesAt.nil _ _) (Int.le_refl _) (by decide) (by decide) (by decide) (by decide)).mono ?_
    rintro e w' ⟨rfl, D', p0, p1, hP, hq, _⟩
    exact ⟨rfl, D', hP, hq⟩
variable {D : Dev}
omit hb in
theorem nload1 (hD : DevAt g w d D) (hdn : D.down = true) : Calls Tryd.prog 23 #[.pointer (some ⟨d, 0, none⟩), .string a] w fun e w' => e = .returned (.tuple #[.int .i64 0, .slice none 0 0, .bool false, .int .i64 (wI a 303)]) ∧ ∃ g', Ext (fun o => w.heap.size ≤ o) g w g' w' := by
  cases h : nmB false 40 a
  · rw [wI_bad h]
    refine (load_bad d w a ha h).mono ?_
    rintro e w' ⟨rfl, rfl⟩
    exact ⟨rfl, g, Ext.refl _ _ _⟩
  · rw [wI_ok h]
    exact load_down d g w D hD hdn a h
theorem nrec1 (hD : DevAt g w d D) (hdn : D.down = true) : Calls Tryd.prog 25 #[.pointer (some ⟨d, 0, none⟩), .string a, .string b] w fun e w' => e = .returned (.tuple #[.int .i64 0, .slice none 0 0, .slice none 0 0, .int .i64 (bI a b 303)]) ∧ ∃ g', Ext (fun o => w.heap.size ≤ o) g w g' w' := by
  by_cases h : nmB false 40 a = true ∧ nmB false 40 b = true ∧ a ≠ b
  · have e : bI a b 303 = 303 := if_pos h
    rw [e]
    exact recover_down d g w D hD hdn a b ⟨h.1, h.2.1, h.2.2⟩
  · have e : bI a b 303 = 323 := if_neg h
    rw [e]
    refine (recover_bad d w a b ha hb ?_).mono ?_
    · by_cases h1 : nmB false 40 a = true
      · by_cases h2 : nmB false 40 b = true
        · exact .inr (.inr (Classical.byContradiction fun h3 => h ⟨h1, h2, h3⟩))
        · exact .inr (.inl (by simpa using h2))
      · exact .inl (by simpa using h1)
    · rintro e w' ⟨rfl, rfl⟩
      exact ⟨rfl, g, Ext.refl _ _ _⟩
omit hb in
theorem nsave1 (hD : DevAt g w d D) (hdn : D.down = true) : Calls Tryd.prog 16 #[.pointer (some ⟨d, 0, none⟩), .string a, .int .i64 (-1), .slice none 0 0] w fun e w' => e = .returned (.int .i64 (wI a 303)) ∧ ∃ g', Ext (fun o => o = d ∨ w.heap.size ≤ o) g w g' w' := by
  cases h : nmB false 40 a
  · rw [wI_bad h]
    refine (save_bad d w a ha h (-1) _).mono ?_
    rintro e w' ⟨rfl, hB⟩
    exact ⟨rfl, g, Ext.of_below (fun o => o = d ∨ w.heap.size ≤ o) g hB⟩
  · rw [wI_ok h]
    refine (save_down d g w D hD hdn a h (-1) _).mono ?_
    rintro e w' ⟨rfl, g', hx, _⟩
    exact ⟨rfl, g', hx⟩
end

theorem Quiet.fit {g : Gh} {w : World} {d : Nat} {D : Dev} {m : Nat} (hD : DevAt g w d D) (h : Quiet D m) (hm : m ≤ 1000000) : Fit D := by
  have := h.n
  exact ⟨by simp [h.pl], fun k hk => by simp [h.pl] at hk, by rw [h.kp]; exact hD.len, by rw [h.kp]; omega⟩
theorem Quiet.lossD {D : Dev} {m : Nat} (h : Quiet D m) (kp tn : Int) : lossD (downD D) kp tn = downD D := by unfold Go.Proofs.YtcjkllmellampaaDoor.lossD; rw [if_pos (by simp [downD, h.pl])]

set_option maxRecDepth 100000 in
set_option maxHeartbeats 6400000 in
theorem lawCNames_any (a b : ByteArray) (w : World) (ha : a.size ≤ 9223372036854775807) (hb : b.size ≤ 9223372036854775807) : Calls Tryd.prog 7 #[.string a, .string b] w fun e w' => e = .returned (.bool true) ∧ Below w.heap.size w w' := by
  have HF : Hid (wI a 0 = (if nmB false 40 a = true then 0 else 323) ∧ wI a 303 = (if nmB false 40 a = true then 303 else 323) ∧ bI a b 0 = (if nmB false 40 a = true then (if nmB false 40 b = true then (if (a.toList == b.toList) = true then 323 else 0) else 323) else 323) ∧ bI a b 303 = (if nmB false 40 a = true then (if nmB false 40 b = true then (if (a.toList == b.toList) = true then 323 else 303) else 323) else 323)) := by
    have hq : (a.toList == b.toList) = true ↔ a = b := by
      constructor
      · intro e
        have e2 : a.toList = b.toList := by simpa using e
        rw [toList_eq, toList_eq] at e2
        exact ByteArray.ext (Array.toList_inj.1 e2)
      · rintro rfl; simp
    have hp : ∀ x : Int, bI a b x = (if nmB false 40 a = true then (if nmB false 40 b = true then (if (a.toList == b.toList) = true then 323 else x) else 323) else 323) := by
      intro x
      unfold bI
      by_cases h1 : nmB false 40 a = true
      · by_cases h2 : nmB false 40 b = true
        · by_cases h3 : a = b
          · rw [if_neg (fun h => h.2.2 h3), if_pos h1, if_pos h2, if_pos (hq.2 h3)]
          · rw [if_pos ⟨h1, h2, h3⟩, if_pos h1, if_pos h2, if_neg (fun h => h3 (hq.1 h))]
        · rw [if_neg (fun h => h2 h.2.1), if_pos h1, if_neg h2]
      · rw [if_neg (fun h => h1 h.1), if_neg h1]
    exact ⟨rfl, rfl, hp 0, hp 303⟩
  have HRA := Lib.hid (fun w => rname_any a w ha)
  have HRB := Lib.hid (fun w => rname_any b w hb)
  generalize hz : (a.toList == b.toList) = z at *
  generalize nmB false 40 a = x at *
  generalize nmB false 40 b = y at *
  have HLoad0 := Lib.hid (fun d g w hD => nload0 d g w a ha hD)
  have HRec0 := Lib.hid (fun d g w hD => nrec0 d g w a b ha hb hD)
  have HSave0 := Lib.hid (fun d g w hD => nsave0 d g w a ha hD)
  have HLoad1 := Lib.hid (fun d g w D hD hdn => nload1 d g w a ha (D := D) hD hdn)
  have HRec1 := Lib.hid (fun d g w D hD hdn => nrec1 d g w a b ha hb (D := D) hD hdn)
  have HSave1 := Lib.hid (fun d g w D hD hdn => nsave1 d g w a ha (D := D) hD hdn)
  cases x <;> cases y <;> cases z
  all_goals (
    obtain ⟨f1, f2, f3, f4⟩ := HF.out
    simp only [Bool.false_eq_true, if_true, if_false] at f1 f2 f3 f4
    rw [f1] at HLoad0 HSave0
    rw [f2] at HLoad1 HSave1
    rw [f3] at HRec0
    rw [f4] at HRec1
    clear f1 f2 f3 f4 HF
    go_enter Tryd.func7, Tryd.ntmps7
    go_wp2_with fail
    refine (gnew gh0 w).mono ?_
    rintro e w1 ⟨d, g1, rfl, hd, hx1, hD1⟩
    have HX1 := Lib.hid (hx1.imp (fun o (h : False) => (h.elim : w.heap.size ≤ o)))
    have HD1 := Lib.hid hD1
    clear hx1 hD1
    go_wp2_with fail
    refine (known_any g1 w1).mono ?_
    rintro e w2 ⟨rfl, g2, hx2⟩
    have hdl := HD1.out.lt
    have HX2 := Lib.hid (HX1.out.trans (hx2.imp (fun o h => Nat.le_trans HX1.out.size h)))
    have HD2 := Lib.hid (HD1.out.ext hx2 (by omega))
    clear hx2 HX1 HD1
    go_wp2_with fail
    refine (HRA.out w2).mono ?_
    rintro e w' ⟨rfl, rfl⟩
    go_wp2_with fail
    refine (HLoad0.out d g2 w2 HD2.out).mono ?_
    rintro e w3 ⟨rfl, g3, hx3⟩
    have hdl2 := HD2.out.lt
    have HX3 := Lib.hid (HX2.out.trans (hx3.imp (fun o h => Nat.le_trans HX2.out.size h)))
    have HD3 := Lib.hid (HD2.out.ext hx3 (by omega))
    clear hx3 HX2 HD2
    go_wp2_with fail
    refine (HRec0.out d g3 w3 HD3.out).mono ?_
    rintro e w4 ⟨A4, c4, rfl, g4, hx4⟩
    have hdl3 := HD3.out.lt
    have HX4 := Lib.hid (HX3.out.trans (hx4.imp (fun o h => Nat.le_trans HX3.out.size h)))
    have HD4 := Lib.hid (HD3.out.ext hx4 (by omega))
    clear hx4 HX3 HD3
    go_wp2_with fail
    refine (HRB.out w4).mono ?_
    rintro e w' ⟨rfl, rfl⟩
    go_wp2_with fail
    refine (HSave0.out d g4 w4 HD4.out).mono ?_
    rintro e w5 ⟨rfl, D5, ⟨g5, hx5, hD5⟩, hq5⟩
    have HX5 := Lib.hid (HX4.out.trans (hx5.imp (fun o h => h.elim (fun e => by rw [e]; exact hd) (fun h => Nat.le_trans HX4.out.size h))))
    have HD5 := Lib.hid hD5
    have HQ5 := Lib.hid hq5
    have HF5 := Lib.hid (Quiet.fit hD5 hq5 (by omega))
    clear hx5 HX4 HD4 hD5 hq5
    go_wp2_with fail
    refine (lose_any d g5 w5 D5 HD5.out HF5.out 0 0 (by omega) (by omega)).mono ?_
    rw [HQ5.out.lossD]
    rintro e w6 ⟨rfl, g6, hx6, hD6⟩
    have HX6 := Lib.hid (HX5.out.trans (hx6.imp (fun o e => by rw [e]; exact hd)))
    have HD6 := Lib.hid hD6
    clear hx6 HX5 HD5 hD6
    go_wp2_with fail
    refine (HLoad1.out d g6 w6 _ HD6.out rfl).mono ?_
    rintro e w7 ⟨rfl, g7, hx7⟩
    have hdl6 := HD6.out.lt
    have HX7 := Lib.hid (HX6.out.trans (hx7.imp (fun o h => Nat.le_trans HX6.out.size h)))
    have HD7 := Lib.hid (HD6.out.ext hx7 (by omega))
    clear hx7 HX6 HD6
    go_wp2_with fail
    refine (HRec1.out d g7 w7 _ HD7.out rfl).mono ?_
    rintro e w8 ⟨rfl, g8, hx8⟩
    have hdl7 := HD7.out.lt
    have HX8 := Lib.hid (HX7.out.trans (hx8.imp (fun o h => Nat.le_trans HX7.out.size h)))
    have HD8 := Lib.hid (HD7.out.ext hx8 (by omega))
    clear hx8 HX7 HD7
    go_wp2_with fail
    refine (HSave1.out d g8 w8 _ HD8.out rfl).mono ?_
    rintro e w9 ⟨rfl, g9, hx9⟩
    have HX9 := Lib.hid (HX8.out.trans (hx9.imp (fun o h => h.elim (fun e => by rw [e]; exact hd) (fun h => Nat.le_trans HX8.out.size h))))
    clear hx9 HX8 HD8
    go_wp2_with fail
    go_ret
    exact ⟨rfl, HX9.out.fin⟩)

end Go.Proofs.YtcjkllmellampaaDoor
