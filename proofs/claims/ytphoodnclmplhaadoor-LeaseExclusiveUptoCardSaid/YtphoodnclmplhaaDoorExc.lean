/-
  LeaseExclusive returns true for every operations, path, holder and term whose texts are not longer than memory; what was in memory before the call stays as it was.
-/
import Derived.Test.YtphoodnclmplhaaDoorSame
import Derived.Test.YtphoodnclmplhaaDoorPtm
import Derived.IntWalk
namespace Go.Proofs.YtphoodnclmplhaaDoor
open Go.RowKit

theorem runT_snoc2 (T : Tab) (l : List LOp) (k : Nat) (hk : k < l.length) : runT T (l.take (k + 1)) = (doT (runT T (l.take k)) l[k]).1 := by
  rw [List.take_succ_eq_append_getElem hk, runT, List.foldl_append]
  rfl
theorem only_old2 {b m : Nat} {w x y : World} (h : Below w.heap.size w x) (ho : Only b m x y) (hb : w.heap.size ≤ b) (hm : w.heap.size ≤ m) : Below w.heap.size w y := h.trans (ho.below h.size hb hm)
set_option maxRecDepth 100000 in
set_option maxHeartbeats 1600000 in
theorem exc_small (A : Option Addr) (c : Nat) (l : List LOp) (p holder : ByteArray) (term : Int) (w : World) (hA : OpsIn A l w) (hn : l.length ≤ 9223372036854775807) (hg : G0 w) (hp : p.size ≤ 1048576) (hh : holder.size ≤ 1048576) (hs : smallB l = false) :
    Calls Tryd.prog 4 #[.slice A l.length c, .string p, .string holder, .int .i64 term] w fun e w' => e = .returned (.bool true) ∧ Below w.heap.size w w' := by
  have HG := Lib.hid hg
  have HU : Hid (∀ W, Below w.heap.size w W → Calls Tryd.prog 16 #[.string p] W fun e w' => e = .returned (.bool (useB p)) ∧ Below W.heap.size W w') := fun W hW => usable_any p W (by omega) (HG.out.below hW)
  have HN : Hid (∀ W, Calls Tryd.prog 17 #[.string holder] W fun e w' => e = .returned (.bool (isNameB holder)) ∧ Below W.heap.size W w') := fun W => rname_any holder W (by unfold maxLen; omega)
  clear hg
  go_enter Tryd.func4, Tryd.ntmps4
  go_wp2_with fail
  refine (new_any _).mono ?_
  rintro e w1 ⟨rfl, hT1, HB⟩
  go_wp2_with fail
  refine (small_any A c l _ (hA.below HB) (by omega)).mono ?_
  rw [hs]
  rintro e w2 ⟨rfl, HB2⟩
  have o2 := HB.trans (HB2.mono HB.size)
  go_wp2_with (go_at_call 9; refine (awake19_any _).mono ?_; rintro e w9 ⟨rfl, HB9⟩)
  all_goals (go_ret; exact ⟨rfl, o2.trans (HB9.mono o2.size)⟩)

set_option maxRecDepth 100000 in
set_option maxHeartbeats 1600000 in
theorem exc_long (A : Option Addr) (c : Nat) (l : List LOp) (p holder : ByteArray) (term : Int) (w : World) (hA : OpsIn A l w) (hn : l.length ≤ 9223372036854775807) (hg : G0 w) (hp : p.size ≤ 1048576) (hh : holder.size ≤ 1048576) (hs : smallB l = true) (g1 : 400 < p.size + holder.size) :
    Calls Tryd.prog 4 #[.slice A l.length c, .string p, .string holder, .int .i64 term] w fun e w' => e = .returned (.bool true) ∧ Below w.heap.size w w' := by
  have HG := Lib.hid hg
  have HU : Hid (∀ W, Below w.heap.size w W → Calls Tryd.prog 16 #[.string p] W fun e w' => e = .returned (.bool (useB p)) ∧ Below W.heap.size W w') := fun W hW => usable_any p W (by omega) (HG.out.below hW)
  have HN : Hid (∀ W, Calls Tryd.prog 17 #[.string holder] W fun e w' => e = .returned (.bool (isNameB holder)) ∧ Below W.heap.size W w') := fun W => rname_any holder W (by unfold maxLen; omega)
  have z1 : decide ((400 : Int) < (p.size : Int) + (holder.size : Int)) = true := decide_eq_true (by omega)
  have z2 : (400 : Int) < (p.size : Int) + (holder.size : Int) := by omega
  clear hg
  go_enter Tryd.func4, Tryd.ntmps4
  go_wp2_with fail
  refine (new_any _).mono ?_
  rintro e w1 ⟨rfl, hT1, HB⟩
  go_wp2_with fail
  refine (small_any A c l _ (hA.below HB) (by omega)).mono ?_
  rw [hs]
  rintro e w2 ⟨rfl, HB2⟩
  have o2 := HB.trans (HB2.mono HB.size)
  go_wp2_with (go_at_call 9; refine (awake19_any _).mono ?_; rintro e w9 ⟨rfl, HB9⟩)
  all_goals (go_ret; exact ⟨rfl, o2.trans (HB9.mono o2.size)⟩)

set_option maxRecDepth 100000 in
set_option maxHeartbeats 1600000 in
theorem exc_path (A : Option Addr) (c : Nat) (l : List LOp) (p holder : ByteArray) (term : Int) (w : World) (hA : OpsIn A l w) (hn : l.length ≤ 9223372036854775807) (hg : G0 w) (hp : p.size ≤ 1048576) (hh : holder.size ≤ 1048576) (hs : smallB l = true) (g1 : p.size + holder.size ≤ 400) (hu : useB p = false) :
    Calls Tryd.prog 4 #[.slice A l.length c, .string p, .string holder, .int .i64 term] w fun e w' => e = .returned (.bool true) ∧ Below w.heap.size w w' := by
  have HG := Lib.hid hg
  have HU : Hid (∀ W, Below w.heap.size w W → Calls Tryd.prog 16 #[.string p] W fun e w' => e = .returned (.bool (useB p)) ∧ Below W.heap.size W w') := fun W hW => usable_any p W (by omega) (HG.out.below hW)
  have HN : Hid (∀ W, Calls Tryd.prog 17 #[.string holder] W fun e w' => e = .returned (.bool (isNameB holder)) ∧ Below W.heap.size W w') := fun W => rname_any holder W (by unfold maxLen; omega)
  have z1 : decide ((400 : Int) < (p.size : Int) + (holder.size : Int)) = false := decide_eq_false (by omega)
  have z2 : ¬ (400 : Int) < (p.size : Int) + (holder.size : Int) := by omega
  rw [hu] at HU
  clear hg
  go_enter Tryd.func4, Tryd.ntmps4
  go_wp2_with fail
  refine (new_any _).mono ?_
  rintro e w1 ⟨rfl, hT1, HB⟩
  go_wp2_with fail
  refine (small_any A c l _ (hA.below HB) (by omega)).mono ?_
  rw [hs]
  rintro e w2 ⟨rfl, HB2⟩
  have o2 := HB.trans (HB2.mono HB.size)
  go_wp2_with fail
  refine (HU.out _ o2).mono ?_
  rintro e w3 ⟨rfl, HB3⟩
  have o3 := o2.trans (HB3.mono o2.size)
  go_wp2_with (go_at_call 9; refine (awake19_any _).mono ?_; rintro e w9 ⟨rfl, HB9⟩)
  all_goals (go_ret; exact ⟨rfl, o3.trans (HB9.mono o3.size)⟩)

set_option maxRecDepth 100000 in
set_option maxHeartbeats 1600000 in
theorem exc_name (A : Option Addr) (c : Nat) (l : List LOp) (p holder : ByteArray) (term : Int) (w : World) (hA : OpsIn A l w) (hn : l.length ≤ 9223372036854775807) (hg : G0 w) (hp : p.size ≤ 1048576) (hh : holder.size ≤ 1048576) (hs : smallB l = true) (g1 : p.size + holder.size ≤ 400) (hu : useB p = true) (hm : isNameB holder = false) :
    Calls Tryd.prog 4 #[.slice A l.length c, .string p, .string holder, .int .i64 term] w fun e w' => e = .returned (.bool true) ∧ Below w.heap.size w w' := by
  have HG := Lib.hid hg
  have HU : Hid (∀ W, Below w.heap.size w W → Calls Tryd.prog 16 #[.string p] W fun e w' => e = .returned (.bool (useB p)) ∧ Below W.heap.size W w') := fun W hW => usable_any p W (by omega) (HG.out.below hW)
  have HN : Hid (∀ W, Calls Tryd.prog 17 #[.string holder] W fun e w' => e = .returned (.bool (isNameB holder)) ∧ Below W.heap.size W w') := fun W => rname_any holder W (by unfold maxLen; omega)
  have z1 : decide ((400 : Int) < (p.size : Int) + (holder.size : Int)) = false := decide_eq_false (by omega)
  have z2 : ¬ (400 : Int) < (p.size : Int) + (holder.size : Int) := by omega
  rw [hu] at HU
  rw [hm] at HN
  clear hg
  go_enter Tryd.func4, Tryd.ntmps4
  go_wp2_with fail
  refine (new_any _).mono ?_
  rintro e w1 ⟨rfl, hT1, HB⟩
  go_wp2_with fail
  refine (small_any A c l _ (hA.below HB) (by omega)).mono ?_
  rw [hs]
  rintro e w2 ⟨rfl, HB2⟩
  have o2 := HB.trans (HB2.mono HB.size)
  go_wp2_with fail
  refine (HU.out _ o2).mono ?_
  rintro e w3 ⟨rfl, HB3⟩
  have o3 := o2.trans (HB3.mono o2.size)
  go_wp2_with fail
  refine (HN.out _).mono ?_
  rintro e w4 ⟨rfl, HB4⟩
  have o4 := o3.trans (HB4.mono o3.size)
  go_wp2_with (go_at_call 9; refine (awake19_any _).mono ?_; rintro e w9 ⟨rfl, HB9⟩)
  all_goals (go_ret; exact ⟨rfl, o4.trans (HB9.mono o4.size)⟩)

set_option maxRecDepth 100000 in
set_option maxHeartbeats 1600000 in
theorem exc_lo (A : Option Addr) (c : Nat) (l : List LOp) (p holder : ByteArray) (term : Int) (w : World) (hA : OpsIn A l w) (hn : l.length ≤ 9223372036854775807) (hg : G0 w) (hp : p.size ≤ 1048576) (hh : holder.size ≤ 1048576) (hs : smallB l = true) (g1 : p.size + holder.size ≤ 400) (hu : useB p = true) (hm : isNameB holder = true) (ht : term < 1) :
    Calls Tryd.prog 4 #[.slice A l.length c, .string p, .string holder, .int .i64 term] w fun e w' => e = .returned (.bool true) ∧ Below w.heap.size w w' := by
  have HG := Lib.hid hg
  have HU : Hid (∀ W, Below w.heap.size w W → Calls Tryd.prog 16 #[.string p] W fun e w' => e = .returned (.bool (useB p)) ∧ Below W.heap.size W w') := fun W hW => usable_any p W (by omega) (HG.out.below hW)
  have HN : Hid (∀ W, Calls Tryd.prog 17 #[.string holder] W fun e w' => e = .returned (.bool (isNameB holder)) ∧ Below W.heap.size W w') := fun W => rname_any holder W (by unfold maxLen; omega)
  have z1 : decide ((400 : Int) < (p.size : Int) + (holder.size : Int)) = false := decide_eq_false (by omega)
  have z2 : ¬ (400 : Int) < (p.size : Int) + (holder.size : Int) := by omega
  rw [hu] at HU
  rw [hm] at HN
  clear hg
  go_enter Tryd.func4, Tryd.ntmps4
  go_wp2_with fail
  refine (new_any _).mono ?_
  rintro e w1 ⟨rfl, hT1, HB⟩
  go_wp2_with fail
  refine (small_any A c l _ (hA.below HB) (by omega)).mono ?_
  rw [hs]
  rintro e w2 ⟨rfl, HB2⟩
  have o2 := HB.trans (HB2.mono HB.size)
  go_wp2_with fail
  refine (HU.out _ o2).mono ?_
  rintro e w3 ⟨rfl, HB3⟩
  have o3 := o2.trans (HB3.mono o2.size)
  go_wp2_with fail
  refine (HN.out _).mono ?_
  rintro e w4 ⟨rfl, HB4⟩
  have o4 := o3.trans (HB4.mono o3.size)
  go_wp2_with (go_at_call 9; refine (awake19_any _).mono ?_; rintro e w9 ⟨rfl, HB9⟩)
  all_goals (go_ret; exact ⟨rfl, o4.trans (HB9.mono o4.size)⟩)

set_option maxRecDepth 100000 in
set_option maxHeartbeats 1600000 in
theorem exc_hi (A : Option Addr) (c : Nat) (l : List LOp) (p holder : ByteArray) (term : Int) (w : World) (hA : OpsIn A l w) (hn : l.length ≤ 9223372036854775807) (hg : G0 w) (hp : p.size ≤ 1048576) (hh : holder.size ≤ 1048576) (hs : smallB l = true) (g1 : p.size + holder.size ≤ 400) (hu : useB p = true) (hm : isNameB holder = true) (ht0 : 1 ≤ term) (ht : 1048576 < term) :
    Calls Tryd.prog 4 #[.slice A l.length c, .string p, .string holder, .int .i64 term] w fun e w' => e = .returned (.bool true) ∧ Below w.heap.size w w' := by
  have HG := Lib.hid hg
  have HU : Hid (∀ W, Below w.heap.size w W → Calls Tryd.prog 16 #[.string p] W fun e w' => e = .returned (.bool (useB p)) ∧ Below W.heap.size W w') := fun W hW => usable_any p W (by omega) (HG.out.below hW)
  have HN : Hid (∀ W, Calls Tryd.prog 17 #[.string holder] W fun e w' => e = .returned (.bool (isNameB holder)) ∧ Below W.heap.size W w') := fun W => rname_any holder W (by unfold maxLen; omega)
  have z1 : decide ((400 : Int) < (p.size : Int) + (holder.size : Int)) = false := decide_eq_false (by omega)
  have z2 : ¬ (400 : Int) < (p.size : Int) + (holder.size : Int) := by omega
  rw [hu] at HU
  rw [hm] at HN
  clear hg
  go_enter Tryd.func4, Tryd.ntmps4
  go_wp2_with fail
  refine (new_any _).mono ?_
  rintro e w1 ⟨rfl, hT1, HB⟩
  go_wp2_with fail
  refine (small_any A c l _ (hA.below HB) (by omega)).mono ?_
  rw [hs]
  rintro e w2 ⟨rfl, HB2⟩
  have o2 := HB.trans (HB2.mono HB.size)
  go_wp2_with fail
  refine (HU.out _ o2).mono ?_
  rintro e w3 ⟨rfl, HB3⟩
  have o3 := o2.trans (HB3.mono o2.size)
  go_wp2_with fail
  refine (HN.out _).mono ?_
  rintro e w4 ⟨rfl, HB4⟩
  have o4 := o3.trans (HB4.mono o3.size)
  go_wp2_with (go_at_call 9; refine (awake19_any _).mono ?_; rintro e w9 ⟨rfl, HB9⟩)
  all_goals (go_ret; exact ⟨rfl, o4.trans (HB9.mono o4.size)⟩)

set_option maxRecDepth 100000 in
set_option maxHeartbeats 6400000 in
theorem exc_in (A : Option Addr) (c : Nat) (l : List LOp) (p holder : ByteArray) (term : Int) (w : World) (hA : OpsIn A l w) (hn : l.length ≤ 90) (hg : G0 w) (hp : p.size ≤ 1048576) (hh : holder.size ≤ 1048576) (hs : smallB l = true) (g1 : p.size + holder.size ≤ 400) (hu : useB p = true) (hm : isNameB holder = true) (ht0 : 1 ≤ term) (ht : term ≤ 1048576) :
    Calls Tryd.prog 4 #[.slice A l.length c, .string p, .string holder, .int .i64 term] w fun e w' => e = .returned (.bool true) ∧ Below w.heap.size w w' := by
  have HG := Lib.hid hg
  have HU : Hid (∀ W, Below w.heap.size w W → Calls Tryd.prog 16 #[.string p] W fun e w' => e = .returned (.bool (useB p)) ∧ Below W.heap.size W w') := fun W hW => usable_any p W (by omega) (HG.out.below hW)
  have HN : Hid (∀ W, Calls Tryd.prog 17 #[.string holder] W fun e w' => e = .returned (.bool (isNameB holder)) ∧ Below W.heap.size W w') := fun W => rname_any holder W (by unfold maxLen; omega)
  have z1 : decide ((400 : Int) < (p.size : Int) + (holder.size : Int)) = false := decide_eq_false (by omega)
  have z2 : ¬ (400 : Int) < (p.size : Int) + (holder.size : Int) := by omega
  rw [hu] at HU
  rw [hm] at HN
  have HUM := Lib.hid (And.intro hu hm)
  clear hg hu hm
  go_enter Tryd.func4, Tryd.ntmps4
  go_wp2_with fail
  refine (new_any _).mono ?_
  rintro e w1 ⟨rfl, hT1, HB⟩
  go_wp2_with fail
  refine (small_any A c l _ (hA.below HB) (by omega)).mono ?_
  rw [hs]
  rintro e w2 ⟨rfl, HB2⟩
  have o2 := HB.trans (HB2.mono HB.size)
  have hT2 : TabT (w.heap.size + 1) w.heap.size ⟨0, []⟩ w2 := TabAt.after hT1 HB2
  clear hs HB HB2 hT1
  go_wp2_with fail
  refine (HU.out _ o2).mono ?_
  rintro e w3 ⟨rfl, HB3⟩
  have o3 := o2.trans (HB3.mono o2.size)
  have hT3 : TabT (w.heap.size + 1) w.heap.size ⟨0, []⟩ w3 := TabAt.after hT2 HB3
  clear HB3 hT2 o2
  go_wp2_with fail
  refine (HN.out _).mono ?_
  rintro e w4 ⟨rfl, HB4⟩
  have o4 := o3.trans (HB4.mono o3.size)
  have hT4 : TabT (w.heap.size + 1) w.heap.size ⟨0, []⟩ w4 := TabAt.after hT3 HB4
  clear HB4 hT3 o3 HU HN
  go_wp2_with fail
  go_loopw [54] (fun i wr => ∃ k : Nat, k ≤ l.length ∧ i = .int .i64 k ∧ TabT (w.heap.size + 1) w.heap.size (runT ⟨0, []⟩ (l.take k)) wr ∧ Below w.heap.size w wr) (fun i _ => l.length - (intOf i).toNat)
  case atStart => exact ⟨0, Nat.zero_le _, rfl, hT4, o4⟩
  case round =>
    clear hT4 o4
    obtain ⟨k, hk, rfl, hT, hB⟩ := hrel
    by_cases hlt : k < l.length
    · obtain ⟨bo, off, rfl, hbo, hops⟩ := hA (by omega)
      obtain ⟨h0, h1, h2, h3, h4⟩ := (hops.below hB hbo) k l[k] (List.getElem?_eq_getElem hlt)
      have hinv := inv_run inv_new (l.take k)
      have hr := Lib.hid (runT_snoc2 ⟨0, []⟩ l k hlt)
      go_wp2_with fail
      refine (do_post _ _ _ _ _ _ _ _ _ (TabAt.alloc hT _) hinv.ok).mono ?_
      rintro e w5 ⟨rfl, hT5, hO5⟩
      have o5 := only_old2 (hB.alloc hB.size _) hO5 (by omega) (by omega)
      clear h0 h1 h2 h3 h4
      go_wp2_with fail
      go_roundw
      case rel => exact ⟨k + 1, by omega, by go_num, by rw [hr.out]; exact hT5, o5⟩
      case measure => simp [intOf]; omega
    · have hge : l.length ≤ k := by omega
      clear hlt
      have hinv := inv_run inv_new l
      have hpt := pt_run pt_new inv_new l
      rw [List.take_of_length_le hge] at hT
      generalize runT ⟨0, []⟩ l = T at hT hinv hpt
      have hTT : TabAt (w.heap.size + 1) w.heap.size T.clk (encL T.m) wr := hT
      have l1 := hTT.lt
      have l2 := hTT.mp.lt
      have HT := Lib.hid hT
      have HB := Lib.hid hB
      have HINV := Lib.hid hinv
      have HPT := Lib.hid hpt
      have HC := Lib.hid (current_any _ _ T p wr hT)
      have htb : isTermB term = true := by simp [isTermB]; omega
      have HACQ : Hid (acqT T p holder term = match lk T.m p with
        | none => if 64 ≤ T.m.length then (T, zeroL, 195) else (⟨T.clk, pt T.m p ⟨p, holder, 1, T.clk, T.clk + term⟩⟩, ⟨p, holder, 1, T.clk, T.clk + term⟩, 0)
        | some l => if hNow T.clk l.since l.til = true then (T, zeroL, 193) else if 1073741824 ≤ l.fence then (T, zeroL, 195) else (⟨T.clk, pt T.m p ⟨p, holder, l.fence + 1, T.clk, T.clk + term⟩⟩, ⟨p, holder, l.fence + 1, T.clk, T.clk + term⟩, 0)) := by
        show _ = _
        unfold acqT
        rw [use_is, HUM.out.1, HUM.out.2, htb, if_neg (by simp), if_neg (by simp), if_neg (by simp)]
        cases lk T.m p <;> rfl
      have hc0 := hinv.c0
      have hc1 := hinv.c1
      clear hT hB hinv hpt hTT htb HUM
      have hhld : ∀ f : Int, hldB T.clk holder f T.clk (T.clk + term) holder f = true := fun f => by simp [hldB, hNow]; omega
      have HHLD := Lib.hid hhld
      clear hhld
      cases hl : lk T.m p with
      | none =>
        rw [hl] at HC HACQ
        dsimp only [Option.getD, Option.isSome, zeroL, Lease.val] at HC HACQ
        by_cases hf : 64 ≤ T.m.length
        · rw [if_pos hf] at HACQ
          go_wp2_with fail
          refine HC.out.mono ?_
          rintro e w5 ⟨rfl, hb5⟩
          have hb5' := hb5.alloc hb5.size (.cells #[.string ⟨#[]⟩, .string ⟨#[]⟩, .int .i64 0, .int .i64 0, .int .i64 0] 34)
          have HT6 := Lib.hid (TabAt.after HT.out hb5')
          have HB6 := Lib.hid (HB.out.trans (hb5'.mono HB.out.size))
          have k6 := (Box5.new w5 (.string ⟨#[]⟩) (.string ⟨#[]⟩) (.int .i64 0) (.int .i64 0) (.int .i64 0) 34).cell5
          have hw6 : w.heap.size + 1 < w5.heap.size := by have := hb5.size; omega
          have hs6 : (w5.alloc (.cells #[.string ⟨#[]⟩, .string ⟨#[]⟩, .int .i64 0, .int .i64 0, .int .i64 0] 34)).heap.size = w5.heap.size + 1 := by simp
          clear hb5 hb5'
          (have k6' := k6; obtain ⟨d0, d1, d2, d3, d4, lt_k6, fz_k6⟩ := k6')
          go_wp2_with fail
          generalize w5.alloc (.cells #[.string ⟨#[]⟩, .string ⟨#[]⟩, .int .i64 0, .int .i64 0, .int .i64 0] 34) = w6 at *
          refine (acq_post _ _ T p holder term _ HT6.out HINV.out.ok).mono ?_
          rw [HACQ.out]
          rintro e w7 ⟨rfl, hT7, hO7⟩
          dsimp only [zeroL, Lease.val] at hT7 ⊢
          have k7 := (k6.only hO7 (by omega) (by omega)).alloc (.cells #[.string ⟨#[]⟩, .string ⟨#[]⟩, .int .i64 0, .int .i64 0, .int .i64 0] 34)
          have j7 := (Box5.new w7 (.string ⟨#[]⟩) (.string ⟨#[]⟩) (.int .i64 0) (.int .i64 0) (.int .i64 0) 34).cell5
          have HT8 := Lib.hid (TabAt.alloc hT7 (.cells #[.string ⟨#[]⟩, .string ⟨#[]⟩, .int .i64 0, .int .i64 0, .int .i64 0] 34))
          have HB8 := Lib.hid ((only_old2 HB6.out hO7 (by omega) (by omega)).alloc (only_old2 HB6.out hO7 (by omega) (by omega)).size (.cells #[.string ⟨#[]⟩, .string ⟨#[]⟩, .int .i64 0, .int .i64 0, .int .i64 0] 34))
          have hw8 : w5.heap.size < w7.heap.size := by have := hO7.size; omega
          clear hT7 hO7 d0 d1 d2 d3 d4 lt_k6 fz_k6
          (have k7' := k7; obtain ⟨d0, d1, d2, d3, d4, lt_k7, fz_k7⟩ := k7')
          (have j7' := j7; obtain ⟨e0, e1, e2, e3, e4, lt_j7, fz_j7⟩ := j7')
          go_wp2_with fail
          refine (tall_any _ _ T (by have := HPT.out.len; omega) _ HT8.out (HINV.out.tok HPT.out.once)).mono ?_
          rintro e w10 ⟨S, A10, c10, rfl, hS10, _, _, hb10⟩
          have hl10 : S.length = 64 := by
            have h1 := hS10.length_eq
            have h2 := HPT.out.len
            simp only [List.length_map] at h1
            omega
          rw [hl10]
          have HB10 := Lib.hid (HB8.out.trans (hb10.mono HB8.out.size))
          clear hb10 hS10 hl10
          go_wp2_with (go_at_call 9; refine (awake19_any _).mono ?_; rintro e w9 ⟨rfl, HB9⟩)
          go_ret
          exact ⟨rfl, HB10.out.trans (HB9.mono HB10.out.size)⟩
        · rw [if_neg hf] at HACQ
          go_wp2_with fail
          refine HC.out.mono ?_
          rintro e w5 ⟨rfl, hb5⟩
          have hb5' := hb5.alloc hb5.size (.cells #[.string ⟨#[]⟩, .string ⟨#[]⟩, .int .i64 0, .int .i64 0, .int .i64 0] 34)
          have HT6 := Lib.hid (TabAt.after HT.out hb5')
          have HB6 := Lib.hid (HB.out.trans (hb5'.mono HB.out.size))
          have k6 := (Box5.new w5 (.string ⟨#[]⟩) (.string ⟨#[]⟩) (.int .i64 0) (.int .i64 0) (.int .i64 0) 34).cell5
          have hw6 : w.heap.size + 1 < w5.heap.size := by have := hb5.size; omega
          have hs6 : (w5.alloc (.cells #[.string ⟨#[]⟩, .string ⟨#[]⟩, .int .i64 0, .int .i64 0, .int .i64 0] 34)).heap.size = w5.heap.size + 1 := by simp
          clear hb5 hb5'
          (have k6' := k6; obtain ⟨d0, d1, d2, d3, d4, lt_k6, fz_k6⟩ := k6')
          go_wp2_with fail
          generalize w5.alloc (.cells #[.string ⟨#[]⟩, .string ⟨#[]⟩, .int .i64 0, .int .i64 0, .int .i64 0] 34) = w6 at *
          refine (acq_post _ _ T p holder term _ HT6.out HINV.out.ok).mono ?_
          rw [HACQ.out]
          rintro e w7 ⟨rfl, hT7, hO7⟩
          dsimp only [zeroL, Lease.val] at hT7 ⊢
          have k7 := (k6.only hO7 (by omega) (by omega)).alloc (.cells #[.string p, .string holder, .int .i64 1, .int .i64 T.clk, .int .i64 (T.clk + term)] 34)
          have j7 := (Box5.new w7 (.string p) (.string holder) (.int .i64 1) (.int .i64 T.clk) (.int .i64 (T.clk + term)) 34).cell5
          have HT8 := Lib.hid (TabAt.alloc hT7 (.cells #[.string p, .string holder, .int .i64 1, .int .i64 T.clk, .int .i64 (T.clk + term)] 34))
          have HB8 := Lib.hid ((only_old2 HB6.out hO7 (by omega) (by omega)).alloc (only_old2 HB6.out hO7 (by omega) (by omega)).size (.cells #[.string p, .string holder, .int .i64 1, .int .i64 T.clk, .int .i64 (T.clk + term)] 34))
          have hw8 : w5.heap.size < w7.heap.size := by have := hO7.size; omega
          clear hT7 hO7 d0 d1 d2 d3 d4 lt_k6 fz_k6
          (have k7' := k7; obtain ⟨d0, d1, d2, d3, d4, lt_k7, fz_k7⟩ := k7')
          (have j7' := j7; obtain ⟨e0, e1, e2, e3, e4, lt_j7, fz_j7⟩ := j7')
          go_wp2_with fail
          generalize hw8e : w7.alloc (.cells #[.string p, .string holder, .int .i64 1, .int .i64 T.clk, .int .i64 (T.clk + term)] 34) = w8 at *
          have hS : Below w8.heap.size w8 w8.drew := (Below.refl _ _).drew
          have HH8 : Hid (∀ y : Held (Below w8.heap.size w8), Calls Tryd.prog 14 #[.pointer (some ⟨w.heap.size + 1, 0, none⟩), .string p, .string holder, .int .i64 1] y.w fun e w' => e = .returned (.bool true) ∧ Below y.w.heap.size y.w w') := fun y => by
            have := holds_any _ _ ⟨T.clk, pt T.m p ⟨p, holder, 1, T.clk, T.clk + term⟩⟩ p holder 1 y.w (TabAt.after HT8.out y.ok)
            have hv : hasT ⟨T.clk, pt T.m p ⟨p, holder, 1, T.clk, T.clk + term⟩⟩ p holder 1 = true := by
              unfold hasT
              rw [lk_pt, if_pos ((ba_beq p p).2 rfl)]
              exact HHLD.out _
            rw [hv] at this
            exact this
          have HN8 : Hid (∀ y : Held (Below w8.heap.size w8), Calls Tryd.prog 20 #[.pointer (some ⟨w.heap.size + 1, 0, none⟩)] y.w fun e w' => e = .returned (.int .i64 T.clk) ∧ Below y.w.heap.size y.w w') := fun y =>
            (now_any _ _ T.clk _ y.w (TabAt.after HT8.out y.ok)).mono fun e w' ⟨h1, h2⟩ => ⟨h1, h2 ▸ Below.refl _ _⟩
          have HA8 : Hid (∀ y : Held (Below w8.heap.size w8), Calls Tryd.prog 9 #[] y.w fun e w' => e = .returned (.bool true) ∧ Below y.w.heap.size y.w w') := fun y => awake19_any y.w
          have HE2 : Hid (∀ y : Held (Below w8.heap.size w8), y.w.cell? ⟨w7.heap.size, 2, none⟩ = some (.int .i64 1)) := fun y => (y.ok.cell (p := ⟨_, _, none⟩) lt_j7).trans e2
          have HE4 : Hid (∀ y : Held (Below w8.heap.size w8), y.w.cell? ⟨w7.heap.size, 4, none⟩ = some (.int .i64 (T.clk + term))) := fun y => (y.ok.cell (p := ⟨_, _, none⟩) lt_j7).trans e4
          have hwr : IntKind.i64.wrap (T.clk + term) = T.clk + term := IntWalk.i64_in _ (by omega)
          (refine wp_region_s (S := Below w8.heap.size w8) (by kernel_rfl) (by kernel_rfl) hS ?_; have hN : Nonempty (Held (Below w8.heap.size w8)) := ⟨⟨_, hS⟩⟩; (have r2 := HE2.out; have r4 := HE4.out); (repeat (go_big_quiet_step ((first | (go_at_call 14; exact held_keep (HH8.out _)) | (go_at_call 20; exact held_keep (HN8.out _)) | (go_at_call 9; exact held_keep (HA8.out _)))))); refine wpQuiet_nil ?_; rintro x ⟨⟨_, hx⟩, rfl⟩; clear hN)
          clear r2 r4
          go_wp2_with fail
          go_ret
          exact ⟨rfl, HB8.out.trans (hx.mono HB8.out.size)⟩
      | some x =>
        have hfd := HINV.out.found hl
        rw [hl] at HC HACQ
        obtain ⟨lp, lh, lf, ls, lu⟩ := x
        dsimp only [Option.getD, Option.isSome, zeroL, Lease.val] at HC HACQ
        have hf1 := hfd.f1
        have hf0 := hfd.f0
        dsimp only at hf0 hf1
        have HHAS : Hid (hasT T p lh lf = hNow T.clk ls lu) := by
          show _ = _
          unfold hasT
          rw [hl]
          simp [hldB]
        clear hfd
        cases hv : hNow T.clk ls lu
        · rw [hv, if_neg (by simp), if_neg (by omega)] at HACQ
          rw [hv] at HHAS
          go_wp2_with fail
          refine HC.out.mono ?_
          rintro e w5 ⟨rfl, hb5⟩
          have hb5' := hb5.alloc hb5.size (.cells #[.string lp, .string lh, .int .i64 lf, .int .i64 ls, .int .i64 lu] 34)
          have HT6 := Lib.hid (TabAt.after HT.out hb5')
          have HB6 := Lib.hid (HB.out.trans (hb5'.mono HB.out.size))
          have k6 := (Box5.new w5 (.string lp) (.string lh) (.int .i64 lf) (.int .i64 ls) (.int .i64 lu) 34).cell5
          have hw6 : w.heap.size + 1 < w5.heap.size := by have := hb5.size; omega
          have hs6 : (w5.alloc (.cells #[.string lp, .string lh, .int .i64 lf, .int .i64 ls, .int .i64 lu] 34)).heap.size = w5.heap.size + 1 := by simp
          clear hb5 hb5'
          (have k6' := k6; obtain ⟨d0, d1, d2, d3, d4, lt_k6, fz_k6⟩ := k6')
          go_wp2_with fail
          generalize w5.alloc (.cells #[.string lp, .string lh, .int .i64 lf, .int .i64 ls, .int .i64 lu] 34) = w6 at *
          refine (holds_any _ _ T p lh lf _ HT6.out).mono ?_
          rw [HHAS.out]
          rintro e w6b ⟨rfl, hb6b⟩
          have HT6b := Lib.hid (TabAt.after HT6.out hb6b)
          have HB6b := Lib.hid (HB6.out.trans (hb6b.mono HB6.out.size))
          have k6b := k6.below hb6b
          have hs6b : w5.heap.size < w6b.heap.size := by have := hb6b.size; omega
          clear hb6b
          go_wp2_with fail
          refine (acq_post _ _ T p holder term _ HT6b.out HINV.out.ok).mono ?_
          rw [HACQ.out]
          rintro e w7 ⟨rfl, hT7, hO7⟩
          dsimp only [zeroL, Lease.val] at hT7 ⊢
          have k7 := (k6b.only hO7 (by omega) (by omega)).alloc (.cells #[.string p, .string holder, .int .i64 (lf + 1), .int .i64 T.clk, .int .i64 (T.clk + term)] 34)
          have j7 := (Box5.new w7 (.string p) (.string holder) (.int .i64 (lf + 1)) (.int .i64 T.clk) (.int .i64 (T.clk + term)) 34).cell5
          have HT8 := Lib.hid (TabAt.alloc hT7 (.cells #[.string p, .string holder, .int .i64 (lf + 1), .int .i64 T.clk, .int .i64 (T.clk + term)] 34))
          have HB8 := Lib.hid ((only_old2 HB6b.out hO7 (by omega) (by omega)).alloc (only_old2 HB6b.out hO7 (by omega) (by omega)).size (.cells #[.string p, .string holder, .int .i64 (lf + 1), .int .i64 T.clk, .int .i64 (T.clk + term)] 34))
          have hw8 : w5.heap.size < w7.heap.size := by have := hO7.size; omega
          clear hT7 hO7 d0 d1 d2 d3 d4 lt_k6 fz_k6
          (have k7' := k7; obtain ⟨d0, d1, d2, d3, d4, lt_k7, fz_k7⟩ := k7')
          (have j7' := j7; obtain ⟨e0, e1, e2, e3, e4, lt_j7, fz_j7⟩ := j7')
          go_wp2_with fail
          generalize hw8e : w7.alloc (.cells #[.string p, .string holder, .int .i64 (lf + 1), .int .i64 T.clk, .int .i64 (T.clk + term)] 34) = w8 at *
          have hS : Below w8.heap.size w8 w8.drew := (Below.refl _ _).drew
          have HH8 : Hid (∀ y : Held (Below w8.heap.size w8), Calls Tryd.prog 14 #[.pointer (some ⟨w.heap.size + 1, 0, none⟩), .string p, .string holder, .int .i64 (lf + 1)] y.w fun e w' => e = .returned (.bool true) ∧ Below y.w.heap.size y.w w') := fun y => by
            have := holds_any _ _ ⟨T.clk, pt T.m p ⟨p, holder, (lf + 1), T.clk, T.clk + term⟩⟩ p holder (lf + 1) y.w (TabAt.after HT8.out y.ok)
            have hv : hasT ⟨T.clk, pt T.m p ⟨p, holder, (lf + 1), T.clk, T.clk + term⟩⟩ p holder (lf + 1) = true := by
              unfold hasT
              rw [lk_pt, if_pos ((ba_beq p p).2 rfl)]
              exact HHLD.out _
            rw [hv] at this
            exact this
          have HN8 : Hid (∀ y : Held (Below w8.heap.size w8), Calls Tryd.prog 20 #[.pointer (some ⟨w.heap.size + 1, 0, none⟩)] y.w fun e w' => e = .returned (.int .i64 T.clk) ∧ Below y.w.heap.size y.w w') := fun y =>
            (now_any _ _ T.clk _ y.w (TabAt.after HT8.out y.ok)).mono fun e w' ⟨h1, h2⟩ => ⟨h1, h2 ▸ Below.refl _ _⟩
          have HA8 : Hid (∀ y : Held (Below w8.heap.size w8), Calls Tryd.prog 9 #[] y.w fun e w' => e = .returned (.bool true) ∧ Below y.w.heap.size y.w w') := fun y => awake19_any y.w
          have HE2 : Hid (∀ y : Held (Below w8.heap.size w8), y.w.cell? ⟨w7.heap.size, 2, none⟩ = some (.int .i64 (lf + 1))) := fun y => (y.ok.cell (p := ⟨_, _, none⟩) lt_j7).trans e2
          have HE4 : Hid (∀ y : Held (Below w8.heap.size w8), y.w.cell? ⟨w7.heap.size, 4, none⟩ = some (.int .i64 (T.clk + term))) := fun y => (y.ok.cell (p := ⟨_, _, none⟩) lt_j7).trans e4
          have hwr : IntKind.i64.wrap (T.clk + term) = T.clk + term := IntWalk.i64_in _ (by omega)
          (refine wp_region_s (S := Below w8.heap.size w8) (by kernel_rfl) (by kernel_rfl) hS ?_; have hN : Nonempty (Held (Below w8.heap.size w8)) := ⟨⟨_, hS⟩⟩; (have r2 := HE2.out; have r4 := HE4.out); (repeat (go_big_quiet_step ((first | (go_at_call 14; exact held_keep (HH8.out _)) | (go_at_call 20; exact held_keep (HN8.out _)) | (go_at_call 9; exact held_keep (HA8.out _)))))); refine wpQuiet_nil ?_; rintro x ⟨⟨_, hx⟩, rfl⟩; clear hN)
          clear r2 r4
          go_wp2_with fail
          go_ret
          exact ⟨rfl, HB8.out.trans (hx.mono HB8.out.size)⟩
        · rw [hv, if_pos rfl] at HACQ
          rw [hv] at HHAS
          go_wp2_with fail
          refine HC.out.mono ?_
          rintro e w5 ⟨rfl, hb5⟩
          have hb5' := hb5.alloc hb5.size (.cells #[.string lp, .string lh, .int .i64 lf, .int .i64 ls, .int .i64 lu] 34)
          have HT6 := Lib.hid (TabAt.after HT.out hb5')
          have HB6 := Lib.hid (HB.out.trans (hb5'.mono HB.out.size))
          have k6 := (Box5.new w5 (.string lp) (.string lh) (.int .i64 lf) (.int .i64 ls) (.int .i64 lu) 34).cell5
          have hw6 : w.heap.size + 1 < w5.heap.size := by have := hb5.size; omega
          have hs6 : (w5.alloc (.cells #[.string lp, .string lh, .int .i64 lf, .int .i64 ls, .int .i64 lu] 34)).heap.size = w5.heap.size + 1 := by simp
          clear hb5 hb5'
          (have k6' := k6; obtain ⟨d0, d1, d2, d3, d4, lt_k6, fz_k6⟩ := k6')
          go_wp2_with fail
          generalize w5.alloc (.cells #[.string lp, .string lh, .int .i64 lf, .int .i64 ls, .int .i64 lu] 34) = w6 at *
          refine (holds_any _ _ T p lh lf _ HT6.out).mono ?_
          rw [HHAS.out]
          rintro e w6b ⟨rfl, hb6b⟩
          have HT6b := Lib.hid (TabAt.after HT6.out hb6b)
          have HB6b := Lib.hid (HB6.out.trans (hb6b.mono HB6.out.size))
          have k6b := k6.below hb6b
          have hs6b : w5.heap.size < w6b.heap.size := by have := hb6b.size; omega
          clear hb6b
          go_wp2_with fail
          refine (acq_post _ _ T p holder term _ HT6b.out HINV.out.ok).mono ?_
          rw [HACQ.out]
          rintro e w7 ⟨rfl, hT7, hO7⟩
          dsimp only [zeroL, Lease.val] at hT7 ⊢
          have k7 := (k6b.only hO7 (by omega) (by omega)).alloc (.cells #[.string ⟨#[]⟩, .string ⟨#[]⟩, .int .i64 0, .int .i64 0, .int .i64 0] 34)
          have j7 := (Box5.new w7 (.string ⟨#[]⟩) (.string ⟨#[]⟩) (.int .i64 0) (.int .i64 0) (.int .i64 0) 34).cell5
          have HT8 := Lib.hid (TabAt.alloc hT7 (.cells #[.string ⟨#[]⟩, .string ⟨#[]⟩, .int .i64 0, .int .i64 0, .int .i64 0] 34))
          have HB8 := Lib.hid ((only_old2 HB6b.out hO7 (by omega) (by omega)).alloc (only_old2 HB6b.out hO7 (by omega) (by omega)).size (.cells #[.string ⟨#[]⟩, .string ⟨#[]⟩, .int .i64 0, .int .i64 0, .int .i64 0] 34))
          have hw8 : w5.heap.size < w7.heap.size := by have := hO7.size; omega
          clear hT7 hO7 d0 d1 d2 d3 d4 lt_k6 fz_k6
          (have k7' := k7; obtain ⟨d0, d1, d2, d3, d4, lt_k7, fz_k7⟩ := k7')
          (have j7' := j7; obtain ⟨e0, e1, e2, e3, e4, lt_j7, fz_j7⟩ := j7')
          go_wp2_with fail
          have HC2 := Lib.hid (current_any _ _ T p _ HT8.out)
          rw [hl] at HC2
          dsimp only [Option.getD, Option.isSome, Lease.val] at HC2
          refine HC2.out.mono ?_
          rintro e w10 ⟨rfl, hb10⟩
          have k10 := (k7.below hb10).alloc (.cells #[.string lp, .string lh, .int .i64 lf, .int .i64 ls, .int .i64 lu] 34)
          have j10 := (j7.below hb10).alloc (.cells #[.string lp, .string lh, .int .i64 lf, .int .i64 ls, .int .i64 lu] 34)
          have m10 := (Box5.new w10 (.string lp) (.string lh) (.int .i64 lf) (.int .i64 ls) (.int .i64 lu) 34).cell5
          have HB10 := Lib.hid ((HB8.out.trans (hb10.mono HB8.out.size)).alloc (HB8.out.trans (hb10.mono HB8.out.size)).size (.cells #[.string lp, .string lh, .int .i64 lf, .int .i64 ls, .int .i64 lu] 34))
          clear hb10 d0 d1 d2 d3 d4 lt_k7 fz_k7 e0 e1 e2 e3 e4 lt_j7 fz_j7
          (have k10' := k10; obtain ⟨d0, d1, d2, d3, d4, lt_k10, fz_k10⟩ := k10')
          (have j10' := j10; obtain ⟨e0, e1, e2, e3, e4, lt_j10, fz_j10⟩ := j10')
          (have m10' := m10; obtain ⟨u0, u1, u2, u3, u4, lt_m10, fz_m10⟩ := m10')
          go_wp2_with (go_at_call 9; refine (awake19_any _).mono ?_; rintro e w9 ⟨rfl, HB9⟩)
          go_ret
          exact ⟨rfl, HB10.out.trans (HB9.mono HB10.out.size)⟩

theorem exc_any (A : Option Addr) (c : Nat) (l : List LOp) (p holder : ByteArray) (term : Int) (w : World) (hA : OpsIn A l w) (hn : l.length ≤ 9223372036854775807) (hg : G0 w) (hp : p.size ≤ 1048576) (hh : holder.size ≤ 1048576) :
    Calls Tryd.prog 4 #[.slice A l.length c, .string p, .string holder, .int .i64 term] w fun e w' => e = .returned (.bool true) ∧ Below w.heap.size w w' := by
  cases hs : smallB l
  · exact exc_small A c l p holder term w hA hn hg hp hh hs
  by_cases g1 : 400 < p.size + holder.size
  · exact exc_long A c l p holder term w hA hn hg hp hh hs g1
  cases hu : useB p
  · exact exc_path A c l p holder term w hA hn hg hp hh hs (by omega) hu
  cases hm : isNameB holder
  · exact exc_name A c l p holder term w hA hn hg hp hh hs (by omega) hu hm
  by_cases h1 : term < 1
  · exact exc_lo A c l p holder term w hA hn hg hp hh hs (by omega) hu hm h1
  by_cases h2 : 1048576 < term
  · exact exc_hi A c l p holder term w hA hn hg hp hh hs (by omega) hu hm (by omega) h2
  have hs2 := hs
  unfold smallB at hs2
  rw [Bool.and_eq_true, decide_eq_true_eq] at hs2
  exact exc_in A c l p holder term w hA hs2.2 hg hp hh hs (by omega) hu hm (by omega) (by omega)

end Go.Proofs.YtphoodnclmplhaaDoor
