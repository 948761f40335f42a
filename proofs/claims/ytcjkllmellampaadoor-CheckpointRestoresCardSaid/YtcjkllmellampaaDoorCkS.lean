/-
  The two slots of a checkpoint: their files' names, and which is the newer one.
-/
import Derived.Test.YtcjkllmellampaaDoorCkDec
import Derived.Test.YtcjkllmellampaaDoorCkEnc
import Derived.Test.YtcjkllmellampaaDoorNames
import Derived.LoopN
namespace Go.Proofs.YtcjkllmellampaaDoor
open Go.RowKit

set_option maxRecDepth 100000 in
theorem small0 (w : World) : Calls Tryd.prog 88 #[.int .i64 0] w fun e w' => e = .returned (.string ⟨#[48]⟩) ∧ w = w' := by
  go_enter Tryd.func88, Tryd.ntmps88
  go_wp2_with fail
  go_ret
  exact ⟨rfl, rfl⟩
set_option maxRecDepth 100000 in
theorem formatInt0 (w : World) : Calls Tryd.prog 87 #[.int .i64 0, .int .i64 10] w fun e w' => e = .returned (.string ⟨#[48]⟩) ∧ w = w' := by
  go_enter Tryd.func87, Tryd.ntmps87
  go_wp2_with fail
  refine (small0 w).mono ?_
  rintro e w' ⟨rfl, rfl⟩
  go_wp2_with fail
  go_ret
  exact ⟨rfl, rfl⟩
set_option maxRecDepth 100000 in
theorem itoaI0 (w : World) : Calls Tryd.prog 85 #[.int .i64 0] w fun e w' => e = .returned (.string ⟨#[48]⟩) ∧ w = w' := by
  go_enter Tryd.func85, Tryd.ntmps85
  go_wp2_with fail
  refine (formatInt0 w).mono ?_
  rintro e w' ⟨rfl, rfl⟩
  go_wp2_with fail
  go_ret
  exact ⟨rfl, rfl⟩
set_option maxRecDepth 100000 in
theorem itoa0 (w : World) : Calls Tryd.prog 71 #[.int .i64 0] w fun e w' => e = .returned (.string ⟨#[48]⟩) ∧ w = w' := by
  go_enter Tryd.func71, Tryd.ntmps71
  go_wp2_with fail
  refine (itoaI0 w).mono ?_
  rintro e w' ⟨rfl, rfl⟩
  go_wp2_with fail
  go_ret
  exact ⟨rfl, rfl⟩
set_option maxRecDepth 100000 in
theorem small1 (w : World) : Calls Tryd.prog 88 #[.int .i64 1] w fun e w' => e = .returned (.string ⟨#[49]⟩) ∧ w = w' := by
  go_enter Tryd.func88, Tryd.ntmps88
  go_wp2_with fail
  go_ret
  exact ⟨rfl, rfl⟩
set_option maxRecDepth 100000 in
theorem formatInt1 (w : World) : Calls Tryd.prog 87 #[.int .i64 1, .int .i64 10] w fun e w' => e = .returned (.string ⟨#[49]⟩) ∧ w = w' := by
  go_enter Tryd.func87, Tryd.ntmps87
  go_wp2_with fail
  refine (small1 w).mono ?_
  rintro e w' ⟨rfl, rfl⟩
  go_wp2_with fail
  go_ret
  exact ⟨rfl, rfl⟩
set_option maxRecDepth 100000 in
theorem itoaI1 (w : World) : Calls Tryd.prog 85 #[.int .i64 1] w fun e w' => e = .returned (.string ⟨#[49]⟩) ∧ w = w' := by
  go_enter Tryd.func85, Tryd.ntmps85
  go_wp2_with fail
  refine (formatInt1 w).mono ?_
  rintro e w' ⟨rfl, rfl⟩
  go_wp2_with fail
  go_ret
  exact ⟨rfl, rfl⟩
set_option maxRecDepth 100000 in
theorem itoa1 (w : World) : Calls Tryd.prog 71 #[.int .i64 1] w fun e w' => e = .returned (.string ⟨#[49]⟩) ∧ w = w' := by
  go_enter Tryd.func71, Tryd.ntmps71
  go_wp2_with fail
  refine (itoaI1 w).mono ?_
  rintro e w' ⟨rfl, rfl⟩
  go_wp2_with fail
  go_ret
  exact ⟨rfl, rfl⟩


set_option maxRecDepth 100000 in
set_option maxHeartbeats 1600000 in
theorem cname_any (s : ByteArray) (w : World) (hs : s.size ≤ 9223372036854775807) :
    Calls Tryd.prog 36 #[.string s] w fun e w' => e = .returned (.bool (nmB false 40 s)) ∧ w = w' := by
  by_cases h0 : s.size < 1 ∨ 40 < s.size
  · have HF := Lib.hid (nm_out (dot := false) h0)
    rcases h0 with h0 | h0
    · go_enter Tryd.func36, Tryd.ntmps36
      go_wp2_with fail
      go_ret
      exact ⟨ret_bool HF.out.symm, rfl⟩
    · go_enter Tryd.func36, Tryd.ntmps36
      go_wp2_with fail
      go_ret
      exact ⟨ret_bool HF.out.symm, rfl⟩
  · have h1 : 1 ≤ s.size := by omega
    have h2 : s.size ≤ 40 := by omega
    have h1b : decide ((s.size : Int) < 1) = false := by simp; omega
    have h2b : decide ((40 : Int) < (s.size : Int)) = false := by simp; omega
    clear h0
    go_enter Tryd.func36, Tryd.ntmps36
    go_wp2_with fail
    clear h1b h2b
    go_loop [15] (fun i => ∃ k : Nat, k ≤ s.size ∧ i = .int .i64 k ∧ Hid ((s.data.toList.take k).all (okc false) = true)) (fun i => s.size - (intOf i).toNat)
    case atStart => exact ⟨0, Nat.zero_le _, rfl, rfl⟩
    case round =>
      obtain ⟨k, hk, rfl, HA⟩ := hrel
      by_cases hlt : k < s.size
      · have hc := s[k].toNat_lt
        have HC : Hid (okc false s[k] = ((decide (97 ≤ s[k].toNat) && decide (s[k].toNat ≤ 122)) || (decide (48 ≤ s[k].toNat) && decide (s[k].toNat ≤ 57)) || decide (s[k].toNat = 45) || (false && decide (s[k].toNat = 46)))) := rfl
        have HN := Lib.hid (@nm_next false s k hlt HA.out)
        have HB := Lib.hid (@nm_bad false 40 s k hlt)
        cases hok : okc false s[k]
        · have HO := Lib.hid hok
          clear hok
          have hx : ¬ (97 ≤ s[k].toNat ∧ s[k].toNat ≤ 122) ∧ ¬ (48 ≤ s[k].toNat ∧ s[k].toNat ≤ 57) ∧ s[k].toNat ≠ 45 := by
            have := HO.out
            rw [HC.out] at this
            simp at this
            omega
          have h45 : ((s[k].toNat : Int) != 45) = true := by rw [bne_iff_ne]; omega
          have hr : s[k].toNat < 48 ∨ (58 ≤ s[k].toNat ∧ s[k].toNat < 97) ∨ 122 < s[k].toNat := by omega
          clear hx hc HC HN
          rcases hr with hr | hr | hr
          all_goals
            go_wp2_with fail
            go_ret
            exact ⟨ret_bool (HB.out HO.out).symm, rfl⟩
        · have HO := Lib.hid hok
          clear hok
          have hx : (97 ≤ s[k].toNat ∧ s[k].toNat ≤ 122) ∨ (48 ≤ s[k].toNat ∧ s[k].toNat ≤ 57) ∨ s[k].toNat = 45 := by
            have := HO.out
            rw [HC.out] at this
            simp at this
            omega
          rcases hx with hx | hx | hx
          · clear hc HC HB
            go_wp2_with fail
            go_round
            case rel => exact ⟨k + 1, by omega, by go_num, HN.out HO.out⟩
            case measure => simp [intOf]; omega
          · clear hc HC HB
            go_wp2_with fail
            go_round
            case rel => exact ⟨k + 1, by omega, by go_num, HN.out HO.out⟩
            case measure => simp [intOf]; omega
          · have h45 : ((s[k].toNat : Int) != 45) = false := by rw [bne_eq_false_iff_eq]; omega
            have h46 : ((s[k].toNat : Int) != 46) = true := by rw [bne_iff_ne]; omega
            have hx1 : s[k].toNat < 48 := by omega
            clear hc HC HB hx
            go_wp2_with fail
            go_round
            case rel => exact ⟨k + 1, by omega, by go_num, HN.out HO.out⟩
            case measure => simp [intOf]; omega







      · have HF : Hid (nmB false 40 s = true) := nm_in h1 h2 (by have := HA.out; rwa [List.take_of_length_le (by simp; omega)] at this)
        go_wp2_with fail
        go_ret
        exact ⟨ret_bool HF.out.symm, rfl⟩



/-- The name of a slot's file. -/
def slotN (name : ByteArray) (i : Nat) : ByteArray := name ++ ⟨#[46]⟩ ++ ⟨#[if i = 0 then 48 else 49]⟩
def posO : Option Ck → Nat
  | none => 0
  | some c => c.pos
def stV (o : Option Ck) : Value := .agg #[.bool o.isSome, .int .i64 (seqO o), .int .i64 (posO o)]
def sCs (d : Nat) (name : ByteArray) (e : Int) (o0 o1 : Option Ck) (x0 x1 : Value) : List Value :=
  [.pointer (some ⟨d, 0, none⟩), .string name, .int .i64 e, .bool o0.isSome, .int .i64 (seqO o0), .int .i64 (posO o0), .bool o1.isSome, .int .i64 (seqO o1), .int .i64 (posO o1), x0, x1]
/-- The state of a slot as it was read. -/
def StAt (g : Gh) (w : World) (v : Value) (o : Option Ck) : Prop := match o with
  | none => v = .slice none 0 0
  | some c => ∃ A, v = .slice A c.st.length c.st.length ∧ BytesAt g w v c.st
theorem StAt.ext {g g' : Gh} {w w' : World} {v : Value} {o : Option Ck} {M : Nat → Prop} (h : StAt g w v o) (hx : Ext M g w g' w') : StAt g' w' v o := by
  cases o with
  | none => exact h
  | some c => obtain ⟨A, h1, h2⟩ := h; exact ⟨A, h1, h2.ext hx⟩
theorem StAt.slice {g : Gh} {w : World} {v : Value} {o : Option Ck} (h : StAt g w v o) : ∃ A n c, v = .slice A n c := by
  cases o with
  | none => exact ⟨_, _, _, h⟩
  | some c => obtain ⟨A, h1, _⟩ := h; exact ⟨_, _, _, h1⟩
/-- What a slot's file holds. -/
def SlotIs (D : Dev) (k : ByteArray) (o : Option Ck) : Prop :=
  (D.now.m k = none ∧ o = none) ∨ ∃ l c, D.now.m k = some l ∧ CkOk c ∧ l <+: encC c ∧ ((l = encC c ∧ o = some c) ∨ (l ≠ encC c ∧ o = none))

set_option maxRecDepth 100000 in
theorem file_any (s i : Nat) (w : World) (name : ByteArray) (hi : i < 2) (hc : w.cell? ⟨s, 1, none⟩ = some (.string name)) (hn : name.size ≤ 40) :
    Calls Tryd.prog 55 #[.pointer (some ⟨s, 0, none⟩), .int .i64 (i : Nat)] w fun e w' => e = .returned (.string (slotN name i)) ∧ ∃ n, w' = w.drewN n := by
  have hS : (fun x : World => x.cell? ⟨s, 1, none⟩ = some (.string name)) w.drew := hc
  rcases (show i = 0 ∨ i = 1 by omega) with rfl | rfl
  · go_enter Tryd.func55, Tryd.ntmps55
    go_wp2_with fail
    (refine wp_region_mix (S := (fun x : World => x.cell? ⟨s, 1, none⟩ = some (.string name))) [7, 8] [([0, 1, 2, 3, 4, 5], 6)] (by kernel_rfl) (by kernel_rfl) (by intro c a d v w h; cases d <;> exact h) hS ?_; have hN : Nonempty (Held ((fun x : World => x.cell? ⟨s, 1, none⟩ = some (.string name)))) := ⟨⟨_, hS⟩⟩)
    have r0 : ∀ y : Held ((fun x : World => x.cell? ⟨s, 1, none⟩ = some (.string name))), y.w.cell? ⟨s, 1, none⟩ = some (.string name) := fun y => y.ok
    (unfold wpMix wpRd; (repeat (first | simp only [List.filterMap_cons] | simp only [List.filterMap_nil] | simp only [List.getElem?_toArray] | simp only [List.getElem?_cons_zero] | simp only [List.getElem?_cons_succ])); (try dsimp only); change wpQuiet _ _ _ _ (_ :: _ :: _ :: _ :: _ :: _ :: []) _; (repeat (go_big_quiet_step (fail))); refine wpQuiet_nil ?_; (try dsimp only))
    go_wp2_with fail
    refine (itoa0 w.drew).mono ?_
    rintro e w2 ⟨rfl, rfl⟩
    go_wp2_with fail
    refine ⟨hS, ?_⟩
    (unfold wpMix wpRd; (repeat (first | simp only [List.filterMap_cons] | simp only [List.filterMap_nil] | simp only [List.getElem?_toArray] | simp only [List.getElem?_cons_zero] | simp only [List.getElem?_cons_succ])); (try dsimp only); change wpQuiet _ _ _ _ (_ :: _ :: []) _; (repeat (go_big_quiet_step (fail))); refine wpQuiet_nil ?_; (try dsimp only))
    go_wp2_with fail
    go_ret
    exact ⟨rfl, 1, rfl⟩
  · go_enter Tryd.func55, Tryd.ntmps55
    go_wp2_with fail
    (refine wp_region_mix (S := (fun x : World => x.cell? ⟨s, 1, none⟩ = some (.string name))) [7, 8] [([0, 1, 2, 3, 4, 5], 6)] (by kernel_rfl) (by kernel_rfl) (by intro c a d v w h; cases d <;> exact h) hS ?_; have hN : Nonempty (Held ((fun x : World => x.cell? ⟨s, 1, none⟩ = some (.string name)))) := ⟨⟨_, hS⟩⟩)
    have r0 : ∀ y : Held ((fun x : World => x.cell? ⟨s, 1, none⟩ = some (.string name))), y.w.cell? ⟨s, 1, none⟩ = some (.string name) := fun y => y.ok
    (unfold wpMix wpRd; (repeat (first | simp only [List.filterMap_cons] | simp only [List.filterMap_nil] | simp only [List.getElem?_toArray] | simp only [List.getElem?_cons_zero] | simp only [List.getElem?_cons_succ])); (try dsimp only); change wpQuiet _ _ _ _ (_ :: _ :: _ :: _ :: _ :: _ :: []) _; (repeat (go_big_quiet_step (fail))); refine wpQuiet_nil ?_; (try dsimp only))
    go_wp2_with fail
    refine (itoa1 w.drew).mono ?_
    rintro e w2 ⟨rfl, rfl⟩
    go_wp2_with fail
    refine ⟨hS, ?_⟩
    (unfold wpMix wpRd; (repeat (first | simp only [List.filterMap_cons] | simp only [List.filterMap_nil] | simp only [List.getElem?_toArray] | simp only [List.getElem?_cons_zero] | simp only [List.getElem?_cons_succ])); (try dsimp only); change wpQuiet _ _ _ _ (_ :: _ :: []) _; (repeat (go_big_quiet_step (fail))); refine wpQuiet_nil ?_; (try dsimp only))
    go_wp2_with fail
    go_ret
    exact ⟨rfl, 1, rfl⟩

theorem slotN_ok {name : ByteArray} (h : nmB false 40 name = true) (i : Nat) : namesOk [slotN name i] = true := by
  have e : slotN name i = name ++ (⟨#[46, if i = 0 then 48 else 49]⟩ : ByteArray) := by
    unfold slotN
    rw [ByteArray.append_assoc]
    rfl
  simp only [namesOk, List.all_cons, List.all_nil, Bool.and_true, e]
  exact namesOk_of name [46, if i = 0 then 48 else 49] h (by simp) (by split <;> decide)
theorem nm_size {name : ByteArray} (h : nmB false 40 name = true) : name.size ≤ 40 := by
  unfold nmB at h
  simp only [Bool.and_eq_true, decide_eq_true_eq] at h
  exact h.1.2

section
variable (d : Nat) (g : Gh) (w : World) (D : Dev) (hD : DevAt g w d D) (k : ByteArray) (hnm : namesOk [k] = true)
include hD hnm
theorem read_none (hdn : D.down = false) (hm : D.now.m k = none) : Calls Tryd.prog 49 #[.pointer (some ⟨d, 0, none⟩), .string k] w fun e w' => ∃ A n cap g', Ext (fun _ => False) g w g' w' ∧ e = .returned (.tuple #[.slice A n cap, .int .i64 301]) := by
  refine (dread_any d 0 g w D hD k hnm).mono ?_
  rintro e w' ⟨A, cap, g', hx, rfl, _⟩
  rw [hdn, hm]
  exact ⟨A, _, cap, g', hx, rfl⟩
theorem read_some (hdn : D.down = false) (l : List UInt8) (hm : D.now.m k = some l) : Calls Tryd.prog 49 #[.pointer (some ⟨d, 0, none⟩), .string k] w fun e w' => ∃ A cap g', Ext (fun _ => False) g w g' w' ∧ e = .returned (.tuple #[.slice A l.length cap, .int .i64 0]) ∧ BytesAt g' w' (.slice A l.length cap) l := by
  have hg : D.now.get k = l := by simp [Fl.get, hm]
  refine (dread_any d 0 g w D hD k hnm).mono ?_
  rintro e w' ⟨A, cap, g', hx, rfl, hb⟩
  have hb := hb hdn
  rw [hg] at hb
  rw [hdn, hm, hg]
  exact ⟨A, cap, g', hx, rfl, hb⟩
theorem read_down (hdn : D.down = true) : Calls Tryd.prog 49 #[.pointer (some ⟨d, 0, none⟩), .string k] w fun e w' => ∃ A cap g', Ext (fun _ => False) g w g' w' ∧ e = .returned (.tuple #[.slice A 0 cap, .int .i64 303]) := by
  refine (dread_any d 0 g w D hD k hnm).mono ?_
  rintro e w' ⟨A, cap, g', hx, rfl, _⟩
  rw [hdn]
  exact ⟨A, cap, g', hx, rfl⟩
end
theorem decode_o (g : Gh) (w : World) (c : Ck) (hc : CkOk c) (l : List UInt8) (hp : l <+: encC c) (o : Option Ck) (ho : (l = encC c ∧ o = some c) ∨ (l ≠ encC c ∧ o = none)) (A : Option Addr) (cap : Nat) (hr : BytesAt g w (.slice A l.length cap) l) :
    Calls Tryd.prog 56 #[.slice A l.length cap] w fun e w' => ∃ g' x, Ext (fun _ => False) g w g' w' ∧ e = .returned (.tuple #[.agg #[.bool o.isSome, .int .i64 (seqO o), .int .i64 (posO o)], x]) ∧ StAt g' w' x o := by
  refine (decode_any g w c hc l hp A cap hr).mono ?_
  rintro e w' ⟨g', hx, h⟩
  rcases ho with ⟨h1, rfl⟩ | ⟨h1, rfl⟩
  · rcases h with ⟨_, A', rfl, hb⟩ | ⟨h2, _⟩
    · exact ⟨g', _, hx, rfl, A', rfl, hb⟩
    · exact absurd h1 h2
  · rcases h with ⟨h2, _⟩ | ⟨_, rfl⟩
    · exact absurd h2 h1
    · exact ⟨g', _, hx, rfl, rfl⟩

/-- While newest reads: so much of the slots is in memory. -/
def NR (s d : Nat) (name : ByteArray) (g : Gh) (w : World) (a b : Option Ck) (wr : World) : Prop :=
  ∃ gr x0 x1, Ext (· = s) g w gr wr ∧ Blk s 83 (sCs d name 0 a b x0 x1) wr ∧ StAt gr wr x0 a ∧ StAt gr wr x1 b ∧ Blk w.heap.size 79 [.bool false, .int .i64 0, .int .i64 0] wr ∧ gr.F w.heap.size = 0
/-- newest leaves the two slots in memory. -/
def NewestP (s d : Nat) (name : ByteArray) (g : Gh) (w : World) (o0 o1 : Option Ck) (e : Ending) (w' : World) : Prop :=
  ∃ g' x0 x1, e = .returned (.tuple #[stV (newS o0 o1).1, .int .i64 ((newS o0 o1).2 : Nat)]) ∧ Ext (· = s) g w g' w' ∧ Blk s 83 (sCs d name 0 o0 o1 x0 x1) w' ∧ StAt g' w' x0 o0 ∧ StAt g' w' x1 o1

/-- The end of newest: the result's box is written. -/
theorem newest_end {s d : Nat} {name : ByteArray} {g gr : Gh} {w x : World} {o0 o1 o : Option Ck} {k : Nat} {x0 x1 : Value} (hx : Ext (· = s) g w gr x) (hb : Blk s 83 (sCs d name 0 o0 o1 x0 x1) x) (h0 : StAt gr x x0 o0) (h1 : StAt gr x x1 o1) (hF : gr.F w.heap.size = 0) (hsl : s < w.heap.size) (hk : newS o0 o1 = (o, k)) (u v y : Value) :
    NewestP s d name g w o0 o1 (.returned (.tuple #[stV o, .int .i64 (k : Nat)])) (((x.setCell ⟨w.heap.size, 0, none⟩ u).setCell ⟨w.heap.size, 1, none⟩ v).setCell ⟨w.heap.size, 2, none⟩ y) := by
  have hy := (((Ext.refl (fun _ => True) gr x).setCell (p := ⟨w.heap.size, 0, none⟩) (fun _ => trivial) hF u).setCell (p := ⟨w.heap.size, 1, none⟩) (fun _ => trivial) hF v).setCell (p := ⟨w.heap.size, 2, none⟩) (fun _ => trivial) hF y
  refine ⟨gr, x0, x1, by rw [hk], Ext.put3 hx (Nat.le_refl _) hF _ _ _, ?_, h0.ext hy, h1.ext hy⟩
  exact ((hb.far (p := ⟨w.heap.size, 0, none⟩) (by dsimp only; omega) _).far (p := ⟨w.heap.size, 1, none⟩) (by dsimp only; omega) _).far (p := ⟨w.heap.size, 2, none⟩) (by dsimp only; omega) _

set_option maxRecDepth 100000 in
set_option maxHeartbeats 6400000 in
theorem newest_any (s d : Nat) (g : Gh) (w : World) (D : Dev) (name : ByteArray) (hD : DevAt g w d D) (hdn : D.down = false) (hnm : nmB false 40 name = true) (o0 o1 : Option Ck) (h0 : SlotIs D (slotN name 0) o0) (h1 : SlotIs D (slotN name 1) o1)
    (hB : Blk s 83 (sCs d name 0 none none (.slice none 0 0) (.slice none 0 0)) w) (hO : g.O s = s) (hF : g.F s = 0) (hsd : s ≠ d) :
    Calls Tryd.prog 38 #[.pointer (some ⟨s, 0, none⟩)] w (NewestP s d name g w o0 o1) := by
  have hns := nm_size hnm
  have HXS : Hid (Ext (· = s) g w (g.box w.heap.size) (w.alloc (.cells #[.bool false, .int .i64 0, .int .i64 0] 79))) := Ext.box _ g w _
  have HBS : Hid (Blk s 83 (sCs d name 0 none none (.slice none 0 0) (.slice none 0 0)) (w.alloc (.cells #[.bool false, .int .i64 0, .int .i64 0] 79))) := hB.alloc _
  have HZS : Hid (Blk w.heap.size 79 [.bool false, .int .i64 0, .int .i64 0] (w.alloc (.cells #[.bool false, .int .i64 0, .int .i64 0] 79))) := Blk.new w 79 [.bool false, .int .i64 0, .int .i64 0]
  have hFS : (g.box w.heap.size).F w.heap.size = 0 := g.box_F _
  generalize g.box w.heap.size = gb at *
  have hsl := hB.lt
  clear hB
  go_enter Tryd.func38, Tryd.ntmps38
  go_wp2_with fail
  go_loopw [7] (fun i wr => (i = .int .i64 0 ∧ NR s d name g w none none wr) ∨ (i = .int .i64 1 ∧ NR s d name g w o0 none wr) ∨ (i = .int .i64 2 ∧ NR s d name g w o0 o1 wr)) (fun i _ => 2 - (intOf i).toNat)
  case atStart =>
    exact .inl ⟨rfl, gb, _, _, HXS.out, HBS.out, rfl, rfl, HZS.out, hFS⟩
  case round =>
    rcases hrel with ⟨rfl, hrel⟩ | ⟨rfl, hrel⟩ | ⟨rfl, hrel⟩
    · obtain ⟨gr, x0, x1, hx, hb, hs0, hs1, hz, hFz⟩ := hrel
      have HX := Lib.hid hx
      have HS0 := Lib.hid hs0
      have HS1 := Lib.hid hs1
      have HZ := Lib.hid hz
      have HB := Lib.hid hb
      have HD := Lib.hid (hD.ext hx (fun h => hsd h.symm))
      have hS : Blk s 83 (sCs d name 0 none none x0 x1) wr.drew := hb
      have q1 : wr.drew.cell? ⟨s, 1, none⟩ = some (.string name) := hb.cell 1
      clear hx hs0 hs1 hz hb
      rcases h0 with ⟨hm, ho⟩ | ⟨l, c, hm, hc, hp, ho⟩
      · subst ho
        go_wp2_with fail
        (refine wp_region_mix (S := Blk s 83 (sCs d name 0 none none x0 x1)) [8, 9, 10, 11, 12] [([0, 1, 2, 3, 4, 5], 6), ([], 7)] (by kernel_rfl) (by kernel_rfl) (by intro c a d v w h; cases d <;> exact h) hS ?_; have hN : Nonempty (Held (Blk s 83 (sCs d name 0 none none x0 x1))) := ⟨⟨_, hS⟩⟩)
        have r0 : ∀ y : Held (Blk s 83 (sCs d name 0 none none x0 x1)), y.w.cell? ⟨s, 0, none⟩ = some (.pointer (some ⟨d, 0, none⟩)) := fun y => y.ok.cell 0
        (unfold wpMix wpRd; (repeat (first | simp only [List.filterMap_cons] | simp only [List.filterMap_nil] | simp only [List.getElem?_toArray] | simp only [List.getElem?_cons_zero] | simp only [List.getElem?_cons_succ])); (try dsimp only); change wpQuiet _ _ _ _ (_ :: _ :: _ :: _ :: _ :: _ :: []) _; (repeat (go_big_quiet_step (fail))); refine wpQuiet_nil ?_; (try dsimp only))
        go_wp2_with fail
        refine (file_any s 0 wr.drew name (by omega) q1 hns).mono ?_
        rintro e w2 ⟨rfl, n, rfl⟩
        have hS2 : Blk s 83 (sCs d name 0 none none x0 x1) (wr.drewN (1 + n)) := hS
        have hxn : Ext (fun _ => False) gr wr gr (wr.drewN (1 + n)) := (Ext.refl _ _ _).drewN _
        have HD2 := Lib.hid (HD.out.ext hxn (fun h => h))
        go_wp2_with fail
        refine ⟨hS2, ?_⟩
        (unfold wpMix wpRd; (repeat (first | simp only [List.filterMap_cons] | simp only [List.filterMap_nil] | simp only [List.getElem?_toArray] | simp only [List.getElem?_cons_zero] | simp only [List.getElem?_cons_succ])); (try dsimp only); change wpQuiet _ _ _ _ ([]) _; (repeat (go_big_quiet_step (fail))); refine wpQuiet_nil ?_; (try dsimp only))
        go_wp2_with fail
        refine (read_none d gr _ D HD2.out (slotN name 0) (slotN_ok hnm 0) hdn hm).mono ?_
        rintro e w3 ⟨A, n', cap, g3, hx3, rfl⟩
        have HXA := Lib.hid (HX.out.trans ((hxn.trans hx3).imp (fun _ h => h.elim)))
        have HXB := Lib.hid (hxn.trans hx3)
        have hS3 : Blk s 83 (sCs d name 0 none none x0 x1) w3 := hS2.ext hx3 (fun h => h)
        have HZ3 := Lib.hid ((show Blk w.heap.size 79 [.bool false, .int .i64 0, .int .i64 0] (wr.drewN (1 + n)) from HZ.out).ext hx3 (fun h => h))
        have hF3 := hx3.zero _ (show w.heap.size < (wr.drewN (1 + n)).heap.size from HZ.out.lt) hFz
        go_wp2_with fail
        refine ⟨hS3, ?_⟩
        (unfold wpMix wpRd; (repeat (first | simp only [List.filterMap_cons] | simp only [List.filterMap_nil] | simp only [List.getElem?_toArray] | simp only [List.getElem?_cons_zero] | simp only [List.getElem?_cons_succ])); (try dsimp only); change wpQuiet _ _ _ _ (_ :: _ :: _ :: _ :: _ :: []) _; (repeat (go_big_quiet_step (fail))); refine wpQuiet_nil ?_; (try dsimp only))
        go_wp2_with fail
        go_round
        case rel => exact (Or.inr <| Or.inl ⟨rfl, g3, x0, x1, HXA.out, hS3, HS0.out.ext HXB.out, HS1.out.ext HXB.out, HZ3.out, hF3⟩)
        case measure => simp [intOf]
      · have HO := Lib.hid ho
        have HP := Lib.hid hp
        clear ho hp
        go_wp2_with fail
        (refine wp_region_mix (S := Blk s 83 (sCs d name 0 none none x0 x1)) [8, 9, 10, 11, 12] [([0, 1, 2, 3, 4, 5], 6), ([], 7)] (by kernel_rfl) (by kernel_rfl) (by intro c a d v w h; cases d <;> exact h) hS ?_; have hN : Nonempty (Held (Blk s 83 (sCs d name 0 none none x0 x1))) := ⟨⟨_, hS⟩⟩)
        have r0 : ∀ y : Held (Blk s 83 (sCs d name 0 none none x0 x1)), y.w.cell? ⟨s, 0, none⟩ = some (.pointer (some ⟨d, 0, none⟩)) := fun y => y.ok.cell 0
        (unfold wpMix wpRd; (repeat (first | simp only [List.filterMap_cons] | simp only [List.filterMap_nil] | simp only [List.getElem?_toArray] | simp only [List.getElem?_cons_zero] | simp only [List.getElem?_cons_succ])); (try dsimp only); change wpQuiet _ _ _ _ (_ :: _ :: _ :: _ :: _ :: _ :: []) _; (repeat (go_big_quiet_step (fail))); refine wpQuiet_nil ?_; (try dsimp only))
        go_wp2_with fail
        refine (file_any s 0 wr.drew name (by omega) q1 hns).mono ?_
        rintro e w2 ⟨rfl, n, rfl⟩
        have hS2 : Blk s 83 (sCs d name 0 none none x0 x1) (wr.drewN (1 + n)) := hS
        have hxn : Ext (fun _ => False) gr wr gr (wr.drewN (1 + n)) := (Ext.refl _ _ _).drewN _
        have HD2 := Lib.hid (HD.out.ext hxn (fun h => h))
        go_wp2_with fail
        refine ⟨hS2, ?_⟩
        (unfold wpMix wpRd; (repeat (first | simp only [List.filterMap_cons] | simp only [List.filterMap_nil] | simp only [List.getElem?_toArray] | simp only [List.getElem?_cons_zero] | simp only [List.getElem?_cons_succ])); (try dsimp only); change wpQuiet _ _ _ _ ([]) _; (repeat (go_big_quiet_step (fail))); refine wpQuiet_nil ?_; (try dsimp only))
        go_wp2_with fail
        refine (read_some d gr _ D HD2.out (slotN name 0) (slotN_ok hnm 0) hdn l hm).mono ?_
        rintro e w3 ⟨A, cap, g3, hx3, rfl, hby⟩
        have HBY := Lib.hid hby
        have HXB := Lib.hid (hxn.trans hx3)
        have hS3 : Blk s 83 (sCs d name 0 none none x0 x1) w3 := hS2.ext hx3 (fun h => h)
        go_wp2_with fail
        refine ⟨hS3, ?_⟩
        (unfold wpMix wpRd; (repeat (first | simp only [List.filterMap_cons] | simp only [List.filterMap_nil] | simp only [List.getElem?_toArray] | simp only [List.getElem?_cons_zero] | simp only [List.getElem?_cons_succ])); (try dsimp only); change wpQuiet _ _ _ _ (_ :: _ :: _ :: _ :: _ :: []) _; (repeat (go_big_quiet_step (fail))); refine wpQuiet_nil ?_; (try dsimp only))
        clear hN r0
        go_wp2_with fail
        clear hS hS2
        have hS : (fun x : World => w3.heap.size ≤ x.heap.size) w3.drew := Nat.le_refl _
        (refine wp_region_mix (S := (fun x : World => w3.heap.size ≤ x.heap.size)) [] [([0, 1, 2, 3, 4, 9, 10, 13, 14], 5), ([6, 7, 8, 11], 12), ([15], 16)] (by kernel_rfl) (by kernel_rfl) (by intro c a d v w h; cases d <;> exact h) hS ?_; have hN : Nonempty (Held ((fun x : World => w3.heap.size ≤ x.heap.size))) := ⟨⟨_, hS⟩⟩)
        (unfold wpMix wpRd; (repeat (first | simp only [List.filterMap_cons] | simp only [List.filterMap_nil] | simp only [List.getElem?_toArray] | simp only [List.getElem?_cons_zero] | simp only [List.getElem?_cons_succ])); (try dsimp only); change wpQuiet _ _ _ _ (_ :: _ :: _ :: _ :: _ :: _ :: _ :: _ :: _ :: []) _; (repeat (go_big_quiet_step (fail))); refine wpQuiet_nil ?_; (try dsimp only))
        go_wp2_with fail
        have hxd : Ext (fun _ => False) g3 w3 g3 w3.drew := (Ext.refl _ _ _).drew
        refine (decode_o g3 w3.drew c hc l HP.out _ HO.out A cap (HBY.out.ext hxd)).mono ?_
        rintro e w4 ⟨g4, xx, hx4, rfl, hst⟩
        obtain ⟨A5, n5, c5, rfl⟩ := hst.slice
        have HXB4 := Lib.hid ((HXB.out.trans hxd).trans hx4)
        have HS4 := Lib.hid (hS3.ext (hxd.trans hx4) (fun h => h))
        have HST := Lib.hid hst
        have HSZ4 : Hid (w3.heap.size ≤ w4.heap.size) := hx4.size
        have z := HS4.out.fz
        have p3 : w4.cell? ⟨s, 3, none⟩ = some (.bool false) := HS4.out.cell 3
        have p4 : w4.cell? ⟨s, 4, none⟩ = some (.int .i64 0) := HS4.out.cell 4
        have p5 : w4.cell? ⟨s, 5, none⟩ = some (.int .i64 0) := HS4.out.cell 5
        have p9 : w4.cell? ⟨s, 9, none⟩ = some x0 := HS4.out.cell 9
        clear hx4 hxd hst hx3 hxn
        go_wp2_with fail
        refine ⟨HSZ4.out, ?_⟩
        (unfold wpMix wpRd; (repeat (first | simp only [List.filterMap_cons] | simp only [List.filterMap_nil] | simp only [List.getElem?_toArray] | simp only [List.getElem?_cons_zero] | simp only [List.getElem?_cons_succ])); (try dsimp only); change wpQuiet _ _ _ _ (_ :: _ :: _ :: _ :: []) _; (repeat (go_big_quiet_step (fail))); refine wpQuiet_nil ?_; (try dsimp only))
        go_wp2_with fail
        refine ⟨by simpa using HSZ4.out, ?_⟩
        (unfold wpMix wpRd; (repeat (first | simp only [List.filterMap_cons] | simp only [List.filterMap_nil] | simp only [List.getElem?_toArray] | simp only [List.getElem?_cons_zero] | simp only [List.getElem?_cons_succ])); (try dsimp only); change wpQuiet _ _ _ _ (_ :: []) _; (repeat (go_big_quiet_step (fail))); refine wpQuiet_nil ?_; (try dsimp only))
        go_wp2_with fail
        refine ⟨by simpa using HSZ4.out, ?_⟩
        (unfold wpMix wpRd; (repeat (first | simp only [List.filterMap_cons] | simp only [List.filterMap_nil] | simp only [List.getElem?_toArray] | simp only [List.getElem?_cons_zero] | simp only [List.getElem?_cons_succ])); (try dsimp only); change wpQuiet _ _ _ _ ([]) _; (repeat (go_big_quiet_step (fail))); refine wpQuiet_nil ?_; (try dsimp only))
        clear hN
        go_wp2_with fail
        go_round
        case rel =>
          have hO4 : g4.O s = s := (HXB4.out.own s HB.out.lt).trans ((HX.out.own s hsl).trans hO)
          have hF4 : g4.F s = 0 := HXB4.out.zero s HB.out.lt (HX.out.zero s hsl hF)
          have hF5 := HXB4.out.zero _ HZ.out.lt hFz
          have hy := (((((Ext.refl (· = s) g4 w4).setCell (p := ⟨s, 3, none⟩) (fun _ => hO4) hF4 (.bool o0.isSome)).setCell (p := ⟨s, 4, none⟩) (fun _ => hO4) hF4 (.int .i64 (seqO o0))).setCell (p := ⟨s, 5, none⟩) (fun _ => hO4) hF4 (.int .i64 (posO o0))).setCell (p := ⟨s, 9, none⟩) (fun _ => hO4) hF4 (.slice A5 n5 c5))
          have hX5 := (HX.out.trans (HXB4.out.imp (fun _ h => h.elim))).trans hy
          have hb5 := ((((HS4.out.set 3 (.bool o0.isSome)).set 4 (.int .i64 (seqO o0))).set 5 (.int .i64 (posO o0))).set 9 (.slice A5 n5 c5))
          refine (Or.inr <| Or.inl ⟨rfl, g4, .slice A5 n5 c5, x1, hX5, ?_, HST.out.ext hy, (HS1.out.ext HXB4.out).ext hy, ?_, hF5⟩)
          · simpa [sCs] using hb5
          · have hz4 := HZ.out.ext HXB4.out (fun h => h)
            exact (((hz4.far (p := ⟨s, 3, none⟩) (by dsimp only; omega) _).far (p := ⟨s, 4, none⟩) (by dsimp only; omega) _).far (p := ⟨s, 5, none⟩) (by dsimp only; omega) _).far (p := ⟨s, 9, none⟩) (by dsimp only; omega) _
        case measure => simp [intOf]
    · obtain ⟨gr, x0, x1, hx, hb, hs0, hs1, hz, hFz⟩ := hrel
      have HX := Lib.hid hx
      have HS0 := Lib.hid hs0
      have HS1 := Lib.hid hs1
      have HZ := Lib.hid hz
      have HB := Lib.hid hb
      have HD := Lib.hid (hD.ext hx (fun h => hsd h.symm))
      have hS : Blk s 83 (sCs d name 0 o0 none x0 x1) wr.drew := hb
      have q1 : wr.drew.cell? ⟨s, 1, none⟩ = some (.string name) := hb.cell 1
      clear hx hs0 hs1 hz hb
      rcases h1 with ⟨hm, ho⟩ | ⟨l, c, hm, hc, hp, ho⟩
      · subst ho
        go_wp2_with fail
        (refine wp_region_mix (S := Blk s 83 (sCs d name 0 o0 none x0 x1)) [8, 9, 10, 11, 12] [([0, 1, 2, 3, 4, 5], 6), ([], 7)] (by kernel_rfl) (by kernel_rfl) (by intro c a d v w h; cases d <;> exact h) hS ?_; have hN : Nonempty (Held (Blk s 83 (sCs d name 0 o0 none x0 x1))) := ⟨⟨_, hS⟩⟩)
        have r0 : ∀ y : Held (Blk s 83 (sCs d name 0 o0 none x0 x1)), y.w.cell? ⟨s, 0, none⟩ = some (.pointer (some ⟨d, 0, none⟩)) := fun y => y.ok.cell 0
        (unfold wpMix wpRd; (repeat (first | simp only [List.filterMap_cons] | simp only [List.filterMap_nil] | simp only [List.getElem?_toArray] | simp only [List.getElem?_cons_zero] | simp only [List.getElem?_cons_succ])); (try dsimp only); change wpQuiet _ _ _ _ (_ :: _ :: _ :: _ :: _ :: _ :: []) _; (repeat (go_big_quiet_step (fail))); refine wpQuiet_nil ?_; (try dsimp only))
        go_wp2_with fail
        refine (file_any s 1 wr.drew name (by omega) q1 hns).mono ?_
        rintro e w2 ⟨rfl, n, rfl⟩
        have hS2 : Blk s 83 (sCs d name 0 o0 none x0 x1) (wr.drewN (1 + n)) := hS
        have hxn : Ext (fun _ => False) gr wr gr (wr.drewN (1 + n)) := (Ext.refl _ _ _).drewN _
        have HD2 := Lib.hid (HD.out.ext hxn (fun h => h))
        go_wp2_with fail
        refine ⟨hS2, ?_⟩
        (unfold wpMix wpRd; (repeat (first | simp only [List.filterMap_cons] | simp only [List.filterMap_nil] | simp only [List.getElem?_toArray] | simp only [List.getElem?_cons_zero] | simp only [List.getElem?_cons_succ])); (try dsimp only); change wpQuiet _ _ _ _ ([]) _; (repeat (go_big_quiet_step (fail))); refine wpQuiet_nil ?_; (try dsimp only))
        go_wp2_with fail
        refine (read_none d gr _ D HD2.out (slotN name 1) (slotN_ok hnm 1) hdn hm).mono ?_
        rintro e w3 ⟨A, n', cap, g3, hx3, rfl⟩
        have HXA := Lib.hid (HX.out.trans ((hxn.trans hx3).imp (fun _ h => h.elim)))
        have HXB := Lib.hid (hxn.trans hx3)
        have hS3 : Blk s 83 (sCs d name 0 o0 none x0 x1) w3 := hS2.ext hx3 (fun h => h)
        have HZ3 := Lib.hid ((show Blk w.heap.size 79 [.bool false, .int .i64 0, .int .i64 0] (wr.drewN (1 + n)) from HZ.out).ext hx3 (fun h => h))
        have hF3 := hx3.zero _ (show w.heap.size < (wr.drewN (1 + n)).heap.size from HZ.out.lt) hFz
        go_wp2_with fail
        refine ⟨hS3, ?_⟩
        (unfold wpMix wpRd; (repeat (first | simp only [List.filterMap_cons] | simp only [List.filterMap_nil] | simp only [List.getElem?_toArray] | simp only [List.getElem?_cons_zero] | simp only [List.getElem?_cons_succ])); (try dsimp only); change wpQuiet _ _ _ _ (_ :: _ :: _ :: _ :: _ :: []) _; (repeat (go_big_quiet_step (fail))); refine wpQuiet_nil ?_; (try dsimp only))
        go_wp2_with fail
        go_round
        case rel => exact (Or.inr <| Or.inr ⟨rfl, g3, x0, x1, HXA.out, hS3, HS0.out.ext HXB.out, HS1.out.ext HXB.out, HZ3.out, hF3⟩)
        case measure => simp [intOf]
      · have HO := Lib.hid ho
        have HP := Lib.hid hp
        clear ho hp
        go_wp2_with fail
        (refine wp_region_mix (S := Blk s 83 (sCs d name 0 o0 none x0 x1)) [8, 9, 10, 11, 12] [([0, 1, 2, 3, 4, 5], 6), ([], 7)] (by kernel_rfl) (by kernel_rfl) (by intro c a d v w h; cases d <;> exact h) hS ?_; have hN : Nonempty (Held (Blk s 83 (sCs d name 0 o0 none x0 x1))) := ⟨⟨_, hS⟩⟩)
        have r0 : ∀ y : Held (Blk s 83 (sCs d name 0 o0 none x0 x1)), y.w.cell? ⟨s, 0, none⟩ = some (.pointer (some ⟨d, 0, none⟩)) := fun y => y.ok.cell 0
        (unfold wpMix wpRd; (repeat (first | simp only [List.filterMap_cons] | simp only [List.filterMap_nil] | simp only [List.getElem?_toArray] | simp only [List.getElem?_cons_zero] | simp only [List.getElem?_cons_succ])); (try dsimp only); change wpQuiet _ _ _ _ (_ :: _ :: _ :: _ :: _ :: _ :: []) _; (repeat (go_big_quiet_step (fail))); refine wpQuiet_nil ?_; (try dsimp only))
        go_wp2_with fail
        refine (file_any s 1 wr.drew name (by omega) q1 hns).mono ?_
        rintro e w2 ⟨rfl, n, rfl⟩
        have hS2 : Blk s 83 (sCs d name 0 o0 none x0 x1) (wr.drewN (1 + n)) := hS
        have hxn : Ext (fun _ => False) gr wr gr (wr.drewN (1 + n)) := (Ext.refl _ _ _).drewN _
        have HD2 := Lib.hid (HD.out.ext hxn (fun h => h))
        go_wp2_with fail
        refine ⟨hS2, ?_⟩
        (unfold wpMix wpRd; (repeat (first | simp only [List.filterMap_cons] | simp only [List.filterMap_nil] | simp only [List.getElem?_toArray] | simp only [List.getElem?_cons_zero] | simp only [List.getElem?_cons_succ])); (try dsimp only); change wpQuiet _ _ _ _ ([]) _; (repeat (go_big_quiet_step (fail))); refine wpQuiet_nil ?_; (try dsimp only))
        go_wp2_with fail
        refine (read_some d gr _ D HD2.out (slotN name 1) (slotN_ok hnm 1) hdn l hm).mono ?_
        rintro e w3 ⟨A, cap, g3, hx3, rfl, hby⟩
        have HBY := Lib.hid hby
        have HXB := Lib.hid (hxn.trans hx3)
        have hS3 : Blk s 83 (sCs d name 0 o0 none x0 x1) w3 := hS2.ext hx3 (fun h => h)
        go_wp2_with fail
        refine ⟨hS3, ?_⟩
        (unfold wpMix wpRd; (repeat (first | simp only [List.filterMap_cons] | simp only [List.filterMap_nil] | simp only [List.getElem?_toArray] | simp only [List.getElem?_cons_zero] | simp only [List.getElem?_cons_succ])); (try dsimp only); change wpQuiet _ _ _ _ (_ :: _ :: _ :: _ :: _ :: []) _; (repeat (go_big_quiet_step (fail))); refine wpQuiet_nil ?_; (try dsimp only))
        clear hN r0
        go_wp2_with fail
        clear hS hS2
        have hS : (fun x : World => w3.heap.size ≤ x.heap.size) w3.drew := Nat.le_refl _
        (refine wp_region_mix (S := (fun x : World => w3.heap.size ≤ x.heap.size)) [] [([0, 1, 2, 3, 4, 9, 10, 13, 14], 5), ([6, 7, 8, 11], 12), ([15], 16)] (by kernel_rfl) (by kernel_rfl) (by intro c a d v w h; cases d <;> exact h) hS ?_; have hN : Nonempty (Held ((fun x : World => w3.heap.size ≤ x.heap.size))) := ⟨⟨_, hS⟩⟩)
        (unfold wpMix wpRd; (repeat (first | simp only [List.filterMap_cons] | simp only [List.filterMap_nil] | simp only [List.getElem?_toArray] | simp only [List.getElem?_cons_zero] | simp only [List.getElem?_cons_succ])); (try dsimp only); change wpQuiet _ _ _ _ (_ :: _ :: _ :: _ :: _ :: _ :: _ :: _ :: _ :: []) _; (repeat (go_big_quiet_step (fail))); refine wpQuiet_nil ?_; (try dsimp only))
        go_wp2_with fail
        have hxd : Ext (fun _ => False) g3 w3 g3 w3.drew := (Ext.refl _ _ _).drew
        refine (decode_o g3 w3.drew c hc l HP.out _ HO.out A cap (HBY.out.ext hxd)).mono ?_
        rintro e w4 ⟨g4, xx, hx4, rfl, hst⟩
        obtain ⟨A5, n5, c5, rfl⟩ := hst.slice
        have HXB4 := Lib.hid ((HXB.out.trans hxd).trans hx4)
        have HS4 := Lib.hid (hS3.ext (hxd.trans hx4) (fun h => h))
        have HST := Lib.hid hst
        have HSZ4 : Hid (w3.heap.size ≤ w4.heap.size) := hx4.size
        have z := HS4.out.fz
        have p3 : w4.cell? ⟨s, 6, none⟩ = some (.bool false) := HS4.out.cell 6
        have p4 : w4.cell? ⟨s, 7, none⟩ = some (.int .i64 0) := HS4.out.cell 7
        have p5 : w4.cell? ⟨s, 8, none⟩ = some (.int .i64 0) := HS4.out.cell 8
        have p9 : w4.cell? ⟨s, 10, none⟩ = some x1 := HS4.out.cell 10
        clear hx4 hxd hst hx3 hxn
        go_wp2_with fail
        refine ⟨HSZ4.out, ?_⟩
        (unfold wpMix wpRd; (repeat (first | simp only [List.filterMap_cons] | simp only [List.filterMap_nil] | simp only [List.getElem?_toArray] | simp only [List.getElem?_cons_zero] | simp only [List.getElem?_cons_succ])); (try dsimp only); change wpQuiet _ _ _ _ (_ :: _ :: _ :: _ :: []) _; (repeat (go_big_quiet_step (fail))); refine wpQuiet_nil ?_; (try dsimp only))
        go_wp2_with fail
        refine ⟨by simpa using HSZ4.out, ?_⟩
        (unfold wpMix wpRd; (repeat (first | simp only [List.filterMap_cons] | simp only [List.filterMap_nil] | simp only [List.getElem?_toArray] | simp only [List.getElem?_cons_zero] | simp only [List.getElem?_cons_succ])); (try dsimp only); change wpQuiet _ _ _ _ (_ :: []) _; (repeat (go_big_quiet_step (fail))); refine wpQuiet_nil ?_; (try dsimp only))
        go_wp2_with fail
        refine ⟨by simpa using HSZ4.out, ?_⟩
        (unfold wpMix wpRd; (repeat (first | simp only [List.filterMap_cons] | simp only [List.filterMap_nil] | simp only [List.getElem?_toArray] | simp only [List.getElem?_cons_zero] | simp only [List.getElem?_cons_succ])); (try dsimp only); change wpQuiet _ _ _ _ ([]) _; (repeat (go_big_quiet_step (fail))); refine wpQuiet_nil ?_; (try dsimp only))
        clear hN
        go_wp2_with fail
        go_round
        case rel =>
          have hO4 : g4.O s = s := (HXB4.out.own s HB.out.lt).trans ((HX.out.own s hsl).trans hO)
          have hF4 : g4.F s = 0 := HXB4.out.zero s HB.out.lt (HX.out.zero s hsl hF)
          have hF5 := HXB4.out.zero _ HZ.out.lt hFz
          have hy := (((((Ext.refl (· = s) g4 w4).setCell (p := ⟨s, 6, none⟩) (fun _ => hO4) hF4 (.bool o1.isSome)).setCell (p := ⟨s, 7, none⟩) (fun _ => hO4) hF4 (.int .i64 (seqO o1))).setCell (p := ⟨s, 8, none⟩) (fun _ => hO4) hF4 (.int .i64 (posO o1))).setCell (p := ⟨s, 10, none⟩) (fun _ => hO4) hF4 (.slice A5 n5 c5))
          have hX5 := (HX.out.trans (HXB4.out.imp (fun _ h => h.elim))).trans hy
          have hb5 := ((((HS4.out.set 6 (.bool o1.isSome)).set 7 (.int .i64 (seqO o1))).set 8 (.int .i64 (posO o1))).set 10 (.slice A5 n5 c5))
          refine (Or.inr <| Or.inr ⟨rfl, g4, x0, .slice A5 n5 c5, hX5, ?_, (HS0.out.ext HXB4.out).ext hy, HST.out.ext hy, ?_, hF5⟩)
          · simpa [sCs] using hb5
          · have hz4 := HZ.out.ext HXB4.out (fun h => h)
            exact (((hz4.far (p := ⟨s, 6, none⟩) (by dsimp only; omega) _).far (p := ⟨s, 7, none⟩) (by dsimp only; omega) _).far (p := ⟨s, 8, none⟩) (by dsimp only; omega) _).far (p := ⟨s, 10, none⟩) (by dsimp only; omega) _
        case measure => simp [intOf]
    · obtain ⟨gr, x0, x1, hx, hb, hs0, hs1, hz, hFz⟩ := hrel
      have HX := Lib.hid hx
      have HS0 := Lib.hid hs0
      have HS1 := Lib.hid hs1
      have HZ := Lib.hid hz
      have HB := Lib.hid hb
      have p3 : wr.cell? ⟨s, 3, none⟩ = some (.bool o0.isSome) := hb.cell 3
      have p4 : wr.cell? ⟨s, 4, none⟩ = some (.int .i64 (seqO o0)) := hb.cell 4
      have p5 : wr.cell? ⟨s, 5, none⟩ = some (.int .i64 (posO o0)) := hb.cell 5
      have p6 : wr.cell? ⟨s, 6, none⟩ = some (.bool o1.isSome) := hb.cell 6
      have p7 : wr.cell? ⟨s, 7, none⟩ = some (.int .i64 (seqO o1)) := hb.cell 7
      have p8 : wr.cell? ⟨s, 8, none⟩ = some (.int .i64 (posO o1)) := hb.cell 8
      have z := hz.fz
      have c0 : wr.cell? ⟨w.heap.size, 0, none⟩ = some (.bool false) := hz.cell 0
      have c1 : wr.cell? ⟨w.heap.size, 1, none⟩ = some (.int .i64 0) := hz.cell 1
      have c2 : wr.cell? ⟨w.heap.size, 2, none⟩ = some (.int .i64 0) := hz.cell 2
      clear hx hs0 hs1 hz hb
      cases o1 with
      | none =>
        go_wp2_with fail
        have hS : (fun x : World => ∃ n, x = wr.drewN n) wr.drew := ⟨1, rfl⟩
        refine wp_region_s (S := (fun x : World => ∃ n, x = wr.drewN n)) (by kernel_rfl) (by kernel_rfl) hS ?_
        have hN : Nonempty (Held (fun x : World => ∃ n, x = wr.drewN n)) := ⟨⟨_, hS⟩⟩
        have r6 : ∀ y : Held ((fun x : World => ∃ n, x = wr.drewN n)), y.w.cell? ⟨s, 6, none⟩ = some (.bool false) := fun y => (by obtain ⟨n, hn⟩ := y.ok; rw [hn]; exact p6)
        have r7 : ∀ y : Held ((fun x : World => ∃ n, x = wr.drewN n)), y.w.cell? ⟨s, 7, none⟩ = some (.int .i64 0) := fun y => (by obtain ⟨n, hn⟩ := y.ok; rw [hn]; exact p7)
        have r8 : ∀ y : Held ((fun x : World => ∃ n, x = wr.drewN n)), y.w.cell? ⟨s, 8, none⟩ = some (.int .i64 0) := fun y => (by obtain ⟨n, hn⟩ := y.ok; rw [hn]; exact p8)
        (repeat (go_big_quiet_step (fail)))
        refine wpQuiet_nil ?_
        rintro _ ⟨⟨x, n, rfl⟩, rfl⟩
        clear hN r6 r7 r8
        go_wp2_with fail
        refine bodyPost_ret (v := .tuple #[.agg #[.bool o0.isSome, .int .i64 (seqO o0), .int .i64 (posO o0)], .int .i64 1]) (by simp [results, Tryd.results38, go_sem, c0, c1, c2]) rfl ?_
        exact newest_end (x := wr.drewN n) (HX.out.drewN n) HB.out (HS0.out.ext ((Ext.refl (fun _ => False) _ _).drewN n)) (HS1.out.ext ((Ext.refl (fun _ => False) _ _).drewN n)) hFz hsl (by simp [newS]) _ _ _
      | some cc =>
        have p6' : wr.cell? ⟨s, 6, none⟩ = some (.bool true) := p6
        have p7' : wr.cell? ⟨s, 7, none⟩ = some (.int .i64 cc.seq) := p7
        have p8' : wr.cell? ⟨s, 8, none⟩ = some (.int .i64 cc.pos) := p8
        clear p6 p7 p8
        have p6 := p6'
        have p7 := p7'
        have p8 := p8'
        clear p6' p7' p8'
        by_cases hlt : cc.seq < seqO o0
        · go_wp2_with fail
          have hS : (fun x : World => ∃ n, x = wr.drewN n) wr.drew := ⟨1, rfl⟩
          refine wp_region_s (S := (fun x : World => ∃ n, x = wr.drewN n)) (by kernel_rfl) (by kernel_rfl) hS ?_
          have hN : Nonempty (Held (fun x : World => ∃ n, x = wr.drewN n)) := ⟨⟨_, hS⟩⟩
          have r4 : ∀ y : Held ((fun x : World => ∃ n, x = wr.drewN n)), y.w.cell? ⟨s, 4, none⟩ = some (.int .i64 (seqO o0)) := fun y => (by obtain ⟨n, hn⟩ := y.ok; rw [hn]; exact p4)
          have r6 : ∀ y : Held ((fun x : World => ∃ n, x = wr.drewN n)), y.w.cell? ⟨s, 6, none⟩ = some (.bool true) := fun y => (by obtain ⟨n, hn⟩ := y.ok; rw [hn]; exact p6)
          have r7 : ∀ y : Held ((fun x : World => ∃ n, x = wr.drewN n)), y.w.cell? ⟨s, 7, none⟩ = some (.int .i64 cc.seq) := fun y => (by obtain ⟨n, hn⟩ := y.ok; rw [hn]; exact p7)
          have r8 : ∀ y : Held ((fun x : World => ∃ n, x = wr.drewN n)), y.w.cell? ⟨s, 8, none⟩ = some (.int .i64 cc.pos) := fun y => (by obtain ⟨n, hn⟩ := y.ok; rw [hn]; exact p8)
          (repeat (go_big_quiet_step (fail)))
          refine wpQuiet_nil ?_
          rintro _ ⟨⟨x, n, rfl⟩, rfl⟩
          clear hN r4 r6 r7 r8
          go_wp2_with fail
          refine bodyPost_ret (v := .tuple #[.agg #[.bool o0.isSome, .int .i64 (seqO o0), .int .i64 (posO o0)], .int .i64 1]) (by simp [results, Tryd.results38, go_sem, c0, c1, c2]) rfl ?_
          exact newest_end (x := wr.drewN n) (HX.out.drewN n) HB.out (HS0.out.ext ((Ext.refl (fun _ => False) _ _).drewN n)) (HS1.out.ext ((Ext.refl (fun _ => False) _ _).drewN n)) hFz hsl (by unfold newS; rw [if_pos (.inr hlt)]) _ _ _
        · go_wp2_with fail
          have hS : (fun x : World => ∃ n, x = wr.drewN n) wr.drew := ⟨1, rfl⟩
          refine wp_region_s (S := (fun x : World => ∃ n, x = wr.drewN n)) (by kernel_rfl) (by kernel_rfl) hS ?_
          have hN : Nonempty (Held (fun x : World => ∃ n, x = wr.drewN n)) := ⟨⟨_, hS⟩⟩
          have r4 : ∀ y : Held ((fun x : World => ∃ n, x = wr.drewN n)), y.w.cell? ⟨s, 4, none⟩ = some (.int .i64 (seqO o0)) := fun y => (by obtain ⟨n, hn⟩ := y.ok; rw [hn]; exact p4)
          have r6 : ∀ y : Held ((fun x : World => ∃ n, x = wr.drewN n)), y.w.cell? ⟨s, 6, none⟩ = some (.bool true) := fun y => (by obtain ⟨n, hn⟩ := y.ok; rw [hn]; exact p6)
          have r7 : ∀ y : Held ((fun x : World => ∃ n, x = wr.drewN n)), y.w.cell? ⟨s, 7, none⟩ = some (.int .i64 cc.seq) := fun y => (by obtain ⟨n, hn⟩ := y.ok; rw [hn]; exact p7)
          have r8 : ∀ y : Held ((fun x : World => ∃ n, x = wr.drewN n)), y.w.cell? ⟨s, 8, none⟩ = some (.int .i64 cc.pos) := fun y => (by obtain ⟨n, hn⟩ := y.ok; rw [hn]; exact p8)
          (repeat (go_big_quiet_step (fail)))
          refine wpQuiet_nil ?_
          rintro _ ⟨⟨x, n, rfl⟩, rfl⟩
          clear hN r4 r6 r7 r8
          go_wp2_with fail
          refine bodyPost_ret (v := .tuple #[.agg #[.bool true, .int .i64 cc.seq, .int .i64 cc.pos], .int .i64 0]) (by simp [results, Tryd.results38, go_sem, c0, c1, c2]) rfl ?_
          exact newest_end (x := wr.drewN n) (HX.out.drewN n) HB.out (HS0.out.ext ((Ext.refl (fun _ => False) _ _).drewN n)) (HS1.out.ext ((Ext.refl (fun _ => False) _ _).drewN n)) hFz hsl (by unfold newS; rw [if_neg (by simpa [seqO] using hlt)]) _ _ _

end Go.Proofs.YtcjkllmellampaaDoor
