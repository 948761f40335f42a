/-
  LeaseCopies returns true for all operations; what was in memory before the call stays as it was.
-/
import Derived.Test.YtphoodnclmplhaaCpP
import Derived.Test.YtphoodnclmplhaaOpenOps
import Derived.Test.YtphoodnclmplhaaMix
namespace Go.Proofs.Ytphoodnclmplhaa
open Go.RowKit

set_option maxRecDepth 100000 in
set_option maxHeartbeats 800000 in
theorem mapsClone_any (b : Nat) (es : Array MapEntry) (clock : Nat) (w : World) (hb : w.heap[b]? = some (.map es clock)) :
    Calls Try.prog 23 #[.map (some b)] w fun e w' => e = .returned (.map (some w.heap.size)) ∧ w' = w.alloc (.map es clock) := by
  have hq := fun w => run_eql_map_nil_sl (P := Try.prog) w 27 _ _ (some b) Try.underlying27
  have ht := fun (v : Value) (w : World) => run_typeAssert_map_sl (P := Try.prog) w 27 20 _ _ v Try.underlying27
  go_enter Try.func23, Try.ntmps23
  go_wp2
  rw [run_callFunc_extern Try.func35 (by kernel_rfl) (by kernel_rfl) (by kernel_rfl) (e := Extern.MapsClone.clone) (by kernel_rfl), run_maps_clone_sl w 27 hb]
  simp only [Result.andThen]
  rw [Oper.upon_value]
  go_wp2
  go_ret
  exact ⟨rfl, rfl⟩

/-- How Copy ends. -/
def CopyP (T : Tab) (w : World) (e : Ending) (w' : World) : Prop := ∃ b' m', w.heap.size ≤ b' ∧ w.heap.size ≤ m' ∧ e = .returned (.pointer (some ⟨b', 0, none⟩)) ∧ TabT b' m' T w' ∧ Below w.heap.size w w'
set_option maxRecDepth 100000 in
set_option maxHeartbeats 800000 in
theorem copy_any (b m : Nat) (T : Tab) (w : World) (hT : TabT b m T w) : Calls Try.prog 11 #[.pointer (some ⟨b, 0, none⟩)] w (CopyP T w) := by
  have hT' : TabAt b m T.clk (encL T.m) w := hT
  obtain ⟨c0, c1, f0, f1, mp, lt, ne⟩ := hT'
  obtain ⟨es, clock, hb, h1, h2, h3, h4⟩ := mp
  have HC := Lib.hid (mapsClone_any m es clock w.drew hb)
  have HM : Hid (MapIs w.drew.heap.size (encL T.m) (w.drew.alloc (.map es clock))) := ⟨es, clock, (MapKept.heap_alloc w.drew _).1, h1, h2, h3, h4⟩
  have hS : Below w.heap.size w w.drew := (Below.refl _ _).drew
  have HF : Hid ((∀ y : Held (Below w.heap.size w), y.w.cell? ⟨b, 0, none⟩ = some (.int .i64 T.clk)) ∧ (∀ y : Held (Below w.heap.size w), y.w.cell? ⟨b, 1, none⟩ = some (.map (some m)))) :=
    ⟨fun y => (y.ok.cell (p := ⟨b, _, none⟩) lt).trans c0, fun y => (y.ok.cell (p := ⟨b, _, none⟩) lt).trans c1⟩
  clear hb h1 h2 h3 h4 c0 c1 f0 f1
  go_enter Try.func11, Try.ntmps11
  go_wp2_with fail
  (refine wp_region_mix (S := Below w.heap.size w) [11] [([0, 1, 2, 3, 4, 5, 6, 7], 8), ([9], 10)] (by kernel_rfl) (by kernel_rfl) (by intro c a d v w h; cases d <;> exact h) hS ?_; have hN : Nonempty (Held (Below w.heap.size w)) := ⟨⟨_, hS⟩⟩)
  have r0 := HF.out.1
  have r1 := HF.out.2
  (unfold wpMix wpRd; (repeat (first | simp only [List.filterMap_cons] | simp only [List.filterMap_nil] | simp only [List.getElem?_toArray] | simp only [List.getElem?_cons_zero] | simp only [List.getElem?_cons_succ])); (try dsimp only); change wpQuiet _ _ _ _ (_ :: _ :: _ :: _ :: _ :: _ :: _ :: _ :: []) _; (repeat (go_big_quiet_step (fail))); refine wpQuiet_nil ?_; (try dsimp only))
  go_wp2_with fail
  refine HC.out.mono ?_
  rintro e w1 ⟨rfl, rfl⟩
  have hS1 : Below w.heap.size w (w.drew.alloc (.map es clock)) := hS.alloc hS.size _
  go_wp2_with fail
  refine ⟨hS1, ?_⟩
  (unfold wpMix wpRd; (repeat (first | simp only [List.filterMap_cons] | simp only [List.filterMap_nil] | simp only [List.getElem?_toArray] | simp only [List.getElem?_cons_zero] | simp only [List.getElem?_cons_succ])); (try dsimp only); change wpQuiet _ _ _ _ (_ :: []) _; (repeat (go_big_quiet_step (fail))); refine wpQuiet_nil ?_; (try dsimp only))
  go_wp2_with fail
  have hS2 : Below w.heap.size w ((w.alloc (.map es clock)).alloc (.cells #[.int .i64 T.clk, .map (some w.heap.size)] 44)).drew := (((Below.refl _ _).alloc (Nat.le_refl _) _).alloc (by simp) _).drew
  refine ⟨hS2, ?_⟩
  (unfold wpMix wpRd; (repeat (first | simp only [List.filterMap_cons] | simp only [List.filterMap_nil] | simp only [List.getElem?_toArray] | simp only [List.getElem?_cons_zero] | simp only [List.getElem?_cons_succ])); (try dsimp only); change wpQuiet _ _ _ _ (_ :: []) _; (repeat (go_big_quiet_step (fail))); refine wpQuiet_nil ?_; (try dsimp only))
  clear r0 r1 hN hS hS1 HF
  go_wp2_with fail
  go_ret
  refine ⟨w.heap.size + 1, w.heap.size, by omega, Nat.le_refl _, by simp, ?_, hS2⟩
  have hM := HM.out
  have hTn : TabAt (w.heap.size + 1) w.heap.size T.clk (encL T.m) ((w.alloc (.map es clock)).alloc (.cells #[.int .i64 T.clk, .map (some w.heap.size)] 44)) :=
    ⟨by simp [go_sem], by simp [go_sem], by simp [go_sem], by simp [go_sem], MapIs.alloc hM _, by simp, by omega⟩
  exact TabAt.drew hTn

theorem TabT.apart {b m r lb : Nat} {T : Tab} {w w' : World} (h : TabT b m T w) (ho : Only r lb w w') (h1 : b ≠ r) (h2 : b ≠ lb) (h3 : m ≠ r) (h4 : m ≠ lb) : TabT b m T w' := by
  have h' : TabAt b m T.clk (encL T.m) w := h
  have hb : w'.heap[b]? = w.heap[b]? := ho.block b h'.lt h1 h2
  have hm := h'.mp.of_block (ho.block m h'.mp.lt h3 h4)
  have hc : ∀ o, w'.cell? ⟨b, o, none⟩ = w.cell? ⟨b, o, none⟩ := fun o => by simp [World.cell?, hb]
  have hf : ∀ o, w'.frozen? ⟨b, o, none⟩ = w.frozen? ⟨b, o, none⟩ := fun o => by simp [World.frozen?, hb]
  exact ⟨(hc 0).trans h'.c0, (hc 1).trans h'.c1, (hf 0).trans h'.f0, (hf 1).trans h'.f1, hm, Nat.lt_of_lt_of_le h'.lt ho.size, h'.ne⟩

/-- Two tables side by side that say the same. -/
structure CS (k bc mc bd md : Nat) (Tc Td : Tab) (w0 x : World) : Prop where
  c : TabT bc mc Tc x
  d : TabT bd md Td x
  eq : TEq Tc Td
  tc : TT k Tc
  td : TT k Td
  old : Below w0.heap.size w0 x
  lo : w0.heap.size ≤ bc ∧ w0.heap.size ≤ mc ∧ w0.heap.size ≤ bd ∧ w0.heap.size ≤ md
  ne : bc ≠ bd ∧ bc ≠ md ∧ mc ≠ bd ∧ mc ≠ md
section
variable {k bc mc bd md : Nat} {Tc Td : Tab} {w0 x : World}
theorem CS.below (h : CS k bc mc bd md Tc Td w0 x) {y : World} (hb : Below x.heap.size x y) : CS k bc mc bd md Tc Td w0 y :=
  ⟨TabAt.after h.c hb, TabAt.after h.d hb, h.eq, h.tc, h.td, h.old.trans (hb.mono h.old.size), h.lo, h.ne⟩
theorem CS.next (h : CS k bc mc bd md Tc Td w0 x) (o : LOp) {y z : World} (ho : Only bc mc x y) (hT : TabT bc mc (doT Tc o).1 y) (hD : TabT bd md (doT Td o).1 z) (ho2 : Only bd md y z) :
    (doT Tc o).2 = (doT Td o).2 ∧ CS (k + 1) bc mc bd md (doT Tc o).1 (doT Td o).1 w0 z := by
  have hs := teq_do h.eq o
  have hlo := h.lo
  have hxs := h.old.size
  have hys := ho.size
  exact ⟨hs.1, hT.apart ho2 h.ne.1 h.ne.2.1 h.ne.2.2.1 h.ne.2.2.2, hD, hs.2, h.tc.next o, h.td.next o, (h.old.trans (ho.below hxs hlo.1 hlo.2.1)).trans (ho2.below (by omega) hlo.2.2.1 hlo.2.2.2), hlo, h.ne⟩
theorem CS.lists (h : CS k bc mc bd md Tc Td w0 x) :
    ∃ E : List Lease, E.length ≤ 64 ∧ (∀ y, Below x.heap.size x y → Calls Try.prog 10 #[.pointer (some ⟨bc, 0, none⟩)] y (AllE E y)) ∧ (∀ y, Below x.heap.size x y → Calls Try.prog 10 #[.pointer (some ⟨bd, 0, none⟩)] y (AllE E y)) := by
  obtain ⟨E, h1, h2⟩ := tab_sorted h.tc.tok
  have hp := h.eq.perm h.tc.pt.once h.td.pt.once
  have l1 := h.tc.pt.len
  have l2 := h.td.pt.len
  refine ⟨E, by have := h2.length_eq; simp at this; omega, fun y hy => all_E (by omega) (TabAt.after h.c hy) h.tc.tok h1 h2, fun y hy => all_E (by omega) (TabAt.after h.d hy) h.td.tok h1 (h2.trans (hp.map _))⟩
end

set_option maxRecDepth 100000 in
set_option maxHeartbeats 1600000 in
theorem copies_out (A : Option Addr) (c : Nat) (l : List LOp) (B : Option Addr) (d : Nat) (r : List LOp) (w : World) (hA : OpsIn A l w) (hn : l.length ≤ 9223372036854775807) (hB : OpsIn B r w) (hm : r.length ≤ 9223372036854775807) (h : smallB l = false ∨ smallB r = false) :
    Calls Try.prog 4 #[.slice A l.length c, .slice B r.length d] w fun e w' => e = .returned (.bool true) ∧ Below w.heap.size w w' := by
  cases hs : smallB l
  · clear h
    go_enter Try.func4, Try.ntmps4
    go_wp2_with fail
    refine (new_any _).mono ?_
    rintro e w1 ⟨rfl, hT1, HB⟩
    go_wp2_with fail
    refine (small_any A c l _ (hA.below HB) (by omega)).mono ?_
    rw [hs]
    rintro e w2 ⟨rfl, HB2⟩
    have o2 := HB.trans (HB2.mono HB.size)
    go_wp2_with (go_at_call 7; refine (awake19_any _).mono ?_; rintro e w9 ⟨rfl, HB9⟩)
    go_ret
    exact ⟨rfl, o2.trans (HB9.mono o2.size)⟩
  · have hr : smallB r = false := by
      rcases h with h | h
      · rw [hs] at h; cases h
      · exact h
    clear h
    go_enter Try.func4, Try.ntmps4
    go_wp2_with fail
    refine (new_any _).mono ?_
    rintro e w1 ⟨rfl, hT1, HB⟩
    go_wp2_with fail
    refine (small_any A c l _ (hA.below HB) (by omega)).mono ?_
    rw [hs]
    rintro e w2 ⟨rfl, HB2⟩
    have o2 := HB.trans (HB2.mono HB.size)
    go_wp2_with fail
    refine (small_any B d r _ (hB.below o2) (by omega)).mono ?_
    rw [hr]
    rintro e w3 ⟨rfl, HB3⟩
    have o3 := o2.trans (HB3.mono o2.size)
    go_wp2_with (go_at_call 7; refine (awake19_any _).mono ?_; rintro e w9 ⟨rfl, HB9⟩)
    go_ret
    exact ⟨rfl, o3.trans (HB9.mono o3.size)⟩

set_option maxRecDepth 100000 in
set_option maxHeartbeats 6400000 in
theorem copies_in (A : Option Addr) (c : Nat) (l : List LOp) (B : Option Addr) (d : Nat) (r : List LOp) (w : World) (hA : OpsIn A l w) (hn : l.length ≤ 90) (hB : OpsIn B r w) (hm : r.length ≤ 90) (hs : smallB l = true) (hr : smallB r = true) :
    Calls Try.prog 4 #[.slice A l.length c, .slice B r.length d] w fun e w' => e = .returned (.bool true) ∧ Below w.heap.size w w' := by
  go_enter Try.func4, Try.ntmps4
  go_wp2_with fail
  refine (new_any _).mono ?_
  rintro e w1 ⟨rfl, hT1, hB1⟩
  go_wp2_with fail
  refine (small_any A c l _ (hA.below hB1) (by omega)).mono ?_
  rw [hs]
  rintro e w2 ⟨rfl, hB2⟩
  have o2 := hB1.trans (hB2.mono hB1.size)
  go_wp2_with fail
  refine (small_any B d r _ (hB.below o2) (by omega)).mono ?_
  rw [hr]
  rintro e w3 ⟨rfl, hB3⟩
  have HO3 := Lib.hid (o2.trans (hB3.mono o2.size))
  have HT3 : Hid (TabT (w.heap.size + 1) w.heap.size ⟨0, []⟩ w3) := TabAt.after (TabAt.after hT1 hB2) hB3
  clear hT1 hB1 hB2 hB3 o2 hs hr
  go_wp2_with fail
  go_loopw [32] (fun i wr => ∃ (k : Nat) (T : Tab), k ≤ l.length ∧ i = .int .i64 k ∧ TabT (w.heap.size + 1) w.heap.size T wr ∧ TT k T ∧ Below w.heap.size w wr) (fun i _ => l.length - (intOf i).toNat)
  case atStart => exact ⟨0, _, Nat.zero_le _, rfl, HT3.out, TT.new, HO3.out⟩
  case round =>
    clear HT3 HO3
    obtain ⟨k, T, hk, rfl, hT, hTT, hO⟩ := hrel
    have HT := Lib.hid hT
    have HTT := Lib.hid hTT
    have HO := Lib.hid hO
    by_cases hlt : k < l.length
    · obtain ⟨bo, off, rfl, hbo, hops⟩ := hA (by omega)
      obtain ⟨h0, h1, h2, h3, h4⟩ := (hops.below hO hbo) k l[k] (List.getElem?_eq_getElem hlt)
      generalize l[k] = o at *
      obtain ⟨kd, op, oh, ofe, on⟩ := o
      dsimp only at h0 h1 h2 h3 h4
      have hb4 : Below wr.heap.size wr (wr.alloc (.cells #[.int .i64 kd, .string op, .string oh, .int .i64 ofe, .int .i64 on] 29)) := below_alloc1 _ _
      have HT4 := Lib.hid (TabAt.after hT hb4)
      have HO4 := Lib.hid (hO.trans (hb4.mono hO.size))
      have k4 := (Box5.new wr (.int .i64 kd) (.string op) (.string oh) (.int .i64 ofe) (.int .i64 on) 29).cell5
      clear hb4 hT hO hTT HT HO
      go_wp2_with fail
      generalize wr.alloc (.cells #[.int .i64 kd, .string op, .string oh, .int .i64 ofe, .int .i64 on] 29) = w4 at *
      refine (do_post _ _ T kd ofe on op oh w4 HT4.out HTT.out.inv.ok).mono ?_
      rintro e w5 ⟨rfl, hT5, hO5⟩
      have HT5 := Lib.hid hT5
      have HO5 := Lib.hid (HO4.out.trans (hO5.below HO4.out.size (by omega) (Nat.le_refl _)))
      clear hT5 hO5 HT4 HO4 k4 h0 h1 h2 h3 h4
      go_wp2_with fail
      go_roundw
      case rel => exact ⟨k + 1, _, by omega, by go_num, HT5.out, HTT.out.next ⟨kd, op, oh, ofe, on⟩, HO5.out⟩
      case measure => simp [intOf]; omega
    · have hge : l.length ≤ k := by omega
      have hk90 : k ≤ 90 := by omega
      clear hlt hT hTT hO
      obtain ⟨E, hE1, hE2⟩ := tab_sorted HTT.out.tok
      have hEl : E.length ≤ 64 := by
        have h3 := hE2.length_eq
        have h4 := HTT.out.pt.len
        simp at h3
        omega
      have HAL : Hid (∀ y, TabT (w.heap.size + 1) w.heap.size T y → Calls Try.prog 10 #[.pointer (some ⟨w.heap.size + 1, 0, none⟩)] y (AllE E y)) := fun y hy => all_E (by have := HTT.out.pt.len; omega) hy HTT.out.tok hE1 hE2
      have HLB := Lib.hid (HTT.out.load (by omega) hE1 hE2)
      have HLD := Lib.hid (HTT.out.loaded hE2)
      have HES := Lib.hid (And.intro hE1 hE2)
      clear hE1 hE2
      go_wp2_with fail
      refine (HAL.out _ HT.out).mono ?_
      rintro e w4 ⟨S0, cp0, rfl, hl0, hb4⟩
      have HL4 := Lib.hid hl0
      have HT4 := Lib.hid (TabAt.after HT.out hb4)
      have HO4 := Lib.hid (HO.out.trans (hb4.mono HO.out.size))
      clear hl0 hb4 HT HO
      go_wp2_with fail
      refine (copy_any _ _ T w4 HT4.out).mono ?_
      rintro e w5 ⟨bc, mc, hbc, hmc, rfl, hC5, hb5⟩
      have HC5 := Lib.hid hC5
      have HB5 := Lib.hid hb5
      have HT5 := Lib.hid (TabAt.after HT4.out hb5)
      clear hC5 hb5
      go_wp2_with fail
      refine (now_any _ _ T.clk _ _ HT5.out).mono ?_
      rintro e w5' ⟨rfl, rfl⟩
      go_wp2_with fail
      refine (HAL.out _ HT5.out).mono ?_
      rintro e w6 ⟨S1, cp1, rfl, hl1, hb6⟩
      have HL6 := Lib.hid hl1
      have HC6 := Lib.hid (TabAt.after HC5.out hb6)
      have HB6 := Lib.hid (HB5.out.trans (hb6.mono HB5.out.size))
      have hcl : bc < w6.heap.size := TabAt.lt HC6.out
      have hcm : mc < w6.heap.size := (TabAt.mp HC6.out).lt
      clear hl1 hb6 HC5 HB5 HT5
      go_wp2_with fail
      refine (load_any T.clk S1 cp1 E w6 HL6.out).mono ?_
      rintro e w7 ⟨hb7, hLP⟩
      obtain ⟨bd, md, hbd, hmd, rfl, hD7⟩ : ∃ b m, w6.heap.size ≤ b ∧ w6.heap.size ≤ m ∧ e = .returned (.tuple #[.pointer (some ⟨b, 0, none⟩), .int .i64 0]) ∧ TabT b m (tabOf T.clk E) w7 := by
        rcases hLP with ⟨h1, _⟩ | ⟨_, h2⟩
        · rw [HLB.out] at h1; cases h1
        · exact h2
      have HCS : Hid (CS k bc mc bd md T (tabOf T.clk E) w4 w7) :=
        ⟨TabAt.after HC6.out hb7, hD7, HLD.out.1, HTT.out, HLD.out.2, HB6.out.trans (hb7.mono HB6.out.size), ⟨hbc, hmc, by have := HB6.out.size; omega, by have := HB6.out.size; omega⟩, ⟨by omega, by omega, by omega, by omega⟩⟩
      clear hLP hb7 hD7 HLB HL6 HC6 HB6 HLD hbd hmd hcl hcm hbc hmc
      generalize hTd : tabOf T.clk E = Td at *
      clear hTd
      have HW : Hid (∀ {k' : Nat} {Tc' Td' : Tab} {y : World}, CS k' bc mc bd md Tc' Td' w4 y → TabT (w.heap.size + 1) w.heap.size T y ∧ LsIn S0 E y ∧ Below w.heap.size w y) := fun {k' Tc' Td' y} h =>
        ⟨TabAt.after HT4.out h.old, HL4.out.below h.old, HO4.out.trans (h.old.mono HO4.out.size)⟩
      clear HTT
      have hE6 : E.length ≤ 1000000 := by omega
      have HPM : Hid ((∀ y, CS k bc mc bd md T Td w4 y → Calls Try.prog 10 #[.pointer (some ⟨bc, 0, none⟩)] y (AllE E y)) ∧ (∀ y, CS k bc mc bd md T Td w4 y → Calls Try.prog 10 #[.pointer (some ⟨bd, 0, none⟩)] y (AllE E y))) := by
        have hp := HCS.out.eq.perm HCS.out.tc.pt.once HCS.out.td.pt.once
        have l1 := HCS.out.tc.pt.len
        have l2 := HCS.out.td.pt.len
        exact ⟨fun y hy => all_E (by omega) hy.c hy.tc.tok HES.out.1 HES.out.2, fun y hy => all_E (by omega) hy.d hy.td.tok HES.out.1 (HES.out.2.trans (hp.map _))⟩
      go_wp2_with fail
      refine (HPM.out.1 _ HCS.out).mono ?_
      rintro e w8 ⟨S2, cp2, rfl, hl2, hb8⟩
      have HCS8 := Lib.hid (HCS.out.below hb8)
      have HL8 := Lib.hid hl2
      clear hl2 hb8 HCS
      go_wp2_with fail
      refine (same_any S2 S0 cp2 cp0 E w8 HL8.out (HW.out HCS8.out).2.1 hE6).mono ?_
      rintro e w9 ⟨rfl, hb9⟩
      have HCS9 := Lib.hid (HCS8.out.below hb9)
      clear hb9 HCS8 HL8
      go_wp2_with fail
      refine (HPM.out.2 _ HCS9.out).mono ?_
      rintro e w10 ⟨S3, cp3, rfl, hl3, hb10⟩
      have HCSa := Lib.hid (HCS9.out.below hb10)
      have HLa := Lib.hid hl3
      clear hl3 hb10 HCS9
      go_wp2_with fail
      refine (same_any S3 S0 cp3 cp0 E w10 HLa.out (HW.out HCSa.out).2.1 hE6).mono ?_
      rintro e w11 ⟨rfl, hb11⟩
      have HCSb := Lib.hid (HCSa.out.below hb11)
      clear hb11 HCSa HLa HPM
      go_wp2_with fail
      go_loopw [78] (fun i wr => ∃ (j : Nat) (Tc' Td' : Tab), j ≤ r.length ∧ i = .int .i64 j ∧ CS (k + j) bc mc bd md Tc' Td' w4 wr) (fun i _ => r.length - (intOf i).toNat)
      case atStart => exact ⟨0, _, _, Nat.zero_le _, rfl, HCSb.out⟩
      case round =>
        clear HCSb
        obtain ⟨j, Tc', Td', hj, rfl, hC⟩ := hrel
        have HC := Lib.hid hC
        have HWW := Lib.hid (HW.out hC)
        by_cases hlt : j < r.length
        · obtain ⟨bo, off, rfl, hbo, hops⟩ := hB (by omega)
          obtain ⟨h0, h1, h2, h3, h4⟩ := (hops.below (HW.out hC).2.2 hbo) j r[j] (List.getElem?_eq_getElem hlt)
          generalize r[j] = o at *
          obtain ⟨kd, op, oh, ofe, on⟩ := o
          dsimp only at h0 h1 h2 h3 h4
          have hb4 : Below wr.heap.size wr (wr.alloc (.cells #[.int .i64 kd, .string op, .string oh, .int .i64 ofe, .int .i64 on] 29)) := below_alloc1 _ _
          have HC4 := Lib.hid (hC.below hb4)
          have k4 := (Box5.new wr (.int .i64 kd) (.string op) (.string oh) (.int .i64 ofe) (.int .i64 on) 29).cell5
          have hw4s : wr.heap.size < (wr.alloc (.cells #[.int .i64 kd, .string op, .string oh, .int .i64 ofe, .int .i64 on] 29)).heap.size := by simp
          have q1 : bc < wr.heap.size := TabAt.lt hC.c
          have q2 : mc < wr.heap.size := (TabAt.mp hC.c).lt
          have q3 : bd < wr.heap.size := TabAt.lt hC.d
          have q4 : md < wr.heap.size := (TabAt.mp hC.d).lt
          clear hb4 hC HC HWW
          go_wp2_with fail
          generalize wr.alloc (.cells #[.int .i64 kd, .string op, .string oh, .int .i64 ofe, .int .i64 on] 29) = x4 at *
          refine (do_post _ _ Tc' kd ofe on op oh x4 HC4.out.c HC4.out.tc.inv.ok).mono ?_
          rintro e x5 ⟨rfl, hT5, hO5⟩
          have k5 := (k4.only hO5 (by omega) (by omega))
          have HD5 := Lib.hid (HC4.out.d.apart hO5 HC4.out.ne.1.symm HC4.out.ne.2.2.1.symm HC4.out.ne.2.1.symm HC4.out.ne.2.2.2.symm)
          obtain ⟨X, hX⟩ : ∃ X, (doT Tc' ⟨kd, op, oh, ofe, on⟩).2.1 = X := ⟨_, rfl⟩
          obtain ⟨E1, hE1⟩ : ∃ E, (doT Tc' ⟨kd, op, oh, ofe, on⟩).2.2 = E := ⟨_, rfl⟩
          have HX := Lib.hid hX
          have HE1 := Lib.hid hE1
          rw [hX, hE1]
          clear hX hE1
          obtain ⟨lp, lh, lf, ls, lu⟩ := X
          dsimp only [Lease.val]
          have HO5 := Lib.hid (hO5.alloc (.cells #[.string lp, .string lh, .int .i64 lf, .int .i64 ls, .int .i64 lu] 31))
          have HT5 := Lib.hid (TabAt.alloc hT5 (.cells #[.string lp, .string lh, .int .i64 lf, .int .i64 ls, .int .i64 lu] 31))
          have HD6 := Lib.hid (TabAt.alloc HD5.out (.cells #[.string lp, .string lh, .int .i64 lf, .int .i64 ls, .int .i64 lu] 31))
          have k6 := k5.alloc (.cells #[.string lp, .string lh, .int .i64 lf, .int .i64 ls, .int .i64 lu] 31)
          have j6 := (Box5.new x5 (.string lp) (.string lh) (.int .i64 lf) (.int .i64 ls) (.int .i64 lu) 31).cell5
          have hx5s := hO5.size
          (have k5' := k5; obtain ⟨d0, d1, d2, d3, d4, lt_k5, fz_k5⟩ := k5')
          clear h0 h1 h2 h3 h4 k4 hO5 hT5 HD5
          go_wp2_with fail
          clear d0 d1 d2 d3 d4 lt_k5 fz_k5 k5
          generalize x5.alloc (.cells #[.string lp, .string lh, .int .i64 lf, .int .i64 ls, .int .i64 lu] 31) = x6 at *
          have HN : Hid (∀ (z : World), TabT bd md (doT Td' ⟨kd, op, oh, ofe, on⟩).1 z → Only bd md x6 z → (doT Td' ⟨kd, op, oh, ofe, on⟩).2 = (⟨lp, lh, lf, ls, lu⟩, E1) ∧ CS (k + j + 1) bc mc bd md (doT Tc' ⟨kd, op, oh, ofe, on⟩).1 (doT Td' ⟨kd, op, oh, ofe, on⟩).1 w4 z) := fun z h1 h2 => by
            have := HC4.out.next ⟨kd, op, oh, ofe, on⟩ HO5.out HT5.out h1 h2
            refine ⟨?_, this.2⟩
            rw [← this.1]
            exact Prod.ext HX.out HE1.out
          have hj6l : x5.heap.size ≠ bd ∧ x5.heap.size ≠ md := ⟨by omega, by omega⟩
          (have k6' := k6; obtain ⟨d0, d1, d2, d3, d4, lt_k6, fz_k6⟩ := k6')
          go_wp2_with fail
          refine (do_post _ _ Td' kd ofe on op oh x6 HD6.out HC4.out.td.inv.ok).mono ?_
          generalize hQ : doT Td' ⟨kd, op, oh, ofe, on⟩ = Q at HN
          obtain ⟨Td'', Q2⟩ := Q
          rintro e x7 ⟨rfl, hD7, hO7⟩
          obtain ⟨hq2, hC7⟩ := HN.out x7 hD7 hO7
          dsimp only at hq2 hC7
          subst hq2
          dsimp only [Lease.val]
          have j7 := (j6.only hO7 hj6l.1 hj6l.2).alloc (.cells #[.string lp, .string lh, .int .i64 lf, .int .i64 ls, .int .i64 lu] 31)
          have m7 := (Box5.new x7 (.string lp) (.string lh) (.int .i64 lf) (.int .i64 ls) (.int .i64 lu) 31).cell5
          have HC8 := Lib.hid (hC7.below (below_alloc1 x7 (.cells #[.string lp, .string lh, .int .i64 lf, .int .i64 ls, .int .i64 lu] 31)))
          clear hD7 hO7 hC7 HC4 HO5 HT5 HD6 HX HE1 HN hQ j6 k6 d0 d1 d2 d3 d4 lt_k6 fz_k6
          (have j7' := j7; obtain ⟨p0, p1, p2, p3, p4, lt_j7, fz_j7⟩ := j7')
          (have m7' := m7; obtain ⟨q0, q1, q2, q3, q4, lt_m7, fz_m7⟩ := m7')
          go_wp2_with fail
          generalize x7.alloc (.cells #[.string lp, .string lh, .int .i64 lf, .int .i64 ls, .int .i64 lu] 31) = x8 at *
          generalize (doT Tc' ⟨kd, op, oh, ofe, on⟩).1 = Tc'' at *
          obtain ⟨F, hFl, hA1, hA2⟩ := HC8.out.lists
          have HA1 := Lib.hid hA1
          have HA2 := Lib.hid hA2
          have hck := HC8.out.eq.clk
          have HN1 := Lib.hid (fun (y : World) (hy : Below x8.heap.size x8 y) => now_any _ _ Tc''.clk _ y (HC8.out.below hy).c)
          have HN2 := Lib.hid (fun (y : World) (hy : Below x8.heap.size x8 y) => now_any _ _ Td''.clk _ y (HC8.out.below hy).d)
          rw [hck] at HN1
          clear hck hA1 hA2 p0 p1 p2 p3 p4 q0 q1 q2 q3 q4 lt_j7 lt_m7 fz_j7 fz_m7 j7 m7
          have hS0 := Below.refl x8.heap.size x8
          refine (HN1.out _ hS0).mono ?_
          rintro e x9 ⟨rfl, rfl⟩
          go_wp2_with fail
          refine (HN2.out _ hS0).mono ?_
          rintro e x9 ⟨rfl, rfl⟩
          go_wp2_with fail
          refine (HA1.out _ hS0).mono ?_
          rintro e x10 ⟨A1, c1, rfl, hl1, hb10⟩
          have hS10 := hS0.trans hb10
          have HL1 := Lib.hid hl1
          clear hl1
          go_wp2_with fail
          refine (HA2.out _ hS10).mono ?_
          rintro e x11 ⟨A2, c2, rfl, hl2, hb11⟩
          have hS11 : Below x8.heap.size x8 x11 := hS10.trans (hb11.mono hS10.size)
          have HL2 := Lib.hid hl2
          have HL3 := Lib.hid (HL1.out.below hb11)
          clear hl2 hb11 hb10 hS10
          go_wp2_with fail
          refine (same_any A1 A2 c1 c2 F x11 HL3.out HL2.out (by omega)).mono ?_
          rintro e x12 ⟨rfl, hb12⟩
          have hS12 : Below x8.heap.size x8 x12 := hS11.trans (hb12.mono hS11.size)
          have HC12 := Lib.hid (HC8.out.below hS12)
          clear hb12 hS11 hS12 hS0
          go_wp2_with fail
          go_roundw
          case rel => exact ⟨j + 1, _, _, by omega, by go_num, HC12.out⟩
          case measure => simp [intOf]; omega
        · have hge : r.length ≤ j := by omega
          clear hlt hC
          obtain ⟨ht, hl, ho⟩ := HWW.out
          have HLS := Lib.hid hl
          have HOO := Lib.hid ho
          have HTT := Lib.hid ht
          clear ht hl ho
          go_wp2_with fail
          refine (HAL.out _ HTT.out).mono ?_
          rintro e x5 ⟨A1, c1, rfl, hl1, hb5⟩
          have HL1 := Lib.hid hl1
          have HL5 := Lib.hid (HLS.out.below hb5)
          have HO5 := Lib.hid (HOO.out.trans (hb5.mono HOO.out.size))
          clear hl1 hb5
          go_wp2_with fail
          refine (same_any A1 S0 c1 cp0 E x5 HL1.out HL5.out hE6).mono ?_
          rintro e x6 ⟨rfl, hb6⟩
          have HO6 := Lib.hid (HO5.out.trans (hb6.mono HO5.out.size))
          clear hb6
          go_wp2_with (go_at_call 7; refine (awake19_any _).mono ?_; rintro e w9 ⟨rfl, HB9⟩)
          go_ret
          exact ⟨rfl, HO6.out.trans (HB9.mono HO6.out.size)⟩

theorem copies_any (A : Option Addr) (c : Nat) (l : List LOp) (B : Option Addr) (d : Nat) (r : List LOp) (w : World) (hA : OpsIn A l w) (hn : l.length ≤ 9223372036854775807) (hB : OpsIn B r w) (hm : r.length ≤ 9223372036854775807) :
    Calls Try.prog 4 #[.slice A l.length c, .slice B r.length d] w fun e w' => e = .returned (.bool true) ∧ Below w.heap.size w w' := by
  cases hs : smallB l
  · exact copies_out A c l B d r w hA hn hB hm (.inl hs)
  cases hr : smallB r
  · exact copies_out A c l B d r w hA hn hB hm (.inr hr)
  have h1 := hs
  have h2 := hr
  unfold smallB at h1 h2
  rw [Bool.and_eq_true, decide_eq_true_eq] at h1 h2
  exact copies_in A c l B d r w hA h1.2 hB h2.2 hs hr

end Go.Proofs.Ytphoodnclmplhaa
