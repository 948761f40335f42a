/-
  The bytes of a have-list: what have.encode writes.
-/
import Derived.Test.YtjjdffafibonhaaGreatDoorHvS
import Derived.Test.YtjjdffafibonhaaGreatDoorGenA
import Derived.Test.YtjjdffafibonhaaGreatDoorMix
import Derived.Test.YtjjdffafibonhaaGreatDoorGenH
import Derived.Lib.AppendStr
import Derived.Laws.BitsAllLaws
namespace Go.Proofs.YtjjdffafibonhaaGreatDoor
open Go.RowKit

theorem zig (n : Nat) (hn : n < 4611686018427387904) : bits .xor .u64 ((n : Int) * 2) ((n : Int) / 9223372036854775808) = ((2 * n : Nat) : Int) := by
  have h0 : (n : Int) / 9223372036854775808 = 0 := by omega
  have h1 : (n : Int) * 2 = ((2 * n : Nat) : Int) := by omega
  have hq : 2 * n < 9223372036854775808 := by omega
  rw [h0, h1]
  have h2 := u64_xor_nat (2 * n) 0 (by omega) (by omega)
  rw [Nat.xor_zero] at h2
  exact h2

set_option maxRecDepth 100000 in
set_option maxHeartbeats 800000 in
theorem putInt_any (o : Nat) (g : Gh) (n : Nat) (hn : n < 4611686018427387904) (w : World) : Calls Tryz.prog 103 #[.slice none 0 0, .int .i64 (n : Int)] w (NewP 5 o g w (encU (2 * n)).length (bv (encU (2 * n)))) := by
  have HP := Lib.hid (putUint_any o g none 0 0 [] (2 * n) w (Rd.nil _ _ _ _) (fun _ => rfl) (fun u h => by cases h) (by omega) (by omega))
  go_enter Tryz.func103, Tryz.ntmps103
  go_wp2_with fail
  rw [zig n hn]
  refine HP.out.mono ?_
  rintro e w' ⟨A', cap', g', rfl, h1, h2, h3, h4, h5⟩
  go_wp2_with fail
  go_ret
  simp only [Nat.zero_add, List.nil_append] at h4 ⊢
  exact ⟨A', cap', g', rfl, h1, h2, h3, h4, h5⟩

/-- The bytes of a text. -/
def encT (s : ByteArray) : List UInt8 := encU s.size ++ s.data.toList
theorem strCells_bv (s : ByteArray) : Lib.strCells s = bv s.data.toList := rfl
set_option maxRecDepth 100000 in
set_option maxHeartbeats 800000 in
theorem putText_any (o : Nat) (g : Gh) (s : ByteArray) (hs : s.size ≤ 900) (w : World) : Calls Tryz.prog 135 #[.slice none 0 0, .string s] w (NewP 5 o g w ((encU s.size).length + s.size) (bv (encT s))) := by
  obtain ⟨i0, hi, hz0, hz1, hz2⟩ := info_parts Tryz.infoU8
  go_enter Tryz.func135, Tryz.ntmps135
  go_wp2_with fail
  refine (uintSize_any s.size _ (by omega)).mono ?_
  rintro e w1 ⟨k, hk1, hk2, rfl, rfl⟩
  have HX := Lib.hid (extended_any g none 0 0 (k + s.size) [] w (Rd.nil _ _ _ _) (fun _ => rfl) (fun u h => by cases h) (by omega) (by omega))
  go_wp2_with fail
  have hcast : ((k : Nat) : Int) + (s.size : Int) = ((k + s.size : Nat) : Int) := by omega
  rw [hcast]
  clear hcast
  refine HX.out.mono ?_
  rintro e w1 ⟨v, rfl, hown, hb1⟩
  go_wp2_with fail
  refine (appendUint_any w.heap.size v 0 [] s.size _ hown hb1.size (by omega) (by omega)).mono ?_
  rintro e w2 ⟨v', rfl, hown2, hb2⟩
  have hB := Lib.hid (hb1.trans hb2)
  have hO := Lib.hid hown2
  clear hown hb1 hown2 hb2 HX
  go_wp2_with (at_builtin; refine Lib.wpList_append_own_string _ rfl _ _ 30 9 rfl w.heap.size 5 i0 Tryz.underlying30 Tryz.underlying9 hi hz0 hz1 hz2 _ _ _ rfl hO.out s rfl (by unfold maxLen; have := encU_len s.size 10 (by omega) (by omega); omega) (by have := encU_len s.size 10 (by omega) (by omega); omega) hB.out.size ?_; intro v2 w3 ho3 hg3 _)
  go_ret
  have hb3 : Below w.heap.size w w3 := by
    refine hB.out.grown hg3 hB.out.size (fun k hk => ?_)
    obtain ⟨_, h2⟩ := hO.out
    rcases h2 with ⟨rfl, _⟩ | ⟨q, cap, cur, rfl, h4, _⟩
    · cases hk
    · injection hk with hk
      rw [← hk]; exact h4
  refine newP_own hb3 ?_ (by have := encU_pos s.size; omega)
  rw [Nat.zero_add, List.nil_append, strCells_bv] at ho3
  rw [encT, bv_append]
  exact ho3

/-- A writer at wb has these bytes; its slice is o's. -/
structure WrAt (g : Gh) (x : World) (wb q o : Nat) (bs : List UInt8) : Prop where
  ex : ∃ A cap, Blk wb 133 [.slice A bs.length cap] x ∧ App 5 1 o g x A bs.length cap (bv bs)
  O : g.O wb = q
  F : g.F wb = 0
  ne : o ≠ q

set_option maxRecDepth 100000 in
set_option maxHeartbeats 1600000 in
theorem wnumber_any (g : Gh) (x : World) (wb q o : Nat) (bs : List UInt8) (h : WrAt g x wb q o bs) (n : Nat) (hn : n < 4611686018427387904) (hl : bs.length ≤ 1000000000) :
    Calls Tryz.prog 76 #[.pointer (some ⟨wb, 0, none⟩), .int .i64 (n : Int)] x fun e x' => e = .returned (.tuple #[]) ∧ ∃ g', Ext (fun s => s = q ∨ s = o) g x g' x' ∧ WrAt g' x' wb q o (bs ++ encU (2 * n)) := by
  obtain ⟨⟨A, cap, hb, ha⟩, hO, hF, hne⟩ := h
  have HA := Lib.hid ha
  obtain ⟨i0, hi, hz0, hz1, hz2⟩ := info_parts Tryz.infoU8
  have hS : Blk wb 133 [.slice A bs.length cap] x.drew := hb.below (Below.refl _ _).drew
  have hlen : (bs ++ encU (2 * n)).length = bs.length + (encU (2 * n)).length := by simp
  have hnb : ((encU (2 * n)).length : Nat) ≤ 1000 := by have := encU_len (2 * n) 10 (by omega) (by omega); omega
  clear ha hb
  go_enter Tryz.func76, Tryz.ntmps76
  go_wp2_with fail
  (refine wp_region_mixz (S := Blk wb 133 [.slice A bs.length cap]) [8, 9] 10 [([0, 1, 2, 3, 4, 5], 6), ([], 7)] (by kernel_rfl) (by kernel_rfl) (by intro c a d v w h; cases d <;> exact h) hS ?_; have hN : Nonempty (Held (Blk wb 133 [.slice A bs.length cap])) := ⟨⟨_, hS⟩⟩)
  have r0 : ∀ y : Held (Blk wb 133 [.slice A bs.length cap]), y.w.cell? ⟨wb, 0, none⟩ = some (.slice A bs.length cap) := fun y => y.ok.cell 0
  (unfold wpMixZ wpRd; (repeat (first | simp only [List.filterMap_cons] | simp only [List.filterMap_nil] | simp only [List.getElem?_toArray] | simp only [List.getElem?_cons_zero] | simp only [List.getElem?_cons_succ])); (try dsimp only); change wpQuiet _ _ _ _ (_ :: _ :: _ :: _ :: _ :: _ :: []) _; (repeat (go_big_quiet_step (fail))); refine wpQuiet_nil ?_; (try dsimp only))
  clear r0
  go_wp2_with fail
  refine (putInt_any o g n hn _).mono ?_
  rintro e w2 ⟨A', cap', g2, rfl, hb2, hF2, hO2, ha2, _⟩
  have hx2 : Ext (fun _ => False) g _ g2 w2 := (Ext.of_below (fun _ => False) g hb2).up hF2 hO2
  have hxx : Ext (fun _ => False) g x g2 w2 := ((Ext.refl _ _ _).drew).trans hx2
  have hS2 : Blk wb 133 [.slice A bs.length cap] w2 := hS.below hb2
  have HA2 := Lib.hid (HA.out.ext hxx (fun h => h))
  have HO2 : Hid (g2.O wb = q) := (hxx.own _ (by have := hS.lt; simpa using this)).trans hO
  have HF2 : Hid (g2.F wb = 0) := hxx.zero _ (by have := hS.lt; simpa using this) hF
  have HSRC : Hid (Src Tryz.prog 1 30 (.slice A' (encU (2 * n)).length cap') (encU (2 * n)).length (bv (encU (2 * n))) w2) := ha2.rd.src Tryz.underlying30 cap' (bv_one _) (fun e => (ha2.nz e).1)
  have HXX := Lib.hid hxx
  clear hx2 hxx hF2 hO2 ha2 hb2 hS
  go_wp2_with fail
  refine ⟨hS2, ?_⟩
  (unfold wpMixZ wpRd; (repeat (first | simp only [List.filterMap_cons] | simp only [List.filterMap_nil] | simp only [List.getElem?_toArray] | simp only [List.getElem?_cons_zero] | simp only [List.getElem?_cons_succ])); (try dsimp only); change wpQuiet _ _ _ _ ([]) _; (repeat (go_big_quiet_step (fail))); refine wpQuiet_nil ?_; (try dsimp only))
  refine wpList_append_app rfl _ _ _ _ rfl 5 i0 (.int .u8 0) 1 1 Tryz.underlying30 hi hz0 hz1 hz2 rfl (by decide) rfl HA2.out rfl HSRC.out (by unfold maxLen; omega) (by omega) ?_
  intro A3 c3 w3 g3 hx3 ha3 _
  have hS3 : Blk wb 133 [.slice A bs.length cap] w3 := hS2.ext hx3 (by rw [HO2.out]; exact fun e => hne e.symm)
  have HX3 := Lib.hid ((HXX.out.imp (fun _ h => h.elim)).trans hx3)
  have HA3 := Lib.hid ha3
  have HS3 := Lib.hid hS3
  have HO3 : Hid (g3.O wb = q) := (hx3.own _ hS2.lt).trans HO2.out
  have HF3 : Hid (g3.F wb = 0) := hx3.zero _ hS2.lt HF2.out
  clear hx3 ha3 HA2 HSRC HXX HA hS2
  refine ⟨hS3, ?_⟩
  have c0 : w3.cell? ⟨wb, 0, none⟩ = some (.slice A bs.length cap) := hS3.cell 0
  have z := hS3.fz
  clear hS3
  go_frame
  (unfold wpMixZ wpRd; (repeat (first | simp only [List.filterMap_cons] | simp only [List.filterMap_nil] | simp only [List.getElem?_toArray] | simp only [List.getElem?_cons_zero] | simp only [List.getElem?_cons_succ])); (try dsimp only); change wpQuiet _ _ _ _ (_ :: _ :: []) _; (repeat (go_big_quiet_step (fail))); refine wpQuiet_nil ?_; (try dsimp only))
  clear hN
  go_wp2_with fail
  go_end0
  have hset : Ext (fun s => s = q ∨ s = o) g3 w3 g3 (w3.setCell ⟨wb, 0, none⟩ (.slice A3 (bs.length + (encU (2 * n)).length) c3)) := (Ext.refl _ g3 w3).setCell (p := ⟨wb, 0, none⟩) (fun _ => .inl HO3.out) HF3.out _
  have hset2 : Ext (· = q) g3 w3 g3 (w3.setCell ⟨wb, 0, none⟩ (.slice A3 (bs.length + (encU (2 * n)).length) c3)) := (Ext.refl _ g3 w3).setCell (p := ⟨wb, 0, none⟩) (fun _ => HO3.out) HF3.out _
  refine ⟨rfl, g3, (HX3.out.imp (fun s e => .inr e)).trans hset, ⟨⟨A3, c3, ?_, ?_⟩, HO3.out, HF3.out, hne⟩⟩
  · have := HS3.out.set 0 (.slice A3 (bs.length + (encU (2 * n)).length) c3)
    rw [hlen]
    simpa using this
  · have := HA3.out.ext hset2 hne
    rw [hlen, bv_append]
    exact this

set_option maxRecDepth 100000 in
set_option maxHeartbeats 1600000 in
theorem wtext_any (g : Gh) (x : World) (wb q o : Nat) (bs : List UInt8) (h : WrAt g x wb q o bs) (s : ByteArray) (hs : s.size ≤ 900) (hl : bs.length ≤ 1000000000) :
    Calls Tryz.prog 104 #[.pointer (some ⟨wb, 0, none⟩), .string s] x fun e x' => e = .returned (.tuple #[]) ∧ ∃ g', Ext (fun s => s = q ∨ s = o) g x g' x' ∧ WrAt g' x' wb q o (bs ++ encT s) := by
  obtain ⟨⟨A, cap, hb, ha⟩, hO, hF, hne⟩ := h
  have HA := Lib.hid ha
  obtain ⟨i0, hi, hz0, hz1, hz2⟩ := info_parts Tryz.infoU8
  have hS : Blk wb 133 [.slice A bs.length cap] x.drew := hb.below (Below.refl _ _).drew
  have hlen : (bs ++ encT s).length = bs.length + ((encU s.size).length + s.size) := by simp [encT]
  have hnb : (((encU s.size).length + s.size) : Nat) ≤ 1000 := by have := encU_len s.size 10 (by omega) (by omega); omega
  clear ha hb
  go_enter Tryz.func104, Tryz.ntmps104
  go_wp2_with fail
  (refine wp_region_mixz (S := Blk wb 133 [.slice A bs.length cap]) [8, 9] 10 [([0, 1, 2, 3, 4, 5], 6), ([], 7)] (by kernel_rfl) (by kernel_rfl) (by intro c a d v w h; cases d <;> exact h) hS ?_; have hN : Nonempty (Held (Blk wb 133 [.slice A bs.length cap])) := ⟨⟨_, hS⟩⟩)
  have r0 : ∀ y : Held (Blk wb 133 [.slice A bs.length cap]), y.w.cell? ⟨wb, 0, none⟩ = some (.slice A bs.length cap) := fun y => y.ok.cell 0
  (unfold wpMixZ wpRd; (repeat (first | simp only [List.filterMap_cons] | simp only [List.filterMap_nil] | simp only [List.getElem?_toArray] | simp only [List.getElem?_cons_zero] | simp only [List.getElem?_cons_succ])); (try dsimp only); change wpQuiet _ _ _ _ (_ :: _ :: _ :: _ :: _ :: _ :: []) _; (repeat (go_big_quiet_step (fail))); refine wpQuiet_nil ?_; (try dsimp only))
  clear r0
  go_wp2_with fail
  refine (putText_any o g s hs _).mono ?_
  rintro e w2 ⟨A', cap', g2, rfl, hb2, hF2, hO2, ha2, _⟩
  have hx2 : Ext (fun _ => False) g _ g2 w2 := (Ext.of_below (fun _ => False) g hb2).up hF2 hO2
  have hxx : Ext (fun _ => False) g x g2 w2 := ((Ext.refl _ _ _).drew).trans hx2
  have hS2 : Blk wb 133 [.slice A bs.length cap] w2 := hS.below hb2
  have HA2 := Lib.hid (HA.out.ext hxx (fun h => h))
  have HO2 : Hid (g2.O wb = q) := (hxx.own _ (by have := hS.lt; simpa using this)).trans hO
  have HF2 : Hid (g2.F wb = 0) := hxx.zero _ (by have := hS.lt; simpa using this) hF
  have HSRC : Hid (Src Tryz.prog 1 30 (.slice A' ((encU s.size).length + s.size) cap') ((encU s.size).length + s.size) (bv (encT s)) w2) := ha2.rd.src Tryz.underlying30 cap' (bv_one _) (fun e => (ha2.nz e).1)
  have HXX := Lib.hid hxx
  clear hx2 hxx hF2 hO2 ha2 hb2 hS
  go_wp2_with fail
  refine ⟨hS2, ?_⟩
  (unfold wpMixZ wpRd; (repeat (first | simp only [List.filterMap_cons] | simp only [List.filterMap_nil] | simp only [List.getElem?_toArray] | simp only [List.getElem?_cons_zero] | simp only [List.getElem?_cons_succ])); (try dsimp only); change wpQuiet _ _ _ _ ([]) _; (repeat (go_big_quiet_step (fail))); refine wpQuiet_nil ?_; (try dsimp only))
  refine wpList_append_app rfl _ _ _ _ rfl 5 i0 (.int .u8 0) 1 1 Tryz.underlying30 hi hz0 hz1 hz2 rfl (by decide) rfl HA2.out rfl HSRC.out (by unfold maxLen; omega) (by omega) ?_
  intro A3 c3 w3 g3 hx3 ha3 _
  have hS3 : Blk wb 133 [.slice A bs.length cap] w3 := hS2.ext hx3 (by rw [HO2.out]; exact fun e => hne e.symm)
  have HX3 := Lib.hid ((HXX.out.imp (fun _ h => h.elim)).trans hx3)
  have HA3 := Lib.hid ha3
  have HS3 := Lib.hid hS3
  have HO3 : Hid (g3.O wb = q) := (hx3.own _ hS2.lt).trans HO2.out
  have HF3 : Hid (g3.F wb = 0) := hx3.zero _ hS2.lt HF2.out
  clear hx3 ha3 HA2 HSRC HXX HA hS2
  refine ⟨hS3, ?_⟩
  have c0 : w3.cell? ⟨wb, 0, none⟩ = some (.slice A bs.length cap) := hS3.cell 0
  have z := hS3.fz
  clear hS3
  go_frame
  (unfold wpMixZ wpRd; (repeat (first | simp only [List.filterMap_cons] | simp only [List.filterMap_nil] | simp only [List.getElem?_toArray] | simp only [List.getElem?_cons_zero] | simp only [List.getElem?_cons_succ])); (try dsimp only); change wpQuiet _ _ _ _ (_ :: _ :: []) _; (repeat (go_big_quiet_step (fail))); refine wpQuiet_nil ?_; (try dsimp only))
  clear hN
  go_wp2_with fail
  go_end0
  have hset : Ext (fun s => s = q ∨ s = o) g3 w3 g3 (w3.setCell ⟨wb, 0, none⟩ (.slice A3 (bs.length + ((encU s.size).length + s.size)) c3)) := (Ext.refl _ g3 w3).setCell (p := ⟨wb, 0, none⟩) (fun _ => .inl HO3.out) HF3.out _
  have hset2 : Ext (· = q) g3 w3 g3 (w3.setCell ⟨wb, 0, none⟩ (.slice A3 (bs.length + ((encU s.size).length + s.size)) c3)) := (Ext.refl _ g3 w3).setCell (p := ⟨wb, 0, none⟩) (fun _ => HO3.out) HF3.out _
  refine ⟨rfl, g3, (HX3.out.imp (fun s e => .inr e)).trans hset, ⟨⟨A3, c3, ?_, ?_⟩, HO3.out, HF3.out, hne⟩⟩
  · have := HS3.out.set 0 (.slice A3 (bs.length + ((encU s.size).length + s.size)) c3)
    rw [hlen]
    simpa using this
  · have := HA3.out.ext hset2 hne
    rw [hlen, bv_append]
    exact this


theorem WrAt.ext {g g' : Gh} {x x' : World} {wb q o : Nat} {bs : List UInt8} {M : Nat → Prop} (h : WrAt g x wb q o bs) (hx : Ext M g x g' x') (h1 : ¬ M q) (h2 : ¬ M o) : WrAt g' x' wb q o bs := by
  obtain ⟨⟨A, cap, hb, ha⟩, hO, hF, hne⟩ := h
  exact ⟨⟨A, cap, hb.ext hx (by rw [hO]; exact h1), ha.ext hx h2⟩, (hx.own _ hb.lt).trans hO, hx.zero _ hb.lt hF, hne⟩
theorem WrAt.drew {g : Gh} {x : World} {wb q o : Nat} {bs : List UInt8} (h : WrAt g x wb q o bs) : WrAt g x.drew wb q o bs := h.ext (M := fun _ => False) (Ext.refl _ _ _).drew (fun h => h) (fun h => h)
theorem WrAt.lt {g : Gh} {x : World} {wb q o : Nat} {bs : List UInt8} (h : WrAt g x wb q o bs) : wb < x.heap.size := by
  obtain ⟨⟨A, cap, hb, ha⟩, hO, hF, hne⟩ := h
  exact hb.lt
/-- The bytes of an entry, and of a list of entries. -/
def encE (h : Hv) : List UInt8 := encT h.path ++ encU (2 * h.num.toNat) ++ encT h.loc
def encH (E : List Hv) : List UInt8 := encU (2 * E.length) ++ E.flatMap encE
theorem encT_len (s : ByteArray) (hs : s.size ≤ 900) : (encT s).length ≤ 910 := by
  have := encU_len s.size 10 (by omega) (by omega)
  simp [encT]
  omega
theorem encE_len (h : Hv) (h1 : h.path.size ≤ 900) (h2 : h.loc.size ≤ 900) (h3 : h.num.toNat < 4611686018427387904) : (encE h).length ≤ 2000 := by
  have a := encT_len _ h1
  have b := encT_len _ h2
  have c := encU_len (2 * h.num.toNat) 10 (by omega) (by omega)
  simp only [encE, List.length_append]
  omega

set_option maxRecDepth 100000 in
set_option maxHeartbeats 1600000 in
theorem entry_any (g : Gh) (x : World) (wb q o : Nat) (bs : List UInt8) (h : WrAt g x wb q o bs) (p l : ByteArray) (k : Nat) (hp : p.size ≤ 900) (hl : l.size ≤ 900) (hk : k < 4611686018427387904) (hbs : bs.length ≤ 900000000) :
    Calls Tryz.prog 77 #[.pointer (some ⟨wb, 0, none⟩), .agg #[.string p, .int .i64 (k : Int), .string l]] x fun e x' => e = .returned (.tuple #[]) ∧ ∃ g', Ext (fun s => s = q ∨ s = o) g x g' x' ∧ WrAt g' x' wb q o (bs ++ (encT p ++ encU (2 * k) ++ encT l)) := by
  have hx1 := Ext.give (fun _ => False) g x (.cells #[.string p, .int .i64 (k : Int), .string l] 32) (o + q + 1)
  have HX1 := Lib.hid (hx1.imp (M' := fun s => s = q ∨ s = o) (fun _ h => h.elim))
  have HW1 := Lib.hid (h.ext hx1 (fun h => h) (fun h => h))
  have HB1 : Hid (Blk x.heap.size 32 [.string p, .int .i64 (k : Int), .string l] (x.alloc (.cells #[.string p, .int .i64 (k : Int), .string l] 32))) := Blk.new x 32 [.string p, .int .i64 (k : Int), .string l]
  have hO1 := Gh.give_O g x.heap.size (o + q + 1)
  have hl1 := encT_len p hp
  have hl2 := encU_len (2 * k) 10 (by omega) (by omega)
  clear hx1 h
  go_enter Tryz.func77, Tryz.ntmps77
  go_wp2_with fail
  generalize x.alloc (.cells #[.string p, .int .i64 (k : Int), .string l] 32) = x1 at *
  generalize g.give x.heap.size (o + q + 1) = g1 at *
  generalize x.heap.size = hb at *
  have hS : Blk hb 32 [.string p, .int .i64 (k : Int), .string l] x1.drew := HB1.out.below (Below.refl _ _).drew
  (refine wp_region_mix (S := Blk hb 32 [.string p, .int .i64 (k : Int), .string l]) [] [([0, 1, 2, 3, 4], 5)] (by kernel_rfl) (by kernel_rfl) (by intro c a d v w h; cases d <;> exact h) hS ?_; have hN : Nonempty (Held (Blk hb 32 [.string p, .int .i64 (k : Int), .string l])) := ⟨⟨_, hS⟩⟩)
  have r0 : ∀ y : Held (Blk hb 32 [.string p, .int .i64 (k : Int), .string l]), y.w.cell? ⟨hb, 0, none⟩ = some (.string p) := fun y => y.ok.cell 0
  (unfold wpMix wpRd; (repeat (first | simp only [List.filterMap_cons] | simp only [List.filterMap_nil] | simp only [List.getElem?_toArray] | simp only [List.getElem?_cons_zero] | simp only [List.getElem?_cons_succ])); (try dsimp only); change wpQuiet _ _ _ _ (_ :: _ :: _ :: _ :: _ :: []) _; (repeat (go_big_quiet_step (fail))); refine wpQuiet_nil ?_; (try dsimp only))
  clear r0
  go_wp2_with fail
  refine (wtext_any g1 _ wb q o bs HW1.out.drew p hp (by omega)).mono ?_
  rintro e x2 ⟨rfl, g2, hx2, hw2⟩
  have hxd2 := (Ext.refl (fun s => s = q ∨ s = o) g1 x1).drew.trans hx2
  have hB2 : Blk hb 32 [.string p, .int .i64 (k : Int), .string l] x2 := HB1.out.ext hxd2 (by rw [hO1]; omega)
  have hO2 : g2.O hb = o + q + 1 := (hxd2.own _ HB1.out.lt).trans hO1
  have HX2 := Lib.hid (HX1.out.trans hxd2)
  have HB2 := Lib.hid hB2
  have HW2 := Lib.hid hw2
  clear hx2 hw2 hxd2 hS
  go_wp2_with fail
  refine ⟨hB2, ?_⟩
  (unfold wpMix wpRd; (repeat (first | simp only [List.filterMap_cons] | simp only [List.filterMap_nil] | simp only [List.getElem?_toArray] | simp only [List.getElem?_cons_zero] | simp only [List.getElem?_cons_succ])); (try dsimp only); change wpQuiet _ _ _ _ ([]) _; (repeat (go_big_quiet_step (fail))); refine wpQuiet_nil ?_; (try dsimp only))
  clear hN
  have hS : Blk hb 32 [.string p, .int .i64 (k : Int), .string l] x2.drew := hB2.below (Below.refl _ _).drew
  clear hB2
  go_wp2_with fail
  (refine wp_region_mix (S := Blk hb 32 [.string p, .int .i64 (k : Int), .string l]) [] [([0, 1, 2, 3, 4], 5)] (by kernel_rfl) (by kernel_rfl) (by intro c a d v w h; cases d <;> exact h) hS ?_; have hN : Nonempty (Held (Blk hb 32 [.string p, .int .i64 (k : Int), .string l])) := ⟨⟨_, hS⟩⟩)
  have r0 : ∀ y : Held (Blk hb 32 [.string p, .int .i64 (k : Int), .string l]), y.w.cell? ⟨hb, 1, none⟩ = some (.int .i64 (k : Int)) := fun y => y.ok.cell 1
  (unfold wpMix wpRd; (repeat (first | simp only [List.filterMap_cons] | simp only [List.filterMap_nil] | simp only [List.getElem?_toArray] | simp only [List.getElem?_cons_zero] | simp only [List.getElem?_cons_succ])); (try dsimp only); change wpQuiet _ _ _ _ (_ :: _ :: _ :: _ :: _ :: []) _; (repeat (go_big_quiet_step (fail))); refine wpQuiet_nil ?_; (try dsimp only))
  clear r0
  go_wp2_with fail
  refine (wnumber_any g2 _ wb q o _ HW2.out.drew k hk (by simp only [List.length_append]; omega)).mono ?_
  rintro e x3 ⟨rfl, g3, hx3, hw3⟩
  have hxd3 := (Ext.refl (fun s => s = q ∨ s = o) g2 x2).drew.trans hx3
  have hB3 : Blk hb 32 [.string p, .int .i64 (k : Int), .string l] x3 := HB2.out.ext hxd3 (by rw [hO2]; omega)
  have hO3 : g3.O hb = o + q + 1 := (hxd3.own _ HB2.out.lt).trans hO2
  have HX3 := Lib.hid (HX2.out.trans hxd3)
  have HB3 := Lib.hid hB3
  have HW3 := Lib.hid hw3
  clear hx3 hw3 hxd3 hS
  go_wp2_with fail
  refine ⟨hB3, ?_⟩
  (unfold wpMix wpRd; (repeat (first | simp only [List.filterMap_cons] | simp only [List.filterMap_nil] | simp only [List.getElem?_toArray] | simp only [List.getElem?_cons_zero] | simp only [List.getElem?_cons_succ])); (try dsimp only); change wpQuiet _ _ _ _ ([]) _; (repeat (go_big_quiet_step (fail))); refine wpQuiet_nil ?_; (try dsimp only))
  clear hN
  have hS : Blk hb 32 [.string p, .int .i64 (k : Int), .string l] x3.drew := hB3.below (Below.refl _ _).drew
  clear hB3
  go_wp2_with fail
  (refine wp_region_mix (S := Blk hb 32 [.string p, .int .i64 (k : Int), .string l]) [] [([0, 1, 2, 3, 4], 5)] (by kernel_rfl) (by kernel_rfl) (by intro c a d v w h; cases d <;> exact h) hS ?_; have hN : Nonempty (Held (Blk hb 32 [.string p, .int .i64 (k : Int), .string l])) := ⟨⟨_, hS⟩⟩)
  have r0 : ∀ y : Held (Blk hb 32 [.string p, .int .i64 (k : Int), .string l]), y.w.cell? ⟨hb, 2, none⟩ = some (.string l) := fun y => y.ok.cell 2
  (unfold wpMix wpRd; (repeat (first | simp only [List.filterMap_cons] | simp only [List.filterMap_nil] | simp only [List.getElem?_toArray] | simp only [List.getElem?_cons_zero] | simp only [List.getElem?_cons_succ])); (try dsimp only); change wpQuiet _ _ _ _ (_ :: _ :: _ :: _ :: _ :: []) _; (repeat (go_big_quiet_step (fail))); refine wpQuiet_nil ?_; (try dsimp only))
  clear r0
  go_wp2_with fail
  refine (wtext_any g3 _ wb q o _ HW3.out.drew l hl (by simp only [List.length_append]; omega)).mono ?_
  rintro e x4 ⟨rfl, g4, hx4, hw4⟩
  have hxd4 := (Ext.refl (fun s => s = q ∨ s = o) g3 x3).drew.trans hx4
  have hB4 : Blk hb 32 [.string p, .int .i64 (k : Int), .string l] x4 := HB3.out.ext hxd4 (by rw [hO3]; omega)
  have hO4 : g4.O hb = o + q + 1 := (hxd4.own _ HB3.out.lt).trans hO3
  have HX4 := Lib.hid (HX3.out.trans hxd4)
  have HB4 := Lib.hid hB4
  have HW4 := Lib.hid hw4
  clear hx4 hw4 hxd4 hS
  go_wp2_with fail
  refine ⟨hB4, ?_⟩
  (unfold wpMix wpRd; (repeat (first | simp only [List.filterMap_cons] | simp only [List.filterMap_nil] | simp only [List.getElem?_toArray] | simp only [List.getElem?_cons_zero] | simp only [List.getElem?_cons_succ])); (try dsimp only); change wpQuiet _ _ _ _ ([]) _; (repeat (go_big_quiet_step (fail))); refine wpQuiet_nil ?_; (try dsimp only))
  clear hN
  have hS : Blk hb 32 [.string p, .int .i64 (k : Int), .string l] x4.drew := hB4.below (Below.refl _ _).drew
  clear hB4
  go_wp2_with fail
  go_end0
  refine ⟨rfl, g4, HX4.out, ?_⟩
  have := HW4.out
  rw [List.append_assoc, List.append_assoc, ← List.append_assoc (encT p)] at this
  exact this

theorem encs_len (E : List Hv) (h : ∀ h ∈ E, h.path.size ≤ 900 ∧ h.loc.size ≤ 900 ∧ 0 ≤ h.num ∧ h.num < 4611686018427387904) : (E.flatMap encE).length ≤ 2000 * E.length := by
  induction E with
  | nil => simp
  | cons a t ih =>
    have h1 := h a (List.mem_cons_self ..)
    have h2 := encE_len a h1.1 h1.2.1 (by omega)
    have h3 := ih (fun q hq => h q (List.mem_cons_of_mem _ hq))
    simp only [List.flatMap_cons, List.length_append, List.length_cons]
    omega

set_option maxRecDepth 100000 in
set_option maxHeartbeats 1600000 in
theorem hencode_any (g : Gh) (x : World) (A : Option Addr) (c : Nat) (E : List Hv) (hr : Rd 3 g x A E.length (celH E)) (hE : ∀ h ∈ E, h.path.size ≤ 900 ∧ h.loc.size ≤ 900 ∧ 0 ≤ h.num ∧ h.num < 4611686018427387904) (hn : E.length ≤ 5000) :
    Calls Tryz.prog 57 #[.slice A E.length c] x fun e x' => ∃ A' c' g', e = .returned (.slice A' (encH E).length c') ∧ Ext (fun _ => False) g x g' x' ∧ BytesAt g' x' (.slice A' (encH E).length c') (encH E) := by
  obtain ⟨q, hq⟩ := owner_new g x.heap.size
  obtain ⟨o, ho⟩ : ∃ o, (∀ b, b < x.heap.size → g.O b ≠ o) ∧ o ≠ q := by
    obtain ⟨m, hm⟩ := owner_new ⟨g.F, fun b => if b < x.heap.size then g.O b else q⟩ (x.heap.size + 1)
    refine ⟨m, fun b hb => ?_, ?_⟩
    · have := hm b (by omega)
      dsimp only at this
      rwa [if_pos hb] at this
    · have := hm x.heap.size (by omega)
      dsimp only at this
      rw [if_neg (by omega)] at this
      exact fun e => this e.symm
  have hx1 := Ext.give (fun s => s = q ∨ s = o) g x (.cells #[.slice none 0 0] 133) q
  have hw1 : WrAt (g.give x.heap.size q) (x.alloc (.cells #[.slice none 0 0] 133)) x.heap.size q o [] :=
    ⟨⟨none, 0, Blk.new x 133 [.slice none 0 0], App.nil _ _ _ _ _⟩, Gh.give_O _ _ _, Gh.give_F _ _ _, ho.2⟩
  have HX1 := Lib.hid hx1
  have HW1 := Lib.hid hw1
  have HR1 := Lib.hid (hr.ext hx1)
  have HHI : Hid (∀ g' x', Ext (fun s => s = q ∨ s = o) g x g' x' → Ext (fun _ => False) g x g' x') := fun g' x' h => h.more fun b hb hM => by
    rcases hM with hM | hM
    · exact hq b hb hM
    · exact ho.1 b hb hM
  have HE := Lib.hid hE
  clear hx1 hw1 hr hq ho hE
  go_enter Tryz.func57, Tryz.ntmps57
  go_wp2_with fail
  generalize x.alloc (.cells #[.slice none 0 0] 133) = x1 at *
  generalize g.give x.heap.size q = g1 at *
  generalize x.heap.size = wb at *
  have HC1 := Lib.hid (wnumber_any g1 x1 wb q o [] HW1.out E.length (by omega) (by simp))
  go_wp2_with fail
  refine HC1.out.mono ?_
  rintro e x2 ⟨rfl, g2, hx2, hw2⟩
  have HX2 := Lib.hid (HX1.out.trans hx2)
  have HW2 := Lib.hid hw2
  have HR2 := Lib.hid (HR1.out.ext hx2)
  clear hx2 hw2 HX1 HW1 HR1 HC1
  go_wp2_with fail
  go_loopw [12] (fun i wr => ∃ (k : Nat) (gr : Gh), i = .int .i64 k ∧ k ≤ E.length ∧ Ext (fun s => s = q ∨ s = o) g x gr wr ∧ WrAt gr wr wb q o (encU (2 * E.length) ++ (E.take k).flatMap encE) ∧ Rd 3 gr wr A E.length (celH E)) (fun i _ => E.length - (intOf i).toNat)
  case atStart => exact ⟨0, g2, rfl, Nat.zero_le _, HX2.out, by simpa using HW2.out, HR2.out⟩
  case round =>
    obtain ⟨k, gr, rfl, hk, hxr, hwr, hrr⟩ := hrel
    by_cases hlt : k < E.length
    · have hlt' : (k : Int) < (E.length : Int) := by omega
      have hEk := HE.out E[k] (List.getElem_mem hlt)
      obtain ⟨b, off, hA, _, _, hc⟩ := hrr.at_ (by omega)
      have hg0 := celH_get E k 0 E[k] (List.getElem?_eq_getElem hlt) (by omega)
      have hg1 := celH_get E k 1 E[k] (List.getElem?_eq_getElem hlt) (by omega)
      have hg2 := celH_get E k 2 E[k] (List.getElem?_eq_getElem hlt) (by omega)
      have c0 := hc _ _ hg0
      have c1 := hc _ _ hg1
      have c2 := hc _ _ hg2
      have hts : E.take (k + 1) = E.take k ++ [E[k]] := by rw [List.take_add_one, List.getElem?_eq_getElem hlt]; rfl
      have HTS := Lib.hid hts
      subst hA
      clear hg0 hg1 hg2 hc hts
      obtain ⟨h, hh⟩ : ∃ h, E[k] = h := ⟨_, rfl⟩
      rw [hh] at HTS hEk c0 c1 c2
      clear hh
      obtain ⟨p, nn, l⟩ := h
      simp only [Nat.add_zero, ← Nat.add_assoc] at c0 c1 c2
      dsimp only at hEk c0 c1 c2
      obtain ⟨hp, hl, hn0, hn1⟩ := hEk
      obtain ⟨kk, rfl⟩ : ∃ kk : Nat, nn = (kk : Int) := ⟨nn.toNat, by omega⟩
      have hkk : kk < 4611686018427387904 := by omega
      have hx5 := Ext.give (fun _ => False) gr wr (.cells #[.string p, .int .i64 (kk : Int), .string l] 32) (o + q + 1)
      have hbl : (encU (2 * E.length) ++ (E.take k).flatMap encE).length ≤ 900000000 := by
        have h1 := encs_len (E.take k) (fun a ha => HE.out a (List.mem_of_mem_take ha))
        have h2 := encU_len (2 * E.length) 10 (by omega) (by omega)
        rw [List.length_take] at h1
        rw [List.length_append]
        omega
      have HEN := Lib.hid (entry_any (gr.give wr.heap.size (o + q + 1)) (wr.alloc (.cells #[.string p, .int .i64 (kk : Int), .string l] 32)) wb q o _ (hwr.ext hx5 (fun h => h) (fun h => h)) p l kk hp hl hkk hbl)
      have HX5 := Lib.hid (hxr.trans (hx5.imp (fun _ h => h.elim)))
      have HR5 := Lib.hid (hrr.ext hx5)
      clear hbl hx5 hwr hxr hrr hn0 hn1 HX2 HW2 HR2
      go_wp2_with fail
      refine HEN.out.mono ?_
      rintro e x6 ⟨rfl, g6, hx6, hw6⟩
      have HX6 := Lib.hid (HX5.out.trans hx6)
      have HR6 := Lib.hid (HR5.out.ext hx6)
      have HW6 := Lib.hid hw6
      clear hx6 hw6 HX5 HR5 HEN c0 c1 c2
      go_wp2_with fail
      go_round
      case rel =>
        refine ⟨k + 1, g6, by go_num, by omega, HX6.out, ?_, HR6.out⟩
        have h1 := HW6.out
        rw [HTS.out, List.flatMap_append, List.append_assoc] at *
        simpa [encE] using h1
      case measure => simp [intOf]; omega
    · obtain rfl : k = E.length := by omega
      obtain ⟨⟨A', c', hb, ha⟩, hO, hF, hne⟩ := hwr
      rw [List.take_length] at hb ha
      have HB := Lib.hid hb
      have HA := Lib.hid ha
      have c0 : wr.cell? ⟨wb, 0, none⟩ = some (.slice A' (encU (2 * E.length) ++ E.flatMap encE).length c') := hb.cell 0
      clear hb ha HX2 HW2 HR2
      obtain ⟨n, hn9⟩ : ∃ n, (encU (2 * E.length) ++ E.flatMap encE).length = n := ⟨_, rfl⟩
      rw [hn9] at c0
      have HN := Lib.hid hn9
      clear hn9
      go_wp2
      go_ret
      refine ⟨A', c', gr, ?_, HHI.out _ _ hxr, ?_⟩
      · unfold encH
        rw [HN.out]
        rfl
      · exact BytesAt.of_new HA.out

end Go.Proofs.YtjjdffafibonhaaGreatDoor
