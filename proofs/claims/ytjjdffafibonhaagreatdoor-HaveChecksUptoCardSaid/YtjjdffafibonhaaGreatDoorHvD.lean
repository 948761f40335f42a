/-
  What have.decode reads: the bytes that have.encode has written give the list.
-/
import Derived.Test.YtjjdffafibonhaaGreatDoorHvE
import Derived.Test.YtjjdffafibonhaaGreatDoorHvC
import Derived.Test.YtjjdffafibonhaaGreatDoorGenA
namespace Go.Proofs.YtjjdffafibonhaaGreatDoor
open Go.RowKit

theorem zag (n : Nat) (hn : n < 4611686018427387904) : bits .xor .i64 (n : Int) (wrap64 (-wrap64 (bits .and .u64 (2 * (n : Int)) 1))) = (n : Int) := by
  have h1 : 2 * (n : Int) = ((2 * n : Nat) : Int) := by omega
  have h2 := u64_and_nat (2 * n) 1 (by omega) (by omega)
  rw [Nat.and_one_is_mod, show 2 * n % 2 = 0 by omega] at h2
  rw [h1]
  have h3 : bits .and .u64 ((2 * n : Nat) : Int) 1 = 0 := h2
  rw [h3]
  have h4 : wrap64 (-wrap64 0) = 0 := by simp [wrap64]
  rw [h4]
  have h5 : (BitVec.ofNat 64 n ^^^ 0#64).toNat = n := by
    rw [BitVec.xor_zero, BitVec.toNat_ofNat]
    exact Nat.mod_eq_of_lt (by omega)
  simp only [bits, IntKind.wrap, IntKind.bits, IntKind.signed]
  simp
  have key : ∀ m : Nat, m = n → (if 9223372036854775808 ≤ (m : Int) % 18446744073709551616 then (m : Int) % 18446744073709551616 - 18446744073709551616 else (m : Int) % 18446744073709551616) = (n : Int) := fun m hm => by
    subst hm
    rw [if_neg (by omega)]
    omega
  exact key _ h5

set_option maxRecDepth 100000 in
set_option maxHeartbeats 800000 in
theorem codecInt_any (g : Gh) (A : Option Addr) (c : Nat) (l : List UInt8) (at_ : Nat) (w : World) (hr : Rd 1 g w A l.length (bv l)) (hb : l.length ≤ 140737488355328) (ha : at_ ≤ l.length) (hc : l.length ≤ c) (n : Nat) (hn : n < 4611686018427387904) (r : List UInt8) (hd : l.drop at_ = encU (2 * n) ++ r) :
    Calls Tryz.prog 72 #[.slice A l.length c, .int .i64 at_] w fun e w' => e = .returned (.tuple #[.int .i64 (n : Int), .int .i64 ((at_ + (encU (2 * n)).length : Nat) : Int), .int .i64 0]) ∧ w = w' := by
  have hu := uint_any g A c l at_ w hr hb ha hc
  unfold UintP at hu
  rw [hd, dec_enc (2 * n) 0 0 r (by omega) (by omega) (by omega)] at hu
  simp only [Nat.pow_zero, Nat.mul_one, Nat.zero_add, if_true] at hu
  have HU := Lib.hid hu
  clear hu hd hr
  go_enter Tryz.func72, Tryz.ntmps72
  go_wp2_with fail
  refine HU.out.mono ?_
  rintro e w' ⟨rfl, rfl⟩
  go_wp2_with fail
  go_ret3
  rw [zag n hn]
  exact ⟨by rw [show ((at_ + (encU (2 * n)).length : Nat) : Int) = (at_ : Int) + ((encU (2 * n)).length : Int) by omega]; rfl, rfl⟩

theorem run_cut_lk {P : Program} {t e : TypeId} {i : TypeInfo} (ht : P.underlying t = some (.slice e)) (hi : P.info? e = some i) (A : Option Addr) (n c l k : Nat) (h : l ≤ k) (h2 : k ≤ c) (w : World) : (Instr.slice t (.slice A n c) (some (.int .i64 (l : Int))) (some (.int .i64 (k : Int))) none).run P w = .ok (.slice (cutA i.size A c l) (k - l) (c - l)) w := by
  simp [Instr.slice, Instr.sliceBounds, run_underlying ht, sizeOf, typeInfo, hi, run_bound h, run_bound h2, cutA]

set_option maxRecDepth 100000 in
set_option maxHeartbeats 800000 in
theorem codecText_any (g : Gh) (A : Option Addr) (c : Nat) (l : List UInt8) (at_ : Nat) (w : World) (hr : Rd 1 g w A l.length (bv l)) (hb : l.length ≤ 140737488355328) (ha : at_ ≤ l.length) (hc : l.length ≤ c) (s : ByteArray) (hs : s.size ≤ 200) (r : List UInt8) (hd : l.drop at_ = encT s ++ r) (hz : A = none → l.length = 0) (hcm : c ≤ maxLen) :
    Calls Tryz.prog 73 #[.slice A l.length c, .int .i64 at_, .int .i64 200] w fun e w' => e = .returned (.tuple #[.string s, .int .i64 ((at_ + (encT s).length : Nat) : Int), .int .i64 0]) ∧ w = w' := by
  have hu := uint_any g A c l at_ w hr hb ha hc
  have hd2 := hd
  unfold UintP at hu
  rw [encT, List.append_assoc] at hd
  rw [hd, dec_enc s.size 0 0 (s.data.toList ++ r) (by omega) (by omega) (by omega)] at hu
  simp only [Nat.pow_zero, Nat.mul_one, Nat.zero_add, if_true] at hu
  have HU := Lib.hid hu
  have hlen : l.length - at_ = (encU s.size).length + s.size + r.length := by
    have := congrArg List.length hd
    simp at this
    omega
  obtain ⟨i0, hi, hz0, hz1, hz2⟩ := info_parts Tryz.infoU8
  obtain ⟨p, hp⟩ : ∃ p, p = at_ + (encU s.size).length := ⟨_, rfl⟩
  have hpl : p + s.size ≤ l.length := by omega
  have hcut := run_cut_lk (P := Tryz.prog) Tryz.underlying30 hi A l.length c p (p + s.size) (by omega) (by omega)
  rw [hz1, Nat.add_sub_cancel_left, show ((p + s.size : Nat) : Int) = (p : Int) + (s.size : Int) by omega] at hcut
  have hbat : BytesAt g w (.slice (cutA 1 A c p) s.size (c - p)) s.data.toList := by
    have hrc := hr.cut (l := p) (k := s.size) (m := c) (by omega) (by omega)
    have e1 : ((bv l).drop (p * 1)).take (s.size * 1) = bv s.data.toList := by
      rw [Nat.mul_one, Nat.mul_one, bv_drop, bv_take]
      congr 1
      rw [hp, ← List.drop_drop, hd, List.drop_left, show s.size = s.data.toList.length by simp, List.take_left]
    rw [e1] at hrc
    have e2 : s.data.toList.length = s.size := by simp
    refine ⟨cutA 1 A c p, c - p, by rw [e2], by rw [e2]; omega, by omega, fun e => ?_, by rw [e2]; exact hrc⟩
    have := hz (cutA_isNone e)
    omega
  have hstr := hbat.str
  rw [← hp] at HU
  have HP : Hid (((at_ + (encT s).length : Nat) : Int) = (p : Int) + (s.size : Int)) := by
    show _ = _
    rw [hp]
    simp [encT]
    omega
  have hs1 : (s.size : Int) ≤ 200 := by omega
  have hs2 : (s.size : Int) ≤ (l.length : Int) - (p : Int) := by omega
  have hs3 : (p : Int) + (s.size : Int) ≤ 9223372036854775807 := by omega
  have hse : (⟨s.data.toList.toArray⟩ : ByteArray) = s := rfl
  rw [hse] at hstr
  clear hu hd hd2 hr hbat hlen hz hp hz0 hz1 hz2 hse
  go_enter Tryz.func73, Tryz.ntmps73
  go_wp2_with fail
  refine HU.out.mono ?_
  rintro e w' ⟨rfl, rfl⟩
  go_wp2_with fail
  go_ret3
  rw [HP.out]
  exact ⟨rfl, rfl⟩

/-- A reader at rb stands at the place at_ of these bytes, without an error. -/
structure RdrAt (g : Gh) (x : World) (rb q : Nat) (l : List UInt8) (at_ : Nat) : Prop where
  ex : ∃ A c, Blk rb 100 [.slice A l.length c, .int .i64 (at_ : Int), .int .i64 0] x ∧ Rd 1 g x A l.length (bv l) ∧ l.length ≤ c ∧ (A = none → l.length = 0) ∧ c ≤ maxLen
  O : g.O rb = q
  F : g.F rb = 0

set_option maxRecDepth 100000 in
set_option maxHeartbeats 1600000 in
theorem rnumber_any (g : Gh) (x : World) (rb q : Nat) (l : List UInt8) (at_ : Nat) (h : RdrAt g x rb q l at_) (n : Nat) (hn : n < 4611686018427387904) (r : List UInt8) (hd : l.drop at_ = encU (2 * n) ++ r) (hb : l.length ≤ 140737488355328) (ha : at_ ≤ l.length) :
    Calls Tryz.prog 53 #[.pointer (some ⟨rb, 0, none⟩)] x fun e x' => e = .returned (.int .i64 (n : Int)) ∧ Ext (· = q) g x g x' ∧ RdrAt g x' rb q l (at_ + (encU (2 * n)).length) := by
  obtain ⟨⟨A, c, hbk, hr, hc, hz, hcm⟩, hO, hF⟩ := h
  have HCI : Hid (∀ y : Held (fun y => ∃ n, y = x.drewN n), Calls Tryz.prog 72 #[.slice A l.length c, .int .i64 at_] y.w fun e w'' => e = .returned (.tuple #[.int .i64 (n : Int), .int .i64 ((at_ + (encU (2 * n)).length : Nat) : Int), .int .i64 0]) ∧ ∃ z : Held (fun y => ∃ n, y = x.drewN n), w'' = z.w) := by
    rintro ⟨y, n9, rfl⟩
    have hrd := hr.ext ((Ext.refl (fun _ => False) g x).drewN n9)
    refine (codecInt_any g A c l at_ _ hrd hb ha hc n hn r hd).mono ?_
    rintro e w' ⟨rfl, rfl⟩
    exact ⟨rfl, ⟨_, n9, rfl⟩, rfl⟩
  have HB := Lib.hid hbk
  have HR := Lib.hid (And.intro hr (And.intro hc (And.intro hz hcm)))
  obtain ⟨p, hp⟩ : ∃ p, at_ + (encU (2 * n)).length = p := ⟨_, rfl⟩
  rw [hp] at HCI ⊢
  have hS : (fun y => ∃ n, y = x.drewN n) x.drew := ⟨1, rfl⟩
  clear hbk hr hc hz hcm hd hp
  go_enter Tryz.func53, Tryz.ntmps53
  go_wp2_with fail
  (refine wp_region_s (S := fun y => ∃ n, y = x.drewN n) (by kernel_rfl) (by kernel_rfl) hS ?_; have hN : Nonempty (Held (fun y => ∃ n, y = x.drewN n)) := ⟨⟨_, hS⟩⟩; (have r0 : ∀ y : Held (fun y => ∃ n, y = x.drewN n), y.w.cell? ⟨rb, 0, none⟩ = some (.slice A l.length c) := fun y => (by obtain ⟨n9, hn⟩ := y.ok; rw [hn]; exact HB.out.cell 0); have r1 : ∀ y : Held (fun y => ∃ n, y = x.drewN n), y.w.cell? ⟨rb, 1, none⟩ = some (.int .i64 at_) := fun y => (by obtain ⟨n9, hn⟩ := y.ok; rw [hn]; exact HB.out.cell 1)); (repeat (go_big_quiet_step ((go_at_call 72; exact HCI.out _)))); refine wpQuiet_nil ?_; rintro _ ⟨⟨x, hx⟩, rfl⟩; clear hN)
  clear r0 r1
  obtain ⟨n9, rfl⟩ := hx
  have hxq := (Ext.refl (· = q) g x).drewN n9
  have HB2 := Lib.hid (HB.out.below (Below.refl _ _ |> fun h => (below_drewN h n9)))
  have HRR := Lib.hid (HR.out.1.ext hxq)
  have HXQ := Lib.hid hxq
  clear hxq
  generalize x.drewN n9 = x2 at *
  have c0 : x2.cell? ⟨rb, 0, none⟩ = some (.slice A l.length c) := HB2.out.cell 0
  have c1 : x2.cell? ⟨rb, 1, none⟩ = some (.int .i64 at_) := HB2.out.cell 1
  have c2 : x2.cell? ⟨rb, 2, none⟩ = some (.int .i64 0) := HB2.out.cell 2
  have z := HB2.out.fz
  go_wp2_with fail
  go_ret
  have hs1 : Ext (· = q) g x2 g (x2.setCell ⟨rb, 1, none⟩ (.int .i64 p)) := (Ext.refl _ g x2).setCell (p := ⟨rb, 1, none⟩) (fun _ => hO) hF _
  have hs2 : Ext (· = q) g (x2.setCell ⟨rb, 1, none⟩ (.int .i64 p)) g ((x2.setCell ⟨rb, 1, none⟩ (.int .i64 p)).setCell ⟨rb, 2, none⟩ (.int .i64 0)) := (Ext.refl _ g _).setCell (p := ⟨rb, 2, none⟩) (fun _ => hO) hF _
  refine ⟨rfl, (HXQ.out.trans hs1).trans hs2, ⟨⟨A, c, ?_, (HRR.out.ext hs1).ext hs2, HR.out.2.1, HR.out.2.2.1, HR.out.2.2.2⟩, hO, hF⟩⟩
  have := (HB2.out.set 1 (.int .i64 p)).set 2 (.int .i64 0)
  simpa using this

set_option maxRecDepth 100000 in
set_option maxHeartbeats 1600000 in
theorem rtext_any (g : Gh) (x : World) (rb q : Nat) (l : List UInt8) (at_ : Nat) (h : RdrAt g x rb q l at_) (s : ByteArray) (hs : s.size ≤ 200) (r : List UInt8) (hd : l.drop at_ = encT s ++ r) (hb : l.length ≤ 140737488355328) (ha : at_ ≤ l.length) :
    Calls Tryz.prog 54 #[.pointer (some ⟨rb, 0, none⟩)] x fun e x' => e = .returned (.string s) ∧ Ext (· = q) g x g x' ∧ RdrAt g x' rb q l (at_ + (encT s).length) := by
  obtain ⟨⟨A, c, hbk, hr, hc, hz, hcm⟩, hO, hF⟩ := h
  have HCI : Hid (∀ y : Held (fun y => ∃ n, y = x.drewN n), Calls Tryz.prog 73 #[.slice A l.length c, .int .i64 at_, .int .i64 200] y.w fun e w'' => e = .returned (.tuple #[.string s, .int .i64 ((at_ + (encT s).length : Nat) : Int), .int .i64 0]) ∧ ∃ z : Held (fun y => ∃ n, y = x.drewN n), w'' = z.w) := by
    rintro ⟨y, n9, rfl⟩
    have hrd := hr.ext ((Ext.refl (fun _ => False) g x).drewN n9)
    refine (codecText_any g A c l at_ _ hrd hb ha hc s hs r hd hz hcm).mono ?_
    rintro e w' ⟨rfl, rfl⟩
    exact ⟨rfl, ⟨_, n9, rfl⟩, rfl⟩
  have HB := Lib.hid hbk
  have HR := Lib.hid (And.intro hr (And.intro hc (And.intro hz hcm)))
  obtain ⟨p, hp⟩ : ∃ p, at_ + (encT s).length = p := ⟨_, rfl⟩
  rw [hp] at HCI ⊢
  have hS : (fun y => ∃ n, y = x.drewN n) x.drew := ⟨1, rfl⟩
  clear hbk hr hc hz hcm hd hp
  go_enter Tryz.func54, Tryz.ntmps54
  go_wp2_with fail
  (refine wp_region_s (S := fun y => ∃ n, y = x.drewN n) (by kernel_rfl) (by kernel_rfl) hS ?_; have hN : Nonempty (Held (fun y => ∃ n, y = x.drewN n)) := ⟨⟨_, hS⟩⟩; (have r0 : ∀ y : Held (fun y => ∃ n, y = x.drewN n), y.w.cell? ⟨rb, 0, none⟩ = some (.slice A l.length c) := fun y => (by obtain ⟨n9, hn⟩ := y.ok; rw [hn]; exact HB.out.cell 0); have r1 : ∀ y : Held (fun y => ∃ n, y = x.drewN n), y.w.cell? ⟨rb, 1, none⟩ = some (.int .i64 at_) := fun y => (by obtain ⟨n9, hn⟩ := y.ok; rw [hn]; exact HB.out.cell 1)); (repeat (go_big_quiet_step ((go_at_call 73; exact HCI.out _)))); refine wpQuiet_nil ?_; rintro _ ⟨⟨x, hx⟩, rfl⟩; clear hN)
  clear r0 r1
  obtain ⟨n9, rfl⟩ := hx
  have hxq := (Ext.refl (· = q) g x).drewN n9
  have HB2 := Lib.hid (HB.out.below (Below.refl _ _ |> fun h => (below_drewN h n9)))
  have HRR := Lib.hid (HR.out.1.ext hxq)
  have HXQ := Lib.hid hxq
  clear hxq
  generalize x.drewN n9 = x2 at *
  have c0 : x2.cell? ⟨rb, 0, none⟩ = some (.slice A l.length c) := HB2.out.cell 0
  have c1 : x2.cell? ⟨rb, 1, none⟩ = some (.int .i64 at_) := HB2.out.cell 1
  have c2 : x2.cell? ⟨rb, 2, none⟩ = some (.int .i64 0) := HB2.out.cell 2
  have z := HB2.out.fz
  go_wp2_with fail
  go_ret
  have hs1 : Ext (· = q) g x2 g (x2.setCell ⟨rb, 1, none⟩ (.int .i64 p)) := (Ext.refl _ g x2).setCell (p := ⟨rb, 1, none⟩) (fun _ => hO) hF _
  have hs2 : Ext (· = q) g (x2.setCell ⟨rb, 1, none⟩ (.int .i64 p)) g ((x2.setCell ⟨rb, 1, none⟩ (.int .i64 p)).setCell ⟨rb, 2, none⟩ (.int .i64 0)) := (Ext.refl _ g _).setCell (p := ⟨rb, 2, none⟩) (fun _ => hO) hF _
  refine ⟨rfl, (HXQ.out.trans hs1).trans hs2, ⟨⟨A, c, ?_, (HRR.out.ext hs1).ext hs2, HR.out.2.1, HR.out.2.2.1, HR.out.2.2.2⟩, hO, hF⟩⟩
  have := (HB2.out.set 1 (.int .i64 p)).set 2 (.int .i64 0)
  simpa using this


theorem RdrAt.ext {g g' : Gh} {x x' : World} {rb q : Nat} {l : List UInt8} {at_ : Nat} {M : Nat → Prop} (h : RdrAt g x rb q l at_) (hx : Ext M g x g' x') (h1 : ¬ M q) : RdrAt g' x' rb q l at_ := by
  obtain ⟨⟨A, c, hb, hr, h2⟩, hO, hF⟩ := h
  exact ⟨⟨A, c, hb.ext hx (by rw [hO]; exact h1), hr.ext hx, h2⟩, (hx.own _ hb.lt).trans hO, hx.zero _ hb.lt hF⟩
theorem RdrAt.lt {g : Gh} {x : World} {rb q : Nat} {l : List UInt8} {at_ : Nat} (h : RdrAt g x rb q l at_) : rb < x.heap.size := by
  obtain ⟨⟨A, c, hb, _⟩, _⟩ := h
  exact hb.lt
theorem RdrAt.cells {g : Gh} {x : World} {rb q : Nat} {l : List UInt8} {at_ : Nat} (h : RdrAt g x rb q l at_) : x.cell? ⟨rb, 1, none⟩ = some (.int .i64 (at_ : Int)) ∧ x.cell? ⟨rb, 2, none⟩ = some (.int .i64 0) := by
  obtain ⟨⟨A, c, hb, _⟩, _⟩ := h
  exact ⟨hb.cell 1, hb.cell 2⟩
theorem two_owners (g : Gh) (n : Nat) : ∃ q o, (∀ b, b < n → g.O b ≠ q) ∧ (∀ b, b < n → g.O b ≠ o) ∧ o ≠ q := by
  obtain ⟨q, hq⟩ := owner_new g n
  obtain ⟨m, hm⟩ := owner_new ⟨g.F, fun b => if b < n then g.O b else q⟩ (n + 1)
  refine ⟨q, m, hq, fun b hb => ?_, ?_⟩
  · have := hm b (by omega)
    dsimp only at this
    rwa [if_pos hb] at this
  · have := hm n (by omega)
    dsimp only at this
    rw [if_neg (by omega)] at this
    exact fun e => this e.symm

set_option maxRecDepth 100000 in
set_option maxHeartbeats 3200000 in
theorem hdecode_any (g : Gh) (x : World) (A : Option Addr) (c : Nat) (E : List Hv) (hb : BytesAt g x (.slice A (encH E).length c) (encH E)) (hE : ∀ h ∈ E, h.path.size ≤ 200 ∧ h.loc.size ≤ 200 ∧ 0 ≤ h.num ∧ h.num < 4611686018427387904) (hn : E.length ≤ 5000) (hck : checkH E = 0) :
    Calls Tryz.prog 37 #[.slice A (encH E).length c] x fun e x' => ∃ A' c' g', e = .returned (.slice A' E.length c') ∧ Ext (fun _ => False) g x g' x' ∧ Rd 3 g' x' A' E.length (celH E) := by
  obtain ⟨l, hl⟩ : ∃ l, encH E = l := ⟨_, rfl⟩
  have hll : l.length ≤ 140737488355328 := by
    have h1 := encs_len E (fun a ha => ⟨by have := hE a ha; omega, by have := hE a ha; omega, (hE a ha).2.2.1, (hE a ha).2.2.2⟩)
    have h2 := encU_len (2 * E.length) 10 (by omega) (by omega)
    rw [← hl, encH, List.length_append]
    omega
  have hd0 : l.drop 0 = encU (2 * E.length) ++ E.flatMap encE := by rw [List.drop_zero, ← hl]; rfl
  rw [hl] at hb ⊢
  obtain ⟨A0, c0, e0, hc0, hcm0, hz0', hr0⟩ := hb
  cases e0
  obtain ⟨q, o, hq, ho, hoq⟩ := two_owners g x.heap.size
  have hx1 := Ext.give (fun s => s = q ∨ s = o) g x (.cells #[.slice A l.length c, .int .i64 0, .int .i64 0] 100) q
  have hrd1 : RdrAt (g.give x.heap.size q) (x.alloc (.cells #[.slice A l.length c, .int .i64 0, .int .i64 0] 100)) x.heap.size q l 0 :=
    ⟨⟨A, c, Blk.new x 100 [.slice A l.length c, .int .i64 0, .int .i64 0], hr0.ext hx1, hc0, fun e => (hz0' e), hcm0⟩, Gh.give_O _ _ _, Gh.give_F _ _ _⟩
  have HX1 := Lib.hid hx1
  have HD1 := Lib.hid hrd1
  have HHI : Hid (∀ g' x', Ext (fun s => s = q ∨ s = o) g x g' x' → Ext (fun _ => False) g x g' x') := fun g' x' h => h.more fun b hb hM => by
    rcases hM with hM | hM
    · exact hq b hb hM
    · exact ho b hb hM
  have HE := Lib.hid hE
  have HCK := Lib.hid hck
  obtain ⟨i0, hi, hz0, hz1, hz2⟩ := info_parts Tryz.infoHave
  clear hx1 hrd1 hr0 hq ho hE hck hl hz0'
  go_enter Tryz.func37, Tryz.ntmps37
  go_wp2_with fail
  generalize x.alloc (.cells #[.slice A l.length c, .int .i64 0, .int .i64 0] 100) = x1 at *
  generalize g.give x.heap.size q = g1 at *
  generalize x.heap.size = rb at *
  refine (rnumber_any g1 x1 rb q l 0 HD1.out E.length (by omega) _ hd0 hll (Nat.zero_le _)).mono ?_
  rintro e x2 ⟨rfl, hx2, hr2⟩
  have HX2 := Lib.hid (HX1.out.trans (hx2.imp (fun _ h => .inl h)))
  have HD2 := Lib.hid hr2
  have hd2 : l.drop (0 + (encU (2 * E.length)).length) = (E.drop 0).flatMap encE := by
    rw [← List.drop_drop, hd0, List.drop_left, List.drop_zero]
  have hl2 : 0 + (encU (2 * E.length)).length ≤ l.length := by
    have := congrArg List.length hd0
    simp at this
    omega
  have HD0 := Lib.hid hd2
  clear hx2 hr2 HX1 HD1 hd0 hd2
  generalize 0 + (encU (2 * E.length)).length = p0 at *
  go_wp2_with fail
  go_loopw [4, 5] (fun v n wr => ∃ (k p : Nat) (gr : Gh) (A4 : Option Addr) (c4 : Nat), n = .int .i64 ((E.length - k : Nat) : Int) ∧ v = .slice A4 k c4 ∧ k ≤ E.length ∧ p ≤ l.length ∧ Hid (l.drop p = (E.drop k).flatMap encE) ∧ Ext (fun s => s = q ∨ s = o) g x gr wr ∧ RdrAt gr wr rb q l p ∧ App 32 3 o gr wr A4 k c4 (celH (E.take k))) (fun _ n _ => (intOf n).toNat)
  case atStart => exact ⟨0, p0, g1, none, 0, rfl, rfl, Nat.zero_le _, hl2, HD0.out, HX2.out, HD2.out, App.nil _ _ _ _ _⟩
  case round =>
    obtain ⟨k, p, gr, A4, c4, rfl, rfl, hk, hp, hdr, hxr, hrr, har⟩ := hrel
    obtain ⟨m, hm⟩ : ∃ m, E.length - k = m := ⟨_, rfl⟩
    rw [hm]
    have HMM := Lib.hid hm
    obtain ⟨cc1, cc2⟩ := hrr.cells
    have HXR := Lib.hid hxr
    have HRR := Lib.hid hrr
    have HAR := Lib.hid har
    clear hxr hrr har hm HX2 HD2 HD0
    by_cases hm0 : 0 < m
    · have hm0' : (0 : Int) < (m : Int) := by omega
      have hmb : (m : Int) ≤ 5000 := by have := HMM.out; omega
      have hlt : k < E.length := by have := HMM.out; omega
      obtain ⟨h, hh⟩ : ∃ h, E[k] = h := ⟨_, rfl⟩
      have hde : E.drop k = h :: E.drop (k + 1) := by rw [List.drop_eq_getElem_cons hlt, hh]
      have hts : E.take (k + 1) = E.take k ++ [h] := by rw [List.take_add_one, List.getElem?_eq_getElem hlt, hh]; rfl
      have hEk := HE.out h (by rw [← hh]; exact List.getElem_mem hlt)
      have hd1 := hdr.out
      rw [hde, List.flatMap_cons] at hd1
      have HTS := Lib.hid hts
      obtain ⟨pa, nn, lo⟩ := h
      dsimp only at hEk
      obtain ⟨hpa, hlo, hn0, hn1⟩ := hEk
      obtain ⟨kk, rfl⟩ : ∃ kk : Nat, nn = (kk : Int) := ⟨nn.toNat, by omega⟩
      have hkk : kk < 4611686018427387904 := by omega
      simp only [encE, Int.toNat_natCast, List.append_assoc] at hd1
      have hdl : ∀ {a b : List UInt8} {n : Nat}, l.drop n = a ++ b → l.drop (n + a.length) = b ∧ (n ≤ l.length → n + a.length ≤ l.length) := fun {a b n} h => by
        refine ⟨by rw [← List.drop_drop, h, List.drop_left], fun hn => ?_⟩
        have := congrArg List.length h
        simp at this
        omega
      obtain ⟨hd2, hp2⟩ := hdl hd1
      obtain ⟨hd3, hp3⟩ := hdl hd2
      obtain ⟨hd4, hp4⟩ := hdl hd3
      have hq2 := hp2 hp
      have hq3 := hp3 hq2
      have hq4 := hp4 hq3
      have HT1 := Lib.hid (fun g x h => rtext_any g x rb q l p h pa hpa _ hd1 hll hp)
      have HT2 := Lib.hid (fun g x h => rnumber_any g x rb q l _ h kk hkk _ hd2 hll hq2)
      have HT3 := Lib.hid (fun g x h => rtext_any g x rb q l _ h lo hlo _ hd3 hll hq3)
      have HD4 := Lib.hid hd4
      clear hd1 hd2 hd3 hd4 hp2 hp3 hp4 hq2 hq3 hdl hde hh hts hdr hn0 hn1
      generalize p + (encT pa).length = p2 at *
      generalize p2 + (encU (2 * kk)).length = p3 at *
      generalize p3 + (encT lo).length = p4 at *
      go_wp2_with fail
      refine (HT1.out gr wr HRR.out).mono ?_
      rintro e x3 ⟨rfl, hx3, hr3⟩
      have HX3 := Lib.hid (HXR.out.trans (hx3.imp (fun _ h => .inl h)))
      have HR3 := Lib.hid hr3
      have HA3 := Lib.hid (HAR.out.ext hx3 hoq)
      clear hx3 hr3 HXR HRR HAR HT1 cc1 cc2
      go_wp2_with fail
      refine (HT2.out gr x3 HR3.out).mono ?_
      rintro e x4 ⟨rfl, hx4, hr4⟩
      have HX4 := Lib.hid (HX3.out.trans (hx4.imp (fun _ h => .inl h)))
      have HR4 := Lib.hid hr4
      have HA4 := Lib.hid (HA3.out.ext hx4 hoq)
      clear hx4 hr4 HX3 HR3 HA3 HT2
      go_wp2_with fail
      refine (HT3.out gr x4 HR4.out).mono ?_
      rintro e x5 ⟨rfl, hx5, hr5⟩
      have hx6 := Ext.lit (fun _ => False) gr x5 (.cells #[.string pa, .int .i64 (kk : Int), .string lo] 32) 0
      have HX6 := Lib.hid ((HX4.out.trans (hx5.imp (fun _ h => .inl h))).trans (hx6.imp (fun _ h => h.elim)))
      have HR6 := Lib.hid (hr5.ext hx6 (fun h => h))
      have HA6 := Lib.hid ((HA4.out.ext hx5 hoq).ext hx6 (fun h => h))
      have HSRC : Hid (Src Tryz.prog 3 29 (.slice (some ⟨x5.heap.size, 0, none⟩) 1 1) 1 [.string pa, .int .i64 (kk : Int), .string lo] (x5.alloc (.cells #[.string pa, .int .i64 (kk : Int), .string lo] 32))) :=
        Src.ofSlice _ Tryz.underlying29 _ 1 1 _ rfl (lit_cells x5 [.string pa, .int .i64 (kk : Int), .string lo] 32) (by simp [Value.oneCell'])
      clear hx5 hx6 hr5 HX4 HR4 HA4 HT3
      go_wp2_with (at_builtin; refine wpList_append_app rfl _ _ _ _ rfl 32 i0 (.agg #[.string ⟨#[]⟩, .int .i64 0, .string ⟨#[]⟩]) 3 40 Tryz.underlying29 hi hz0 hz1 hz2 rfl (by decide) rfl HA6.out rfl HSRC.out (by unfold maxLen; omega) (by omega) ?_; intro A7 c7 x7 g7 hx7 ha7 _; have HX7 := Lib.hid (HX6.out.trans (hx7.imp (fun _ h => .inr h))); have HR7 := Lib.hid (HR6.out.ext hx7 (fun e => hoq e.symm)); have HA7 := Lib.hid ha7; clear hx7 ha7)
      go_round
      case rel =>
        refine ⟨k + 1, p4, g7, A7, c7, ?_, rfl, by omega, hq4, HD4.out, HX7.out, HR7.out, ?_⟩
        · have := HMM.out
          exact congrArg (Value.int .i64) (by omega)
        · rw [HTS.out, celH_append]
          exact HA7.out
      case measure => simp [intOf]; omega
    · obtain rfl : m = 0 := by omega
      have hke : k = E.length := by have := HMM.out; omega
      subst hke
      have hpe : p = l.length := by
        have := hdr.out
        rw [List.drop_length] at this
        have h2 := congrArg List.length this
        simp at h2
        omega
      subst hpe
      have hch := hcheck_any gr wr A4 c4 E (by have h1 := HAR.out.rd; rw [List.take_length] at h1; exact h1) (by omega)
      rw [HCK.out] at hch
      have HCH := Lib.hid hch
      clear hch hdr
      go_wp2_with fail
      refine HCH.out.mono ?_
      rintro e x8 ⟨rfl, hb8⟩
      go_wp2_with fail
      go_ret
      have hx8 := Ext.of_below (fun s => s = q ∨ s = o) gr hb8
      refine ⟨A4, c4, gr, rfl, HHI.out _ _ (HXR.out.trans hx8), ?_⟩
      have h1 := HAR.out.rd
      rw [List.take_length] at h1
      exact h1.ext hx8

end Go.Proofs.YtjjdffafibonhaaGreatDoor
