/-
  codec.PutUint appends a number to a copy of bytes.
-/
import Derived.Test.YthjbaafbkalomaaCodec
import Derived.Laws.CopyOwn
import Derived.Laws.MakeOwn
import Derived.Outline
namespace Go.Proofs.Ythjbaafbkalomaa
open Go.RowKit

theorem put_byte (r : Nat) (h : r < 18446744073709551616) : Value.int IntKind.u8 (bits BinOp.or IntKind.u64 (bits BinOp.and IntKind.u64 (r : Int) 127) 128 % 256) = u8v (UInt8.ofNat (r % 128 + 128)) := by
  have e1 : bits BinOp.and IntKind.u64 (r : Int) 127 = ((r % 128 : Nat) : Int) := by
    have := u64_and_nat r 127 h (by omega)
    rw [show ((127 : Nat) : Int) = 127 from rfl] at this
    rw [this, show (127 : Nat) = 2 ^ 7 - 1 from rfl, Nat.and_two_pow_sub_one_eq_mod]
  have hlt : r % 128 < 2 ^ 7 := by omega
  have e2 : bits BinOp.or IntKind.u64 ((r % 128 : Nat) : Int) 128 = ((r % 128 + 128 : Nat) : Int) := by
    have := u64_or_nat (r % 128) 128 (by omega) (by omega)
    rw [show ((128 : Nat) : Int) = 128 from rfl] at this
    rw [this, Nat.or_comm]
    have h2 := Nat.two_pow_add_eq_or_of_lt hlt 1
    rw [show (2 ^ 7 * 1 : Nat) = 128 from rfl] at h2
    rw [← h2, Nat.add_comm]
  rw [e1, e2, u8v, toNat_ofNat (by omega)]
  congr 1
  omega
theorem put_last (r : Nat) (h : r < 128) : Value.int IntKind.u8 (r : Int) = u8v (UInt8.ofNat r) := by
  rw [u8v, toNat_ofNat (by omega)]
theorem enc_split {val r : Nat} {dn : List UInt8} (h : encU val = dn ++ encU r) (hv : val < 18446744073709551616) : dn.length + (encU r).length ≤ 10 := by
  have h1 := encU_len val 10 (by have : (128 : Nat) ^ 10 = 1180591620717411303424 := by decide
                                 omega) (by omega)
  rw [h, List.length_append] at h1
  exact h1
theorem grown_below {B : Nat} {w x y : World} {row : Option Nat} {v : Value} {n : Nat} {xs : List Value} {e : TypeId} {o : Obj} (hb : Below B w x) (hB : B ≤ w.heap.size) (hown : x.ownsRow B e 1 v n xs) (hg : (x.alloc o).grownBy y row) (hr : row = v.ownBlock) : Below B w y := by
  subst hr
  have hs := hb.size
  refine (hb.alloc (by omega) o).grown hg (by simp; omega) (fun k hk => (hown.lt k hk).1)

set_option maxRecDepth 100000 in
set_option maxHeartbeats 800000 in
theorem appendUint_any (B : Nat) (v : Value) (n : Nat) (xs : List Value) (val : Nat) (w : World) (hown : w.ownsRow B 5 1 v n xs) (hB : B ≤ w.heap.size) (hn : n ≤ 140737488000000) (hv : val < 18446744073709551616) :
    Calls Try.prog 62 #[v, .int .u64 val] w fun e w' => ∃ v', e = .returned v' ∧ w'.ownsRow B 5 1 v' (n + (encU val).length) (xs ++ bv (encU val)) ∧ Below B w w' := by
  obtain ⟨i0, hi, hz0, hz1, hz2⟩ := info_parts Try.infoU8
  go_enter Try.func62, Try.ntmps62
  go_wp2_with fail
  go_loopw [0, 1] (fun o x wr => ∃ (r : Nat) (dn : List UInt8), x = .int .u64 r ∧ r < 18446744073709551616 ∧ encU val = dn ++ encU r ∧ wr.ownsRow B 5 1 o (n + dn.length) (xs ++ bv dn) ∧ Below B w wr) (fun _ x _ => (intOf x).toNat)
  case atStart => exact ⟨val, [], rfl, hv, rfl, by simpa [bv] using hown, Below.refl _ _⟩
  case round =>
    obtain ⟨r, dn, rfl, hr, he, ho, hb⟩ := hrel
    have hdn := enc_split he hv
    have HE := Lib.hid he
    have HO := Lib.hid ho
    clear he ho hown
    by_cases h : 128 ≤ r
    · have HP := Lib.hid (put_byte r hr)
      go_wp2_with (at_builtin; refine wpList_append_own _ rfl _ _ 37 rfl B 5 i0 (.int .u8 0) 1 1 Try.underlying37 hi hz0 hz1 hz2 rfl (by decide) _ _ _ rfl (HO.out.alloc _) ⟨wr.heap.size, 0, none⟩ 1 1 [_] rfl rfl (cell_one_new _ _ _) (by simp [Value.oneCell']) (by unfold maxLen; omega) (by omega) (by simp; have := hb.size; omega) ?_; intro v' w1 ho1 hg1 _)
      refine ⟨⟨r / 128, dn ++ [UInt8.ofNat (r % 128 + 128)], by go_num, by omega, ?_, ?_, grown_below hb hB HO.out hg1 rfl⟩, by simp [intOf]; omega⟩
      · rw [HE.out, encU_big (by omega)]; simp
      · rw [HP.out] at ho1
        simpa [bv, Nat.add_assoc] using ho1
    · have HP := Lib.hid (put_last r (by omega))
      go_wp2_with (at_builtin; refine wpList_append_own _ rfl _ _ 37 rfl B 5 i0 (.int .u8 0) 1 1 Try.underlying37 hi hz0 hz1 hz2 rfl (by decide) _ _ _ rfl (HO.out.alloc _) ⟨wr.heap.size, 0, none⟩ 1 1 [_] rfl rfl (cell_one_new _ _ _) (by simp [Value.oneCell']) (by unfold maxLen; omega) (by omega) (by simp; have := hb.size; omega) ?_; intro v' w1 ho1 hg1 _)
      go_ret
      refine ⟨_, rfl, ?_, grown_below hb hB HO.out hg1 rfl⟩
      rw [HP.out] at ho1
      rw [HE.out, encU_small (by omega)]
      simpa [bv, Nat.add_assoc] using ho1

set_option maxRecDepth 100000 in
set_option maxHeartbeats 800000 in
theorem uintSize_any (val : Nat) (w : World) (hv : val < 18446744073709551616) :
    Calls Try.prog 64 #[.int .u64 val] w fun e w' => ∃ k : Nat, 1 ≤ k ∧ k ≤ 64 ∧ e = .returned (.int .i64 k) ∧ w = w' := by
  go_enter Try.func64, Try.ntmps64
  go_wp2_with fail
  go_loop [0, 3] (fun x s => ∃ (r k : Nat), x = .int .u64 r ∧ s = .int .i64 k ∧ 1 ≤ k ∧ k ≤ 10 ∧ r * 128 ^ k ≤ val) (fun x _ => (intOf x).toNat)
  case atStart => exact ⟨val / 128, 1, by go_num, rfl, by omega, by omega, by omega⟩
  case round =>
    obtain ⟨r, k, rfl, rfl, h1, h2, h3⟩ := hrel
    by_cases h0 : 0 < r
    · have hk : k < 10 := by
        rcases Nat.lt_or_ge k 10 with h | h
        · exact h
        · obtain rfl : k = 10 := by omega
          have : (128 : Nat) ^ 10 = 1180591620717411303424 := by decide
          rw [this] at h3
          omega
      have h4 : r / 128 * 128 ^ (k + 1) ≤ val := by
        rw [Nat.pow_succ, ← Nat.mul_assoc, Nat.mul_right_comm]
        exact Nat.le_trans (Nat.mul_le_mul_right _ (by omega)) h3
      clear h3
      go_wp2_with fail
      refine ⟨⟨r / 128, k + 1, by go_num, by go_num, by omega, by omega, h4⟩, by simp [intOf]; omega⟩
    · obtain rfl : r = 0 := by omega
      clear h3 h0
      go_wp2_with fail
      go_ret
      exact ⟨k, h1, by omega, rfl, rfl⟩

/-- A new slice: all that was there is as it was; it may be appended to by o. -/
def NewP (e : TypeId) (o : Nat) (g : Gh) (w : World) (n : Nat) (xs : List Value) (en : Ending) (w' : World) : Prop :=
  ∃ A' cap' g', en = .returned (.slice A' n cap') ∧ Below w.heap.size w w' ∧ (∀ b, b < w.heap.size → g'.F b = g.F b) ∧ (∀ b, b < w.heap.size → g'.O b = g.O b) ∧ App e 1 o g' w' A' n cap' xs ∧ (∀ b off, A' = some ⟨b, off, none⟩ → w.heap.size ≤ b)
theorem newP_own {e : TypeId} {o : Nat} {g : Gh} {w w' : World} {n : Nat} {xs : List Value} {v : Value} (hb : Below w.heap.size w w') (hown : w'.ownsRow w.heap.size e 1 v n xs) (hn : 0 < n) : NewP e o g w n xs (.returned v) w' := by
  obtain ⟨hl, h | ⟨b, cap, cs, rfl, hg, hh, h1, h2, h3, h4⟩⟩ := hown
  · omega
  · refine ⟨some ⟨b, 0, none⟩, cap, ⟨fun k => if k = b then n else g.F k, fun k => if k = b then o else g.O k⟩, rfl, hb, fun k hk => ?_, fun k hk => ?_, ⟨⟨hl, fun _ => ⟨b, 0, rfl, by simp, block_lt hh, fun j u hu => ?_⟩⟩, h1, h2, (by simp), fun _ => ⟨hn, b, cs, rfl, by simp, by simp, hh, h3⟩⟩, fun k off hk => ?_⟩
    · dsimp only; rw [if_neg (by omega)]
    · dsimp only; rw [if_neg (by omega)]
    · have hj : j < n := by have := (List.getElem?_eq_some_iff.1 hu).1; omega
      rw [cell_at hh, Nat.zero_add]
      rw [← h4, List.getElem?_take, if_pos (by omega)] at hu
      simpa using hu
    · injection hk with hk; injection hk with hk; omega

set_option maxRecDepth 100000 in
set_option maxHeartbeats 800000 in
theorem extended_any (g : Gh) (A : Option Addr) (n c k : Nat) (xs : List Value) (w : World) (hr : Rd 1 g w A n xs) (_hz : A = none → n = 0) (h1 : ∀ u ∈ xs, u.oneCell' = true) (hb : n ≤ 140737488000000) (hk : k ≤ 1000) :
    Calls Try.prog 63 #[.slice A n c, .int .i64 k] w fun e w' => ∃ v, e = .returned v ∧ w'.ownsRow w.heap.size 5 1 v n xs ∧ Below w.heap.size w w' := by
  obtain ⟨i0, hi, hz0, hz1, hz2⟩ := info_parts Try.infoU8
  have hmk : (Instr.makeSlice 37 (.int .i64 (n : Int)) (.int .i64 ((n : Int) + (k : Int)))).run Try.prog w = .ok (.slice (some ⟨w.heap.size, 0, none⟩) n (n + k)) (w.alloc (.cells (madeCells #[.int .u8 0] (n + k)) 5)) := by
    have := run_make (P := Try.prog) w 37 5 i0 (.int .u8 0) Try.underlying37 hi hz0 .i64 .i64 (n : Int) ((n : Int) + (k : Int)) (by omega) (by omega) (by rw [hz2]; omega) (by omega)
    rw [hz1] at this
    have e1 : ((n : Int) + (k : Int)).toNat = n + k := by omega
    simpa [e1, Value.cells] using this
  have hsz : (Try.prog.info? 5).map (·.size) = some 1 := by rw [hi]; simp [hz1]
  have hx1 : Ext (fun _ => True) g w g (w.alloc (.cells (madeCells #[.int .u8 0] (n + k)) 5)) := (Ext.refl _ _ _).alloc _
  have HR := Lib.hid (hr.ext hx1)
  have HL : Hid (xs.length = n) := by have := hr.len; show _ = _; omega
  obtain ⟨cur, hcur⟩ : ∃ cur : List Value, cur.toArray = madeCells #[.int .u8 0] (n + k) := ⟨(madeCells #[.int .u8 0] (n + k)).toList, by simp⟩
  have hcl : cur.length = n + k := by
    have := congrArg Array.size hcur
    simpa [madeCells] using this
  have HC : Hid ((w.alloc (.cells cur.toArray 5)).heap[w.heap.size]? = some (.cells cur.toArray 5 (0, 0))) := heap_alloc_new w _
  rw [← hcur] at hmk HR
  clear hcur hr hx1
  have HCL := Lib.hid hcl
  clear hcl
  have HP : Hid (0 < xs.length → (some ⟨w.heap.size, 0, none⟩ : Option Addr) = some ⟨w.heap.size, 0, none⟩ ∧ ∃ ad, A = some ad ∧ ∀ j v, xs[j]? = some v → (w.alloc (.cells cur.toArray 5)).cell? (ad.add j) = some v) := by
    intro h0
    obtain ⟨b, off, hA, _, _, hc⟩ := HR.out.at_ (by rw [HL.out] at h0; exact h0)
    exact ⟨rfl, _, hA, fun j v hv => by rw [add_lit]; exact hc j v hv⟩
  go_enter Try.func63, Try.ntmps63
  go_wp2_with (with_reducible refine wpList_copy_splice rfl (.tmp 13) (.tmp 14) _ _ rfl 5 Try.underlying37 hsz _ _ _ _ _ _ rfl rfl w.heap.size 0 cur 5 HC.out xs (by rw [HL.out]; exact (Nat.min_self n).symm) HP.out (by rw [HL.out, HCL.out]; omega) h1 w.heap.size w ((Below.refl _ _).alloc (Nat.le_refl _) _) (Nat.le_refl _) ?_; intro w1 hg1 hb1)
  have hfin : w1.ownsRow w.heap.size 5 1 (.slice (some ⟨w.heap.size, 0, none⟩) n (n + k)) n xs := by
    refine ⟨by rw [HL.out]; omega, .inr ⟨w.heap.size, n + k, _, rfl, Nat.le_refl _, hg1.out, by omega, by unfold maxLen; omega, ?_, ?_⟩⟩
    · simp only [splice, List.size_toArray, List.length_append, List.length_take, List.length_drop, HL.out, HCL.out]
      omega
    · rw [← HL.out]
      simp [splice]
  have HF := Lib.hid hfin
  clear hfin hg1
  go_wp2_with fail
  go_ret
  exact ⟨_, rfl, HF.out, hb1⟩

set_option maxRecDepth 100000 in
set_option maxHeartbeats 800000 in
theorem putUint_any (o : Nat) (g : Gh) (A : Option Addr) (n c : Nat) (xs : List Value) (val : Nat) (w : World) (hr : Rd 1 g w A n xs) (hz : A = none → n = 0) (h1 : ∀ u ∈ xs, u.oneCell' = true) (hb : n ≤ 140737488000000) (hv : val < 18446744073709551616) :
    Calls Try.prog 49 #[.slice A n c, .int .u64 val] w (NewP 5 o g w (n + (encU val).length) (xs ++ bv (encU val))) := by
  have HR := Lib.hid hr
  have HZ := Lib.hid hz
  have H1 := Lib.hid h1
  clear hr hz h1
  go_enter Try.func49, Try.ntmps49
  go_wp2_with fail
  refine (uintSize_any val _ hv).mono ?_
  rintro e w1 ⟨k, hk1, hk2, rfl, rfl⟩
  go_wp2_with fail
  refine (extended_any g A n c k xs _ HR.out HZ.out H1.out hb (by omega)).mono ?_
  rintro e w1 ⟨v, rfl, hown, hb1⟩
  go_wp2_with fail
  refine (appendUint_any w.heap.size v n xs val _ hown hb1.size (by omega) hv).mono ?_
  rintro e w2 ⟨v', rfl, hown2, hb2⟩
  go_wp2_with fail
  go_ret
  exact newP_own (hb1.trans hb2) hown2 (by have := encU_pos val; omega)

end Go.Proofs.Ythjbaafbkalomaa
