/-
  strings.Repeat of one letter: a text of so many bytes.
-/
import Derived.Test.YtjjdffafibonhaaGreatDoorGenR
import Derived.Test.YtjjdffafibonhaaGreatDoorGenA
import Derived.Test.YtjjdffafibonhaaGreatDoorMix
import Derived.Lib.FrozenHead
import Derived.Lib.MakeNoZero
import Derived.Lib.Builder
namespace Go.Proofs.YtjjdffafibonhaaGreatDoor
open Go.RowKit

theorem Tryz.infoBuilder : (Tryz.prog.info? 147).map (·.size) = some 2 := by kernel_rfl
theorem Tryz.liesBuilder : liesAt Tryz.prog Tryz.prog.depth 147 (2 / Tryz.prog.cellsOf 147) 0 147 1 = true := by kernel_rfl

set_option maxRecDepth 100000 in
set_option maxHeartbeats 1600000 in
theorem bcheck_used (b : Nat) (w : World) (h0 : w.cell? ⟨b, 0, none⟩ = some (.pointer (some ⟨b, 0, none⟩))) :
    Calls Tryz.prog 121 #[.pointer (some ⟨b, 0, none⟩)] w fun e w' => e = .returned (.tuple #[]) ∧ w = w' := by
  obtain ⟨j, hj, _⟩ := Option.map_eq_some_iff.1 Tryz.infoBuilder
  go_enter Tryz.func121, Tryz.ntmps121
  go_wp2_with fail
  rw [Lib.run_neq_ptr_same w _ Tryz.underlying145 hj]
  go_wp2_with fail
  go_end0
  exact ⟨rfl, rfl⟩

set_option maxRecDepth 100000 in
set_option maxHeartbeats 1600000 in
theorem bcheck_new (b : Nat) (w : World) (h0 : w.cell? ⟨b, 0, none⟩ = some (.pointer none)) (hsh : w.shape? b = some (147, 2)) (hfz : w.frozen? ⟨b, 0, none⟩ = false) :
    Calls Tryz.prog 121 #[.pointer (some ⟨b, 0, none⟩)] w fun e w' => e = .returned (.tuple #[]) ∧ w' = w.setCell ⟨b, 0, none⟩ (.pointer (some ⟨b, 0, none⟩)) := by
  obtain ⟨j, hj, hjs⟩ := Option.map_eq_some_iff.1 Tryz.infoBuilder
  go_enter Tryz.func121, Tryz.ntmps121
  go_wp2_with fail
  rw [Lib.run_to_unsafe w ⟨b, 0, none⟩ Tryz.underlying145 Tryz.underlying194 hj (by rw [hjs]; decide) hsh (Nat.zero_lt_succ 1)]
  simp only [Result.andThen]
  rw [Oper.upon_value]
  go_wp2_with fail
  rw [run_callFunc_extern Tryz.func142 (by kernel_rfl) (by kernel_rfl) (by kernel_rfl) (e := Extern.AbiNoEscape.same) (by kernel_rfl)]
  rw [Lib.run_noEscape]
  simp only [Result.andThen]
  rw [Oper.upon_value]
  go_wp2_with fail
  rw [Lib.run_from_unsafe w ⟨b, 0, none⟩ Tryz.underlying194 Tryz.underlying145 hj hsh Tryz.liesBuilder]
  simp only [Result.andThen]
  rw [Oper.upon_value]
  go_wp2_with fail
  go_end0
  exact ⟨rfl, rfl⟩

theorem bcheck_any (B b : Nat) (bs : List Value) (w : World) (h : Lib.IsBuilderF 147 5 B b bs w) :
    Calls Tryz.prog 121 #[.pointer (some ⟨b, 0, none⟩)] w fun e w' => e = .returned (.tuple #[]) ∧ Lib.BuilderAtF 147 5 B b (.pointer (some ⟨b, 0, none⟩)) bs w' ∧ Below B w w' := by
  rcases h with h | h
  · refine (bcheck_new b w h.cell0 h.shape h.frozen0).mono ?_
    rintro e w' ⟨rfl, rfl⟩
    exact ⟨rfl, h.used _, (Below.refl B w).setCell (p := ⟨b, 0, none⟩) h.1 _⟩
  · refine (bcheck_used b w h.cell0).mono ?_
    rintro e w' ⟨rfl, rfl⟩
    exact ⟨rfl, h, Below.refl B _⟩
theorem ownsF_slice {w : World} {B n : Nat} {e : TypeId} {v : Value} {xs : List Value} (h : w.ownsRowF B e 1 v n xs) : ∃ ao k cap, v = .slice ao k cap := by
  rcases h.2 with ⟨rfl, _⟩ | ⟨g, cap, cur, fz, rfl, _⟩
  · exact ⟨_, _, _, rfl⟩
  · exact ⟨_, _, _, rfl⟩

set_option maxRecDepth 100000 in
set_option maxHeartbeats 3200000 in
theorem bwrite_any (B b : Nat) (bs : List Value) (s : ByteArray) (w0 : World) (h0 : Lib.IsBuilderF 147 5 B b bs w0) (hl : bs.length + s.size ≤ 1000000) (hBw0 : B ≤ w0.heap.size) :
    Calls Tryz.prog 89 #[.pointer (some ⟨b, 0, none⟩), .string s] w0 fun e w' => e = .returned (.tuple #[.int .i64 s.size, .nilIface]) ∧ Lib.BuilderAtF 147 5 B b (.pointer (some ⟨b, 0, none⟩)) (bs ++ Lib.strCells s) w' ∧ Below B w0 w' := by
  obtain ⟨i0, hi, hz0, hz1, hz2⟩ := info_parts Tryz.infoU8
  have HCH := Lib.hid (bcheck_any B b bs w0 h0)
  clear h0
  go_enter Tryz.func89, Tryz.ntmps89
  go_wp2_with fail
  refine HCH.out.mono ?_
  rintro e w ⟨rfl, h, hb0⟩
  have HB0 := Lib.hid hb0
  have hbl := h.lt
  have hBw : B ≤ w.heap.size := Nat.le_trans hBw0 hb0.size
  obtain ⟨hB, v, hb, hown, hne⟩ := h
  have c1 : w.cell? ⟨b, 1, none⟩ = some v := by simp [World.cell?, hb]
  have HOWN := Lib.hid hown
  have HB := Lib.hid hb
  have HNE := Lib.hid hne
  clear hb hown hne hb0 HCH
  go_wp2_with (at_builtin; go_loud (refine Lib.wpList_append_own_stringF _ rfl _ _ _ _ rfl B 5 i0 Tryz.underlying30 Tryz.underlying9 hi hz0 hz1 hz2 v bs.length bs rfl HOWN.out s rfl (by unfold maxLen; omega) (by omega) hBw ?_); intro v' w2 hown2 hg2 _; obtain ⟨ao, kk, cap, rfl⟩ := ownsF_slice hown2; go_loud (have hb2 : w2.heap[b]? = some (.cells #[.pointer (some ⟨b, 0, none⟩), v] 147 (0, 0)) := (hg2.block b hbl (fun e => HNE.out e.symm)).trans HB.out); go_loud (have c1' : w2.cell? ⟨b, 1, none⟩ = some v := by simp [World.cell?, hb2]); go_loud (have z1' : w2.frozen? ⟨b, 1, none⟩ = false := by simp [World.frozen?, hb2]); have HO2 := Lib.hid hown2; have HB2 := Lib.hid hb2; have HG2 := Lib.hid hg2; go_loud (clear hown2 hb2 hg2))
  go_ret2
  have hlen : bs.length + s.size = (bs ++ Lib.strCells s).length := by rw [List.length_append, Lib.strCells_length]
  rw [hlen] at HO2
  refine ⟨rfl, Lib.BuilderAtF.put hB HB2.out HO2.out (by decide), HB0.out.trans ?_⟩
  have hbel : Below B w w2 := by
    refine ⟨HG2.out.os, HG2.out.tape, HG2.out.output, HG2.out.size, fun k hk => ?_⟩
    by_cases hkv : v.ownBlock = some k
    · exfalso
      rcases HOWN.out.2 with ⟨rfl, _⟩ | ⟨gg, cap, cur, fz, rfl, hbg, _⟩
      · cases hkv
      · simp only [Value.ownBlock, Option.some.injEq] at hkv
        omega
    · exact HG2.out.block k (by omega) (fun e => hkv e.symm)
  exact hbel.setCell (p := ⟨b, 1, none⟩) hB _

set_option maxRecDepth 100000 in
set_option maxHeartbeats 3200000 in
theorem bgrow_any (B b k : Nat) (w : World) (hb : w.heap[b]? = some (.cells #[.pointer (some ⟨b, 0, none⟩), .slice none 0 0] 147 (0, 0))) (hB : B ≤ b) (hBw : B ≤ w.heap.size) (hk : k ≤ 1000) :
    Calls Tryz.prog 122 #[.pointer (some ⟨b, 0, none⟩), .int .i64 k] w fun e w' => e = .returned (.tuple #[]) ∧ Lib.BuilderAtF 147 5 B b (.pointer (some ⟨b, 0, none⟩)) [] w' ∧ Below B w w' := by
  obtain ⟨i0, hi, hz0, hz1, hz2⟩ := info_parts Tryz.infoU8
  have c1 : w.drew.cell? ⟨b, 1, none⟩ = some (.slice none 0 0) := by
    show w.cell? ⟨b, 1, none⟩ = _
    simp [World.cell?, hb]
  have hkc : (0 : Int) ≤ (k : Int) := by omega
  have hkd : (k : Int) ≤ 1000 := by omega
  go_enter Tryz.func122, Tryz.ntmps122
  go_wp2_with fail
  have hS : (fun x : World => x.heap[b]? = some (.cells #[.pointer (some ⟨b, 0, none⟩), .slice none 0 0] 147 (0, 0)) ∧ Below B w x) w.drew := ⟨hb, (Below.refl _ _).drew⟩
  (refine wp_region_mix (S := (fun x : World => x.heap[b]? = some (.cells #[.pointer (some ⟨b, 0, none⟩), .slice none 0 0] 147 (0, 0)) ∧ Below B w x)) [14, 15] [([0, 1, 2, 3, 4, 5, 6, 7, 9, 10, 11, 12, 13], 8)] (by kernel_rfl) (by kernel_rfl) (by intro c a d v w h; cases d <;> exact h) hS ?_; have hN : Nonempty (Held ((fun x : World => x.heap[b]? = some (.cells #[.pointer (some ⟨b, 0, none⟩), .slice none 0 0] 147 (0, 0)) ∧ Below B w x))) := ⟨⟨_, hS⟩⟩)
  have r1 : ∀ y : Held ((fun x : World => x.heap[b]? = some (.cells #[.pointer (some ⟨b, 0, none⟩), .slice none 0 0] 147 (0, 0)) ∧ Below B w x)), y.w.cell? ⟨b, 1, none⟩ = some (.slice none 0 0) := fun y => (by have h1 := y.ok.1; simp [World.cell?, h1])
  (unfold wpMix wpRd; (repeat (first | simp only [List.filterMap_cons] | simp only [List.filterMap_nil] | simp only [List.getElem?_toArray] | simp only [List.getElem?_cons_zero] | simp only [List.getElem?_cons_succ])); (try dsimp only); change wpQuiet _ _ _ _ (_ :: _ :: _ :: _ :: _ :: _ :: _ :: _ :: _ :: _ :: _ :: _ :: _ :: []) _; (repeat (go_big_quiet_step (fail))); refine wpQuiet_nil ?_; (try dsimp only))
  clear r1
  have hBd : B ≤ w.drew.heap.size := hBw
  generalize hwd : w.drew = w1 at *
  clear hwd
  obtain ⟨cs, hrun, hle, hmax⟩ := Lib.run_makeNoZero (P := Tryz.prog) w1 #[3] 30 5 Tryz.underlying30 k (by omega)
  have hmx := hmax (by unfold maxLen; omega)
  have hbl : b < w1.heap.size := block_lt hS.1
  go_wp2_with fail
  rw [run_callFunc_extern Tryz.func143 (by kernel_rfl) (by kernel_rfl) (by kernel_rfl) (e := Extern.BytealgMakeNoZero.makeNoZero #[3] #[30]) (by kernel_rfl), hrun]
  simp only [Result.andThen]
  rw [Oper.upon_value]
  have hnew : (w1.drew.drew.alloc (.cells cs 5)).heap[w1.heap.size]? = some (.cells cs 5 (0, 0)) := heap_alloc_new w1.drew.drew _
  have hS2 : (w1.drew.drew.alloc (.cells cs 5)).heap[b]? = some (.cells #[.pointer (some ⟨b, 0, none⟩), .slice none 0 0] 147 (0, 0)) := (Below.heap_alloc w1.drew.drew _ b hbl).trans hS.1
  have hS3 : Below B w (w1.drew.drew.alloc (.cells cs 5)) := hS.2.drew.drew.alloc (by show B ≤ w1.heap.size; exact hBd) _
  have hlt2 : w1.heap.size ≠ b := by omega
  generalize w1.drew.drew.alloc (.cells cs 5) = w2 at *
  have hch : ∀ x : World, (Instr.slice 30 (.slice (some ⟨w1.heap.size, 0, none⟩) k cs.size) none (some (.int .i64 0)) none).run Tryz.prog x = .ok (.slice (some ⟨w1.heap.size, 0, none⟩) 0 cs.size) x := fun x => run_cut_h (P := Tryz.prog) Tryz.underlying30 hi _ k cs.size 0 (Nat.zero_le _) x
  have hcs0 : (0 : Int) ≤ (cs.size : Int) := Int.natCast_nonneg _
  go_wp2_with fail
  refine ⟨⟨hS2, hS3⟩, ?_⟩
  simp only [Act.put, List.setIfInBounds_toArray, List.set_cons_succ, List.set_cons_zero]
  (unfold wpMix wpRd; (repeat (first | simp only [List.filterMap_cons] | simp only [List.filterMap_nil] | simp only [List.getElem?_toArray] | simp only [List.getElem?_cons_zero] | simp only [List.getElem?_cons_succ])); (try dsimp only); change wpQuiet _ _ _ _ (_ :: _ :: []) _; (repeat (go_big_quiet_step (fail))); refine wpQuiet_nil ?_; (try dsimp only))
  clear hN
  have c1 : w2.cell? ⟨b, 1, none⟩ = some (.slice none 0 0) := by simp [World.cell?, hS2]
  have z1 : w2.frozen? ⟨b, 1, none⟩ = false := by simp [World.frozen?, hS2]
  go_wp2_with fail
  rw [run_copy_none w2 30 30 3 5 (some ⟨w1.heap.size, 0, none⟩) none 0 cs.size 0 0 Tryz.underlying30 (by rw [hi]; exact congrArg some hz1) rfl]
  simp only [Result.andThen]
  rw [Oper.upon_value]
  go_wp2_with fail
  go_end0
  refine ⟨rfl, Lib.BuilderAtF.put hB hS2 ⟨rfl, .inr ⟨w1.heap.size, cs.size, cs, (0, 0), rfl, hBd, hnew, Nat.zero_le _, Nat.zero_le _, hmx, by simp, by simp⟩⟩ (by decide), hS3.setCell (p := ⟨b, 1, none⟩) hB _⟩

set_option maxRecDepth 100000 in
set_option maxHeartbeats 3200000 in
theorem bGrow_any (B b k : Nat) (w : World) (hb : w.heap[b]? = some (.cells #[.pointer none, .slice none 0 0] 147 (0, 0))) (hB : B ≤ b) (hBw : B ≤ w.heap.size) (hk0 : 0 < k) (hk : k ≤ 1000) :
    Calls Tryz.prog 88 #[.pointer (some ⟨b, 0, none⟩), .int .i64 k] w fun e w' => e = .returned (.tuple #[]) ∧ Lib.BuilderAtF 147 5 B b (.pointer (some ⟨b, 0, none⟩)) [] w' ∧ Below B w w' := by
  have HCH := Lib.hid (bcheck_new b w (by simp [World.cell?, hb]) (by simp [World.shape?, hb]) (by simp [World.frozen?, hb]))
  have hb2 : (w.setCell ⟨b, 0, none⟩ (.pointer (some ⟨b, 0, none⟩))).heap[b]? = some (.cells #[.pointer (some ⟨b, 0, none⟩), .slice none 0 0] 147 (0, 0)) := by
    simp [World.setCell, Array.getElem?_modify, hb]
  have hbel : Below B w (w.setCell ⟨b, 0, none⟩ (.pointer (some ⟨b, 0, none⟩))) := (Below.refl _ _).setCell (p := ⟨b, 0, none⟩) hB _
  have hkc : (0 : Int) < (k : Int) := by omega
  have hkd : (k : Int) ≤ 1000 := by omega
  clear hb
  go_enter Tryz.func88, Tryz.ntmps88
  go_wp2_with fail
  refine HCH.out.mono ?_
  rintro e w' ⟨rfl, rfl⟩
  generalize w.setCell ⟨b, 0, none⟩ (.pointer (some ⟨b, 0, none⟩)) = w1 at *
  have c1 : w1.cell? ⟨b, 1, none⟩ = some (.slice none 0 0) := by simp [World.cell?, hb2]
  have HG := Lib.hid (fun (n : Nat) => bgrow_any B b k (w1.drewN n) hb2 hB (Nat.le_trans hBw hbel.size) hk)
  clear HCH
  go_wp2_with fail
  go_quiet (fail)
  go_wp2_with fail
  refine (HG.out _).mono ?_
  rintro e w2 ⟨rfl, h2, hb3⟩
  have H2 := Lib.hid h2
  have HB3 : Hid (Below B w w2) := (below_drewN hbel _).trans hb3
  clear h2 hb3
  go_wp2_with fail
  go_end0
  exact ⟨rfl, H2.out, HB3.out⟩


/-- How many bytes a builder holds. -/
def lenAt (b : Nat) (w : World) : Nat := match w.cell? ⟨b, 1, none⟩ with
  | some (.slice _ n _) => n
  | _ => 0
theorem lenAt_is {B b : Nat} {p : Value} {bs : List Value} {w : World} (h : Lib.BuilderAtF 147 5 B b p bs w) : lenAt b w = bs.length := by
  obtain ⟨_, v, hb, hown, _⟩ := h
  have c1 : w.cell? ⟨b, 1, none⟩ = some v := by simp [World.cell?, hb]
  unfold lenAt
  rw [c1]
  rcases hown.2 with ⟨rfl, h0⟩ | ⟨g, cap, cur, fz, rfl, _⟩
  · exact h0.symm
  · rfl
theorem byteCells_append (l : List UInt8) (s : ByteArray) : Lib.byteCells l ++ Lib.strCells s = Lib.byteCells (l ++ s.data.toList) := by
  simp [Lib.byteCells, Lib.strCells]
theorem byteCells_length (l : List UInt8) : (Lib.byteCells l).length = l.length := by simp [Lib.byteCells]

set_option maxRecDepth 100000 in
set_option maxHeartbeats 6400000 in
theorem repeat_any (k : Nat) (hk1 : 190 ≤ k) (hk2 : k ≤ 200) (w : World) :
    Calls Tryz.prog 63 #[.string ⟨#[110]⟩, .int .i64 k] w fun e w' => ∃ s : ByteArray, e = .returned (.string s) ∧ s.size = k ∧ Below w.heap.size w w' := by
  have hkc : (190 : Int) ≤ (k : Int) := by omega
  have hkd : (k : Int) ≤ 200 := by omega
  have e1 : 1 * k / 18446744073709551616 = 0 := by omega
  have e2 : 1 * k % 18446744073709551616 = k := by omega
  have hm := Tryz.bits_Mul 1 k (by omega) (by omega) w
  rw [e1, e2] at hm
  have HM : Hid (Calls Tryz.prog 86 #[.int .u64 1, .int .u64 k] w fun e w' => e = .returned (.tuple #[.int .u64 0, .int .u64 k]) ∧ w = w') := hm.mono fun e w' h => ⟨h.1, h.2.symm⟩
  have hb0 : (w.alloc (.cells #[.pointer none, .slice none 0 0] 147)).heap[w.heap.size]? = some (.cells #[.pointer none, .slice none 0 0] 147 (0, 0)) := heap_alloc_new w _
  have hbel : Below w.heap.size w (w.alloc (.cells #[.pointer none, .slice none 0 0] 147)) := (Below.refl _ _).alloc (Nat.le_refl _) _
  have HG := Lib.hid (bGrow_any w.heap.size w.heap.size k _ hb0 (Nat.le_refl _) hbel.size (by omega) (by omega))
  have HBE := Lib.hid hbel
  clear hm e1 e2 hb0 hbel
  go_enter Tryz.func63, Tryz.ntmps63
  go_wp2_with fail
  refine HM.out.mono ?_
  rintro e w' ⟨rfl, rfl⟩
  go_wp2_with fail
  refine HG.out.mono ?_
  rintro e w1 ⟨rfl, h1, hb1⟩
  have HB1 := Lib.hid (HBE.out.trans hb1)
  have hs1 := (HBE.out.trans hb1).size
  have HW := Lib.hid (bwrite_any w.heap.size w.heap.size [] ⟨#[110]⟩ w1 (.inr h1) (by decide) hs1)
  clear h1 hb1 HG HBE HM
  go_wp2_with fail
  refine HW.out.mono ?_
  rintro e w2 ⟨rfl, h2, hb2⟩
  have HB2 := Lib.hid (HB1.out.trans hb2)
  have H2 : Hid (Lib.BuilderAtF 147 5 w.heap.size w.heap.size (.pointer (some ⟨w.heap.size, 0, none⟩)) (Lib.byteCells [110]) w2) := h2
  clear h2 hb2 HW HB1
  go_wp2_with fail
  go_loopw [10] (fun _ wr => ∃ l : List UInt8, 1 ≤ l.length ∧ l.length ≤ k ∧ Lib.BuilderAtF 147 5 w.heap.size w.heap.size (.pointer (some ⟨w.heap.size, 0, none⟩)) (Lib.byteCells l) wr ∧ Below w.heap.size w wr) (fun _ wr => k - lenAt w.heap.size wr)
  case atStart => exact ⟨[110], by decide, by simp; omega, H2.out, HB2.out⟩
  case round =>
    obtain ⟨l, hl1, hl2, hbu, hbe⟩ := hrel
    have HBU := Lib.hid hbu
    have HBL := Lib.hid hbe
    have hws := hbe.size
    have hla := lenAt_is hbu
    rw [byteCells_length] at hla
    have HLA := Lib.hid hla
    have hln := Tryz.Builder_Len_f w.heap.size w.heap.size (Lib.byteCells l) wr (.inr hbu)
    rw [byteCells_length] at hln
    obtain ⟨ln, hlne⟩ : ∃ ln, l.length = ln := ⟨_, rfl⟩
    rw [hlne] at hln hl1 hl2
    have HLN : Hid (Calls Tryz.prog 90 #[.pointer (some ⟨w.heap.size, 0, none⟩)] wr fun e w' => e = .returned (.int .i64 ln) ∧ wr = w') := hln.mono fun e w' h => ⟨h.1, h.2.symm⟩
    have HST := Lib.hid (Tryz.Builder_String_any_f w.heap.size w.heap.size l wr (.inr hbu) hws)
    have HLE := Lib.hid hlne
    have hsz : (⟨l.toArray⟩ : ByteArray).size = ln := by rw [← hlne]; simp [ByteArray.size]
    have hlc : (ln : Int) ≤ (k : Int) := by omega
    have hl1c : (1 : Int) ≤ (ln : Int) := by omega
    have HSD : Hid ((⟨l.toArray⟩ : ByteArray).data.toList = l) := by show _ = _; simp
    clear H2 HB2 hbu hbe hla hln hlne
    generalize (⟨l.toArray⟩ : ByteArray) = s at *
    go_wp2_with fail
    refine HLN.out.mono ?_
    rintro e w' ⟨rfl, rfl⟩
    by_cases hlt : ln < k
    · have hlt' : (ln : Int) < (k : Int) := by omega
      go_wp2_with fail
      refine HLN.out.mono ?_
      rintro e w' ⟨rfl, rfl⟩
      go_wp2_with fail
      refine HLN.out.mono ?_
      rintro e w' ⟨rfl, rfl⟩
      by_cases hc : k - ln ≤ ln
      · have hc1 : (k : Int) - (ln : Int) ≤ (ln : Int) := by omega
        have hcc : ((k - ln : Nat) : Int) = (k : Int) - (ln : Int) := by omega
        have HW : Hid (∀ y : World, Lib.IsBuilderF 147 5 w.heap.size w.heap.size (Lib.byteCells l) y → Below w.heap.size wr y → Calls Tryz.prog 89 #[.pointer (some ⟨w.heap.size, 0, none⟩), .string (s.extract 0 (k - ln))] y fun e w' => e = .returned (.tuple #[.int .i64 ((s.extract 0 (k - ln)).size : Int), .nilIface]) ∧ Lib.BuilderAtF 147 5 w.heap.size w.heap.size (.pointer (some ⟨w.heap.size, 0, none⟩)) (Lib.byteCells l ++ Lib.strCells (s.extract 0 (k - ln))) w' ∧ Below w.heap.size y w') :=
          fun y hy hb => bwrite_any w.heap.size w.heap.size (Lib.byteCells l) (s.extract 0 (k - ln)) y hy (by rw [byteCells_length, HLE.out, ByteArray.size_extract]; omega) (Nat.le_trans hws hb.size)
        have HSZ : Hid ((s.extract 0 (k - ln)).data.toList.length = k - ln) := by
          show _ = _
          have h1 : (s.extract 0 (k - ln)).data.toList.length = (s.extract 0 (k - ln)).size := by rw [Array.length_toList]; rfl
          rw [h1, ByteArray.size_extract]
          omega
        clear HLN
        go_wp2_with fail
        refine HST.out.mono ?_
        rintro e w3 ⟨rfl, h3, hb3⟩
        have HB3 := Lib.hid (HBL.out.trans hb3)
        have HW3 := Lib.hid (HW.out w3 h3 hb3)
        clear h3 hb3 HST HW
        go_wp2_with fail
        refine HW3.out.mono ?_
        rintro e w4 ⟨rfl, h4, hb4⟩
        rw [byteCells_append] at h4
        have HB4 := Lib.hid (HB3.out.trans hb4)
        have H4 := Lib.hid h4
        have hl4 := lenAt_is h4
        rw [byteCells_length, List.length_append, HLE.out, HSZ.out] at hl4
        have HL4 := Lib.hid hl4
        clear h4 hb4 hl4 HW3
        go_wp2_with fail
        go_round
        case rel => exact ⟨_, by rw [List.length_append, HLE.out, HSZ.out]; omega, by rw [List.length_append, HLE.out, HSZ.out]; omega, H4.out, HB4.out⟩
        case measure => rw [HL4.out, HLA.out, HLE.out]; omega
      · have hc1 : (ln : Int) < (k : Int) - (ln : Int) := by omega
        have HW : Hid (∀ y : World, Lib.IsBuilderF 147 5 w.heap.size w.heap.size (Lib.byteCells l) y → Below w.heap.size wr y → Calls Tryz.prog 89 #[.pointer (some ⟨w.heap.size, 0, none⟩), .string (s.extract 0 (ln))] y fun e w' => e = .returned (.tuple #[.int .i64 ((s.extract 0 (ln)).size : Int), .nilIface]) ∧ Lib.BuilderAtF 147 5 w.heap.size w.heap.size (.pointer (some ⟨w.heap.size, 0, none⟩)) (Lib.byteCells l ++ Lib.strCells (s.extract 0 (ln))) w' ∧ Below w.heap.size y w') :=
          fun y hy hb => bwrite_any w.heap.size w.heap.size (Lib.byteCells l) (s.extract 0 (ln)) y hy (by rw [byteCells_length, HLE.out, ByteArray.size_extract]; omega) (Nat.le_trans hws hb.size)
        have HSZ : Hid ((s.extract 0 (ln)).data.toList.length = ln) := by
          show _ = _
          have h1 : (s.extract 0 (ln)).data.toList.length = (s.extract 0 (ln)).size := by rw [Array.length_toList]; rfl
          rw [h1, ByteArray.size_extract]
          omega
        clear HLN
        go_wp2_with fail
        refine HST.out.mono ?_
        rintro e w3 ⟨rfl, h3, hb3⟩
        have HB3 := Lib.hid (HBL.out.trans hb3)
        have HW3 := Lib.hid (HW.out w3 h3 hb3)
        clear h3 hb3 HST HW
        go_wp2_with fail
        refine HW3.out.mono ?_
        rintro e w4 ⟨rfl, h4, hb4⟩
        rw [byteCells_append] at h4
        have HB4 := Lib.hid (HB3.out.trans hb4)
        have H4 := Lib.hid h4
        have hl4 := lenAt_is h4
        rw [byteCells_length, List.length_append, HLE.out, HSZ.out] at hl4
        have HL4 := Lib.hid hl4
        clear h4 hb4 hl4 HW3
        go_wp2_with fail
        go_round
        case rel => exact ⟨_, by rw [List.length_append, HLE.out, HSZ.out]; omega, by rw [List.length_append, HLE.out, HSZ.out]; omega, H4.out, HB4.out⟩
        case measure => rw [HL4.out, HLA.out, HLE.out]; omega
    · go_wp2_with fail
      refine HST.out.mono ?_
      rintro e w3 ⟨rfl, _, hb3⟩
      have HB3 := Lib.hid (HBL.out.trans hb3)
      clear hb3
      go_wp2_with fail
      go_ret
      exact ⟨s, rfl, by omega, HB3.out⟩

end Go.Proofs.YtjjdffafibonhaaGreatDoor
