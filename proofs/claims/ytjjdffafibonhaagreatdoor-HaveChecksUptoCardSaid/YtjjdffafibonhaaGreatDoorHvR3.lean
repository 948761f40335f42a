/-
  The reference of have-lists: Put, Set, Drop.
-/
import Derived.Test.YtjjdffafibonhaaGreatDoorHvR2
import Derived.Test.YtjjdffafibonhaaGreatDoorGenB
namespace Go.Proofs.YtjjdffafibonhaaGreatDoor
open Go.RowKit

theorem src_hv1 (x : World) (p : ByteArray) (n : Int) (l : ByteArray) : Src Tryz.prog 3 29 (.slice (some ⟨x.heap.size, 0, none⟩) 1 1) 1 (celH [⟨p, n, l⟩]) (x.alloc (.cells #[.string p, .int .i64 n, .string l] 32)) :=
  Src.ofSlice _ Tryz.underlying29 _ 1 1 _ rfl (fun j u hu => by
    have hh : (x.alloc (.cells #[.string p, .int .i64 n, .string l] 32)).heap[x.heap.size]? = some (.cells #[.string p, .int .i64 n, .string l] 32 (0, 0)) := heap_alloc_new x _
    rw [add_lit, Nat.zero_add, cell_at hh]
    have hu2 : [Value.string p, .int .i64 n, .string l][j]? = some u := hu
    simpa using hu2) (celH_one _)
/-- A new list is returned, which may be appended to. -/
def SlP (o : Nat) (g : Gh) (w : World) (R : List Hv) (e : Ending) (w' : World) : Prop := ∃ A' c' g', e = .returned (.slice A' R.length c') ∧ Ext (· = o) g w g' w' ∧ App 32 3 o g' w' A' R.length c' (celH R)
theorem fnd_i (E : List Hv) (p : ByteArray) : fndI E p + (fndB E p).toNat ≤ E.length := by
  have h1 := fnd_le E p
  cases h : fndB E p
  · simpa using h1
  · have := fnd_lt E p h
    simp; omega

set_option maxRecDepth 100000 in
set_option maxHeartbeats 3200000 in
theorem rput_any (g : Gh) (w : World) (A : Option Addr) (c : Nat) (E : List Hv) (h : Sl g w A c E) (hs : Sm E) (p : ByteArray) (n : Int) (lo : ByteArray) (hp : p.size < 4294967281) (hg : G0 w) (hn : E.length ≤ 100000) (o : Nat) (ho : o < w.heap.size) :
    Calls Tryz.prog 45 #[.slice A E.length c, .agg #[.string p, .int .i64 n, .string lo]] w (SlP o g w (putH E ⟨p, n, lo⟩)) := by
  have hx0 := Ext.box (· = o) g w (.cells #[.string p, .int .i64 n, .string lo] 32)
  have hb0 : Below w.heap.size w (w.alloc (.cells #[.string p, .int .i64 n, .string lo] 32)) := (Below.refl _ _).alloc (Nat.le_refl _) _
  have hk0 : Blk w.heap.size 32 [.string p, .int .i64 n, .string lo] (w.alloc (.cells #[.string p, .int .i64 n, .string lo] 32)) := Blk.new w 32 [.string p, .int .i64 n, .string lo]
  have hO : (g.box w.heap.size).O w.heap.size = w.heap.size := by simp [Gh.box]
  have HF := Lib.hid (rfind_any (g.box w.heap.size) _ A c E (h.ext hx0).rd hs p hp (hg.below hb0) (by omega))
  have HX0 := Lib.hid hx0
  have HK0 := Lib.hid hk0
  have HL0 := Lib.hid (h.ext hx0)
  have hi := fnd_i E p
  have hput := put_fnd E ⟨p, n, lo⟩
  dsimp only at hput
  obtain ⟨R, hR⟩ : ∃ R, putH E ⟨p, n, lo⟩ = R := ⟨_, rfl⟩
  rw [hR] at hput ⊢
  have HP := Lib.hid hput
  clear h hx0 hb0 hk0 hput hR
  generalize fndI E p = i at *
  generalize fndB E p = f at *
  generalize g.box w.heap.size = g0 at *
  have hle := HL0.out.le
  have hmx := HL0.out.mx
  obtain ⟨i0, hi0, hz0, hz1, hz2⟩ := info_parts Tryz.infoHave
  have hf0 : f.toNat ≤ 1 := by cases f <;> decide
  have hi1 : i ≤ E.length := by omega
  have hch := run_cut_h (P := Tryz.prog) Tryz.underlying29 hi0 A E.length c i (by omega)
  go_enter Tryz.func45, Tryz.ntmps45
  go_wp2_with fail
  refine HF.out.mono ?_
  rintro e w1 ⟨rfl, hb1⟩
  have hx1 := Ext.of_below (· = o) g0 hb1
  have HX1 := Lib.hid (HX0.out.trans hx1)
  have HK1 := Lib.hid (HK0.out.below hb1)
  have HL1 := Lib.hid (HL0.out.ext hx1)
  have hO1 : g0.O w.heap.size = w.heap.size := hO
  have hs1 := hb1.size
  clear hx1 hb1 HX0 HK0 HL0 HF
  go_wp2_with fail
  have hS : Blk w.heap.size 32 [.string p, .int .i64 n, .string lo] w1.drew := HK1.out
  (refine wp_region_mixf (S := Blk w.heap.size 32 [.string p, .int .i64 n, .string lo]) [7] [] [] 6 5 [([0, 1, 2, 4], 3)] (by kernel_rfl) (by kernel_rfl) (by intro c a d v w h; cases d <;> exact h) hS ?_; have hN : Nonempty (Held (Blk w.heap.size 32 [.string p, .int .i64 n, .string lo])) := ⟨⟨_, hS⟩⟩)
  have r0 : ∀ y : Held (Blk w.heap.size 32 [.string p, .int .i64 n, .string lo]), y.w.cell? ⟨w.heap.size, 0, none⟩ = some (.string p) := fun y => y.ok.cell 0
  have r1 : ∀ y : Held (Blk w.heap.size 32 [.string p, .int .i64 n, .string lo]), y.w.cell? ⟨w.heap.size, 1, none⟩ = some (.int .i64 n) := fun y => y.ok.cell 1
  have r2 : ∀ y : Held (Blk w.heap.size 32 [.string p, .int .i64 n, .string lo]), y.w.cell? ⟨w.heap.size, 2, none⟩ = some (.string lo) := fun y => y.ok.cell 2
  (unfold wpMixF wpRd; (repeat (first | simp only [List.filterMap_cons] | simp only [List.filterMap_nil] | simp only [List.getElem?_toArray] | simp only [List.getElem?_cons_zero] | simp only [List.getElem?_cons_succ])); (try dsimp only); change wpQuiet _ _ _ _ (_ :: _ :: _ :: _ :: []) _; (repeat (go_big_quiet_step (fail))); refine wpQuiet_nil ?_; (try dsimp only))
  clear r0 r1 r2
  have HX2 : Hid (Ext (· = o) g w g0 w1.drew) := HX1.out.drew
  have HL2 : Hid (Sl g0 w1.drew A c E) := HL1.out.ext (M := fun _ => False) (Ext.refl _ _ _).drew
  generalize hwd : w1.drew = w2 at *
  clear hwd HX1 HL1 HK1
  have hw2 : w.heap.size < w2.heap.size := hS.lt
  refine ⟨?_, ?_⟩
  · (unfold wpAct; (repeat (first | simp only [List.getElem?_toArray] | simp only [List.getElem?_cons_zero] | simp only [List.getElem?_cons_succ])); (try dsimp only))
    go_wp2_with (at_builtin; refine wpList_append_app rfl _ _ _ _ rfl 32 i0 (.agg #[.string ⟨#[]⟩, .int .i64 0, .string ⟨#[]⟩]) 3 40 Tryz.underlying29 hi0 hz0 hz1 hz2 rfl (by decide) rfl (App.nil 32 3 o g0 w2) rfl (HL2.out.takeS hi1) (by unfold maxLen; omega) (by omega) ?_; intro A3 c3 w3 g3 hx3 ha3 _; simp only [Nat.zero_add, List.nil_append] at ha3; rw [Nat.zero_add]; have HX3 := Lib.hid (HX2.out.trans hx3); have HA3 := Lib.hid ha3; have HL3 := Lib.hid (HL2.out.ext hx3); have hS3 := hS.ext hx3 (by rw [hO1]; omega); have hO3 : g3.O w.heap.size = w.heap.size := (hx3.own _ hw2).trans hO1; clear hx3 ha3)
    go_wp2_with fail
    refine ⟨hS3, ?_⟩
    (unfold wpMixF wpRd; (repeat (first | simp only [List.filterMap_cons] | simp only [List.filterMap_nil] | simp only [List.getElem?_toArray] | simp only [List.getElem?_cons_zero] | simp only [List.getElem?_cons_succ])); (try dsimp only); change wpQuiet _ _ _ _ ([]) _; (repeat (go_big_quiet_step (fail))); refine wpQuiet_nil ?_; (try dsimp only))
    (unfold wpAct; (repeat (first | simp only [List.getElem?_toArray] | simp only [List.getElem?_cons_zero] | simp only [List.getElem?_cons_succ])); (try dsimp only))
    go_wp2_with fail
    have hx4 : Ext (fun _ => False) g3 w3 g3 (w3.alloc (.cells #[.string p, .int .i64 n, .string lo] 32)) := (Ext.refl _ _ _).alloc _
    have HS4 := Lib.hid (src_hv1 w3 p n lo)
    have hS4 := hS3.alloc (.cells #[.string p, .int .i64 n, .string lo] 32)
    have HX4 := Lib.hid (HX3.out.trans (hx4.imp (fun _ (h : False) => h.elim)))
    have HA4 := Lib.hid (HA3.out.ext hx4 (fun h => h))
    have HL4 := Lib.hid (HL3.out.ext hx4)
    clear hx4 HX3 HA3 HL3
    refine ⟨hS4, ?_⟩
    (unfold wpMix wpRd; (repeat (first | simp only [List.filterMap_cons] | simp only [List.filterMap_nil] | simp only [List.getElem?_toArray] | simp only [List.getElem?_cons_zero] | simp only [List.getElem?_cons_succ])); (try dsimp only); change wpQuiet _ _ _ _ ([]) _; (repeat (go_big_quiet_step (fail))); refine wpQuiet_nil ?_; (try dsimp only))
    ((repeat (first | simp only [List.getElem?_toArray] | simp only [List.getElem?_cons_zero] | simp only [List.getElem?_cons_succ])); (try dsimp only))
    go_wp2_with (at_builtin; refine wpList_append_app rfl _ _ _ _ rfl 32 i0 (.agg #[.string ⟨#[]⟩, .int .i64 0, .string ⟨#[]⟩]) 3 40 Tryz.underlying29 hi0 hz0 hz1 hz2 rfl (by decide) rfl HA4.out rfl HS4.out (by unfold maxLen; omega) (by omega) ?_; intro A5 c5 w5 g5 hx5 ha5 _; have HX5 := Lib.hid (HX4.out.trans hx5); have HA5 := Lib.hid ha5; have HL5 := Lib.hid (HL4.out.ext hx5); have hS5 := hS4.ext hx5 (by rw [hO3]; omega); clear hx5 ha5)
    go_wp2_with fail
    refine ⟨hS5, ?_⟩
    simp only [Act.put, List.setIfInBounds_toArray, List.set_cons_succ, List.set_cons_zero]
    (unfold wpMix wpRd; (repeat (first | simp only [List.filterMap_cons] | simp only [List.filterMap_nil] | simp only [List.getElem?_toArray] | simp only [List.getElem?_cons_zero] | simp only [List.getElem?_cons_succ])); (try dsimp only); change wpQuiet _ _ _ _ (_ :: []) _; (repeat (go_big_quiet_step (fail))); refine wpQuiet_nil ?_; (try dsimp only))
    clear hN HX4 HA4 HL4 HS4
    cases f
    · have hi2 : i ≤ E.length := by simpa using hi
      have hcl := run_cut_l (P := Tryz.prog) Tryz.underlying29 hi0 A E.length c i hi2
      rw [hz1] at hcl
      push_cast at hcl
      have HPF : Hid (celH R = celH (E.take i) ++ celH [⟨p, n, lo⟩] ++ celH (E.drop i) ∧ R.length = i + 1 + (E.length - i)) := by
        have e1 : R = E.take i ++ ⟨p, n, lo⟩ :: E.drop i := HP.out
        refine ⟨?_, by rw [e1]; simp; omega⟩
        rw [e1]
        show celH (E.take i ++ ([⟨p, n, lo⟩] ++ E.drop _)) = _
        rw [celH_append, celH_append, List.append_assoc]
      go_wp2_with (at_builtin; refine wpList_append_app rfl _ _ _ _ rfl 32 i0 (.agg #[.string ⟨#[]⟩, .int .i64 0, .string ⟨#[]⟩]) 3 40 Tryz.underlying29 hi0 hz0 hz1 hz2 rfl (by decide) rfl HA5.out rfl (HL5.out.dropS hi2) (by unfold maxLen; omega) (by omega) ?_; intro A6 c6 w6 g6 hx6 ha6 _; have HX6 := Lib.hid (HX5.out.trans hx6); have HA6 := Lib.hid ha6; clear hx6 ha6)
      go_ret
      refine ⟨A6, c6, g6, by rw [HPF.out.2]; first | rfl | (rw [show i + 1 + (E.length - (i + 1)) = E.length by omega]; rfl), HX6.out, ?_⟩
      rw [HPF.out.1, HPF.out.2]
      exact HA6.out
    · have hi2 : (i + 1) ≤ E.length := by simpa using hi
      have hcl := run_cut_l (P := Tryz.prog) Tryz.underlying29 hi0 A E.length c (i + 1) hi2
      rw [hz1] at hcl
      push_cast at hcl
      have HPF : Hid (celH R = celH (E.take i) ++ celH [⟨p, n, lo⟩] ++ celH (E.drop (i + 1)) ∧ R.length = i + 1 + (E.length - (i + 1))) := by
        have e1 : R = E.take i ++ ⟨p, n, lo⟩ :: E.drop (i + 1) := HP.out
        refine ⟨?_, by rw [e1]; simp; omega⟩
        rw [e1]
        show celH (E.take i ++ ([⟨p, n, lo⟩] ++ E.drop _)) = _
        rw [celH_append, celH_append, List.append_assoc]
      go_wp2_with (at_builtin; refine wpList_append_app rfl _ _ _ _ rfl 32 i0 (.agg #[.string ⟨#[]⟩, .int .i64 0, .string ⟨#[]⟩]) 3 40 Tryz.underlying29 hi0 hz0 hz1 hz2 rfl (by decide) rfl HA5.out rfl (HL5.out.dropS hi2) (by unfold maxLen; omega) (by omega) ?_; intro A6 c6 w6 g6 hx6 ha6 _; have HX6 := Lib.hid (HX5.out.trans hx6); have HA6 := Lib.hid ha6; clear hx6 ha6)
      go_ret
      refine ⟨A6, c6, g6, by rw [HPF.out.2]; first | rfl | (rw [show i + 1 + (E.length - (i + 1)) = E.length by omega]; rfl), HX6.out, ?_⟩
      rw [HPF.out.1, HPF.out.2]
      exact HA6.out
  · (unfold wpAct; (repeat (first | simp only [List.getElem?_toArray] | simp only [List.getElem?_cons_zero] | simp only [List.getElem?_cons_succ])); (try dsimp only))
    go_wp2_with fail
    have hx3 : Ext (fun _ => False) g0 w2 g0 (w2.alloc (.cells #[.string p, .int .i64 n, .string lo] 32)) := (Ext.refl _ _ _).alloc _
    have HS3 := Lib.hid (src_hv1 w2 p n lo)
    have hS3 := hS.alloc (.cells #[.string p, .int .i64 n, .string lo] 32)
    have HX3 := Lib.hid (HX2.out.trans (hx3.imp (fun _ (h : False) => h.elim)))
    have HL3 := Lib.hid (HL2.out.ext hx3)
    have hlx := Ext.lit (fun _ => False) g0 w2 (.cells #[.string p, .int .i64 n, .string lo] 32) 3
    have HR3 : Hid (Rd 3 (g0.lit w2.heap.size 3) (w2.alloc (.cells #[.string p, .int .i64 n, .string lo] 32)) (some ⟨w2.heap.size, 0, none⟩) 1 (celH [⟨p, n, lo⟩])) := Rd.lit 3 g0 w2 (celH [⟨p, n, lo⟩]) 32 (0, 0) 1 rfl
    have HX3 : Hid (Ext (· = o) g w (g0.lit w2.heap.size 3) (w2.alloc (.cells #[.string p, .int .i64 n, .string lo] 32))) := HX2.out.trans (hlx.imp (fun _ (h : False) => h.elim))
    have HL3 := Lib.hid (HL2.out.ext hlx)
    have hO2 : (g0.lit w2.heap.size 3).O w.heap.size = w.heap.size := (hlx.own _ hw2).trans hO1
    have hw3 : w.heap.size < (w2.alloc (.cells #[.string p, .int .i64 n, .string lo] 32)).heap.size := by simp; omega
    clear hx3 hlx HS3
    generalize g0.lit w2.heap.size 3 = g3 at *
    generalize hwl : w2.alloc (.cells #[.string p, .int .i64 n, .string lo] 32) = w3 at *
    clear hwl
    refine ⟨hS3, ?_⟩
    (unfold wpMix wpRd; (repeat (first | simp only [List.filterMap_cons] | simp only [List.filterMap_nil] | simp only [List.getElem?_toArray] | simp only [List.getElem?_cons_zero] | simp only [List.getElem?_cons_succ])); (try dsimp only); change wpQuiet _ _ _ _ ([]) _; (repeat (go_big_quiet_step (fail))); refine wpQuiet_nil ?_; (try dsimp only))
    ((repeat (first | simp only [List.getElem?_toArray] | simp only [List.getElem?_cons_zero] | simp only [List.getElem?_cons_succ])); (try dsimp only))
    go_wp2_with (at_builtin; refine wpList_append_app rfl _ _ _ _ rfl 32 i0 (.agg #[.string ⟨#[]⟩, .int .i64 0, .string ⟨#[]⟩]) 3 40 Tryz.underlying29 hi0 hz0 hz1 hz2 rfl (by decide) rfl (App.nil 32 3 o g3 w3) rfl (HL3.out.takeS hi1) (by unfold maxLen; omega) (by omega) ?_; intro A4 c4 w4 g4 hx4 ha4 _; simp only [Nat.zero_add, List.nil_append] at ha4; rw [Nat.zero_add]; have HX4 := Lib.hid (HX3.out.trans hx4); have HA4 := Lib.hid ha4; have HL4 := Lib.hid (HL3.out.ext hx4); have HS4 := Lib.hid ((HR3.out.ext hx4).src (P := Tryz.prog) Tryz.underlying29 1 (celH_one _) (fun e => by cases e)); have hS4 := hS3.ext hx4 (by rw [hO2]; omega); have hO3 : g4.O w.heap.size = w.heap.size := (hx4.own _ hw3).trans hO2; clear hx4 ha4)
    go_wp2_with fail
    refine ⟨hS4, ?_⟩
    (unfold wpMix wpRd; (repeat (first | simp only [List.filterMap_cons] | simp only [List.filterMap_nil] | simp only [List.getElem?_toArray] | simp only [List.getElem?_cons_zero] | simp only [List.getElem?_cons_succ])); (try dsimp only); change wpQuiet _ _ _ _ ([]) _; (repeat (go_big_quiet_step (fail))); refine wpQuiet_nil ?_; (try dsimp only))
    ((repeat (first | simp only [List.getElem?_toArray] | simp only [List.getElem?_cons_zero] | simp only [List.getElem?_cons_succ])); (try dsimp only))
    go_wp2_with (at_builtin; refine wpList_append_app rfl _ _ _ _ rfl 32 i0 (.agg #[.string ⟨#[]⟩, .int .i64 0, .string ⟨#[]⟩]) 3 40 Tryz.underlying29 hi0 hz0 hz1 hz2 rfl (by decide) rfl HA4.out rfl HS4.out (by unfold maxLen; omega) (by omega) ?_; intro A5 c5 w5 g5 hx5 ha5 _; have HX5 := Lib.hid (HX4.out.trans hx5); have HA5 := Lib.hid ha5; have HL5 := Lib.hid (HL4.out.ext hx5); have hS5 := hS4.ext hx5 (by rw [hO3]; omega); clear hx5 ha5)
    go_wp2_with fail
    refine ⟨hS5, ?_⟩
    simp only [Act.put, List.setIfInBounds_toArray, List.set_cons_succ, List.set_cons_zero]
    (unfold wpMix wpRd; (repeat (first | simp only [List.filterMap_cons] | simp only [List.filterMap_nil] | simp only [List.getElem?_toArray] | simp only [List.getElem?_cons_zero] | simp only [List.getElem?_cons_succ])); (try dsimp only); change wpQuiet _ _ _ _ (_ :: []) _; (repeat (go_big_quiet_step (fail))); refine wpQuiet_nil ?_; (try dsimp only))
    clear hN HX4 HA4 HL4 HS4
    cases f
    · have hi2 : i ≤ E.length := by simpa using hi
      have hcl := run_cut_l (P := Tryz.prog) Tryz.underlying29 hi0 A E.length c i hi2
      rw [hz1] at hcl
      push_cast at hcl
      have HPF : Hid (celH R = celH (E.take i) ++ celH [⟨p, n, lo⟩] ++ celH (E.drop i) ∧ R.length = i + 1 + (E.length - i)) := by
        have e1 : R = E.take i ++ ⟨p, n, lo⟩ :: E.drop i := HP.out
        refine ⟨?_, by rw [e1]; simp; omega⟩
        rw [e1]
        show celH (E.take i ++ ([⟨p, n, lo⟩] ++ E.drop _)) = _
        rw [celH_append, celH_append, List.append_assoc]
      go_wp2_with (at_builtin; refine wpList_append_app rfl _ _ _ _ rfl 32 i0 (.agg #[.string ⟨#[]⟩, .int .i64 0, .string ⟨#[]⟩]) 3 40 Tryz.underlying29 hi0 hz0 hz1 hz2 rfl (by decide) rfl HA5.out rfl (HL5.out.dropS hi2) (by unfold maxLen; omega) (by omega) ?_; intro A6 c6 w6 g6 hx6 ha6 _; have HX6 := Lib.hid (HX5.out.trans hx6); have HA6 := Lib.hid ha6; clear hx6 ha6)
      go_ret
      refine ⟨A6, c6, g6, by rw [HPF.out.2]; first | rfl | (rw [show i + 1 + (E.length - (i + 1)) = E.length by omega]; rfl), HX6.out, ?_⟩
      rw [HPF.out.1, HPF.out.2]
      exact HA6.out
    · have hi2 : (i + 1) ≤ E.length := by simpa using hi
      have hcl := run_cut_l (P := Tryz.prog) Tryz.underlying29 hi0 A E.length c (i + 1) hi2
      rw [hz1] at hcl
      push_cast at hcl
      have HPF : Hid (celH R = celH (E.take i) ++ celH [⟨p, n, lo⟩] ++ celH (E.drop (i + 1)) ∧ R.length = i + 1 + (E.length - (i + 1))) := by
        have e1 : R = E.take i ++ ⟨p, n, lo⟩ :: E.drop (i + 1) := HP.out
        refine ⟨?_, by rw [e1]; simp; omega⟩
        rw [e1]
        show celH (E.take i ++ ([⟨p, n, lo⟩] ++ E.drop _)) = _
        rw [celH_append, celH_append, List.append_assoc]
      go_wp2_with (at_builtin; refine wpList_append_app rfl _ _ _ _ rfl 32 i0 (.agg #[.string ⟨#[]⟩, .int .i64 0, .string ⟨#[]⟩]) 3 40 Tryz.underlying29 hi0 hz0 hz1 hz2 rfl (by decide) rfl HA5.out rfl (HL5.out.dropS hi2) (by unfold maxLen; omega) (by omega) ?_; intro A6 c6 w6 g6 hx6 ha6 _; have HX6 := Lib.hid (HX5.out.trans hx6); have HA6 := Lib.hid ha6; clear hx6 ha6)
      go_ret
      refine ⟨A6, c6, g6, by rw [HPF.out.2]; first | rfl | (rw [show i + 1 + (E.length - (i + 1)) = E.length by omega]; rfl), HX6.out, ?_⟩
      rw [HPF.out.1, HPF.out.2]
      exact HA6.out

end Go.Proofs.YtjjdffafibonhaaGreatDoor
