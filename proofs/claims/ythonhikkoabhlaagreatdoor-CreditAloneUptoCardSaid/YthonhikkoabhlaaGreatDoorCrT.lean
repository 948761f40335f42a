/-
  The walk of the ledger's carried (printed by mkcar.py).
-/
import Derived.Test.YthonhikkoabhlaaGreatDoorCrO
namespace Go.Proofs.YthonhikkoabhlaaGreatDoor
open Go.RowKit

/-- What the records bring. -/
def RecN (d : Dep) (l : List Rcd) (f : Fil) : Prop := ∃ r, r ∈ l ∧ ((r.how = 1 ∧ (tabD d (r.src, r.lst)).car f) ∨ ((r.how = 2 ∨ r.how = 4) ∧ OffS d r f))
theorem recN_snoc {d : Dep} {l : List Rcd} {r : Rcd} (f : Fil) : RecN d (l ++ [r]) f ↔ RecN d l f ∨ ((r.how = 1 ∧ (tabD d (r.src, r.lst)).car f) ∨ ((r.how = 2 ∨ r.how = 4) ∧ OffS d r f)) := by
  constructor
  · rintro ⟨x, hx, h⟩
    rcases List.mem_append.1 hx with hx | hx
    · exact .inl ⟨x, hx, h⟩
    · rw [List.mem_singleton] at hx
      rw [hx] at h
      exact .inr h
  · rintro (⟨x, hx, h⟩ | h)
    · exact ⟨x, List.mem_append_left _ hx, h⟩
    · exact ⟨r, by simp, h⟩
theorem recN_copy {d : Dep} {l : List Rcd} {r : Rcd} (h : r.how = 1) (f : Fil) : RecN d (l ++ [r]) f ↔ RecN d l f ∨ (tabD d (r.src, r.lst)).car f := by
  rw [recN_snoc, h]
  simp
theorem recN_off {d : Dep} {l : List Rcd} {r : Rcd} (h : r.how = 2 ∨ r.how = 4) (f : Fil) : RecN d (l ++ [r]) f ↔ RecN d l f ∨ OffS d r f := by
  rw [recN_snoc]
  refine or_congr Iff.rfl ⟨fun h' => h'.elim (fun h1 => by omega) (fun h1 => h1.2), fun h' => .inr ⟨h, h'⟩⟩
theorem recN_no {d : Dep} {l : List Rcd} {r : Rcd} (h : ¬ (r.how = 1 ∨ r.how = 2 ∨ r.how = 4)) (f : Fil) : RecN d (l ++ [r]) f ↔ RecN d l f := by
  rw [recN_snoc]
  exact ⟨fun h' => h'.elim id fun h1 => absurd (h1.elim (fun h2 => .inl h2.1) fun h2 => .inr h2.1) h, .inl⟩
theorem carN {d : Dep} (H : Hist d) {v : Fil} (hm : (memD d.revs v).isSome = true) (f : Fil) : (tabD d v).car f ↔ ((origD d.recs v = true ∧ f = v) ∨ BefS d v f) ∨ RecN d (recsD d.recs v) f := by
  rw [tab_car H hm f, or_assoc]
  rfl

set_option maxRecDepth 100000 in
set_option maxHeartbeats 12800000 in
theorem car_step (d : Dep) (s k : Nat) (hc : CrD d) (H : CarP d s k) (HO : ConP d s k) : CarP d s (k + 1) := by
  intro v hm hvk w Nc Ne X hl hme hnc hX
  have HCR := Lib.hid H
  have HCO := Lib.hid HO
  have HNV := Lib.hid hnc
  clear H HO hnc
  obtain ⟨L, hkm, hms⟩ := hme.car
  have hvo := hc.fok hm
  obtain ⟨vv, hvv⟩ := Option.isSome_iff_exists.1 hm
  have HL := Lib.hid hl
  have HME := Lib.hid hme
  have HKM := Lib.hid hkm
  have HMS := Lib.hid hms
  have HX := Lib.hid hX
  have HC := Lib.hid hc
  have HM := Lib.hid hm
  have hlb := hl.lb
  have hsl := hkm.lt
  have HVE : Hid (fileV v = .agg #[.string v.1, .int .i64 v.2]) := rfl
  have HPV := Lib.hid (fun w h => previous_any d s v vv w hc h hvv)
  have HOR := Lib.hid (fun w h => original_any d s v w h hvo hc.dep.fewr)
  rw [HVE.out] at HPV HOR ⊢
  obtain ⟨LR, hkr, hkg⟩ := hl.rcs
  obtain ⟨A, cA, hgf, hfar⟩ := hkg v
  have hql : (recsD d.recs v).length ≤ 512 := Nat.le_trans (List.length_filter_le _ _) hc.dep.fewr
  have HKR := Lib.hid hkr
  have HGF := Lib.hid hgf
  have HFAR := Lib.hid hfar
  have hsr := hkr.lt
  clear hl hme hkm hms hX hc hm hvv hkr hkg hgf hfar
  go_enter Tryz.func18, Tryz.ntmps18
  go_upto_region 1 with fail
  generalize hw1 : World.alloc _ (.cells #[.string v.1, .int .i64 v.2] 47) = w1
  have HB1 : Hid (Below w.heap.size w w1) := by
    show Below _ _ _
    rw [← hw1]
    (repeat (first | (with_reducible exact Below.refl _ _) | (with_reducible assumption) | (with_reducible refine Below.setCell ?_ ?_ _; rotate_left; focus (first | exact Nat.le_refl _ | (dsimp only; omega))) | (with_reducible refine Below.drew ?_) | (with_reducible refine below_drewN ?_ _) | (with_reducible refine Below.alloc ?_ ?_ _; rotate_left; focus (first | exact Nat.le_refl _ | (simp; done) | (simp; omega)))))
  have HM1 : Hid (Blk w.heap.size 47 [.string v.1, .int .i64 v.2] w1) := hw1 ▸ Blk.new w 47 _
  clear hw1
  have hz1 := HB1.out.size
  have lt1 := HM1.out.lt
  have HL1 := Lib.hid (HL.out.below HB1.out)
  have HKM1 := Lib.hid (HKM.out.below HB1.out hsl)
  have hS : Below w1.heap.size w1 w1.drew := (Below.refl _ _).drew
  have LK : ∀ x, Below w1.heap.size w1 x → (Instr.lookup 73 (.map (some (s + 3))) (.agg #[.string v.1, .int .i64 v.2]) true).run Tryz.prog x = .ok (.tuple #[(kget L v).getD (.map none), .bool (kget L v).isSome]) x := fun x hx =>
    (HKM1.out.below hx (by omega)).run_get Tryz.underlying73 (zeroSet _) (x := v) hvo true
  (refine wp_region_s (S := Below w1.heap.size w1) (by kernel_rfl) (by kernel_rfl) hS ?_; have hN : Nonempty (Held (Below w1.heap.size w1)) := ⟨⟨_, hS⟩⟩; (obtain ⟨q0, q1⟩ := fun_and2 (fun y : Held (Below w1.heap.size w1) => (HM1.out.below y.ok).c2); have l0 : ∀ y : Held (Below w1.heap.size w1), y.w.cell? ⟨s + 6, 3, none⟩ = some (.map (some (s + 3))) := fun y => (HL1.out.below y.ok).blk.cell 3; have lk := fun y : Held (Below w1.heap.size w1) => LK y.w y.ok; clear LK); (repeat (go_big_quiet_step (fail))); refine wpQuiet_nil ?_; rintro x ⟨⟨_, hx⟩, rfl⟩; clear hN)
  clear q0 q1 l0 lk hS
  have HBx := Lib.hid (HB1.out.trans (hx.mono hz1))
  have HMx := Lib.hid (HM1.out.below hx)
  have HLx := Lib.hid (HL1.out.below hx)
  have HKMx := Lib.hid (HKM1.out.below hx (by omega))
  have hzx := hx.size
  clear hx HB1 HM1 HL1 HKM1
  cases hL : kget L v with
  | some u =>
    obtain ⟨b, hu, h7, hxb, hset⟩ : ∃ b, u = .map (some b) ∧ s + 7 ≤ b ∧ ¬ X b ∧ SetIs b (tabD d v).car w := (HMS.out v u hL).elim (fun h => absurd (HNV.out v h.1) (Nat.lt_irrefl _)) (fun h => h.2)
    subst hu
    have HE := Lib.hid (And.intro h7 (And.intro hxb hset))
    clear hL h7 hxb hset
    go_wp2_with fail
    go_ret
    exact ⟨b, rfl, HE.out.1, HE.out.2.1, HE.out.2.2.below HBx.out HE.out.2.2.lt, HME.out.below HBx.out, kp_ms HBx.out⟩
  | none =>
    have HLN := Lib.hid hL
    clear hL
    go_upto_region 4 with fail
    have hlbx := HLx.out.lb
    have HMEx := Lib.hid (HME.out.below HBx.out)
    have HMSx := Lib.hid (HMS.out.keep (kp_ms (s := s) HBx.out) (fun b h => .inr (by have := h.2; omega)))
    have hS : Below x.heap.size x x.drew := (Below.refl _ _).drew
    (refine wp_region_mixz (S := Below x.heap.size x) [0, 1, 2, 3, 4] 5 [] (by kernel_rfl) (by kernel_rfl) (by intro c a d v w h; cases d <;> exact h) hS ?_; have hN : Nonempty (Held (Below x.heap.size x)) := ⟨⟨_, hS⟩⟩)
    obtain ⟨q0, q1⟩ := fun_and2 (fun y : Held (Below x.heap.size x) => (HMx.out.below y.ok).c2)
    have l0 : ∀ y : Held (Below x.heap.size x), y.w.cell? ⟨s + 6, 3, none⟩ = some (.map (some (s + 3))) := fun y => (HLx.out.below y.ok).blk.cell 3
    (unfold wpMixZ wpRd; (repeat (first | simp only [List.filterMap_cons] | simp only [List.filterMap_nil] | simp only [List.getElem?_toArray] | simp only [List.getElem?_cons_zero] | simp only [List.getElem?_cons_succ])); (try dsimp only); change wpQuiet _ _ _ _ (_ :: _ :: _ :: _ :: _ :: []) _; (repeat (go_big_quiet_step (fail))); refine wpQuiet_nil ?_; (try dsimp only))
    clear q0 q1 l0 hS
    refine wpList_kput rfl _ _ _ 73 rfl 80 Tryz.underlying73 (s + 3) L rfl HKMx.out.drew v rfl hvo (.map none) rfl ?_
    intro w3 hm3 hg3 hs3
    clear hs3
    have hg3' : x.grownBy w3 (some (s + 3)) := ⟨hg3.os, hg3.tape, hg3.output, hg3.size, hg3.block⟩
    have hsz3 : x.heap.size ≤ w3.heap.size := hg3.size
    have HK3 := Lib.hid ((kp_ms (s := s) HBx.out).trans (.of_grown hg3' fun b e => by injection e with e; unfold MS; omega))
    have HM3 := Lib.hid (HMx.out.grown hg3' (fun e => by injection e; omega))
    have HE3 := Lib.hid (HMEx.out.carried hg3' hm3 HMSx.out.begin)
    clear hm3 hg3 hg3' HMSx HMEx HKMx HLx HMx HBx HLN
    have HR4 := Lib.hid (SetIs.new w3)
    have HK4 := Lib.hid (HK3.out.alloc (.map #[] 0))
    have HM4 := Lib.hid (HM3.out.alloc (.map #[] 0))
    have HE4 : Hid (Memo d s (fun f => Nc f ∨ f = v) Ne (fun b => X b ∨ b = w3.heap.size) (w3.alloc (.map #[] 0))) := (HE3.out.use (Y := fun b => X b ∨ b = w3.heap.size) fun b hb h => h.elim id fun e => absurd hb (by omega)).below ((Below.refl _ _).alloc (Nat.le_refl _) (.map #[] 0))
    have hz4 : (w3.alloc (.map #[] 0)).heap.size = w3.heap.size + 1 := by simp
    have hrw : w.heap.size < w3.heap.size := by omega
    have hr7 : s + 7 ≤ w3.heap.size := by omega
    have hmm := @run_makeMap Tryz.prog
    go_upto_region 6 with fail
    clear hmm HK3 HM3 HE3
    generalize w3.heap.size = r at *
    generalize World.alloc w3 (.map #[] 0) = w4 at *
    have hrl4 : r < w4.heap.size := by omega
    clear hz4 hsz3
    obtain ⟨q0, q1⟩ := HM4.out.c2
    go_wp2_with fail
    refine (HOR.out _ (HL.out.kp HK4.out)).mono ?_
    rintro e w5 ⟨rfl, hb5⟩
    have hz5 := hb5.size
    have HK5 := Lib.hid (HK4.out.trans (kp_ms (s := s) hb5))
    have HM5 := Lib.hid (HM4.out.below hb5)
    have HR5 := Lib.hid (HR4.out.below hb5 HR4.out.lt)
    have HE5 := Lib.hid (HE4.out.below hb5)
    clear hb5 q0 q1 HK4 HM4 HR4 HE4
    cases ho : origD d.recs v
    · have HO := Lib.hid ho
      clear ho
      go_upto_region 8 with fail
      have HK6 := HK5
      have HM6 := HM5
      have HE6 := HE5
      have HR6 : Hid (SetIs r (fun f => origD d.recs v = true ∧ f = v) w5) := HR5.out.congr fun f => ⟨fun h => h.elim, fun h => by have := HO.out; rw [h.1] at this; cases this⟩
      clear HK5 HM5 HE5 HR5 HO
      generalize w5 = w4 at *
      obtain ⟨q0, q1⟩ := HM6.out.c2
      go_wp2_with fail
      refine (HPV.out _ (HL.out.kp HK6.out)).mono ?_
      rintro e w5 ⟨⟨⟨up, un⟩, rfl, hu⟩, hb5⟩
      obtain ⟨ob, hob⟩ : ∃ ob, (prevF d.revs v).isSome = ob := ⟨_, rfl⟩
      rw [hob]
      have HOB := Lib.hid hob
      clear hob
      have hz5 := hb5.size
      have HK5 := Lib.hid (HK6.out.trans (kp_ms (s := s) hb5))
      have HM5 := Lib.hid (HM6.out.below hb5)
      have HR5 := Lib.hid (HR6.out.below hb5 HR6.out.lt)
      have HE5 := Lib.hid (HE6.out.below hb5)
      have HU := Lib.hid hu
      clear hu hb5 q0 q1 HK6 HM6 HR6 HE6
      unfold fileV
      dsimp only
      have hb6 := (Below.refl w5.heap.size w5).alloc (Nat.le_refl _) (.cells #[.string up, .int .i64 un] 47)
      have HK6 := Lib.hid (HK5.out.alloc (.cells #[.string up, .int .i64 un] 47))
      have HM6 := Lib.hid (HM5.out.below hb6)
      have HR6 := Lib.hid (HR5.out.below hb6 HR5.out.lt)
      have HE6 := Lib.hid (HE5.out.below hb6)
      have HU6 := Lib.hid (Blk.new w5 47 [.string up, .int .i64 un])
      have hz6 : (w5.alloc (.cells #[.string up, .int .i64 un] 47)).heap.size = w5.heap.size + 1 := by simp
      clear hb6 HK5 HM5 HR5 HE5
      cases ob with
      | false =>
        have hp : prevF d.revs v = none := by simpa using HOB.out
        have HP := Lib.hid hp
        clear hp
        go_upto_region 11 with fail
        generalize World.alloc w5 _ = w9 at *
        have HK9 := HK6
        have HM9 := HM6
        have HE9 := HE6
        have HR9 := Lib.hid (HR6.out.congr fun f => show _ ↔ ((origD d.recs v = true ∧ f = v) ∨ BefS d v f) from ⟨.inl, fun h => h.elim id fun ⟨u, h, _⟩ => by rw [HP.out] at h; cases h⟩)
        have hrl9 : r < w9.heap.size := HR9.out.lt
        clear HK6 HM6 HE6 HR6 HU6 HU hz6 HP
        have hlb9 : s + 6 < w9.heap.size := (HL.out.kp HK9.out).lb
        have HL9 := Lib.hid (HL.out.kp HK9.out)
        have hS : Below w9.heap.size w9 w9.drew := (Below.refl _ _).drew
        have LK : ∀ x, Below w9.heap.size w9 x → (Instr.lookup 72 (.map (some (s + 2))) (.agg #[.string v.1, .int .i64 v.2]) false).run Tryz.prog x = .ok (.slice A (recsD d.recs v).length cA) x := fun x hx => by
          rw [← HGF.out]
          exact ((HKR.out.kp HK9.out (by unfold MS; omega)).below hx (by omega)).run_get Tryz.underlying72 (zeroRecs _) (x := v) hvo false
        (refine wp_region_s (S := Below w9.heap.size w9) (by kernel_rfl) (by kernel_rfl) hS ?_; have hN : Nonempty (Held (Below w9.heap.size w9)) := ⟨⟨_, hS⟩⟩; (obtain ⟨q0, q1⟩ := fun_and2 (fun y : Held (Below w9.heap.size w9) => (HM9.out.below y.ok).c2); have l0 : ∀ y : Held (Below w9.heap.size w9), y.w.cell? ⟨s + 6, 2, none⟩ = some (.map (some (s + 2))) := fun y => (HL9.out.below y.ok).blk.cell 2; have lk := fun y : Held (Below w9.heap.size w9) => LK y.w y.ok; clear LK); (repeat (go_big_quiet_step (fail))); refine wpQuiet_nil ?_; rintro x ⟨⟨_, hx⟩, rfl⟩; clear hN)
        clear q0 q1 l0 lk hS HL9
        have HKx := Lib.hid (HK9.out.trans (kp_ms (s := s) hx))
        have HMx := Lib.hid (HM9.out.below hx)
        have HRx := Lib.hid (HR9.out.below hx hrl9)
        have HEx := Lib.hid (HE9.out.below hx)
        clear hx HK9 HM9 HR9 HE9
        go_wp2_with fail
        go_loopw [54] (fun i wr => ∃ k' : Nat, i = .int .i64 k' ∧ k' ≤ (recsD d.recs v).length ∧ SetIs r (fun f => ((origD d.recs v = true ∧ f = v) ∨ BefS d v f) ∨ RecN d ((recsD d.recs v).take k') f) wr ∧ Memo d s (fun f => Nc f ∨ f = v) Ne (fun b => X b ∨ b = r) wr ∧ Kp (MS s) w wr ∧ Blk w.heap.size 47 [.string v.1, .int .i64 v.2] wr) (fun i _ => (recsD d.recs v).length - (intOf i).toNat)
        case atStart => exact ⟨0, rfl, Nat.zero_le _, HRx.out.congr fun f => ⟨.inl, fun h => h.elim id fun h => by obtain ⟨r', h', _⟩ := h; simp at h'⟩, HEx.out, HKx.out, HMx.out⟩
        case round =>
          obtain ⟨k', rfl, hk, hset, hme, hkp, hbx⟩ := hrel
          have HRr := Lib.hid hset
          have HEr := Lib.hid hme
          have HKr := Lib.hid hkp
          have HMr := Lib.hid hbx
          have hzr := hkp.size
          have hrl := hset.lt
          clear hset hme hkp hbx HKx HMx HRx HEx
          by_cases hlt : k' < (recsD d.recs v).length
          · obtain ⟨bq, hAq, hbq7, hbql, hat⟩ := (HFAR.out.kp HKr.out (fun b hb h => by have := h.2; omega)) (by omega)
            subst hAq
            have hg := List.getElem?_eq_getElem hlt
            have htk : (recsD d.recs v).take (k' + 1) = (recsD d.recs v).take k' ++ [(recsD d.recs v)[k']] := by rw [List.take_succ_eq_append_getElem hlt]
            have hmem := recsD_mem.1 (List.getElem_mem hlt)
            have HTK := Lib.hid htk
            generalize hq : (recsD d.recs v)[k'] = rr at *
            obtain ⟨hrd, hrv⟩ := hmem
            (have hcv := fun j (u : Value) (hj : (rr).cells[j]? = some u) => ((hat).get hg hj); have c0 := hcv 0 _ rfl; have c1 := hcv 1 _ rfl; have c2 := hcv 2 _ rfl; have c3 := hcv 3 _ rfl; have c4 := hcv 4 _ rfl; have c5 := hcv 5 _ rfl; have e12 : rcdK.n = 6 := rfl; simp only [e12, Nat.add_zero] at c0 c1 c2 c3 c4 c5; clear hcv e12)
            simp only [Nat.zero_add] at c0 c1 c2 c3 c4 c5
            have HRD := Lib.hid hrd
            have HRV := Lib.hid hrv
            have hhow := HC.out.hist.how rr hrd
            have hspan := HC.out.hist.span rr hrd
            have HSRC := Lib.hid (HC.out.hist.src rr hrd)
            have HBX := Lib.hid (Blk.new wr 51 rr.cells)
            have hb2 := (Below.refl wr.heap.size wr).alloc (Nat.le_refl _) (.cells rr.cells.toArray 51)
            have HK2 := Lib.hid (HKr.out.trans (kp_ms (s := s) hb2))
            have HM2 := Lib.hid (HMr.out.below hb2)
            have HR2 := Lib.hid (HRr.out.below hb2 hrl)
            have HE2 := Lib.hid (HEr.out.below hb2)
            have hz2 : (wr.alloc (.cells rr.cells.toArray 51)).heap.size = wr.heap.size + 1 := by simp
            obtain ⟨rs, rf, rl, rt, rn, rh⟩ := rr
            unfold Rcd.cells at HBX HK2 HM2 HR2 HE2 hz2
            dsimp only at *
            clear hat hg hq htk hrd hrv hb2 HKr HMr HRr HEr
            go_upto_region 14 with fail
            generalize World.alloc wr _ = w2 at *
            have hlb2 : r < w2.heap.size := by omega
            have hlw2 : w.heap.size ≤ w2.heap.size := by omega
            clear c0 c1 c2 c3 c4 c5 hz2
            obtain ⟨b0, b1, b2, b3, b4, b5⟩ := HBX.out.c6
            have hcs : (((rh == 1) = true ∧ (rh == 2) = false ∧ (rh == 4) = false ∧ (rh == 3) = false) ∨ ((rh == 1) = false ∧ (rh == 2) = true ∧ (rh == 4) = false ∧ (rh == 3) = false)) ∨ (((rh == 1) = false ∧ (rh == 2) = false ∧ (rh == 4) = false ∧ (rh == 3) = true) ∨ ((rh == 1) = false ∧ (rh == 2) = false ∧ (rh == 4) = true ∧ (rh == 3) = false)) := by
              rcases (show rh = 1 ∨ rh = 2 ∨ rh = 3 ∨ rh = 4 by omega) with rfl | rfl | rfl | rfl <;> simp
            clear hhow
            rcases hcs with (⟨g1, g2, g4, g3⟩ | ⟨g1, g2, g4, g3⟩) | (⟨g1, g2, g4, g3⟩ | ⟨g1, g2, g4, g3⟩)
            all_goals have HG := Lib.hid (And.intro g1 (And.intro g2 (And.intro g4 g3)))
            · have hsl1 := HSRC.out rl hspan.2 (Int.le_refl _)
              have hsl2 : rkD d.revs (rs, rl) < rkD d.revs v := by
                have h2 := HRV.out
                rw [← h2]
                exact hsl1.2
              have hcal := HCR.out (rs, rl) hsl1.1 (by omega) w2 _ _ _ (HL.out.kp HK2.out) HE2.out (fun f hf => hf.elim (fun h => Nat.lt_trans hsl2 (HNV.out f h)) fun e => by rw [e]; exact hsl2) (fun b hb => hb.elim (fun h => by have := HX.out b h; omega) (fun h => by omega))
              rw [show fileV (rs, rl) = .agg #[.string rs, .int .i64 rl] from rfl] at hcal
              clear hsl1 hsl2
              have HCA := Lib.hid hcal
              clear hcal
              go_wp2_with fail
              refine HCA.out.mono ?_
              rintro e w5 ⟨c, rfl, hc5, hcx, hcs, hme5, hkp5⟩
              have hz5 := hkp5.size
              have HK5 := Lib.hid (HK2.out.trans hkp5)
              have HM5 := Lib.hid (HM2.out.kp hkp5 (by unfold MS; omega))
              have HR5 := Lib.hid (HR2.out.kp hkp5 (by unfold MS; omega))
              have HE5 := Lib.hid hme5
              have HC5 := Lib.hid hcs
              have hcr : c ≠ r := fun e => hcx (.inr e)
              clear hc5 hcx hcs hme5 hkp5 HK2 HM2 HR2 HE2 HCA HBX b0 b1 b2 b3 b4 b5
              have hb6 := (Below.refl w5.heap.size w5).alloc (Nat.le_refl _) (.cells #[.map (some c)] 80)
              have HADD := Lib.hid (add_any r c w5.heap.size _ _ (w5.alloc (.cells #[.map (some c)] 80)) (HR5.out.below hb6 HR5.out.lt) (HC5.out.below hb6 HC5.out.lt) hcr (by simp [go_sem]))
              have HK6 := Lib.hid (HK5.out.alloc (.cells #[.map (some c)] 80))
              have HM6 := Lib.hid (HM5.out.below hb6)
              have HE6 := Lib.hid (HE5.out.below hb6)
              clear hb6 HK5 HM5 HE5 HR5 HC5
              go_wp2_with fail
              refine HADD.out.mono ?_
              rintro e w7 ⟨rfl, h7s, h7k⟩
              have HK7 := Lib.hid (HK6.out.fresh h7k fun b hb => by omega)
              have HM7 := Lib.hid (HM6.out.kp h7k (by omega))
              have HE7 := Lib.hid (HE6.out.keep h7k fun b hb => ⟨.inr hb, by omega⟩)
              have HS7 := Lib.hid h7s
              clear h7s h7k HK6 HM6 HE6 HADD
              go_wp2_with fail
              go_roundw
              case rel => exact ⟨k' + 1, by go_num, by omega, HS7.out.congr fun f => by rw [HTK.out]; exact (or_assoc.trans (or_congr Iff.rfl (recN_copy (r := ⟨rs, rf, rl, rt, rn, rh⟩) (eq_of_beq HG.out.1) f).symm)), HE7.out, HK7.out, HM7.out⟩
              case measure => simp [intOf]; omega
            · have hcal := off_any d s k HC.out HCO.out ⟨rs, rf, rl, rt, rn, rh⟩ HRD.out (by rw [HRV.out]; omega) w2 _ _ _ (HL.out.kp HK2.out) HE2.out (fun f hf => by rw [HRV.out]; exact hf.elim (fun h => Nat.le_of_lt (HNV.out f h)) fun e => by rw [e]; exact Nat.le_refl _) (fun b hb => hb.elim (fun h => by have := HX.out b h; omega) (fun h => by omega))
              rw [show (⟨rs, rf, rl, rt, rn, rh⟩ : Rcd).val = .agg #[.string rs, .int .i64 rf, .int .i64 rl, .string rt, .int .i64 rn, .int .i64 rh] from rfl] at hcal
              have HCA := Lib.hid hcal
              clear hcal
              go_wp2_with fail
              refine HCA.out.mono ?_
              rintro e w5 ⟨c, rfl, hc5, hcx, hcs, hme5, hkp5⟩
              have hz5 := hkp5.size
              have HK5 := Lib.hid (HK2.out.trans hkp5)
              have HM5 := Lib.hid (HM2.out.kp hkp5 (by unfold MS; omega))
              have HR5 := Lib.hid (HR2.out.kp hkp5 (by unfold MS; omega))
              have HE5 := Lib.hid hme5
              have HC5 := Lib.hid hcs
              have hcr : c ≠ r := fun e => hcx (.inr e)
              clear hc5 hcx hcs hme5 hkp5 HK2 HM2 HR2 HE2 HCA HBX b0 b1 b2 b3 b4 b5
              have hb6 := (Below.refl w5.heap.size w5).alloc (Nat.le_refl _) (.cells #[.map (some c)] 80)
              have HADD := Lib.hid (add_any r c w5.heap.size _ _ (w5.alloc (.cells #[.map (some c)] 80)) (HR5.out.below hb6 HR5.out.lt) (HC5.out.below hb6 HC5.out.lt) hcr (by simp [go_sem]))
              have HK6 := Lib.hid (HK5.out.alloc (.cells #[.map (some c)] 80))
              have HM6 := Lib.hid (HM5.out.below hb6)
              have HE6 := Lib.hid (HE5.out.below hb6)
              clear hb6 HK5 HM5 HE5 HR5 HC5
              go_wp2_with fail
              refine HADD.out.mono ?_
              rintro e w7 ⟨rfl, h7s, h7k⟩
              have HK7 := Lib.hid (HK6.out.fresh h7k fun b hb => by omega)
              have HM7 := Lib.hid (HM6.out.kp h7k (by omega))
              have HE7 := Lib.hid (HE6.out.keep h7k fun b hb => ⟨.inr hb, by omega⟩)
              have HS7 := Lib.hid h7s
              clear h7s h7k HK6 HM6 HE6 HADD
              go_wp2_with fail
              go_roundw
              case rel => exact ⟨k' + 1, by go_num, by omega, HS7.out.congr fun f => by rw [HTK.out]; exact (or_assoc.trans (or_congr Iff.rfl (recN_off (r := ⟨rs, rf, rl, rt, rn, rh⟩) (.inl (eq_of_beq HG.out.2.1)) f).symm)), HE7.out, HK7.out, HM7.out⟩
              case measure => simp [intOf]; omega
            · go_wp2_with fail
              go_roundw
              case rel => exact ⟨k' + 1, by go_num, by omega, HR2.out.congr fun f => by rw [HTK.out]; exact or_congr Iff.rfl (recN_no (r := ⟨rs, rf, rl, rt, rn, rh⟩) (fun h => (show rh = 1 ∨ rh = 2 ∨ rh = 4 from h).elim (fun e => by have := HG.out.1; simp [e] at this) fun h => h.elim (fun e => by have := HG.out.2.1; simp [e] at this) fun e => by have := HG.out.2.2.1; simp [e] at this) f).symm, HE2.out, HK2.out, HM2.out⟩
              case measure => simp [intOf]; omega
            · have hcal := off_any d s k HC.out HCO.out ⟨rs, rf, rl, rt, rn, rh⟩ HRD.out (by rw [HRV.out]; omega) w2 _ _ _ (HL.out.kp HK2.out) HE2.out (fun f hf => by rw [HRV.out]; exact hf.elim (fun h => Nat.le_of_lt (HNV.out f h)) fun e => by rw [e]; exact Nat.le_refl _) (fun b hb => hb.elim (fun h => by have := HX.out b h; omega) (fun h => by omega))
              rw [show (⟨rs, rf, rl, rt, rn, rh⟩ : Rcd).val = .agg #[.string rs, .int .i64 rf, .int .i64 rl, .string rt, .int .i64 rn, .int .i64 rh] from rfl] at hcal
              have HCA := Lib.hid hcal
              clear hcal
              go_wp2_with fail
              refine HCA.out.mono ?_
              rintro e w5 ⟨c, rfl, hc5, hcx, hcs, hme5, hkp5⟩
              have hz5 := hkp5.size
              have HK5 := Lib.hid (HK2.out.trans hkp5)
              have HM5 := Lib.hid (HM2.out.kp hkp5 (by unfold MS; omega))
              have HR5 := Lib.hid (HR2.out.kp hkp5 (by unfold MS; omega))
              have HE5 := Lib.hid hme5
              have HC5 := Lib.hid hcs
              have hcr : c ≠ r := fun e => hcx (.inr e)
              clear hc5 hcx hcs hme5 hkp5 HK2 HM2 HR2 HE2 HCA HBX b0 b1 b2 b3 b4 b5
              have hb6 := (Below.refl w5.heap.size w5).alloc (Nat.le_refl _) (.cells #[.map (some c)] 80)
              have HADD := Lib.hid (add_any r c w5.heap.size _ _ (w5.alloc (.cells #[.map (some c)] 80)) (HR5.out.below hb6 HR5.out.lt) (HC5.out.below hb6 HC5.out.lt) hcr (by simp [go_sem]))
              have HK6 := Lib.hid (HK5.out.alloc (.cells #[.map (some c)] 80))
              have HM6 := Lib.hid (HM5.out.below hb6)
              have HE6 := Lib.hid (HE5.out.below hb6)
              clear hb6 HK5 HM5 HE5 HR5 HC5
              go_wp2_with fail
              refine HADD.out.mono ?_
              rintro e w7 ⟨rfl, h7s, h7k⟩
              have HK7 := Lib.hid (HK6.out.fresh h7k fun b hb => by omega)
              have HM7 := Lib.hid (HM6.out.kp h7k (by omega))
              have HE7 := Lib.hid (HE6.out.keep h7k fun b hb => ⟨.inr hb, by omega⟩)
              have HS7 := Lib.hid h7s
              clear h7s h7k HK6 HM6 HE6 HADD
              go_wp2_with fail
              go_roundw
              case rel => exact ⟨k' + 1, by go_num, by omega, HS7.out.congr fun f => by rw [HTK.out]; exact (or_assoc.trans (or_congr Iff.rfl (recN_off (r := ⟨rs, rf, rl, rt, rn, rh⟩) (.inr (eq_of_beq HG.out.2.2.1)) f).symm)), HE7.out, HK7.out, HM7.out⟩
              case measure => simp [intOf]; omega
          · obtain rfl : k' = (recsD d.recs v).length := by omega
            have hset := HRr.out
            rw [List.take_length] at hset
            have hs9 : SetIs r (tabD d v).car wr := hset.congr fun f => (carN HC.out.hist HM.out f).symm
            have HS9 := Lib.hid hs9
            have hlbr : s + 6 < wr.heap.size := (HL.out.kp HKr.out).lb
            have HLr := Lib.hid (HL.out.kp HKr.out)
            clear hset hs9 HRr
            go_upto_region 21 with fail
            obtain ⟨L9, hk9, hm9⟩ := HEr.out.car
            have HKM9 := Lib.hid hk9
            have HMS9 := Lib.hid hm9
            have hsr9 := hk9.lt
            have hS : Below wr.heap.size wr wr.drew := (Below.refl _ _).drew
            (refine wp_region_mixz (S := Below wr.heap.size wr) [0, 1, 2, 3, 4, 5] 6 [] (by kernel_rfl) (by kernel_rfl) (by intro c a d v w h; cases d <;> exact h) hS ?_; have hN : Nonempty (Held (Below wr.heap.size wr)) := ⟨⟨_, hS⟩⟩)
            obtain ⟨q0, q1⟩ := fun_and2 (fun y : Held (Below wr.heap.size wr) => (HMr.out.below y.ok).c2)
            have l0 : ∀ y : Held (Below wr.heap.size wr), y.w.cell? ⟨s + 6, 3, none⟩ = some (.map (some (s + 3))) := fun y => (HLr.out.below y.ok).blk.cell 3
            (unfold wpMixZ wpRd; (repeat (first | simp only [List.filterMap_cons] | simp only [List.filterMap_nil] | simp only [List.getElem?_toArray] | simp only [List.getElem?_cons_zero] | simp only [List.getElem?_cons_succ])); (try dsimp only); change wpQuiet _ _ _ _ (_ :: _ :: _ :: _ :: _ :: _ :: []) _; (repeat (go_big_quiet_step (fail))); refine wpQuiet_nil ?_; (try dsimp only))
            clear q0 q1 l0 hk9 hm9
            refine wpList_kput rfl _ _ _ 73 rfl 80 Tryz.underlying73 (s + 3) L9 rfl HKM9.out.drew v rfl hvo (.map (some r)) rfl ?_
            intro w9 hm9 hg9 hs9
            clear hs9
            have HE10 : Hid (SetIs r (tabD d v).car w9 ∧ Memo d s Nc Ne X w9 ∧ Kp (MS s) w w9) := by
              have hr9 := HS9.out.of_block (w' := w9) (hg9.block r HS9.out.lt (fun e => by injection e; omega))
              have hdr : wr.grownBy w9 (some (s + 3)) := ⟨hg9.os, hg9.tape, hg9.output, hg9.size, hg9.block⟩
              refine ⟨hr9, (HEr.out.use (Y := X) fun b _ h => .inl h).carried hdr hm9 ((HMS9.out.use (Y := X) fun b _ h => .inl h).finish (fun h => absurd (HNV.out v h) (Nat.lt_irrefl _)) HS9.out (by omega) (fun h => by have := HX.out r h; omega)), HKr.out.trans (.of_grown hdr fun b e => by injection e with e; unfold MS; omega)⟩
            clear hm9 hg9
            go_wp2_with fail
            go_ret
            exact ⟨r, rfl, by omega, fun h => by have := HX.out r h; omega, HE10.out.1, HE10.out.2.1, HE10.out.2.2⟩
      | true =>
        obtain ⟨u', hp⟩ := Option.isSome_iff_exists.1 HOB.out
        obtain rfl : (up, un) = u' := HU.out u' hp
        have HP := Lib.hid hp
        have hum := (prevF_mem hp).1
        have hur := HC.out.hist.prev _ _ hp
        have hcar := HCR.out (up, un) hum (by omega) (w5.alloc (.cells #[.string up, .int .i64 un] 47)) _ _ _ (HL.out.kp HK6.out) HE6.out (fun f hf => hf.elim (fun h => by have := HNV.out f h; omega) fun e => by rw [e]; exact hur) (fun b hb => hb.elim (fun h => by have := HX.out b h; omega) (fun h => by omega))
        rw [show fileV (up, un) = .agg #[.string up, .int .i64 un] from rfl] at hcar
        have HCA := Lib.hid hcar
        obtain ⟨q0, q1⟩ := HU6.out.c2
        clear hp HU hcar
        have hlt6 : r < (w5.alloc (.cells #[.string up, .int .i64 un] 47)).heap.size := HR6.out.lt
        clear hz6
        go_upto_region 10 with fail
        generalize World.alloc w5 _ = w6 at *
        go_wp2_with fail
        refine HCA.out.mono ?_
        rintro e w7 ⟨c, rfl, hc7, hcx, hcs, hme7, hkp7⟩
        have hz7 := hkp7.size
        have HK7 := Lib.hid (HK6.out.trans hkp7)
        have HM7 := Lib.hid (HM6.out.kp hkp7 (by unfold MS; omega))
        have HR7 := Lib.hid (HR6.out.kp hkp7 (by unfold MS; omega))
        have HE7 := Lib.hid hme7
        have HC7 := Lib.hid hcs
        have hcr : c ≠ r := fun e => hcx (.inr e)
        clear hc7 hcx hcs hme7 hkp7 HK6 HM6 HR6 HE6 HU6 HCA q0 q1
        have hb8 := (Below.refl w7.heap.size w7).alloc (Nat.le_refl _) (.cells #[.map (some c)] 80)
        have HADD := Lib.hid (add_any r c w7.heap.size _ _ (w7.alloc (.cells #[.map (some c)] 80)) (HR7.out.below hb8 HR7.out.lt) (HC7.out.below hb8 HC7.out.lt) hcr (by simp [go_sem]))
        have HK8 := Lib.hid (HK7.out.alloc (.cells #[.map (some c)] 80))
        have HM8 := Lib.hid (HM7.out.below hb8)
        have HE8 := Lib.hid (HE7.out.below hb8)
        clear hb8 HK7 HM7 HE7 HR7 HC7
        go_wp2_with fail
        refine HADD.out.mono ?_
        rintro e w9 ⟨rfl, h9s, h9k⟩
        have HK9 := Lib.hid (HK8.out.fresh h9k fun b hb => by omega)
        have HM9 := Lib.hid (HM8.out.kp h9k (by omega))
        have HE9 := Lib.hid (HE8.out.keep h9k fun b hb => ⟨.inr hb, by omega⟩)
        have HR9 := Lib.hid (h9s.congr fun f => show _ ↔ ((origD d.recs v = true ∧ f = v) ∨ BefS d v f) from or_congr Iff.rfl ⟨fun h => ⟨_, HP.out, h⟩, fun ⟨u, h1, h2⟩ => by rw [HP.out] at h1; cases h1; exact h2⟩)
        have hrl9 : r < w9.heap.size := HR9.out.lt
        clear h9s h9k HK8 HM8 HE8 HADD
        go_upto_region 11 with fail
        have hlb9 : s + 6 < w9.heap.size := (HL.out.kp HK9.out).lb
        have HL9 := Lib.hid (HL.out.kp HK9.out)
        have hS : Below w9.heap.size w9 w9.drew := (Below.refl _ _).drew
        have LK : ∀ x, Below w9.heap.size w9 x → (Instr.lookup 72 (.map (some (s + 2))) (.agg #[.string v.1, .int .i64 v.2]) false).run Tryz.prog x = .ok (.slice A (recsD d.recs v).length cA) x := fun x hx => by
          rw [← HGF.out]
          exact ((HKR.out.kp HK9.out (by unfold MS; omega)).below hx (by omega)).run_get Tryz.underlying72 (zeroRecs _) (x := v) hvo false
        (refine wp_region_s (S := Below w9.heap.size w9) (by kernel_rfl) (by kernel_rfl) hS ?_; have hN : Nonempty (Held (Below w9.heap.size w9)) := ⟨⟨_, hS⟩⟩; (obtain ⟨q0, q1⟩ := fun_and2 (fun y : Held (Below w9.heap.size w9) => (HM9.out.below y.ok).c2); have l0 : ∀ y : Held (Below w9.heap.size w9), y.w.cell? ⟨s + 6, 2, none⟩ = some (.map (some (s + 2))) := fun y => (HL9.out.below y.ok).blk.cell 2; have lk := fun y : Held (Below w9.heap.size w9) => LK y.w y.ok; clear LK); (repeat (go_big_quiet_step (fail))); refine wpQuiet_nil ?_; rintro x ⟨⟨_, hx⟩, rfl⟩; clear hN)
        clear q0 q1 l0 lk hS HL9
        have HKx := Lib.hid (HK9.out.trans (kp_ms (s := s) hx))
        have HMx := Lib.hid (HM9.out.below hx)
        have HRx := Lib.hid (HR9.out.below hx hrl9)
        have HEx := Lib.hid (HE9.out.below hx)
        clear hx HK9 HM9 HR9 HE9
        go_wp2_with fail
        go_loopw [54] (fun i wr => ∃ k' : Nat, i = .int .i64 k' ∧ k' ≤ (recsD d.recs v).length ∧ SetIs r (fun f => ((origD d.recs v = true ∧ f = v) ∨ BefS d v f) ∨ RecN d ((recsD d.recs v).take k') f) wr ∧ Memo d s (fun f => Nc f ∨ f = v) Ne (fun b => X b ∨ b = r) wr ∧ Kp (MS s) w wr ∧ Blk w.heap.size 47 [.string v.1, .int .i64 v.2] wr) (fun i _ => (recsD d.recs v).length - (intOf i).toNat)
        case atStart => exact ⟨0, rfl, Nat.zero_le _, HRx.out.congr fun f => ⟨.inl, fun h => h.elim id fun h => by obtain ⟨r', h', _⟩ := h; simp at h'⟩, HEx.out, HKx.out, HMx.out⟩
        case round =>
          obtain ⟨k', rfl, hk, hset, hme, hkp, hbx⟩ := hrel
          have HRr := Lib.hid hset
          have HEr := Lib.hid hme
          have HKr := Lib.hid hkp
          have HMr := Lib.hid hbx
          have hzr := hkp.size
          have hrl := hset.lt
          clear hset hme hkp hbx HKx HMx HRx HEx
          by_cases hlt : k' < (recsD d.recs v).length
          · obtain ⟨bq, hAq, hbq7, hbql, hat⟩ := (HFAR.out.kp HKr.out (fun b hb h => by have := h.2; omega)) (by omega)
            subst hAq
            have hg := List.getElem?_eq_getElem hlt
            have htk : (recsD d.recs v).take (k' + 1) = (recsD d.recs v).take k' ++ [(recsD d.recs v)[k']] := by rw [List.take_succ_eq_append_getElem hlt]
            have hmem := recsD_mem.1 (List.getElem_mem hlt)
            have HTK := Lib.hid htk
            generalize hq : (recsD d.recs v)[k'] = rr at *
            obtain ⟨hrd, hrv⟩ := hmem
            (have hcv := fun j (u : Value) (hj : (rr).cells[j]? = some u) => ((hat).get hg hj); have c0 := hcv 0 _ rfl; have c1 := hcv 1 _ rfl; have c2 := hcv 2 _ rfl; have c3 := hcv 3 _ rfl; have c4 := hcv 4 _ rfl; have c5 := hcv 5 _ rfl; have e12 : rcdK.n = 6 := rfl; simp only [e12, Nat.add_zero] at c0 c1 c2 c3 c4 c5; clear hcv e12)
            simp only [Nat.zero_add] at c0 c1 c2 c3 c4 c5
            have HRD := Lib.hid hrd
            have HRV := Lib.hid hrv
            have hhow := HC.out.hist.how rr hrd
            have hspan := HC.out.hist.span rr hrd
            have HSRC := Lib.hid (HC.out.hist.src rr hrd)
            have HBX := Lib.hid (Blk.new wr 51 rr.cells)
            have hb2 := (Below.refl wr.heap.size wr).alloc (Nat.le_refl _) (.cells rr.cells.toArray 51)
            have HK2 := Lib.hid (HKr.out.trans (kp_ms (s := s) hb2))
            have HM2 := Lib.hid (HMr.out.below hb2)
            have HR2 := Lib.hid (HRr.out.below hb2 hrl)
            have HE2 := Lib.hid (HEr.out.below hb2)
            have hz2 : (wr.alloc (.cells rr.cells.toArray 51)).heap.size = wr.heap.size + 1 := by simp
            obtain ⟨rs, rf, rl, rt, rn, rh⟩ := rr
            unfold Rcd.cells at HBX HK2 HM2 HR2 HE2 hz2
            dsimp only at *
            clear hat hg hq htk hrd hrv hb2 HKr HMr HRr HEr
            go_upto_region 14 with fail
            generalize World.alloc wr _ = w2 at *
            have hlb2 : r < w2.heap.size := by omega
            have hlw2 : w.heap.size ≤ w2.heap.size := by omega
            clear c0 c1 c2 c3 c4 c5 hz2
            obtain ⟨b0, b1, b2, b3, b4, b5⟩ := HBX.out.c6
            have hcs : (((rh == 1) = true ∧ (rh == 2) = false ∧ (rh == 4) = false ∧ (rh == 3) = false) ∨ ((rh == 1) = false ∧ (rh == 2) = true ∧ (rh == 4) = false ∧ (rh == 3) = false)) ∨ (((rh == 1) = false ∧ (rh == 2) = false ∧ (rh == 4) = false ∧ (rh == 3) = true) ∨ ((rh == 1) = false ∧ (rh == 2) = false ∧ (rh == 4) = true ∧ (rh == 3) = false)) := by
              rcases (show rh = 1 ∨ rh = 2 ∨ rh = 3 ∨ rh = 4 by omega) with rfl | rfl | rfl | rfl <;> simp
            clear hhow
            rcases hcs with (⟨g1, g2, g4, g3⟩ | ⟨g1, g2, g4, g3⟩) | (⟨g1, g2, g4, g3⟩ | ⟨g1, g2, g4, g3⟩)
            all_goals have HG := Lib.hid (And.intro g1 (And.intro g2 (And.intro g4 g3)))
            · have hsl1 := HSRC.out rl hspan.2 (Int.le_refl _)
              have hsl2 : rkD d.revs (rs, rl) < rkD d.revs v := by
                have h2 := HRV.out
                rw [← h2]
                exact hsl1.2
              have hcal := HCR.out (rs, rl) hsl1.1 (by omega) w2 _ _ _ (HL.out.kp HK2.out) HE2.out (fun f hf => hf.elim (fun h => Nat.lt_trans hsl2 (HNV.out f h)) fun e => by rw [e]; exact hsl2) (fun b hb => hb.elim (fun h => by have := HX.out b h; omega) (fun h => by omega))
              rw [show fileV (rs, rl) = .agg #[.string rs, .int .i64 rl] from rfl] at hcal
              clear hsl1 hsl2
              have HCA := Lib.hid hcal
              clear hcal
              go_wp2_with fail
              refine HCA.out.mono ?_
              rintro e w5 ⟨c, rfl, hc5, hcx, hcs, hme5, hkp5⟩
              have hz5 := hkp5.size
              have HK5 := Lib.hid (HK2.out.trans hkp5)
              have HM5 := Lib.hid (HM2.out.kp hkp5 (by unfold MS; omega))
              have HR5 := Lib.hid (HR2.out.kp hkp5 (by unfold MS; omega))
              have HE5 := Lib.hid hme5
              have HC5 := Lib.hid hcs
              have hcr : c ≠ r := fun e => hcx (.inr e)
              clear hc5 hcx hcs hme5 hkp5 HK2 HM2 HR2 HE2 HCA HBX b0 b1 b2 b3 b4 b5
              have hb6 := (Below.refl w5.heap.size w5).alloc (Nat.le_refl _) (.cells #[.map (some c)] 80)
              have HADD := Lib.hid (add_any r c w5.heap.size _ _ (w5.alloc (.cells #[.map (some c)] 80)) (HR5.out.below hb6 HR5.out.lt) (HC5.out.below hb6 HC5.out.lt) hcr (by simp [go_sem]))
              have HK6 := Lib.hid (HK5.out.alloc (.cells #[.map (some c)] 80))
              have HM6 := Lib.hid (HM5.out.below hb6)
              have HE6 := Lib.hid (HE5.out.below hb6)
              clear hb6 HK5 HM5 HE5 HR5 HC5
              go_wp2_with fail
              refine HADD.out.mono ?_
              rintro e w7 ⟨rfl, h7s, h7k⟩
              have HK7 := Lib.hid (HK6.out.fresh h7k fun b hb => by omega)
              have HM7 := Lib.hid (HM6.out.kp h7k (by omega))
              have HE7 := Lib.hid (HE6.out.keep h7k fun b hb => ⟨.inr hb, by omega⟩)
              have HS7 := Lib.hid h7s
              clear h7s h7k HK6 HM6 HE6 HADD
              go_wp2_with fail
              go_roundw
              case rel => exact ⟨k' + 1, by go_num, by omega, HS7.out.congr fun f => by rw [HTK.out]; exact (or_assoc.trans (or_congr Iff.rfl (recN_copy (r := ⟨rs, rf, rl, rt, rn, rh⟩) (eq_of_beq HG.out.1) f).symm)), HE7.out, HK7.out, HM7.out⟩
              case measure => simp [intOf]; omega
            · have hcal := off_any d s k HC.out HCO.out ⟨rs, rf, rl, rt, rn, rh⟩ HRD.out (by rw [HRV.out]; omega) w2 _ _ _ (HL.out.kp HK2.out) HE2.out (fun f hf => by rw [HRV.out]; exact hf.elim (fun h => Nat.le_of_lt (HNV.out f h)) fun e => by rw [e]; exact Nat.le_refl _) (fun b hb => hb.elim (fun h => by have := HX.out b h; omega) (fun h => by omega))
              rw [show (⟨rs, rf, rl, rt, rn, rh⟩ : Rcd).val = .agg #[.string rs, .int .i64 rf, .int .i64 rl, .string rt, .int .i64 rn, .int .i64 rh] from rfl] at hcal
              have HCA := Lib.hid hcal
              clear hcal
              go_wp2_with fail
              refine HCA.out.mono ?_
              rintro e w5 ⟨c, rfl, hc5, hcx, hcs, hme5, hkp5⟩
              have hz5 := hkp5.size
              have HK5 := Lib.hid (HK2.out.trans hkp5)
              have HM5 := Lib.hid (HM2.out.kp hkp5 (by unfold MS; omega))
              have HR5 := Lib.hid (HR2.out.kp hkp5 (by unfold MS; omega))
              have HE5 := Lib.hid hme5
              have HC5 := Lib.hid hcs
              have hcr : c ≠ r := fun e => hcx (.inr e)
              clear hc5 hcx hcs hme5 hkp5 HK2 HM2 HR2 HE2 HCA HBX b0 b1 b2 b3 b4 b5
              have hb6 := (Below.refl w5.heap.size w5).alloc (Nat.le_refl _) (.cells #[.map (some c)] 80)
              have HADD := Lib.hid (add_any r c w5.heap.size _ _ (w5.alloc (.cells #[.map (some c)] 80)) (HR5.out.below hb6 HR5.out.lt) (HC5.out.below hb6 HC5.out.lt) hcr (by simp [go_sem]))
              have HK6 := Lib.hid (HK5.out.alloc (.cells #[.map (some c)] 80))
              have HM6 := Lib.hid (HM5.out.below hb6)
              have HE6 := Lib.hid (HE5.out.below hb6)
              clear hb6 HK5 HM5 HE5 HR5 HC5
              go_wp2_with fail
              refine HADD.out.mono ?_
              rintro e w7 ⟨rfl, h7s, h7k⟩
              have HK7 := Lib.hid (HK6.out.fresh h7k fun b hb => by omega)
              have HM7 := Lib.hid (HM6.out.kp h7k (by omega))
              have HE7 := Lib.hid (HE6.out.keep h7k fun b hb => ⟨.inr hb, by omega⟩)
              have HS7 := Lib.hid h7s
              clear h7s h7k HK6 HM6 HE6 HADD
              go_wp2_with fail
              go_roundw
              case rel => exact ⟨k' + 1, by go_num, by omega, HS7.out.congr fun f => by rw [HTK.out]; exact (or_assoc.trans (or_congr Iff.rfl (recN_off (r := ⟨rs, rf, rl, rt, rn, rh⟩) (.inl (eq_of_beq HG.out.2.1)) f).symm)), HE7.out, HK7.out, HM7.out⟩
              case measure => simp [intOf]; omega
            · go_wp2_with fail
              go_roundw
              case rel => exact ⟨k' + 1, by go_num, by omega, HR2.out.congr fun f => by rw [HTK.out]; exact or_congr Iff.rfl (recN_no (r := ⟨rs, rf, rl, rt, rn, rh⟩) (fun h => (show rh = 1 ∨ rh = 2 ∨ rh = 4 from h).elim (fun e => by have := HG.out.1; simp [e] at this) fun h => h.elim (fun e => by have := HG.out.2.1; simp [e] at this) fun e => by have := HG.out.2.2.1; simp [e] at this) f).symm, HE2.out, HK2.out, HM2.out⟩
              case measure => simp [intOf]; omega
            · have hcal := off_any d s k HC.out HCO.out ⟨rs, rf, rl, rt, rn, rh⟩ HRD.out (by rw [HRV.out]; omega) w2 _ _ _ (HL.out.kp HK2.out) HE2.out (fun f hf => by rw [HRV.out]; exact hf.elim (fun h => Nat.le_of_lt (HNV.out f h)) fun e => by rw [e]; exact Nat.le_refl _) (fun b hb => hb.elim (fun h => by have := HX.out b h; omega) (fun h => by omega))
              rw [show (⟨rs, rf, rl, rt, rn, rh⟩ : Rcd).val = .agg #[.string rs, .int .i64 rf, .int .i64 rl, .string rt, .int .i64 rn, .int .i64 rh] from rfl] at hcal
              have HCA := Lib.hid hcal
              clear hcal
              go_wp2_with fail
              refine HCA.out.mono ?_
              rintro e w5 ⟨c, rfl, hc5, hcx, hcs, hme5, hkp5⟩
              have hz5 := hkp5.size
              have HK5 := Lib.hid (HK2.out.trans hkp5)
              have HM5 := Lib.hid (HM2.out.kp hkp5 (by unfold MS; omega))
              have HR5 := Lib.hid (HR2.out.kp hkp5 (by unfold MS; omega))
              have HE5 := Lib.hid hme5
              have HC5 := Lib.hid hcs
              have hcr : c ≠ r := fun e => hcx (.inr e)
              clear hc5 hcx hcs hme5 hkp5 HK2 HM2 HR2 HE2 HCA HBX b0 b1 b2 b3 b4 b5
              have hb6 := (Below.refl w5.heap.size w5).alloc (Nat.le_refl _) (.cells #[.map (some c)] 80)
              have HADD := Lib.hid (add_any r c w5.heap.size _ _ (w5.alloc (.cells #[.map (some c)] 80)) (HR5.out.below hb6 HR5.out.lt) (HC5.out.below hb6 HC5.out.lt) hcr (by simp [go_sem]))
              have HK6 := Lib.hid (HK5.out.alloc (.cells #[.map (some c)] 80))
              have HM6 := Lib.hid (HM5.out.below hb6)
              have HE6 := Lib.hid (HE5.out.below hb6)
              clear hb6 HK5 HM5 HE5 HR5 HC5
              go_wp2_with fail
              refine HADD.out.mono ?_
              rintro e w7 ⟨rfl, h7s, h7k⟩
              have HK7 := Lib.hid (HK6.out.fresh h7k fun b hb => by omega)
              have HM7 := Lib.hid (HM6.out.kp h7k (by omega))
              have HE7 := Lib.hid (HE6.out.keep h7k fun b hb => ⟨.inr hb, by omega⟩)
              have HS7 := Lib.hid h7s
              clear h7s h7k HK6 HM6 HE6 HADD
              go_wp2_with fail
              go_roundw
              case rel => exact ⟨k' + 1, by go_num, by omega, HS7.out.congr fun f => by rw [HTK.out]; exact (or_assoc.trans (or_congr Iff.rfl (recN_off (r := ⟨rs, rf, rl, rt, rn, rh⟩) (.inr (eq_of_beq HG.out.2.2.1)) f).symm)), HE7.out, HK7.out, HM7.out⟩
              case measure => simp [intOf]; omega
          · obtain rfl : k' = (recsD d.recs v).length := by omega
            have hset := HRr.out
            rw [List.take_length] at hset
            have hs9 : SetIs r (tabD d v).car wr := hset.congr fun f => (carN HC.out.hist HM.out f).symm
            have HS9 := Lib.hid hs9
            have hlbr : s + 6 < wr.heap.size := (HL.out.kp HKr.out).lb
            have HLr := Lib.hid (HL.out.kp HKr.out)
            clear hset hs9 HRr
            go_upto_region 21 with fail
            obtain ⟨L9, hk9, hm9⟩ := HEr.out.car
            have HKM9 := Lib.hid hk9
            have HMS9 := Lib.hid hm9
            have hsr9 := hk9.lt
            have hS : Below wr.heap.size wr wr.drew := (Below.refl _ _).drew
            (refine wp_region_mixz (S := Below wr.heap.size wr) [0, 1, 2, 3, 4, 5] 6 [] (by kernel_rfl) (by kernel_rfl) (by intro c a d v w h; cases d <;> exact h) hS ?_; have hN : Nonempty (Held (Below wr.heap.size wr)) := ⟨⟨_, hS⟩⟩)
            obtain ⟨q0, q1⟩ := fun_and2 (fun y : Held (Below wr.heap.size wr) => (HMr.out.below y.ok).c2)
            have l0 : ∀ y : Held (Below wr.heap.size wr), y.w.cell? ⟨s + 6, 3, none⟩ = some (.map (some (s + 3))) := fun y => (HLr.out.below y.ok).blk.cell 3
            (unfold wpMixZ wpRd; (repeat (first | simp only [List.filterMap_cons] | simp only [List.filterMap_nil] | simp only [List.getElem?_toArray] | simp only [List.getElem?_cons_zero] | simp only [List.getElem?_cons_succ])); (try dsimp only); change wpQuiet _ _ _ _ (_ :: _ :: _ :: _ :: _ :: _ :: []) _; (repeat (go_big_quiet_step (fail))); refine wpQuiet_nil ?_; (try dsimp only))
            clear q0 q1 l0 hk9 hm9
            refine wpList_kput rfl _ _ _ 73 rfl 80 Tryz.underlying73 (s + 3) L9 rfl HKM9.out.drew v rfl hvo (.map (some r)) rfl ?_
            intro w9 hm9 hg9 hs9
            clear hs9
            have HE10 : Hid (SetIs r (tabD d v).car w9 ∧ Memo d s Nc Ne X w9 ∧ Kp (MS s) w w9) := by
              have hr9 := HS9.out.of_block (w' := w9) (hg9.block r HS9.out.lt (fun e => by injection e; omega))
              have hdr : wr.grownBy w9 (some (s + 3)) := ⟨hg9.os, hg9.tape, hg9.output, hg9.size, hg9.block⟩
              refine ⟨hr9, (HEr.out.use (Y := X) fun b _ h => .inl h).carried hdr hm9 ((HMS9.out.use (Y := X) fun b _ h => .inl h).finish (fun h => absurd (HNV.out v h) (Nat.lt_irrefl _)) HS9.out (by omega) (fun h => by have := HX.out r h; omega)), HKr.out.trans (.of_grown hdr fun b e => by injection e with e; unfold MS; omega)⟩
            clear hm9 hg9
            go_wp2_with fail
            go_ret
            exact ⟨r, rfl, by omega, fun h => by have := HX.out r h; omega, HE10.out.1, HE10.out.2.1, HE10.out.2.2⟩
    · have HO := Lib.hid ho
      clear ho
      obtain ⟨q0, q1⟩ := HM5.out.c2
      have HMx := HM5
      obtain ⟨L5, hk5, hl5⟩ := HR5.out
      have HL5 := Lib.hid hl5
      clear hl5
      go_upto_region 8 with (at_mapUpdate; refine wpList_kput rfl _ _ _ 80 rfl 4 Tryz.underlying80 r _ rfl hk5 v rfl hvo _ rfl ?_; intro w6 hm6 hg6 hs6)
      have HK6 := Lib.hid (HK5.out.fresh (Kp.of_grown (S := (· = r)) hg6 fun b e => by injection e with e; exact e.symm) fun b hb => by omega)
      have HM6 := Lib.hid (HM5.out.grown hg6 (fun e => by injection e; omega))
      have HE6 := Lib.hid (HE5.out.keep (Kp.of_grown (S := (· = r)) hg6 fun b e => by injection e with e; exact e.symm) fun b hb => ⟨.inr hb, by omega⟩)
      have HR6 : Hid (SetIs r (fun f => origD d.recs v = true ∧ f = v) w6) := (SetIs.kput hm6 HL5.out).congr fun f => ⟨fun h => h.elim (fun h => h.elim) fun h => ⟨HO.out, h⟩, fun h => .inr h.2⟩
      have hz6 := hg6.size
      clear hm6 hg6 hs6 hk5 HL5 HK5 HM5 HE5 HR5 q0 q1 HMx HO
      generalize w6 = w4 at *
      obtain ⟨q0, q1⟩ := HM6.out.c2
      go_wp2_with fail
      refine (HPV.out _ (HL.out.kp HK6.out)).mono ?_
      rintro e w5 ⟨⟨⟨up, un⟩, rfl, hu⟩, hb5⟩
      obtain ⟨ob, hob⟩ : ∃ ob, (prevF d.revs v).isSome = ob := ⟨_, rfl⟩
      rw [hob]
      have HOB := Lib.hid hob
      clear hob
      have hz5 := hb5.size
      have HK5 := Lib.hid (HK6.out.trans (kp_ms (s := s) hb5))
      have HM5 := Lib.hid (HM6.out.below hb5)
      have HR5 := Lib.hid (HR6.out.below hb5 HR6.out.lt)
      have HE5 := Lib.hid (HE6.out.below hb5)
      have HU := Lib.hid hu
      clear hu hb5 q0 q1 HK6 HM6 HR6 HE6
      unfold fileV
      dsimp only
      have hb6 := (Below.refl w5.heap.size w5).alloc (Nat.le_refl _) (.cells #[.string up, .int .i64 un] 47)
      have HK6 := Lib.hid (HK5.out.alloc (.cells #[.string up, .int .i64 un] 47))
      have HM6 := Lib.hid (HM5.out.below hb6)
      have HR6 := Lib.hid (HR5.out.below hb6 HR5.out.lt)
      have HE6 := Lib.hid (HE5.out.below hb6)
      have HU6 := Lib.hid (Blk.new w5 47 [.string up, .int .i64 un])
      have hz6 : (w5.alloc (.cells #[.string up, .int .i64 un] 47)).heap.size = w5.heap.size + 1 := by simp
      clear hb6 HK5 HM5 HR5 HE5
      cases ob with
      | false =>
        have hp : prevF d.revs v = none := by simpa using HOB.out
        have HP := Lib.hid hp
        clear hp
        go_upto_region 11 with fail
        generalize World.alloc w5 _ = w9 at *
        have HK9 := HK6
        have HM9 := HM6
        have HE9 := HE6
        have HR9 := Lib.hid (HR6.out.congr fun f => show _ ↔ ((origD d.recs v = true ∧ f = v) ∨ BefS d v f) from ⟨.inl, fun h => h.elim id fun ⟨u, h, _⟩ => by rw [HP.out] at h; cases h⟩)
        have hrl9 : r < w9.heap.size := HR9.out.lt
        clear HK6 HM6 HE6 HR6 HU6 HU hz6 HP
        have hlb9 : s + 6 < w9.heap.size := (HL.out.kp HK9.out).lb
        have HL9 := Lib.hid (HL.out.kp HK9.out)
        have hS : Below w9.heap.size w9 w9.drew := (Below.refl _ _).drew
        have LK : ∀ x, Below w9.heap.size w9 x → (Instr.lookup 72 (.map (some (s + 2))) (.agg #[.string v.1, .int .i64 v.2]) false).run Tryz.prog x = .ok (.slice A (recsD d.recs v).length cA) x := fun x hx => by
          rw [← HGF.out]
          exact ((HKR.out.kp HK9.out (by unfold MS; omega)).below hx (by omega)).run_get Tryz.underlying72 (zeroRecs _) (x := v) hvo false
        (refine wp_region_s (S := Below w9.heap.size w9) (by kernel_rfl) (by kernel_rfl) hS ?_; have hN : Nonempty (Held (Below w9.heap.size w9)) := ⟨⟨_, hS⟩⟩; (obtain ⟨q0, q1⟩ := fun_and2 (fun y : Held (Below w9.heap.size w9) => (HM9.out.below y.ok).c2); have l0 : ∀ y : Held (Below w9.heap.size w9), y.w.cell? ⟨s + 6, 2, none⟩ = some (.map (some (s + 2))) := fun y => (HL9.out.below y.ok).blk.cell 2; have lk := fun y : Held (Below w9.heap.size w9) => LK y.w y.ok; clear LK); (repeat (go_big_quiet_step (fail))); refine wpQuiet_nil ?_; rintro x ⟨⟨_, hx⟩, rfl⟩; clear hN)
        clear q0 q1 l0 lk hS HL9
        have HKx := Lib.hid (HK9.out.trans (kp_ms (s := s) hx))
        have HMx := Lib.hid (HM9.out.below hx)
        have HRx := Lib.hid (HR9.out.below hx hrl9)
        have HEx := Lib.hid (HE9.out.below hx)
        clear hx HK9 HM9 HR9 HE9
        go_wp2_with fail
        go_loopw [54] (fun i wr => ∃ k' : Nat, i = .int .i64 k' ∧ k' ≤ (recsD d.recs v).length ∧ SetIs r (fun f => ((origD d.recs v = true ∧ f = v) ∨ BefS d v f) ∨ RecN d ((recsD d.recs v).take k') f) wr ∧ Memo d s (fun f => Nc f ∨ f = v) Ne (fun b => X b ∨ b = r) wr ∧ Kp (MS s) w wr ∧ Blk w.heap.size 47 [.string v.1, .int .i64 v.2] wr) (fun i _ => (recsD d.recs v).length - (intOf i).toNat)
        case atStart => exact ⟨0, rfl, Nat.zero_le _, HRx.out.congr fun f => ⟨.inl, fun h => h.elim id fun h => by obtain ⟨r', h', _⟩ := h; simp at h'⟩, HEx.out, HKx.out, HMx.out⟩
        case round =>
          obtain ⟨k', rfl, hk, hset, hme, hkp, hbx⟩ := hrel
          have HRr := Lib.hid hset
          have HEr := Lib.hid hme
          have HKr := Lib.hid hkp
          have HMr := Lib.hid hbx
          have hzr := hkp.size
          have hrl := hset.lt
          clear hset hme hkp hbx HKx HMx HRx HEx
          by_cases hlt : k' < (recsD d.recs v).length
          · obtain ⟨bq, hAq, hbq7, hbql, hat⟩ := (HFAR.out.kp HKr.out (fun b hb h => by have := h.2; omega)) (by omega)
            subst hAq
            have hg := List.getElem?_eq_getElem hlt
            have htk : (recsD d.recs v).take (k' + 1) = (recsD d.recs v).take k' ++ [(recsD d.recs v)[k']] := by rw [List.take_succ_eq_append_getElem hlt]
            have hmem := recsD_mem.1 (List.getElem_mem hlt)
            have HTK := Lib.hid htk
            generalize hq : (recsD d.recs v)[k'] = rr at *
            obtain ⟨hrd, hrv⟩ := hmem
            (have hcv := fun j (u : Value) (hj : (rr).cells[j]? = some u) => ((hat).get hg hj); have c0 := hcv 0 _ rfl; have c1 := hcv 1 _ rfl; have c2 := hcv 2 _ rfl; have c3 := hcv 3 _ rfl; have c4 := hcv 4 _ rfl; have c5 := hcv 5 _ rfl; have e12 : rcdK.n = 6 := rfl; simp only [e12, Nat.add_zero] at c0 c1 c2 c3 c4 c5; clear hcv e12)
            simp only [Nat.zero_add] at c0 c1 c2 c3 c4 c5
            have HRD := Lib.hid hrd
            have HRV := Lib.hid hrv
            have hhow := HC.out.hist.how rr hrd
            have hspan := HC.out.hist.span rr hrd
            have HSRC := Lib.hid (HC.out.hist.src rr hrd)
            have HBX := Lib.hid (Blk.new wr 51 rr.cells)
            have hb2 := (Below.refl wr.heap.size wr).alloc (Nat.le_refl _) (.cells rr.cells.toArray 51)
            have HK2 := Lib.hid (HKr.out.trans (kp_ms (s := s) hb2))
            have HM2 := Lib.hid (HMr.out.below hb2)
            have HR2 := Lib.hid (HRr.out.below hb2 hrl)
            have HE2 := Lib.hid (HEr.out.below hb2)
            have hz2 : (wr.alloc (.cells rr.cells.toArray 51)).heap.size = wr.heap.size + 1 := by simp
            obtain ⟨rs, rf, rl, rt, rn, rh⟩ := rr
            unfold Rcd.cells at HBX HK2 HM2 HR2 HE2 hz2
            dsimp only at *
            clear hat hg hq htk hrd hrv hb2 HKr HMr HRr HEr
            go_upto_region 14 with fail
            generalize World.alloc wr _ = w2 at *
            have hlb2 : r < w2.heap.size := by omega
            have hlw2 : w.heap.size ≤ w2.heap.size := by omega
            clear c0 c1 c2 c3 c4 c5 hz2
            obtain ⟨b0, b1, b2, b3, b4, b5⟩ := HBX.out.c6
            have hcs : (((rh == 1) = true ∧ (rh == 2) = false ∧ (rh == 4) = false ∧ (rh == 3) = false) ∨ ((rh == 1) = false ∧ (rh == 2) = true ∧ (rh == 4) = false ∧ (rh == 3) = false)) ∨ (((rh == 1) = false ∧ (rh == 2) = false ∧ (rh == 4) = false ∧ (rh == 3) = true) ∨ ((rh == 1) = false ∧ (rh == 2) = false ∧ (rh == 4) = true ∧ (rh == 3) = false)) := by
              rcases (show rh = 1 ∨ rh = 2 ∨ rh = 3 ∨ rh = 4 by omega) with rfl | rfl | rfl | rfl <;> simp
            clear hhow
            rcases hcs with (⟨g1, g2, g4, g3⟩ | ⟨g1, g2, g4, g3⟩) | (⟨g1, g2, g4, g3⟩ | ⟨g1, g2, g4, g3⟩)
            all_goals have HG := Lib.hid (And.intro g1 (And.intro g2 (And.intro g4 g3)))
            · have hsl1 := HSRC.out rl hspan.2 (Int.le_refl _)
              have hsl2 : rkD d.revs (rs, rl) < rkD d.revs v := by
                have h2 := HRV.out
                rw [← h2]
                exact hsl1.2
              have hcal := HCR.out (rs, rl) hsl1.1 (by omega) w2 _ _ _ (HL.out.kp HK2.out) HE2.out (fun f hf => hf.elim (fun h => Nat.lt_trans hsl2 (HNV.out f h)) fun e => by rw [e]; exact hsl2) (fun b hb => hb.elim (fun h => by have := HX.out b h; omega) (fun h => by omega))
              rw [show fileV (rs, rl) = .agg #[.string rs, .int .i64 rl] from rfl] at hcal
              clear hsl1 hsl2
              have HCA := Lib.hid hcal
              clear hcal
              go_wp2_with fail
              refine HCA.out.mono ?_
              rintro e w5 ⟨c, rfl, hc5, hcx, hcs, hme5, hkp5⟩
              have hz5 := hkp5.size
              have HK5 := Lib.hid (HK2.out.trans hkp5)
              have HM5 := Lib.hid (HM2.out.kp hkp5 (by unfold MS; omega))
              have HR5 := Lib.hid (HR2.out.kp hkp5 (by unfold MS; omega))
              have HE5 := Lib.hid hme5
              have HC5 := Lib.hid hcs
              have hcr : c ≠ r := fun e => hcx (.inr e)
              clear hc5 hcx hcs hme5 hkp5 HK2 HM2 HR2 HE2 HCA HBX b0 b1 b2 b3 b4 b5
              have hb6 := (Below.refl w5.heap.size w5).alloc (Nat.le_refl _) (.cells #[.map (some c)] 80)
              have HADD := Lib.hid (add_any r c w5.heap.size _ _ (w5.alloc (.cells #[.map (some c)] 80)) (HR5.out.below hb6 HR5.out.lt) (HC5.out.below hb6 HC5.out.lt) hcr (by simp [go_sem]))
              have HK6 := Lib.hid (HK5.out.alloc (.cells #[.map (some c)] 80))
              have HM6 := Lib.hid (HM5.out.below hb6)
              have HE6 := Lib.hid (HE5.out.below hb6)
              clear hb6 HK5 HM5 HE5 HR5 HC5
              go_wp2_with fail
              refine HADD.out.mono ?_
              rintro e w7 ⟨rfl, h7s, h7k⟩
              have HK7 := Lib.hid (HK6.out.fresh h7k fun b hb => by omega)
              have HM7 := Lib.hid (HM6.out.kp h7k (by omega))
              have HE7 := Lib.hid (HE6.out.keep h7k fun b hb => ⟨.inr hb, by omega⟩)
              have HS7 := Lib.hid h7s
              clear h7s h7k HK6 HM6 HE6 HADD
              go_wp2_with fail
              go_roundw
              case rel => exact ⟨k' + 1, by go_num, by omega, HS7.out.congr fun f => by rw [HTK.out]; exact (or_assoc.trans (or_congr Iff.rfl (recN_copy (r := ⟨rs, rf, rl, rt, rn, rh⟩) (eq_of_beq HG.out.1) f).symm)), HE7.out, HK7.out, HM7.out⟩
              case measure => simp [intOf]; omega
            · have hcal := off_any d s k HC.out HCO.out ⟨rs, rf, rl, rt, rn, rh⟩ HRD.out (by rw [HRV.out]; omega) w2 _ _ _ (HL.out.kp HK2.out) HE2.out (fun f hf => by rw [HRV.out]; exact hf.elim (fun h => Nat.le_of_lt (HNV.out f h)) fun e => by rw [e]; exact Nat.le_refl _) (fun b hb => hb.elim (fun h => by have := HX.out b h; omega) (fun h => by omega))
              rw [show (⟨rs, rf, rl, rt, rn, rh⟩ : Rcd).val = .agg #[.string rs, .int .i64 rf, .int .i64 rl, .string rt, .int .i64 rn, .int .i64 rh] from rfl] at hcal
              have HCA := Lib.hid hcal
              clear hcal
              go_wp2_with fail
              refine HCA.out.mono ?_
              rintro e w5 ⟨c, rfl, hc5, hcx, hcs, hme5, hkp5⟩
              have hz5 := hkp5.size
              have HK5 := Lib.hid (HK2.out.trans hkp5)
              have HM5 := Lib.hid (HM2.out.kp hkp5 (by unfold MS; omega))
              have HR5 := Lib.hid (HR2.out.kp hkp5 (by unfold MS; omega))
              have HE5 := Lib.hid hme5
              have HC5 := Lib.hid hcs
              have hcr : c ≠ r := fun e => hcx (.inr e)
              clear hc5 hcx hcs hme5 hkp5 HK2 HM2 HR2 HE2 HCA HBX b0 b1 b2 b3 b4 b5
              have hb6 := (Below.refl w5.heap.size w5).alloc (Nat.le_refl _) (.cells #[.map (some c)] 80)
              have HADD := Lib.hid (add_any r c w5.heap.size _ _ (w5.alloc (.cells #[.map (some c)] 80)) (HR5.out.below hb6 HR5.out.lt) (HC5.out.below hb6 HC5.out.lt) hcr (by simp [go_sem]))
              have HK6 := Lib.hid (HK5.out.alloc (.cells #[.map (some c)] 80))
              have HM6 := Lib.hid (HM5.out.below hb6)
              have HE6 := Lib.hid (HE5.out.below hb6)
              clear hb6 HK5 HM5 HE5 HR5 HC5
              go_wp2_with fail
              refine HADD.out.mono ?_
              rintro e w7 ⟨rfl, h7s, h7k⟩
              have HK7 := Lib.hid (HK6.out.fresh h7k fun b hb => by omega)
              have HM7 := Lib.hid (HM6.out.kp h7k (by omega))
              have HE7 := Lib.hid (HE6.out.keep h7k fun b hb => ⟨.inr hb, by omega⟩)
              have HS7 := Lib.hid h7s
              clear h7s h7k HK6 HM6 HE6 HADD
              go_wp2_with fail
              go_roundw
              case rel => exact ⟨k' + 1, by go_num, by omega, HS7.out.congr fun f => by rw [HTK.out]; exact (or_assoc.trans (or_congr Iff.rfl (recN_off (r := ⟨rs, rf, rl, rt, rn, rh⟩) (.inl (eq_of_beq HG.out.2.1)) f).symm)), HE7.out, HK7.out, HM7.out⟩
              case measure => simp [intOf]; omega
            · go_wp2_with fail
              go_roundw
              case rel => exact ⟨k' + 1, by go_num, by omega, HR2.out.congr fun f => by rw [HTK.out]; exact or_congr Iff.rfl (recN_no (r := ⟨rs, rf, rl, rt, rn, rh⟩) (fun h => (show rh = 1 ∨ rh = 2 ∨ rh = 4 from h).elim (fun e => by have := HG.out.1; simp [e] at this) fun h => h.elim (fun e => by have := HG.out.2.1; simp [e] at this) fun e => by have := HG.out.2.2.1; simp [e] at this) f).symm, HE2.out, HK2.out, HM2.out⟩
              case measure => simp [intOf]; omega
            · have hcal := off_any d s k HC.out HCO.out ⟨rs, rf, rl, rt, rn, rh⟩ HRD.out (by rw [HRV.out]; omega) w2 _ _ _ (HL.out.kp HK2.out) HE2.out (fun f hf => by rw [HRV.out]; exact hf.elim (fun h => Nat.le_of_lt (HNV.out f h)) fun e => by rw [e]; exact Nat.le_refl _) (fun b hb => hb.elim (fun h => by have := HX.out b h; omega) (fun h => by omega))
              rw [show (⟨rs, rf, rl, rt, rn, rh⟩ : Rcd).val = .agg #[.string rs, .int .i64 rf, .int .i64 rl, .string rt, .int .i64 rn, .int .i64 rh] from rfl] at hcal
              have HCA := Lib.hid hcal
              clear hcal
              go_wp2_with fail
              refine HCA.out.mono ?_
              rintro e w5 ⟨c, rfl, hc5, hcx, hcs, hme5, hkp5⟩
              have hz5 := hkp5.size
              have HK5 := Lib.hid (HK2.out.trans hkp5)
              have HM5 := Lib.hid (HM2.out.kp hkp5 (by unfold MS; omega))
              have HR5 := Lib.hid (HR2.out.kp hkp5 (by unfold MS; omega))
              have HE5 := Lib.hid hme5
              have HC5 := Lib.hid hcs
              have hcr : c ≠ r := fun e => hcx (.inr e)
              clear hc5 hcx hcs hme5 hkp5 HK2 HM2 HR2 HE2 HCA HBX b0 b1 b2 b3 b4 b5
              have hb6 := (Below.refl w5.heap.size w5).alloc (Nat.le_refl _) (.cells #[.map (some c)] 80)
              have HADD := Lib.hid (add_any r c w5.heap.size _ _ (w5.alloc (.cells #[.map (some c)] 80)) (HR5.out.below hb6 HR5.out.lt) (HC5.out.below hb6 HC5.out.lt) hcr (by simp [go_sem]))
              have HK6 := Lib.hid (HK5.out.alloc (.cells #[.map (some c)] 80))
              have HM6 := Lib.hid (HM5.out.below hb6)
              have HE6 := Lib.hid (HE5.out.below hb6)
              clear hb6 HK5 HM5 HE5 HR5 HC5
              go_wp2_with fail
              refine HADD.out.mono ?_
              rintro e w7 ⟨rfl, h7s, h7k⟩
              have HK7 := Lib.hid (HK6.out.fresh h7k fun b hb => by omega)
              have HM7 := Lib.hid (HM6.out.kp h7k (by omega))
              have HE7 := Lib.hid (HE6.out.keep h7k fun b hb => ⟨.inr hb, by omega⟩)
              have HS7 := Lib.hid h7s
              clear h7s h7k HK6 HM6 HE6 HADD
              go_wp2_with fail
              go_roundw
              case rel => exact ⟨k' + 1, by go_num, by omega, HS7.out.congr fun f => by rw [HTK.out]; exact (or_assoc.trans (or_congr Iff.rfl (recN_off (r := ⟨rs, rf, rl, rt, rn, rh⟩) (.inr (eq_of_beq HG.out.2.2.1)) f).symm)), HE7.out, HK7.out, HM7.out⟩
              case measure => simp [intOf]; omega
          · obtain rfl : k' = (recsD d.recs v).length := by omega
            have hset := HRr.out
            rw [List.take_length] at hset
            have hs9 : SetIs r (tabD d v).car wr := hset.congr fun f => (carN HC.out.hist HM.out f).symm
            have HS9 := Lib.hid hs9
            have hlbr : s + 6 < wr.heap.size := (HL.out.kp HKr.out).lb
            have HLr := Lib.hid (HL.out.kp HKr.out)
            clear hset hs9 HRr
            go_upto_region 21 with fail
            obtain ⟨L9, hk9, hm9⟩ := HEr.out.car
            have HKM9 := Lib.hid hk9
            have HMS9 := Lib.hid hm9
            have hsr9 := hk9.lt
            have hS : Below wr.heap.size wr wr.drew := (Below.refl _ _).drew
            (refine wp_region_mixz (S := Below wr.heap.size wr) [0, 1, 2, 3, 4, 5] 6 [] (by kernel_rfl) (by kernel_rfl) (by intro c a d v w h; cases d <;> exact h) hS ?_; have hN : Nonempty (Held (Below wr.heap.size wr)) := ⟨⟨_, hS⟩⟩)
            obtain ⟨q0, q1⟩ := fun_and2 (fun y : Held (Below wr.heap.size wr) => (HMr.out.below y.ok).c2)
            have l0 : ∀ y : Held (Below wr.heap.size wr), y.w.cell? ⟨s + 6, 3, none⟩ = some (.map (some (s + 3))) := fun y => (HLr.out.below y.ok).blk.cell 3
            (unfold wpMixZ wpRd; (repeat (first | simp only [List.filterMap_cons] | simp only [List.filterMap_nil] | simp only [List.getElem?_toArray] | simp only [List.getElem?_cons_zero] | simp only [List.getElem?_cons_succ])); (try dsimp only); change wpQuiet _ _ _ _ (_ :: _ :: _ :: _ :: _ :: _ :: []) _; (repeat (go_big_quiet_step (fail))); refine wpQuiet_nil ?_; (try dsimp only))
            clear q0 q1 l0 hk9 hm9
            refine wpList_kput rfl _ _ _ 73 rfl 80 Tryz.underlying73 (s + 3) L9 rfl HKM9.out.drew v rfl hvo (.map (some r)) rfl ?_
            intro w9 hm9 hg9 hs9
            clear hs9
            have HE10 : Hid (SetIs r (tabD d v).car w9 ∧ Memo d s Nc Ne X w9 ∧ Kp (MS s) w w9) := by
              have hr9 := HS9.out.of_block (w' := w9) (hg9.block r HS9.out.lt (fun e => by injection e; omega))
              have hdr : wr.grownBy w9 (some (s + 3)) := ⟨hg9.os, hg9.tape, hg9.output, hg9.size, hg9.block⟩
              refine ⟨hr9, (HEr.out.use (Y := X) fun b _ h => .inl h).carried hdr hm9 ((HMS9.out.use (Y := X) fun b _ h => .inl h).finish (fun h => absurd (HNV.out v h) (Nat.lt_irrefl _)) HS9.out (by omega) (fun h => by have := HX.out r h; omega)), HKr.out.trans (.of_grown hdr fun b e => by injection e with e; unfold MS; omega)⟩
            clear hm9 hg9
            go_wp2_with fail
            go_ret
            exact ⟨r, rfl, by omega, fun h => by have := HX.out r h; omega, HE10.out.1, HE10.out.2.1, HE10.out.2.2⟩
      | true =>
        obtain ⟨u', hp⟩ := Option.isSome_iff_exists.1 HOB.out
        obtain rfl : (up, un) = u' := HU.out u' hp
        have HP := Lib.hid hp
        have hum := (prevF_mem hp).1
        have hur := HC.out.hist.prev _ _ hp
        have hcar := HCR.out (up, un) hum (by omega) (w5.alloc (.cells #[.string up, .int .i64 un] 47)) _ _ _ (HL.out.kp HK6.out) HE6.out (fun f hf => hf.elim (fun h => by have := HNV.out f h; omega) fun e => by rw [e]; exact hur) (fun b hb => hb.elim (fun h => by have := HX.out b h; omega) (fun h => by omega))
        rw [show fileV (up, un) = .agg #[.string up, .int .i64 un] from rfl] at hcar
        have HCA := Lib.hid hcar
        obtain ⟨q0, q1⟩ := HU6.out.c2
        clear hp HU hcar
        have hlt6 : r < (w5.alloc (.cells #[.string up, .int .i64 un] 47)).heap.size := HR6.out.lt
        clear hz6
        go_upto_region 10 with fail
        generalize World.alloc w5 _ = w6 at *
        go_wp2_with fail
        refine HCA.out.mono ?_
        rintro e w7 ⟨c, rfl, hc7, hcx, hcs, hme7, hkp7⟩
        have hz7 := hkp7.size
        have HK7 := Lib.hid (HK6.out.trans hkp7)
        have HM7 := Lib.hid (HM6.out.kp hkp7 (by unfold MS; omega))
        have HR7 := Lib.hid (HR6.out.kp hkp7 (by unfold MS; omega))
        have HE7 := Lib.hid hme7
        have HC7 := Lib.hid hcs
        have hcr : c ≠ r := fun e => hcx (.inr e)
        clear hc7 hcx hcs hme7 hkp7 HK6 HM6 HR6 HE6 HU6 HCA q0 q1
        have hb8 := (Below.refl w7.heap.size w7).alloc (Nat.le_refl _) (.cells #[.map (some c)] 80)
        have HADD := Lib.hid (add_any r c w7.heap.size _ _ (w7.alloc (.cells #[.map (some c)] 80)) (HR7.out.below hb8 HR7.out.lt) (HC7.out.below hb8 HC7.out.lt) hcr (by simp [go_sem]))
        have HK8 := Lib.hid (HK7.out.alloc (.cells #[.map (some c)] 80))
        have HM8 := Lib.hid (HM7.out.below hb8)
        have HE8 := Lib.hid (HE7.out.below hb8)
        clear hb8 HK7 HM7 HE7 HR7 HC7
        go_wp2_with fail
        refine HADD.out.mono ?_
        rintro e w9 ⟨rfl, h9s, h9k⟩
        have HK9 := Lib.hid (HK8.out.fresh h9k fun b hb => by omega)
        have HM9 := Lib.hid (HM8.out.kp h9k (by omega))
        have HE9 := Lib.hid (HE8.out.keep h9k fun b hb => ⟨.inr hb, by omega⟩)
        have HR9 := Lib.hid (h9s.congr fun f => show _ ↔ ((origD d.recs v = true ∧ f = v) ∨ BefS d v f) from or_congr Iff.rfl ⟨fun h => ⟨_, HP.out, h⟩, fun ⟨u, h1, h2⟩ => by rw [HP.out] at h1; cases h1; exact h2⟩)
        have hrl9 : r < w9.heap.size := HR9.out.lt
        clear h9s h9k HK8 HM8 HE8 HADD
        go_upto_region 11 with fail
        have hlb9 : s + 6 < w9.heap.size := (HL.out.kp HK9.out).lb
        have HL9 := Lib.hid (HL.out.kp HK9.out)
        have hS : Below w9.heap.size w9 w9.drew := (Below.refl _ _).drew
        have LK : ∀ x, Below w9.heap.size w9 x → (Instr.lookup 72 (.map (some (s + 2))) (.agg #[.string v.1, .int .i64 v.2]) false).run Tryz.prog x = .ok (.slice A (recsD d.recs v).length cA) x := fun x hx => by
          rw [← HGF.out]
          exact ((HKR.out.kp HK9.out (by unfold MS; omega)).below hx (by omega)).run_get Tryz.underlying72 (zeroRecs _) (x := v) hvo false
        (refine wp_region_s (S := Below w9.heap.size w9) (by kernel_rfl) (by kernel_rfl) hS ?_; have hN : Nonempty (Held (Below w9.heap.size w9)) := ⟨⟨_, hS⟩⟩; (obtain ⟨q0, q1⟩ := fun_and2 (fun y : Held (Below w9.heap.size w9) => (HM9.out.below y.ok).c2); have l0 : ∀ y : Held (Below w9.heap.size w9), y.w.cell? ⟨s + 6, 2, none⟩ = some (.map (some (s + 2))) := fun y => (HL9.out.below y.ok).blk.cell 2; have lk := fun y : Held (Below w9.heap.size w9) => LK y.w y.ok; clear LK); (repeat (go_big_quiet_step (fail))); refine wpQuiet_nil ?_; rintro x ⟨⟨_, hx⟩, rfl⟩; clear hN)
        clear q0 q1 l0 lk hS HL9
        have HKx := Lib.hid (HK9.out.trans (kp_ms (s := s) hx))
        have HMx := Lib.hid (HM9.out.below hx)
        have HRx := Lib.hid (HR9.out.below hx hrl9)
        have HEx := Lib.hid (HE9.out.below hx)
        clear hx HK9 HM9 HR9 HE9
        go_wp2_with fail
        go_loopw [54] (fun i wr => ∃ k' : Nat, i = .int .i64 k' ∧ k' ≤ (recsD d.recs v).length ∧ SetIs r (fun f => ((origD d.recs v = true ∧ f = v) ∨ BefS d v f) ∨ RecN d ((recsD d.recs v).take k') f) wr ∧ Memo d s (fun f => Nc f ∨ f = v) Ne (fun b => X b ∨ b = r) wr ∧ Kp (MS s) w wr ∧ Blk w.heap.size 47 [.string v.1, .int .i64 v.2] wr) (fun i _ => (recsD d.recs v).length - (intOf i).toNat)
        case atStart => exact ⟨0, rfl, Nat.zero_le _, HRx.out.congr fun f => ⟨.inl, fun h => h.elim id fun h => by obtain ⟨r', h', _⟩ := h; simp at h'⟩, HEx.out, HKx.out, HMx.out⟩
        case round =>
          obtain ⟨k', rfl, hk, hset, hme, hkp, hbx⟩ := hrel
          have HRr := Lib.hid hset
          have HEr := Lib.hid hme
          have HKr := Lib.hid hkp
          have HMr := Lib.hid hbx
          have hzr := hkp.size
          have hrl := hset.lt
          clear hset hme hkp hbx HKx HMx HRx HEx
          by_cases hlt : k' < (recsD d.recs v).length
          · obtain ⟨bq, hAq, hbq7, hbql, hat⟩ := (HFAR.out.kp HKr.out (fun b hb h => by have := h.2; omega)) (by omega)
            subst hAq
            have hg := List.getElem?_eq_getElem hlt
            have htk : (recsD d.recs v).take (k' + 1) = (recsD d.recs v).take k' ++ [(recsD d.recs v)[k']] := by rw [List.take_succ_eq_append_getElem hlt]
            have hmem := recsD_mem.1 (List.getElem_mem hlt)
            have HTK := Lib.hid htk
            generalize hq : (recsD d.recs v)[k'] = rr at *
            obtain ⟨hrd, hrv⟩ := hmem
            (have hcv := fun j (u : Value) (hj : (rr).cells[j]? = some u) => ((hat).get hg hj); have c0 := hcv 0 _ rfl; have c1 := hcv 1 _ rfl; have c2 := hcv 2 _ rfl; have c3 := hcv 3 _ rfl; have c4 := hcv 4 _ rfl; have c5 := hcv 5 _ rfl; have e12 : rcdK.n = 6 := rfl; simp only [e12, Nat.add_zero] at c0 c1 c2 c3 c4 c5; clear hcv e12)
            simp only [Nat.zero_add] at c0 c1 c2 c3 c4 c5
            have HRD := Lib.hid hrd
            have HRV := Lib.hid hrv
            have hhow := HC.out.hist.how rr hrd
            have hspan := HC.out.hist.span rr hrd
            have HSRC := Lib.hid (HC.out.hist.src rr hrd)
            have HBX := Lib.hid (Blk.new wr 51 rr.cells)
            have hb2 := (Below.refl wr.heap.size wr).alloc (Nat.le_refl _) (.cells rr.cells.toArray 51)
            have HK2 := Lib.hid (HKr.out.trans (kp_ms (s := s) hb2))
            have HM2 := Lib.hid (HMr.out.below hb2)
            have HR2 := Lib.hid (HRr.out.below hb2 hrl)
            have HE2 := Lib.hid (HEr.out.below hb2)
            have hz2 : (wr.alloc (.cells rr.cells.toArray 51)).heap.size = wr.heap.size + 1 := by simp
            obtain ⟨rs, rf, rl, rt, rn, rh⟩ := rr
            unfold Rcd.cells at HBX HK2 HM2 HR2 HE2 hz2
            dsimp only at *
            clear hat hg hq htk hrd hrv hb2 HKr HMr HRr HEr
            go_upto_region 14 with fail
            generalize World.alloc wr _ = w2 at *
            have hlb2 : r < w2.heap.size := by omega
            have hlw2 : w.heap.size ≤ w2.heap.size := by omega
            clear c0 c1 c2 c3 c4 c5 hz2
            obtain ⟨b0, b1, b2, b3, b4, b5⟩ := HBX.out.c6
            have hcs : (((rh == 1) = true ∧ (rh == 2) = false ∧ (rh == 4) = false ∧ (rh == 3) = false) ∨ ((rh == 1) = false ∧ (rh == 2) = true ∧ (rh == 4) = false ∧ (rh == 3) = false)) ∨ (((rh == 1) = false ∧ (rh == 2) = false ∧ (rh == 4) = false ∧ (rh == 3) = true) ∨ ((rh == 1) = false ∧ (rh == 2) = false ∧ (rh == 4) = true ∧ (rh == 3) = false)) := by
              rcases (show rh = 1 ∨ rh = 2 ∨ rh = 3 ∨ rh = 4 by omega) with rfl | rfl | rfl | rfl <;> simp
            clear hhow
            rcases hcs with (⟨g1, g2, g4, g3⟩ | ⟨g1, g2, g4, g3⟩) | (⟨g1, g2, g4, g3⟩ | ⟨g1, g2, g4, g3⟩)
            all_goals have HG := Lib.hid (And.intro g1 (And.intro g2 (And.intro g4 g3)))
            · have hsl1 := HSRC.out rl hspan.2 (Int.le_refl _)
              have hsl2 : rkD d.revs (rs, rl) < rkD d.revs v := by
                have h2 := HRV.out
                rw [← h2]
                exact hsl1.2
              have hcal := HCR.out (rs, rl) hsl1.1 (by omega) w2 _ _ _ (HL.out.kp HK2.out) HE2.out (fun f hf => hf.elim (fun h => Nat.lt_trans hsl2 (HNV.out f h)) fun e => by rw [e]; exact hsl2) (fun b hb => hb.elim (fun h => by have := HX.out b h; omega) (fun h => by omega))
              rw [show fileV (rs, rl) = .agg #[.string rs, .int .i64 rl] from rfl] at hcal
              clear hsl1 hsl2
              have HCA := Lib.hid hcal
              clear hcal
              go_wp2_with fail
              refine HCA.out.mono ?_
              rintro e w5 ⟨c, rfl, hc5, hcx, hcs, hme5, hkp5⟩
              have hz5 := hkp5.size
              have HK5 := Lib.hid (HK2.out.trans hkp5)
              have HM5 := Lib.hid (HM2.out.kp hkp5 (by unfold MS; omega))
              have HR5 := Lib.hid (HR2.out.kp hkp5 (by unfold MS; omega))
              have HE5 := Lib.hid hme5
              have HC5 := Lib.hid hcs
              have hcr : c ≠ r := fun e => hcx (.inr e)
              clear hc5 hcx hcs hme5 hkp5 HK2 HM2 HR2 HE2 HCA HBX b0 b1 b2 b3 b4 b5
              have hb6 := (Below.refl w5.heap.size w5).alloc (Nat.le_refl _) (.cells #[.map (some c)] 80)
              have HADD := Lib.hid (add_any r c w5.heap.size _ _ (w5.alloc (.cells #[.map (some c)] 80)) (HR5.out.below hb6 HR5.out.lt) (HC5.out.below hb6 HC5.out.lt) hcr (by simp [go_sem]))
              have HK6 := Lib.hid (HK5.out.alloc (.cells #[.map (some c)] 80))
              have HM6 := Lib.hid (HM5.out.below hb6)
              have HE6 := Lib.hid (HE5.out.below hb6)
              clear hb6 HK5 HM5 HE5 HR5 HC5
              go_wp2_with fail
              refine HADD.out.mono ?_
              rintro e w7 ⟨rfl, h7s, h7k⟩
              have HK7 := Lib.hid (HK6.out.fresh h7k fun b hb => by omega)
              have HM7 := Lib.hid (HM6.out.kp h7k (by omega))
              have HE7 := Lib.hid (HE6.out.keep h7k fun b hb => ⟨.inr hb, by omega⟩)
              have HS7 := Lib.hid h7s
              clear h7s h7k HK6 HM6 HE6 HADD
              go_wp2_with fail
              go_roundw
              case rel => exact ⟨k' + 1, by go_num, by omega, HS7.out.congr fun f => by rw [HTK.out]; exact (or_assoc.trans (or_congr Iff.rfl (recN_copy (r := ⟨rs, rf, rl, rt, rn, rh⟩) (eq_of_beq HG.out.1) f).symm)), HE7.out, HK7.out, HM7.out⟩
              case measure => simp [intOf]; omega
            · have hcal := off_any d s k HC.out HCO.out ⟨rs, rf, rl, rt, rn, rh⟩ HRD.out (by rw [HRV.out]; omega) w2 _ _ _ (HL.out.kp HK2.out) HE2.out (fun f hf => by rw [HRV.out]; exact hf.elim (fun h => Nat.le_of_lt (HNV.out f h)) fun e => by rw [e]; exact Nat.le_refl _) (fun b hb => hb.elim (fun h => by have := HX.out b h; omega) (fun h => by omega))
              rw [show (⟨rs, rf, rl, rt, rn, rh⟩ : Rcd).val = .agg #[.string rs, .int .i64 rf, .int .i64 rl, .string rt, .int .i64 rn, .int .i64 rh] from rfl] at hcal
              have HCA := Lib.hid hcal
              clear hcal
              go_wp2_with fail
              refine HCA.out.mono ?_
              rintro e w5 ⟨c, rfl, hc5, hcx, hcs, hme5, hkp5⟩
              have hz5 := hkp5.size
              have HK5 := Lib.hid (HK2.out.trans hkp5)
              have HM5 := Lib.hid (HM2.out.kp hkp5 (by unfold MS; omega))
              have HR5 := Lib.hid (HR2.out.kp hkp5 (by unfold MS; omega))
              have HE5 := Lib.hid hme5
              have HC5 := Lib.hid hcs
              have hcr : c ≠ r := fun e => hcx (.inr e)
              clear hc5 hcx hcs hme5 hkp5 HK2 HM2 HR2 HE2 HCA HBX b0 b1 b2 b3 b4 b5
              have hb6 := (Below.refl w5.heap.size w5).alloc (Nat.le_refl _) (.cells #[.map (some c)] 80)
              have HADD := Lib.hid (add_any r c w5.heap.size _ _ (w5.alloc (.cells #[.map (some c)] 80)) (HR5.out.below hb6 HR5.out.lt) (HC5.out.below hb6 HC5.out.lt) hcr (by simp [go_sem]))
              have HK6 := Lib.hid (HK5.out.alloc (.cells #[.map (some c)] 80))
              have HM6 := Lib.hid (HM5.out.below hb6)
              have HE6 := Lib.hid (HE5.out.below hb6)
              clear hb6 HK5 HM5 HE5 HR5 HC5
              go_wp2_with fail
              refine HADD.out.mono ?_
              rintro e w7 ⟨rfl, h7s, h7k⟩
              have HK7 := Lib.hid (HK6.out.fresh h7k fun b hb => by omega)
              have HM7 := Lib.hid (HM6.out.kp h7k (by omega))
              have HE7 := Lib.hid (HE6.out.keep h7k fun b hb => ⟨.inr hb, by omega⟩)
              have HS7 := Lib.hid h7s
              clear h7s h7k HK6 HM6 HE6 HADD
              go_wp2_with fail
              go_roundw
              case rel => exact ⟨k' + 1, by go_num, by omega, HS7.out.congr fun f => by rw [HTK.out]; exact (or_assoc.trans (or_congr Iff.rfl (recN_off (r := ⟨rs, rf, rl, rt, rn, rh⟩) (.inl (eq_of_beq HG.out.2.1)) f).symm)), HE7.out, HK7.out, HM7.out⟩
              case measure => simp [intOf]; omega
            · go_wp2_with fail
              go_roundw
              case rel => exact ⟨k' + 1, by go_num, by omega, HR2.out.congr fun f => by rw [HTK.out]; exact or_congr Iff.rfl (recN_no (r := ⟨rs, rf, rl, rt, rn, rh⟩) (fun h => (show rh = 1 ∨ rh = 2 ∨ rh = 4 from h).elim (fun e => by have := HG.out.1; simp [e] at this) fun h => h.elim (fun e => by have := HG.out.2.1; simp [e] at this) fun e => by have := HG.out.2.2.1; simp [e] at this) f).symm, HE2.out, HK2.out, HM2.out⟩
              case measure => simp [intOf]; omega
            · have hcal := off_any d s k HC.out HCO.out ⟨rs, rf, rl, rt, rn, rh⟩ HRD.out (by rw [HRV.out]; omega) w2 _ _ _ (HL.out.kp HK2.out) HE2.out (fun f hf => by rw [HRV.out]; exact hf.elim (fun h => Nat.le_of_lt (HNV.out f h)) fun e => by rw [e]; exact Nat.le_refl _) (fun b hb => hb.elim (fun h => by have := HX.out b h; omega) (fun h => by omega))
              rw [show (⟨rs, rf, rl, rt, rn, rh⟩ : Rcd).val = .agg #[.string rs, .int .i64 rf, .int .i64 rl, .string rt, .int .i64 rn, .int .i64 rh] from rfl] at hcal
              have HCA := Lib.hid hcal
              clear hcal
              go_wp2_with fail
              refine HCA.out.mono ?_
              rintro e w5 ⟨c, rfl, hc5, hcx, hcs, hme5, hkp5⟩
              have hz5 := hkp5.size
              have HK5 := Lib.hid (HK2.out.trans hkp5)
              have HM5 := Lib.hid (HM2.out.kp hkp5 (by unfold MS; omega))
              have HR5 := Lib.hid (HR2.out.kp hkp5 (by unfold MS; omega))
              have HE5 := Lib.hid hme5
              have HC5 := Lib.hid hcs
              have hcr : c ≠ r := fun e => hcx (.inr e)
              clear hc5 hcx hcs hme5 hkp5 HK2 HM2 HR2 HE2 HCA HBX b0 b1 b2 b3 b4 b5
              have hb6 := (Below.refl w5.heap.size w5).alloc (Nat.le_refl _) (.cells #[.map (some c)] 80)
              have HADD := Lib.hid (add_any r c w5.heap.size _ _ (w5.alloc (.cells #[.map (some c)] 80)) (HR5.out.below hb6 HR5.out.lt) (HC5.out.below hb6 HC5.out.lt) hcr (by simp [go_sem]))
              have HK6 := Lib.hid (HK5.out.alloc (.cells #[.map (some c)] 80))
              have HM6 := Lib.hid (HM5.out.below hb6)
              have HE6 := Lib.hid (HE5.out.below hb6)
              clear hb6 HK5 HM5 HE5 HR5 HC5
              go_wp2_with fail
              refine HADD.out.mono ?_
              rintro e w7 ⟨rfl, h7s, h7k⟩
              have HK7 := Lib.hid (HK6.out.fresh h7k fun b hb => by omega)
              have HM7 := Lib.hid (HM6.out.kp h7k (by omega))
              have HE7 := Lib.hid (HE6.out.keep h7k fun b hb => ⟨.inr hb, by omega⟩)
              have HS7 := Lib.hid h7s
              clear h7s h7k HK6 HM6 HE6 HADD
              go_wp2_with fail
              go_roundw
              case rel => exact ⟨k' + 1, by go_num, by omega, HS7.out.congr fun f => by rw [HTK.out]; exact (or_assoc.trans (or_congr Iff.rfl (recN_off (r := ⟨rs, rf, rl, rt, rn, rh⟩) (.inr (eq_of_beq HG.out.2.2.1)) f).symm)), HE7.out, HK7.out, HM7.out⟩
              case measure => simp [intOf]; omega
          · obtain rfl : k' = (recsD d.recs v).length := by omega
            have hset := HRr.out
            rw [List.take_length] at hset
            have hs9 : SetIs r (tabD d v).car wr := hset.congr fun f => (carN HC.out.hist HM.out f).symm
            have HS9 := Lib.hid hs9
            have hlbr : s + 6 < wr.heap.size := (HL.out.kp HKr.out).lb
            have HLr := Lib.hid (HL.out.kp HKr.out)
            clear hset hs9 HRr
            go_upto_region 21 with fail
            obtain ⟨L9, hk9, hm9⟩ := HEr.out.car
            have HKM9 := Lib.hid hk9
            have HMS9 := Lib.hid hm9
            have hsr9 := hk9.lt
            have hS : Below wr.heap.size wr wr.drew := (Below.refl _ _).drew
            (refine wp_region_mixz (S := Below wr.heap.size wr) [0, 1, 2, 3, 4, 5] 6 [] (by kernel_rfl) (by kernel_rfl) (by intro c a d v w h; cases d <;> exact h) hS ?_; have hN : Nonempty (Held (Below wr.heap.size wr)) := ⟨⟨_, hS⟩⟩)
            obtain ⟨q0, q1⟩ := fun_and2 (fun y : Held (Below wr.heap.size wr) => (HMr.out.below y.ok).c2)
            have l0 : ∀ y : Held (Below wr.heap.size wr), y.w.cell? ⟨s + 6, 3, none⟩ = some (.map (some (s + 3))) := fun y => (HLr.out.below y.ok).blk.cell 3
            (unfold wpMixZ wpRd; (repeat (first | simp only [List.filterMap_cons] | simp only [List.filterMap_nil] | simp only [List.getElem?_toArray] | simp only [List.getElem?_cons_zero] | simp only [List.getElem?_cons_succ])); (try dsimp only); change wpQuiet _ _ _ _ (_ :: _ :: _ :: _ :: _ :: _ :: []) _; (repeat (go_big_quiet_step (fail))); refine wpQuiet_nil ?_; (try dsimp only))
            clear q0 q1 l0 hk9 hm9
            refine wpList_kput rfl _ _ _ 73 rfl 80 Tryz.underlying73 (s + 3) L9 rfl HKM9.out.drew v rfl hvo (.map (some r)) rfl ?_
            intro w9 hm9 hg9 hs9
            clear hs9
            have HE10 : Hid (SetIs r (tabD d v).car w9 ∧ Memo d s Nc Ne X w9 ∧ Kp (MS s) w w9) := by
              have hr9 := HS9.out.of_block (w' := w9) (hg9.block r HS9.out.lt (fun e => by injection e; omega))
              have hdr : wr.grownBy w9 (some (s + 3)) := ⟨hg9.os, hg9.tape, hg9.output, hg9.size, hg9.block⟩
              refine ⟨hr9, (HEr.out.use (Y := X) fun b _ h => .inl h).carried hdr hm9 ((HMS9.out.use (Y := X) fun b _ h => .inl h).finish (fun h => absurd (HNV.out v h) (Nat.lt_irrefl _)) HS9.out (by omega) (fun h => by have := HX.out r h; omega)), HKr.out.trans (.of_grown hdr fun b e => by injection e with e; unfold MS; omega)⟩
            clear hm9 hg9
            go_wp2_with fail
            go_ret
            exact ⟨r, rfl, by omega, fun h => by have := HX.out r h; omega, HE10.out.1, HE10.out.2.1, HE10.out.2.2⟩
end Go.Proofs.YthonhikkoabhlaaGreatDoor
