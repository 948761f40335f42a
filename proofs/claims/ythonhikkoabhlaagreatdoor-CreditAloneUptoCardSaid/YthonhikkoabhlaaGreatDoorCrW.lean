/-
  The statement's awake and same.
-/
import Derived.Test.YthonhikkoabhlaaGreatDoorCrE
namespace Go.Proofs.YthonhikkoabhlaaGreatDoor
open Go.RowKit

def awM : ByteArray := ⟨#[47, 47, 109, 47, 102]⟩
def awD : ByteArray := ⟨#[47, 47, 100, 47, 102]⟩
def awT : FTy := ⟨1, false, false, false⟩
def awV (p : ByteArray) (c : Int) : Rev := ⟨p, 1, c, 1, awT, zeroCon, ⟨#[]⟩, 0⟩
def awR : Rcd := ⟨awM, 1, 1, awD, 1, 1⟩
def awDep : Dep := ⟨[awV awM 1, awV awD 2], [awR]⟩
theorem aw_ne : awM ≠ awD := by decide
theorem aw_mem (f : Fil) : memD awDep.revs f = if f = (awM, 1) then some (awV awM 1) else if f = (awD, 1) then some (awV awD 2) else none := by
  have h1 : ∀ p c, isM f (awV p c) = decide (f = (p, 1)) := fun p c => by
    unfold isM awV Rev.fil
    dsimp only
    by_cases h : f = (p, 1)
    · rw [h]; simp
    · rw [decide_eq_false h]
      have : ((p, (1 : Int)) == f) = false := by
        cases hb : ((p, (1 : Int)) == f)
        · rfl
        · exact absurd (eq_of_beq hb).symm h
      rw [this]
      rfl
  unfold memD awDep
  rw [List.find?_cons, h1, List.find?_cons, h1, List.find?_nil]
  by_cases e1 : f = (awM, 1)
  · rw [if_pos e1, decide_eq_true e1]
  · rw [if_neg e1, decide_eq_false e1]
    by_cases e2 : f = (awD, 1)
    · rw [if_pos e2, decide_eq_true e2]
    · rw [if_neg e2, decide_eq_false e2]
theorem aw_memM : memD awDep.revs (awM, 1) = some (awV awM 1) := by rw [aw_mem, if_pos rfl]
theorem aw_memD : memD awDep.revs (awD, 1) = some (awV awD 2) := by rw [aw_mem, if_neg (fun e => aw_ne (congrArg Prod.fst e).symm), if_pos rfl]
theorem aw_prev (f : Fil) : prevF awDep.revs f = none := by
  cases h : memD awDep.revs f with
  | none => unfold prevF; rw [h]
  | some v =>
    refine prevF_add h ?_
    obtain ⟨h1, _⟩ := mem_some h
    simp only [awDep, List.mem_cons, List.not_mem_nil, or_false] at h1
    rcases h1 with rfl | rfl <;> rfl
theorem aw_hist : Hist awDep where
  uniq := by
    refine List.pairwise_cons.2 ⟨fun v hv => ?_, List.pairwise_singleton _ _⟩
    rw [List.mem_singleton] at hv
    subst hv
    exact fun e => aw_ne (congrArg Prod.fst e)
  prev f u h := by rw [aw_prev] at h; cases h
  has f v h ha := by
    obtain ⟨h1, _⟩ := mem_some h
    simp only [awDep, List.mem_cons, List.not_mem_nil, or_false] at h1
    rcases h1 with rfl | rfl <;> exact absurd rfl ha
  goes r hr := by
    simp only [awDep, List.mem_cons, List.not_mem_nil, or_false] at hr
    subst hr
    show (memD awDep.revs (awD, 1)).isSome = true
    rw [aw_memD]; rfl
  span r hr := by
    simp only [awDep, List.mem_cons, List.not_mem_nil, or_false] at hr
    subst hr
    decide
  src r hr n h1 h2 := by
    simp only [awDep, List.mem_cons, List.not_mem_nil, or_false] at hr
    subst hr
    have h1' : (1 : Int) ≤ n := h1
    have h2' : n ≤ 1 := h2
    have : n = 1 := by omega
    subst this
    refine ⟨?_, ?_⟩
    · show (memD awDep.revs (awM, 1)).isSome = true
      rw [aw_memM]; rfl
    · show rkD awDep.revs (awM, 1) < rkD awDep.revs (awD, 1)
      decide +kernel
  how r hr := by
    simp only [awDep, List.mem_cons, List.not_mem_nil, or_false] at hr
    subst hr
    decide
theorem aw_log (p : ByteArray) : logD awDep.revs p = if p = awM then [awV awM 1] else if p = awD then [awV awD 2] else [] := by
  unfold logD awDep
  by_cases e1 : p = awM
  · subst e1
    rw [if_pos rfl]
    refine (List.filter_cons_of_pos (p := fun v : Rev => v.path == awM) (ba_self _)).trans ?_
    rw [List.filter_cons_of_neg (p := fun v : Rev => v.path == awM) (fun h => aw_ne ((ba_beq _ _).1 h).symm), List.filter_nil]
  · by_cases e2 : p = awD
    · subst e2
      rw [if_neg e1, if_pos rfl]
      refine (List.filter_cons_of_neg (p := fun v : Rev => v.path == awD) (fun h => aw_ne ((ba_beq _ _).1 h))).trans ?_
      exact List.filter_cons_of_pos (p := fun v : Rev => v.path == awD) (ba_self _)
    · rw [if_neg e1, if_neg e2, List.filter_eq_nil_iff]
      intro v hv
      simp only [List.mem_cons, List.not_mem_nil, or_false] at hv
      rcases hv with rfl | rfl
      · exact fun h => e1 ((ba_beq _ _).1 h).symm
      · exact fun h => e2 ((ba_beq _ _).1 h).symm
theorem aw_dep : DepOk awDep where
  asc p := by
    rw [aw_log]
    split
    · rfl
    · split <;> rfl
  few := by decide
  fewr := by decide
  chg v hv := by
    simp only [awDep, List.mem_cons, List.not_mem_nil, or_false] at hv
    rcases hv with rfl | rfl <;> decide
  path v hv := by
    simp only [awDep, List.mem_cons, List.not_mem_nil, or_false] at hv
    rcases hv with rfl | rfl <;> exact ⟨by decide +kernel, by decide⟩
  src v hv := by
    simp only [awDep, List.mem_cons, List.not_mem_nil, or_false] at hv
    rcases hv with rfl | rfl <;> decide
  act v hv := by
    simp only [awDep, List.mem_cons, List.not_mem_nil, or_false] at hv
    rcases hv with rfl | rfl <;> decide
  recs r hr := by
    simp only [awDep, List.mem_cons, List.not_mem_nil, or_false] at hr
    subst hr
    decide
theorem aw_crd : CrD awDep := ⟨aw_hist, aw_dep⟩
theorem aw_recs (f : Fil) : recsD awDep.recs f = if f = (awD, 1) then [awR] else [] := by
  unfold recsD awDep
  by_cases e : f = (awD, 1)
  · subst e
    rw [if_pos rfl]
    simp [awR]
  · rw [if_neg e, List.filter_eq_nil_iff]
    intro r hr
    rw [List.mem_singleton] at hr
    subst hr
    exact fun h => e (eq_of_beq h).symm
theorem aw_carM (g : Fil) : (tabD awDep (awM, 1)).car g ↔ g = (awM, 1) := by
  rw [tab_car aw_hist (by rw [aw_memM]; rfl)]
  unfold stepCar
  rw [aw_prev, aw_recs, if_neg (fun e => aw_ne (congrArg Prod.fst e))]
  have ho : origD awDep.recs (awM, 1) = true := by
    unfold origD
    rw [aw_recs, if_neg (fun e => aw_ne (congrArg Prod.fst e))]
    rfl
  simp [ho]
theorem aw_origD : origD awDep.recs (awD, 1) = false := by
  unfold origD
  rw [aw_recs, if_pos rfl]
  rfl
theorem aw_carD (g : Fil) : (tabD awDep (awD, 1)).car g ↔ g = (awM, 1) := by
  rw [tab_car aw_hist (by rw [aw_memD]; rfl)]
  unfold stepCar
  rw [aw_prev, aw_recs, if_pos rfl, aw_origD]
  constructor
  · rintro (⟨h, _⟩ | ⟨u, h, _⟩ | ⟨r, hr, h⟩)
    · cases h
    · cases h
    · rw [List.mem_singleton] at hr
      subst hr
      rcases h with ⟨_, h⟩ | ⟨h, _⟩
      · exact (aw_carM g).1 h
      · exact absurd h (by decide)
  · intro h
    exact .inr (.inr ⟨awR, List.mem_singleton.2 rfl, .inl ⟨rfl, (aw_carM g).2 h⟩⟩)
theorem aw_list {L : List Fil} (hs : SrtF L) (hm : ∀ g, g ∈ L ↔ (tabD awDep (awD, 1)).car g) : L = [(awM, 1)] :=
  SrtF.ext hs (List.pairwise_singleton _ _) fun f => by rw [hm f, aw_carD, List.mem_singleton]

set_option maxRecDepth 100000 in
set_option maxHeartbeats 6400000 in
theorem awake14_any (w : World) : Calls Tryz.prog 6 #[] w fun e w' => e = .returned (.bool true) ∧ Below w.heap.size w w' := by
  go_enter Tryz.func6, Tryz.ntmps6
  go_upto_region 3 with fail
  generalize hw1 : World.alloc _ (.cells #[.slice (some ⟨w.heap.size + 1, 0, none⟩) 2 2, .slice (some ⟨w.heap.size + 1 + 1, 0, none⟩) 1 1] 28) = w1
  have HB1 : Hid (Below w.heap.size w w1) := by
    show Below _ _ _
    rw [← hw1]
    (repeat (first | (with_reducible exact Below.refl _ _) | (with_reducible assumption) | (with_reducible refine Below.setCell ?_ ?_ _; rotate_left; focus (first | exact Nat.le_refl _ | (dsimp only; omega))) | (with_reducible refine Below.drew ?_) | (with_reducible refine below_drewN ?_ _) | (with_reducible refine Below.alloc ?_ ?_ _; rotate_left; focus (first | exact Nat.le_refl _ | (simp; done) | (simp; omega)))))
  have HR : Hid (Blk (w.heap.size + 1) 43 (revK.flat awDep.revs) w1) := by
    show Blk _ _ _ _
    rw [← hw1]
    exact ((Blk.new1 _ _ _ _).alloc _).alloc _
  have HQ : Hid (Blk (w.heap.size + 1 + 1) 51 (rcdK.flat awDep.recs) w1) := by
    show Blk _ _ _ _
    rw [← hw1]
    exact (Blk.new2 _ _ _ _ _).alloc _
  have HD : Hid (Blk (w.heap.size + 1 + 1 + 1) 28 [.slice (some ⟨w.heap.size + 1, 0, none⟩) 2 2, .slice (some ⟨w.heap.size + 1 + 1, 0, none⟩) 1 1] w1) := by
    show Blk _ _ _ _
    rw [← hw1]
    exact Blk.new3 _ _ _ _ _ _
  clear hw1
  have hok : FOk (awD, 1) := ⟨by decide, by decide⟩
  have hcar : ∀ w', Below w1.heap.size w1 w' → Calls Tryz.prog 8 #[.agg #[.slice (some ⟨w.heap.size + 1, 0, none⟩) 2 2, .slice (some ⟨w.heap.size + 1 + 1, 0, none⟩) 1 1], .string ⟨#[47, 47, 100, 47, 102]⟩, .int .i64 1] w' (CompRet awDep (awD, 1) (tabD awDep (awD, 1)).car w') := fun w' hb =>
    pcar_any awDep _ _ 2 1 awD 1 w' aw_crd (fun _ => ⟨w.heap.size + 1, 0, rfl, Nat.lt_of_lt_of_le HR.out.lt hb.size, fun j u hu => by rw [Nat.zero_add]; exact ((HR.out.below hb).cell j).trans hu⟩) (fun _ => ⟨w.heap.size + 1 + 1, 0, rfl, Nat.lt_of_lt_of_le HQ.out.lt hb.size, fun j u hu => by rw [Nat.zero_add]; exact ((HQ.out.below hb).cell j).trans hu⟩) hok
  have horg : ∀ w', Below w1.heap.size w1 w' → Calls Tryz.prog 15 #[.agg #[.slice (some ⟨w.heap.size + 1, 0, none⟩) 2 2, .slice (some ⟨w.heap.size + 1 + 1, 0, none⟩) 1 1], .string ⟨#[47, 47, 100, 47, 102]⟩, .int .i64 1] w' fun e w'' => e = .returned (.tuple #[.bool (origM awDep (awD, 1)), .int .i64 (errC awDep (awD, 1))]) ∧ Below w'.heap.size w' w'' := fun w' hb =>
    porig_any awDep _ _ 2 1 awD 1 w' aw_crd (fun _ => ⟨w.heap.size + 1, 0, rfl, Nat.lt_of_lt_of_le HR.out.lt hb.size, fun j u hu => by rw [Nat.zero_add]; exact ((HR.out.below hb).cell j).trans hu⟩) (fun _ => ⟨w.heap.size + 1 + 1, 0, rfl, Nat.lt_of_lt_of_le HQ.out.lt hb.size, fun j u hu => by rw [Nat.zero_add]; exact ((HQ.out.below hb).cell j).trans hu⟩) hok
  have he : errC awDep (awD, 1) = 0 := by unfold errC; rw [aw_memD]; rfl
  have ho : origM awDep (awD, 1) = false := by unfold origM; rw [aw_memD, aw_origD]; rfl
  have HC := Lib.hid hcar
  have HO := Lib.hid horg
  have HE := Lib.hid he
  have HO2 := Lib.hid ho
  clear hcar horg he ho hok
  obtain ⟨d0, d1⟩ := HD.out.c2
  go_wp2_with fail
  refine (HC.out w1 (Below.refl _ _)).mono ?_
  rintro e w2 ⟨L, A, c, rfl, hi, hs, hm, hb⟩
  obtain rfl := aw_list hs hm
  rw [HE.out]
  obtain ⟨g, off, rfl, hgl, hat⟩ := hi (by simp)
  have HD2 := Lib.hid (HD.out.below hb)
  have HB2 := Lib.hid hb
  have HAT := Lib.hid hat
  clear hi hs hm hb d0 d1 hat
  obtain ⟨d0, d1⟩ := HD2.out.c2
  go_wp2_with fail
  refine (HO.out w2 HB2.out).mono ?_
  rintro e w3 ⟨rfl, hb3⟩
  rw [HE.out, HO2.out]
  have HB3 := Lib.hid (HB1.out.trans ((HB2.out.trans (hb3.mono HB2.out.size)).mono HB1.out.size))
  have hat3 := HAT.out.below hb3 hgl
  have c0 := hat3.get (i := 0) (x := (awM, 1)) rfl (show (filK.cells (awM, 1))[0]? = some (.string ⟨#[47, 47, 109, 47, 102]⟩) from rfl)
  have c1 := hat3.get (i := 0) (x := (awM, 1)) rfl (show (filK.cells (awM, 1))[1]? = some (.int .i64 1) from rfl)
  simp only [Nat.zero_mul, Nat.add_zero] at c0 c1
  have e2 : filK.n = 2 := rfl
  clear hb3 hat3 d0 d1
  go_wp2_with fail
  go_ret
  exact ⟨rfl, HB3.out⟩
end Go.Proofs.YthonhikkoabhlaaGreatDoor
