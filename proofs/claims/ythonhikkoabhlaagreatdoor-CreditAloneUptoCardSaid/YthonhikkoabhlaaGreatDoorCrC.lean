/-
  The order of revisions; the walk of the set's list.
-/
import Derived.Test.YthonhikkoabhlaaGreatDoorCrM
import Derived.Test.YthonhikkoabhlaaGreatDoorAppA
import Derived.Test.YthonhikkoabhlaaGreatDoorCmp
import Derived.Test.YthonhikkoabhlaaGreatDoorSortF
import Derived.Test.YthonhikkoabhlaaGreatDoorShelf
import Derived.Test.YthonhikkoabhlaaGreatDoorMixF
import Derived.OwnWalk
namespace Go.Proofs.YthonhikkoabhlaaGreatDoor
open Go.RowKit
open Go.Sort (HoldsK)

/-- The world W with draws and new blocks. -/
def GW (W x : World) : Prop := ∃ q os', x = Sort.grow (W.drewN q) os'
theorem GW.refl (W : World) : GW W W := ⟨0, #[], by simp [Sort.grow, World.drewN]⟩
theorem GW.drew {W x : World} (h : GW W x) : GW W x.drew := by
  obtain ⟨q, os, rfl⟩ := h
  exact ⟨q + 1, os, rfl⟩
theorem GW.drewN {W x : World} (h : GW W x) : ∀ n, GW W (x.drewN n)
  | 0 => h
  | n + 1 => (h.drewN n).drew
theorem GW.alloc {W x : World} (h : GW W x) (o : Obj) : GW W (x.alloc o) := by
  obtain ⟨q, os, rfl⟩ := h
  exact ⟨q, os ++ #[o], by rw [Sort.alloc_eq_grow, Sort.grow_grow]⟩

theorem less_irr : ∀ l : List UInt8, Op.bytesLess l l = false
  | [] => rfl
  | x :: l => by
    unfold Op.bytesLess
    simp [less_irr l]
set_option maxHeartbeats 800000 in
theorem cmpS_any (a b : ByteArray) (w : World) : Calls Tryz.prog 46 #[.string a, .string b] w fun e w' => (∃ c : Int, e = .returned (.int .i64 c) ∧ (a = b → c = 0)) ∧ ∃ n, w' = w.drewN n := by
  have ha : (a == a) = true := ba_self a
  have hb : (b == b) = true := ba_self b
  by_cases hab : a = b
  · subst hab
    have hl := less_irr a.toList
    go_enter Tryz.func46, Tryz.ntmps46
    go_wp2
    go_ret
    exact ⟨⟨_, rfl, fun _ => rfl⟩, 0, rfl⟩
  · go_enter Tryz.func46, Tryz.ntmps46
    go_wp2
    all_goals
      go_ret
      exact ⟨⟨_, rfl, fun h => absurd h hab⟩, 0, rfl⟩
/-- The first that is not zero. -/
def orI (a b c : Int) : Int := if a = 0 then (if b = 0 then c else b) else a
set_option maxHeartbeats 1600000 in
theorem or_any (g : Nat) (a b c : Int) (w : World) (h0 : w.cell? ⟨g, 0, none⟩ = some (.int .i64 a)) (h1 : w.cell? ⟨g, 1, none⟩ = some (.int .i64 b)) (h2 : w.cell? ⟨g, 2, none⟩ = some (.int .i64 c)) :
    Calls Tryz.prog 45 #[.slice (some ⟨g, 0, none⟩) 3 3] w fun e w' => e = .returned (.int .i64 (orI a b c)) ∧ w' = w := by
  obtain ⟨o, ho⟩ : ∃ o, orI a b c = o := ⟨_, rfl⟩
  rw [ho]
  have HO := Lib.hid ho
  clear ho
  unfold orI at HO
  go_enter Tryz.func45, Tryz.ntmps45
  go_wp2_with fail
  go_loopw [8] (fun i wr => ∃ k : Nat, i = .int .i64 k ∧ k ≤ 3 ∧ Hid (wr = w) ∧ Hid (1 ≤ k → a = 0) ∧ Hid (2 ≤ k → b = 0) ∧ Hid (3 ≤ k → c = 0)) (fun i _ => 3 - (intOf i).toNat)
  case atStart => exact ⟨0, rfl, by omega, (by first | exact Lib.hid rfl | exact Lib.hid trivial), (fun h => absurd h (by omega) : _ → _), (fun h => absurd h (by omega) : _ → _), (fun h => absurd h (by omega) : _ → _)⟩
  case round =>
    obtain ⟨k, rfl, hk, hww, ha, hb, hc⟩ := hrel
    have hww2 := hww.out.symm
    subst hww2
    clear hww
    rcases (show k = 0 ∨ k = 1 ∨ k = 2 ∨ k = 3 by omega) with rfl | rfl | rfl | rfl
    · by_cases h : a = 0
      · have H := Lib.hid h
        have hb' : (a == 0) = true := by simpa using h
        clear h
        go_wp2_with fail
        go_roundw
        case rel => exact ⟨1, by go_num, by omega, (by first | exact Lib.hid rfl | exact Lib.hid trivial), (fun _ => H.out : _ → _), (fun h => absurd h (by omega) : _ → _), (fun h => absurd h (by omega) : _ → _)⟩
        case measure => simp [intOf]
      · have H := Lib.hid h
        have hb' : (a == 0) = false := by simpa using h
        go_wp2_with fail
        go_ret
        exact ⟨by rw [← HO.out, if_neg H.out]; rfl, rfl⟩
    · by_cases h : b = 0
      · have H := Lib.hid h
        have hb' : (b == 0) = true := by simpa using h
        clear h
        go_wp2_with fail
        go_roundw
        case rel => exact ⟨2, by go_num, by omega, (by first | exact Lib.hid rfl | exact Lib.hid trivial), (fun _ => ha.out (by omega) : _ → _), (fun _ => H.out : _ → _), (fun h => absurd h (by omega) : _ → _)⟩
        case measure => simp [intOf]
      · have H := Lib.hid h
        have hb' : (b == 0) = false := by simpa using h
        go_wp2_with fail
        go_ret
        exact ⟨by rw [← HO.out, if_pos (ha.out (by omega)), if_neg H.out]; rfl, rfl⟩
    · by_cases h : c = 0
      · have H := Lib.hid h
        have hb' : (c == 0) = true := by simpa using h
        clear h
        go_wp2_with fail
        go_roundw
        case rel => exact ⟨3, by go_num, by omega, (by first | exact Lib.hid rfl | exact Lib.hid trivial), (fun _ => ha.out (by omega) : _ → _), (fun _ => hb.out (by omega) : _ → _), (fun _ => H.out : _ → _)⟩
        case measure => simp [intOf]
      · have H := Lib.hid h
        have hb' : (c == 0) = false := by simpa using h
        go_wp2_with fail
        go_ret
        exact ⟨by rw [← HO.out, if_pos (ha.out (by omega)), if_pos (hb.out (by omega))]; rfl, rfl⟩
    · go_wp2_with fail
      go_ret
      exact ⟨by rw [← HO.out, if_pos (ha.out (by omega)), if_pos (hb.out (by omega)), hc.out (by omega)]; rfl, rfl⟩

/-- The order of two names of which both paths are valid. -/
def cmpF (x y : Fil) : Int := if pcmp x.1.data.toList y.1.data.toList = 0 then cmpV x.2 y.2 else pcmp x.1.data.toList y.1.data.toList
def okV (f : Fil) : Bool := decide (f.1.size ≤ 200) && validB f.1.data.toList
theorem okV_iff {f : Fil} (h : okV f = true) : f.1.size ≤ 200 ∧ validB f.1.data.toList = true := by simpa [okV] using h
set_option maxRecDepth 100000 in
set_option maxHeartbeats 3200000 in
theorem list1_any (x y : Fil) (hx : okV x = true) (hy : okV y = true) (W : World) : Calls Tryz.prog 43 #[fileV x, fileV y] W fun e w' => e = .returned (.int .i64 (cmpF x y)) ∧ GW W w' := by
  obtain ⟨h1, h1v⟩ := okV_iff hx
  obtain ⟨h2, h2v⟩ := okV_iff hy
  obtain ⟨xp, xn⟩ := x
  obtain ⟨yp, yn⟩ := y
  dsimp only at h1 h2 h1v h2v
  have HC := Lib.hid (fun w => pathcmp_any xp yp w h1v h2v (by omega) (by omega))
  have HR : Hid (∀ c : Int, (xp = yp → c = 0) → orI (pcmp xp.data.toList yp.data.toList) c (cmpV xn yn) = cmpF (xp, xn) (yp, yn)) := fun c hc => by
    unfold orI cmpF
    dsimp only
    by_cases h0 : pcmp xp.data.toList yp.data.toList = 0
    · rw [if_pos h0, if_pos h0, hc (ba_data (pcmp_zero h0)), if_pos rfl]
    · rw [if_neg h0, if_neg h0]
  clear hx hy h1v h2v
  unfold fileV
  dsimp only
  go_enter Tryz.func43, Tryz.ntmps43
  go_wp2_with fail
  have HM : Hid (Bs [(W.heap.size + 1, 47, [.string yp, .int .i64 yn]), (W.heap.size, 47, [.string xp, .int .i64 xn])] ((W.alloc (.cells #[.string xp, .int .i64 xn] 47)).alloc (.cells #[.string yp, .int .i64 yn] 47))) :=
    ⟨Blk.new1 _ _ _ _, (Blk.new _ _ _).alloc _, trivial⟩
  have HG : Hid (GW W ((W.alloc (.cells #[.string xp, .int .i64 xn] 47)).alloc (.cells #[.string yp, .int .i64 yn] 47))) := ((GW.refl W).alloc _).alloc _
  generalize World.alloc (World.alloc W _) _ = w1 at *
  refine (HC.out _).mono ?_
  rintro e w2 ⟨rfl, q, rfl⟩
  go_upto_region 2 with fail
  have hS : (fun x : World => Below w1.heap.size w1 x ∧ GW W x) (w1.drewN q).drew := ⟨(below_drewN (Below.refl _ _) q).drew, (HG.out.drewN q).drew⟩
  (refine wp_region_mix (S := (fun x : World => Below w1.heap.size w1 x ∧ GW W x)) [13] [([0, 1, 2, 3, 4, 6, 7, 8, 9], 5), ([], 10), ([], 11), ([], 12)] (by kernel_rfl) (by kernel_rfl) (by intro c a d v w h; cases d <;> exact h) hS ?_; have hN : Nonempty (Held ((fun x : World => Below w1.heap.size w1 x ∧ GW W x))) := ⟨⟨_, hS⟩⟩)
  have HS := Lib.hid hS
  generalize World.drew (World.drewN w1 q) = w3 at *
  obtain ⟨q0, q1⟩ := fun_and2 (fun y : Held (fun x : World => Below w1.heap.size w1 x ∧ GW W x) => (HM.out.below y.ok.1).1.c2)
  obtain ⟨t0, t1⟩ := fun_and2 (fun y : Held (fun x : World => Below w1.heap.size w1 x ∧ GW W x) => (HM.out.below y.ok.1).2.1.c2)
  (unfold wpMix wpRd; (repeat (first | simp only [List.filterMap_cons] | simp only [List.filterMap_nil] | simp only [List.getElem?_toArray] | simp only [List.getElem?_cons_zero] | simp only [List.getElem?_cons_succ])); (try dsimp only); change wpQuiet _ _ _ _ (_ :: _ :: _ :: _ :: _ :: _ :: _ :: _ :: _ :: []) _; (repeat (go_big_quiet_step (fail))); refine wpQuiet_nil ?_; (try dsimp only))
  clear q0 q1 t0 t1 hS
  go_wp2_with fail
  refine (cmpS_any _ _ _).mono ?_
  rintro e w4 ⟨⟨c, rfl, hc⟩, n4, rfl⟩
  have HS4 : Hid (Below w1.heap.size w1 (w3.drewN n4) ∧ GW W (w3.drewN n4)) := ⟨below_drewN HS.out.1 n4, HS.out.2.drewN n4⟩
  have HCC := Lib.hid hc
  clear hc HS
  go_wp2_with fail
  refine ⟨HS4.out, ?_⟩
  generalize World.drewN w3 n4 = w4 at *
  (unfold wpMix wpRd; (repeat (first | simp only [List.filterMap_cons] | simp only [List.filterMap_nil] | simp only [List.getElem?_toArray] | simp only [List.getElem?_cons_zero] | simp only [List.getElem?_cons_succ])); (try dsimp only); change wpQuiet _ _ _ _ ([]) _; (repeat (go_big_quiet_step (fail))); refine wpQuiet_nil ?_; (try dsimp only))
  go_wp2_with fail
  refine (cmpI_any _ _ _).mono ?_
  rintro e w5 ⟨rfl, n5, rfl⟩
  have HS5 : Hid (Below w1.heap.size w1 (w4.drewN n5) ∧ GW W (w4.drewN n5)) := ⟨below_drewN HS4.out.1 n5, HS4.out.2.drewN n5⟩
  clear HS4
  go_wp2_with fail
  refine ⟨HS5.out, ?_⟩
  generalize World.drewN w4 n5 = w5 at *
  (unfold wpMix wpRd; (repeat (first | simp only [List.filterMap_cons] | simp only [List.filterMap_nil] | simp only [List.getElem?_toArray] | simp only [List.getElem?_cons_zero] | simp only [List.getElem?_cons_succ])); (try dsimp only); change wpQuiet _ _ _ _ ([]) _; (repeat (go_big_quiet_step (fail))); refine wpQuiet_nil ?_; (try dsimp only))
  go_wp2_with fail
  have HS6 : Hid (Below w1.heap.size w1 (w5.alloc (.cells #[.int .i64 (pcmp xp.data.toList yp.data.toList), .int .i64 c, .int .i64 (cmpV xn yn)] 3)) ∧ GW W (w5.alloc (.cells #[.int .i64 (pcmp xp.data.toList yp.data.toList), .int .i64 c, .int .i64 (cmpV xn yn)] 3))) := ⟨HS5.out.1.alloc HS5.out.1.size _, HS5.out.2.alloc _⟩
  have HO := Lib.hid (or_any w5.heap.size (pcmp xp.data.toList yp.data.toList) c (cmpV xn yn) (w5.alloc (.cells #[.int .i64 (pcmp xp.data.toList yp.data.toList), .int .i64 c, .int .i64 (cmpV xn yn)] 3)) (by simp [go_sem]) (by simp [go_sem]) (by simp [go_sem]))
  refine ⟨HS6.out, ?_⟩
  clear HS5
  (unfold wpMix wpRd; (repeat (first | simp only [List.filterMap_cons] | simp only [List.filterMap_nil] | simp only [List.getElem?_toArray] | simp only [List.getElem?_cons_zero] | simp only [List.getElem?_cons_succ])); (try dsimp only); change wpQuiet _ _ _ _ ([]) _; (repeat (go_big_quiet_step (fail))); refine wpQuiet_nil ?_; (try dsimp only))
  go_wp2_with fail
  refine HO.out.mono ?_
  rintro e w7 ⟨rfl, rfl⟩
  go_wp2_with fail
  refine ⟨HS6.out, ?_⟩
  (unfold wpMix wpRd; (repeat (first | simp only [List.filterMap_cons] | simp only [List.filterMap_nil] | simp only [List.getElem?_toArray] | simp only [List.getElem?_cons_zero] | simp only [List.getElem?_cons_succ])); (try dsimp only); change wpQuiet _ _ _ _ (_ :: []) _; (repeat (go_big_quiet_step (fail))); refine wpQuiet_nil ?_; (try dsimp only))
  go_wp2_with fail
  go_ret
  exact ⟨by rw [← HR.out c HCC.out]; rfl, HS6.out.2⟩

theorem cmpV_swap (x y : Int) : cmpV y x = - cmpV x y := by
  unfold cmpV
  split <;> split <;> first | omega | rfl
theorem cmpV_zero {x y : Int} (h : cmpV x y = 0) : x = y := by
  unfold cmpV at h
  split at h
  · omega
  · split at h <;> omega
theorem cmpV_neg {x y : Int} : cmpV x y < 0 ↔ x < y := by
  unfold cmpV
  split
  · simp [*]
  · split <;> simp [*]
theorem cmpF_self (x : Fil) : cmpF x x = 0 := by
  unfold cmpF
  rw [if_pos (pcmp_self _)]
  unfold cmpV
  rw [if_neg (Int.lt_irrefl _), if_neg (Int.lt_irrefl _)]
theorem cmpF_swap (x y : Fil) : cmpF y x = - cmpF x y := by
  unfold cmpF
  have h := pcmp_swap x.1.data.toList y.1.data.toList
  by_cases h0 : pcmp x.1.data.toList y.1.data.toList = 0
  · rw [if_pos h0, if_pos (by omega), cmpV_swap]
  · rw [if_neg h0, if_neg (by omega), h]
theorem cmpF_zero {x y : Fil} (h : cmpF x y = 0) : x = y := by
  unfold cmpF at h
  by_cases h0 : pcmp x.1.data.toList y.1.data.toList = 0
  · rw [if_pos h0] at h
    exact Prod.ext (ba_data (pcmp_zero h0)) (cmpV_zero h)
  · rw [if_neg h0] at h
    exact absurd h h0
theorem cmpF_trans {x y z : Fil} (h1 : cmpF x y < 0) (h2 : cmpF y z < 0) : cmpF x z < 0 := by
  unfold cmpF at *
  by_cases a : pcmp x.1.data.toList y.1.data.toList = 0
  · have e := pcmp_zero a
    rw [if_pos a] at h1
    rw [e]
    by_cases b : pcmp y.1.data.toList z.1.data.toList = 0
    · rw [if_pos b] at h2 ⊢
      rw [cmpV_neg] at *
      omega
    · rw [if_neg b] at h2 ⊢
      exact h2
  · rw [if_neg a] at h1
    by_cases b : pcmp y.1.data.toList z.1.data.toList = 0
    · have e := pcmp_zero b
      rw [← e, if_neg a]
      exact h1
    · rw [if_neg b] at h2
      have h3 := pcmp_trans h1 h2
      rw [if_neg (by omega)]
      exact h3
/-- A list in order, each once. -/
def SrtF (L : List Fil) : Prop := L.Pairwise fun a b => cmpF a b < 0
theorem SrtF.ext : ∀ {L M : List Fil}, SrtF L → SrtF M → (∀ f, f ∈ L ↔ f ∈ M) → L = M
  | [], [], _, _, _ => rfl
  | [], y :: M, _, _, h => by have := (h y).2 (List.mem_cons_self ..); simp at this
  | x :: L, [], _, _, h => by have := (h x).1 (List.mem_cons_self ..); simp at this
  | x :: L, y :: M, hL, hM, h => by
    have hL' := List.pairwise_cons.1 hL
    have hM' := List.pairwise_cons.1 hM
    have hxy : x = y := by
      rcases List.mem_cons.1 ((h x).1 (List.mem_cons_self ..)) with e | e
      · exact e
      · rcases List.mem_cons.1 ((h y).2 (List.mem_cons_self ..)) with e2 | e2
        · exact e2.symm
        · have h1 := hM'.1 x e
          have h2 := hL'.1 y e2
          have h3 := cmpF_swap x y
          omega
    subst hxy
    congr 1
    refine SrtF.ext hL'.2 hM'.2 fun f => ⟨fun hf => ?_, fun hf => ?_⟩
    · rcases List.mem_cons.1 ((h f).1 (List.mem_cons_of_mem _ hf)) with e | e
      · have := hL'.1 f hf
        rw [e, cmpF_self] at this
        exact absurd this (by decide)
      · exact e
    · rcases List.mem_cons.1 ((h f).2 (List.mem_cons_of_mem _ hf)) with e | e
      · have := hM'.1 f hf
        rw [e, cmpF_self] at this
        exact absurd this (by decide)
      · exact e
theorem SrtF.nodup {L : List Fil} (h : SrtF L) : L.Nodup := h.imp fun h e => by
  rw [e, cmpF_self] at h
  exact absurd h (by decide)

def filK : RowK Fil := ⟨fun f => [.string f.1, .int .i64 f.2], 2, by decide, fun _ => rfl, fun x u hu => by
  simp only [List.mem_cons, List.not_mem_nil, or_false] at hu
  rcases hu with rfl | rfl <;> rfl⟩
abbrev FiA := { f : Fil // okV f = true }
instance : Inhabited FiA := ⟨⟨(⟨#[47, 47, 97, 47, 97]⟩, 1), by decide +kernel⟩⟩
def filA : RowK FiA := ⟨fun f => filK.cells f.1, 2, by decide, fun _ => rfl, fun x u hu => filK.one x.1 u hu⟩
theorem filA_flat (V : List FiA) : filA.flat V = filK.flat (V.map (·.1)) := by
  unfold RowK.flat
  rw [List.flatMap_map]
  rfl
def packF (V : List Fil) (h : ∀ f ∈ V, okV f = true) : List FiA := V.attach.map fun f => ⟨f.1, h f.1 f.2⟩
theorem packF_val (V : List Fil) (h : ∀ f ∈ V, okV f = true) : (packF V h).map (·.1) = V := by
  unfold packF
  rw [List.map_map]
  exact List.attach_map_subtype_val V
def cfF (x y : FiA) : Int := cmpF x.1 y.1
theorem ltF (x y : FiA) : ltOf cfF x y = decide (cmpF x.1 y.1 < 0) := rfl
theorem swoF : Sort.SWO (ltOf cfF) := by
  refine ⟨fun x => ?_, fun x y z h1 h2 => ?_, fun x y z h1 h2 => ?_⟩
  · rw [ltF, cmpF_self]; rfl
  · rw [ltF, decide_eq_true_eq] at *
    exact cmpF_trans h1 h2
  · rw [ltF, decide_eq_false_iff_not] at *
    intro h
    have s1 := cmpF_swap x.1 y.1
    by_cases e1 : cmpF x.1 y.1 = 0
    · rw [cmpF_zero e1] at h; exact h2 h
    · have h3 : cmpF y.1 x.1 < 0 := by omega
      exact h2 (cmpF_trans h3 h)
theorem sortedF_is {V : List Fil} (hV : V.Nodup) (hok : ∀ h ∈ V, okV h = true) (d' : Array FiA) (h1 : Sort.PermIn 0 (packF V hok).toArray.size (packF V hok).toArray d') (h2 : Sort.SortedIn (ltOf cfF) 0 (packF V hok).toArray.size d') : (d'.toList.map (·.1)).Perm V ∧ SrtF (d'.toList.map (·.1)) := by
  obtain ⟨hs, _, hp⟩ := h1
  have e1 : (packF V hok).toArray.extract 0 (packF V hok).toArray.size = (packF V hok).toArray := by simp
  have e2 : d'.extract 0 (packF V hok).toArray.size = d' := by rw [← hs]; simp
  rw [e1, e2] at hp
  have hp2 : (d'.toList.map (·.1)).Perm V := by
    have := hp.map (fun x : FiA => x.1)
    rw [show (packF V hok).toArray.toList = packF V hok from rfl, packF_val] at this
    exact this
  have hon : (d'.toList.map (·.1)).Nodup := hp2.symm.nodup hV
  refine ⟨hp2, ?_⟩
  unfold SrtF
  rw [List.pairwise_iff_getElem]
  intro i j hi hj hij
  simp only [List.length_map, Array.length_toList] at hi hj
  have h3 := h2 i j (Nat.zero_le _) hij (by rw [← hs]; exact hj)
  rw [getElem!_pos d' i hi, getElem!_pos d' j hj, ltF, decide_eq_false_iff_not] at h3
  have hne := List.pairwise_iff_getElem.1 hon i j (by simpa using hi) (by simpa using hj) hij
  simp only [List.getElem_map, Array.getElem_toList] at hne ⊢
  have h4 := cmpF_swap d'[i].1 d'[j].1
  have h5 : cmpF d'[i].1 d'[j].1 ≠ 0 := fun e => hne (cmpF_zero e)
  omega
theorem below_sortF {α : Type} [Inhabited α] (enc : α → List Value) (k : Nat) {B : Nat} {w w0 : World} (hb : Below B w0 w) (blk off m : Nat) (d : Array α) (os : Array Obj) (hB : B ≤ blk) (hBs : B ≤ w.heap.size) : Below B w0 (sortWorldK enc k w blk off m d os) := by
  have hother : ∀ b, b < w.heap.size → b ≠ blk → (sortWorldK enc k w blk off m d os).heap[b]? = w.heap[b]? := fun b hlt hne => by
    show ((w.heap.modify blk _) ++ os)[b]? = _
    rw [Array.getElem?_append_left (by simpa using hlt), Array.getElem?_modify, if_neg (fun h => hne h.symm)]
  have hs : w.heap.size ≤ (sortWorldK enc k w blk off m d os).heap.size := by
    show _ ≤ ((w.heap.modify blk _) ++ os).size
    simp
  refine ⟨hb.os, hb.tape, hb.output, Nat.le_trans hb.size hs, fun b hlt => ?_⟩
  exact (hother b (by omega) (by omega)).trans (hb.block b hlt)
theorem callsSortF (V : List Fil) (n g cap : Nat) (w : World) (hok : ∀ h ∈ V, okV h = true) (hV : V.Nodup) (hn : V.length = n) (hn2 : n ≤ 1000000) (base : Nat) (ho : w.ownsRow base 47 2 (.slice (some ⟨g, 0, none⟩) n cap) n (filK.flat V)) :
    Calls Tryz.prog 42 #[.slice (some ⟨g, 0, none⟩) n cap, .func (.func 43) #[] #[]] w fun e w' => e = .returned (.tuple #[]) ∧ ∃ S : List Fil, S.Perm V ∧ SrtF S ∧ filK.At g 0 S w' ∧ g < w'.heap.size ∧ Below base w w' := by
  have hpl : (packF V hok).length = n := by
    have := congrArg List.length (packF_val V hok)
    rw [List.length_map] at this
    omega
  obtain ⟨hH, hB, hbg⟩ := holdsK_own (R := filA) (V := packF V hok) hpl (by rw [filA_flat, packF_val]; exact ho)
  have hsz : (packF V hok).toArray.size = n := by simp [hpl]
  have eg : ∀ args w, (callFunc 43 args).run Tryz.prog w = .ok (.enter 43 args) w := enters_of Tryz.func43 (by kernel_rfl) rfl
  have hcmp : CmpLays Tryz.prog 43 #[] filA.cells 2 cfF g 0 (packF V hok).toArray.size w := fun _ _ _ _ x y => list1_any x.1 y.1 x.2 y.2 _
  have hcon := AnyQ.slices_SortFunc Tryz.sortF 2 Tryz.isAgg47 Tryz.sizeOf47 filA.cells filA.len (fun x v hv => by
    have := filA.one x v hv
    cases v <;> first | rfl | (simp [Value.oneCell'] at this)) cfF swoF 43 #[] g 0 cap (packF V hok).toArray w eg hcmp hH hB (by rw [hsz]; omega)
  change Calls Tryz.prog 42 _ _ _ at hcon
  rw [hsz] at hcon
  refine hcon.mono ?_
  rintro e w' ⟨rfl, d', m, os, h1, h2, rfl⟩
  obtain ⟨hp, hs⟩ := sortedF_is hV hok d' (by rw [hsz]; exact h1) (by rw [hsz]; exact h2)
  have hh := holdsK_sortWorldK_c filA.cells 2 w g 0 (packF V hok).toArray d' m os hH hB h1.1
  refine ⟨rfl, _, hp, hs, ?_, Nat.lt_of_lt_of_le hB (size_sortWorldK_c filA.cells 2 w g 0 m d' os), below_sortF filA.cells 2 (Below.refl _ _) g 0 m d' os hbg (by omega)⟩
  intro j u hu
  rw [← filA_flat] at hu
  exact at_holdsK (R := filA) hh j u hu
end Go.Proofs.YthonhikkoabhlaaGreatDoor
