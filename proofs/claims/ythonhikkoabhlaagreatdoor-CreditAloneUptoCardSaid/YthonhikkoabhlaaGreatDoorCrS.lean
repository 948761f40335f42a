/-
  The walk of the ledger's contribution, given carried.
-/
import Derived.Test.YthonhikkoabhlaaGreatDoorCrQ
namespace Go.Proofs.YthonhikkoabhlaaGreatDoor
open Go.RowKit

theorem tab_car {d : Dep} (H : Hist d) {v : Fil} (hm : (memD d.revs v).isSome = true) (f : Fil) : (tabD d v).car f ↔ stepCar d (tabD d) v f := by
  rw [tab_fix H hm]
  rfl
/-- What was carried before. -/
def BefS (d : Dep) (v f : Fil) : Prop := ∃ u, prevF d.revs v = some u ∧ (tabD d u).car f
theorem tab_con {d : Dep} (H : Hist d) {v : Fil} (hm : (memD d.revs v).isSome = true) (f : Fil) : (tabD d v).con f ↔ (tabD d v).car f ∧ ¬ BefS d v f := by
  rw [tab_fix H hm]
  rfl
theorem tab_cre {d : Dep} (H : Hist d) {v : Fil} (hm : (memD d.revs v).isSome = true) (f : Fil) :
    (tabD d v).cre f ↔ (∃ u, prevF d.revs v = some u ∧ (tabD d u).cre f) ∨ (tabD d v).car f ∨ ∃ r, r ∈ recsD d.recs v ∧ r.how = 3 ∧ ∃ n, (r.fst ≤ n ∧ n ≤ r.lst) ∧ (tabD d (r.src, n)).con f := by
  rw [tab_fix H hm]
  rfl

def SetRet (d : Dep) (s : Nat) (S : Fil → Prop) (Nc Ne : Fil → Prop) (X : Nat → Prop) (w : World) (e : Ending) (w' : World) : Prop :=
  ∃ b, e = .returned (.map (some b)) ∧ s + 7 ≤ b ∧ ¬ X b ∧ SetIs b S w' ∧ Memo d s Nc Ne X w' ∧ Kp (MS s) w w'
/-- carried answers as it should, for the members that come before the k-th. -/
def CarP (d : Dep) (s k : Nat) : Prop := ∀ v, (memD d.revs v).isSome = true → rkD d.revs v < k → ∀ (w : World) (Nc Ne : Fil → Prop) (X : Nat → Prop), Led d s w → Memo d s Nc Ne X w → (∀ f, Nc f → rkD d.revs v < rkD d.revs f) → (∀ b, X b → b < w.heap.size) →
  Calls Tryz.prog 18 #[.pointer (some ⟨s + 6, 0, none⟩), fileV v] w (SetRet d s (tabD d v).car Nc Ne X w)
def ConP (d : Dep) (s k : Nat) : Prop := ∀ v, (memD d.revs v).isSome = true → rkD d.revs v < k → ∀ (w : World) (Nc Ne : Fil → Prop) (X : Nat → Prop), Led d s w → Memo d s Nc Ne X w → (∀ f, Nc f → rkD d.revs v < rkD d.revs f) → (∀ b, X b → b < w.heap.size) →
  Calls Tryz.prog 19 #[.pointer (some ⟨s + 6, 0, none⟩), fileV v] w (SetRet d s (tabD d v).con Nc Ne X w)
/-- A set, or no map at all. -/
def SetO (o : Option Nat) (S : Fil → Prop) (w : World) : Prop := match o with
  | none => ∀ f, ¬ S f
  | some b => SetIs b S w
theorem SetO.kp {o : Option Nat} {S : Fil → Prop} {w w' : World} {T : Nat → Prop} (h : SetO o S w) (hk : Kp T w w') (hb : ∀ b, o = some b → ¬ T b) : SetO o S w' := by
  cases o with
  | none => exact h
  | some b => exact SetIs.kp h hk (hb b rfl)
theorem SetO.run {o : Option Nat} {S : Fil → Prop} {w : World} (h : SetO o S w) {f : Fil} (hf : FOk f) : ∃ c : Bool, (Instr.lookup 80 (.map o) (fileV f) false).run Tryz.prog w = .ok (.bool c) w ∧ (c = true ↔ S f) := by
  cases o with
  | none => exact ⟨false, km_nil (T := filT) Tryz.underlying80 (zeroBool w) hf false, fun h => (by cases h), fun h' => absurd h' (h f)⟩
  | some b => exact SetIs.run_has h Tryz.underlying80 (zeroBool w) hf
theorem kp_ms {s : Nat} {w w' : World} (h : Below w.heap.size w w') : Kp (MS s) w w' := .of_below h (Nat.le_refl _)

set_option maxRecDepth 100000 in
set_option maxHeartbeats 6400000 in
theorem con_any (d : Dep) (s k : Nat) (hc : CrD d) (H : CarP d s k) : ConP d s k := by
  intro v hm hvk w Nc Ne X hl hme hnc hX
  obtain ⟨L, hkm, hms⟩ := hme.con
  have hvo := hc.fok hm
  obtain ⟨vv, hvv⟩ := Option.isSome_iff_exists.1 hm
  have HL := Lib.hid hl
  have HME := Lib.hid hme
  have HKM := Lib.hid hkm
  have HMS := Lib.hid hms
  have HNC := Lib.hid hnc
  have HX := Lib.hid hX
  have HC := Lib.hid hc
  have HH := Lib.hid H
  have HM := Lib.hid hm
  have HVV := Lib.hid hvv
  have hlb := hl.lb
  have hsl := hkm.lt
  have HVE : Hid (fileV v = .agg #[.string v.1, .int .i64 v.2]) := rfl
  have HPV := Lib.hid (fun w h => previous_any d s v vv w hc h hvv)
  rw [HVE.out] at HPV ⊢
  clear hl hme hkm hms hnc hX hc H hm hvv
  go_enter Tryz.func19, Tryz.ntmps19
  go_upto_region 1 with fail
  generalize hw1 : World.alloc _ (.cells #[.string v.1, .int .i64 v.2] 47) = w1
  have HB1 : Hid (Below w.heap.size w w1) := by
    show Below _ _ _
    rw [← hw1]
    (repeat (first | (with_reducible exact Below.refl _ _) | (with_reducible assumption) | (with_reducible refine Below.setCell ?_ ?_ _; rotate_left; focus (first | exact Nat.le_refl _ | (dsimp only; omega))) | (with_reducible refine Below.drew ?_) | (with_reducible refine below_drewN ?_ _) | (with_reducible refine Below.alloc ?_ ?_ _; rotate_left; focus (first | exact Nat.le_refl _ | (simp; done) | (simp; omega)))))
  have HM1 : Hid (Blk w.heap.size 47 [.string v.1, .int .i64 v.2] w1) := hw1 ▸ Blk.new w 47 _
  clear hw1
  have hz1 := HB1.out.size
  have lt1 := HM1.out.lt
  have HL1 := Lib.hid (HL.out.below HB1.out)
  have HKM1 := Lib.hid (HKM.out.below HB1.out hsl)
  have hS : Below w1.heap.size w1 w1.drew := (Below.refl _ _).drew
  have LK : ∀ x, Below w1.heap.size w1 x → (Instr.lookup 73 (.map (some (s + 5))) (.agg #[.string v.1, .int .i64 v.2]) true).run Tryz.prog x = .ok (.tuple #[(kget L v).getD (.map none), .bool (kget L v).isSome]) x := fun x hx =>
    (HKM1.out.below hx (by omega)).run_get Tryz.underlying73 (zeroSet _) (x := v) hvo true
  (refine wp_region_s (S := Below w1.heap.size w1) (by kernel_rfl) (by kernel_rfl) hS ?_; have hN : Nonempty (Held (Below w1.heap.size w1)) := ⟨⟨_, hS⟩⟩; (obtain ⟨q0, q1⟩ := fun_and2 (fun y : Held (Below w1.heap.size w1) => (HM1.out.below y.ok).c2); have l0 : ∀ y : Held (Below w1.heap.size w1), y.w.cell? ⟨s + 6, 5, none⟩ = some (.map (some (s + 5))) := fun y => (HL1.out.below y.ok).blk.cell 5; have lk := fun y : Held (Below w1.heap.size w1) => LK y.w y.ok; clear LK); (repeat (go_big_quiet_step (fail))); refine wpQuiet_nil ?_; rintro x ⟨⟨_, hx⟩, rfl⟩; clear hN)
  clear q0 q1 l0 lk
  have HBx := Lib.hid (HB1.out.trans (hx.mono hz1))
  have HMx := Lib.hid (HM1.out.below hx)
  clear hx HB1 HM1 HL1 HKM1
  cases hL : kget L v with
  | some u =>
    obtain ⟨b, hu, h7, hxb, hset⟩ : ∃ b, u = .map (some b) ∧ s + 7 ≤ b ∧ ¬ X b ∧ SetIs b (tabD d v).con w := (HMS.out v u hL).elim (fun h => h.1.elim) (fun h => h.2)
    subst hu
    have HE := Lib.hid (And.intro h7 (And.intro hxb hset))
    clear hL h7 hxb hset
    go_wp2_with fail
    go_ret
    exact ⟨b, rfl, HE.out.1, HE.out.2.1, HE.out.2.2.below HBx.out HE.out.2.2.lt, HME.out.below HBx.out, kp_ms HBx.out⟩
  | none =>
    have HLN := Lib.hid hL
    clear hL
    obtain ⟨q0, q1⟩ := HMx.out.c2
    go_wp2_with fail
    refine (HPV.out _ (HL.out.below HBx.out)).mono ?_
    rintro e w2 ⟨⟨⟨up, un⟩, rfl, hu⟩, hb2⟩
    have HB2 := Lib.hid (HBx.out.trans (hb2.mono HBx.out.size))
    have HM2 := Lib.hid (HMx.out.below hb2)
    have HU := Lib.hid hu
    clear hu hb2 q0 q1 HBx HMx
    unfold fileV
    dsimp only
    have HM3 := Lib.hid (HM2.out.alloc (.cells #[.string up, .int .i64 un] 47))
    have HB3 := Lib.hid (HB2.out.alloc HB2.out.size (.cells #[.string up, .int .i64 un] 47))
    have HU3 := Lib.hid (Blk.new w2 47 [.string up, .int .i64 un])
    cases hp : prevF d.revs v with
    | none =>
      have HP := Lib.hid hp
      clear hp
      go_upto_region 8 with fail
      have HL5 := Lib.hid (HL.out.below HB3.out)
      have HE5 := Lib.hid (HME.out.below HB3.out)
      have HK5 : Hid (Kp (MS s) w _) := kp_ms HB3.out
      have HM5 := HM3
      have HB7 : Hid (∀ b, none = some b → s + 7 ≤ b) := fun b e => by cases e
      have HO5 : Hid (SetO none (BefS d v) (w2.alloc (.cells #[.string up, .int .i64 un] 47))) := by
        intro f ⟨u, h, _⟩
        rw [HP.out] at h
        cases h
      have HBL : Hid (∀ b, none = some b → b < (w2.alloc (.cells #[.string up, .int .i64 un] 47)).heap.size) := fun b e => by cases e
      clear HM2 HM3 HB2 HB3 HU HU3
      generalize World.alloc w2 _ = w5 at *
      have hlb5 : s + 7 ≤ w5.heap.size := HL5.out.lb
      have hsz5 : w.heap.size ≤ w5.heap.size := HK5.out.size
      have hbx5 : w.heap.size < w5.heap.size := HM5.out.lt
      obtain ⟨q0, q1⟩ := HM5.out.c2
      have HR6 := Lib.hid (SetIs.new w5)
      have HK6 := Lib.hid (HK5.out.alloc (.map #[] 0))
      have HL6 := Lib.hid (HL5.out.below ((Below.refl _ _).alloc (Nat.le_refl _) (.map #[] 0)))
      have HM6 := Lib.hid (HM5.out.alloc (.map #[] 0))
      have HE6 : Hid (Memo d s Nc Ne (fun b => X b ∨ b = w5.heap.size) (w5.alloc (.map #[] 0))) := (HE5.out.use (Y := fun b => X b ∨ b = w5.heap.size) fun b hb h => h.elim id fun e => absurd hb (by omega)).below ((Below.refl _ _).alloc (Nat.le_refl _) (.map #[] 0))
      have HO6 := Lib.hid (HO5.out.kp (Kp.of_below (S := fun _ => False) ((Below.refl w5.heap.size w5).alloc (Nat.le_refl _) (.map #[] 0)) (Nat.le_refl _)) (fun _ _ h => h))
      have hz6 : (w5.alloc (.map #[] 0)).heap.size = w5.heap.size + 1 := by simp
      have hmm := @run_makeMap Tryz.prog
      go_upto_region 9 with fail
      clear q0 q1 hmm HL5 HM5 HE5 HO5
      have HBO5 := Lib.hid (show ∀ b, none = some b → b < w5.heap.size from fun b e => by have := HBL.out b e; omega)
      generalize hr : w5.heap.size = r at *
      generalize World.alloc w5 (.map #[] 0) = w6 at *
      clear HK5
      obtain ⟨q0, q1⟩ := HM6.out.c2
      go_wp2_with fail
      have hcar := HH.out v HM.out hvk w6 Nc Ne (fun b => X b ∨ b = r) HL6.out HE6.out HNC.out (fun b hb => hb.elim (fun h => by have := HX.out b h; omega) (fun h => by omega))
      rw [HVE.out] at hcar
      refine hcar.mono ?_
      rintro e w7 ⟨c, rfl, hc7, hcx, hcs, hme7, hkp7⟩
      clear hcar
      have hz7 := hkp7.size
      have HK7 := Lib.hid (HK6.out.trans (hkp7.weaken fun b _ h => h))
      have HM7 := Lib.hid (HM6.out.kp hkp7 (by unfold MS; omega))
      have HR7 := Lib.hid (HR6.out.kp hkp7 (by unfold MS; omega))
      have HO7 := Lib.hid (HO6.out.kp hkp7 (fun b e => by have := HB7.out b e; unfold MS; omega))
      have HE7 := Lib.hid hme7
      have HL7 := Lib.hid (HL6.out.kp hkp7)
      have hcr : c ≠ r := fun e => hcx (.inr e)
      clear hkp7 hme7 HK6 HM6 HR6 HO6 HE6 HL6 q0 q1
      obtain ⟨V7, hV7, hVS⟩ := hcs
      obtain ⟨es, clock, hes, hmes⟩ := hV7.open_
      have hcl := hV7.lt
      have hrg := run_range_map (P := Tryz.prog) w7 80 47 4 c es clock Tryz.underlying80 hes
      have hb2 : (w7.alloc (.mapIter (some c) clock #[] clock)).heap[c]? = some (.map es clock) := (Below.heap_alloc w7 _ c hcl).trans hes
      have hr2 : (w7.alloc (.mapIter (some c) clock #[] clock)).heap[w7.heap.size]? = some (.mapIter (some c) clock #[] clock) := heap_alloc_new w7 _
      have HRNG := Lib.hid (KR.start (T := filT) hr2 hb2)
      have hb8 := (Below.refl w7.heap.size w7).alloc (Nat.le_refl _) (.mapIter (some c) clock #[] clock)
      have HK8 := Lib.hid ((Kp.refl (· = r) w7).alloc (.mapIter (some c) clock #[] clock))
      have HR8 := Lib.hid (HR7.out.below hb8 HR7.out.lt)
      have HMQ := Lib.hid hmes
      have HVS := Lib.hid hVS
      have hz8 : w7.heap.size < (w7.alloc (.mapIter (some c) clock #[] clock)).heap.size := by simp
      clear hV7 hes hmes hb2 hr2 hb8 hVS
      go_wp2_with fail
      clear hrg
      have hmr : c ≠ w7.heap.size := by omega
      have hrr : r ≠ w7.heap.size := by omega
      generalize hq7 : w7.heap.size = q at *
      have hqw : w7.heap.size ≤ q := Nat.le_of_eq hq7
      clear hq7
      generalize World.alloc w7 _ = w8 at *
      go_loopw [11] (fun _ wr => ∃ V : List Fil, KR filT c q clock es (V.map fun f => (f, Value.bool true)) wr ∧ SetIs r (fun f => f ∈ V ∧ ¬ BefS d v f) wr ∧ Kp (· = r) w7 wr) (fun _ wr => (leftOf es (rgSeen q wr)).size)
      case atStart => exact ⟨[], HRNG.out, HR8.out.congr fun f => by simp, HK8.out⟩
      case round =>
        obtain ⟨V, hrng, hset, hkp⟩ := hrel
        have HMM : Hid ((leftOf es (rgSeen q wr)).size = es.size - V.length) := by
          have := hrng.left
          show _ = _
          simpa using this
        rcases hrng.step HMQ.out 0 hmr with ⟨hperm, hnx⟩ | ⟨x, W, hx, hlt, hnx, hen, hr', ⟨w3, hw3, hg3⟩, hsz⟩
        · have hVT : ∀ f, f ∈ V ↔ (tabD d v).car f := fun f => by
            rw [← HVS.out f, (map_perm_inj (fun _ _ e => congrArg Prod.fst e) hperm).mem_iff]
          have hs9 : SetIs r (tabD d v).con wr := hset.congr fun f => by rw [hVT f, tab_con HC.out.hist HM.out f]
          have HS9 := Lib.hid hs9
          have HK9 := Lib.hid (HK7.out.fresh hkp fun b hb => by omega)
          have HL9 := Lib.hid (HL7.out.set HR7.out (by omega) hkp)
          have HE9 := Lib.hid (HE7.out.keep hkp fun b hb => ⟨.inr hb, by omega⟩)
          have HM9 := Lib.hid (HM7.out.kp hkp (by omega))
          clear hperm hset hkp hrng hVT hs9 HR8 HK8 HRNG HMM HL7 HE7 HM7 HR7 HO7 HK7
          go_upto_region 14 with fail
          clear hnx
          obtain ⟨L9, hk9, hm9⟩ := HE9.out.con
          have HKM9 := Lib.hid hk9
          have HMS9 := Lib.hid hm9
          have hlb9 := HL9.out.lb
          have hS : Below wr.heap.size wr wr.drew := (Below.refl _ _).drew
          (refine wp_region_mixz (S := Below wr.heap.size wr) [0, 1, 2, 3, 4, 5] 6 [] (by kernel_rfl) (by kernel_rfl) (by intro c a d v w h; cases d <;> exact h) hS ?_; have hN : Nonempty (Held (Below wr.heap.size wr)) := ⟨⟨_, hS⟩⟩)
          obtain ⟨q0, q1⟩ := fun_and2 (fun y : Held (Below wr.heap.size wr) => (HM9.out.below y.ok).c2)
          have l0 : ∀ y : Held (Below wr.heap.size wr), y.w.cell? ⟨s + 6, 5, none⟩ = some (.map (some (s + 5))) := fun y => (HL9.out.below y.ok).blk.cell 5
          (unfold wpMixZ wpRd; (repeat (first | simp only [List.filterMap_cons] | simp only [List.filterMap_nil] | simp only [List.getElem?_toArray] | simp only [List.getElem?_cons_zero] | simp only [List.getElem?_cons_succ])); (try dsimp only); change wpQuiet _ _ _ _ (_ :: _ :: _ :: _ :: _ :: _ :: []) _; (repeat (go_big_quiet_step (fail))); refine wpQuiet_nil ?_; (try dsimp only))
          clear q0 q1 l0 hk9 hm9
          refine wpList_kput rfl _ _ _ 73 rfl 80 Tryz.underlying73 (s + 5) L9 rfl HKM9.out.drew v rfl hvo (.map (some r)) rfl ?_
          intro w9 hm9 hg9 _
          have HE10 : Hid (SetIs r (tabD d v).con w9 ∧ Memo d s Nc Ne X w9 ∧ Kp (MS s) w w9) := by
            have hr9 := HS9.out.of_block (w' := w9) (hg9.block r HS9.out.lt (fun e => by injection e; omega))
            have hdr : wr.grownBy w9 (some (s + 5)) := ⟨hg9.os, hg9.tape, hg9.output, hg9.size, hg9.block⟩
            refine ⟨hr9, (HE9.out.use (Y := X) fun b _ h => .inl h).contrib hdr hm9 ((HMS9.out.use (Y := X) fun b _ h => .inl h).add (fun h => h) HS9.out (by omega) (fun h => by have := HX.out r h; omega)), HK9.out.trans (.of_grown hdr fun b e => by injection e with e; unfold MS; omega)⟩
          clear hm9 hg9
          go_wp2_with fail
          go_ret
          exact ⟨r, rfl, by omega, fun h => by have := HX.out r h; omega, HE10.out.1, HE10.out.2.1, HE10.out.2.2⟩
        · obtain ⟨⟨p, n⟩, hf, rfl⟩ := List.mem_map.1 hx
          dsimp only [filT, fileV] at hnx hen
          have hw3h : w3.heap = wr.heap := by rcases hw3 with rfl | rfl <;> rfl
          have hok : FOk (p, n) := HMQ.out.oks _ hx
          have hk3 : Kp (· = r) w7 w3 := by
            rcases hw3 with rfl | rfl
            · exact hkp
            · exact hkp.drew
          have hkW : Kp (· = r) w7 W := hk3.grown hg3 (fun k e => by injection e with e; exact .inr (by omega))
          have hsW := hset.of_block (w' := W) ((hg3.block r (by rw [hw3h]; exact hset.lt) (fun e => by injection e; omega)).trans (by rw [hw3h]))
          have HKW := Lib.hid (hkW.alloc (.cells #[.string p, .int .i64 n] 47))
          have hoW := HO7.out.kp HKW.out (fun b e => by have := HBO5.out b e; omega)
          obtain ⟨cb, hlk, hcb⟩ := hoW.run hok
          have HCB := Lib.hid hcb
          dsimp only [fileV] at hlk
          have hsW2 := hsW.of_block (Below.heap_alloc W (.cells #[.string p, .int .i64 n] 47) r hsW.lt)
          have HSW := Lib.hid hsW2
          have HRW := Lib.hid (hr'.of (Below.heap_alloc W (.cells #[.string p, .int .i64 n] 47) _ hr'.ltr) (Below.heap_alloc W (.cells #[.string p, .int .i64 n] 47) _ hr'.ltb))
          have HV : Hid (V.length < es.size) := by
            show _ < _
            simpa using hlt
          clear hrng hset hkp hx hlt hr' hw3 hg3 hw3h hk3 hkW hsW hsW2 hoW hcb hf
          cases cb with
          | true =>
            go_wp2_with fail
            go_roundw
            case rel =>
              refine ⟨V ++ [(p, n)], by simpa using HRW.out, HSW.out.congr fun f => ?_, ?_⟩
              · have := HCB.out.1 rfl
                constructor
                · exact fun h => ⟨List.mem_append_left _ h.1, h.2⟩
                · rintro ⟨h1, h2⟩
                  rcases List.mem_append.1 h1 with h1 | h1
                  · exact ⟨h1, h2⟩
                  · rw [List.mem_singleton] at h1
                    subst h1
                    exact absurd this h2
              · exact HKW.out
            case measure =>
              have h5 := HRW.out.left
              have h6 := HV.out
              rw [HMM.out, h5]
              simp
              omega
          | false =>
            obtain ⟨L', hL', hLS⟩ := HSW.out
            have HLS := Lib.hid hLS
            clear hLS
            go_wp2_with (at_mapUpdate; refine wpList_kput rfl _ _ _ 80 rfl 4 Tryz.underlying80 r _ rfl hL' (p, n) rfl hok _ rfl ?_; intro w4 hm4 hg4 hs4)
            have h4 := HRW.out.of (hg4.block _ HRW.out.ltr (fun e => by injection e; omega)) (hg4.block _ HRW.out.ltb (fun e => by injection e with e; exact hcr e))
            go_roundw
            case rel =>
              refine ⟨V ++ [(p, n)], by simpa using h4, (SetIs.kput hm4 HLS.out).congr fun f => ?_, HKW.out.grown hg4 fun k e => by injection e with e; exact .inl e.symm⟩
              have hno : ¬ BefS d v (p, n) := fun h => by have := HCB.out.2 h; cases this
              constructor
              · rintro (h | h)
                · exact ⟨List.mem_append_left _ h.1, h.2⟩
                · rw [h]
                  exact ⟨by simp, hno⟩
              · rintro ⟨h1, h2⟩
                rcases List.mem_append.1 h1 with h1 | h1
                · exact .inl ⟨h1, h2⟩
                · exact .inr (by simpa using h1)
            case measure =>
              have h5 := h4.left
              have h6 := HV.out
              rw [HMM.out, h5]
              simp
              omega
    | some u' =>
      obtain rfl : (up, un) = u' := HU.out u' hp
      have HP := Lib.hid hp
      have hum := (prevF_mem hp).1
      have hur := HC.out.hist.prev _ _ hp
      clear hp HU
      obtain ⟨q0, q1⟩ := HU3.out.c2
      have hz3 : (w2.alloc (.cells #[.string up, .int .i64 un] 47)).heap.size = w2.heap.size + 1 := by simp
      have hcar := HH.out (up, un) hum (by omega) (w2.alloc (.cells #[.string up, .int .i64 un] 47)) Nc Ne X (HL.out.below HB3.out) (HME.out.below HB3.out) (fun f hf => by have := HNC.out f hf; omega) (fun b hb => by have := HX.out b hb; have := HB3.out.size; omega)
      rw [show fileV (up, un) = .agg #[.string up, .int .i64 un] from rfl] at hcar
      have HCA := Lib.hid hcar
      have hlt3 : w.heap.size < (w2.alloc (.cells #[.string up, .int .i64 un] 47)).heap.size := HM3.out.lt
      have hle3 : w.heap.size ≤ (w2.alloc (.cells #[.string up, .int .i64 un] 47)).heap.size := HB3.out.size
      clear hcar
      go_upto_region 7 with fail
      clear hz3
      generalize World.alloc w2 _ = w3 at *
      go_wp2_with fail
      refine HCA.out.mono ?_
      rintro e w4 ⟨bu, rfl, hb7, hbx, hbs, hme4, hkp4⟩
      have HK5 := Lib.hid ((kp_ms (s := s) HB3.out).trans hkp4)
      have HL5 := Lib.hid ((HL.out.below HB3.out).kp hkp4)
      have HE5 := Lib.hid hme4
      have HM5 := Lib.hid (HM3.out.kp hkp4 (by unfold MS; omega))
      have HB7 : Hid (∀ b, some bu = some b → s + 7 ≤ b) := fun b e => by injection e with e; omega
      have HO5 : Hid (SetO (some bu) (BefS d v) w4) := SetIs.congr hbs fun f => by
        constructor
        · exact fun h => ⟨_, HP.out, h⟩
        · rintro ⟨u, h1, h2⟩
          rw [HP.out] at h1
          cases h1
          exact h2
      have HBL : Hid (∀ b, some bu = some b → b < w4.heap.size) := fun b e => by injection e with e; rw [← e]; exact hbs.lt
      clear hb7 hbx hbs hme4 hkp4 HM2 HM3 HB2 HB3 HU3 HCA q0 q1 hle3 hlt3
      go_upto_region 8 with fail
      generalize w4 = w5 at *
      have hlb5 : s + 7 ≤ w5.heap.size := HL5.out.lb
      have hsz5 : w.heap.size ≤ w5.heap.size := HK5.out.size
      have hbx5 : w.heap.size < w5.heap.size := HM5.out.lt
      obtain ⟨q0, q1⟩ := HM5.out.c2
      have HR6 := Lib.hid (SetIs.new w5)
      have HK6 := Lib.hid (HK5.out.alloc (.map #[] 0))
      have HL6 := Lib.hid (HL5.out.below ((Below.refl _ _).alloc (Nat.le_refl _) (.map #[] 0)))
      have HM6 := Lib.hid (HM5.out.alloc (.map #[] 0))
      have HE6 : Hid (Memo d s Nc Ne (fun b => X b ∨ b = w5.heap.size) (w5.alloc (.map #[] 0))) := (HE5.out.use (Y := fun b => X b ∨ b = w5.heap.size) fun b hb h => h.elim id fun e => absurd hb (by omega)).below ((Below.refl _ _).alloc (Nat.le_refl _) (.map #[] 0))
      have HO6 := Lib.hid (HO5.out.kp (Kp.of_below (S := fun _ => False) ((Below.refl w5.heap.size w5).alloc (Nat.le_refl _) (.map #[] 0)) (Nat.le_refl _)) (fun _ _ h => h))
      have hz6 : (w5.alloc (.map #[] 0)).heap.size = w5.heap.size + 1 := by simp
      have hmm := @run_makeMap Tryz.prog
      go_upto_region 9 with fail
      clear q0 q1 hmm HL5 HM5 HE5 HO5
      have HBO5 := Lib.hid (show ∀ b, (some bu) = some b → b < w5.heap.size from fun b e => by have := HBL.out b e; omega)
      generalize hr : w5.heap.size = r at *
      generalize World.alloc w5 (.map #[] 0) = w6 at *
      clear HK5
      obtain ⟨q0, q1⟩ := HM6.out.c2
      go_wp2_with fail
      have hcar := HH.out v HM.out hvk w6 Nc Ne (fun b => X b ∨ b = r) HL6.out HE6.out HNC.out (fun b hb => hb.elim (fun h => by have := HX.out b h; omega) (fun h => by omega))
      rw [HVE.out] at hcar
      refine hcar.mono ?_
      rintro e w7 ⟨c, rfl, hc7, hcx, hcs, hme7, hkp7⟩
      clear hcar
      have hz7 := hkp7.size
      have HK7 := Lib.hid (HK6.out.trans (hkp7.weaken fun b _ h => h))
      have HM7 := Lib.hid (HM6.out.kp hkp7 (by unfold MS; omega))
      have HR7 := Lib.hid (HR6.out.kp hkp7 (by unfold MS; omega))
      have HO7 := Lib.hid (HO6.out.kp hkp7 (fun b e => by have := HB7.out b e; unfold MS; omega))
      have HE7 := Lib.hid hme7
      have HL7 := Lib.hid (HL6.out.kp hkp7)
      have hcr : c ≠ r := fun e => hcx (.inr e)
      clear hkp7 hme7 HK6 HM6 HR6 HO6 HE6 HL6 q0 q1
      obtain ⟨V7, hV7, hVS⟩ := hcs
      obtain ⟨es, clock, hes, hmes⟩ := hV7.open_
      have hcl := hV7.lt
      have hrg := run_range_map (P := Tryz.prog) w7 80 47 4 c es clock Tryz.underlying80 hes
      have hb2 : (w7.alloc (.mapIter (some c) clock #[] clock)).heap[c]? = some (.map es clock) := (Below.heap_alloc w7 _ c hcl).trans hes
      have hr2 : (w7.alloc (.mapIter (some c) clock #[] clock)).heap[w7.heap.size]? = some (.mapIter (some c) clock #[] clock) := heap_alloc_new w7 _
      have HRNG := Lib.hid (KR.start (T := filT) hr2 hb2)
      have hb8 := (Below.refl w7.heap.size w7).alloc (Nat.le_refl _) (.mapIter (some c) clock #[] clock)
      have HK8 := Lib.hid ((Kp.refl (· = r) w7).alloc (.mapIter (some c) clock #[] clock))
      have HR8 := Lib.hid (HR7.out.below hb8 HR7.out.lt)
      have HMQ := Lib.hid hmes
      have HVS := Lib.hid hVS
      have hz8 : w7.heap.size < (w7.alloc (.mapIter (some c) clock #[] clock)).heap.size := by simp
      clear hV7 hes hmes hb2 hr2 hb8 hVS
      go_wp2_with fail
      clear hrg
      have hmr : c ≠ w7.heap.size := by omega
      have hrr : r ≠ w7.heap.size := by omega
      generalize hq7 : w7.heap.size = q at *
      have hqw : w7.heap.size ≤ q := Nat.le_of_eq hq7
      clear hq7
      generalize World.alloc w7 _ = w8 at *
      go_loopw [11] (fun _ wr => ∃ V : List Fil, KR filT c q clock es (V.map fun f => (f, Value.bool true)) wr ∧ SetIs r (fun f => f ∈ V ∧ ¬ BefS d v f) wr ∧ Kp (· = r) w7 wr) (fun _ wr => (leftOf es (rgSeen q wr)).size)
      case atStart => exact ⟨[], HRNG.out, HR8.out.congr fun f => by simp, HK8.out⟩
      case round =>
        obtain ⟨V, hrng, hset, hkp⟩ := hrel
        have HMM : Hid ((leftOf es (rgSeen q wr)).size = es.size - V.length) := by
          have := hrng.left
          show _ = _
          simpa using this
        rcases hrng.step HMQ.out 0 hmr with ⟨hperm, hnx⟩ | ⟨x, W, hx, hlt, hnx, hen, hr', ⟨w3, hw3, hg3⟩, hsz⟩
        · have hVT : ∀ f, f ∈ V ↔ (tabD d v).car f := fun f => by
            rw [← HVS.out f, (map_perm_inj (fun _ _ e => congrArg Prod.fst e) hperm).mem_iff]
          have hs9 : SetIs r (tabD d v).con wr := hset.congr fun f => by rw [hVT f, tab_con HC.out.hist HM.out f]
          have HS9 := Lib.hid hs9
          have HK9 := Lib.hid (HK7.out.fresh hkp fun b hb => by omega)
          have HL9 := Lib.hid (HL7.out.set HR7.out (by omega) hkp)
          have HE9 := Lib.hid (HE7.out.keep hkp fun b hb => ⟨.inr hb, by omega⟩)
          have HM9 := Lib.hid (HM7.out.kp hkp (by omega))
          clear hperm hset hkp hrng hVT hs9 HR8 HK8 HRNG HMM HL7 HE7 HM7 HR7 HO7 HK7
          go_upto_region 14 with fail
          clear hnx
          obtain ⟨L9, hk9, hm9⟩ := HE9.out.con
          have HKM9 := Lib.hid hk9
          have HMS9 := Lib.hid hm9
          have hlb9 := HL9.out.lb
          have hS : Below wr.heap.size wr wr.drew := (Below.refl _ _).drew
          (refine wp_region_mixz (S := Below wr.heap.size wr) [0, 1, 2, 3, 4, 5] 6 [] (by kernel_rfl) (by kernel_rfl) (by intro c a d v w h; cases d <;> exact h) hS ?_; have hN : Nonempty (Held (Below wr.heap.size wr)) := ⟨⟨_, hS⟩⟩)
          obtain ⟨q0, q1⟩ := fun_and2 (fun y : Held (Below wr.heap.size wr) => (HM9.out.below y.ok).c2)
          have l0 : ∀ y : Held (Below wr.heap.size wr), y.w.cell? ⟨s + 6, 5, none⟩ = some (.map (some (s + 5))) := fun y => (HL9.out.below y.ok).blk.cell 5
          (unfold wpMixZ wpRd; (repeat (first | simp only [List.filterMap_cons] | simp only [List.filterMap_nil] | simp only [List.getElem?_toArray] | simp only [List.getElem?_cons_zero] | simp only [List.getElem?_cons_succ])); (try dsimp only); change wpQuiet _ _ _ _ (_ :: _ :: _ :: _ :: _ :: _ :: []) _; (repeat (go_big_quiet_step (fail))); refine wpQuiet_nil ?_; (try dsimp only))
          clear q0 q1 l0 hk9 hm9
          refine wpList_kput rfl _ _ _ 73 rfl 80 Tryz.underlying73 (s + 5) L9 rfl HKM9.out.drew v rfl hvo (.map (some r)) rfl ?_
          intro w9 hm9 hg9 _
          have HE10 : Hid (SetIs r (tabD d v).con w9 ∧ Memo d s Nc Ne X w9 ∧ Kp (MS s) w w9) := by
            have hr9 := HS9.out.of_block (w' := w9) (hg9.block r HS9.out.lt (fun e => by injection e; omega))
            have hdr : wr.grownBy w9 (some (s + 5)) := ⟨hg9.os, hg9.tape, hg9.output, hg9.size, hg9.block⟩
            refine ⟨hr9, (HE9.out.use (Y := X) fun b _ h => .inl h).contrib hdr hm9 ((HMS9.out.use (Y := X) fun b _ h => .inl h).add (fun h => h) HS9.out (by omega) (fun h => by have := HX.out r h; omega)), HK9.out.trans (.of_grown hdr fun b e => by injection e with e; unfold MS; omega)⟩
          clear hm9 hg9
          go_wp2_with fail
          go_ret
          exact ⟨r, rfl, by omega, fun h => by have := HX.out r h; omega, HE10.out.1, HE10.out.2.1, HE10.out.2.2⟩
        · obtain ⟨⟨p, n⟩, hf, rfl⟩ := List.mem_map.1 hx
          dsimp only [filT, fileV] at hnx hen
          have hw3h : w3.heap = wr.heap := by rcases hw3 with rfl | rfl <;> rfl
          have hok : FOk (p, n) := HMQ.out.oks _ hx
          have hk3 : Kp (· = r) w7 w3 := by
            rcases hw3 with rfl | rfl
            · exact hkp
            · exact hkp.drew
          have hkW : Kp (· = r) w7 W := hk3.grown hg3 (fun k e => by injection e with e; exact .inr (by omega))
          have hsW := hset.of_block (w' := W) ((hg3.block r (by rw [hw3h]; exact hset.lt) (fun e => by injection e; omega)).trans (by rw [hw3h]))
          have HKW := Lib.hid (hkW.alloc (.cells #[.string p, .int .i64 n] 47))
          have hoW := HO7.out.kp HKW.out (fun b e => by have := HBO5.out b e; omega)
          obtain ⟨cb, hlk, hcb⟩ := hoW.run hok
          have HCB := Lib.hid hcb
          dsimp only [fileV] at hlk
          have hsW2 := hsW.of_block (Below.heap_alloc W (.cells #[.string p, .int .i64 n] 47) r hsW.lt)
          have HSW := Lib.hid hsW2
          have HRW := Lib.hid (hr'.of (Below.heap_alloc W (.cells #[.string p, .int .i64 n] 47) _ hr'.ltr) (Below.heap_alloc W (.cells #[.string p, .int .i64 n] 47) _ hr'.ltb))
          have HV : Hid (V.length < es.size) := by
            show _ < _
            simpa using hlt
          clear hrng hset hkp hx hlt hr' hw3 hg3 hw3h hk3 hkW hsW hsW2 hoW hcb hf
          cases cb with
          | true =>
            go_wp2_with fail
            go_roundw
            case rel =>
              refine ⟨V ++ [(p, n)], by simpa using HRW.out, HSW.out.congr fun f => ?_, ?_⟩
              · have := HCB.out.1 rfl
                constructor
                · exact fun h => ⟨List.mem_append_left _ h.1, h.2⟩
                · rintro ⟨h1, h2⟩
                  rcases List.mem_append.1 h1 with h1 | h1
                  · exact ⟨h1, h2⟩
                  · rw [List.mem_singleton] at h1
                    subst h1
                    exact absurd this h2
              · exact HKW.out
            case measure =>
              have h5 := HRW.out.left
              have h6 := HV.out
              rw [HMM.out, h5]
              simp
              omega
          | false =>
            obtain ⟨L', hL', hLS⟩ := HSW.out
            have HLS := Lib.hid hLS
            clear hLS
            go_wp2_with (at_mapUpdate; refine wpList_kput rfl _ _ _ 80 rfl 4 Tryz.underlying80 r _ rfl hL' (p, n) rfl hok _ rfl ?_; intro w4 hm4 hg4 hs4)
            have h4 := HRW.out.of (hg4.block _ HRW.out.ltr (fun e => by injection e; omega)) (hg4.block _ HRW.out.ltb (fun e => by injection e with e; exact hcr e))
            go_roundw
            case rel =>
              refine ⟨V ++ [(p, n)], by simpa using h4, (SetIs.kput hm4 HLS.out).congr fun f => ?_, HKW.out.grown hg4 fun k e => by injection e with e; exact .inl e.symm⟩
              have hno : ¬ BefS d v (p, n) := fun h => by have := HCB.out.2 h; cases this
              constructor
              · rintro (h | h)
                · exact ⟨List.mem_append_left _ h.1, h.2⟩
                · rw [h]
                  exact ⟨by simp, hno⟩
              · rintro ⟨h1, h2⟩
                rcases List.mem_append.1 h1 with h1 | h1
                · exact .inl ⟨h1, h2⟩
                · exact .inr (by simpa using h1)
            case measure =>
              have h5 := h4.left
              have h6 := HV.out
              rw [HMM.out, h5]
              simp
              omega
end Go.Proofs.YthonhikkoabhlaaGreatDoor
