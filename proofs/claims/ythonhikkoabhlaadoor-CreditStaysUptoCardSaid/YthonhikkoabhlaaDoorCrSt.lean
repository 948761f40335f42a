/-
  CreditStays returns true for all changes and names that are not longer than 1048576 bytes; what was in memory before the call stays as it was (printed by mkstay.py).
-/
import Derived.Test.YthonhikkoabhlaaDoorCrY
import Derived.Test.YthonhikkoabhlaaDoorCrW
import Derived.Test.YthonhikkoabhlaaDoorDpM
import Derived.Test.YthonhikkoabhlaaDoorDpN
import Derived.Test.YthonhikkoabhlaaDoorDpA
namespace Go.Proofs.YthonhikkoabhlaaDoor
open Go.RowKit

theorem innP {α : Type} [Inhabited α] (lt : α → α → Bool) (a b : Nat) : ∀ (j : Nat) (d : Array α), j < b → b ≤ d.size → Sort.PermIn a b d (Sort.insInner lt a j d)
  | 0, d, _, _ => by rw [Sort.insInner]; exact Sort.permIn_refl d a b
  | j + 1, d, hj, hb => by
    rw [Sort.insInner]
    split
    · rename_i h
      rw [Bool.and_eq_true, decide_eq_true_eq] at h
      have h1 := Sort.swp_permIn d a b (j + 1) j (by omega) hj (by omega) (by omega) hb
      exact Sort.permIn_trans _ _ _ a b h1 (innP lt a b j _ (by omega) (by rw [h1.1]; exact hb))
    · exact Sort.permIn_refl d a b
theorem outP {α : Type} [Inhabited α] (lt : α → α → Bool) (a b : Nat) : ∀ (n i : Nat) (d : Array α), b - i = n → b ≤ d.size → Sort.PermIn a b d (Sort.insOuter lt a b i d)
  | 0, i, d, hn, _ => by rw [Sort.insOuter, if_neg (by omega)]; exact Sort.permIn_refl d a b
  | n + 1, i, d, hn, hb => by
    rw [Sort.insOuter, if_pos (by omega)]
    have h1 := innP lt a b i d (by omega) hb
    exact Sort.permIn_trans _ _ _ a b h1 (outP lt a b n (i + 1) _ (by omega) (by rw [h1.1]; exact hb))
theorem sortR_perm (V : List Rcd) : (sortR V).Perm V := by
  have h := (outP befR 0 V.length V.length 0 V.toArray rfl (by simp)).2.2
  have hs := (outP befR 0 V.length V.length 0 V.toArray rfl (by simp)).1
  have e1 : (V.toArray.extract 0 V.length) = V.toArray := by simp
  have e2 : (Sort.insOuter befR 0 V.length 0 V.toArray).extract 0 V.length = Sort.insOuter befR 0 V.length 0 V.toArray := by
    exact Array.extract_eq_self_of_le (by rw [hs]; simp)
  rw [e1, e2] at h
  exact h
/-- A later change leaves the sets of the members that there were. -/
theorem step_dep {d d' : Dep} {f : Fil} (t : Fil → PS) (hp : prevF d'.revs f = prevF d.revs f) (ho : origD d'.recs f = origD d.recs f) (hr : ∀ r, r ∈ recsD d'.recs f ↔ r ∈ recsD d.recs f) : stepS d' t f = stepS d t f := by
  have e1 : stepCar d' t f = stepCar d t f := by
    funext g
    unfold stepCar
    simp only [hp, ho, hr]
  unfold stepS
  rw [e1]
  simp only [hp, hr]
theorem orig_of_mem {R R' : List Rcd} {f : Fil} (hr : ∀ r, r ∈ recsD R' f ↔ r ∈ recsD R f) : origD R' f = origD R f := by
  unfold origD
  have h1 : (recsD R' f).isEmpty = (recsD R f).isEmpty := by
    rw [Bool.eq_iff_iff, List.isEmpty_iff, List.isEmpty_iff]
    constructor
    · intro h
      refine List.eq_nil_iff_forall_not_mem.2 fun r h2 => ?_
      have := (hr r).2 h2
      rw [h] at this
      cases this
    · intro h
      refine List.eq_nil_iff_forall_not_mem.2 fun r h2 => ?_
      have := (hr r).1 h2
      rw [h] at this
      cases this
  have h2 : ((recsD R' f).any fun r => r.how == 4) = ((recsD R f).any fun r => r.how == 4) := by
    rw [Bool.eq_iff_iff, List.any_eq_true, List.any_eq_true]
    exact exists_congr fun r => and_congr_left fun _ => hr r
  rw [h1, h2]
theorem prevF_app {d : Dep} {c : Chg} (H : Hist d) {f : Fil} (hm : (memD d.revs f).isSome = true) : prevF (appD d c).revs f = prevF d.revs f := by
  obtain ⟨v, hv⟩ := Option.isSome_iff_exists.1 hm
  have h1 : memD (appD d c).revs f = some v := (mem_app (e := c.edits.map (madeR c.num)) hm).1.trans hv
  cases hp : prevF d.revs f with
  | some u => exact prevF_of h1 (prevF_before hv hp) (by
      have h2 := (prevF_mem hp).1
      show (memD (d.revs ++ c.edits.map (madeR c.num)) u).isSome = true
      rw [(mem_app h2).1]
      exact h2)
  | none =>
    cases hq : prevF (appD d c).revs f with
    | none => rfl
    | some u =>
      have h2 := H.has f v hv (beforeF_act (prevF_before h1 hq)).1
      rw [hp] at h2
      cases h2
/-- A record of a change leads to a revision that is new. -/
theorem rec_new {d : Dep} {c : Chg} (hok : DepOk d) (hc : ChkOk d.revs d.recs.length c) {r : Rcd} (hr : r ∈ c.recs) : memD d.revs (r.dst, r.num) = none := by
  obtain ⟨i, hi⟩ := List.mem_iff_getElem?.1 hr
  obtain ⟨t, ht⟩ := hc.record i r hi
  cases hm' : memD d.revs (r.dst, r.num) with
  | none => rfl
  | some v =>
    have h2 := mem_le hok.asc hm'
    obtain ⟨j, hj⟩ := hc.at ht.mem
    have h3 := hj.base
    have h4 := ht.num
    rw [ht.path] at h3
    omega
theorem recs_app {d : Dep} {c : Chg} (hok : DepOk d) (hc : ChkOk d.revs d.recs.length c) {f : Fil} (hm : (memD d.revs f).isSome = true) (r : Rcd) : r ∈ recsD (appD d c).recs f ↔ r ∈ recsD d.recs f := by
  rw [recsD_mem, recsD_mem, show (appD d c).recs = sortR (d.recs ++ c.recs) from rfl, (sortR_perm _).mem_iff, List.mem_append]
  refine and_congr_left fun e => ⟨fun h => h.elim id fun h => ?_, .inl⟩
  have := rec_new hok hc h
  rw [e] at this
  rw [this] at hm
  cases hm
theorem tab_app {d : Dep} {c : Chg} (h : Blt d) (hc : ChkOk d.revs d.recs.length c) (hm : ∀ x ∈ sortR (d.recs ++ c.recs), x ∈ d.recs ++ c.recs) (hl : (sortR (d.recs ++ c.recs)).length = (d.recs ++ c.recs).length) :
    ∀ (k : Nat) (f : Fil), rkD d.revs f ≤ k → (memD d.revs f).isSome = true → tabD (appD d c) f = tabD d f := by
  have H := h.hist
  have H' : Hist (appD d c) := (Blt.step h hc hm hl).hist
  intro k
  induction k using Nat.strongRecOn with
  | ind k ih =>
    intro f hk hf
    have hf' : (memD (appD d c).revs f).isSome = true := by
      show (memD (d.revs ++ c.edits.map (madeR c.num)) f).isSome = true
      rw [(mem_app hf).1]
      exact hf
    rw [tab_fix H' hf', tab_fix H hf, step_dep (d := d) (d' := appD d c) _ (prevF_app H hf) (orig_of_mem (recs_app h.ok hc hf)) (recs_app h.ok hc hf)]
    exact step_congr H fun u hu hmu => ih (rkD d.revs u) (by omega) u (Nat.le_refl _) hmu
theorem stay_facts {d : Dep} {c : Chg} {f : Fil} (h : Blt d) (hc : ChkOk d.revs d.recs.length c) (hm : ∀ x ∈ sortR (d.recs ++ c.recs), x ∈ d.recs ++ c.recs) (hl : (sortR (d.recs ++ c.recs)).length = (d.recs ++ c.recs).length) (hs : (getD' d.revs f.1 f.2).isSome = true) :
    errC (appD d c) f = errC d f ∧ tabD (appD d c) f = tabD d f := by
  cases hf : memD d.revs f with
  | some v =>
    have hms : (memD d.revs f).isSome = true := by rw [hf]; rfl
    refine ⟨?_, tab_app h hc hm hl _ f (Nat.le_refl _) hms⟩
    have h2 : (memD (appD d c).revs f).isSome = true := by
      show (memD (d.revs ++ c.edits.map (madeR c.num)) f).isSome = true
      rw [(mem_app hms).1]
      exact hms
    rw [errC_mem h2, errC_mem hms]
  | none =>
    have h2 : memD (appD d c).revs f = none := by
      cases hq : memD (appD d c).revs f with
      | none => rfl
      | some v =>
        obtain ⟨x, hx, rfl, _, he⟩ := mem_made hq hf
        obtain ⟨u, hu⟩ := Option.isSome_iff_exists.1 hs
        obtain ⟨h3, h4⟩ := get_fil hu
        have h5 := (Blt.step h hc hm hl).hist.uniq
        have h6 := (List.pairwise_append.1 (show (d.revs ++ c.edits.map (madeR c.num)).Pairwise _ from h5)).2.2 u h3 _ (List.mem_map_of_mem hx)
        exact absurd (h4.trans he) h6
    exact ⟨by rw [errC_no h2, errC_no hf], by rw [tab_out h2, tab_out hf]⟩

abbrev Ch5 := { cs : List Value // cs.length = 5 ∧ ∀ u ∈ cs, u.oneCell' = true }
def chK : RowK Ch5 := ⟨fun x => x.1, 5, by decide, fun x => x.2.1, fun x u hu => x.2.2 u hu⟩
def ChQ (cs : List Value) (c : Chg) (w : World) : Prop := ∃ (E : Option Addr) (ec : Nat) (R : Option Addr) (rc : Nat), cs = [.int .i64 c.num, .string c.client, .string c.text, .slice E c.edits.length ec, .slice R c.recs.length rc] ∧ edtK.In E c.edits w ∧ rcdK.In R c.recs w
theorem ChQ.below {cs : List Value} {c : Chg} {w w' : World} (h : ChQ cs c w) (hb : Below w.heap.size w w') : ChQ cs c w' := by
  obtain ⟨E, ec, R, rc, h1, h2, h3⟩ := h
  exact ⟨E, ec, R, rc, h1, h2.below hb, h3.below hb⟩
def ChR (rs : List Ch5) (l : List Chg) (w : World) : Prop := rs.length = l.length ∧ ∀ (i : Nat) (c : Chg) (r : Ch5), l[i]? = some c → rs[i]? = some r → ChQ r.1 c w
theorem ChR.below {rs : List Ch5} {l : List Chg} {w w' : World} (h : ChR rs l w) (hb : Below w.heap.size w w') : ChR rs l w' := ⟨h.1, fun i c r h1 h2 => (h.2 i c r h1 h2).below hb⟩
theorem ChR.append {rs rs' : List Ch5} {l l' : List Chg} {w : World} (h : ChR rs l w) (h' : ChR rs' l' w) : ChR (rs ++ rs') (l ++ l') w := by
  refine ⟨by rw [List.length_append, List.length_append, h.1, h'.1], fun i c r h1 h2 => ?_⟩
  by_cases hi : i < l.length
  · rw [List.getElem?_append_left hi] at h1
    rw [List.getElem?_append_left (by rw [h.1]; exact hi)] at h2
    exact h.2 i c r h1 h2
  · rw [List.getElem?_append_right (by omega)] at h1
    rw [List.getElem?_append_right (by rw [h.1]; omega), h.1] at h2
    exact h'.2 _ c r h1 h2
theorem chs_go {b : Nat} {w : World} : ∀ (l : List Chg) (off : Nat), (∀ i c, l[i]? = some c → ChAt w b (off + i * 5) c) → ∃ rs : List Ch5, chK.At b off rs w ∧ ChR rs l w
  | [], off, _ => ⟨[], (fun j u hu => by simp [RowK.flat] at hu), rfl, fun i c r h1 _ => by simp at h1⟩
  | x :: r, off, h => by
    obtain ⟨rs, hat, hr⟩ := chs_go r (off + 5) (fun i c hc => by
      have := h (i + 1) c (by simpa using hc)
      rwa [show off + (i + 1) * 5 = off + 5 + i * 5 by omega] at this)
    obtain ⟨E, ec, R, rc, ⟨h0, h1, h2, h3, h4⟩, h5, h6⟩ := h 0 x rfl
    simp only [Nat.zero_mul, Nat.add_zero] at h0 h1 h2 h3 h4
    have hone : ∀ u ∈ ([.int .i64 x.num, .string x.client, .string x.text, .slice E x.edits.length ec, .slice R x.recs.length rc] : List Value), u.oneCell' = true := by
      intro u hu
      simp only [List.mem_cons, List.not_mem_nil, or_false] at hu
      rcases hu with rfl | rfl | rfl | rfl | rfl <;> rfl
    refine ⟨⟨_, rfl, hone⟩ :: rs, fun j u hu => ?_, by simp [hr.1], fun i c q hc hq => ?_⟩
    · have hu' : ([.int .i64 x.num, .string x.client, .string x.text, .slice E x.edits.length ec, .slice R x.recs.length rc] ++ chK.flat rs : List Value)[j]? = some u := hu
      by_cases hj : j < 5
      · rw [List.getElem?_append_left (by simpa using hj)] at hu'
        have : j = 0 ∨ j = 1 ∨ j = 2 ∨ j = 3 ∨ j = 4 := by omega
        rcases this with rfl | rfl | rfl | rfl | rfl
        · exact h0.trans hu'
        · exact h1.trans hu'
        · exact h2.trans hu'
        · exact h3.trans hu'
        · exact h4.trans hu'
      · rw [List.getElem?_append_right (by simp; omega)] at hu'
        have := hat (j - 5) u (by simpa using hu')
        rwa [show off + 5 + (j - 5) = off + j by omega] at this
    · cases i with
      | zero =>
        simp only [List.getElem?_cons_zero, Option.some.injEq] at hc hq
        subst hc hq
        exact ⟨E, ec, R, rc, rfl, h5, h6⟩
      | succ i =>
        rw [List.getElem?_cons_succ] at hc hq
        exact hr.2 i c q hc hq
theorem chs_rows {A : Option Addr} {l : List Chg} {w : World} (h : ChsIn A l w) : ∃ rs : List Ch5, chK.In A rs w ∧ ChR rs l w := by
  by_cases h0 : 0 < l.length
  · obtain ⟨b, off, e, hl, hc⟩ := h h0
    obtain ⟨rs, hat, hr⟩ := chs_go l off hc
    exact ⟨rs, fun _ => ⟨b, off, e, hl, hat⟩, hr⟩
  · obtain rfl : l = [] := List.length_eq_zero_iff.1 (by omega)
    exact ⟨[], RowK.In.nil _ _, rfl, fun i c r h1 _ => by simp at h1⟩
theorem chs_of {A : Option Addr} {rs : List Ch5} {l : List Chg} {w : World} (h : chK.In A rs w) (hr : ChR rs l w) : ChsIn A l w := fun h0 => by
  obtain ⟨b, off, e, hl, hat⟩ := h (by rw [hr.1]; exact h0)
  refine ⟨b, off, e, hl, fun i c hc => ?_⟩
  have hi : i < rs.length := by rw [hr.1]; exact (List.getElem?_eq_some_iff.1 hc).1
  obtain ⟨E, ec, R, rc, hq, h5, h6⟩ := hr.2 i c _ hc (List.getElem?_eq_getElem hi)
  have hg := fun j u (hu : (chK.cells rs[i])[j]? = some u) => hat.get (List.getElem?_eq_getElem hi) hu
  have hq' : chK.cells rs[i] = _ := hq
  rw [hq'] at hg
  have e5 : chK.n = 5 := rfl
  have g0 := hg 0 _ rfl
  have g1 := hg 1 _ rfl
  have g2 := hg 2 _ rfl
  have g3 := hg 3 _ rfl
  have g4 := hg 4 _ rfl
  rw [e5] at g0 g1 g2 g3 g4
  exact ⟨E, ec, R, rc, ⟨g0, g1, g2, g3, g4⟩, h5, h6⟩
def zeroCh : Value := .agg #[.int .i64 0, .string ⟨#[]⟩, .string ⟨#[]⟩, .slice none 0 0, .slice none 0 0]
theorem Tryd.infoChg14 : (Tryd.prog.info? 58).map (fun i => (i.zero, i.size, i.bytes)) = some (some zeroCh, 5, 88) := by kernel_rfl

set_option maxRecDepth 100000 in
set_option maxHeartbeats 12800000 in
theorem stays_any (l : List Chg) (c : Chg) (A E R : Option Addr) (ca ec rc : Nat) (p : ByteArray) (n : Int) (w : World) (hA : ChsIn A l w) (hE : edtK.In E c.edits w) (hR : rcdK.In R c.recs w) (hb : ChBnd (l ++ [c])) (hp : p.size ≤ 1048576) (hn : (Lit.int .i64 n).wf = true) (hg : G0 w) :
    Calls Tryd.prog 8 #[.slice A l.length ca, chgV c E ec R rc, .string p, .int .i64 n] w fun e w' => e = .returned (.bool true) ∧ Below w.heap.size w w' := by
  obtain ⟨ra, hra, hqa⟩ := chs_rows hA
  obtain ⟨i0, hi0, hz0, hz1, hz2⟩ := info_parts Tryd.infoChg14
  have hla := hqa.1
  have hlen := hb.len
  rw [List.length_append, List.length_singleton] at hlen
  obtain ⟨cc, hcc⟩ : ∃ cc : Ch5, cc.1 = [.int .i64 c.num, .string c.client, .string c.text, .slice E c.edits.length ec, .slice R c.recs.length rc] := ⟨⟨_, rfl, by
    intro u hu
    simp only [List.mem_cons, List.not_mem_nil, or_false] at hu
    rcases hu with rfl | rfl | rfl | rfl | rfl <;> rfl⟩, rfl⟩
  have hqc : ChR [cc] [c] w := ⟨rfl, fun i x r h1 h2 => by
    cases i with
    | zero =>
      simp only [List.getElem?_cons_zero, Option.some.injEq] at h1 h2
      subst h1 h2
      exact ⟨E, ec, R, rc, hcc, hE, hR⟩
    | succ i => simp at h1⟩
  have hsz := hb.sz (c := c) (by simp)
  have HQ := Lib.hid (fun x (hx : Below w.heap.size w x) => (hqa.append hqc).below hx)
  have HNA := Lib.hid (fun x (hx : Below w.heap.size w x) => (hra.below hx).news)
  have HSM := Lib.hid (fun A c' x hx => rsmall_any (l ++ [c]) A c' x hx hb)
  have HBU := Lib.hid (fun x (hx : Below w.heap.size w x) => rbuild_any l A ca x (hA.below hx) (by omega) (fun c hc => hb.sz (List.mem_append_left _ hc)) (hg.below hx))
  have HAP := Lib.hid (fun d DA DB da db x (hx : Below w.heap.size w x) h1 h2 h3 => rappend_any d DA DB da db c E R ec rc x h1 h2 h3 (hE.below hx) (hR.below hx) hsz.1 hsz.2.1 hsz.2.2.1 hsz.2.2.2 (hg.below hx))
  have HVO : Hid (FOk (p, n)) := ⟨by show p.size ≤ _; omega, hn⟩
  have HCC := Lib.hid hcc
  clear hA hE hR hb hn hg hra hqa hqc hsz hcc
  unfold chgV at HAP ⊢
  go_enter Tryd.func8, Tryd.ntmps8
  go_upto_region 1 with fail
  have HM1 := Lib.hid (Blk.new w 58 [.int .i64 c.num, .string c.client, .string c.text, .slice E c.edits.length ec, .slice R c.recs.length rc])
  have HB1 := Lib.hid ((Below.refl w.heap.size w).alloc (Nat.le_refl _) (.cells [.int .i64 c.num, .string c.client, .string c.text, .slice E c.edits.length ec, .slice R c.recs.length rc].toArray 58))
  generalize hw1 : World.alloc w _ = w1 at *
  clear hw1
  have hz1' := HB1.out.size
  have hS : Below w1.heap.size w1 w1.drew := (Below.refl _ _).drew
  go_cut [28] from 17 to 100 (fun v wx => ∃ bb : Bool, v = .bool bb ∧ Below w1.heap.size w1 wx)
  case first =>
    obtain ⟨o0, o1, o2, o3, o4⟩ := fun_and5 (fun y : Held (Below w1.heap.size w1) => (HM1.out.below y.ok).c5)
    (refine wp_region_mixf (S := Below w1.heap.size w1) [6, 7, 8, 9, 10, 11] [([], 5)] [] 4 3 [([0, 2], 1)] (by kernel_rfl) (by kernel_rfl) (by intro c a d v w h; cases d <;> exact h) hS ?_; have hN : Nonempty (Held (Below w1.heap.size w1)) := ⟨⟨_, hS⟩⟩)
    generalize hwq : w1.drew = wq at *
    have HS := Lib.hid hS
    clear hS hwq
    (unfold wpMixF wpRd; (repeat (first | simp only [List.filterMap_cons] | simp only [List.filterMap_nil] | simp only [List.getElem?_toArray] | simp only [List.getElem?_cons_zero] | simp only [List.getElem?_cons_succ])); (try dsimp only); change wpQuiet _ _ _ _ (_ :: _ :: []) _; (repeat (go_big_quiet_step (fail))); refine wpQuiet_nil ?_; (try dsimp only))
    clear o0 o1 o2 o3 o4
    have hbx := HB1.out.trans (HS.out.mono HB1.out.size)
    have HNW := Lib.hid (HNA.out _ hbx)
    have hszq := hbx.size
    have hsq := HS.out.size
    clear hbx
    refine ⟨?_, ?_⟩
    · (unfold wpAct; (repeat (first | simp only [List.getElem?_toArray] | simp only [List.getElem?_cons_zero] | simp only [List.getElem?_cons_succ])); (try dsimp only))
      go_wp2_with (at_builtin; go_loud (refine wpList_append_any rfl _ _ 22 rfl wq.heap.size 58 i0 zeroCh 5 88 Tryd.underlying22 hi0 hz0 hz1 hz2 rfl (by decide) (.slice none 0 0) 0 [] rfl (World.ownsRow_nil _ _ _ _) A l.length ca (chK.flat ra) rfl (by rw [chK.flat_len, hla]; rfl) (fun h => HNW.out (by rw [hla]; exact h)) (chK.flat_ones ra) (by unfold maxLen; omega) (by omega) (Nat.le_refl _) ?_); intro v3 w3 ho3 hg3)
      simp only [Nat.zero_add, List.nil_append] at ho3
      obtain ⟨A3, c3, rfl⟩ := ownsRow_slice ho3
      have HO3 := Lib.hid ho3
      have HS3 := Lib.hid (HS.out.grown hg3 HS.out.size (fun j e => by cases e))
      have hsz3 := hg3.size
      clear ho3 hg3 HS HNW
      refine ⟨HS3.out, ?_⟩
      (unfold wpMixF wpRd; (repeat (first | simp only [List.filterMap_cons] | simp only [List.filterMap_nil] | simp only [List.getElem?_toArray] | simp only [List.getElem?_cons_zero] | simp only [List.getElem?_cons_succ])); (try dsimp only); change wpQuiet _ _ _ _ ([]) _; (repeat (go_big_quiet_step (fail))); refine wpQuiet_nil ?_; (try dsimp only))
      (unfold wpAct; (repeat (first | simp only [List.getElem?_toArray] | simp only [List.getElem?_cons_zero] | simp only [List.getElem?_cons_succ])); (try dsimp only))
      go_wp2_with fail
      have HS4 := Lib.hid (HS3.out.alloc HS3.out.size (.cells [.int .i64 c.num, .string c.client, .string c.text, .slice E c.edits.length ec, .slice R c.recs.length rc].toArray 58))
      have HO4 := Lib.hid (HO3.out.alloc (.cells [.int .i64 c.num, .string c.client, .string c.text, .slice E c.edits.length ec, .slice R c.recs.length rc].toArray 58))
      have HLT4 := Lib.hid (Blk.new w3 58 [.int .i64 c.num, .string c.client, .string c.text, .slice E c.edits.length ec, .slice R c.recs.length rc])
      have hsz4 : w3.heap.size < (w3.alloc (.cells [.int .i64 c.num, .string c.client, .string c.text, .slice E c.edits.length ec, .slice R c.recs.length rc].toArray 58)).heap.size := by simp
      refine ⟨HS4.out, ?_⟩
      generalize hw4 : World.alloc w3 (.cells #[.int .i64 c.num, .string c.client, .string c.text, .slice E c.edits.length ec, .slice R c.recs.length rc] 58) = w4 at *
      generalize w3.heap.size = lb at *
      clear HS3 HO3 hw4
      (unfold wpMix wpRd; (repeat (first | simp only [List.filterMap_cons] | simp only [List.filterMap_nil] | simp only [List.getElem?_toArray] | simp only [List.getElem?_cons_zero] | simp only [List.getElem?_cons_succ])); (try dsimp only); change wpQuiet _ _ _ _ ([]) _; (repeat (go_big_quiet_step (fail))); refine wpQuiet_nil ?_; (try dsimp only))
      ((repeat (first | simp only [List.getElem?_toArray] | simp only [List.getElem?_cons_zero] | simp only [List.getElem?_cons_succ])); (try dsimp only))
      go_wp2_with (at_builtin; go_loud (refine wpList_append_any rfl _ _ 22 rfl wq.heap.size 58 i0 zeroCh 5 88 Tryd.underlying22 hi0 hz0 hz1 hz2 rfl (by decide) (.slice A3 l.length c3) l.length (chK.flat ra) rfl HO4.out (some ⟨lb, 0, none⟩) 1 1 cc.1 rfl (by rw [HCC.out]; rfl) (fun _ => ⟨_, rfl, fun j u hu => by rw [HCC.out] at hu; rw [add_lit, Nat.zero_add]; exact (HLT4.out.cell j).trans hu⟩) (fun u hu => cc.2.2 u hu) (by unfold maxLen; omega) (by omega) (by omega) ?_); intro v5 w5 ho5 hg5)
      rw [show cc.1 = chK.cells cc from rfl, RowK.flat_snoc] at ho5
      obtain ⟨A5, c5, rfl⟩ := ownsRow_slice ho5
      have HS5 := Lib.hid (HS4.out.grown hg5 HS4.out.size (fun j e => by have := (HO4.out.lt j e).1; omega))
      have hi5 := RowK.In.of_row (R := chK) ho5
      have HF5 := Lib.hid (HSM.out A5 c5 w5 (chs_of hi5 (HQ.out _ (HB1.out.trans (HS5.out.mono HB1.out.size)))))
      rw [List.length_append, List.length_singleton] at HF5
      clear ho5 hg5 hi5 HS4 HO4 HLT4
      refine ⟨HS5.out, ?_⟩
      (unfold wpMix wpRd; (repeat (first | simp only [List.filterMap_cons] | simp only [List.filterMap_nil] | simp only [List.getElem?_toArray] | simp only [List.getElem?_cons_zero] | simp only [List.getElem?_cons_succ])); (try dsimp only); change wpQuiet _ _ _ _ ([]) _; (repeat (go_big_quiet_step (fail))); refine wpQuiet_nil ?_; (try dsimp only))
      ((repeat (first | simp only [List.getElem?_toArray] | simp only [List.getElem?_cons_zero] | simp only [List.getElem?_cons_succ])); (try dsimp only))
      go_wp2_with fail
      refine HF5.out.mono ?_
      rintro e w6 ⟨sm, rfl, -, hb6⟩
      have HS6 := Lib.hid (HS5.out.trans (hb6.mono HS5.out.size))
      clear hb6 HS5 HF5
      go_wp2_with fail
      refine ⟨HS6.out, ?_⟩
      cases sm
      · (unfold wpMix wpRd; (repeat (first | simp only [List.filterMap_cons] | simp only [List.filterMap_nil] | simp only [List.getElem?_toArray] | simp only [List.getElem?_cons_zero] | simp only [List.getElem?_cons_succ])); (try dsimp only); change wpQuiet _ _ _ _ (_ :: _ :: _ :: _ :: _ :: _ :: []) _; (repeat (go_big_quiet_step (fail))); refine wpQuiet_nil ?_; (try dsimp only))
        go_wp2_with fail
        go_meet
        case rel => exact ⟨true, rfl, HS6.out⟩
      · by_cases h6 : 300 < p.size
        · have h6' : (300 : Int) < (p.size : Int) := by omega
          (unfold wpMix wpRd; (repeat (first | simp only [List.filterMap_cons] | simp only [List.filterMap_nil] | simp only [List.getElem?_toArray] | simp only [List.getElem?_cons_zero] | simp only [List.getElem?_cons_succ])); (try dsimp only); change wpQuiet _ _ _ _ (_ :: _ :: _ :: _ :: _ :: _ :: []) _; (repeat (go_big_quiet_step (fail))); refine wpQuiet_nil ?_; (try dsimp only))
          go_wp2_with fail
          go_meet
          case rel => exact ⟨true, by simp, HS6.out⟩
        · have h6' : ¬ (300 : Int) < (p.size : Int) := by omega
          (unfold wpMix wpRd; (repeat (first | simp only [List.filterMap_cons] | simp only [List.filterMap_nil] | simp only [List.getElem?_toArray] | simp only [List.getElem?_cons_zero] | simp only [List.getElem?_cons_succ])); (try dsimp only); change wpQuiet _ _ _ _ (_ :: _ :: _ :: _ :: _ :: _ :: []) _; (repeat (go_big_quiet_step (fail))); refine wpQuiet_nil ?_; (try dsimp only))
          go_wp2_with fail
          go_meet
          case rel => exact ⟨false, by simp, HS6.out⟩
    · (unfold wpAct; (repeat (first | simp only [List.getElem?_toArray] | simp only [List.getElem?_cons_zero] | simp only [List.getElem?_cons_succ])); (try dsimp only))
      go_wp2_with fail
      have HS3 := Lib.hid (HS.out.alloc HS.out.size (.cells [.int .i64 c.num, .string c.client, .string c.text, .slice E c.edits.length ec, .slice R c.recs.length rc].toArray 58))
      have HLT3 := Lib.hid (Blk.new wq 58 [.int .i64 c.num, .string c.client, .string c.text, .slice E c.edits.length ec, .slice R c.recs.length rc])
      have HNW3 := Lib.hid (HNA.out _ (HB1.out.trans (HS3.out.mono HB1.out.size)))
      have hsz3 : wq.heap.size < (wq.alloc (.cells [.int .i64 c.num, .string c.client, .string c.text, .slice E c.edits.length ec, .slice R c.recs.length rc].toArray 58)).heap.size := by simp
      refine ⟨HS3.out, ?_⟩
      generalize hw3 : World.alloc wq (.cells #[.int .i64 c.num, .string c.client, .string c.text, .slice E c.edits.length ec, .slice R c.recs.length rc] 58) = w3 at *
      clear hw3 HS HNW
      (unfold wpMix wpRd; (repeat (first | simp only [List.filterMap_cons] | simp only [List.filterMap_nil] | simp only [List.getElem?_toArray] | simp only [List.getElem?_cons_zero] | simp only [List.getElem?_cons_succ])); (try dsimp only); change wpQuiet _ _ _ _ ([]) _; (repeat (go_big_quiet_step (fail))); refine wpQuiet_nil ?_; (try dsimp only))
      ((repeat (first | simp only [List.getElem?_toArray] | simp only [List.getElem?_cons_zero] | simp only [List.getElem?_cons_succ])); (try dsimp only))
      go_wp2_with (at_builtin; go_loud (refine wpList_append_any rfl _ _ 22 rfl wq.heap.size 58 i0 zeroCh 5 88 Tryd.underlying22 hi0 hz0 hz1 hz2 rfl (by decide) (.slice none 0 0) 0 [] rfl (World.ownsRow_nil _ _ _ _) A l.length ca (chK.flat ra) rfl (by rw [chK.flat_len, hla]; rfl) (fun h => HNW3.out (by rw [hla]; exact h)) (chK.flat_ones ra) (by unfold maxLen; omega) (by omega) (by omega) ?_); intro v4 w4 ho4 hg4)
      simp only [Nat.zero_add, List.nil_append] at ho4
      obtain ⟨A4, c4, rfl⟩ := ownsRow_slice ho4
      have HO4 := Lib.hid ho4
      have HS4 := Lib.hid (HS3.out.grown hg4 HS3.out.size (fun j e => by cases e))
      have HLT4 := Lib.hid (HLT3.out.grown hg4 (fun e => by cases e))
      have hsz4 := hg4.size
      clear ho4 hg4 HS3 HLT3 HNW3
      refine ⟨HS4.out, ?_⟩
      (unfold wpMix wpRd; (repeat (first | simp only [List.filterMap_cons] | simp only [List.filterMap_nil] | simp only [List.getElem?_toArray] | simp only [List.getElem?_cons_zero] | simp only [List.getElem?_cons_succ])); (try dsimp only); change wpQuiet _ _ _ _ ([]) _; (repeat (go_big_quiet_step (fail))); refine wpQuiet_nil ?_; (try dsimp only))
      ((repeat (first | simp only [List.getElem?_toArray] | simp only [List.getElem?_cons_zero] | simp only [List.getElem?_cons_succ])); (try dsimp only))
      go_wp2_with (at_builtin; go_loud (refine wpList_append_any rfl _ _ 22 rfl wq.heap.size 58 i0 zeroCh 5 88 Tryd.underlying22 hi0 hz0 hz1 hz2 rfl (by decide) (.slice A4 l.length c4) l.length (chK.flat ra) rfl HO4.out (some ⟨wq.heap.size, 0, none⟩) 1 1 cc.1 rfl (by rw [HCC.out]; rfl) (fun _ => ⟨_, rfl, fun j u hu => by rw [HCC.out] at hu; rw [add_lit, Nat.zero_add]; exact (HLT4.out.cell j).trans hu⟩) (fun u hu => cc.2.2 u hu) (by unfold maxLen; omega) (by omega) (by omega) ?_); intro v5 w5 ho5 hg5)
      rw [show cc.1 = chK.cells cc from rfl, RowK.flat_snoc] at ho5
      obtain ⟨A5, c5, rfl⟩ := ownsRow_slice ho5
      have HS5 := Lib.hid (HS4.out.grown hg5 HS4.out.size (fun j e => by have := (HO4.out.lt j e).1; omega))
      have hi5 := RowK.In.of_row (R := chK) ho5
      have HF5 := Lib.hid (HSM.out A5 c5 w5 (chs_of hi5 (HQ.out _ (HB1.out.trans (HS5.out.mono HB1.out.size)))))
      rw [List.length_append, List.length_singleton] at HF5
      clear ho5 hg5 hi5 HS4 HO4 HLT4
      refine ⟨HS5.out, ?_⟩
      (unfold wpMix wpRd; (repeat (first | simp only [List.filterMap_cons] | simp only [List.filterMap_nil] | simp only [List.getElem?_toArray] | simp only [List.getElem?_cons_zero] | simp only [List.getElem?_cons_succ])); (try dsimp only); change wpQuiet _ _ _ _ ([]) _; (repeat (go_big_quiet_step (fail))); refine wpQuiet_nil ?_; (try dsimp only))
      ((repeat (first | simp only [List.getElem?_toArray] | simp only [List.getElem?_cons_zero] | simp only [List.getElem?_cons_succ])); (try dsimp only))
      go_wp2_with fail
      refine HF5.out.mono ?_
      rintro e w6 ⟨sm, rfl, -, hb6⟩
      have HS6 := Lib.hid (HS5.out.trans (hb6.mono HS5.out.size))
      clear hb6 HS5 HF5
      go_wp2_with fail
      refine ⟨HS6.out, ?_⟩
      cases sm
      · (unfold wpMix wpRd; (repeat (first | simp only [List.filterMap_cons] | simp only [List.filterMap_nil] | simp only [List.getElem?_toArray] | simp only [List.getElem?_cons_zero] | simp only [List.getElem?_cons_succ])); (try dsimp only); change wpQuiet _ _ _ _ (_ :: _ :: _ :: _ :: _ :: _ :: []) _; (repeat (go_big_quiet_step (fail))); refine wpQuiet_nil ?_; (try dsimp only))
        go_wp2_with fail
        go_meet
        case rel => exact ⟨true, rfl, HS6.out⟩
      · by_cases h6 : 300 < p.size
        · have h6' : (300 : Int) < (p.size : Int) := by omega
          (unfold wpMix wpRd; (repeat (first | simp only [List.filterMap_cons] | simp only [List.filterMap_nil] | simp only [List.getElem?_toArray] | simp only [List.getElem?_cons_zero] | simp only [List.getElem?_cons_succ])); (try dsimp only); change wpQuiet _ _ _ _ (_ :: _ :: _ :: _ :: _ :: _ :: []) _; (repeat (go_big_quiet_step (fail))); refine wpQuiet_nil ?_; (try dsimp only))
          go_wp2_with fail
          go_meet
          case rel => exact ⟨true, by simp, HS6.out⟩
        · have h6' : ¬ (300 : Int) < (p.size : Int) := by omega
          (unfold wpMix wpRd; (repeat (first | simp only [List.filterMap_cons] | simp only [List.filterMap_nil] | simp only [List.getElem?_toArray] | simp only [List.getElem?_cons_zero] | simp only [List.getElem?_cons_succ])); (try dsimp only); change wpQuiet _ _ _ _ (_ :: _ :: _ :: _ :: _ :: _ :: []) _; (repeat (go_big_quiet_step (fail))); refine wpQuiet_nil ?_; (try dsimp only))
          go_wp2_with fail
          go_meet
          case rel => exact ⟨false, by simp, HS6.out⟩
  case rest =>
    obtain ⟨bb, rfl, hx⟩ := hcut
    have HB2 := Lib.hid (HB1.out.trans (hx.mono HB1.out.size))
    have HM2 := Lib.hid (HM1.out.below hx)
    have hlt0 := HM1.out.lt
    clear hx HB1 HM1 HQ HNA HSM HCC hi0
    generalize wc = w2 at *
    cases bb
    case true =>
      go_wp2_with (go_at_call 11; refine (awake14_any _).mono ?_; rintro e w9 ⟨rfl, HB9⟩)
      go_ret
      exact ⟨rfl, HB2.out.trans (HB9.mono HB2.out.size)⟩
    case false =>
      go_wp2_with fail
      refine (HBU.out _ HB2.out).mono ?_
      rintro e w3 ⟨d, DA, DB, da, db, rfl, hblt, hIA, hIB, hb3⟩
      have HC := Lib.hid hblt.crd
      have HBLT := Lib.hid hblt
      have hRl : d.revs.length ≤ 512 := hblt.ok.few
      have HB3 := Lib.hid (HB2.out.trans (hb3.mono HB2.out.size))
      have HM4 : Hid (Bs [(w3.heap.size, 28, [.slice DA d.revs.length da, .slice DB d.recs.length db]), (w.heap.size, 58, [.int .i64 c.num, .string c.client, .string c.text, .slice E c.edits.length ec, .slice R c.recs.length rc])] (w3.alloc (.cells [.slice DA d.revs.length da, .slice DB d.recs.length db].toArray 28))) := ⟨Blk.new w3 28 [.slice DA d.revs.length da, .slice DB d.recs.length db], (HM2.out.below hb3).alloc _, trivial⟩
      have HB4 : Hid (Below w.heap.size w (w3.alloc (.cells [.slice DA d.revs.length da, .slice DB d.recs.length db].toArray 28))) := HB3.out.alloc HB3.out.size _
      have HI4 := Lib.hid (hIA.below ((Below.refl _ _).alloc (Nat.le_refl _) (.cells [.slice DA d.revs.length da, .slice DB d.recs.length db].toArray 28)))
      have HQ4 := Lib.hid (hIB.below ((Below.refl _ _).alloc (Nat.le_refl _) (.cells [.slice DA d.revs.length da, .slice DB d.recs.length db].toArray 28)))
      clear hb3 hIA hIB hblt HBU HB2 HM2 HB3
      go_upto_region 4 with fail
      generalize w3.heap.size = qb at *
      generalize World.alloc w3 (.cells #[.slice DA d.revs.length da, .slice DB d.recs.length db] 28) = w4 at *
      obtain ⟨d0, d1⟩ := HM4.out.1.c2
      obtain ⟨g0, g1, g2, g3, g4⟩ := HM4.out.2.1.c5
      go_wp2_with fail
      refine (HAP.out d DA DB da db w4 HB4.out HI4.out HQ4.out HC.out.dep).mono ?_
      rintro e w5 ⟨en, NA, NB, la, na, lb, nb, rfl, hb5, hap⟩
      have HN := Lib.hid hap
      have hb6 := hb5.alloc hb5.size (.cells [.slice NA la na, .slice NB lb nb].toArray 28)
      have HX6 := Lib.hid ((Below.refl w5.heap.size w5).alloc (Nat.le_refl _) (.cells [.slice NA la na, .slice NB lb nb].toArray 28))
      have HM6 : Hid (Bs [(w5.heap.size, 28, [.slice NA la na, .slice NB lb nb]), (qb, 28, [.slice DA d.revs.length da, .slice DB d.recs.length db])] (w5.alloc (.cells [.slice NA la na, .slice NB lb nb].toArray 28))) := ⟨Blk.new w5 28 [.slice NA la na, .slice NB lb nb], HM4.out.1.below hb6, trivial⟩
      have HB6 := Lib.hid (HB4.out.trans (hb6.mono HB4.out.size))
      have HI6 := Lib.hid (HI4.out.below hb6)
      have HQ6 := Lib.hid (HQ4.out.below hb6)
      clear hap hb5 hb6 HAP HM4 HB4 HI4 HQ4 d0 d1 g0 g1 g2 g3 g4
      go_upto_region 5 with fail
      generalize hw6 : World.alloc w5 (.cells #[.slice NA la na, .slice NB lb nb] 28) = w6 at *
      clear hw6
      obtain ⟨d0, d1⟩ := HM6.out.2.1.c2
      go_wp2_with fail
      refine (rget_any d.revs p n DA DB da d.recs.length db w6 HI6.out (by omega)).mono ?_
      rintro e w7 ⟨rfl, hb7⟩
      have HST := Lib.hid (fun h1 h2 h3 h4 => stay_facts (c := c) (f := (p, n)) HBLT.out h1 h2 h3 h4)
      obtain ⟨og, hog⟩ : ∃ og, (getD' d.revs p n).isSome = og := ⟨_, rfl⟩
      have HOG := Lib.hid hog
      rw [hog]
      clear hog
      generalize getR d.revs p n = v
      obtain ⟨vp, vn, vc, va, ⟨tb, tk, te, tx⟩, ⟨cs, cz⟩, vs, vm⟩ := v
      unfold Rev.val Rev.cells
      dsimp only
      have hb8 := hb7.alloc hb7.size (.cells (#[.string vp, .int .i64 vn, .int .i64 vc, .int .i64 va, .int .i64 tb, .bool tk, .bool te, .bool tx, .int .u64 cs, .int .i64 cz, .string vs, .int .i64 vm]) 51)
      have HM8 := Lib.hid (HM6.out.below hb8)
      have HB8 := Lib.hid (HB6.out.trans (hb8.mono HB6.out.size))
      have HI8 := Lib.hid (HI6.out.below hb8)
      have HQ8 := Lib.hid (HQ6.out.below hb8)
      have HX8 := Lib.hid (HX6.out.trans (hb8.mono HX6.out.size))
      clear hb7 hb8 HM6 HB6 HI6 HQ6 HX6 d0 d1
      go_upto_region 6 with fail
      generalize World.alloc w7 _ = w8 at *
      by_cases hen : en = 0
      case neg =>
        have hea : (en == 0) = false := by simpa using hen
        have heb : (en != 0) = true := by simpa using hen
        have hec : decide (en = 0) = false := by simpa using hen
        go_wp2_with (go_at_call 11; refine (awake14_any _).mono ?_; rintro e w9 ⟨rfl, HB9⟩)
        go_ret
        exact ⟨rfl, HB8.out.trans (HB9.mono HB8.out.size)⟩
      subst hen
      cases og
      case false =>
        go_wp2_with (go_at_call 11; refine (awake14_any _).mono ?_; rintro e w9 ⟨rfl, HB9⟩)
        go_ret
        exact ⟨rfl, HB8.out.trans (HB9.mono HB8.out.size)⟩
      obtain ⟨hck, hso, hsl, hla2, hlb2, hna, hnb, -, -⟩ := HN.out rfl
      have hst := HST.out hck hso hsl HOG.out
      have hblt2 := Blt.step HBLT.out hck hso hsl
      have HC2 := Lib.hid hblt2.crd
      have HA8 := Lib.hid (hna.below HX8.out)
      have HN8 := Lib.hid (hnb.below HX8.out)
      have HST2 := Lib.hid hst
      clear hck hso hsl hna hnb hst hblt2 HN HST HOG HBLT HX8
      generalize appD d c = d2 at *
      subst hla2 hlb2
      have hR2 : d2.revs.length ≤ 512 := HC2.out.dep.few
      obtain ⟨d0, d1⟩ := HM8.out.2.1.c2
      go_wp2_with fail
      refine (pcre_any d DA DB da db p n w8 HC.out HI8.out HQ8.out HVO.out).mono ?_
      rintro e wa1 ⟨L, A5, c5, rfl, hi, hs, hm, hb⟩
      have HBa1 := Lib.hid (HB8.out.trans (hb.mono HB8.out.size))
      have HMa1 := Lib.hid (HM8.out.below hb)
      have HIa1 := Lib.hid (HI8.out.below hb)
      have HQa1 := Lib.hid (HQ8.out.below hb)
      have HAa1 := Lib.hid (HA8.out.below hb)
      have HNa1 := Lib.hid (HN8.out.below hb)
      have HLa1 := Lib.hid hi
      have HSa1 := Lib.hid hs
      have HMEa1 := Lib.hid hm
      have hln1 : L.length ≤ 512 := mem_few HC.out (S := (tabD d (p, n)).cre) (fun g hg => (tab_mem HC.out.hist _ (p, n) (Nat.le_refl _) g (.inr (.inr hg))).1) L hs.nodup (fun f hf => (hm f).1 hf)
      clear hb hi hs hm HB8 HM8 HI8 HQ8 HA8 HN8 d0 d1
      obtain ⟨d0, d1⟩ := HMa1.out.1.c2
      go_wp2_with fail
      refine (pcre_any d2 NA NB na nb p n wa1 HC2.out HAa1.out HNa1.out HVO.out).mono ?_
      rintro e wb1 ⟨L2, A6, c6, rfl, hi, hs, hm, hb⟩
      obtain rfl : L = L2 := SrtF.ext HSa1.out hs fun f => by rw [HMEa1.out f, hm f, HST2.out.2]
      have HBb1 := Lib.hid (HBa1.out.trans (hb.mono HBa1.out.size))
      have HMb1 := Lib.hid (HMa1.out.below hb)
      have HIb1 := Lib.hid (HIa1.out.below hb)
      have HQb1 := Lib.hid (HQa1.out.below hb)
      have HAb1 := Lib.hid (HAa1.out.below hb)
      have HNb1 := Lib.hid (HNa1.out.below hb)
      have HLb1 := Lib.hid (HLa1.out.below hb)
      have HLc1 := Lib.hid hi
      rw [HST2.out.1]
      clear hb hi hs hm HBa1 HMa1 HIa1 HQa1 HAa1 HNa1 HLa1 HSa1 HMEa1 d0 d1
      go_wp2_with fail
      refine (same_any L A5 A6 c5 c6 wb1 HLb1.out HLc1.out hln1).mono ?_
      rintro e wr1 ⟨rfl, hb⟩
      have HBR1 := Lib.hid (HBb1.out.trans (hb.mono HBb1.out.size))
      have HMR1 := Lib.hid (HMb1.out.below hb)
      have HIR1 := Lib.hid (HIb1.out.below hb)
      have HQR1 := Lib.hid (HQb1.out.below hb)
      have HAR1 := Lib.hid (HAb1.out.below hb)
      have HNR1 := Lib.hid (HNb1.out.below hb)
      clear hb HBb1 HMb1 HIb1 HQb1 HAb1 HNb1 HLb1 HLc1 hln1
      obtain ⟨d0, d1⟩ := HMR1.out.2.1.c2
      go_wp2_with fail
      refine (pcon_any d DA DB da db p n wr1 HC.out HIR1.out HQR1.out HVO.out).mono ?_
      rintro e wa2 ⟨L, A7, c7, rfl, hi, hs, hm, hb⟩
      have HBa2 := Lib.hid (HBR1.out.trans (hb.mono HBR1.out.size))
      have HMa2 := Lib.hid (HMR1.out.below hb)
      have HIa2 := Lib.hid (HIR1.out.below hb)
      have HQa2 := Lib.hid (HQR1.out.below hb)
      have HAa2 := Lib.hid (HAR1.out.below hb)
      have HNa2 := Lib.hid (HNR1.out.below hb)
      have HLa2 := Lib.hid hi
      have HSa2 := Lib.hid hs
      have HMEa2 := Lib.hid hm
      have hln2 : L.length ≤ 512 := mem_few HC.out (S := (tabD d (p, n)).con) (fun g hg => (tab_mem HC.out.hist _ (p, n) (Nat.le_refl _) g (.inr (.inl hg))).1) L hs.nodup (fun f hf => (hm f).1 hf)
      clear hb hi hs hm HBR1 HMR1 HIR1 HQR1 HAR1 HNR1 d0 d1
      obtain ⟨d0, d1⟩ := HMa2.out.1.c2
      go_wp2_with fail
      refine (pcon_any d2 NA NB na nb p n wa2 HC2.out HAa2.out HNa2.out HVO.out).mono ?_
      rintro e wb2 ⟨L2, A8, c8, rfl, hi, hs, hm, hb⟩
      obtain rfl : L = L2 := SrtF.ext HSa2.out hs fun f => by rw [HMEa2.out f, hm f, HST2.out.2]
      have HBb2 := Lib.hid (HBa2.out.trans (hb.mono HBa2.out.size))
      have HMb2 := Lib.hid (HMa2.out.below hb)
      have HIb2 := Lib.hid (HIa2.out.below hb)
      have HQb2 := Lib.hid (HQa2.out.below hb)
      have HAb2 := Lib.hid (HAa2.out.below hb)
      have HNb2 := Lib.hid (HNa2.out.below hb)
      have HLb2 := Lib.hid (HLa2.out.below hb)
      have HLc2 := Lib.hid hi
      rw [HST2.out.1]
      clear hb hi hs hm HBa2 HMa2 HIa2 HQa2 HAa2 HNa2 HLa2 HSa2 HMEa2 d0 d1
      go_wp2_with fail
      refine (same_any L A7 A8 c7 c8 wb2 HLb2.out HLc2.out hln2).mono ?_
      rintro e wr2 ⟨rfl, hb⟩
      have HBR2 := Lib.hid (HBb2.out.trans (hb.mono HBb2.out.size))
      have HMR2 := Lib.hid (HMb2.out.below hb)
      have HIR2 := Lib.hid (HIb2.out.below hb)
      have HQR2 := Lib.hid (HQb2.out.below hb)
      have HAR2 := Lib.hid (HAb2.out.below hb)
      have HNR2 := Lib.hid (HNb2.out.below hb)
      clear hb HBb2 HMb2 HIb2 HQb2 HAb2 HNb2 HLb2 HLc2 hln2
      go_wp2_with (go_at_call 11; refine (awake14_any _).mono ?_; rintro e w9 ⟨rfl, HB9⟩)
      go_ret
      exact ⟨rfl, HBR2.out.trans (HB9.mono HBR2.out.size)⟩
end Go.Proofs.YthonhikkoabhlaaDoor
