/-
  The walk of lineage.Line (printed by mkline.py); what a line without records carries (plain).
-/
import Derived.Test.YthonhikkoabhlaaGreatDoorCrGt
import Derived.Test.YthonhikkoabhlaaGreatDoorCrX
namespace Go.Proofs.YthonhikkoabhlaaGreatDoor
open Go.RowKit

/-! A line into which no records lead. -/
structure LineD (d : Dep) (L : List Rev) : Prop where
  mem : ∀ (i : Nat) (v : Rev), L[i]? = some v → memD d.revs v.fil = some v
  hd : ∀ (v : Rev), L[0]? = some v → prevF d.revs v.fil = none
  nx : ∀ (i : Nat) (u v : Rev), L[i]? = some u → L[i + 1]? = some v → prevF d.revs v.fil = some u.fil
def upD (L : List Rev) (i : Nat) : List Fil := (L.take i).map Rev.fil
theorem upD_succ {L : List Rev} {i : Nat} {v : Rev} (h : L[i]? = some v) : upD L (i + 1) = upD L i ++ [v.fil] := by
  obtain ⟨hl, rfl⟩ := List.getElem?_eq_some_iff.1 h
  unfold upD
  rw [List.take_succ_eq_append_getElem hl, List.map_append, List.map_singleton]
theorem LineD.rk {d : Dep} {L : List Rev} (h : LineD d L) (H : Hist d) : ∀ (j i : Nat) (u v : Rev), i < j → L[i]? = some u → L[j]? = some v → rkD d.revs u.fil < rkD d.revs v.fil
  | 0, _, _, _, hi, _, _ => absurd hi (Nat.not_lt_zero _)
  | j + 1, i, u, v, hi, hu, hv => by
    obtain ⟨hl, _⟩ := List.getElem?_eq_some_iff.1 hv
    obtain ⟨x, hx⟩ : ∃ x, L[j]? = some x := ⟨L[j]'(by omega), List.getElem?_eq_getElem (by omega)⟩
    have h1 := H.prev _ _ (h.nx j x v hx hv)
    by_cases e : i = j
    · rw [e, hx] at hu
      cases hu
      exact h1
    · exact Nat.lt_trans (h.rk H j i u x (by omega) hu hx) h1
theorem LineD.out {d : Dep} {L : List Rev} (h : LineD d L) (H : Hist d) {i : Nat} {v : Rev} (hv : L[i]? = some v) : v.fil ∉ upD L i := fun hm => by
  obtain ⟨u, hu, he⟩ := List.mem_map.1 hm
  obtain ⟨j, hj, rfl⟩ := List.mem_iff_getElem.1 hu
  have hj1 : j < i := by simp at hj; omega
  have hj2 : j < L.length := by simp at hj; omega
  have := h.rk H i j L[j] v hj1 (List.getElem?_eq_getElem hj2) hv
  rw [List.getElem_take] at he
  rw [he] at this
  omega
theorem LineD.nodup {d : Dep} {L : List Rev} (h : LineD d L) (H : Hist d) : ∀ i, i ≤ L.length → (upD L i).Nodup
  | 0, _ => by simp [upD]
  | i + 1, hi => by
    have hv := List.getElem?_eq_getElem (show i < L.length by omega)
    rw [upD_succ hv]
    refine List.nodup_append.2 ⟨h.nodup H i (by omega), by simp, fun a ha b hb e => ?_⟩
    rw [List.mem_singleton] at hb
    rw [e, hb] at ha
    exact h.out H hv ha
theorem LineD.sets {d : Dep} {L : List Rev} (h : LineD d L) (H : Hist d) (hr : ∀ (i : Nat) (v : Rev), L[i]? = some v → recsD d.recs v.fil = []) :
    ∀ (i : Nat) (v : Rev), L[i]? = some v → (∀ g, (tabD d v.fil).car g ↔ g ∈ upD L (i + 1)) ∧ ∀ g, (tabD d v.fil).cre g ↔ g ∈ upD L (i + 1) := by
  intro i
  induction i with
  | zero =>
    intro v hv
    have hm : (memD d.revs v.fil).isSome = true := by rw [h.mem 0 v hv]; rfl
    have hn := hr 0 v hv
    have ho : origD d.recs v.fil = true := by unfold origD; rw [hn]; rfl
    have hp := h.hd v hv
    have hc : ∀ g, (tabD d v.fil).car g ↔ g ∈ upD L (0 + 1) := fun g => by
      rw [tab_car H hm g, upD_succ hv]
      constructor
      · rintro (⟨_, h1⟩ | ⟨u, h1, _⟩ | ⟨r, h1, _⟩)
        · rw [h1]
          simp
        · rw [hp] at h1
          cases h1
        · rw [hn] at h1
          simp at h1
      · intro hg
        refine .inl ⟨ho, ?_⟩
        simpa [upD] using hg
    refine ⟨hc, fun g => ?_⟩
    rw [tab_cre H hm g, hc g]
    constructor
    · rintro (⟨u, h1, _⟩ | h1 | ⟨r, h1, _⟩)
      · rw [hp] at h1
        cases h1
      · exact h1
      · rw [hn] at h1
        simp at h1
    · exact fun h => .inr (.inl h)
  | succ i ih =>
    intro v hv
    obtain ⟨hl, _⟩ := List.getElem?_eq_some_iff.1 hv
    have hu := List.getElem?_eq_getElem (show i < L.length by omega)
    generalize L[i] = u at hu
    obtain ⟨ih1, ih2⟩ := ih u hu
    have hm : (memD d.revs v.fil).isSome = true := by rw [h.mem _ v hv]; rfl
    have hn := hr _ v hv
    have ho : origD d.recs v.fil = true := by unfold origD; rw [hn]; rfl
    have hp := h.nx i u v hu hv
    have hc : ∀ g, (tabD d v.fil).car g ↔ g ∈ upD L (i + 1 + 1) := fun g => by
      rw [tab_car H hm g, upD_succ hv, List.mem_append, List.mem_singleton]
      constructor
      · rintro (⟨_, h1⟩ | ⟨x, h1, h2⟩ | ⟨r, h1, _⟩)
        · exact .inr h1
        · rw [hp] at h1
          cases h1
          exact .inl ((ih1 g).1 h2)
        · rw [hn] at h1
          simp at h1
      · rintro (h1 | h1)
        · exact .inr (.inl ⟨u.fil, hp, (ih1 g).2 h1⟩)
        · exact .inl ⟨ho, h1⟩
    refine ⟨hc, fun g => ?_⟩
    rw [tab_cre H hm g, hc g, upD_succ hv, List.mem_append, List.mem_singleton]
    constructor
    · rintro (⟨x, h1, h2⟩ | h1 | ⟨r, h1, _⟩)
      · rw [hp] at h1
        cases h1
        exact .inl ((ih2 g).1 h2)
      · exact h1
      · rw [hn] at h1
        simp at h1
    · exact fun h => .inr (.inl h)
theorem LineD.con {d : Dep} {L : List Rev} (h : LineD d L) (H : Hist d) (hr : ∀ (i : Nat) (v : Rev), L[i]? = some v → recsD d.recs v.fil = []) {i : Nat} {v : Rev} (hv : L[i]? = some v) (g : Fil) : (tabD d v.fil).con g ↔ g = v.fil := by
  have hm : (memD d.revs v.fil).isSome = true := by rw [h.mem _ v hv]; rfl
  rw [tab_con H hm g, (h.sets H hr i v hv).1 g, upD_succ hv, List.mem_append, List.mem_singleton]
  have hb : BefS d v.fil g ↔ g ∈ upD L i := by
    cases i with
    | zero =>
      have hp := h.hd v hv
      constructor
      · rintro ⟨u, h1, _⟩
        rw [hp] at h1
        cases h1
      · intro h1
        simp [upD] at h1
    | succ i =>
      obtain ⟨hl, _⟩ := List.getElem?_eq_some_iff.1 hv
      have hu := List.getElem?_eq_getElem (show i < L.length by omega)
      generalize L[i] = u at hu
      have hp := h.nx i u v hu hv
      rw [← (h.sets H hr i u hu).1 g]
      constructor
      · rintro ⟨x, h1, h2⟩
        rw [hp] at h1
        cases h1
        exact h2
      · exact fun h1 => ⟨u.fil, hp, h1⟩
  rw [hb]
  constructor
  · rintro ⟨h1 | h1, h2⟩
    · exact absurd h1 h2
    · exact h1
  · rintro rfl
    exact ⟨.inr rfl, h.out H hv⟩
theorem LineD.orig {d : Dep} {L : List Rev} (h : LineD d L) (hr : ∀ (i : Nat) (v : Rev), L[i]? = some v → recsD d.recs v.fil = []) {i : Nat} {v : Rev} (hv : L[i]? = some v) : origM d v.fil = true := by
  unfold origM origD
  rw [h.mem _ v hv, hr _ v hv]
  rfl
theorem LineD.first {d : Dep} {v : Rev} (hm : memD d.revs v.fil = some v) (ha : v.act = 1) : LineD d [v] := by
  refine ⟨fun i x hx => ?_, fun x hx => ?_, fun i a b _ hb => ?_⟩
  · cases i with
    | zero => simp at hx; subst hx; exact hm
    | succ i => simp at hx
  · simp at hx
    subst hx
    exact prevF_add hm ha
  · simp at hb
theorem LineD.snoc {d : Dep} {L : List Rev} {u v : Rev} (h : LineD d (L ++ [u])) (hm : memD d.revs v.fil = some v) (hp : prevF d.revs v.fil = some u.fil) : LineD d (L ++ [u] ++ [v]) := by
  refine ⟨fun i x hx => ?_, fun x hx => ?_, fun i a b ha hb => ?_⟩
  · rw [List.getElem?_append] at hx
    split at hx
    · exact h.mem i x hx
    · cases hi : i - (L ++ [u]).length with
      | zero => rw [hi] at hx; simp at hx; subst hx; exact hm
      | succ k => rw [hi] at hx; simp at hx
  · rw [List.getElem?_append_left (by simp)] at hx
    exact h.hd x hx
  · rw [List.getElem?_append] at hb
    split at hb
    · rename_i h1
      rw [List.getElem?_append_left (by omega)] at ha
      exact h.nx i a b ha hb
    · rename_i h1
      have hi : i + 1 = (L ++ [u]).length := by
        cases hk : i + 1 - (L ++ [u]).length with
        | zero => omega
        | succ k => rw [hk] at hb; simp at hb
      rw [hi, Nat.sub_self] at hb
      simp at hb
      subst hb
      have hi2 : i = L.length := by simp at hi; exact hi
      subst hi2
      simp at ha
      subst ha
      exact hp

theorem prev_own {d : Dep} {u v : Rev} (hm : memD d.revs v.fil = some v) (hb : beforeF v = some u.fil) (hu : memD d.revs u.fil = some u) : prevF d.revs v.fil = some u.fil := prevF_of hm hb (by rw [hu]; rfl)
theorem line_snoc {w : World} {b : Nat} {v : Value} {L : List Rev} {u x : Rev} (h : w.ownsRow b 43 12 v (L.length + 1 + 1) (revK.flat (L ++ [u]) ++ revK.cells x)) : w.ownsRow b 43 12 v ((L ++ [u]).length + 1) (revK.flat ((L ++ [u]) ++ [x])) := by
  rw [RowK.flat_snoc] at h
  rw [List.length_append, List.length_singleton]
  exact h
/-- The members of a line. -/
def LineRet (d : Dep) (w : World) (e : Ending) (w' : World) : Prop :=
  ∃ (L : List Rev) (Al : Option Addr) (cl : Nat), e = .returned (.slice Al L.length cl) ∧ revK.In Al L w' ∧ LineD d L ∧ L.length ≤ 513 ∧ Below w.heap.size w w'
theorem LineD.nil (d : Dep) : LineD d [] := ⟨fun i v h => by simp at h, fun v h => by simp at h, fun i u v h => by simp at h⟩
set_option maxRecDepth 100000 in
set_option maxHeartbeats 12800000 in
theorem line_any (d : Dep) (A B : Option Addr) (ca cb : Nat) (p : ByteArray) (n : Int) (w : World) (hc : CrD d) (hA : revK.In A d.revs w) :
    Calls Tryz.prog 14 #[.agg #[.slice A d.revs.length ca, .slice B d.recs.length cb], .agg #[.string p, .int .i64 n]] w (LineRet d w) := by
  obtain ⟨i0, hi0, hz0, hz1, hz2⟩ := info_parts Tryz.infoRev
  have HA := Lib.hid hA
  have HC := Lib.hid hc
  have hRl := hc.dep.few
  clear hA hc
  go_enter Tryz.func14, Tryz.ntmps14
  go_upto_region 1 with fail
  have hb2 : Below w.heap.size w ((w.alloc (.cells [.slice A d.revs.length ca, .slice B d.recs.length cb].toArray 28)).alloc (.cells #[.string p, .int .i64 n] 47)) := by (repeat (first | (with_reducible exact Below.refl _ _) | (with_reducible assumption) | (with_reducible refine Below.setCell ?_ ?_ _; rotate_left; focus (first | exact Nat.le_refl _ | (dsimp only; omega))) | (with_reducible refine Below.drew ?_) | (with_reducible refine below_drewN ?_ _) | (with_reducible refine Below.alloc ?_ ?_ _; rotate_left; focus (first | exact Nat.le_refl _ | (simp; done) | (simp; omega)))))
  have HD2 := Lib.hid ((Blk.new w 28 [.slice A d.revs.length ca, .slice B d.recs.length cb]).alloc (.cells #[.string p, .int .i64 n] 47))
  have HF2 := Lib.hid (Blk.new1 w (.cells [.slice A d.revs.length ca, .slice B d.recs.length cb].toArray 28) 47 [.string p, .int .i64 n])
  have HB2 := Lib.hid hb2
  have HA2 := Lib.hid (HA.out.below hb2)
  clear hb2 HA
  generalize hw1 : World.alloc (World.alloc w _) _ = w2
  have hw2 : ((w.alloc (.cells [.slice A d.revs.length ca, .slice B d.recs.length cb].toArray 28)).alloc (.cells #[.string p, .int .i64 n] 47)) = w2 := hw1
  rw [hw2] at HD2 HF2 HB2 HA2
  clear hw1 hw2
  obtain ⟨d0, d1⟩ := HD2.out.c2
  obtain ⟨f0, f1⟩ := HF2.out.c2
  have ltf := HF2.out.lt
  go_wp2_with fail
  refine (hget_any d.revs p n A B ca d.recs.length cb w2 HA2.out (by omega)).mono ?_
  rintro e w3 ⟨z, b, rfl, hz, hb3⟩
  obtain ⟨zp, zn, zc, za, ⟨zb, zk, ze, zx⟩, ⟨ys, yz⟩, zf, zm⟩ := z
  unfold Rev.val Rev.cells
  dsimp only
  have hb4 := (Below.refl w3.heap.size w3).alloc (Nat.le_refl _) (.cells #[.string zp, .int .i64 zn, .int .i64 zc, .int .i64 za, .int .i64 zb, .bool zk, .bool ze, .bool zx, .int .u64 ys, .int .i64 yz, .string zf, .int .i64 zm] 43)
  have HB4 := Lib.hid ((HB2.out.trans (hb3.mono HB2.out.size)).trans (hb4.mono (Nat.le_trans HB2.out.size hb3.size)))
  have HD4 := Lib.hid ((HD2.out.below hb3).below hb4)
  have HA4 := Lib.hid ((HA2.out.below hb3).below hb4)
  have HZ4 := Lib.hid (Blk.new w3 43 [.string zp, .int .i64 zn, .int .i64 zc, .int .i64 za, .int .i64 zb, .bool zk, .bool ze, .bool zx, .int .u64 ys, .int .i64 yz, .string zf, .int .i64 zm])
  have HZM := Lib.hid hz
  clear hb3 hb4 d0 d1 f0 f1 HD2 HF2 HA2 HB2 ltf hz
  go_upto_region 2 with fail
  generalize World.alloc w3 _ = w4 at *
  generalize w3.heap.size = zl at *
  obtain ⟨z0, z1, z2, z3, z4, z5, z6, z7, z8, z9, z10, z11⟩ := HZ4.out.c12
  cases b
  · go_wp2_with fail
    go_ret
    exact ⟨[], none, 0, rfl, RowK.In.nil _ _, LineD.nil d, by simp, HB4.out⟩
  by_cases h1 : za = 1
  rotate_left
  · have e1 : (za == 1) = false := by simpa using h1
    have e1' : (za != 1) = true := by simpa using h1
    have e1'' : decide (za = 1) = false := by simpa using h1
    go_wp2_with fail
    go_ret
    exact ⟨[], none, 0, rfl, RowK.In.nil _ _, LineD.nil d, by simp, HB4.out⟩
  have e1 : (za == 1) = true := by simpa using h1
  have e1' : (za != 1) = false := by simpa using h1
  have e1'' : decide (za = 1) = true := by simpa using h1
  have hzm := HZM.out rfl
  obtain ⟨j, hj, hje⟩ := List.mem_iff_getElem.1 hzm.1
  have hmm := (uniq_at HC.out.hist.uniq (i := j) (v := ⟨zp, zn, zc, za, ⟨zb, zk, ze, zx⟩, ⟨ys, yz⟩, zf, zm⟩) (by rw [List.getElem?_eq_getElem hj, hje]) (by show za ≠ 5; rw [h1]; decide)).1
  have HL0 := Lib.hid (LineD.first hmm h1)
  clear hzm hj hje hmm HZM h1
  have HO5 := Lib.hid (World.ownsRow_lit (e := 43) (size := 12) (base := w4.heap.size) w4 #[.string zp, .int .i64 zn, .int .i64 zc, .int .i64 za, .int .i64 zb, .bool zk, .bool ze, .bool zx, .int .u64 ys, .int .i64 yz, .string zf, .int .i64 zm] 1 (Nat.le_refl _) (by unfold maxLen; omega) rfl)
  have HB5 := Lib.hid (HB4.out.alloc HB4.out.size (.cells #[.string zp, .int .i64 zn, .int .i64 zc, .int .i64 za, .int .i64 zb, .bool zk, .bool ze, .bool zx, .int .u64 ys, .int .i64 yz, .string zf, .int .i64 zm] 43))
  have HB5b := Lib.hid ((Below.refl w4.heap.size w4).alloc (Nat.le_refl _) (.cells #[.string zp, .int .i64 zn, .int .i64 zc, .int .i64 za, .int .i64 zb, .bool zk, .bool ze, .bool zx, .int .u64 ys, .int .i64 yz, .string zf, .int .i64 zm] 43))
  have HD5 := Lib.hid (HD4.out.alloc (.cells #[.string zp, .int .i64 zn, .int .i64 zc, .int .i64 za, .int .i64 zb, .bool zk, .bool ze, .bool zx, .int .u64 ys, .int .i64 yz, .string zf, .int .i64 zm] 43))
  have hb4 := HB4.out.size
  go_upto_region 5 with fail
  clear z0 z1 z2 z3 z4 z5 z6 z7 z8 z9 z10 z11 HZ4 HD4
  obtain ⟨d0, d1⟩ := HD5.out.c2
  generalize hw5 : World.alloc w4 _ = w5 at *
  go_wp2_with fail
  clear d0 d1 hw5
  go_loopw [7, 32] (fun x i wr => ∃ (k : Nat) (L : List Rev) (u : Rev), i = .int .i64 k ∧ k ≤ d.revs.length ∧ L.length ≤ k ∧ Hid (LineD d (L ++ [u])) ∧ wr.ownsRow w4.heap.size 43 12 x (L.length + 1) (revK.flat (L ++ [u])) ∧ Below w4.heap.size w4 wr) (fun _ i _ => d.revs.length - (intOf i).toNat)
  case atStart => exact ⟨0, [], ⟨zp, zn, zc, za, ⟨zb, zk, ze, zx⟩, ⟨ys, yz⟩, zf, zm⟩, rfl, Nat.zero_le _, Nat.le_refl _, HL0, HO5.out, HB5b.out⟩
  case round =>
    obtain ⟨k, L, u, rfl, hk, hLk, hL, hO, hB⟩ := hrel
    have HO := Lib.hid hO
    have HB := Lib.hid hB
    by_cases hlt : k < d.revs.length
    · obtain ⟨g, off, rfl, hbl, hat⟩ := HA4.out (by omega)
      have hg := List.getElem?_eq_getElem hlt
      generalize hq : d.revs[k] = v at *
      have HG := Lib.hid hg
      have hat := hat.below hB hbl
      obtain ⟨gx, gc, rfl, hgx⟩ : ∃ gx gc, u7 = .slice (some ⟨gx, 0, none⟩) (L.length + 1) gc ∧ w4.heap.size ≤ gx := by
        rcases HO.out.2 with ⟨_, h⟩ | ⟨gx, gc, cs, h3, h4, _⟩
        · omega
        · exact ⟨gx, gc, h3, h4⟩
      obtain ⟨vp, vn, vc, va, ⟨tb, tk, te, tx⟩, ⟨cs, cz⟩, vs, vm⟩ := v
      (have hcv := fun j (u : Value) (hj : ((⟨vp, vn, vc, va, ⟨tb, tk, te, tx⟩, ⟨cs, cz⟩, vs, vm⟩ : Rev)).cells[j]? = some u) => ((hat).get hg hj); have c0 := hcv 0 _ rfl; have c1 := hcv 1 _ rfl; have c2 := hcv 2 _ rfl; have c3 := hcv 3 _ rfl; have c4 := hcv 4 _ rfl; have c5 := hcv 5 _ rfl; have c6 := hcv 6 _ rfl; have c7 := hcv 7 _ rfl; have c8 := hcv 8 _ rfl; have c9 := hcv 9 _ rfl; have c10 := hcv 10 _ rfl; have c11 := hcv 11 _ rfl; have e12 : revK.n = 12 := rfl; simp only [e12, Nat.add_zero] at c0 c1 c2 c3 c4 c5 c6 c7 c8 c9 c10 c11; clear hcv e12)
      have hb6 := (Below.refl wr.heap.size wr).alloc (Nat.le_refl _) (.cells #[.string vp, .int .i64 vn, .int .i64 vc, .int .i64 va, .int .i64 tb, .bool tk, .bool te, .bool tx, .int .u64 cs, .int .i64 cz, .string vs, .int .i64 vm] 43)
      have HV6 := Lib.hid (Blk.new wr 43 ([.string vp, .int .i64 vn, .int .i64 vc, .int .i64 va, .int .i64 tb, .bool tk, .bool te, .bool tx, .int .u64 cs, .int .i64 cz, .string vs, .int .i64 vm]))
      have HO6 := Lib.hid (HO.out.alloc (.cells (#[.string vp, .int .i64 vn, .int .i64 vc, .int .i64 va, .int .i64 tb, .bool tk, .bool te, .bool tx, .int .u64 cs, .int .i64 cz, .string vs, .int .i64 vm]) 43))
      have HB6 := Lib.hid (HB.out.trans (hb6.mono HB.out.size))
      have hgl2 : g < wr.heap.size := Nat.lt_of_lt_of_le hbl HB.out.size
      clear hat hg hq hO hB hb6 HO HB
      go_upto_region 8 with fail
      generalize World.alloc wr _ = w6 at *
      generalize wr.heap.size = vb at *
      clear c0 c1 c2 c3 c4 c5 c6 c7 c8 c9 c10 c11
      obtain ⟨v0, v1, v2, v3, v4, v5, v6, v7, v8, v9, v10, v11⟩ := HV6.out.c12
      by_cases h5 : va = 5
      · have e5 : (va == 5) = true := by simpa using h5
        have e5' : decide (va = 5) = true := by simpa using h5
        clear h5
        go_wp2_with fail
        go_roundw
        case rel => exact ⟨k + 1, L, u, by go_num, by omega, by omega, hL, HO6.out, HB6.out⟩
        case measure => simp [intOf]; omega
      have e5 : (va == 5) = false := by simpa using h5
      have e5' : decide (va = 5) = false := by simpa using h5
      by_cases h1 : va = 1
      · have e1 : (va == 1) = true := by simpa using h1
        have e1' : decide (va = 1) = true := by simpa using h1
        clear h1 h5
        go_wp2_with fail
        go_roundw
        case rel => exact ⟨k + 1, L, u, by go_num, by omega, by omega, hL, HO6.out, HB6.out⟩
        case measure => simp [intOf]; omega
      have e1 : (va == 1) = false := by simpa using h1
      have e1' : decide (va = 1) = false := by simpa using h1
      obtain ⟨hmv, _⟩ := uniq_at HC.out.hist.uniq HG.out h5
      have HMV := Lib.hid hmv
      have hmu := hL.out.mem L.length u (by simp)
      have HMU := Lib.hid hmu
      obtain ⟨gb, goff, hgA, hgbl, hgat⟩ := RowK.In.of_row (R := revK) HO6.out (by simp)
      obtain ⟨rfl, rfl⟩ : gx = gb ∧ 0 = goff := by
        injection hgA with h
        injection h with h1 h2 h3
        exact ⟨h1, h2⟩
      have hgu : (L ++ [u])[L.length]? = some u := by simp
      obtain ⟨up, un, uc, ua, ⟨ub, uk, ue, ux⟩, ⟨us, uz⟩, uf, um⟩ := u
      (have hcv := fun j (u : Value) (hj : ((⟨up, un, uc, ua, ⟨ub, uk, ue, ux⟩, ⟨us, uz⟩, uf, um⟩ : Rev)).cells[j]? = some u) => ((hgat).get hgu hj); have c0 := hcv 0 _ rfl; have c1 := hcv 1 _ rfl; have c2 := hcv 2 _ rfl; have c3 := hcv 3 _ rfl; have c4 := hcv 4 _ rfl; have c5 := hcv 5 _ rfl; have c6 := hcv 6 _ rfl; have c7 := hcv 7 _ rfl; have c8 := hcv 8 _ rfl; have c9 := hcv 9 _ rfl; have c10 := hcv 10 _ rfl; have c11 := hcv 11 _ rfl; have e12 : revK.n = 12 := rfl; simp only [e12, Nat.add_zero] at c0 c1 c2 c3 c4 c5 c6 c7 c8 c9 c10 c11; clear hcv e12)
      simp only [Nat.zero_add] at c0 c1 c2 c3 c4 c5 c6 c7 c8 c9 c10 c11
      have hnn := (HC.out.mem (f := (vp, vn)) (by rw [show ((vp, vn) : Fil) = Rev.fil ⟨vp, vn, vc, va, ⟨tb, tk, te, tx⟩, ⟨cs, cz⟩, vs, vm⟩ from rfl, hmv]; rfl)).2
      have hb7 := (Below.refl w6.heap.size w6).alloc (Nat.le_refl _) (.cells #[.string up, .int .i64 un, .int .i64 uc, .int .i64 ua, .int .i64 ub, .bool uk, .bool ue, .bool ux, .int .u64 us, .int .i64 uz, .string uf, .int .i64 um] 43)
      have HU7 := Lib.hid (Blk.new w6 43 [.string up, .int .i64 un, .int .i64 uc, .int .i64 ua, .int .i64 ub, .bool uk, .bool ue, .bool ux, .int .u64 us, .int .i64 uz, .string uf, .int .i64 um])
      have HV7 := Lib.hid (HV6.out.below hb7)
      have HO7 := Lib.hid (HO6.out.alloc (.cells #[.string up, .int .i64 un, .int .i64 uc, .int .i64 ua, .int .i64 ub, .bool uk, .bool ue, .bool ux, .int .u64 us, .int .i64 uz, .string uf, .int .i64 um] 43))
      have HB7 := Lib.hid (HB6.out.trans (hb7.mono HB6.out.size))
      clear hgat hgu hgA hmv hmu hb7
      go_upto_region 10 with fail
      generalize World.alloc w6 _ = w7 at *
      generalize w6.heap.size = bu at *
      clear c0 c1 c2 c3 c4 c5 c6 c7 c8 c9 c10 c11 v0 v1 v2 v3 v4 v5 v6 v7 v8 v9 v10 v11 HV6 HO6 HB6
      obtain ⟨v0, v1, v2, v3, v4, v5, v6, v7, v8, v9, v10, v11⟩ := HV7.out.c12
      obtain ⟨c0, c1, -, -, -, -, -, -, -, -, -, -⟩ := HU7.out.c12
      have HL7 := Lib.hid (revK.lit w7 ⟨vp, vn, vc, va, ⟨tb, tk, te, tx⟩, ⟨cs, cz⟩, vs, vm⟩ 43)
      by_cases h4 : va = 4
      · have e4 : (va == 4) = true := by simpa using h4
        have e4' : decide (va = 4) = true := by simpa using h4
        cases hp : (vs == up)
        · have hp' : (vs.toList == up.toList) = false := by rw [path_tl]; exact hp
          clear h4 h1 h5 hp
          go_wp2_with fail
          go_roundw
          case rel => exact ⟨k + 1, L, ⟨up, un, uc, ua, ⟨ub, uk, ue, ux⟩, ⟨us, uz⟩, uf, um⟩, by go_num, by omega, by omega, hL, HO7.out, HB7.out⟩
          case measure => simp [intOf]; omega
        · have hp' : (vs.toList == up.toList) = true := by rw [path_tl]; exact hp
          by_cases hq : vm = un
          · have eq : (vm == un) = true := by simpa using hq
            have eq' : decide (vm = un) = true := by simpa using hq
            have HBF : Hid (beforeF ⟨vp, vn, vc, va, ⟨tb, tk, te, tx⟩, ⟨cs, cz⟩, vs, vm⟩ = some (Rev.fil ⟨up, un, uc, ua, ⟨ub, uk, ue, ux⟩, ⟨us, uz⟩, uf, um⟩)) := by
              show _ = _
              have hpe := eq_of_beq hp
              simp [beforeF, h4, hpe, hq, Rev.fil]
            clear h4 h1 h5 hp hq
            have hz7 := HB7.out.size
            have HNL := Lib.hid (hL.out.snoc HMV.out (prev_own HMV.out HBF.out HMU.out))
            go_wp2_with (at_builtin; go_loud (refine wpList_append_own _ rfl _ _ 25 rfl w4.heap.size 43 i0 zeroRev.val 12 96 Tryz.underlying25 hi0 hz0 hz1 hz2 rfl (by decide) _ _ _ rfl (HO7.out.alloc _) ⟨w7.heap.size, 0, none⟩ 1 1 (revK.cells ⟨vp, vn, vc, va, ⟨tb, tk, te, tx⟩, ⟨cs, cz⟩, vs, vm⟩) rfl rfl HL7.out.1 HL7.out.2 (by unfold maxLen; omega) (by omega) (by simp; omega) ?_); intro v2 w8 ho2 hg2 _)
            have hB8 : Below w4.heap.size w4 w8 := (HB7.out.alloc HB7.out.size _).grown hg2 (by have := HB7.out.size; simp; omega) (fun j e => by have := (HO7.out.lt j e).1; omega)
            have HO8 := Lib.hid (line_snoc ho2)
            have HB8 := Lib.hid hB8
            clear ho2 hg2 hB8
            refine ⟨⟨k + 1, L ++ [⟨up, un, uc, ua, ⟨ub, uk, ue, ux⟩, ⟨us, uz⟩, uf, um⟩], ⟨vp, vn, vc, va, ⟨tb, tk, te, tx⟩, ⟨cs, cz⟩, vs, vm⟩, ?_, ?_, ?_, ?_, ?_, ?_⟩, ?_⟩
            · go_num
            · omega
            · rw [List.length_append, List.length_singleton]
              omega
            · exact HNL
            · exact HO8.out
            · exact HB8.out
            · simp [intOf]
              omega
          · have eq : (vm == un) = false := by simpa using hq
            have eq' : decide (vm = un) = false := by simpa using hq
            clear h4 h1 h5 hp hq
            go_wp2_with fail
            go_roundw
            case rel => exact ⟨k + 1, L, ⟨up, un, uc, ua, ⟨ub, uk, ue, ux⟩, ⟨us, uz⟩, uf, um⟩, by go_num, by omega, by omega, hL, HO7.out, HB7.out⟩
            case measure => simp [intOf]; omega
      · have e4 : (va == 4) = false := by simpa using h4
        have e4' : decide (va = 4) = false := by simpa using h4
        cases hp : (vp == up)
        · have hp' : (vp.toList == up.toList) = false := by rw [path_tl]; exact hp
          clear h4 h1 h5 hp
          go_wp2_with fail
          go_roundw
          case rel => exact ⟨k + 1, L, ⟨up, un, uc, ua, ⟨ub, uk, ue, ux⟩, ⟨us, uz⟩, uf, um⟩, by go_num, by omega, by omega, hL, HO7.out, HB7.out⟩
          case measure => simp [intOf]; omega
        · have hp' : (vp.toList == up.toList) = true := by rw [path_tl]; exact hp
          by_cases hq : vn - 1 = un
          · have eq : (vn - 1 == un) = true := by simpa using hq
            have eq' : decide (vn - 1 = un) = true := by simpa using hq
            have HBF : Hid (beforeF ⟨vp, vn, vc, va, ⟨tb, tk, te, tx⟩, ⟨cs, cz⟩, vs, vm⟩ = some (Rev.fil ⟨up, un, uc, ua, ⟨ub, uk, ue, ux⟩, ⟨us, uz⟩, uf, um⟩)) := by
              show _ = _
              have hpe := eq_of_beq hp
              simp [beforeF, h4, h1, hpe, hq, Rev.fil]
            clear h4 h1 h5 hp hq
            have hz7 := HB7.out.size
            have HNL := Lib.hid (hL.out.snoc HMV.out (prev_own HMV.out HBF.out HMU.out))
            go_wp2_with (at_builtin; go_loud (refine wpList_append_own _ rfl _ _ 25 rfl w4.heap.size 43 i0 zeroRev.val 12 96 Tryz.underlying25 hi0 hz0 hz1 hz2 rfl (by decide) _ _ _ rfl (HO7.out.alloc _) ⟨w7.heap.size, 0, none⟩ 1 1 (revK.cells ⟨vp, vn, vc, va, ⟨tb, tk, te, tx⟩, ⟨cs, cz⟩, vs, vm⟩) rfl rfl HL7.out.1 HL7.out.2 (by unfold maxLen; omega) (by omega) (by simp; omega) ?_); intro v2 w8 ho2 hg2 _)
            have hB8 : Below w4.heap.size w4 w8 := (HB7.out.alloc HB7.out.size _).grown hg2 (by have := HB7.out.size; simp; omega) (fun j e => by have := (HO7.out.lt j e).1; omega)
            have HO8 := Lib.hid (line_snoc ho2)
            have HB8 := Lib.hid hB8
            clear ho2 hg2 hB8
            refine ⟨⟨k + 1, L ++ [⟨up, un, uc, ua, ⟨ub, uk, ue, ux⟩, ⟨us, uz⟩, uf, um⟩], ⟨vp, vn, vc, va, ⟨tb, tk, te, tx⟩, ⟨cs, cz⟩, vs, vm⟩, ?_, ?_, ?_, ?_, ?_, ?_⟩, ?_⟩
            · go_num
            · omega
            · rw [List.length_append, List.length_singleton]
              omega
            · exact HNL
            · exact HO8.out
            · exact HB8.out
            · simp [intOf]
              omega
          · have eq : (vn - 1 == un) = false := by simpa using hq
            have eq' : decide (vn - 1 = un) = false := by simpa using hq
            clear h4 h1 h5 hp hq
            go_wp2_with fail
            go_roundw
            case rel => exact ⟨k + 1, L, ⟨up, un, uc, ua, ⟨ub, uk, ue, ux⟩, ⟨us, uz⟩, uf, um⟩, by go_num, by omega, by omega, hL, HO7.out, HB7.out⟩
            case measure => simp [intOf]; omega
    · obtain rfl : k = d.revs.length := by omega
      obtain ⟨gx, gc, rfl, hgx⟩ : ∃ gx gc, u7 = .slice (some ⟨gx, 0, none⟩) (L.length + 1) gc ∧ w4.heap.size ≤ gx := by
        rcases HO.out.2 with ⟨_, h⟩ | ⟨gx, gc, cs, h3, h4, _⟩
        · omega
        · exact ⟨gx, gc, h3, h4⟩
      have hin := RowK.In.of_row (R := revK) HO.out
      have HE := Lib.hid (And.intro hin (HB4.out.trans (HB.out.mono HB4.out.size)))
      clear hin hO hB HO HB
      go_wp2_with fail
      go_ret
      exact ⟨L ++ [u], _, gc, by rw [List.length_append, List.length_singleton]; rfl, HE.out.1, hL.out, by rw [List.length_append, List.length_singleton]; omega, HE.out.2⟩
end Go.Proofs.YthonhikkoabhlaaGreatDoor
