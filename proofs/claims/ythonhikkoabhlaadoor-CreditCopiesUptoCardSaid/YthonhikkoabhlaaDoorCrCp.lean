/-
  CreditCopies returns true for all changes and names that are not longer than 1048576 bytes; what was in memory before the call stays as it was (printed by mklaw14.py).
-/
import Derived.Test.YthonhikkoabhlaaDoorCrY
import Derived.Test.YthonhikkoabhlaaDoorCrW
import Derived.Test.YthonhikkoabhlaaDoorDpM
import Derived.Test.YthonhikkoabhlaaDoorDpN
namespace Go.Proofs.YthonhikkoabhlaaDoor
open Go.RowKit

theorem prevF_app {d : Dep} {c : Chg} (H : Hist d) {f : Fil} (hm : (memD d.revs f).isSome = true) : prevF (appD d c).revs f = prevF d.revs f := by
  obtain ⟨v, hv⟩ := Option.isSome_iff_exists.1 hm
  have h1 : memD (appD d c).revs f = some v := (mem_app (e := c.edits.map (madeR c.num)) hm).1.trans hv
  cases hp : prevF d.revs f with
  | some u => exact prevF_of h1 (prevF_before hv hp) (by
      have h2 := (prevF_mem hp).1
      show (memD (d.revs ++ c.edits.map (madeR c.num)) u).isSome = true
      rw [(mem_app h2).1]
      exact h2)
  | none =>
    cases hq : prevF (appD d c).revs f with
    | none => rfl
    | some u =>
      have h2 := H.has f v hv (beforeF_act (prevF_before h1 hq)).1
      rw [hp] at h2
      cases h2
/-! Lines: what comes before what. -/
inductive Anc (d : List Rev) : Fil → Fil → Prop
  | refl (u : Fil) : Anc d u u
  | step {u v w : Fil} : prevF d w = some v → Anc d u v → Anc d u w
theorem Anc.first {d : List Rev} {u v : Fil} (h : Anc d u v) : u = v ∨ ∃ w, prevF d w = some u ∧ Anc d w v := by
  induction h with
  | refl => exact .inl rfl
  | @step v w hp _ ih =>
    rcases ih with rfl | ⟨x, h1, h2⟩
    · exact .inr ⟨w, hp, .refl _⟩
    · exact .inr ⟨x, h1, .step hp h2⟩
theorem Anc.rk {d : Dep} (H : Hist d) {u v : Fil} (h : Anc d.revs u v) : rkD d.revs u ≤ rkD d.revs v := by
  induction h with
  | refl => exact Nat.le_refl _
  | step hp _ ih => exact Nat.le_trans ih (Nat.le_of_lt (H.prev _ _ hp))
theorem anc_car {d : Dep} (H : Hist d) {u v : Fil} (h : Anc d.revs u v) {g : Fil} (hg : (tabD d u).car g) : (tabD d v).car g := by
  induction h with
  | refl => exact hg
  | step hp _ ih =>
    rw [tab_fix H (prevF_mem hp).2]
    exact .inr (.inl ⟨_, hp, ih⟩)
theorem rk_inj {d : List Rev} {a b : Fil} (ha : (memD d a).isSome = true) (hb : (memD d b).isSome = true) (h : rkD d a = rkD d b) : a = b := by
  obtain ⟨v, h1, h2⟩ := rk_at ha
  obtain ⟨w, h3, h4⟩ := rk_at hb
  rw [h, h3] at h1
  cases h1
  exact (mem_some h2).2.2.symm.trans (mem_some h4).2.2
structure LnD (d : Dep) : Prop where
  one : ∀ a b u, prevF d.revs a = some u → prevF d.revs b = some u → a = b
  gone : ∀ v ∈ d.revs, v.act = 4 → ∃ y ∈ d.revs, y.path = v.src ∧ y.num = v.srcn + 1
  chg : ∀ f u v w, prevF d.revs f = some u → memD d.revs f = some v → memD d.revs u = some w → w.chg < v.chg
  rcs : ∀ r ∈ d.recs, ∀ n, r.fst ≤ n → n ≤ r.lst → Anc d.revs (r.src, n) (r.src, r.lst)
section
variable {d : Dep} (H : Hist d) (hok : DepOk d) (one : ∀ a b u, prevF d.revs a = some u → prevF d.revs b = some u → a = b) (chg : ∀ f u v w, prevF d.revs f = some u → memD d.revs f = some v → memD d.revs u = some w → w.chg < v.chg)
include H hok chg
theorem first_prev {f u : Fil} {v w : Rev} (hp : prevF d.revs f = some u) (hv : memD d.revs f = some v) (hw : memD d.revs u = some w) : firstD d.revs v = firstD d.revs w := by
  refine first_step hok.okR ?_ (chg f u v w hp hv hw)
  have hg : getD' d.revs u.1 u.2 = some w := by
    have h1 := get_mem' H.uniq u.1 u.2
    rw [show memD d.revs (u.1, u.2) = some w from hw] at h1
    exact (Option.filter_eq_some_iff.1 h1.symm).1
  obtain ⟨h1, ⟨h4, rfl⟩ | ⟨h4, rfl⟩⟩ := beforeF_act (prevF_before hv hp)
  · unfold prevD
    rw [if_neg (by simpa using h1), if_pos (by simpa using h4)]
    exact hg
  · unfold prevD
    rw [if_neg (by simpa using h1), if_neg (by simpa using h4)]
    exact hg
omit chg in
theorem first_none {f : Fil} {v : Rev} (hp : prevF d.revs f = none) (hv : memD d.revs f = some v) : firstD d.revs v = f := by
  have h1 : v.act = 1 := by
    by_cases h : v.act = 1
    · exact h
    · have := H.has f v hv h
      rw [hp] at this
      cases this
  have h2 : prevD d.revs v = none := by
    unfold prevD
    rw [if_pos (by simpa using h1)]
  rw [first_end hok.okR (fun u hu => by rw [h2] at hu; cases hu)]
  exact (mem_some hv).2.2
theorem first_anc : ∀ (k : Nat) (f : Fil) (v : Rev), rkD d.revs f ≤ k → memD d.revs f = some v → Anc d.revs (firstD d.revs v) f ∧ (memD d.revs (firstD d.revs v)).isSome = true := by
  intro k
  induction k using Nat.strongRecOn with
  | ind k ih =>
    intro f v hk hv
    cases hp : prevF d.revs f with
    | none =>
      rw [first_none H hok hp hv]
      exact ⟨.refl _, by rw [hv]; rfl⟩
    | some u =>
      obtain ⟨w, hw⟩ := Option.isSome_iff_exists.1 (prevF_mem hp).1
      have hr := H.prev f u hp
      rw [first_prev H hok chg hp hv hw]
      obtain ⟨h1, h2⟩ := ih (rkD d.revs u) (by omega) u w (Nat.le_refl _) hw
      exact ⟨.step hp h1, h2⟩
include one
/-- Of two members of a line the earlier one comes before the later one. -/
theorem line_anc : ∀ (k : Nat) (a b : Fil) (x y : Rev), rkD d.revs b ≤ k → memD d.revs a = some x → memD d.revs b = some y → firstD d.revs x = firstD d.revs y → rkD d.revs a ≤ rkD d.revs b → Anc d.revs a b := by
  intro k
  induction k using Nat.strongRecOn with
  | ind k ih =>
    intro a b x y hk ha hb hf hr
    have ma : (memD d.revs a).isSome = true := by rw [ha]; rfl
    have mb : (memD d.revs b).isSome = true := by rw [hb]; rfl
    cases hp : prevF d.revs b with
    | none =>
      have h1 := first_none H hok hp hb
      have h2 := (first_anc H hok chg _ a x (Nat.le_refl _) ha).1
      rw [hf, h1] at h2
      have := h2.rk H
      rw [rk_inj ma mb (by omega)]
      exact .refl _
    | some u =>
      obtain ⟨z, hz⟩ := Option.isSome_iff_exists.1 (prevF_mem hp).1
      have hru := H.prev b u hp
      have hfz := first_prev H hok chg hp hb hz
      by_cases h1 : rkD d.revs a ≤ rkD d.revs u
      · exact .step hp (ih (rkD d.revs u) (by omega) a u x z (Nat.le_refl _) ha hz (hf.trans hfz) h1)
      · by_cases h2 : rkD d.revs a = rkD d.revs b
        · rw [rk_inj ma mb h2]
          exact .refl _
        · have h3 := ih (rkD d.revs a) (by omega) u a z x (Nat.le_refl _) hz ha (hfz.symm.trans hf.symm) (by omega)
          rcases h3.first with e | ⟨w, h4, h5⟩
          · rw [e] at h1
            omega
          · have e := one w b u h4 hp
            rw [e] at h5
            have := h5.rk H
            omega
end
/-- The numbers of a path's revisions rise in the depot's order. -/
theorem asc_rk {d : List Rev} (ha : Asc d) {p : ByteArray} {m n : Int} (hm : (memD d (p, m)).isSome = true) (hn : (memD d (p, n)).isSome = true) (h : m ≤ n) : rkD d (p, m) ≤ rkD d (p, n) := by
  obtain ⟨v, h1, h2⟩ := rk_at hm
  obtain ⟨w, h3, h4⟩ := rk_at hn
  rcases Nat.lt_or_ge (rkD d (p, n)) (rkD d (p, m)) with hlt | hge
  · exfalso
    have hw := (mem_some h4).2.2
    have hv := (mem_some h2).2.2
    have hs : (logD d p).Pairwise fun a b => a.num < b.num := by
      have : ((logD d p).map (·.num)).Pairwise (· < ·) := by
        rw [ha p, List.pairwise_map]
        exact List.pairwise_lt_range.imp fun hlt => by omega
      exact List.pairwise_map.1 this
    unfold logD at hs
    rw [List.pairwise_filter, List.pairwise_iff_getElem] at hs
    obtain ⟨i1, e1⟩ := List.getElem?_eq_some_iff.1 h1
    obtain ⟨i3, e3⟩ := List.getElem?_eq_some_iff.1 h3
    have := hs _ _ i3 i1 hlt (by rw [e3]; exact (ba_beq _ _).2 (congrArg Prod.fst hw)) (by rw [e1]; exact (ba_beq _ _).2 (congrArg Prod.fst hv))
    rw [e1, e3] at this
    have q1 : v.num = m := congrArg Prod.snd hv
    have q2 : w.num = n := congrArg Prod.snd hw
    omega
  · exact hge
theorem rev_le {d : List Rev} (ha : Asc d) {v : Rev} (h : v ∈ d) : v.num ≤ lastN d v.path := by
  have h4 : v ∈ logD d v.path := List.mem_filter.2 ⟨h, ba_self _⟩
  have h5 : v.num ∈ (logD d v.path).map (·.num) := List.mem_map_of_mem h4
  rw [ha v.path] at h5
  obtain ⟨i, hi, he⟩ := List.mem_map.1 h5
  rw [List.mem_range] at hi
  rw [asc_last ha]
  omega
theorem count_one {α : Type} {p : α → Bool} : ∀ {l : List α} {x y : α}, l.countP p = 1 → x ∈ l → y ∈ l → p x = true → p y = true → x = y := by
  intro l x y h hx hy px py
  rw [List.countP_eq_length_filter] at h
  obtain ⟨a, ha⟩ := List.length_eq_one_iff.1 h
  have h1 : x ∈ l.filter p := List.mem_filter.2 ⟨hx, px⟩
  have h2 : y ∈ l.filter p := List.mem_filter.2 ⟨hy, py⟩
  rw [ha, List.mem_singleton] at h1 h2
  rw [h1, h2]
theorem moved_of {E : List Edt} {x : Edt} (h : movedE E x = true) (ha : x.act = 4) : ∃ z ∈ E, z.act = 5 ∧ z.path = x.src := by
  unfold movedE at h
  simp only [ha, Bool.or_eq_true, decide_eq_true_eq] at h
  rcases h with h | h
  · obtain ⟨z, hz, hp⟩ := List.countP_pos_iff.1 (show 0 < E.countP (pairE x) by omega)
    unfold pairE at hp
    simp only [ha, Bool.or_eq_true, Bool.and_eq_true, beq_iff_eq] at hp
    rcases hp with ⟨⟨h1, _⟩, _⟩ | ⟨⟨_, h1⟩, h2⟩
    · exact absurd h1 (by decide)
    · exact ⟨z, hz, h1, ba_data (by rw [← toList_eq, ← toList_eq, h2])⟩
  · exact absurd h (by decide)
theorem moved_one {E : List Edt} {x y z : Edt} (h : movedE E z = true) (hz : z.act = 5) (hx : x ∈ E) (hy : y ∈ E) (ax : x.act = 4) (ay : y.act = 4) (sx : x.src = z.path) (sy : y.src = z.path) : x = y := by
  unfold movedE at h
  simp only [hz, Bool.or_eq_true, decide_eq_true_eq] at h
  rcases h with h | h
  · exact count_one h hx hy (by simp [pairE, hz, ax, sx]) (by simp [pairE, hz, ay, sy])
  · exact absurd h (by decide)
theorem edits_apart {d : List Rev} {nb : Nat} {c : Chg} (hc : ChkOk d nb c) {x y : Edt} (hx : x ∈ c.edits) (hy : y ∈ c.edits) (h : x.path = y.path) : x = y := by
  have hp := ord_all (E := c.edits) fun i a b h1 h2 => (hc.edit (i + 1) b h2).order a (by omega) h1
  obtain ⟨i, hi⟩ := List.mem_iff_getElem?.1 hx
  obtain ⟨j, hj⟩ := List.mem_iff_getElem?.1 hy
  obtain ⟨i1, e1⟩ := List.getElem?_eq_some_iff.1 hi
  obtain ⟨j1, e2⟩ := List.getElem?_eq_some_iff.1 hj
  rw [List.pairwise_iff_getElem] at hp
  rcases Nat.lt_trichotomy i j with hlt | rfl | hlt
  · have := hp i j i1 j1 hlt
    rw [e1, e2, h, ordH_self] at this
    exact absurd this (by decide)
  · rw [hi] at hj
    cases hj
    rfl
  · have := hp j i j1 i1 hlt
    rw [e1, e2, h, ordH_self] at this
    exact absurd this (by decide)
theorem LnD.step {d : Dep} {c : Chg} (h : Blt d) (L : LnD d) (hc : ChkOk d.revs d.recs.length c) (hm : ∀ x ∈ sortR (d.recs ++ c.recs), x ∈ d.recs ++ c.recs) (hl : (sortR (d.recs ++ c.recs)).length = (d.recs ++ c.recs).length) : LnD (appD d c) := by
  have H := h.hist
  have H' : Hist (appD d c) := (Blt.step h hc hm hl).hist
  have hok := h.ok
  have app : ∀ f, (memD d.revs f).isSome = true → memD (appD d c).revs f = memD d.revs f := fun f hf => (mem_app (e := c.edits.map (madeR c.num)) hf).1
  have old : ∀ f u, (memD d.revs f).isSome = true → prevF (appD d c).revs f = some u → prevF d.revs f = some u := fun f u hf hu => by
    rw [prevF_app H hf] at hu
    exact hu
  -- a new member: its edit, and what it hangs on
  have new : ∀ f u, memD d.revs f = none → prevF (appD d c).revs f = some u → ∃ x ∈ c.edits, f = (x.path, x.base + 1) ∧ x.act ≠ 5 ∧ memD (appD d c).revs f = some (madeR c.num x) ∧ x.act ≠ 1 ∧ lastN d.revs u.1 = u.2 ∧ (memD d.revs u).isSome = true ∧ ((x.act = 4 ∧ u = (x.src, x.srcn)) ∨ (x.act ≠ 4 ∧ u = (x.path, x.base))) := fun f u hf hu => by
    obtain ⟨v, hv⟩ := Option.isSome_iff_exists.1 (prevF_mem hu).2
    obtain ⟨x, hx, rfl, h5, he⟩ := mem_made hv hf
    have hb := prevF_before hv hu
    have hmu := made_before hok hc hx hb
    obtain ⟨i, hi⟩ := hc.at hx
    obtain ⟨h1, ⟨h4, e4⟩ | ⟨h4, e4⟩⟩ := beforeF_act hb
    · refine ⟨x, hx, he, h5, hv, h1, ?_, hmu, .inl ⟨h4, e4⟩⟩
      rw [e4]
      exact (hi.here h4).2.1
    · have e5 : u = (x.path, x.base) := by
        rw [e4]
        show (x.path, x.base + 1 - 1) = _
        rw [Int.add_sub_cancel]
      refine ⟨x, hx, he, h5, hv, h1, ?_, hmu, .inr ⟨h4, e5⟩⟩
      rw [e5]
      exact hi.base.symm
  -- an old member does not hang on what is a path's last revision
  have last : ∀ a u, (memD d.revs a).isSome = true → prevF d.revs a = some u → lastN d.revs u.1 = u.2 → False := fun a u ha hu hlast => by
    obtain ⟨v, hv⟩ := Option.isSome_iff_exists.1 ha
    obtain ⟨h1, ⟨h4, e4⟩ | ⟨h4, e4⟩⟩ := beforeF_act (prevF_before hv hu)
    · obtain ⟨y, hy, q1, q2⟩ := L.gone v (mem_some hv).1 h4
      have := rev_le hok.asc hy
      rw [q1, q2] at this
      rw [e4] at hlast
      dsimp only at hlast
      omega
    · have := rev_le hok.asc (mem_some hv).1
      rw [e4] at hlast
      dsimp only at hlast
      omega
  refine ⟨fun a b u ha hb => ?_, fun v hv h4 => ?_, fun f u v w hu hv hw => ?_, fun r hr n h1 h2 => ?_⟩
  · cases hma : memD d.revs a with
    | some va =>
      have hsa : (memD d.revs a).isSome = true := by rw [hma]; rfl
      have hua := old a u hsa ha
      cases hmb : memD d.revs b with
      | some vb => exact L.one a b u hua (old b u (by rw [hmb]; rfl) hb)
      | none =>
        obtain ⟨x, hx, -, -, -, -, hlast, -⟩ := new b u hmb hb
        exact (last a u hsa hua hlast).elim
    | none =>
      obtain ⟨x, hx, ea, x5, -, -, hlast, -, hxa⟩ := new a u hma ha
      cases hmb : memD d.revs b with
      | some vb => exact (last b u (by rw [hmb]; rfl) (old b u (by rw [hmb]; rfl) hb) hlast).elim
      | none =>
        obtain ⟨y, hy, eb, y5, -, -, -, -, hyb⟩ := new b u hmb hb
        rcases hxa with ⟨x4, e1⟩ | ⟨x4, e1⟩ <;> rcases hyb with ⟨y4, e2⟩ | ⟨y4, e2⟩
        · obtain ⟨z, hz, z5, zp⟩ := moved_of (hc.moved x hx) x4
          have e3 : x.src = y.src := congrArg Prod.fst (e1.symm.trans e2)
          have := moved_one (hc.moved z hz) z5 hx hy x4 y4 zp.symm (by rw [← e3, zp])
          rw [ea, eb, this]
        · obtain ⟨z, hz, z5, zp⟩ := moved_of (hc.moved x hx) x4
          have e3 : x.src = y.path := congrArg Prod.fst (e1.symm.trans e2)
          have := edits_apart hc hz hy (zp.trans e3)
          rw [this] at z5
          exact absurd z5 y5
        · obtain ⟨z, hz, z5, zp⟩ := moved_of (hc.moved y hy) y4
          have e3 : y.src = x.path := congrArg Prod.fst (e2.symm.trans e1)
          have := edits_apart hc hz hx (zp.trans e3)
          rw [this] at z5
          exact absurd z5 x5
        · have e3 := e1.symm.trans e2
          rw [ea, eb, show x.path = y.path from congrArg Prod.fst e3, show x.base = y.base from congrArg Prod.snd e3]
  · rcases List.mem_append.1 (show v ∈ d.revs ++ c.edits.map (madeR c.num) from hv) with hv | hv
    · obtain ⟨y, hy, q⟩ := L.gone v hv h4
      exact ⟨y, List.mem_append_left _ hy, q⟩
    · obtain ⟨x, hx, rfl⟩ := List.mem_map.1 hv
      have h4' : x.act = 4 := h4
      obtain ⟨z, hz, z5, zp⟩ := moved_of (hc.moved x hx) h4'
      obtain ⟨i, hi⟩ := hc.at hx
      obtain ⟨j, hj⟩ := hc.at hz
      refine ⟨madeR c.num z, List.mem_append_right _ (List.mem_map_of_mem hz), zp, ?_⟩
      show z.base + 1 = x.srcn + 1
      rw [hj.base, zp, (hi.here h4').2.1]
  · cases hf : memD d.revs f with
    | some v' =>
      have hsf : (memD d.revs f).isSome = true := by rw [hf]; rfl
      have hu' := old f u hsf hu
      rw [app f hsf] at hv
      rw [app u (prevF_mem hu').1] at hw
      exact L.chg f u v w hu' hv hw
    | none =>
      obtain ⟨x, hx, -, -, hv', -, -, hmu, -⟩ := new f u hf hu
      rw [hv] at hv'
      cases hv'
      rw [app u hmu] at hw
      exact hc.later w (mem_some hw).1
  · have up : ∀ a b, Anc d.revs a b → Anc (appD d c).revs a b := fun a b hab => by
      induction hab with
      | refl => exact .refl _
      | step hp _ ih => exact .step (by rw [prevF_app H (prevF_mem hp).2]; exact hp) ih
    refine up _ _ ?_
    rcases List.mem_append.1 (hm r hr) with hr | hr
    · exact L.rcs r hr n h1 h2
    · obtain ⟨i, hi⟩ := List.mem_iff_getElem?.1 hr
      obtain ⟨t, ht⟩ := hc.record i r hi
      have hs := ht.span
      have mem : ∀ m, r.fst ≤ m → m ≤ r.lst → memD d.revs (r.src, m) = some (getR d.revs r.src m) ∧ firstD d.revs (getR d.revs r.src m) = lineD d.revs r := fun m m1 m2 => by
        obtain ⟨v, hv, hvd, hvf⟩ := asc_get hok.asc (p := r.src) (n := m) (by omega) (by omega)
        have h3 := ht.each m m1 m2
        unfold getR at h3 ⊢
        rw [hv] at h3 ⊢
        refine ⟨?_, h3.2⟩
        rw [← hvf]
        exact mem_of H.uniq hvd h3.1
      have q1 := mem n h1 h2
      have q2 := mem r.lst hs.2.1 (Int.le_refl _)
      exact line_anc H hok L.one L.chg _ _ _ _ _ (Nat.le_refl _) q1.1 q2.1 (q1.2.trans q2.2.symm) (asc_rk hok.asc (by rw [q1.1]; rfl) (by rw [q2.1]; rfl) h2)
theorem Blt.lines {d : Dep} (h : Blt d) : LnD d := by
  induction h with
  | nil => exact ⟨fun a b u h => by simp [prevF, memD] at h, fun v h => by simp at h, fun f u v w h => by simp [prevF, memD] at h, fun r h => by simp at h⟩
  | step hb h1 h2 h3 ih => exact ih.step hb h1 h2 h3
/-- What the statement says of a record. -/
theorem copy_facts {d : Dep} (h : Blt d) {r : Rcd} (hr : r ∈ d.recs) :
    (memD d.revs (r.dst, r.num)).isSome = true ∧ (1 ≤ r.fst ∧ r.fst ≤ r.lst ∧ r.lst ≤ 512) ∧ (memD d.revs (r.src, r.lst)).isSome = true ∧
      (r.how = 1 → ∀ g, (tabD d (r.src, r.lst)).car g → (tabD d (r.dst, r.num)).car g) ∧
      ∀ n, r.fst ≤ n → n ≤ r.lst → (memD d.revs (r.src, n)).isSome = true ∧ (∀ g, (tabD d (r.src, n)).con g → (tabD d (r.dst, r.num)).cre g) ∧ (r.how ≠ 3 → ∀ g, (tabD d (r.src, n)).con g → (tabD d (r.dst, r.num)).car g) := by
  have H := h.hist
  have hm := H.goes r hr
  have hs := H.span r hr
  have hl := (H.src r hr r.lst hs.2 (Int.le_refl _)).1
  have hrd : r ∈ recsD d.recs (r.dst, r.num) := recsD_mem.2 ⟨hr, rfl⟩
  have e := tab_fix H hm
  have c1 : r.how = 1 → ∀ g, (tabD d (r.src, r.lst)).car g → (tabD d (r.dst, r.num)).car g := fun h1 g hg => by
    rw [e]
    exact .inr (.inr ⟨r, hrd, .inl ⟨h1, hg⟩⟩)
  have con : ∀ n, (memD d.revs (r.src, n)).isSome = true → ∀ g, (tabD d (r.src, n)).con g → (tabD d (r.src, n)).car g := fun n hn g hg => by
    rw [tab_fix H hn] at hg ⊢
    exact hg.1
  have cc : ∀ g, (tabD d (r.dst, r.num)).car g → (tabD d (r.dst, r.num)).cre g := fun g hg => by
    rw [e] at hg ⊢
    exact .inr (.inl hg)
  have car : ∀ n, r.fst ≤ n → n ≤ r.lst → r.how ≠ 3 → ∀ g, (tabD d (r.src, n)).con g → (tabD d (r.dst, r.num)).car g := fun n h1 h2 h3 g hg => by
    have hh := H.how r hr
    by_cases k1 : r.how = 1
    · exact c1 k1 g (anc_car H (h.lines.rcs r hr n h1 h2) (con n (H.src r hr n h1 h2).1 g hg))
    · rw [e]
      exact .inr (.inr ⟨r, hrd, .inr ⟨by omega, n, ⟨h1, h2⟩, hg⟩⟩)
  refine ⟨hm, ⟨hs.1, hs.2, (h.crd.mem hl).2.2⟩, hl, c1, fun n h1 h2 => ⟨(H.src r hr n h1 h2).1, fun g hg => ?_, car n h1 h2⟩⟩
  by_cases k3 : r.how = 3
  · rw [e]
    exact .inr (.inr ⟨r, hrd, k3, n, ⟨h1, h2⟩, hg⟩)
  · exact cc g (car n h1 h2 k3 g hg)

set_option maxRecDepth 100000 in
set_option maxHeartbeats 12800000 in
theorem copies_any (l : List Chg) (A : Option Addr) (ca : Nat) (w : World) (hA : ChsIn A l w) (hb : ChBnd l) (hg : G0 w) :
    Calls Tryd.prog 9 #[.slice A l.length ca] w fun e w' => e = .returned (.bool true) ∧ Below w.heap.size w w' := by
  have HSM := Lib.hid (fun x hx => rsmall_any l A ca x (hA.below hx) hb)
  have HBU := Lib.hid (fun x (hx : Below w.heap.size w x) => rbuild_any l A ca x (hA.below hx) (by have := hb.len; omega) (fun c hc => hb.sz hc) (hg.below hx))
  have HG := Lib.hid hg
  clear hA hb hg
  go_enter Tryd.func9, Tryd.ntmps9
  go_wp2_with fail
  refine (HSM.out _ (Below.refl _ _)).mono ?_
  rintro e w1 ⟨sm, rfl, -, hb1⟩
  have HB1 := Lib.hid hb1
  clear hb1
  cases sm
  · go_wp2_with (go_at_call 11; refine (awake14_any _).mono ?_; rintro e w9 ⟨rfl, HB9⟩)
    go_ret
    exact ⟨rfl, HB1.out.trans (HB9.mono HB1.out.size)⟩
  go_wp2_with fail
  refine (HBU.out _ HB1.out).mono ?_
  rintro e w3 ⟨d, DA, DB, da, db, rfl, hblt, hIA, hIB, hb3⟩
  have HC := Lib.hid hblt.crd
  have HMO := Lib.hid hblt.mono
  have HBLT := Lib.hid hblt
  have hRl : d.revs.length ≤ 512 := hblt.ok.few
  have HB3 := Lib.hid (HB1.out.trans (hb3.mono HB1.out.size))
  have HIA3 := Lib.hid hIA
  have HIB3 := Lib.hid hIB
  clear hb3 HB1 hIA hIB hblt HSM HBU
  have HM4 : Hid (Bs [(w3.heap.size, 28, [.slice DA d.revs.length da, .slice DB d.recs.length db])] (w3.alloc (.cells [.slice DA d.revs.length da, .slice DB d.recs.length db].toArray 28))) := ⟨Blk.new w3 28 [.slice DA d.revs.length da, .slice DB d.recs.length db], trivial⟩
  have HB4 : Hid (Below w.heap.size w (w3.alloc (.cells [.slice DA d.revs.length da, .slice DB d.recs.length db].toArray 28))) := HB3.out.alloc HB3.out.size _
  have HI4 := Lib.hid (HIA3.out.below ((Below.refl _ _).alloc (Nat.le_refl _) (.cells [.slice DA d.revs.length da, .slice DB d.recs.length db].toArray 28)))
  have HQ4 := Lib.hid (HIB3.out.below ((Below.refl _ _).alloc (Nat.le_refl _) (.cells [.slice DA d.revs.length da, .slice DB d.recs.length db].toArray 28)))
  have ltq : w3.heap.size < (w3.alloc (.cells [.slice DA d.revs.length da, .slice DB d.recs.length db].toArray 28)).heap.size := by simp
  have hq0 : w.heap.size ≤ w3.heap.size := HB3.out.size
  go_upto_region 4 with fail
  generalize w3.heap.size = qb at *
  generalize World.alloc w3 (.cells #[.slice DA d.revs.length da, .slice DB d.recs.length db] 28) = w4 at *
  clear HB3 HIA3 HIB3
  obtain ⟨d0, d1⟩ := HM4.out.1.c2
  have HCF := Lib.hid (fun r hr => copy_facts HBLT.out (r := r) hr)
  clear HBLT HMO
  go_wp2_with fail
  go_loopw [24] (fun i wr => ∃ k : Nat, i = .int .i64 k ∧ k ≤ d.recs.length ∧ Below w4.heap.size w4 wr) (fun i _ => d.recs.length - (intOf i).toNat)
  case atStart => exact ⟨0, rfl, Nat.zero_le _, Below.refl _ _⟩
  case round =>
    obtain ⟨k, rfl, hk, hbr⟩ := hrel
    clear d0 d1
    have hRr : d.recs.length ≤ 512 := HC.out.dep.fewr
    by_cases hlt : k < d.recs.length
    · obtain ⟨g, off, rfl, hgl, hat⟩ := HQ4.out (by omega)
      have hgk := List.getElem?_eq_getElem hlt
      have hcf := HCF.out _ (List.getElem_mem hlt)
      generalize hq : d.recs[k] = r at *
      obtain ⟨rs, rf, rl, rt, rn, rh⟩ := r
      dsimp only at hcf
      obtain ⟨hmt, hsp, hml, hcp, hec⟩ := hcf
      have HCP := Lib.hid hcp
      have HEC := Lib.hid hec
      have hat := hat.below hbr hgl
      (have hcv := fun j (u : Value) (hj : ((⟨rs, rf, rl, rt, rn, rh⟩ : Rcd)).cells[j]? = some u) => ((hat).get hgk hj); have c0 := hcv 0 _ rfl; have c1 := hcv 1 _ rfl; have c2 := hcv 2 _ rfl; have c3 := hcv 3 _ rfl; have c4 := hcv 4 _ rfl; have c5 := hcv 5 _ rfl; have e12 : rcdK.n = 6 := rfl; simp only [e12, Nat.add_zero] at c0 c1 c2 c3 c4 c5; clear hcv e12)
      have hb5 := hbr.alloc hbr.size (.cells [.string rs, .int .i64 rf, .int .i64 rl, .string rt, .int .i64 rn, .int .i64 rh].toArray 63)
      have HM_5 := Lib.hid (HM4.out.below hb5)
      have HI_5 := Lib.hid (HI4.out.below hb5)
      have HQ_5 := Lib.hid (HQ4.out.below hb5)
      have HB5 := Lib.hid (HB4.out.trans (hb5.mono HB4.out.size))
      have HX5 := Lib.hid hb5
      have HR_5 := Lib.hid (Blk.new wr 63 [.string rs, .int .i64 rf, .int .i64 rl, .string rt, .int .i64 rn, .int .i64 rh])
      clear hat hgk hq hcp hec hbr hb5
      go_upto_region 7 with fail
      generalize World.alloc wr _ = w5 at *
      generalize wr.heap.size = rb at *
      clear c0 c1 c2 c3 c4 c5
      obtain ⟨d0, d1⟩ := HM_5.out.1.c2
      obtain ⟨r0, r1, r2, r3, r4, r5⟩ := HR_5.out.c6
      go_wp2_with fail
      refine (pcar_any d DA (some ⟨g, off, none⟩) da db rt rn w5 HC.out HI_5.out HQ_5.out (HC.out.fok hmt)).mono ?_
      rintro e w6 ⟨L1, A1, c1, rfl, hi, hs, hm, hb⟩
      rw [errC_mem hmt]
      have HG1 := Lib.hid (fun f (hf : f ∈ L1) => (hm f).1 hf)
      have HH1 := Lib.hid (fun f => (hm f).2)
      have HF1 := Lib.hid (fun f (hf : f ∈ L1) => HC.out.fok (tab_mem HC.out.hist _ (rt, rn) (Nat.le_refl _) f (by have hg := (hm f).1 hf; exact .inl hg)).1)
      have hln1 : L1.length ≤ 512 := mem_few HC.out (S := (tabD d (rt, rn)).car) (fun g hg => (tab_mem HC.out.hist _ (rt, rn) (Nat.le_refl _) g (.inl hg)).1) L1 hs.nodup (fun f hf => (hm f).1 hf)
      have HLL1_6 := Lib.hid hi
      clear hi hs hm
      have HM_6 := Lib.hid (HM_5.out.below hb)
      have HI_6 := Lib.hid (HI_5.out.below hb)
      have HQ_6 := Lib.hid (HQ_5.out.below hb)
      have HR_6 := Lib.hid (HR_5.out.below hb)
      have HY6 := Lib.hid (HX5.out.trans (hb.mono HX5.out.size))
      have HB6 := Lib.hid (HB5.out.trans (hb.mono HB5.out.size))
      clear hb HM_5 HI_5 HQ_5 HR_5 HB5
      clear d0 d1 r0 r1 r2 r3 r4 r5
      obtain ⟨d0, d1⟩ := HM_6.out.1.c2
      obtain ⟨r0, r1, r2, r3, r4, r5⟩ := HR_6.out.c6
      go_wp2_with fail
      refine (pcre_any d DA (some ⟨g, off, none⟩) da db rt rn w6 HC.out HI_6.out HQ_6.out (HC.out.fok hmt)).mono ?_
      rintro e w7 ⟨L2, A2, c2, rfl, hi, hs, hm, hb⟩
      rw [errC_mem hmt]
      have HG2 := Lib.hid (fun f (hf : f ∈ L2) => (hm f).1 hf)
      have HH2 := Lib.hid (fun f => (hm f).2)
      have HF2 := Lib.hid (fun f (hf : f ∈ L2) => HC.out.fok (tab_mem HC.out.hist _ (rt, rn) (Nat.le_refl _) f (by have hg := (hm f).1 hf; exact .inr (.inr hg))).1)
      have hln2 : L2.length ≤ 512 := mem_few HC.out (S := (tabD d (rt, rn)).cre) (fun g hg => (tab_mem HC.out.hist _ (rt, rn) (Nat.le_refl _) g (.inr (.inr hg))).1) L2 hs.nodup (fun f hf => (hm f).1 hf)
      have HLL2_7 := Lib.hid hi
      clear hi hs hm
      have HM_7 := Lib.hid (HM_6.out.below hb)
      have HI_7 := Lib.hid (HI_6.out.below hb)
      have HQ_7 := Lib.hid (HQ_6.out.below hb)
      have HR_7 := Lib.hid (HR_6.out.below hb)
      have HLL1_7 := Lib.hid (HLL1_6.out.below hb)
      have HY7 := Lib.hid (HY6.out.trans (hb.mono HY6.out.size))
      have HB7 := Lib.hid (HB6.out.trans (hb.mono HB6.out.size))
      clear hb HM_6 HI_6 HQ_6 HR_6 HLL1_6 HB6
      clear d0 d1 r0 r1 r2 r3 r4 r5
      obtain ⟨d0, d1⟩ := HM_7.out.1.c2
      obtain ⟨r0, r1, r2, r3, r4, r5⟩ := HR_7.out.c6
      go_upto_if 54 with fail
      go_cut [10, 11] from 52 to 110 (fun _ _ wx => Below w7.heap.size w7 wx)
      case first =>
        by_cases h1 : rh = 1
        · have h1' : (rh == 1) = true := by simpa using h1
          have h1'' : decide (rh = 1) = true := by simpa using h1
          have hsub := HCP.out h1
          have HSUB := Lib.hid hsub
          clear hsub h1
          go_wp2_with fail
          refine (pcar_any d DA (some ⟨g, off, none⟩) da db rs rl w7 HC.out HI_7.out HQ_7.out (HC.out.fok hml)).mono ?_
          rintro e w8 ⟨L3, A3, c3, rfl, hi, hs, hm, hb⟩
          rw [errC_mem hml]
          have HG3 := Lib.hid (fun f (hf : f ∈ L3) => (hm f).1 hf)
          have HH3 := Lib.hid (fun f => (hm f).2)
          have HF3 := Lib.hid (fun f (hf : f ∈ L3) => HC.out.fok (tab_mem HC.out.hist _ (rs, rl) (Nat.le_refl _) f (by have hg := (hm f).1 hf; exact .inl hg)).1)
          have hln3 : L3.length ≤ 512 := mem_few HC.out (S := (tabD d (rs, rl)).car) (fun g hg => (tab_mem HC.out.hist _ (rs, rl) (Nat.le_refl _) g (.inl hg)).1) L3 hs.nodup (fun f hf => (hm f).1 hf)
          have HLL3_8 := Lib.hid hi
          clear hi hs hm
          have HM_8 := Lib.hid (HM_7.out.below hb)
          have HI_8 := Lib.hid (HI_7.out.below hb)
          have HQ_8 := Lib.hid (HQ_7.out.below hb)
          have HR_8 := Lib.hid (HR_7.out.below hb)
          have HLL1_8 := Lib.hid (HLL1_7.out.below hb)
          have HLL2_8 := Lib.hid (HLL2_7.out.below hb)
          have HB8 := Lib.hid (HB7.out.trans (hb.mono HB7.out.size))
          have HZ8 := Lib.hid hb
          clear hb HM_7 HI_7 HQ_7 HR_7 HLL1_7 HLL2_7 HB7
          clear d0 d1 r0 r1 r2 r3 r4 r5
          go_wp2_with fail
          refine (set_any L1 A1 c1 w8 HLL1_8.out HF1.out hln1).mono ?_
          rintro e ws9 ⟨rfl, hset, hb⟩
          have HSX9 := Lib.hid hset
          clear hset
          have HLL1_9s := Lib.hid (HLL1_8.out.below hb)
          have HLL3_9s := Lib.hid (HLL3_8.out.below hb)
          have HZ9s := Lib.hid (HZ8.out.trans (hb.mono HZ8.out.size))
          clear hb HLL1_8 HLL3_8
          generalize w8.heap.size = sb9 at *
          go_wp2_with fail
          refine (within_any L3 _ A3 c3 sb9 ws9 HLL3_9s.out HF3.out HSX9.out (fun f hf => HH1.out f (HSUB.out f (HG3.out f hf))) hln3).mono ?_
          rintro e w9 ⟨rfl, hb⟩
          clear HSX9
          have HLL1_9 := Lib.hid (HLL1_9s.out.below hb)
          have HLL3_9 := Lib.hid (HLL3_9s.out.below hb)
          have HZ9 := Lib.hid (HZ9s.out.trans (hb.mono HZ9s.out.size))
          clear hb HLL1_9s HLL3_9s
          go_wp2_with fail
          go_meet
          case rel => exact HZ9.out
        · have h1' : (rh == 1) = false := by simpa using h1
          have h1'' : decide (rh = 1) = false := by simpa using h1
          clear h1
          go_wp2_with fail
          go_meet
          case rel => exact Below.refl _ _
      case rest =>
        have HW := Lib.hid hcut
        clear hcut d0 d1 r0 r1 r2 r3 r4 r5
        have HM_a := Lib.hid (HM_7.out.below HW.out)
        have HI_a := Lib.hid (HI_7.out.below HW.out)
        have HQ_a := Lib.hid (HQ_7.out.below HW.out)
        have HR_a := Lib.hid (HR_7.out.below HW.out)
        have HLL1_a := Lib.hid (HLL1_7.out.below HW.out)
        have HLL2_a := Lib.hid (HLL2_7.out.below HW.out)
        have HYa := Lib.hid (HY7.out.trans (HW.out.mono HY7.out.size))
        have HBa := Lib.hid (HB7.out.trans (HW.out.mono HB7.out.size))
        clear HW HM_7 HI_7 HQ_7 HR_7 HLL1_7 HLL2_7 HB7
        generalize wc = wa at *
        obtain ⟨d0, d1⟩ := HM_a.out.1.c2
        obtain ⟨r0, r1, r2, r3, r4, r5⟩ := HR_a.out.c6
        go_wp2_with fail
        go_loopw [12] (fun s wr => ∃ n : Int, s = .int .i64 n ∧ rf ≤ n ∧ n ≤ rl + 1 ∧ Below wa.heap.size wa wr) (fun s _ => (rl + 1 - intOf s).toNat)
        case atStart => exact ⟨rf, rfl, Int.le_refl _, by omega, Below.refl _ _⟩
        case round =>
          obtain ⟨n, rfl, hn1, hn2, hbn⟩ := hrel
          clear d0 d1 r0 r1 r2 r3 r4 r5
          have HM_b := Lib.hid (HM_a.out.below hbn)
          have HI_b := Lib.hid (HI_a.out.below hbn)
          have HQ_b := Lib.hid (HQ_a.out.below hbn)
          have HR_b := Lib.hid (HR_a.out.below hbn)
          have HLL1_b := Lib.hid (HLL1_a.out.below hbn)
          have HLL2_b := Lib.hid (HLL2_a.out.below hbn)
          have HYb := Lib.hid (HYa.out.trans (hbn.mono HYa.out.size))
          have HBb := Lib.hid (HBa.out.trans (hbn.mono HBa.out.size))
          have HXb := Lib.hid hbn
          clear hbn
          obtain ⟨d0, d1⟩ := HM_b.out.1.c2
          obtain ⟨r0, r1, r2, r3, r4, r5⟩ := HR_b.out.c6
          by_cases hn : n ≤ rl
          · obtain ⟨hmn, hcr, hca⟩ := HEC.out n hn1 hn
            have HCR := Lib.hid hcr
            have HCA := Lib.hid hca
            clear hcr hca
            go_wp2_with fail
            refine (pcon_any d DA (some ⟨g, off, none⟩) da db rs n wr HC.out HI_b.out HQ_b.out (HC.out.fok hmn)).mono ?_
            rintro e wc ⟨L4, A4, c4, rfl, hi, hs, hm, hb⟩
            rw [errC_mem hmn]
            have HG4 := Lib.hid (fun f (hf : f ∈ L4) => (hm f).1 hf)
            have HH4 := Lib.hid (fun f => (hm f).2)
            have HF4 := Lib.hid (fun f (hf : f ∈ L4) => HC.out.fok (tab_mem HC.out.hist _ (rs, n) (Nat.le_refl _) f (by have hg := (hm f).1 hf; exact .inr (.inl hg))).1)
            have hln4 : L4.length ≤ 512 := mem_few HC.out (S := (tabD d (rs, n)).con) (fun g hg => (tab_mem HC.out.hist _ (rs, n) (Nat.le_refl _) g (.inr (.inl hg))).1) L4 hs.nodup (fun f hf => (hm f).1 hf)
            have HLL4_c := Lib.hid hi
            clear hi hs hm
            have HM_c := Lib.hid (HM_b.out.below hb)
            have HI_c := Lib.hid (HI_b.out.below hb)
            have HQ_c := Lib.hid (HQ_b.out.below hb)
            have HR_c := Lib.hid (HR_b.out.below hb)
            have HLL1_c := Lib.hid (HLL1_b.out.below hb)
            have HLL2_c := Lib.hid (HLL2_b.out.below hb)
            have HXc := Lib.hid (HXb.out.trans (hb.mono HXb.out.size))
            have HBc := Lib.hid (HBb.out.trans (hb.mono HBb.out.size))
            clear hb HM_b HI_b HQ_b HR_b HLL1_b HLL2_b HBb
            clear d0 d1 r0 r1 r2 r3 r4 r5
            go_wp2_with fail
            refine (set_any L2 A2 c2 wc HLL2_c.out HF2.out hln2).mono ?_
            rintro e wsd ⟨rfl, hset, hb⟩
            have HSXd := Lib.hid hset
            clear hset
            have HM_ds := Lib.hid (HM_c.out.below hb)
            have HI_ds := Lib.hid (HI_c.out.below hb)
            have HQ_ds := Lib.hid (HQ_c.out.below hb)
            have HR_ds := Lib.hid (HR_c.out.below hb)
            have HLL1_ds := Lib.hid (HLL1_c.out.below hb)
            have HLL2_ds := Lib.hid (HLL2_c.out.below hb)
            have HLL4_ds := Lib.hid (HLL4_c.out.below hb)
            have HXds := Lib.hid (HXc.out.trans (hb.mono HXc.out.size)); have HBds := Lib.hid (HBc.out.trans (hb.mono HBc.out.size))
            clear hb HM_c HI_c HQ_c HR_c HLL1_c HLL2_c HLL4_c HBc
            generalize wc.heap.size = sbd at *
            go_wp2_with fail
            refine (within_any L4 _ A4 c4 sbd wsd HLL4_ds.out HF4.out HSXd.out (fun f hf => HH2.out f (HCR.out f (HG4.out f hf))) hln4).mono ?_
            rintro e wd ⟨rfl, hb⟩
            clear HSXd
            have HM_d := Lib.hid (HM_ds.out.below hb)
            have HI_d := Lib.hid (HI_ds.out.below hb)
            have HQ_d := Lib.hid (HQ_ds.out.below hb)
            have HR_d := Lib.hid (HR_ds.out.below hb)
            have HLL1_d := Lib.hid (HLL1_ds.out.below hb)
            have HLL2_d := Lib.hid (HLL2_ds.out.below hb)
            have HLL4_d := Lib.hid (HLL4_ds.out.below hb)
            have HXd := Lib.hid (HXds.out.trans (hb.mono HXds.out.size)); have HBd := Lib.hid (HBds.out.trans (hb.mono HBds.out.size))
            clear hb HM_ds HI_ds HQ_ds HR_ds HLL1_ds HLL2_ds HLL4_ds HBds
            obtain ⟨d0, d1⟩ := HM_d.out.1.c2
            obtain ⟨r0, r1, r2, r3, r4, r5⟩ := HR_d.out.c6
            by_cases h3 : rh = 3
            · have h3' : (rh != 3) = false := by simpa using h3
              have h3'' : (rh == 3) = true := by simpa using h3
              have h3d : decide (rh = 3) = true := by simpa using h3
              clear h3
              go_wp2_with fail
              go_roundw
              case rel => exact ⟨n + 1, by go_num, by omega, by omega, HXd.out⟩
              case measure => simp [intOf]; omega
            · have h3' : (rh != 3) = true := by simpa using h3
              have h3'' : (rh == 3) = false := by simpa using h3
              have h3d : decide (rh = 3) = false := by simpa using h3
              have hsub := HCA.out h3
              have HSUB := Lib.hid hsub
              clear hsub h3
              go_wp2_with fail
              refine (set_any L1 A1 c1 wd HLL1_d.out HF1.out hln1).mono ?_
              rintro e wsf ⟨rfl, hset, hb⟩
              have HSXf := Lib.hid hset
              clear hset
              have HM_fs := Lib.hid (HM_d.out.below hb)
              have HI_fs := Lib.hid (HI_d.out.below hb)
              have HQ_fs := Lib.hid (HQ_d.out.below hb)
              have HR_fs := Lib.hid (HR_d.out.below hb)
              have HLL1_fs := Lib.hid (HLL1_d.out.below hb)
              have HLL2_fs := Lib.hid (HLL2_d.out.below hb)
              have HLL4_fs := Lib.hid (HLL4_d.out.below hb)
              have HXfs := Lib.hid (HXd.out.trans (hb.mono HXd.out.size)); have HBfs := Lib.hid (HBd.out.trans (hb.mono HBd.out.size))
              clear hb HM_d HI_d HQ_d HR_d HLL1_d HLL2_d HLL4_d HBd
              generalize wd.heap.size = sbf at *
              go_wp2_with fail
              refine (within_any L4 _ A4 c4 sbf wsf HLL4_fs.out HF4.out HSXf.out (fun f hf => HH1.out f (HSUB.out f (HG4.out f hf))) hln4).mono ?_
              rintro e wf ⟨rfl, hb⟩
              clear HSXf d0 d1 r0 r1 r2 r3 r4 r5
              have HM_f := Lib.hid (HM_fs.out.below hb)
              have HI_f := Lib.hid (HI_fs.out.below hb)
              have HQ_f := Lib.hid (HQ_fs.out.below hb)
              have HR_f := Lib.hid (HR_fs.out.below hb)
              have HLL1_f := Lib.hid (HLL1_fs.out.below hb)
              have HLL2_f := Lib.hid (HLL2_fs.out.below hb)
              have HLL4_f := Lib.hid (HLL4_fs.out.below hb)
              have HXf := Lib.hid (HXfs.out.trans (hb.mono HXfs.out.size)); have HBf := Lib.hid (HBfs.out.trans (hb.mono HBfs.out.size))
              clear hb HM_fs HI_fs HQ_fs HR_fs HLL1_fs HLL2_fs HLL4_fs HBfs
              go_wp2_with fail
              go_roundw
              case rel => exact ⟨n + 1, by go_num, by omega, by omega, HXf.out⟩
              case measure => simp [intOf]; omega
          · go_wp2_with fail
            go_roundw
            case rel => exact ⟨k + 1, by go_num, by omega, HYb.out⟩
            case measure => simp [intOf]; omega
    · have HBR2 := Lib.hid (HB4.out.trans (hbr.mono HB4.out.size))
      clear hbr
      go_wp2_with (go_at_call 11; refine (awake14_any _).mono ?_; rintro e w9 ⟨rfl, HB9⟩)
      go_ret
      exact ⟨rfl, HBR2.out.trans (HB9.mono HBR2.out.size)⟩
end Go.Proofs.YthonhikkoabhlaaDoor
