/-
  The walk of CheckpointPlays.
-/
import Derived.Test.YtcjkllmellampaaDoorCkB
namespace Go.Proofs.YtcjkllmellampaaDoor
open Go.RowKit

set_option maxRecDepth 100000 in
set_option maxHeartbeats 1600000 in
theorem rsv_bad (w : World) (p0 : Int) (A0 : Option Addr) (n0 c0 : Nat) (i0 : Bool) (name : ByteArray) (hs : name.size ≤ 100) (h : nmB false 40 name = false) (p : Int) (A : Option Addr) (n c : Nat) :
    Calls Tryd.prog 15 #[.agg #[.int .i64 p0, .slice A0 n0 c0, .bool i0], .string name, .int .i64 p, .slice A n c] w fun e w' => e = .returned (.tuple #[.agg #[.int .i64 p0, .slice A0 n0 c0, .bool i0], .int .i64 323]) ∧ Below w.heap.size w w' := by
  go_enter Tryd.func15, Tryd.ntmps15
  go_wp2_with fail
  refine (rname_any name _ (by omega)).mono ?_
  rw [h]
  rintro e w' ⟨rfl, rfl⟩
  go_wp2_with fail
  refine bodyPost_ret (v := .tuple #[.agg #[.int .i64 p0, .slice A0 n0 c0, .bool i0], .int .i64 323]) (by simp [results, Tryd.results15, go_sem]) rfl ⟨rfl, ?_⟩
  exact ((Below.refl _ _).alloc (Nat.le_refl _) _).alloc (by simp) _

set_option maxRecDepth 100000 in
set_option maxHeartbeats 1600000 in
theorem rsv_pos (w : World) (p0 : Int) (A0 : Option Addr) (n0 c0 : Nat) (i0 : Bool) (name : ByteArray) (h : nmB false 40 name = true) (p : Int) (A : Option Addr) (n c : Nat) (hp : p < 0 ∨ (i0 = true ∧ p < p0)) :
    Calls Tryd.prog 15 #[.agg #[.int .i64 p0, .slice A0 n0 c0, .bool i0], .string name, .int .i64 p, .slice A n c] w fun e w' => e = .returned (.tuple #[.agg #[.int .i64 p0, .slice A0 n0 c0, .bool i0], .int .i64 321]) ∧ Below w.heap.size w w' := by
  have hns := nm_size h
  by_cases hp0 : p < 0
  · clear hp
    go_enter Tryd.func15, Tryd.ntmps15
    go_wp2_with fail
    refine (rname_any name _ (by omega)).mono ?_
    rw [h]
    rintro e w' ⟨rfl, rfl⟩
    go_wp2_with fail
    refine bodyPost_ret (v := .tuple #[.agg #[.int .i64 p0, .slice A0 n0 c0, .bool i0], .int .i64 321]) (by simp [results, Tryd.results15, go_sem]) rfl ⟨rfl, ?_⟩
    exact ((Below.refl _ _).alloc (Nat.le_refl _) _).alloc (by simp) _
  · obtain ⟨rfl, hp1⟩ := hp.resolve_left hp0
    clear hp
    go_enter Tryd.func15, Tryd.ntmps15
    go_wp2_with fail
    refine (rname_any name _ (by omega)).mono ?_
    rw [h]
    rintro e w' ⟨rfl, rfl⟩
    go_wp2_with fail
    refine bodyPost_ret (v := .tuple #[.agg #[.int .i64 p0, .slice A0 n0 c0, .bool true], .int .i64 321]) (by simp [results, Tryd.results15, go_sem]) rfl ⟨rfl, ?_⟩
    exact ((Below.refl _ _).alloc (Nat.le_refl _) _).alloc (by simp) _

theorem rsv_end {g gb g' : Gh} {w wb w' : World} {A' : Option Addr} {cap' : Nat} {l : List UInt8} (hx : Ext (fun _ => False) g w gb wb) (hx2 : Ext (· = w.heap.size + 2) gb wb g' w') (ha : App 5 1 (w.heap.size + 2) g' w' A' (0 + l.length) cap' ([] ++ bv l)) (hf : g'.F (w.heap.size + 1) = 0) (p : Int) (u v y : Value) :
    ∃ A1 c1 g1, Ending.returned (.tuple #[.agg #[.int .i64 p, .slice A' l.length cap', .bool true], .int .i64 0]) = .returned (.tuple #[.agg #[.int .i64 p, .slice A1 l.length c1, .bool true], .int .i64 0]) ∧ Ext (fun o => w.heap.size ≤ o) g w g1 (((w'.setCell ⟨w.heap.size + 1, 0, none⟩ u).setCell ⟨w.heap.size + 1, 1, none⟩ v).setCell ⟨w.heap.size + 1, 2, none⟩ y) ∧ BytesAt g1 (((w'.setCell ⟨w.heap.size + 1, 0, none⟩ u).setCell ⟨w.heap.size + 1, 1, none⟩ v).setCell ⟨w.heap.size + 1, 2, none⟩ y) (.slice A1 l.length c1) l := by
  rw [Nat.zero_add, List.nil_append] at ha
  have hy := (((Ext.refl (fun _ => True) g' w').setCell (p := ⟨w.heap.size + 1, 0, none⟩) (fun _ => trivial) hf u).setCell (p := ⟨w.heap.size + 1, 1, none⟩) (fun _ => trivial) hf v).setCell (p := ⟨w.heap.size + 1, 2, none⟩) (fun _ => trivial) hf y
  have h1 : Ext (fun o => w.heap.size ≤ o) g w g' w' := (hx.imp (fun _ h => h.elim)).trans (hx2.imp (fun o h => by omega))
  exact ⟨A', cap', g', rfl, h1.put3 (Nat.le_succ _) hf u v y, (BytesAt.of_new ha).ext hy⟩

set_option maxRecDepth 100000 in
set_option maxHeartbeats 1600000 in
theorem rsv_ok (g : Gh) (w : World) (p0 : Int) (A0 : Option Addr) (n0 c0 : Nat) (i0 : Bool) (name : ByteArray) (h : nmB false 40 name = true) (p : Int) (A : Option Addr) (c : Nat) (l : List UInt8) (hb : BytesAt g w (.slice A l.length c) l) (hp : ¬ p < 0) (hp1 : i0 = true → ¬ p < p0) (hl : l.length ≤ 1000) :
    Calls Tryd.prog 15 #[.agg #[.int .i64 p0, .slice A0 n0 c0, .bool i0], .string name, .int .i64 p, .slice A l.length c] w fun e w' => ∃ A' c' g', e = .returned (.tuple #[.agg #[.int .i64 p, .slice A' l.length c', .bool true], .int .i64 0]) ∧ Ext (fun o => w.heap.size ≤ o) g w g' w' ∧ BytesAt g' w' (.slice A' l.length c') l := by
  have hns := nm_size h
  obtain ⟨i1, hi, hz0, hz1, hz2⟩ := info_parts Tryd.infoU8
  have hx := Ext.two g w (.cells #[.int .i64 p0, .slice A0 n0 c0, .bool i0] 34) (.cells #[.int .i64 0, .slice none 0 0, .bool false] 34)
  obtain ⟨A1, c1, he, hle, hmx, hz, hr⟩ := (hb.ext hx).ex
  injection he with e1 _ e2
  subst e1 e2
  have HS := Lib.hid (hr.src (P := Tryd.prog) Tryd.underlying32 c (bv_one l) hz)
  have HA := Lib.hid (App.nil 5 1 (w.heap.size + 2) ((g.box w.heap.size).box (w.heap.size + 1)) ((w.alloc (.cells #[.int .i64 p0, .slice A0 n0 c0, .bool i0] 34)).alloc (.cells #[.int .i64 0, .slice none 0 0, .bool false] 34)))
  have HX := Lib.hid hx
  have HB := Lib.hid (Blk.new (w.alloc (.cells #[.int .i64 p0, .slice A0 n0 c0, .bool i0] 34)) 34 [.int .i64 0, .slice none 0 0, .bool false])
  clear hx hb hle hmx hz hr
  have HO : Hid (((g.box w.heap.size).box (w.heap.size + 1)).O (w.alloc (.cells #[.int .i64 p0, .slice A0 n0 c0, .bool i0] 34)).heap.size = w.heap.size + 1) := by
    show _ = _
    rw [show (w.alloc (.cells #[.int .i64 p0, .slice A0 n0 c0, .bool i0] 34)).heap.size = w.heap.size + 1 by simp]
    exact Gh.box_O _ _
  have HF : Hid (((g.box w.heap.size).box (w.heap.size + 1)).F (w.alloc (.cells #[.int .i64 p0, .slice A0 n0 c0, .bool i0] 34)).heap.size = 0) := by
    show _ = _
    rw [show (w.alloc (.cells #[.int .i64 p0, .slice A0 n0 c0, .bool i0] 34)).heap.size = w.heap.size + 1 by simp]
    exact Gh.box_F _ _
  have hs1 : (w.alloc (.cells #[.int .i64 p0, .slice A0 n0 c0, .bool i0] 34)).heap.size = w.heap.size + 1 := by simp
  rw [hs1] at HB HO HF
  clear hs1
  generalize (g.box w.heap.size).box (w.heap.size + 1) = gb at *
  have HFACT : Hid (∀ w' g', Ext (· = w.heap.size + 2) gb ((w.alloc (.cells #[.int .i64 p0, .slice A0 n0 c0, .bool i0] 34)).alloc (.cells #[.int .i64 0, .slice none 0 0, .bool false] 34)) g' w' → w'.cell? ⟨w.heap.size + 1, 0, none⟩ = some (.int .i64 0) ∧ w'.cell? ⟨w.heap.size + 1, 1, none⟩ = some (.slice none 0 0) ∧ w'.cell? ⟨w.heap.size + 1, 2, none⟩ = some (.bool false) ∧ (∀ i, w'.frozen? ⟨w.heap.size + 1, i, none⟩ = false) ∧ g'.F (w.heap.size + 1) = 0) := fun w' g' hx => by
    have hb := HB.out.ext hx (by rw [HO.out]; omega)
    exact ⟨hb.cell 0, hb.cell 1, hb.cell 2, hb.fz, hx.zero _ HB.out.lt HF.out⟩
  go_enter Tryd.func15, Tryd.ntmps15
  go_wp2_with fail
  refine (rname_any name _ (by omega)).mono ?_
  rw [h]
  rintro e w' ⟨rfl, rfl⟩
  cases i0 with
  | false =>
    clear hp1
    go_wp2_with (at_builtin; refine wpList_append_app rfl _ _ _ _ rfl 5 i1 (.int .u8 0) 1 1 Tryd.underlying32 hi hz0 hz1 hz2 rfl (by decide) rfl HA.out rfl HS.out (by unfold maxLen; omega) (by omega) ?_; intro A' cap' w' g' hx ha hl'; obtain ⟨x0, x1, x2, xz, hfx⟩ := HFACT.out _ _ hx; have HX2 := Lib.hid hx; have HA2 := Lib.hid ha; have HF2 := Lib.hid hfx; clear hx ha hl' hfx)
    refine bodyPost_ret (v := .tuple #[.agg #[.int .i64 p, .slice A' l.length cap', .bool true], .int .i64 0]) (by simp [results, Tryd.results15, go_sem, x0, x1, x2]) rfl ?_
    exact rsv_end HX.out HX2.out HA2.out HF2.out p _ _ _
  | true =>
    have hp1 := hp1 rfl
    go_wp2_with (at_builtin; refine wpList_append_app rfl _ _ _ _ rfl 5 i1 (.int .u8 0) 1 1 Tryd.underlying32 hi hz0 hz1 hz2 rfl (by decide) rfl HA.out rfl HS.out (by unfold maxLen; omega) (by omega) ?_; intro A' cap' w' g' hx ha hl'; obtain ⟨x0, x1, x2, xz, hfx⟩ := HFACT.out _ _ hx; have HX2 := Lib.hid hx; have HA2 := Lib.hid ha; have HF2 := Lib.hid hfx; clear hx ha hl' hfx)
    refine bodyPost_ret (v := .tuple #[.agg #[.int .i64 p, .slice A' l.length cap', .bool true], .int .i64 0]) (by simp [results, Tryd.results15, go_sem, x0, x1, x2]) rfl ?_
    exact rsv_end HX.out HX2.out HA2.out HF2.out p _ _ _


theorem slotN_inj {a b : ByteArray} {i j : Nat} (h : slotN a i = slotN b j) : a = b := by
  have h1 := congrArg (fun x : ByteArray => x.data.toList) h
  simp only [slotN, ByteArray.data_append, Array.toList_append, List.append_assoc] at h1
  have h2 := List.append_inj' h1 (by simp)
  rcases a with ⟨⟨l⟩⟩
  rcases b with ⟨⟨l'⟩⟩
  have h3 : l = l' := h2.1
  rw [h3]

/-- The names of the law. -/
def nmP : Nat → ByteArray
  | 0 => ⟨#[97]⟩
  | 1 => ⟨#[97, 98]⟩
  | 2 => ⟨#[97, 45, 98]⟩
  | 3 => ⟨#[65]⟩
  | _ => ⟨#[]⟩
def nmCs : List Value := [.string ⟨#[97]⟩, .string ⟨#[97, 98]⟩, .string ⟨#[97, 45, 98]⟩, .string ⟨#[65]⟩, .string ⟨#[]⟩]
theorem nmCs_get {i : Nat} (h : i < 5) : nmCs[i]? = some (.string (nmP i)) := by
  rcases (show i = 0 ∨ i = 1 ∨ i = 2 ∨ i = 3 ∨ i = 4 by omega) with rfl | rfl | rfl | rfl | rfl <;> rfl
theorem nmP_ok {i : Nat} (h : i < 3) : nmB false 40 (nmP i) = true := by
  rcases (show i = 0 ∨ i = 1 ∨ i = 2 by omega) with rfl | rfl | rfl <;> decide
theorem nmP_bad {i : Nat} (h : 3 ≤ i) (h5 : i < 5) : nmB false 40 (nmP i) = false := by
  rcases (show i = 3 ∨ i = 4 by omega) with rfl | rfl <;> decide
theorem nmP_size (i : Nat) : (nmP i).size ≤ 100 := by
  unfold nmP; split <;> decide
theorem nmP_inj {i j : Nat} (hi : i < 3) (hj : j < 3) (h : nmP i = nmP j) : i = j := by
  rcases (show i = 0 ∨ i = 1 ∨ i = 2 by omega) with rfl | rfl | rfl <;> rcases (show j = 0 ∨ j = 1 ∨ j = 2 by omega) with rfl | rfl | rfl <;> first | rfl | (exfalso; revert h; decide)

/-- The device holds this checkpoint under the name. -/
def SlotH (D : Dev) (name : ByteArray) (o : Option Ck) : Prop := ∃ q0 q1, SlotIs D (slotN name 0) q0 ∧ SlotIs D (slotN name 1) q1 ∧ (newS q0 q1).1 = o
theorem SlotH.of {D D' : Dev} {name : ByteArray} {o : Option Ck} (h : SlotH D name o) (e : ∀ i, D'.now.m (slotN name i) = D.now.m (slotN name i)) : SlotH D' name o := by
  obtain ⟨q0, q1, h0, h1, h2⟩ := h
  exact ⟨q0, q1, h0.of (e 0), h1.of (e 1), h2⟩
structure P5 (D : Dev) (n : Nat) (V : List (Vw × Value)) : Prop where
  q : Quiet D n
  len : V.length = 5
  ok : ∀ j, j < 3 → ∃ o p, V[j]? = some p ∧ p.1 = vw o ∧ SlotH D (nmP j) o ∧ seqO o ≤ n ∧ posO o ≤ 3 * n
  no : ∀ j, 3 ≤ j → j < 5 → ∃ p, V[j]? = some p ∧ p.1 = vw none
theorem P5.get {D : Dev} {n : Nat} {V : List (Vw × Value)} (h : P5 D n V) {j : Nat} (hj : j < 5) : ∃ p, V[j]? = some p ∧ 0 ≤ p.1.pos ∧ p.1.pos ≤ 3 * n := by
  by_cases h3 : j < 3
  · obtain ⟨o, p, h1, h2, _, _, h5⟩ := h.ok j h3
    exact ⟨p, h1, by rw [h2, vw_pos]; omega, by rw [h2, vw_pos]; omega⟩
  · obtain ⟨p, h1, h2⟩ := h.no j (by omega) hj
    exact ⟨p, h1, by rw [h2]; exact Int.le_refl 0, by rw [h2]; show (0 : Int) ≤ _; omega⟩
theorem P5.more {D : Dev} {n n' : Nat} {V : List (Vw × Value)} (h : P5 D n V) (hn : n ≤ n') : P5 D n' V :=
  ⟨h.q.more hn, h.len, fun j hj => let ⟨o, p, h1, h2, h3, h4, h5⟩ := h.ok j hj; ⟨o, p, h1, h2, h3, by omega, by omega⟩, h.no⟩
theorem set_same {V : List (Vw × Value)} {i : Nat} {p : Vw × Value} (h : V[i]? = some p) : V.set i p = V := by
  apply List.ext_getElem?
  intro j
  by_cases e : i = j
  · subst e
    have := (List.getElem?_eq_some_iff.1 h).1
    rw [List.getElem?_set_self this, h]
  · rw [List.getElem?_set_ne e]
theorem P5.saved {D D' : Dev} {n : Nat} {V : List (Vw × Value)} (h : P5 D n V) {i : Nat} (hi : i < 3) {p : Vw × Value} {c : Ck} (hp : p.1 = vw (some c)) (hs : c.seq ≤ n + 1) (hq : c.pos ≤ 3 * (n + 1)) (hQ : Quiet D' (n + 1)) (hh : SlotH D' (nmP i) (some c)) (hot : ∀ q, q ≠ slotN (nmP i) 0 → q ≠ slotN (nmP i) 1 → D'.now.m q = D.now.m q) : P5 D' (n + 1) (V.set i p) := by
  refine ⟨hQ, by rw [List.length_set]; exact h.len, fun j hj => ?_, fun j h3 h5 => ?_⟩
  · by_cases e : i = j
    · subst e
      exact ⟨some c, p, by rw [List.getElem?_set_self (by rw [h.len]; omega)], hp, hh, hs, hq⟩
    · obtain ⟨o, p', h1, h2, h3, h4, h5⟩ := h.ok j hj
      refine ⟨o, p', by rw [List.getElem?_set_ne e]; exact h1, h2, h3.of (fun k => hot _ (fun e' => ?_) (fun e' => ?_)), by omega, by omega⟩
      · exact e (nmP_inj hi hj (slotN_inj e').symm)
      · exact e (nmP_inj hi hj (slotN_inj e').symm)
  · obtain ⟨p', h1, h2⟩ := h.no j h3 h5
    exact ⟨p', by rw [List.getElem?_set_ne (by omega)]; exact h1, h2⟩
theorem cel_set : ∀ (V : List (Vw × Value)) (i : Nat) (p : Vw × Value), i < V.length → (((cel V).set (i * 3) (.int .i64 p.1.pos)).set (i * 3 + 1) p.2).set (i * 3 + 2) (.bool p.1.is) = cel (V.set i p)
  | [], _, _, h => by cases h
  | q :: V, 0, p, _ => rfl
  | q :: V, i + 1, p, h => by
    have := cel_set V i p (by simpa using h)
    have e : (i + 1) * 3 = i * 3 + 3 := by omega
    rw [e, List.set_cons_succ, show cel (q :: V.set i p) = [.int .i64 q.1.pos, q.2, .bool q.1.is] ++ cel (V.set i p) from rfl, ← this]
    rfl
def AllB (V : List (Vw × Value)) (g : Gh) (x : World) : Prop := ∀ p ∈ V, BytesAt g x p.2 p.1.st
theorem AllB.stab (V : List (Vw × Value)) : Stab (AllB V) := fun _ _ _ _ _ hr hx p hp => (hr p hp).ext hx
theorem AllB.set {V : List (Vw × Value)} {g : Gh} {x : World} (h : AllB V g x) {i : Nat} {p : Vw × Value} (hp : BytesAt g x p.2 p.1.st) : AllB (V.set i p) g x := fun q hq => by
  rcases List.mem_or_eq_of_mem_set hq with h' | rfl
  · exact h q h'
  · exact hp
/-- What the reference's Save answers. -/
def Rsv (name : ByteArray) (p : Vw × Value) (pos : Int) (l : List UInt8) (ef : Int) (p' : Vw × Value) : Prop :=
  (nmB false 40 name = false ∧ ef = 323 ∧ p' = p) ∨ (nmB false 40 name = true ∧ (pos < 0 ∨ (p.1.is = true ∧ pos < p.1.pos)) ∧ ef = 321 ∧ p' = p) ∨ (nmB false 40 name = true ∧ ¬ pos < 0 ∧ (p.1.is = true → ¬ pos < p.1.pos) ∧ ef = 0 ∧ p'.1 = ⟨pos, l, true⟩)
theorem krsv {w : World} {t d : Nat} {g : Gh} {x : World} {D : Dev} {m : Nat} {B : List (Nat × TypeId × List Value)} {R : Gh → World → Prop} (h : Kp w t d g x D m B R) (q : Vw) (A0 : Option Addr) (c0 : Nat) (name : ByteArray) (hs : name.size ≤ 100) (pos : Int) (A : Option Addr) (c : Nat) (l : List UInt8) (hb0 : BytesAt g x (.slice A0 q.st.length c0) q.st) (hb : BytesAt g x (.slice A l.length c) l) (hl : l.length ≤ 1000) :
    Calls Tryd.prog 15 #[.agg #[.int .i64 q.pos, .slice A0 q.st.length c0, .bool q.is], .string name, .int .i64 pos, .slice A l.length c] x fun e x' => ∃ g' q' A' c' ef, e = .returned (.tuple #[.agg #[.int .i64 q'.pos, .slice A' q'.st.length c', .bool q'.is], .int .i64 ef]) ∧ Rsv name (q, .slice A0 q.st.length c0) pos l ef (q', .slice A' q'.st.length c') ∧ Kp w t d g' x' D m B (fun g x => R g x ∧ BytesAt g x (.slice A' q'.st.length c') q'.st) := by
  have same : ∀ x', Below x.heap.size x x' → Kp w t d g x' D m B (fun g x => R g x ∧ BytesAt g x (.slice A0 q.st.length c0) q.st) := fun x' hb' =>
    (h.below hb').with ⟨(h.below hb').r, hb0.ext (Ext.of_below (fun _ => False) g hb')⟩ (h.rs.and (Stab.bytes _ _))
  by_cases hn : nmB false 40 name = true
  · by_cases hp : pos < 0 ∨ (q.is = true ∧ pos < q.pos)
    · refine (rsv_pos x q.pos A0 _ c0 q.is name hn pos A _ c hp).mono ?_
      rintro e x' ⟨he, hb'⟩
      exact ⟨g, q, A0, c0, 321, he, .inr (.inl ⟨hn, hp, rfl, rfl⟩), same x' hb'⟩
    · have hp0 : ¬ pos < 0 := fun e => hp (.inl e)
      have hp1 : q.is = true → ¬ pos < q.pos := fun e1 e2 => hp (.inr ⟨e1, e2⟩)
      refine (rsv_ok g x q.pos A0 _ c0 q.is name hn pos A c l hb hp0 hp1 hl).mono ?_
      rintro e x' ⟨A', c', g', he, hx, hb'⟩
      exact ⟨g', ⟨pos, l, true⟩, A', c', 0, he, .inr (.inr ⟨hn, hp0, hp1, rfl, rfl⟩), (h.step hx (fun _ e => e)).with ⟨(h.step hx (fun _ e => e)).r, hb'⟩ (h.rs.and (Stab.bytes _ _))⟩
  · have hn' : nmB false 40 name = false := by simpa using hn
    refine (rsv_bad x q.pos A0 _ c0 q.is name hs hn' pos A _ c).mono ?_
    rintro e x' ⟨he, hb'⟩
    exact ⟨g, q, A0, c0, 323, he, .inl ⟨hn', rfl, rfl⟩, same x' hb'⟩
/-- Save of the code answers as the reference's, and the device goes along. -/
theorem ksv {w : World} {t d : Nat} {g : Gh} {x : World} {D : Dev} {m n : Nat} {B : List (Nat × TypeId × List Value)} {R : Gh → World → Prop} (h : Kp w t d g x D m B R) {V : List (Vw × Value)} (h5 : P5 D n V) (hn : n ≤ 100) {i : Nat} (hi : i < 5) {p p' : Vw × Value} (hp : V[i]? = some p) (pos : Int) (hpb : pos ≤ p.1.pos + 3) (A : Option Addr) (c : Nat) (l : List UInt8) (hb : BytesAt g x (.slice A l.length c) l) (hl : l.length ≤ 1000) (ef : Int) (hr : Rsv (nmP i) p pos l ef p') :
    Calls Tryd.prog 16 #[.pointer (some ⟨d, 0, none⟩), .string (nmP i), .int .i64 pos, .slice A l.length c] x fun e x' => e = .returned (.int .i64 ef) ∧ ∃ g' D', Kp w t d g' x' D' m B R ∧ P5 D' (n + 1) (V.set i p') := by
  by_cases h3 : i < 3
  · have hok := nmP_ok h3
    obtain ⟨o, p1, e1, e2, ⟨q0, q1, k0, k1, k2⟩, e4, e5⟩ := h5.ok i h3
    obtain rfl : p = p1 := Option.some.inj (hp.symm.trans e1)
    rcases hr with ⟨hn', _, _⟩ | ⟨_, hps, rfl, rfl⟩ | ⟨_, hp0, hp1, rfl, hp2⟩
    · rw [hok] at hn'; cases hn'
    · have hps' : pos < 0 ∨ pos < posO (newS q0 q1).1 := by
        rw [k2]
        rcases hps with h' | ⟨_, h'⟩
        · exact .inl h'
        · right; rw [e2, vw_pos] at h'; exact h'
      refine (save_pos d g x D h.hD h5.q.up.dn (nmP i) hok q0 q1 k0 k1 pos A c l hb hps').mono ?_
      rintro e x' ⟨he, g', hx, hd⟩
      exact ⟨he, g', D, h.dev hx hd, by rw [set_same hp]; exact h5.more (Nat.le_succ _)⟩
    · have hpo : (posO (newS q0 q1).1 : Int) ≤ pos := by
        rw [k2]
        cases o with
        | none => show ((0 : Nat) : Int) ≤ pos; omega
        | some c => have := hp1 (by rw [e2]; rfl); rw [e2, vw_pos] at this; omega
      have hpv : p.1.pos = posO o := by rw [e2, vw_pos]
      refine (gsave d g x D n h.hD h5.q (by omega) (nmP i) hok q0 q1 k0 k1 pos A c l hb (by omega) hpo (by omega) (by rw [k2]; omega) (by omega)).mono ?_
      rintro e x' ⟨he, D', p0, p1, ⟨g', hx, hd⟩, hQ, s0, s1, s2, hot⟩
      refine ⟨he, g', D', h.dev hx hd, h5.saved h3 (c := ⟨seqO (newS q0 q1).1 + 1, pos.toNat, l⟩) ?_ ?_ ?_ hQ ⟨p0, p1, s0, s1, s2⟩ hot⟩
      · rw [hp2]
        show (⟨pos, l, true⟩ : Vw) = ⟨((pos.toNat : Nat) : Int), l, true⟩
        rw [show ((pos.toNat : Nat) : Int) = pos by omega]
      · show seqO (newS q0 q1).1 + 1 ≤ _; rw [k2]; omega
      · show pos.toNat ≤ _; omega
  · have hbad := nmP_bad (by omega) hi
    rcases hr with ⟨_, rfl, rfl⟩ | ⟨hn', _⟩ | ⟨hn', _⟩
    · refine (save_bad d x (nmP i) (by have := nmP_size i; omega) hbad pos _).mono ?_
      rintro e x' ⟨he, hb'⟩
      exact ⟨he, g, D, h.below hb', by rw [set_same hp]; exact h5.more (Nat.le_succ _)⟩
    · rw [hbad] at hn'; cases hn'
    · rw [hbad] at hn'; cases hn'
theorem kload3 {w : World} {t d : Nat} {g : Gh} {x : World} {D : Dev} {m : Nat} {B : List (Nat × TypeId × List Value)} {R : Gh → World → Prop} {o : Option Ck} (h : Kp w t d g x D m B R) (hdn : D.down = false) (name : ByteArray) (hn : nmB false 40 name = true) (hh : SlotH D name o) :
    Calls Tryd.prog 17 #[.pointer (some ⟨d, 0, none⟩), .string name] x fun e x' => ∃ g' A c, e = .returned (.tuple #[.agg #[.int .i64 (vw o).pos, .slice A (vw o).st.length c, .bool (vw o).is], .bool true]) ∧ Kp w t d g' x' D m B (fun g x => R g x ∧ BytesAt g x (.slice A (vw o).st.length c) (vw o).st) := by
  obtain ⟨r0, r1, k0, k1, k2⟩ := hh
  have h1 := kload h hdn name hn r0 r1 k0 k1
  rw [k2, ← vw_pos, ← vw_is] at h1
  refine h1.mono ?_
  rintro e x' ⟨g', v, he, hkp⟩
  obtain ⟨A, c, rfl⟩ := hkp.r.2.shape
  exact ⟨g', A, c, he, hkp.with ⟨hkp.r.1, hkp.r.2.bytes⟩ (h.rs.and (Stab.bytes _ _))⟩

def V0 : List (Vw × Value) := List.replicate 5 (vw none, .slice none 0 0)
theorem V0_all (g : Gh) (x : World) : AllB V0 g x := fun p hp => by
  obtain rfl := List.eq_of_mem_replicate hp
  exact BytesAt.nil _ _
theorem P5.zero : P5 dev0 0 V0 := ⟨Quiet.dev0, rfl, fun j hj => ⟨none, (vw none, .slice none 0 0), by unfold V0; rw [List.getElem?_replicate, if_pos (by omega)], rfl, ⟨none, none, SlotIs.zero rfl, SlotIs.zero rfl, rfl⟩, Nat.zero_le _, Nat.zero_le _⟩, fun j _ hj => ⟨(vw none, .slice none 0 0), by unfold V0; rw [List.getElem?_replicate, if_pos hj], rfl⟩⟩

/-- What holds at the head of a round. -/
def PlHead (w : World) (t d wb nb : Nat) (k : Nat) (ik : Value) (wr : World) : Prop :=
  ∃ (V : List (Vw × Value)) (g : Gh) (D : Dev) (m : Nat), ik = .int .i64 (k : Int) ∧ k ≤ 15 ∧ m ≤ 1 + 40 * (15 - k) ∧ wb ≠ nb ∧ Kp w t d g wr D m [(wb, 34, cel V), (nb, 9, nmCs)] (AllB V) ∧ P5 D (15 - k) V

set_option maxRecDepth 100000 in
set_option maxHeartbeats 6400000 in
theorem lawCPlays_any (w : World) (A : Option Addr) (c : Nat) (L : List Int) (hr : Rd 1 (ghW w) w A L.length (L.map (Value.int .i64))) (hL : ∀ x ∈ L, (Lit.int .i64 x).wf = true) :
    Calls Tryd.prog 3 #[.slice A L.length c] w fun e w' => e = .returned (.bool true) ∧ Below w.heap.size w w' := by
  obtain ⟨hx0, ht0⟩ := TapeAt.new (c := c) hr hL
  have HX0 := Lib.hid hx0
  have HT0 := Lib.hid ht0
  have hmk : ∀ x : World, (Instr.makeSlice 30 (.int .i64 5) (.int .i64 5)).run Tryd.prog x = .ok (.slice (some ⟨x.heap.size, 0, none⟩) 5 5) (x.alloc (.cells (cel V0).toArray 34)) := fun _ => by kernel_rfl
  clear hx0 ht0 hr hL
  go_enter Tryd.func3, Tryd.ntmps3
  go_wp2_with fail
  refine (gnew ((ghW w).box w.heap.size) _).mono ?_
  rintro e w1 ⟨d, g1, rfl, hd, hx1, hD1⟩
  have HK1 : Hid (Kp w w.heap.size d g1 w1 dev0 0 [] (fun _ _ => True)) := by
    have hs : (w.alloc (.cells #[.slice A L.length c, .int .i64 0] 25)).heap.size = w.heap.size + 1 := by simp
    exact ⟨(HX0.out.trans hx1).imp (fun _ h => h.elim), hD1, HT0.out.ext hx1 (fun h => h), by omega, Nat.le_refl _, by omega, (fun _ h => by cases h), trivial, Stab.true⟩
  clear hx1 hD1 HX0 HT0 hd
  go_wp2_with fail
  refine (known_any g1 w1).mono ?_
  rintro e w3 ⟨rfl, g3, hx3⟩
  have HK3 := Lib.hid (HK1.out.step hx3 (fun _ h => h))
  clear hx3 HK1
  go_wp2_with fail
  have HK4 : Hid (Kp w w.heap.size d ((g3.box w3.heap.size).box (w3.heap.size + 1)) ((w3.alloc (.cells #[.string ⟨#[97]⟩, .string ⟨#[97, 98]⟩, .string ⟨#[97, 45, 98]⟩, .string ⟨#[65]⟩, .string ⟨#[]⟩] 9)).alloc (.cells (cel V0).toArray 34)) dev0 0 [(w3.heap.size + 1, 34, cel V0), (w3.heap.size, 9, nmCs)] (AllB V0)) := by
    have h1 := (HK3.out.box 9 nmCs).box 34 (cel V0)
    rw [show (w3.alloc (.cells nmCs.toArray 9)).heap.size = w3.heap.size + 1 by simp] at h1
    exact h1.with (V0_all _ _) (AllB.stab _)
  clear HK3 hmk
  generalize (g3.box w3.heap.size).box (w3.heap.size + 1) = g4 at *
  generalize hw4 : ((w3.alloc (.cells #[.string ⟨#[97]⟩, .string ⟨#[97, 98]⟩, .string ⟨#[97, 45, 98]⟩, .string ⟨#[65]⟩, .string ⟨#[]⟩] 9)).alloc (.cells (cel V0).toArray 34)) = w4 at *
  clear hw4
  have hnb : w3.heap.size + 1 ≠ w3.heap.size := by omega
  generalize w3.heap.size + 1 = wb at *
  generalize w3.heap.size = nb at *
  have HNB := Lib.hid hnb
  clear hnb
  refine (knextN HK4.out (by omega) 16 (by omega) (by omega)).mono ?_
  rintro e w5 ⟨vn, rfl, hvn, hk5⟩
  have HK5 := Lib.hid hk5
  clear hk5 HK4
  go_wp2_with fail
  go_loopg [7] vn (fun k ik wr => PlHead w w.heap.size d wb nb k ik wr)
  case atStart => exact ⟨V0, g4, dev0, 0 + 1, rfl, by omega, by omega, HNB.out, HK5.out, P5.zero.more (by omega)⟩
  case round =>
    obtain ⟨V, g, D, m, rfl, hk, hm, _, hkp, hp5⟩ := hrel
    have HK6 := Lib.hid hkp
    have HP6 := Lib.hid hp5
    clear hkp hp5 HK5
    obtain ⟨K0, rfl⟩ : ∃ K0 : Nat, K0 = gk := ⟨_, rfl⟩
    obtain ⟨wo, rfl⟩ : ∃ wo : World, wo = wr := ⟨_, rfl⟩
    by_cases hlt : 0 < K0
    · go_wp2_with fail
      refine (knextN HK6.out (by omega) 5 (by omega) (by omega)).mono ?_
      rintro e w7 ⟨vi, rfl, hvi, hk7⟩
      have HK7 := Lib.hid hk7
      clear hk7 HK6
      obtain ⟨p, hp, hpp0, hpp1⟩ := HP6.out.get hvi
      obtain ⟨Ap, cp, hp2, _⟩ := (HK7.out.r p (List.mem_of_getElem? hp)).ex
      obtain ⟨pv, pu⟩ := p
      have hpu : pu = .slice Ap pv.st.length cp := hp2
      subst hpu
      dsimp only at hpp0 hpp1
      have hpp2 : pv.pos ≤ 45 := by omega
      have HPB := Lib.hid hpp1
      have HP := Lib.hid hp
      clear hp hp2 hpp1
      have HCELL : Hid (∀ g x D m B R, Kp w w.heap.size d g x D m B R → (wb, 34, cel V) ∈ B → (nb, 9, nmCs) ∈ B → x.cell? ⟨wb, vi * 3, none⟩ = some (.int .i64 pv.pos) ∧ x.cell? ⟨wb, vi * 3 + 1, none⟩ = some (.slice Ap pv.st.length cp) ∧ x.cell? ⟨wb, vi * 3 + 2, none⟩ = some (.bool pv.is) ∧ x.cell? ⟨nb, vi, none⟩ = some (.string (nmP vi))) := fun g x D m B R h hB1 hB2 => by
        obtain ⟨h1, h2, h3⟩ := cel_get V vi _ HP.out
        have hb := h.blk hB1
        have hn := h.blk hB2
        exact ⟨(hb.cell _).trans h1, (hb.cell _).trans h2, (hb.cell _).trans h3, (hn.cell _).trans (nmCs_get hvi)⟩
      go_upto_region 11 with fail
      go_cut [9, 10] (fun s9 s10 wx => ∃ (a : Nat) (l : List UInt8) (Ab : Option Addr) (cb : Nat) (gx : Gh) (mx : Nat), s9 = .int .i64 (pv.pos + (a : Int) - 1) ∧ s10 = .slice Ab l.length cb ∧ a ≤ 4 ∧ l.length ≤ 8 ∧ mx ≤ m + 12 ∧ Kp w w.heap.size d gx wx D mx [(wb, 34, cel V), (nb, 9, nmCs)] (fun g x => AllB V g x ∧ BytesAt g x (.slice Ab l.length cb) l))
      case first =>
        have HK8 := Lib.hid HK7.out.drew
        have hS := (HCELL.out _ _ _ _ _ _ HK8.out (by simp) (by simp)).1
        (refine wp_region_mix (S := (fun x : World => x.cell? ⟨wb, vi * 3, none⟩ = some (.int .i64 pv.pos))) [16, 17] [([0, 1, 2, 3, 4, 5, 9, 10, 12], 6), ([7, 8], 11), ([], 13), ([14], 15)] (by kernel_rfl) (by kernel_rfl) (by intro c a d v w h; cases d <;> exact h) hS ?_; have hN : Nonempty (Held ((fun x : World => x.cell? ⟨wb, vi * 3, none⟩ = some (.int .i64 pv.pos)))) := ⟨⟨_, hS⟩⟩)
        have r0 : ∀ y : Held ((fun x : World => x.cell? ⟨wb, vi * 3, none⟩ = some (.int .i64 pv.pos))), y.w.cell? ⟨wb, vi * 3, none⟩ = some (.int .i64 pv.pos) := fun y => y.ok
        generalize hwq : w7.drew = wq at *
        clear hS hwq
        (unfold wpMix wpRd; (repeat (first | simp only [List.filterMap_cons] | simp only [List.filterMap_nil] | simp only [List.getElem?_toArray] | simp only [List.getElem?_cons_zero] | simp only [List.getElem?_cons_succ])); (try dsimp only); change wpQuiet _ _ _ _ (_ :: _ :: _ :: _ :: _ :: _ :: _ :: _ :: _ :: []) _; (repeat (go_big_quiet_step (fail))); refine wpQuiet_nil ?_; (try dsimp only))
        clear r0
        go_wp2_with fail
        refine (knextN HK8.out (by omega) 5 (by omega) (by omega)).mono ?_
        rintro e x1 ⟨v1, rfl, hv1, hk1⟩
        have HK9 := Lib.hid hk1
        have hS1 := (HCELL.out _ _ _ _ _ _ hk1 (by simp) (by simp)).1
        clear hk1
        go_wp2_with fail
        refine ⟨hS1, ?_⟩
        clear hS1
        have hw1 : IntKind.i64.wrap (pv.pos + (v1 : Int)) = pv.pos + (v1 : Int) := IntWalk.i64_in _ (by omega)
        have hw2 : IntKind.i64.wrap (pv.pos + (v1 : Int) - 1) = pv.pos + (v1 : Int) - 1 := IntWalk.i64_in _ (by omega)
        (unfold wpMix wpRd; (repeat (first | simp only [List.filterMap_cons] | simp only [List.filterMap_nil] | simp only [List.getElem?_toArray] | simp only [List.getElem?_cons_zero] | simp only [List.getElem?_cons_succ])); (try dsimp only); change wpQuiet _ _ _ _ (_ :: _ :: []) _; (repeat (go_big_quiet_step (fail))); refine wpQuiet_nil ?_; (try dsimp only))
        clear hw1 hw2
        go_wp2_with fail
        refine (knextN HK9.out (by omega) 9 (by omega) (by omega)).mono ?_
        rintro e x2 ⟨v2, rfl, hv2, hk1⟩
        have HK10 := Lib.hid hk1
        have hS1 := (HCELL.out _ _ _ _ _ _ hk1 (by simp) (by simp)).1
        clear hk1
        go_wp2_with fail
        refine ⟨hS1, ?_⟩
        clear hS1
        (unfold wpMix wpRd; (repeat (first | simp only [List.filterMap_cons] | simp only [List.filterMap_nil] | simp only [List.getElem?_toArray] | simp only [List.getElem?_cons_zero] | simp only [List.getElem?_cons_succ])); (try dsimp only); change wpQuiet _ _ _ _ ([]) _; (repeat (go_big_quiet_step (fail))); refine wpQuiet_nil ?_; (try dsimp only))
        go_wp2_with fail
        refine (knextN HK10.out (by omega) 9 (by omega) (by omega)).mono ?_
        rintro e x3 ⟨v3, rfl, hv3, hk1⟩
        have HK11 := Lib.hid hk1
        have hS1 := (HCELL.out _ _ _ _ _ _ hk1 (by simp) (by simp)).1
        clear hk1
        go_wp2_with fail
        refine ⟨hS1, ?_⟩
        clear hS1
        have hw2 : IntKind.i64.wrap (1 + (v3 : Int)) = 1 + (v3 : Int) := IntWalk.i64_in _ (by omega)
        (unfold wpMix wpRd; (repeat (first | simp only [List.filterMap_cons] | simp only [List.filterMap_nil] | simp only [List.getElem?_toArray] | simp only [List.getElem?_cons_zero] | simp only [List.getElem?_cons_succ])); (try dsimp only); change wpQuiet _ _ _ _ (_ :: []) _; (repeat (go_big_quiet_step (fail))); refine wpQuiet_nil ?_; (try dsimp only))
        clear hw2
        have hcast : ((1 + v3 : Nat) : Int) = 1 + (v3 : Int) := by omega
        have HBY := Lib.hid (kbytes HK11.out v2 (1 + v3) (by omega) (by omega) (by omega))
        rw [hcast] at HBY
        clear hcast
        go_wp2_with fail
        refine HBY.out.mono ?_
        rintro e x4 ⟨Ab, cb, l, gb, rfl, hl, hk1⟩
        have HK12 := Lib.hid hk1
        have hS1 := (HCELL.out _ _ _ _ _ _ hk1 (by simp) (by simp)).1
        have HL := Lib.hid hl
        clear hk1 hl HBY
        go_wp2_with fail
        refine ⟨hS1, ?_⟩
        clear hS1
        (unfold wpMix wpRd; (repeat (first | simp only [List.filterMap_cons] | simp only [List.filterMap_nil] | simp only [List.getElem?_toArray] | simp only [List.getElem?_cons_zero] | simp only [List.getElem?_cons_succ])); (try dsimp only); change wpQuiet _ _ _ _ (_ :: _ :: []) _; (repeat (go_big_quiet_step (fail))); refine wpQuiet_nil ?_; (try dsimp only))
        go_wp2_with fail
        go_meet
        exact ⟨v1, l, Ab, cb, gb, _, rfl, rfl, by omega, by have := HL.out; omega, by omega, HK12.out⟩
      case rest =>
        obtain ⟨a, l, Ab, cb, g13, m13, rfl, rfl, ha, hl, hm13, hkp⟩ := hcut
        have HK13 := Lib.hid hkp
        clear hkp HK7
        go_upto_region 12 with fail
        go_cut [11, 12] (fun s11 s12 wx => ∃ (xb : Nat) (ef : Int) (q' : Vw) (Aq : Option Addr) (cq : Nat) (gx : Gh), s11 = .pointer (some ⟨xb, 0, none⟩) ∧ s12 = .int .i64 ef ∧ xb ≠ wb ∧ xb ≠ nb ∧ Rsv (nmP vi) (pv, .slice Ap pv.st.length cp) (pv.pos + (a : Int) - 1) l ef (q', .slice Aq q'.st.length cq) ∧ Kp w w.heap.size d gx wx D m13 [(xb, 34, [.int .i64 q'.pos, .slice Aq q'.st.length cq, .bool q'.is]), (wb, 34, cel V), (nb, 9, nmCs)] (fun g x => (AllB V g x ∧ BytesAt g x (.slice Ab l.length cb) l) ∧ BytesAt g x (.slice Aq q'.st.length cq) q'.st))
        case first =>
          have HK14 := Lib.hid HK13.out.drew
          have hS := HCELL.out _ _ _ _ _ _ HK14.out (by simp) (by simp)
          (refine wp_region_mixf (S := (fun x : World => x.cell? ⟨wb, vi * 3, none⟩ = some (.int .i64 pv.pos) ∧ x.cell? ⟨wb, vi * 3 + 1, none⟩ = some (.slice Ap pv.st.length cp) ∧ x.cell? ⟨wb, vi * 3 + 2, none⟩ = some (.bool pv.is) ∧ x.cell? ⟨nb, vi, none⟩ = some (.string (nmP vi)))) [16] [] [11, 12, 13] 15 14 [([0, 1, 2, 3, 4, 5, 6, 7, 8, 9], 10)] (by kernel_rfl) (by kernel_rfl) (by intro c a d v w h; cases d <;> exact h) hS ?_; have hN : Nonempty (Held ((fun x : World => x.cell? ⟨wb, vi * 3, none⟩ = some (.int .i64 pv.pos) ∧ x.cell? ⟨wb, vi * 3 + 1, none⟩ = some (.slice Ap pv.st.length cp) ∧ x.cell? ⟨wb, vi * 3 + 2, none⟩ = some (.bool pv.is) ∧ x.cell? ⟨nb, vi, none⟩ = some (.string (nmP vi))))) := ⟨⟨_, hS⟩⟩)
          have r0 : ∀ y : Held ((fun x : World => x.cell? ⟨wb, vi * 3, none⟩ = some (.int .i64 pv.pos) ∧ x.cell? ⟨wb, vi * 3 + 1, none⟩ = some (.slice Ap pv.st.length cp) ∧ x.cell? ⟨wb, vi * 3 + 2, none⟩ = some (.bool pv.is) ∧ x.cell? ⟨nb, vi, none⟩ = some (.string (nmP vi)))), y.w.cell? ⟨wb, vi * 3, none⟩ = some (.int .i64 pv.pos) := fun y => y.ok.1; have r1 : ∀ y : Held ((fun x : World => x.cell? ⟨wb, vi * 3, none⟩ = some (.int .i64 pv.pos) ∧ x.cell? ⟨wb, vi * 3 + 1, none⟩ = some (.slice Ap pv.st.length cp) ∧ x.cell? ⟨wb, vi * 3 + 2, none⟩ = some (.bool pv.is) ∧ x.cell? ⟨nb, vi, none⟩ = some (.string (nmP vi)))), y.w.cell? ⟨wb, vi * 3 + 1, none⟩ = some (.slice Ap pv.st.length cp) := fun y => y.ok.2.1; have r2 : ∀ y : Held ((fun x : World => x.cell? ⟨wb, vi * 3, none⟩ = some (.int .i64 pv.pos) ∧ x.cell? ⟨wb, vi * 3 + 1, none⟩ = some (.slice Ap pv.st.length cp) ∧ x.cell? ⟨wb, vi * 3 + 2, none⟩ = some (.bool pv.is) ∧ x.cell? ⟨nb, vi, none⟩ = some (.string (nmP vi)))), y.w.cell? ⟨wb, vi * 3 + 2, none⟩ = some (.bool pv.is) := fun y => y.ok.2.2.1; have r3 : ∀ y : Held ((fun x : World => x.cell? ⟨wb, vi * 3, none⟩ = some (.int .i64 pv.pos) ∧ x.cell? ⟨wb, vi * 3 + 1, none⟩ = some (.slice Ap pv.st.length cp) ∧ x.cell? ⟨wb, vi * 3 + 2, none⟩ = some (.bool pv.is) ∧ x.cell? ⟨nb, vi, none⟩ = some (.string (nmP vi)))), y.w.cell? ⟨nb, vi, none⟩ = some (.string (nmP vi)) := fun y => y.ok.2.2.2
          generalize hwq : wc.drew = wq at *
          clear hS hwq
          (unfold wpMixF wpRd; (repeat (first | simp only [List.filterMap_cons] | simp only [List.filterMap_nil] | simp only [List.getElem?_toArray] | simp only [List.getElem?_cons_zero] | simp only [List.getElem?_cons_succ])); (try dsimp only); change wpQuiet _ _ _ _ (_ :: _ :: _ :: _ :: _ :: _ :: _ :: _ :: _ :: _ :: []) _; (repeat (go_big_quiet_step (fail))); refine wpQuiet_nil ?_; (try dsimp only))
          refine ⟨?_, ?_⟩
          · (unfold wpAct; (repeat (first | simp only [List.getElem?_toArray] | simp only [List.getElem?_cons_zero] | simp only [List.getElem?_cons_succ])); (try dsimp only))
            go_wp2_with fail
            refine (krsv HK14.out pv Ap cp (nmP vi) (nmP_size vi) _ Ab cb l (HK14.out.r.1 _ (List.mem_of_getElem? HP.out)) HK14.out.r.2 (by omega)).mono ?_
            rintro e x1 ⟨gr, q', Aq, cq, ef, rfl, hrsv, hk1⟩
            have HK16 := Lib.hid hk1
            have HRS := Lib.hid hrsv
            have hS1 := HCELL.out _ _ _ _ _ _ hk1 (by simp) (by simp)
            clear hk1 hrsv
            go_wp2_with fail
            refine ⟨hS1, ?_⟩
            clear hS1
            (unfold wpMixF wpRd; (repeat (first | simp only [List.filterMap_cons] | simp only [List.filterMap_nil] | simp only [List.getElem?_toArray] | simp only [List.getElem?_cons_zero] | simp only [List.getElem?_cons_succ])); (try dsimp only); change wpQuiet _ _ _ _ (_ :: _ :: _ :: []) _; (repeat (go_big_quiet_step (fail))); refine wpQuiet_nil ?_; (try dsimp only))
            (unfold wpAct; (repeat (first | simp only [List.getElem?_toArray] | simp only [List.getElem?_cons_zero] | simp only [List.getElem?_cons_succ])); (try dsimp only))
            go_wp2_with fail
            have HK17 := Lib.hid (HK16.out.box 34 [.int .i64 0, .slice none 0 0, .bool false])
            dsimp only [List.toArray] at HK17
            have hne : x1.heap.size ≠ wb ∧ x1.heap.size ≠ nb := by
              have h1 := (HK16.out.blk (b := wb) (T := 34) (cs := cel V) (by simp)).lt
              have h2 := (HK16.out.blk (b := nb) (T := 9) (cs := nmCs) (by simp)).lt
              omega
            generalize hww : x1.alloc (.cells #[.int .i64 0, .slice none 0 0, .bool false] 34) = x2 at *
            generalize Gh.box _ x1.heap.size = gx at HK17
            generalize x1.heap.size = xb at *
            clear hww
            have hS1 := HCELL.out _ _ _ _ _ _ HK17.out (by simp) (by simp)
            refine ⟨hS1, ?_⟩
            clear hS1
            (unfold wpMix wpRd; (repeat (first | simp only [List.filterMap_cons] | simp only [List.filterMap_nil] | simp only [List.getElem?_toArray] | simp only [List.getElem?_cons_zero] | simp only [List.getElem?_cons_succ])); (try dsimp only); change wpQuiet _ _ _ _ ([]) _; (repeat (go_big_quiet_step (fail))); refine wpQuiet_nil ?_; (try dsimp only))
            have hbx := HK17.out.blk (b := xb) (T := 34) (cs := [.int .i64 0, .slice none 0 0, .bool false]) (by simp)
            have e0 := hbx.cell 0
            have e1 := hbx.cell 1
            have e2 := hbx.cell 2
            have ez := hbx.fz
            clear hbx
            go_wp2_with fail
            have HKE := Lib.hid (((HK17.out.put (fun p hp => by rcases (show p = _ ∨ p = _ by simpa using hp) with rfl | rfl; exact hne.1.symm; exact hne.2.symm) 0 (.int .i64 q'.pos)).put (fun p hp => by rcases (show p = _ ∨ p = _ by simpa using hp) with rfl | rfl; exact hne.1.symm; exact hne.2.symm) 1 (.slice Aq q'.st.length cq)).put (fun p hp => by rcases (show p = _ ∨ p = _ by simpa using hp) with rfl | rfl; exact hne.1.symm; exact hne.2.symm) 2 (.bool q'.is))
            dsimp only [List.set] at HKE
            clear e0 e1 e2 ez
            refine ⟨HCELL.out _ _ _ _ _ _ HKE.out (by simp) (by simp), ?_⟩
            (unfold wpMix wpRd; (repeat (first | simp only [List.filterMap_cons] | simp only [List.filterMap_nil] | simp only [List.getElem?_toArray] | simp only [List.getElem?_cons_zero] | simp only [List.getElem?_cons_succ])); (try dsimp only); change wpQuiet _ _ _ _ (_ :: []) _; (repeat (go_big_quiet_step (fail))); refine wpQuiet_nil ?_; (try dsimp only))
            go_wp2_with fail
            go_meet
            exact ⟨xb, ef, q', Aq, cq, _, rfl, rfl, hne.1, hne.2, HRS.out, HKE.out⟩
          · (unfold wpAct; (repeat (first | simp only [List.getElem?_toArray] | simp only [List.getElem?_cons_zero] | simp only [List.getElem?_cons_succ])); (try dsimp only))
            go_wp2_with fail
            have HK16 := Lib.hid (HK14.out.box 34 [.int .i64 0, .slice none 0 0, .bool false])
            dsimp only [List.toArray] at HK16
            have hne : wq.heap.size ≠ wb ∧ wq.heap.size ≠ nb := by
              have h1 := (HK14.out.blk (b := wb) (T := 34) (cs := cel V) (by simp)).lt
              have h2 := (HK14.out.blk (b := nb) (T := 9) (cs := nmCs) (by simp)).lt
              omega
            generalize hww : wq.alloc (.cells #[.int .i64 0, .slice none 0 0, .bool false] 34) = x2 at *
            generalize Gh.box _ wq.heap.size = gx at HK16
            generalize wq.heap.size = xb at *
            clear hww
            have hS1 := HCELL.out _ _ _ _ _ _ HK16.out (by simp) (by simp)
            refine ⟨hS1, ?_⟩
            clear hS1
            simp only [List.cons_append, List.nil_append]
            (unfold wpMix wpRd; (repeat (first | simp only [List.filterMap_cons] | simp only [List.filterMap_nil] | simp only [List.getElem?_toArray] | simp only [List.getElem?_cons_zero] | simp only [List.getElem?_cons_succ])); (try dsimp only); change wpQuiet _ _ _ _ ([]) _; (repeat (go_big_quiet_step (fail))); refine wpQuiet_nil ?_; (try dsimp only))
            go_wp2_with fail
            refine (krsv HK16.out pv Ap cp (nmP vi) (nmP_size vi) _ Ab cb l (HK16.out.r.1 _ (List.mem_of_getElem? HP.out)) HK16.out.r.2 (by omega)).mono ?_
            rintro e x1 ⟨gr, q', Aq, cq, ef, rfl, hrsv, hk1⟩
            have HK17 := Lib.hid hk1
            have HRS := Lib.hid hrsv
            have hS1 := HCELL.out _ _ _ _ _ _ hk1 (by simp) (by simp)
            clear hk1 hrsv
            go_wp2_with fail
            refine ⟨hS1, ?_⟩
            clear hS1
            (unfold wpMix wpRd; (repeat (first | simp only [List.filterMap_cons] | simp only [List.filterMap_nil] | simp only [List.getElem?_toArray] | simp only [List.getElem?_cons_zero] | simp only [List.getElem?_cons_succ])); (try dsimp only); change wpQuiet _ _ _ _ (_ :: _ :: _ :: []) _; (repeat (go_big_quiet_step (fail))); refine wpQuiet_nil ?_; (try dsimp only))
            have hbx := HK17.out.blk (b := xb) (T := 34) (cs := [.int .i64 0, .slice none 0 0, .bool false]) (by simp)
            have e0 := hbx.cell 0
            have e1 := hbx.cell 1
            have e2 := hbx.cell 2
            have ez := hbx.fz
            clear hbx
            go_wp2_with fail
            have HKE := Lib.hid (((HK17.out.put (fun p hp => by rcases (show p = _ ∨ p = _ by simpa using hp) with rfl | rfl; exact hne.1.symm; exact hne.2.symm) 0 (.int .i64 q'.pos)).put (fun p hp => by rcases (show p = _ ∨ p = _ by simpa using hp) with rfl | rfl; exact hne.1.symm; exact hne.2.symm) 1 (.slice Aq q'.st.length cq)).put (fun p hp => by rcases (show p = _ ∨ p = _ by simpa using hp) with rfl | rfl; exact hne.1.symm; exact hne.2.symm) 2 (.bool q'.is))
            dsimp only [List.set] at HKE
            clear e0 e1 e2 ez
            refine ⟨HCELL.out _ _ _ _ _ _ HKE.out (by simp) (by simp), ?_⟩
            (unfold wpMix wpRd; (repeat (first | simp only [List.filterMap_cons] | simp only [List.filterMap_nil] | simp only [List.getElem?_toArray] | simp only [List.getElem?_cons_zero] | simp only [List.getElem?_cons_succ])); (try dsimp only); change wpQuiet _ _ _ _ (_ :: []) _; (repeat (go_big_quiet_step (fail))); refine wpQuiet_nil ?_; (try dsimp only))
            go_wp2_with fail
            go_meet
            exact ⟨xb, ef, q', Aq, cq, _, rfl, rfl, hne.1, hne.2, HRS.out, HKE.out⟩
        case rest =>
          obtain ⟨xb, ef, q', Aq, cq, g15, rfl, rfl, hx1, hx2, hrsv, hkp⟩ := hcut
          have HK15 := Lib.hid hkp
          have HRS := Lib.hid hrsv
          clear hkp hrsv HK13
          have hcl := HCELL.out _ _ _ _ _ _ HK15.out (by simp) (by simp)
          have cn := hcl.2.2.2
          clear hcl
          go_wp2_with fail
          refine (ksv HK15.out HP6.out (by omega) hvi HP.out (pv.pos + (a : Int) - 1) (by show _ ≤ pv.pos + 3; omega) Ab cb l HK15.out.r.1.2 (by omega) ef HRS.out).mono ?_
          rintro e w16 ⟨rfl, g16, D', hk16, h5'⟩
          have HK16 := Lib.hid (hk16.sub (B' := [(wb, 34, cel V), (xb, 34, [.int .i64 q'.pos, .slice Aq q'.st.length cq, .bool q'.is]), (nb, 9, nmCs)]) (by simp))
          have HP16 := Lib.hid h5'
          clear hk16 h5' cn HK15
          have hcl := HCELL.out _ _ _ _ _ _ HK16.out (by simp) (by simp)
          obtain ⟨c0, c1, c2, _⟩ := hcl
          have cz := (HK16.out.blk (b := wb) (T := 34) (cs := cel V) (by simp)).fz
          have hb := HK16.out.blk (b := xb) (T := 34) (cs := [.int .i64 q'.pos, .slice Aq q'.st.length cq, .bool q'.is]) (by simp)
          have x0 := hb.cell 0
          have x1 := hb.cell 1
          have x2 := hb.cell 2
          clear hb
          go_wp2_with fail
          have HV : Hid (vi < V.length) := by show _ < _; rw [HP6.out.len]; exact hvi
          have HK17 : Hid (Kp w w.heap.size d g16 (((w16.setCell ⟨wb, vi * 3, none⟩ (.int .i64 q'.pos)).setCell ⟨wb, vi * 3 + 1, none⟩ (.slice Aq q'.st.length cq)).setCell ⟨wb, vi * 3 + 2, none⟩ (.bool q'.is)) D' m13 [(wb, 34, cel (V.set vi (q', .slice Aq q'.st.length cq))), (nb, 9, nmCs)] (AllB (V.set vi (q', .slice Aq q'.st.length cq)))) := by
            have hnb : wb ≠ nb := HNB.out
            have hns : ∀ p ∈ [(xb, 34, [.int .i64 q'.pos, .slice Aq q'.st.length cq, .bool q'.is]), (nb, 9, nmCs)], p.1 ≠ wb := fun p hp => by
              rcases (show p = _ ∨ p = _ by simpa using hp) with rfl | rfl
              · exact hx1
              · exact hnb.symm
            have h1 := ((HK16.out.put hns (vi * 3) (.int .i64 q'.pos)).put hns (vi * 3 + 1) (.slice Aq q'.st.length cq)).put hns (vi * 3 + 2) (.bool q'.is)
            rw [show (((cel V).set (vi * 3) (.int .i64 q'.pos)).set (vi * 3 + 1) (.slice Aq q'.st.length cq)).set (vi * 3 + 2) (.bool q'.is) = cel (V.set vi (q', .slice Aq q'.st.length cq)) from cel_set V vi (q', .slice Aq q'.st.length cq) HV.out] at h1
            exact (h1.sub (fun p hp => by rcases (show p = _ ∨ p = _ by simpa using hp) with rfl | rfl <;> simp)).with (AllB.set h1.r.1.1 h1.r.2) (AllB.stab _)
          clear c0 c1 c2 cz x0 x1 x2 HK16
          generalize (((w16.setCell ⟨wb, vi * 3, none⟩ (.int .i64 q'.pos)).setCell ⟨wb, vi * 3 + 1, none⟩ (.slice Aq q'.st.length cq)).setCell ⟨wb, vi * 3 + 2, none⟩ (.bool q'.is)) = w17 at *
          generalize V.set vi (q', .slice Aq q'.st.length cq) = V' at *
          go_loopg [13] 3 (fun kk i wx => ∃ (q : Nat) (gx : Gh), i = .int .i64 q ∧ q ≤ 3 ∧ kk = 3 - q ∧ Kp w w.heap.size d gx wx D' m13 [(wb, 34, cel V'), (nb, 9, nmCs)] (AllB V'))
          case atStart => exact ⟨0, g16, rfl, by omega, by omega, HK17.out⟩
          case round =>
            obtain ⟨q, gq, rfl, hq, hkk, hkp⟩ := hrel
            have HK18 := Lib.hid hkp
            have HKK := Lib.hid hkk
            clear hkp hkk HK17
            by_cases hq3 : q < 3
            · obtain ⟨o, ⟨pq, pu⟩, hpq, hpo, hsl, _, _⟩ := HP16.out.ok q hq3
              obtain ⟨Aw, cw, hp2, _⟩ := (HK18.out.r _ (List.mem_of_getElem? hpq)).ex
              have hpu : pu = .slice Aw pq.st.length cw := hp2
              subst hpu
              obtain rfl : pq = vw o := hpo
              have HPQ := Lib.hid hpq
              have HLD := Lib.hid (kload3 HK18.out HP16.out.q.up.dn (nmP q) (nmP_ok hq3) hsl)
              have cn : wr.cell? ⟨nb, q, none⟩ = some (.string (nmP q)) := ((HK18.out.blk (b := nb) (T := 9) (cs := nmCs) (by simp)).cell q).trans (nmCs_get (by omega))
              clear hpq hp2 hsl
              generalize vw o = C at *
              go_wp2_with fail
              refine HLD.out.mono ?_
              rintro e w19 ⟨g19, Al, cl, rfl, hkp⟩
              have HK19 := Lib.hid (hkp.box 34 [.int .i64 C.pos, .slice Al C.st.length cl, .bool C.is])
              dsimp only [List.toArray] at HK19
              clear hkp HLD cn HK18
              go_wp2_with fail
              generalize hw20 : w19.alloc (.cells #[.int .i64 C.pos, .slice Al C.st.length cl, .bool C.is] 34) = w20 at *
              generalize g19.box w19.heap.size = gl at *
              generalize w19.heap.size = kb at *
              clear hw20
              obtain ⟨RR, hRR⟩ : ∃ RR : Gh → World → Prop, RR = fun g x => AllB V' g x ∧ BytesAt g x (.slice Al C.st.length cl) C.st := ⟨_, rfl⟩
              have HRR := Lib.hid hRR
              rw [← hRR] at HK19
              clear hRR
              have hget : ∀ x, KpS w w.heap.size d gl D' m13 [(kb, 34, [.int .i64 C.pos, .slice Al C.st.length cl, .bool C.is]), (wb, 34, cel V'), (nb, 9, nmCs)] RR x → AllB V' gl x ∧ BytesAt gl x (.slice Al C.st.length cl) C.st := fun x h => by
                have := h.r
                rw [HRR.out] at this
                exact this
              have HST : Hid (∀ x x', KpS w w.heap.size d gl D' m13 [(kb, 34, [.int .i64 C.pos, .slice Al C.st.length cl, .bool C.is]), (wb, 34, cel V'), (nb, 9, nmCs)] RR x → Below x.heap.size x x' → KpS w w.heap.size d gl D' m13 [(kb, 34, [.int .i64 C.pos, .slice Al C.st.length cl, .bool C.is]), (wb, 34, cel V'), (nb, 9, nmCs)] RR x') := fun x x' h hb => Kp.below h hb
              have HMEM := Lib.hid (List.mem_of_getElem? HPQ.out)
              have hS : KpS w w.heap.size d gl D' m13 [(kb, 34, [.int .i64 C.pos, .slice Al C.st.length cl, .bool C.is]), (wb, 34, cel V'), (nb, 9, nmCs)] RR w20.drew := HK19.out.drew
              have hself := sameV_self C
              (refine wp_region_s (S := KpS w w.heap.size d gl D' m13 [(kb, 34, [.int .i64 C.pos, .slice Al C.st.length cl, .bool C.is]), (wb, 34, cel V'), (nb, 9, nmCs)] RR) (by kernel_rfl) (by kernel_rfl) hS ?_; have hN : Nonempty (Held (KpS w w.heap.size d gl D' m13 [(kb, 34, [.int .i64 C.pos, .slice Al C.st.length cl, .bool C.is]), (wb, 34, cel V'), (nb, 9, nmCs)] RR)) := ⟨⟨_, hS⟩⟩; (have r0 : ∀ y : Held (KpS w w.heap.size d gl D' m13 [(kb, 34, [.int .i64 C.pos, .slice Al C.st.length cl, .bool C.is]), (wb, 34, cel V'), (nb, 9, nmCs)] RR), y.w.cell? ⟨wb, q * 3, none⟩ = some (.int .i64 C.pos) := fun y => ((Kp.blk y.ok (List.mem_cons_of_mem _ (List.mem_cons_self ..))).cell _).trans (cel_get V' q _ HPQ.out).1; have r1 : ∀ y : Held (KpS w w.heap.size d gl D' m13 [(kb, 34, [.int .i64 C.pos, .slice Al C.st.length cl, .bool C.is]), (wb, 34, cel V'), (nb, 9, nmCs)] RR), y.w.cell? ⟨wb, q * 3 + 1, none⟩ = some (.slice Aw C.st.length cw) := fun y => ((Kp.blk y.ok (List.mem_cons_of_mem _ (List.mem_cons_self ..))).cell _).trans (cel_get V' q _ HPQ.out).2.1; have r2 : ∀ y : Held (KpS w w.heap.size d gl D' m13 [(kb, 34, [.int .i64 C.pos, .slice Al C.st.length cl, .bool C.is]), (wb, 34, cel V'), (nb, 9, nmCs)] RR), y.w.cell? ⟨wb, q * 3 + 2, none⟩ = some (.bool C.is) := fun y => ((Kp.blk y.ok (List.mem_cons_of_mem _ (List.mem_cons_self ..))).cell _).trans (cel_get V' q _ HPQ.out).2.2; have s0 : ∀ y : Held (KpS w w.heap.size d gl D' m13 [(kb, 34, [.int .i64 C.pos, .slice Al C.st.length cl, .bool C.is]), (wb, 34, cel V'), (nb, 9, nmCs)] RR), y.w.cell? ⟨kb, 0, none⟩ = some (.int .i64 C.pos) := fun y => (Kp.blk y.ok (List.mem_cons_self ..)).cell 0; have s1 : ∀ y : Held (KpS w w.heap.size d gl D' m13 [(kb, 34, [.int .i64 C.pos, .slice Al C.st.length cl, .bool C.is]), (wb, 34, cel V'), (nb, 9, nmCs)] RR), y.w.cell? ⟨kb, 1, none⟩ = some (.slice Al C.st.length cl) := fun y => (Kp.blk y.ok (List.mem_cons_self ..)).cell 1; have s2 : ∀ y : Held (KpS w w.heap.size d gl D' m13 [(kb, 34, [.int .i64 C.pos, .slice Al C.st.length cl, .bool C.is]), (wb, 34, cel V'), (nb, 9, nmCs)] RR), y.w.cell? ⟨kb, 2, none⟩ = some (.bool C.is) := fun y => (Kp.blk y.ok (List.mem_cons_self ..)).cell 2); (repeat (go_big_quiet_step ((go_at_call 18; exact held_below HST.out (same32 gl _ C C Al Aw _ _ cl cw (by exact (hget _ (Held.ok _)).2) (by exact (hget _ (Held.ok _)).1 _ HMEM.out)))))); refine wpQuiet_nil ?_; rintro _ ⟨⟨x, hx⟩, rfl⟩; clear hN)
              clear r0 r1 r2 s0 s1 s2
              have HK21 := Lib.hid (((show Kp w w.heap.size d gl _ D' m13 [(kb, 34, [.int .i64 C.pos, .slice Al C.st.length cl, .bool C.is]), (wb, 34, cel V'), (nb, 9, nmCs)] RR from hx).sub (B' := [(wb, 34, cel V'), (nb, 9, nmCs)]) (by simp)).with (hget _ hx).1 (AllB.stab _))
              clear hget
              go_wp2_with fail
              go_roundg (3 - (q + 1))
              case measure => have := HKK.out; omega
              case rel => exact ⟨q + 1, gl, by go_num, by omega, by omega, HK21.out⟩
            · obtain rfl : q = 3 := by omega
              go_wp2_with fail
              have hko : ((K0 - 1 : Nat) : Int) = (K0 : Int) - 1 := by omega
              have e15 : 15 - (K0 - 1) = 15 - K0 + 1 := by omega
              have HREL : Hid (PlHead w w.heap.size d wb nb (K0 - 1) (.int .i64 ((K0 : Int) - 1)) wr) := ⟨V', gq, D', m13, by rw [hko], by omega, by omega, HNB.out, HK18.out, by rw [e15]; exact HP16.out⟩
              clear hko e15
              go_roundg (K0 - 1)
              case measure => clear HREL; omega
              case rel => exact HREL.out
    · obtain rfl : K0 = 0 := by omega
      go_wp2_with fail
      go_ret
      exact ⟨rfl, HK6.out.hx.finW⟩

end Go.Proofs.YtcjkllmellampaaDoor
