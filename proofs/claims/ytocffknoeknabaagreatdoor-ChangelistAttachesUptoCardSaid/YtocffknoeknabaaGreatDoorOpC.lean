/-
  Changes, claims and leases that come in, and that no text in them is longer than what is read.
-/
import Derived.Test.YtocffknoeknabaaGreatDoorCgH
import Derived.Test.YtocffknoeknabaaGreatDoorRow
import Derived.Test.YtocffknoeknabaaGreatDoorRows
import Derived.Deep.Slices
import Derived.Deep.Strs
namespace Go.Proofs.YtocffknoeknabaaGreatDoor
open Go.ChangeShapes Go.WideShapes Go.ChangeAt Go.RowKit Go.Joins Go.Deep

theorem list_of {α : Type} (n : Nat) (Q : Nat → α → Prop) (h : ∀ i, i < n → ∃ a, Q i a) : ∃ l : List α, l.length = n ∧ ∀ (i : Nat) (a : α), l[i]? = some a → Q i a := by
  induction n with
  | zero => exact ⟨[], rfl, fun i a h => by simp at h⟩
  | succ n ih =>
    obtain ⟨l, hl, hq⟩ := ih (fun i hi => h i (by omega))
    obtain ⟨a, ha⟩ := h n (by omega)
    refine ⟨l ++ [a], by simp [hl], fun i b hb => ?_⟩
    rcases Nat.lt_trichotomy i n with hi | hi | hi
    · rw [List.getElem?_append_left (by omega)] at hb
      exact hq i b hb
    · subst hi
      rw [List.getElem?_append_right (by omega), hl] at hb
      simp at hb
      subst hb
      exact ha
    · rw [List.getElem?_eq_none (by simp; omega)] at hb
      cases hb
theorem spot_none {w : World} {a : Addr} {v : Value} (h : w.cell? a = some v) : a.spot = none := by
  unfold World.cell? at h
  split at h
  · split at h
    · cases h
    · rename_i hs
      cases e : a.spot
      · rfl
      · rw [e] at hs; simp at hs
  · cases h
theorem cell_lt {w : World} {a : Addr} {v : Value} (h : w.cell? a = some v) : a.block < w.heap.size := by
  unfold World.cell? at h
  split at h
  · rename_i hb
    exact (Array.getElem?_eq_some_iff.1 hb).1
  · cases h
theorem bulk_pos {H : Type} : ∀ d : DataW H, 1 ≤ Rows.uptoBulk d
  | .lit l => by cases l <;> simp [Rows.uptoBulk]
  | .nil => by simp [Rows.uptoBulk]
  | .ptr _ => by simp [Rows.uptoBulk]
  | .slice _ _ => by simp [Rows.uptoBulk]
  | .agg _ => by simp [Rows.uptoBulk]
  | .iface _ _ => by simp [Rows.uptoBulk]
  | .map _ => by simp [Rows.uptoBulk]
  | .held _ => by simp [Rows.uptoBulk]
theorem bulk_mem {H : Type} {d : DataW H} : ∀ {l : List (DataW H)}, d ∈ l → Rows.uptoBulk d ≤ Rows.uptoBulkAll l
  | [], h => by cases h
  | x :: r, h => by
    simp only [Rows.uptoBulkAll]
    rcases List.mem_cons.1 h with rfl | h
    · omega
    · have := bulk_mem h
      omega
theorem bulk_len {H : Type} : ∀ l : List (DataW H), l.length ≤ Rows.uptoBulkAll l
  | [] => by simp
  | x :: r => by
    have := bulk_len r
    have := bulk_pos x
    simp only [Rows.uptoBulkAll, List.length_cons]
    omega
/-- Where each element's measure is at most its bulk, the sum is at most the bulk of all. -/
theorem bulk_sum {H α : Type} (f : α → Nat) : ∀ (l : List α) (Ds : List (DataW H)), l.length = Ds.length → (∀ (i : Nat) (x : α) (D : DataW H), l[i]? = some x → Ds[i]? = some D → f x ≤ Rows.uptoBulk D) → (l.map f).sum ≤ Rows.uptoBulkAll Ds
  | [], _, _, _ => by simp
  | x :: r, [], h, _ => by simp at h
  | x :: r, D :: Ds, h, hf => by
    have h0 := hf 0 x D rfl rfl
    have h1 := bulk_sum f r Ds (by simpa using h) (fun i y E hy hE => hf (i + 1) y E (by simpa using hy) (by simpa using hE))
    simp only [List.map_cons, List.sum_cons, Rows.uptoBulkAll]
    omega

section
variable {H : Type} {enc : TypeId × Value → H} {P : Program} {w : World} {base : Nat} {spare : Nat → Bool} {held : Bool}
/-- A slice of whatever, its elements read one by one. -/
theorem open_list {α : Type} {T e : TypeId} {k : Nat} (hT : P.underlying T = some (.slice e)) (hc : P.cellsOf e = k) (Q : List Value → α → Nat → Prop)
    (hel : ∀ n cs D ps, cs.length = k → DataW.trod enc P w base spare held n e cs = some (D, ps) → ∃ x : α, Q cs x (Rows.uptoBulk D)) {fuel : Nat} {cs : List Value} {d : DataW H} {ps : List MemPlace}
    (h : DataW.trod enc P w base spare held fuel T cs = some (d, ps)) :
    ∃ (A : Option Addr) (c : Nat) (l : List α) (Ds : List (DataW H)), cs = [.slice A l.length c] ∧ l.length = Ds.length ∧ Rows.uptoBulkAll Ds + 1 ≤ Rows.uptoBulk d ∧
      (0 < l.length → ∃ a, A = some a ∧ ∀ i x, l[i]? = some x → ∃ cs' D, Ds[i]? = some D ∧ cs'.length = k ∧ (∀ j, j < k → w.cell? (a.add (i * k + j)) = cs'[j]?) ∧ Q cs' x (Rows.uptoBulk D)) := by
  rcases open_slice hT h with ⟨hcs, hx⟩ | ⟨a, len, cap, m, n, D, Pl, hcs, _, hl, hm, hmm, hx, hi⟩
  · have hd := (Prod.mk.inj hx).1
    exact ⟨none, 0, [], [], hcs, rfl, by rw [hd]; simp [Rows.uptoBulk, Rows.uptoBulkAll], fun h => by simp at h⟩
  · have hd := (Prod.mk.inj hx).1
    have hle : len ≤ m := by rw [hmm]; split <;> omega
    have key : ∀ i, i < len → ∃ x : α, ∃ cs', cs'.length = k ∧ (∀ j, j < k → w.cell? (a.add (i * k + j)) = cs'[j]?) ∧ Q cs' x (Rows.uptoBulk (D i)) := by
      intro i hlt
      obtain ⟨cs', hcc, ht⟩ := hi i (by omega)
      rw [hc] at hcc
      obtain ⟨_, hcl, hat⟩ := World.cells?_some hcc
      obtain ⟨x, hx⟩ := hel n cs' (D i) (Pl i) hcl ht
      exact ⟨x, cs', hcl, fun j hj => by rw [← add_add]; exact hat j hj, hx⟩
    obtain ⟨l, hln, hq⟩ := list_of len _ key
    refine ⟨some a, cap, l, (List.range len).map D, by rw [hcs, hln], by simp [hln], ?_, fun _ => ⟨a, rfl, fun i x hix => ?_⟩⟩
    · rw [hd]
      simp only [Rows.uptoBulk]
      omega
    · have hil : i < len := by rw [← hln]; exact (List.getElem?_eq_some_iff.1 hix).1
      obtain ⟨cs', h1, h2, h3⟩ := hq i x hix
      exact ⟨cs', D i, by simp [hil], h1, h2, h3⟩
/-- The same for structs that lie flat. -/
theorem open_rows {α : Type} (R : RowK α) {T e : TypeId} (hT : P.underlying T = some (.slice e)) (hc : P.cellsOf e = R.n) (f : α → Nat)
    (hel : ∀ n cs D ps, cs.length = R.n → DataW.trod enc P w base spare held n e cs = some (D, ps) → ∃ x : α, cs = R.cells x ∧ f x ≤ Rows.uptoBulk D) {fuel : Nat} {cs : List Value} {d : DataW H} {ps : List MemPlace}
    (h : DataW.trod enc P w base spare held fuel T cs = some (d, ps)) :
    ∃ (A : Option Addr) (c : Nat) (l : List α), cs = [.slice A l.length c] ∧ R.In A l w ∧ l.length + 1 ≤ Rows.uptoBulk d ∧ ∀ x ∈ l, f x ≤ Rows.uptoBulk d := by
  obtain ⟨A, c, l, Ds, h1, h2, h3, h4⟩ := open_list (α := α) hT hc (fun cs x b => cs = R.cells x ∧ f x ≤ b) hel h
  refine ⟨A, c, l, h1, fun h0 => ?_, by have := bulk_len Ds; omega, fun x hx => ?_⟩
  · obtain ⟨a, rfl, ha⟩ := h4 h0
    have hg := fun i x hix j (u : Value) (hj : (R.cells x)[j]? = some u) => (show w.cell? (a.add (i * R.n + j)) = some u from by
      obtain ⟨cs', D, _, e1, e2, e3, _⟩ := ha i x hix
      have hjn : j < R.n := by
        have := (List.getElem?_eq_some_iff.1 hj).1
        rwa [R.len] at this
      rw [e2 j hjn, e3, hj])
    have hx0 := List.getElem?_eq_getElem h0
    have hpos : 0 < (R.cells l[0]).length := by rw [R.len]; exact R.pos
    have c0 := hg 0 _ hx0 0 _ (List.getElem?_eq_getElem hpos)
    rw [Nat.zero_mul, Nat.zero_add] at c0
    have hs := spot_none (a := a) c0
    have hlt := cell_lt (a := a) c0
    obtain ⟨ab, ao, asp⟩ := a
    dsimp only at hs hlt
    subst hs
    refine ⟨ab, ao, rfl, hlt, fun q u hu => ?_⟩
    have hq : q < l.length * R.n := by
      have := (List.getElem?_eq_some_iff.1 hu).1
      rwa [R.flat_len] at this
    have hi : q / R.n < l.length := (Nat.div_lt_iff_lt_mul R.pos).2 hq
    have hjm : q % R.n < R.n := Nat.mod_lt _ R.pos
    have e : q / R.n * R.n + q % R.n = q := Nat.div_add_mod' q R.n
    have hgi := List.getElem?_eq_getElem hi
    have hf := R.flat_get l (q / R.n) (q % R.n) _ hgi hjm
    rw [e, hu] at hf
    have := hg _ _ hgi _ u hf.symm
    rw [e, add_lit] at this
    exact this
  · obtain ⟨i, hi⟩ := List.mem_iff_getElem?.1 hx
    have h0 : 0 < l.length := by have := (List.getElem?_eq_some_iff.1 hi).1; omega
    obtain ⟨a, _, ha⟩ := h4 h0
    obtain ⟨cs', D, hD, _, _, _, e4⟩ := ha i x hi
    have := bulk_mem (List.mem_of_getElem? hD)
    omega
end
set_option maxRecDepth 100000 in
theorem Tryz.cellsEdt : Tryz.prog.cellsOf 44 = 12 := by kernel_rfl
set_option maxRecDepth 100000 in
theorem Tryz.cellsRcd : Tryz.prog.cellsOf 55 = 6 := by kernel_rfl
set_option maxRecDepth 100000 in
theorem Tryz.cellsChg : Tryz.prog.cellsOf 52 = 5 := by kernel_rfl
section
variable {H : Type} {enc : TypeId × Value → H} {w : World} {base : Nat} {spare : Nat → Bool} {held : Bool}
theorem str_bulk {n : Nat} {u : Value} {y : DataW H × List MemPlace} (h : DataW.trod enc Tryz.prog w base spare held n 9 [u] = some y) : ∃ s : ByteArray, u = .string s ∧ Rows.uptoBulk y.1 = s.size + 1 := by
  obtain ⟨p, q0, r1, _⟩ := DataW.trod_string Tryz.underlying9 h
  cases q0
  exact ⟨p, rfl, by rw [r1]; simp only [Rows.uptoBulk, Array.length_toList]; rfl⟩
theorem int_bulk {n : Nat} {u : Value} {y : DataW H × List MemPlace} (h : DataW.trod enc Tryz.prog w base spare held n 3 [u] = some y) : ∃ s : Int, u = .int .i64 s := by
  obtain ⟨p, q0, _⟩ := DataW.trod_int Tryz.underlying3 h
  cases q0
  exact ⟨p, rfl⟩
set_option maxRecDepth 100000 in
theorem rcd_el (n : Nat) (cs : List Value) (D : DataW H) (ps : List MemPlace) (hl : cs.length = rcdK.n) (h : DataW.trod enc Tryz.prog w base spare held n 55 cs = some (D, ps)) :
    ∃ x : Rcd, cs = rcdK.cells x ∧ x.src.size + x.dst.size ≤ Rows.uptoBulk D := by
  obtain ⟨ys, n', _, hDi, _, hyl, hg⟩ := DataW.trod_struct Tryz.underlying55 h
  match cs, hl with
  | [v0, v1, v2, v3, v4, v5], _ =>
    have hy : ∀ j, j < 6 → ∃ y, ys[j]? = some y := fun j hj => ⟨ys[j]'(by rw [hyl]; exact hj), List.getElem?_eq_getElem _⟩
    obtain ⟨y0, e0⟩ := hy 0 (by omega)
    obtain ⟨y1, e1⟩ := hy 1 (by omega)
    obtain ⟨y2, e2⟩ := hy 2 (by omega)
    obtain ⟨y3, e3⟩ := hy 3 (by omega)
    obtain ⟨y4, e4⟩ := hy 4 (by omega)
    obtain ⟨y5, e5⟩ := hy 5 (by omega)
    obtain ⟨a, rfl, b0⟩ := str_bulk ((hg 0 _ rfl).trans e0)
    obtain ⟨b, rfl⟩ := int_bulk ((hg 1 _ rfl).trans e1)
    obtain ⟨c, rfl⟩ := int_bulk ((hg 2 _ rfl).trans e2)
    obtain ⟨d, rfl, b3⟩ := str_bulk ((hg 3 _ rfl).trans e3)
    obtain ⟨e, rfl⟩ := int_bulk ((hg 4 _ rfl).trans e4)
    obtain ⟨f, rfl⟩ := int_bulk ((hg 5 _ rfl).trans e5)
    refine ⟨⟨a, b, c, d, e, f⟩, rfl, ?_⟩
    rw [(Prod.mk.inj hDi).1]
    match ys, hyl, e0, e3 with
    | [z0, z1, z2, z3, z4, z5], _, e0, e3 =>
      injection e0 with e0
      injection e3 with e3
      subst e0 e3
      simp only [List.map_cons, List.map_nil, Rows.uptoBulk, Rows.uptoBulkAll]
      show a.size + d.size ≤ _
      omega
set_option maxRecDepth 100000 in
theorem edt_el (n : Nat) (cs : List Value) (D : DataW H) (ps : List MemPlace) (hl : cs.length = edtK.n) (h : DataW.trod enc Tryz.prog w base spare held n 44 cs = some (D, ps)) :
    ∃ x : Edt, cs = edtK.cells x ∧ x.path.size + x.src.size ≤ Rows.uptoBulk D := by
  obtain ⟨ys, n', _, hDi, _, hyl, hg⟩ := DataW.trod_struct Tryz.underlying44 h
  match cs, hl with
  | [v0, v1, v2, v3, v4, v5, v6, v7, v8, v9, v10, v11], _ =>
    have hy : ∀ j, j < 8 → ∃ y, ys[j]? = some y := fun j hj => ⟨ys[j]'(by rw [hyl]; exact hj), List.getElem?_eq_getElem _⟩
    obtain ⟨y0, e0⟩ := hy 0 (by omega)
    obtain ⟨y1, e1⟩ := hy 1 (by omega)
    obtain ⟨y2, e2⟩ := hy 2 (by omega)
    obtain ⟨y3, e3⟩ := hy 3 (by omega)
    obtain ⟨y4, e4⟩ := hy 4 (by omega)
    obtain ⟨y5, e5⟩ := hy 5 (by omega)
    obtain ⟨y6, e6⟩ := hy 6 (by omega)
    obtain ⟨y7, e7⟩ := hy 7 (by omega)
    obtain ⟨a, rfl, b0⟩ := str_bulk ((hg 0 _ rfl).trans e0)
    obtain ⟨b, rfl⟩ := int_bulk ((hg 1 _ rfl).trans e1)
    have ht : DataW.trod enc Tryz.prog w base spare held n' 25 [v2, v3, v4, v5] = some (y2.1, y2.2) := (hg 2 _ rfl).trans e2
    have hc : DataW.trod enc Tryz.prog w base spare held n' 28 [v6, v7] = some (y3.1, y3.2) := (hg 3 _ rfl).trans e3
    obtain ⟨i, rfl⟩ := int_bulk ((hg 4 _ rfl).trans e4)
    obtain ⟨j, rfl, b5⟩ := str_bulk ((hg 5 _ rfl).trans e5)
    obtain ⟨k, rfl⟩ := int_bulk ((hg 6 _ rfl).trans e6)
    obtain ⟨l, rfl⟩ := int_bulk ((hg 7 _ rfl).trans e7)
    obtain ⟨zs, n2, _, _, _, hzl, hz⟩ := DataW.trod_struct Tryz.underlying25 ht
    obtain ⟨us, n3, _, _, _, hul, hu⟩ := DataW.trod_struct Tryz.underlying28 hc
    have hzy : ∀ j, j < 4 → ∃ y, zs[j]? = some y := fun j hj => ⟨zs[j]'(by rw [hzl]; exact hj), List.getElem?_eq_getElem _⟩
    have huy : ∀ j, j < 2 → ∃ y, us[j]? = some y := fun j hj => ⟨us[j]'(by rw [hul]; exact hj), List.getElem?_eq_getElem _⟩
    obtain ⟨p0, g0⟩ := hzy 0 (by omega)
    obtain ⟨p1, g1⟩ := hzy 1 (by omega)
    obtain ⟨p2, g2⟩ := hzy 2 (by omega)
    obtain ⟨p3, g3⟩ := hzy 3 (by omega)
    obtain ⟨r0, k0⟩ := huy 0 (by omega)
    obtain ⟨r1, k1⟩ := huy 1 (by omega)
    obtain ⟨tb, rfl⟩ := int_bulk ((hz 0 _ rfl).trans g0)
    obtain ⟨tk, q1, _⟩ := DataW.trod_bool Tryz.underlying4 ((hz 1 _ rfl).trans g1)
    obtain ⟨te, q2, _⟩ := DataW.trod_bool Tryz.underlying4 ((hz 2 _ rfl).trans g2)
    obtain ⟨tx, q3, _⟩ := DataW.trod_bool Tryz.underlying4 ((hz 3 _ rfl).trans g3)
    obtain ⟨cu, q4, _⟩ := DataW.trod_int Tryz.underlying26 ((hu 0 _ rfl).trans k0)
    obtain ⟨cz, rfl⟩ := int_bulk ((hu 1 _ rfl).trans k1)
    cases q1; cases q2; cases q3; cases q4
    refine ⟨⟨a, b, ⟨tb, tk, te, tx⟩, ⟨cu, cz⟩, i, j, k, l⟩, rfl, ?_⟩
    rw [(Prod.mk.inj hDi).1]
    match ys, hyl, e0, e5 with
    | [z0, z1, z2, z3, z4, z5, z6, z7], _, e0, e5 =>
      injection e0 with e0
      injection e5 with e5
      subst e0 e5
      simp only [List.map_cons, List.map_nil, Rows.uptoBulk, Rows.uptoBulkAll]
      show a.size + j.size ≤ _
      omega
/-- What a change's cells say. -/
def QC (w : World) (cs : List Value) (c : Chg) (b : Nat) : Prop := ∃ (E : Option Addr) (ec : Nat) (R : Option Addr) (rc : Nat), cs = [.int .i64 c.num, .string c.client, .string c.text, .slice E c.edits.length ec, .slice R c.recs.length rc] ∧ edtK.In E c.edits w ∧ rcdK.In R c.recs w ∧
  ChN c ≤ b ∧ (∀ x ∈ c.edits, x.path.size + x.src.size ≤ b) ∧ ∀ x ∈ c.recs, x.src.size + x.dst.size ≤ b
set_option maxRecDepth 100000 in
theorem chg_el (n : Nat) (cs : List Value) (D : DataW H) (ps : List MemPlace) (hl : cs.length = 5) (h : DataW.trod enc Tryz.prog w base spare held n 52 cs = some (D, ps)) : ∃ c : Chg, QC w cs c (Rows.uptoBulk D) := by
  obtain ⟨ys, n', _, hDi, _, hyl, hg⟩ := DataW.trod_struct Tryz.underlying52 h
  match cs, hl with
  | [v0, v1, v2, v3, v4], _ =>
    have hy : ∀ j, j < 5 → ∃ y, ys[j]? = some y := fun j hj => ⟨ys[j]'(by rw [hyl]; exact hj), List.getElem?_eq_getElem _⟩
    obtain ⟨y0, e0⟩ := hy 0 (by omega)
    obtain ⟨y1, e1⟩ := hy 1 (by omega)
    obtain ⟨y2, e2⟩ := hy 2 (by omega)
    obtain ⟨y3, e3⟩ := hy 3 (by omega)
    obtain ⟨y4, e4⟩ := hy 4 (by omega)
    obtain ⟨a, rfl⟩ := int_bulk ((hg 0 _ rfl).trans e0)
    obtain ⟨b, rfl, _⟩ := str_bulk ((hg 1 _ rfl).trans e1)
    obtain ⟨c, rfl, _⟩ := str_bulk ((hg 2 _ rfl).trans e2)
    have h3 : DataW.trod enc Tryz.prog w base spare held n' 39 [v3] = some (y3.1, y3.2) := (hg 3 _ rfl).trans e3
    have h4 : DataW.trod enc Tryz.prog w base spare held n' 35 [v4] = some (y4.1, y4.2) := (hg 4 _ rfl).trans e4
    obtain ⟨E, ec, le, q3, hE, hle, hse⟩ := open_rows edtK Tryz.underlying39 Tryz.cellsEdt (fun x => x.path.size + x.src.size) edt_el h3
    obtain ⟨R, rc, lr, q4, hR, hlr, hsr⟩ := open_rows rcdK Tryz.underlying35 Tryz.cellsRcd (fun x => x.src.size + x.dst.size) rcd_el h4
    injection q3 with q3
    injection q4 with q4
    subst q3 q4
    have hb : Rows.uptoBulk y3.1 + Rows.uptoBulk y4.1 ≤ Rows.uptoBulk D := by
      rw [(Prod.mk.inj hDi).1]
      match ys, hyl, e3, e4 with
      | [z0, z1, z2, z3, z4], _, e3, e4 =>
        injection e3 with e3
        injection e4 with e4
        subst e3 e4
        simp only [List.map_cons, List.map_nil, Rows.uptoBulk, Rows.uptoBulkAll]
        omega
    refine ⟨⟨a, b, c, le, lr⟩, E, ec, R, rc, rfl, hE, hR, ?_, fun x hx => ?_, fun x hx => ?_⟩
    · show le.length + lr.length ≤ _
      omega
    · have := hse x hx
      omega
    · have := hsr x hx
      omega
set_option maxRecDepth 100000 in
theorem open_chgsU {r : Reach} {b0 : Nat} {v : Value} {d : DataW H} {ps : List MemPlace}
    (_hv : Value.okWide Tryz.prog w r b0 22 v) (h : DataW.Trod enc Tryz.prog w base spare held 22 v d ps) :
    ∃ (A : Option Addr) (c : Nat) (l : List Chg), v = .slice A l.length c ∧ ChsIn A l w ∧ (Rows.uptoBulk d ≤ 1048576 → ChBnd l) := by
  obtain ⟨A0, len0, c0, rfl⟩ := okWide_slice Tryz.underlying22 _hv
  obtain ⟨fuel, hf⟩ := h
  obtain ⟨A, c, l, Ds, h1, h2, h3, h4⟩ := open_list (α := Chg) Tryz.underlying22 Tryz.cellsChg (QC w) chg_el hf
  simp only [Value.cells, List.cons.injEq, Value.slice.injEq, and_true] at h1
  obtain ⟨rfl, rfl, rfl⟩ := h1
  have hq : ∀ (i : Nat) (x : Chg) (D : DataW H), l[i]? = some x → Ds[i]? = some D → ChN x ≤ Rows.uptoBulk D ∧ (∀ y ∈ x.edits, y.path.size + y.src.size ≤ Rows.uptoBulk D) ∧ ∀ y ∈ x.recs, y.src.size + y.dst.size ≤ Rows.uptoBulk D := by
    intro i x D hx hD
    have h0 : 0 < l.length := by have := (List.getElem?_eq_some_iff.1 hx).1; omega
    obtain ⟨a, _, ha⟩ := h4 h0
    obtain ⟨cs', D', hD', _, _, E, ec, R, rc, _, _, _, q1, q2, q3⟩ := ha i x hx
    rw [hD] at hD'
    injection hD' with hD'
    subst hD'
    exact ⟨q1, q2, q3⟩
  refine ⟨A0, c0, l, rfl, fun h0 => ?_, fun hb => ⟨?_, ?_, fun x hx y hy => ?_, fun x hx y hy => ?_⟩⟩
  · obtain ⟨a, rfl, ha⟩ := h4 h0
    have hx0 := List.getElem?_eq_getElem h0
    obtain ⟨cs', D', _, _, e2, E, ec, R, rc, e3, _⟩ := ha 0 _ hx0
    have c0 := e2 0 (by omega)
    rw [e3, Nat.zero_mul, Nat.zero_add] at c0
    have c0' : w.cell? a = some (.int .i64 l[0].num) := c0
    have hs := spot_none c0'
    have hlt := cell_lt c0'
    obtain ⟨ab, ao, asp⟩ := a
    dsimp only at hs hlt
    subst hs
    refine ⟨ab, ao, rfl, hlt, fun i x hx => ?_⟩
    obtain ⟨cs', D', _, _, e2, E, ec, R, rc, e3, hE, hR, _⟩ := ha i x hx
    subst e3
    have k0 := e2 0 (by omega)
    have k1 := e2 1 (by omega)
    have k2 := e2 2 (by omega)
    have k3 := e2 3 (by omega)
    have k4 := e2 4 (by omega)
    simp only [add_lit, ← Nat.add_assoc, Nat.add_zero] at k0 k1 k2 k3 k4
    exact ⟨E, ec, R, rc, ⟨k0, k1, k2, k3, k4⟩, hE, hR⟩
  · have := bulk_len Ds
    omega
  · have := bulk_sum ChN l Ds h2 (fun i x D hx hD => (hq i x D hx hD).1)
    omega
  · obtain ⟨i, hi⟩ := List.mem_iff_getElem?.1 hx
    have hil : i < Ds.length := by rw [← h2]; exact (List.getElem?_eq_some_iff.1 hi).1
    have hD := List.getElem?_eq_getElem hil
    have h5 := (hq i x _ hi hD).2.1 y hy
    have h6 := bulk_mem (List.getElem_mem hil)
    omega
  · obtain ⟨i, hi⟩ := List.mem_iff_getElem?.1 hx
    have hil : i < Ds.length := by rw [← h2]; exact (List.getElem?_eq_some_iff.1 hi).1
    have hD := List.getElem?_eq_getElem hil
    have h5 := (hq i x _ hi hD).2.2 y hy
    have h6 := bulk_mem (List.getElem_mem hil)
    omega
end
end Go.Proofs.YtocffknoeknabaaGreatDoor
