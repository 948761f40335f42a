/-
  The reference of have-lists: Find, Get, At, Put.
-/
import Derived.Test.YtjjdffafibonhaaGreatDoorHvR
import Derived.Test.YtjjdffafibonhaaGreatDoorMix
namespace Go.Proofs.YtjjdffafibonhaaGreatDoor
open Go.RowKit

/-- Texts that the reference may read. -/
def Sm (E : List Hv) : Prop := ∀ q ∈ E, q.path.size < 4294967281 ∧ q.loc.size < 4294967281
/-- A slice of entries. -/
structure Sl (g : Gh) (w : World) (A : Option Addr) (c : Nat) (E : List Hv) : Prop where
  rd : Rd 3 g w A E.length (celH E)
  le : E.length ≤ c
  mx : c ≤ maxLen
theorem Sl.ext {g g' : Gh} {w w' : World} {A : Option Addr} {c : Nat} {E : List Hv} {M : Nat → Prop} (h : Sl g w A c E) (hx : Ext M g w g' w') : Sl g' w' A c E := ⟨h.rd.ext hx, h.le, h.mx⟩
theorem Sl.nil (g : Gh) (w : World) : Sl g w none 0 [] := ⟨Rd.nil _ _ _ _, Nat.le_refl _, Nat.zero_le _⟩
theorem App.sl {g : Gh} {w : World} {A : Option Addr} {n c o : Nat} {E : List Hv} (h : App 32 3 o g w A n c (celH E)) : n = E.length ∧ Sl g w A c E := by
  have h1 := h.rd.len
  rw [celH_len] at h1
  have h2 : n = E.length := by omega
  subst h2
  exact ⟨rfl, h.rd, h.le, h.mx⟩
theorem celH_one (E : List Hv) : ∀ u ∈ celH E, u.oneCell' = true := fun u hu => by
  obtain ⟨q, _, hq⟩ := List.mem_flatMap.1 hu
  simp only [Hv.cells, List.mem_cons, List.not_mem_nil, or_false] at hq
  rcases hq with rfl | rfl | rfl <;> rfl
theorem Rd.nz {sz : Nat} {g : Gh} {w : World} {A : Option Addr} {n : Nat} {xs : List Value} (h : Rd sz g w A n xs) : A = none → n = 0 := fun e => by
  rcases Nat.eq_zero_or_pos n with h0 | h0
  · exact h0
  · obtain ⟨b, off, e2, _⟩ := h.at_ h0
    rw [e] at e2
    cases e2
theorem celH_take (E : List Hv) (k : Nat) : celH (E.take k) = (celH E).take (k * 3) := by
  induction E generalizing k with
  | nil => simp [celH]
  | cons a t ih =>
    cases k with
    | zero => simp [celH]
    | succ k =>
      have : celH (a :: t) = [.string a.path, .int .i64 a.num, .string a.loc] ++ celH t := rfl
      rw [List.take_succ_cons, this, show (k + 1) * 3 = k * 3 + 3 by omega]
      show [Value.string a.path, .int .i64 a.num, .string a.loc] ++ celH (t.take k) = _
      rw [ih]
      simp
theorem celH_drop (E : List Hv) (k : Nat) : celH (E.drop k) = (celH E).drop (k * 3) := by
  induction E generalizing k with
  | nil => simp [celH]
  | cons a t ih =>
    cases k with
    | zero => simp [celH]
    | succ k =>
      have : celH (a :: t) = [.string a.path, .int .i64 a.num, .string a.loc] ++ celH t := rfl
      rw [List.drop_succ_cons, this, show (k + 1) * 3 = k * 3 + 3 by omega, ih]
      simp
theorem Sl.takeS {g : Gh} {w : World} {A : Option Addr} {c : Nat} {E : List Hv} (h : Sl g w A c E) {k : Nat} (hk : k ≤ E.length) : Src Tryz.prog 3 29 (.slice A k c) k (celH (E.take k)) w := by
  have h1 := h.rd.cut (l := 0) (k := k) (m := c) (by omega) (by have := h.le; omega)
  rw [cutA_zero, Nat.zero_mul, List.drop_zero, ← celH_take] at h1
  exact h1.src Tryz.underlying29 c (celH_one _) h1.nz
theorem Sl.dropS {g : Gh} {w : World} {A : Option Addr} {c : Nat} {E : List Hv} (h : Sl g w A c E) {k : Nat} (hk : k ≤ E.length) : Src Tryz.prog 3 29 (.slice (cutA 3 A c k) (E.length - k) (c - k)) (E.length - k) (celH (E.drop k)) w := by
  have h1 := h.rd.cut (l := k) (k := E.length - k) (m := c) (by omega) (by have := h.le; omega)
  rw [← celH_drop, List.take_of_length_le (by rw [celH_len, List.length_drop]; omega)] at h1
  exact h1.src Tryz.underlying29 _ (celH_one _) h1.nz

/-- The first k entries are ahead of this path. -/
def Bef (E : List Hv) (k : Nat) (p : ByteArray) : Prop := ∀ q ∈ E.take k, q.path ≠ p ∧ ¬ 0 < ordH q.path p

set_option maxRecDepth 100000 in
set_option maxHeartbeats 1600000 in
theorem rfind_any (g : Gh) (w : World) (A : Option Addr) (c : Nat) (E : List Hv) (hr : Rd 3 g w A E.length (celH E)) (hs : Sm E) (p : ByteArray) (hp : p.size < 4294967281) (hg : G0 w) (hn : E.length ≤ 1000000) :
    Calls Tryz.prog 64 #[.slice A E.length c, .string p] w fun e w' => e = .returned (.tuple #[.int .i64 (fndI E p), .bool (fndB E p)]) ∧ Below w.heap.size w w' := by
  have HR := Lib.hid hr
  have HS := Lib.hid hs
  have HG := Lib.hid hg
  obtain ⟨fi, fb, hfi, hfb⟩ : ∃ fi fb, fndI E p = fi ∧ fndB E p = fb := ⟨_, _, rfl, rfl⟩
  rw [hfi, hfb]
  have HFI := Lib.hid (And.intro hfi hfb)
  clear hr hs hg hfi hfb
  go_enter Tryz.func64, Tryz.ntmps64
  go_wp2_with fail
  go_loopw [6] (fun i wr => ∃ k : Nat, i = .int .i64 k ∧ k ≤ E.length ∧ Below w.heap.size w wr ∧ Hid (Bef E k p)) (fun i _ => E.length - (intOf i).toNat)
  case atStart => exact ⟨0, rfl, Nat.zero_le _, Below.refl _ _, fun q hq => by cases hq⟩
  case round =>
    obtain ⟨k, rfl, hk, hb, ht⟩ := hrel
    by_cases hlt : k < E.length
    · have hlt' : (k : Int) < (E.length : Int) := by omega
      obtain ⟨a, off, rfl, _, hax, hc⟩ := (HR.out.ext (Ext.of_below (fun _ => False) g hb)).at_ (by omega)
      have hg1 := List.getElem?_eq_getElem hlt
      have hm := List.getElem_mem hlt
      generalize E[k] = q at *
      have c0 := hc _ _ (celH_get E k 0 q hg1 (by omega))
      simp only [Nat.add_zero] at c0
      have hz := HS.out q hm
      have HG1 := Lib.hid hg1
      have HB := Lib.hid hb
      have HT : Hid (Bef E k p) := ht
      obtain ⟨qp, qn, ql⟩ := q
      dsimp only at c0 hz
      by_cases he : qp = p
      · subst he
        have HF := Lib.hid (fnd_stop1 HG1.out HT.out rfl)
        clear hc hg1 hm ht hb
        go_wp2_with fail
        go_ret2
        refine ⟨?_, HB.out⟩
        rw [← HFI.out.1, ← HFI.out.2, HF.out.1, HF.out.2]
        rfl
      · have hne : (qp.toList == p.toList) = false := by
          rw [beq_eq_false_iff_ne]
          exact fun e => he (ba_data (by rw [← toList_eq, ← toList_eq]; exact e))
        have HO := Lib.hid (rorder_any qp p wr hz.1 hp (HG.out.below hb))
        have HNE := Lib.hid he
        obtain ⟨ov, hov⟩ : ∃ ov, ordH qp p = ov := ⟨_, rfl⟩
        rw [hov] at HO
        have HOV := Lib.hid hov
        have hov1 : -2 ≤ ov ∧ ov ≤ 2 := by
          rw [← hov]
          unfold ordH ordL
          have h1 := pcmp_vals qp.data.toList p.data.toList
          have h2 : Lib.compareBytes qp.data.toList p.data.toList = -1 ∨ Lib.compareBytes qp.data.toList p.data.toList = 0 ∨ Lib.compareBytes qp.data.toList p.data.toList = 1 := by
            generalize qp.data.toList = l1
            generalize p.data.toList = l2
            induction l1 generalizing l2 with
            | nil => cases l2 <;> simp [Lib.compareBytes]
            | cons x xs ih =>
              cases l2 with
              | nil => simp [Lib.compareBytes]
              | cons y ys =>
                unfold Lib.compareBytes
                split
                · simp
                · split
                  · simp
                  · exact ih ys
          split <;> omega
        clear hc hg1 hm ht hb he hov
        go_wp2_with fail
        refine HO.out.mono ?_
        rintro e w2 ⟨rfl, hb2⟩
        have HB2 := Lib.hid (HB.out.trans (hb2.mono HB.out.size))
        clear hb2 HO
        by_cases ho : 0 < ov
        · have HF := Lib.hid (fnd_stop2 HG1.out HT.out HNE.out (by rw [HOV.out]; exact ho))
          go_wp2_with fail
          go_ret2
          refine ⟨?_, HB2.out⟩
          rw [← HFI.out.1, ← HFI.out.2, HF.out.1, HF.out.2]
          rfl
        · have HN : Hid (Bef E (k + 1) p) := fun r hr => by
            rw [List.take_add_one, HG1.out] at hr
            rcases List.mem_append.1 hr with hr | hr
            · exact HT.out r hr
            · rw [Option.toList_some, List.mem_singleton] at hr
              subst hr
              exact ⟨HNE.out, by rw [HOV.out]; exact ho⟩
          go_wp2_with fail
          go_round
          case rel => exact ⟨k + 1, by go_num, by omega, HB2.out, HN.out⟩
          case measure => simp [intOf]; omega
    · obtain rfl : k = E.length := by omega
      have h1 : ∀ q ∈ E.take E.length, q.path ≠ p ∧ ¬ 0 < ordH q.path p := ht.out
      rw [List.take_length] at h1
      have HF := Lib.hid (fnd_end h1)
      clear h1 ht
      go_wp2_with fail
      go_ret2
      refine ⟨?_, hb⟩
      rw [← HFI.out.1, ← HFI.out.2, HF.out.1, HF.out.2]
      rfl


/-- The first k entries do not have this path. -/
def Not1 (E : List Hv) (k : Nat) (p : ByteArray) : Prop := ∀ q ∈ E.take k, q.path ≠ p
def Not2 (E : List Hv) (k : Nat) (p : ByteArray) : Prop := ∀ q ∈ E.take k, q.loc ≠ p
theorem Not1.next {E : List Hv} {k : Nat} {p : ByteArray} {h : Hv} (hn : Not1 E k p) (hg : E[k]? = some h) (e : h.path ≠ p) : Not1 E (k + 1) p := fun r hr => by
  rw [List.take_add_one, hg] at hr
  rcases List.mem_append.1 hr with hr | hr
  · exact hn r hr
  · rw [Option.toList_some, List.mem_singleton] at hr
    subst hr
    exact e
theorem Not2.next {E : List Hv} {k : Nat} {p : ByteArray} {h : Hv} (hn : Not2 E k p) (hg : E[k]? = some h) (e : h.loc ≠ p) : Not2 E (k + 1) p := fun r hr => by
  rw [List.take_add_one, hg] at hr
  rcases List.mem_append.1 hr with hr | hr
  · exact hn r hr
  · rw [Option.toList_some, List.mem_singleton] at hr
    subst hr
    exact e
theorem blk_set3 {b : Nat} {T : TypeId} {u v y : Value} {x : World} (h : Blk b T [u, v, y] x) (u' v' y' : Value) : Blk b T [u', v', y'] (((x.setCell ⟨b, 0, none⟩ u').setCell ⟨b, 1, none⟩ v').setCell ⟨b, 2, none⟩ y') := by
  have := ((h.set 0 u').set 1 v').set 2 y'
  simpa using this
theorem below_set3 {B b : Nat} {w x : World} (h : Below B w x) (hb : B ≤ b) (u v y : Value) : Below B w (((x.setCell ⟨b, 0, none⟩ u).setCell ⟨b, 1, none⟩ v).setCell ⟨b, 2, none⟩ y) :=
  ((h.setCell (p := ⟨b, 0, none⟩) hb _).setCell (p := ⟨b, 1, none⟩) hb _).setCell (p := ⟨b, 2, none⟩) hb _

set_option maxRecDepth 100000 in
set_option maxHeartbeats 1600000 in
theorem rget_any (g : Gh) (w : World) (A : Option Addr) (c : Nat) (E : List Hv) (hr : Rd 3 g w A E.length (celH E)) (p : ByteArray) (hn : E.length ≤ 1000000) :
    Calls Tryz.prog 29 #[.slice A E.length c, .string p] w fun e w' => e = .returned (.tuple #[valO (getH E p), .bool (getH E p).isSome]) ∧ Below w.heap.size w w' := by
  have HR := Lib.hid hr
  have HBX : Hid (Blk w.heap.size 32 [.string ⟨#[]⟩, .int .i64 0, .string ⟨#[]⟩] (w.alloc (.cells #[.string ⟨#[]⟩, .int .i64 0, .string ⟨#[]⟩] 32))) := Blk.new w 32 [.string ⟨#[]⟩, .int .i64 0, .string ⟨#[]⟩]
  have HB0 : Hid (Below w.heap.size w (w.alloc (.cells #[.string ⟨#[]⟩, .int .i64 0, .string ⟨#[]⟩] 32))) := (Below.refl _ _).alloc (Nat.le_refl _) _
  obtain ⟨o, ho⟩ : ∃ o, getH E p = o := ⟨_, rfl⟩
  rw [ho]
  have HO := Lib.hid ho
  clear hr ho
  go_enter Tryz.func29, Tryz.ntmps29
  go_wp2_with fail
  generalize w.alloc (.cells #[.string ⟨#[]⟩, .int .i64 0, .string ⟨#[]⟩] 32) = w1 at *
  go_loopw [6] (fun i wr => ∃ k : Nat, i = .int .i64 k ∧ k ≤ E.length ∧ Below w.heap.size w wr ∧ Blk w.heap.size 32 [.string ⟨#[]⟩, .int .i64 0, .string ⟨#[]⟩] wr ∧ Hid (Not1 E k p)) (fun i _ => E.length - (intOf i).toNat)
  case atStart => exact ⟨0, rfl, Nat.zero_le _, HB0.out, HBX.out, fun q hq => by cases hq⟩
  case round =>
    obtain ⟨k, rfl, hk, hb, hbx, ht⟩ := hrel
    have HBX2 := Lib.hid hbx
    have b0 : wr.cell? ⟨w.heap.size, 0, none⟩ = some (.string ⟨#[]⟩) := hbx.cell 0
    have b1 : wr.cell? ⟨w.heap.size, 1, none⟩ = some (.int .i64 0) := hbx.cell 1
    have b2 : wr.cell? ⟨w.heap.size, 2, none⟩ = some (.string ⟨#[]⟩) := hbx.cell 2
    have z := hbx.fz
    have HB := Lib.hid hb
    clear HBX HB0 hbx
    by_cases hlt : k < E.length
    · have hlt' : (k : Int) < (E.length : Int) := by omega
      obtain ⟨a, off, rfl, _, hax, hc⟩ := (HR.out.ext (Ext.of_below (fun _ => False) g hb)).at_ (by omega)
      have hg1 := List.getElem?_eq_getElem hlt
      generalize E[k] = q at *
      have c0 := hc _ _ (celH_get E k 0 q hg1 (by omega))
      have c1 := hc _ _ (celH_get E k 1 q hg1 (by omega))
      have c2 := hc _ _ (celH_get E k 2 q hg1 (by omega))
      simp only [Nat.add_zero, ← Nat.add_assoc] at c0 c1 c2
      have HG1 := Lib.hid hg1
      obtain ⟨qp, qn, ql⟩ := q
      dsimp only at c0 c1 c2
      by_cases he : qp = p
      · have HF := Lib.hid (get_take HG1.out ht.out he)
        have hoe : o = some ⟨qp, qn, ql⟩ := HO.out.symm.trans HF.out
        subst hoe
        have hq := blk_set3 HBX2.out (.string qp) (.int .i64 qn) (.string ql)
        have q0 := hq.cell 0
        have q1 := hq.cell 1
        have q2 := hq.cell 2
        dsimp only [List.getElem?_cons_zero, List.getElem?_cons_succ] at q0 q1 q2
        have HQ := Lib.hid (And.intro q0 (And.intro q1 q2))
        clear hc hg1 ht hb hq q0 q1 q2 HO HF
        subst he
        go_wp2_with fail
        obtain ⟨q0, q1, q2⟩ := HQ.out
        refine bodyPost_ret (v := .tuple #[.agg #[.string _, .int .i64 qn, .string _], .bool true]) (by simp only [results, Tryz.results29]; simp [go_sem, q0, q1, q2]) rfl ⟨rfl, ?_⟩
        exact below_set3 HB.out (Nat.le_refl _) _ _ _
      · have hne : (qp.toList == p.toList) = false := by
          rw [beq_eq_false_iff_ne]
          exact fun e => he (ba_data (by rw [← toList_eq, ← toList_eq]; exact e))
        have HN := Lib.hid (Not1.next ht.out HG1.out he)
        clear hc hg1 ht hb he
        go_wp2_with fail
        go_round
        case rel => exact ⟨k + 1, by go_num, by omega, HB.out, HBX2.out, HN.out⟩
        case measure => simp [intOf]; omega
    · obtain rfl : k = E.length := by omega
      have hnone : getH E p = none := getH_none.2 (fun q hq => ht.out q (by rw [List.take_length]; exact hq))
      have hoe : o = none := HO.out.symm.trans hnone
      subst hoe
      have hq := blk_set3 HBX2.out (.string ⟨#[]⟩) (.int .i64 0) (.string ⟨#[]⟩)
      have q0 := hq.cell 0
      have q1 := hq.cell 1
      have q2 := hq.cell 2
      dsimp only [List.getElem?_cons_zero, List.getElem?_cons_succ] at q0 q1 q2
      have HQ := Lib.hid (And.intro q0 (And.intro q1 q2))
      clear ht hb hq q0 q1 q2 hnone HO
      go_wp2_with fail
      obtain ⟨q0, q1, q2⟩ := HQ.out
      refine bodyPost_ret (v := .tuple #[.agg #[.string ⟨#[]⟩, .int .i64 0, .string ⟨#[]⟩], .bool false]) (by simp only [results, Tryz.results29]; simp [go_sem, q0, q1, q2]) rfl ⟨rfl, ?_⟩
      exact below_set3 HB.out (Nat.le_refl _) _ _ _
set_option maxRecDepth 100000 in
set_option maxHeartbeats 1600000 in
theorem rat_any (g : Gh) (w : World) (A : Option Addr) (c : Nat) (E : List Hv) (hr : Rd 3 g w A E.length (celH E)) (p : ByteArray) (hn : E.length ≤ 1000000) :
    Calls Tryz.prog 31 #[.slice A E.length c, .string p] w fun e w' => e = .returned (.tuple #[valO (atH E p), .bool (atH E p).isSome]) ∧ Below w.heap.size w w' := by
  have HR := Lib.hid hr
  have HBX : Hid (Blk w.heap.size 32 [.string ⟨#[]⟩, .int .i64 0, .string ⟨#[]⟩] (w.alloc (.cells #[.string ⟨#[]⟩, .int .i64 0, .string ⟨#[]⟩] 32))) := Blk.new w 32 [.string ⟨#[]⟩, .int .i64 0, .string ⟨#[]⟩]
  have HB0 : Hid (Below w.heap.size w (w.alloc (.cells #[.string ⟨#[]⟩, .int .i64 0, .string ⟨#[]⟩] 32))) := (Below.refl _ _).alloc (Nat.le_refl _) _
  obtain ⟨o, ho⟩ : ∃ o, atH E p = o := ⟨_, rfl⟩
  rw [ho]
  have HO := Lib.hid ho
  clear hr ho
  go_enter Tryz.func31, Tryz.ntmps31
  go_wp2_with fail
  generalize w.alloc (.cells #[.string ⟨#[]⟩, .int .i64 0, .string ⟨#[]⟩] 32) = w1 at *
  go_loopw [6] (fun i wr => ∃ k : Nat, i = .int .i64 k ∧ k ≤ E.length ∧ Below w.heap.size w wr ∧ Blk w.heap.size 32 [.string ⟨#[]⟩, .int .i64 0, .string ⟨#[]⟩] wr ∧ Hid (Not2 E k p)) (fun i _ => E.length - (intOf i).toNat)
  case atStart => exact ⟨0, rfl, Nat.zero_le _, HB0.out, HBX.out, fun q hq => by cases hq⟩
  case round =>
    obtain ⟨k, rfl, hk, hb, hbx, ht⟩ := hrel
    have HBX2 := Lib.hid hbx
    have b0 : wr.cell? ⟨w.heap.size, 0, none⟩ = some (.string ⟨#[]⟩) := hbx.cell 0
    have b1 : wr.cell? ⟨w.heap.size, 1, none⟩ = some (.int .i64 0) := hbx.cell 1
    have b2 : wr.cell? ⟨w.heap.size, 2, none⟩ = some (.string ⟨#[]⟩) := hbx.cell 2
    have z := hbx.fz
    have HB := Lib.hid hb
    clear HBX HB0 hbx
    by_cases hlt : k < E.length
    · have hlt' : (k : Int) < (E.length : Int) := by omega
      obtain ⟨a, off, rfl, _, hax, hc⟩ := (HR.out.ext (Ext.of_below (fun _ => False) g hb)).at_ (by omega)
      have hg1 := List.getElem?_eq_getElem hlt
      generalize E[k] = q at *
      have c0 := hc _ _ (celH_get E k 0 q hg1 (by omega))
      have c1 := hc _ _ (celH_get E k 1 q hg1 (by omega))
      have c2 := hc _ _ (celH_get E k 2 q hg1 (by omega))
      simp only [Nat.add_zero, ← Nat.add_assoc] at c0 c1 c2
      have HG1 := Lib.hid hg1
      obtain ⟨qp, qn, ql⟩ := q
      dsimp only at c0 c1 c2
      by_cases he : ql = p
      · have HF := Lib.hid (at_take HG1.out ht.out he)
        have hoe : o = some ⟨qp, qn, ql⟩ := HO.out.symm.trans HF.out
        subst hoe
        have hq := blk_set3 HBX2.out (.string qp) (.int .i64 qn) (.string ql)
        have q0 := hq.cell 0
        have q1 := hq.cell 1
        have q2 := hq.cell 2
        dsimp only [List.getElem?_cons_zero, List.getElem?_cons_succ] at q0 q1 q2
        have HQ := Lib.hid (And.intro q0 (And.intro q1 q2))
        clear hc hg1 ht hb hq q0 q1 q2 HO HF
        subst he
        go_wp2_with fail
        obtain ⟨q0, q1, q2⟩ := HQ.out
        refine bodyPost_ret (v := .tuple #[.agg #[.string _, .int .i64 qn, .string _], .bool true]) (by simp only [results, Tryz.results31]; simp [go_sem, q0, q1, q2]) rfl ⟨rfl, ?_⟩
        exact below_set3 HB.out (Nat.le_refl _) _ _ _
      · have hne : (ql.toList == p.toList) = false := by
          rw [beq_eq_false_iff_ne]
          exact fun e => he (ba_data (by rw [← toList_eq, ← toList_eq]; exact e))
        have HN := Lib.hid (Not2.next ht.out HG1.out he)
        clear hc hg1 ht hb he
        go_wp2_with fail
        go_round
        case rel => exact ⟨k + 1, by go_num, by omega, HB.out, HBX2.out, HN.out⟩
        case measure => simp [intOf]; omega
    · obtain rfl : k = E.length := by omega
      have hnone : atH E p = none := atH_none.2 (fun q hq => ht.out q (by rw [List.take_length]; exact hq))
      have hoe : o = none := HO.out.symm.trans hnone
      subst hoe
      have hq := blk_set3 HBX2.out (.string ⟨#[]⟩) (.int .i64 0) (.string ⟨#[]⟩)
      have q0 := hq.cell 0
      have q1 := hq.cell 1
      have q2 := hq.cell 2
      dsimp only [List.getElem?_cons_zero, List.getElem?_cons_succ] at q0 q1 q2
      have HQ := Lib.hid (And.intro q0 (And.intro q1 q2))
      clear ht hb hq q0 q1 q2 hnone HO
      go_wp2_with fail
      obtain ⟨q0, q1, q2⟩ := HQ.out
      refine bodyPost_ret (v := .tuple #[.agg #[.string ⟨#[]⟩, .int .i64 0, .string ⟨#[]⟩], .bool false]) (by simp only [results, Tryz.results31]; simp [go_sem, q0, q1, q2]) rfl ⟨rfl, ?_⟩
      exact below_set3 HB.out (Nat.le_refl _) _ _ _

end Go.Proofs.YtjjdffafibonhaaGreatDoor
