/-
  Lists of leases in memory, and in order.
-/
import Derived.Test.YtcfmkmhibghaoaaDoorRfP
import Derived.Test.YtcfmkmhibghaoaaDoorSwp
import Derived.OwnWalk
namespace Go.Proofs.YtcfmkmhibghaoaaDoor
open Go.RowKit
open Go.Sort (HoldsK swp)

def Lease.cells (l : Lease) : List Value := [.string l.path, .string l.holder, .int .i64 l.fence, .int .i64 l.since, .int .i64 l.til]
theorem lease_val (l : Lease) : l.val = .agg l.cells.toArray := rfl
def celL (L : List Lease) : List Value := L.flatMap Lease.cells
theorem celL_len : ∀ L : List Lease, (celL L).length = L.length * 5
  | [] => rfl
  | x :: r => by
    show (x.cells ++ celL r).length = _
    rw [List.length_append, celL_len r, List.length_cons]
    show 5 + _ = _
    omega
theorem celL_append (V W : List Lease) : celL (V ++ W) = celL V ++ celL W := by simp [celL]
theorem celL_get : ∀ (L : List Lease) (i j : Nat) (x : Lease), L[i]? = some x → j < 5 → (celL L)[i * 5 + j]? = x.cells[j]?
  | [], _, _, _, h, _ => by cases h
  | y :: r, 0, j, x, h, hj => by
    have hz : y = x := by simpa using h
    subst hz
    show (y.cells ++ celL r)[0 * 5 + j]? = _
    rw [Nat.zero_mul, Nat.zero_add, List.getElem?_append_left (by show j < 5; exact hj)]
  | y :: r, i + 1, j, x, h, hj => by
    show (y.cells ++ celL r)[(i + 1) * 5 + j]? = _
    rw [List.getElem?_append_right (by show 5 ≤ _; omega)]
    show (celL r)[(i + 1) * 5 + j - 5]? = _
    rw [show (i + 1) * 5 + j - 5 = i * 5 + j by omega]
    exact celL_get r i j x (by simpa using h) hj

/-- The leases of a list lie at block b from cell off on, five cells each. -/
def LsAt (b off : Nat) (l : List Lease) (w : World) : Prop := ∀ (i : Nat) (x : Lease), l[i]? = some x →
  w.cell? ⟨b, off + i * 5, none⟩ = some (.string x.path) ∧ w.cell? ⟨b, off + i * 5 + 1, none⟩ = some (.string x.holder) ∧ w.cell? ⟨b, off + i * 5 + 2, none⟩ = some (.int .i64 x.fence) ∧ w.cell? ⟨b, off + i * 5 + 3, none⟩ = some (.int .i64 x.since) ∧ w.cell? ⟨b, off + i * 5 + 4, none⟩ = some (.int .i64 x.til)
theorem LsAt.below {b off B : Nat} {l : List Lease} {w w' : World} (h : LsAt b off l w) (hb : Below B w w') (hB : b < B) : LsAt b off l w' := fun i o ho => by
  obtain ⟨h0, h1, h2, h3, h4⟩ := h i o ho
  exact ⟨(hb.cell (p := ⟨b, _, none⟩) hB).trans h0, (hb.cell (p := ⟨b, _, none⟩) hB).trans h1, (hb.cell (p := ⟨b, _, none⟩) hB).trans h2, (hb.cell (p := ⟨b, _, none⟩) hB).trans h3, (hb.cell (p := ⟨b, _, none⟩) hB).trans h4⟩
theorem LsAt.of_block {b off : Nat} {l : List Lease} {w w' : World} (h : LsAt b off l w) (hb : w'.heap[b]? = w.heap[b]?) : LsAt b off l w' := fun i o ho => by
  have hc : ∀ o, w'.cell? ⟨b, o, none⟩ = w.cell? ⟨b, o, none⟩ := fun o => by simp [World.cell?, hb]
  rw [hc, hc, hc, hc, hc]
  exact h i o ho
/-- A slice of leases that reads as a list, nil let in. -/
def LsIn (A : Option Addr) (l : List Lease) (w : World) : Prop := 0 < l.length → ∃ b off, A = some ⟨b, off, none⟩ ∧ b < w.heap.size ∧ LsAt b off l w
theorem LsIn.below {A : Option Addr} {l : List Lease} {w w' : World} (h : LsIn A l w) (hb : Below w.heap.size w w') : LsIn A l w' := fun hl => by
  obtain ⟨b, off, e, h1, h2⟩ := h hl
  exact ⟨b, off, e, Nat.lt_of_lt_of_le h1 hb.size, h2.below hb h1⟩

instance : Inhabited Lease := ⟨zeroL⟩
def cfL (x y : Lease) : Int := ordH x.path y.path
theorem ltL (x y : Lease) : ltOf cfL x y = decide (ordH x.path y.path < 0) := rfl
theorem swoL : Sort.SWO (ltOf cfL) := by
  refine ⟨fun x => ?_, fun x y z h1 h2 => ?_, fun x y z h1 h2 => ?_⟩
  · rw [ltL, ordH_self]; rfl
  · rw [ltL, decide_eq_true_eq] at *
    exact ordH_trans h1 h2
  · rw [ltL, decide_eq_false_iff_not] at *
    intro h
    have s1 := ordH_swap x.path y.path
    by_cases e1 : ordH x.path y.path = 0
    · rw [ordH_zero e1] at h; exact h2 h
    · have h3 : ordH y.path x.path < 0 := by omega
      exact h2 (ordH_trans h3 h)
def SrtL (E : List Lease) : Prop := E.Pairwise fun a b => ordH a.path b.path < 0
theorem SrtL.ext {E F : List Lease} (h1 : SrtL E) (h2 : SrtL F) (h : E.Perm F) : E = F :=
  List.Perm.eq_of_pairwise (le := fun a b : Lease => ordH a.path b.path < 0) (fun a b _ _ h3 h4 => by have := ordH_swap a.path b.path; omega) h1 h2 h
theorem lease_len (x : Lease) : x.cells.length = 5 := rfl
theorem flatL_get (d : Array Lease) (j : Nat) (hj : j < d.size * 5) : (celL d.toList)[j]? = some (Sort.flatK Lease.cells 5 d)[j]! := by
  have hq : j / 5 < d.size := by omega
  have e : j = j / 5 * 5 + j % 5 := by omega
  rw [Sort.get_flatK _ _ _ _ hj]
  have h1 : d.toList[j / 5]? = some d[j / 5] := by simp [hq]
  have h2 := celL_get d.toList (j / 5) (j % 5) _ h1 (by omega)
  rw [← e] at h2
  rw [h2, getElem!_pos d (j / 5) hq]
  have h3 : j % 5 < (d[j / 5].cells).length := by rw [lease_len]; omega
  rw [getElem!_pos (d[j / 5].cells) (j % 5) h3]
  exact List.getElem?_eq_getElem _
theorem holdsL {w : World} {base g cap n : Nat} {V : List Lease} (hn : V.length = n) (ho : w.ownsRow base 26 5 (.slice (some ⟨g, 0, none⟩) n cap) n (celL V)) : HoldsK Lease.cells 5 w g 0 V.toArray ∧ g < w.heap.size ∧ base ≤ g := by
  obtain ⟨_, h2⟩ := ho
  rcases h2 with ⟨h3, _⟩ | ⟨g, cap, cur, h3, hbs, hb, _, _, hs, ht⟩
  · cases h3
  injection h3 with e1 e2 e3
  injection e1 with e1
  injection e1 with e1
  subst e1
  refine ⟨fun j hj => ?_, block_lt hb, hbs⟩
  rw [Sort.size_flatK] at hj
  have hsz : V.toArray.size = n := by simp [hn]
  rw [hsz] at hj
  constructor
  · rw [Nat.zero_add, cell_at hb]
    have h5 := flatL_get V.toArray j (by rw [hsz]; exact hj)
    rw [← ht, List.getElem?_take, if_pos hj, Array.getElem?_toList] at h5
    exact h5
  · simp [World.frozen?, hb]
theorem lsAt_holds {w : World} {g off : Nat} {d : Array Lease} (h : HoldsK Lease.cells 5 w g off d) : LsAt g off d.toList w := fun i x hx => by
  have hi : i < d.size := by have := (List.getElem?_eq_some_iff.1 hx).1; simpa using this
  have hd : d[i]! = x := by
    rw [getElem!_pos d i hi]
    simpa [hi] using hx
  have hc : ∀ c, c < 5 → w.cell? ⟨g, off + i * 5 + c, none⟩ = some x.cells[c]! := fun c hc => by
    have := (HoldsK.cell h hi hc).1
    rw [hd] at this
    exact this
  exact ⟨hc 0 (by omega), hc 1 (by omega), hc 2 (by omega), hc 3 (by omega), hc 4 (by omega)⟩
theorem sortL_is {V : List Lease} (hV : (V.map (·.path)).Nodup) : ∃ S : List Lease, (Sort.insertionSort (ltOf cfL) V.toArray 0 V.length) = S.toArray ∧ S.Perm V ∧ SrtL S := by
  obtain ⟨h1, h2⟩ := Sort.insertionSort_holds (lt := ltOf cfL) swoL V.toArray 0 V.length (Nat.zero_le _) (by simp)
  generalize Sort.insertionSort (ltOf cfL) V.toArray 0 V.length = d' at *
  obtain ⟨hs, _, hp⟩ := h1
  have hs' : d'.size = V.length := by simpa using hs
  have e1 : V.toArray.extract 0 V.length = V.toArray := by simp
  have e2 : d'.extract 0 V.length = d' := by rw [← hs']; simp
  rw [e1, e2] at hp
  have hp2 : d'.toList.Perm V := hp
  have hon : d'.toList.Pairwise (fun a b => a.path ≠ b.path) := by
    refine (hp2.pairwise_iff (fun h => h.symm)).2 ?_
    exact List.pairwise_map.1 hV
  refine ⟨d'.toList, by simp, hp2, ?_⟩
  unfold SrtL
  rw [List.pairwise_iff_getElem]
  intro i j hi hj hij
  simp only [Array.length_toList] at hi hj
  have h3 := h2 i j (Nat.zero_le _) hij (by omega)
  rw [getElem!_pos d' i hi, getElem!_pos d' j hj, ltL, decide_eq_false_iff_not] at h3
  have hne := List.pairwise_iff_getElem.1 hon i j (by simpa using hi) (by simpa using hj) hij
  simp only [Array.getElem_toList] at hne ⊢
  have h4 := ordH_swap d'[i].path d'[j].path
  have h5 : ordH d'[i].path d'[j].path ≠ 0 := fun e => hne (ordH_zero e)
  omega

theorem celL_one (V : List Lease) (x : Lease) : celL V ++ x.cells = celL V ++ celL [x] := by simp [celL]
theorem lit_leases (w : World) (x : Lease) : (∀ j u, x.cells[j]? = some u → (w.alloc (.cells x.cells.toArray 26)).cell? ((⟨w.heap.size, 0, none⟩ : Addr).add j) = some u) ∧ ∀ u ∈ x.cells, u.oneCell' = true :=
  ⟨fun j u hu => by
    have hh : (w.alloc (.cells x.cells.toArray 26)).heap[w.heap.size]? = some (.cells x.cells.toArray 26 (0, 0)) := heap_alloc_new w _
    rw [add_lit, Nat.zero_add, cell_at hh]
    simpa using hu, fun u hu => by simp [Lease.cells] at hu; rcases hu with rfl | rfl | rfl | rfl | rfl <;> rfl⟩
theorem Tryd.infoLease : (Tryd.prog.info? 26).map (fun i => (i.zero, i.size, i.bytes)) = some (some (.agg #[.string ⟨#[]⟩, .string ⟨#[]⟩, .int .i64 0, .int .i64 0, .int .i64 0]), 5, 56) := by kernel_rfl
/-- What All leaves: a new slice of leases in order. -/
def AllP (V : List Lease) (w : World) (e : Ending) (w' : World) : Prop := ∃ (S : List Lease) (A : Option Addr) (cap : Nat), e = .returned (.slice A S.length cap) ∧ S.Perm V ∧ SrtL S ∧ LsIn A S w' ∧ Below w.heap.size w w'


end Go.Proofs.YtcfmkmhibghaoaaDoor
