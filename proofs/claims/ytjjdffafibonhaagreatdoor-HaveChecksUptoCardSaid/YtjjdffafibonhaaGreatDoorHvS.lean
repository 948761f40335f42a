/-
  The entries of a have-list as a slice in order: what have.sorted returns.
-/
import Derived.Test.YtjjdffafibonhaaGreatDoorRng
import Derived.Test.YtjjdffafibonhaaGreatDoorCmp
import Derived.Test.YtjjdffafibonhaaGreatDoorHvP
import Derived.Test.YtjjdffafibonhaaGreatDoorSortF
import Derived.OwnWalk
namespace Go.Proofs.YtjjdffafibonhaaGreatDoor
open Go.RowKit Go.Shelf

def celH (V : List Hv) : List Value := V.flatMap Hv.cells
theorem celH_len : ∀ V : List Hv, (celH V).length = V.length * 3
  | [] => rfl
  | h :: V => by
    have := celH_len V
    simp only [celH, List.flatMap_cons, List.length_append, List.length_cons] at this ⊢
    rw [this]
    simp [Hv.cells]
    omega
theorem celH_append (V W : List Hv) : celH (V ++ W) = celH V ++ celH W := by simp [celH]
theorem celH_get : ∀ (V : List Hv) (q r : Nat) (h : Hv), V[q]? = some h → r < 3 → (celH V)[q * 3 + r]? = h.cells[r]?
  | [], q, r, h, e, _ => by simp at e
  | a :: V, 0, r, h, e, hr => by
    simp only [List.getElem?_cons_zero, Option.some.injEq] at e
    subst e
    show (a.cells ++ celH V)[0 * 3 + r]? = _
    rw [Nat.zero_mul, Nat.zero_add, List.getElem?_append_left (by simp [Hv.cells]; omega)]
  | a :: V, q + 1, r, h, e, hr => by
    have := celH_get V q r h (by simpa using e) hr
    show (a.cells ++ celH V)[(q + 1) * 3 + r]? = _
    rw [List.getElem?_append_right (by simp [Hv.cells]; omega), ← this]
    congr 1
    simp [Hv.cells]
    omega
def encM (L : List Hv) : List (ByteArray × Value) := L.map fun h => (h.path, h.val)
/-- The map has these entries, in whatever order. -/
def HvMap (m : Nat) (E : List Hv) (w : World) : Prop := ∃ L : List Hv, MapIs m (encM L) w ∧ L.Perm E
theorem HvMap.lt {m : Nat} {E : List Hv} {w : World} (h : HvMap m E w) : m < w.heap.size := by obtain ⟨L, h1, _⟩ := h; exact h1.lt
theorem HvMap.of {m : Nat} {E : List Hv} {w w' : World} (h : HvMap m E w) (hb : w'.heap[m]? = w.heap[m]?) : HvMap m E w' := by obtain ⟨L, h1, h2⟩ := h; exact ⟨L, h1.of_block hb, h2⟩

abbrev HvA := { h : Hv // okH h = true }
instance : Inhabited HvA := ⟨⟨⟨⟨#[47, 47, 97, 47, 97]⟩, 1, ⟨#[47, 47, 97, 47, 97]⟩⟩, by decide +kernel⟩⟩
def encA (x : HvA) : List Value := x.1.cells
def cfA (x y : HvA) : Int := pcmp x.1.path.data.toList y.1.path.data.toList
theorem ltA (x y : HvA) : ltOf cfA x y = decide (pcmp x.1.path.data.toList y.1.path.data.toList < 0) := rfl
theorem swoA : Sort.SWO (ltOf cfA) := by
  refine ⟨fun x => ?_, fun x y z h1 h2 => ?_, fun x y z h1 h2 => ?_⟩
  · rw [ltA, pcmp_self]; rfl
  · rw [ltA, decide_eq_true_eq] at *
    exact pcmp_trans h1 h2
  · rw [ltA, decide_eq_false_iff_not] at *
    intro h
    have s1 := pcmp_swap x.1.path.data.toList y.1.path.data.toList
    have s2 := pcmp_swap y.1.path.data.toList z.1.path.data.toList
    by_cases e1 : pcmp x.1.path.data.toList y.1.path.data.toList = 0
    · rw [pcmp_zero e1] at h; exact h2 h
    · have h3 : pcmp y.1.path.data.toList x.1.path.data.toList < 0 := by omega
      exact h2 (pcmp_trans h3 h)

set_option maxHeartbeats 800000 in
theorem hcompare_any (x y : Hv) (hx : okH x = true) (hy : okH y = true) (W : World) : Calls Tryz.prog 42 #[x.val, y.val] W fun e w' => e = .returned (.int .i64 (pcmp x.path.data.toList y.path.data.toList)) ∧ ∃ q os', w' = Sort.grow (W.drewN q) os' := by
  obtain ⟨xp, xn, xl⟩ := x
  obtain ⟨yp, yn, yl⟩ := y
  have h1 := okH_size hx
  have h2 := okH_size hy
  have v1 := okH_path hx
  have v2 := okH_path hy
  dsimp only at h1 h2 v1 v2
  have HC := Lib.hid (fun w => pathcmp_any xp yp w v1 v2 (by omega) (by omega))
  clear hx hy v1 v2
  unfold Hv.val
  dsimp only
  go_enter Tryz.func42, Tryz.ntmps42
  go_wp2_with fail
  refine (HC.out _).mono ?_
  rintro e w' ⟨rfl, q, rfl⟩
  go_wp2_with fail
  go_ret
  exact ⟨rfl, q, _, by rw [Sort.alloc_eq_grow, Sort.alloc_eq_grow, Sort.grow_grow]; rfl⟩

theorem below_sortK {α : Type} [Inhabited α] (enc : α → List Value) (k : Nat) {B : Nat} {w w0 : World} (hb : Below B w0 w) (blk off m : Nat) (d : Array α) (os : Array Obj) (hB : B ≤ blk) (hBs : B ≤ w.heap.size) : Below B w0 (sortWorldK enc k w blk off m d os) := by
  have hother : ∀ b, b < w.heap.size → b ≠ blk → (sortWorldK enc k w blk off m d os).heap[b]? = w.heap[b]? := fun b hlt hne => by
    show ((w.heap.modify blk _) ++ os)[b]? = _
    rw [Array.getElem?_append_left (by simpa using hlt), Array.getElem?_modify, if_neg (fun h => hne h.symm)]
  have hs : w.heap.size ≤ (sortWorldK enc k w blk off m d os).heap.size := by
    show _ ≤ ((w.heap.modify blk _) ++ os).size
    simp
  refine ⟨hb.os, hb.tape, hb.output, Nat.le_trans hb.size hs, fun b hlt => ?_⟩
  exact (hother b (by omega) (by omega)).trans (hb.block b hlt)

/-- The entries with their proof. -/
def packA : (V : List Hv) → (∀ h ∈ V, okH h = true) → List HvA
  | [], _ => []
  | h :: V, k => ⟨h, k h (List.mem_cons_self ..)⟩ :: packA V (fun q hq => k q (List.mem_cons_of_mem _ hq))
theorem packA_val : ∀ (V : List Hv) (k : ∀ h ∈ V, okH h = true), (packA V k).map (·.1) = V
  | [], _ => rfl
  | h :: V, k => by simp only [packA, List.map_cons, packA_val V]
theorem packA_len (V : List Hv) (k : ∀ h ∈ V, okH h = true) : (packA V k).length = V.length := by
  have := congrArg List.length (packA_val V k)
  simpa using this
theorem flatA_get (d : Array HvA) (j : Nat) (hj : j < d.size * 3) : (celH (d.toList.map (·.1)))[j]? = some (Sort.flatK encA 3 d)[j]! := by
  have hq : j / 3 < d.size := by omega
  have e : j = j / 3 * 3 + j % 3 := by omega
  rw [Sort.get_flatK _ _ _ _ hj]
  have h1 : (d.toList.map (·.1))[j / 3]? = some d[j / 3].1 := by simp [hq]
  have h2 := celH_get (d.toList.map (·.1)) (j / 3) (j % 3) _ h1 (by omega)
  rw [← e] at h2
  rw [h2, getElem!_pos d (j / 3) hq]
  have h3 : j % 3 < (encA d[j / 3]).length := by unfold encA Hv.cells; simp; omega
  rw [getElem!_pos (encA d[j / 3]) (j % 3) h3]
  unfold encA
  exact List.getElem?_eq_getElem _

/-- What the sort leaves of entries that make up the list E. -/
theorem sorted_is {E V : List Hv} (hE : Srt E) (hV : V.Perm E) (hok : ∀ h ∈ V, okH h = true) (d' : Array HvA) (h1 : Sort.PermIn 0 (packA V hok).toArray.size (packA V hok).toArray d') (h2 : Sort.SortedIn (ltOf cfA) 0 (packA V hok).toArray.size d') : d'.toList.map (·.1) = E := by
  obtain ⟨hs, _, hp⟩ := h1
  have e1 : (packA V hok).toArray.extract 0 (packA V hok).toArray.size = (packA V hok).toArray := by simp
  have e2 : d'.extract 0 (packA V hok).toArray.size = d' := by rw [← hs]; simp
  rw [e1, e2] at hp
  have hp2 : (d'.toList.map (·.1)).Perm V := by
    have := hp.map (fun x : HvA => x.1)
    rw [show (packA V hok).toArray.toList = packA V hok from rfl, packA_val] at this
    exact this
  have hm : ∀ h, h ∈ d'.toList.map (·.1) ↔ h ∈ E := fun h => (hp2.trans hV).mem_iff
  have hon : (d'.toList.map (·.1)).Pairwise (fun a b => a.path ≠ b.path) := by
    refine ((hp2.trans hV).pairwise_iff (fun h => h.symm)).2 ?_
    refine hE.imp fun hlt e => ?_
    rw [e, ordH_self] at hlt
    exact absurd hlt (by decide)
  refine Srt.ext ?_ hE hm
  unfold Srt
  rw [List.pairwise_iff_getElem]
  intro i j hi hj hij
  simp only [List.length_map, Array.length_toList] at hi hj
  have h3 := h2 i j (Nat.zero_le _) hij (by rw [← hs]; exact hj)
  rw [getElem!_pos d' i hi, getElem!_pos d' j hj, ltA, decide_eq_false_iff_not] at h3
  have hne := List.pairwise_iff_getElem.1 hon i j (by simpa using hi) (by simpa using hj) hij
  simp only [List.getElem_map, Array.getElem_toList] at hne ⊢
  rw [ordH_valid (okH_path d'[i].2) (okH_path d'[j].2)]
  have h4 := pcmp_swap d'[i].1.path.data.toList d'[j].1.path.data.toList
  have h5 : pcmp d'[i].1.path.data.toList d'[j].1.path.data.toList ≠ 0 := fun e => hne (ba_data (pcmp_zero e))
  omega

theorem Tryz.infoHave : (Tryz.prog.info? 32).map (fun i => (i.zero, i.size, i.bytes)) = some (some (.agg #[.string ⟨#[]⟩, .int .i64 0, .string ⟨#[]⟩]), 3, 40) := by kernel_rfl
/-- The slice at the block B holds these entries. -/
def HvRow (B : Nat) (E : List Hv) (w : World) : Prop := B < w.heap.size ∧ ∀ j u, (celH E)[j]? = some u → w.cell? ⟨B, j, none⟩ = some u
theorem encM_mem {L : List Hv} {x : ByteArray × Value} (h : x ∈ encM L) : ∃ h : Hv, h ∈ L ∧ x = (h.path, h.val) := by
  obtain ⟨h, h1, h2⟩ := List.mem_map.1 h
  exact ⟨h, h1, h2.symm⟩
theorem encM_val {x : ByteArray × Value} {h : Hv} (e : x = (h.path, h.val)) : x.2 = h.val ∧ x.1 = h.path := by subst e; exact ⟨rfl, rfl⟩
def strOf : Value → ByteArray
  | .string s => s
  | _ => ⟨#[]⟩
def cellsOf : Value → Array Value
  | .agg cs => cs
  | _ => #[]
def hvOf (x : ByteArray × Value) : Hv := ⟨strOf ((cellsOf x.2).getD 0 undef), intOf ((cellsOf x.2).getD 1 undef), strOf ((cellsOf x.2).getD 2 undef)⟩
theorem hvOf_is (h : Hv) : hvOf (h.path, h.val) = h := rfl
theorem encM_inj {V L : List Hv} (h : (encM V).Perm (encM L)) : V.Perm L := by
  have := h.map hvOf
  simp only [encM, List.map_map, Function.comp_def, hvOf_is, List.map_id'] at this
  exact this
theorem encM_snoc (V : List Hv) (h : Hv) : encM V ++ [(h.path, h.val)] = encM (V ++ [h]) := by simp [encM]

def lenOf : Value → Nat
  | .slice _ n _ => n
  | _ => 0
theorem lit_cells (w : World) (vs : List Value) (T : TypeId) : ∀ j u, vs[j]? = some u → (w.alloc (.cells vs.toArray T)).cell? ((⟨w.heap.size, 0, none⟩ : Addr).add j) = some u := fun j u hu => by
  have hh : (w.alloc (.cells vs.toArray T)).heap[w.heap.size]? = some (.cells vs.toArray T (0, 0)) := heap_alloc_new w _
  rw [add_lit, Nat.zero_add, cell_at hh]
  simpa using hu
theorem lit_cells_at (w : World) (b : Nat) (vs : List Value) (T : TypeId) (hb : b = w.heap.size) : ∀ j u, vs[j]? = some u → (w.alloc (.cells vs.toArray T)).cell? ((⟨b, 0, none⟩ : Addr).add j) = some u := by
  subst hb
  exact lit_cells w vs T
theorem ownsRow_keep {w w' : World} {base size B k n : Nat} {e : TypeId} {xs : List Value} (h : w.ownsRow base e size (.slice (some ⟨B, 0, none⟩) k n) k xs) (hb : w'.heap[B]? = w.heap[B]?) : w'.ownsRow base e size (.slice (some ⟨B, 0, none⟩) k n) k xs := by
  obtain ⟨h1, h2⟩ := h
  refine ⟨h1, ?_⟩
  rcases h2 with ⟨h3, _⟩ | ⟨g, cap, cur, h3, h4, h5, h6⟩
  · cases h3
  · injection h3 with e1 e2 e3
    injection e1 with e1
    injection e1 with e1
    subst e1
    exact .inr ⟨B, cap, cur, by rw [e3], h4, hb.trans h5, h6⟩

theorem holdsA {w : World} {base B n : Nat} {V : List Hv} (hok : ∀ h ∈ V, okH h = true) (hn : V.length = n) (ho : w.ownsRow base 32 3 (.slice (some ⟨B, 0, none⟩) n n) n (celH V)) : Sort.HoldsK encA 3 w B 0 (packA V hok).toArray ∧ B < w.heap.size := by
  obtain ⟨_, h2⟩ := ho
  rcases h2 with ⟨h3, _⟩ | ⟨g, cap, cur, h3, _, hb, _, _, hs, ht⟩
  · cases h3
  injection h3 with e1 e2 e3
  injection e1 with e1
  injection e1 with e1
  subst e1
  refine ⟨fun j hj => ?_, block_lt hb⟩
  rw [Sort.size_flatK] at hj
  have hsz : (packA V hok).toArray.size = n := by simp [packA_len, hn]
  rw [hsz] at hj
  constructor
  · rw [Nat.zero_add, cell_at hb]
    have h5 := flatA_get (packA V hok).toArray j (by rw [hsz]; exact hj)
    rw [show (packA V hok).toArray.toList = packA V hok from rfl, packA_val, ← ht, List.getElem?_take, if_pos hj, Array.getElem?_toList] at h5
    exact h5
  · simp [World.frozen?, hb]
theorem callsSort (V : List Hv) (n B : Nat) (w : World) (hok : ∀ h ∈ V, okH h = true) (hn : V.length = n) (hn2 : n ≤ 1000000) (base : Nat) (ho : w.ownsRow base 32 3 (.slice (some ⟨B, 0, none⟩) n n) n (celH V)) {E : List Hv} (hE : Srt E) (hp : V.Perm E) :
    Calls Tryz.prog 59 #[.slice (some ⟨B, 0, none⟩) n n, .func (.func 42) #[] #[]] w fun e w' => e = .returned (.tuple #[]) ∧ HvRow B E w' ∧ ∃ (d' : Array HvA) (m : Nat) (os : Array Obj), w' = sortWorldK encA 3 w B 0 m d' os := by
  obtain ⟨hH, hB⟩ := holdsA hok hn ho
  have hsz : (packA V hok).toArray.size = n := by simp [packA_len, hn]
  have eg : ∀ args w, (callFunc 42 args).run Tryz.prog w = .ok (.enter 42 args) w := enters_of Tryz.func42 (by kernel_rfl) rfl
  have hcmp : CmpLays Tryz.prog 42 #[] encA 3 cfA B 0 (packA V hok).toArray.size w := fun _ _ _ _ x y => hcompare_any x.1 y.1 x.2 y.2 _
  have hcon := AnyQ.slices_SortFunc Tryz.sortF 3 Tryz.isAgg32 Tryz.sizeOf32 encA (fun _ => rfl) (fun x v hv => by simp [encA, Hv.cells] at hv; rcases hv with rfl | rfl | rfl <;> rfl) cfA swoA 42 #[] B 0 n (packA V hok).toArray w eg hcmp hH hB (by rw [hsz]; omega)
  change Calls Tryz.prog 59 _ _ _ at hcon
  rw [hsz] at hcon
  refine hcon.mono ?_
  rintro e w' ⟨rfl, d', m, os, h1, h2, rfl⟩
  have hs : d'.size = n := h1.1.trans hsz
  have hE' : d'.toList.map (·.1) = E := sorted_is hE hp hok d' (by rw [hsz]; exact h1) (by rw [hsz]; exact h2)
  refine ⟨rfl, ⟨Nat.lt_of_lt_of_le hB (size_sortWorldK_c encA 3 w B 0 m d' os), fun j u hu => ?_⟩, d', m, os, rfl⟩
  have hh := holdsK_sortWorldK_c encA 3 w B 0 (packA V hok).toArray d' m os hH hB h1.1
  have hj : j < d'.size * 3 := by
    have h3 := (List.getElem?_eq_some_iff.1 hu).1
    rw [celH_len, ← hE'] at h3
    simpa using h3
  have h4 := (hh j (by rw [Sort.size_flatK]; exact hj)).1
  have h5 := flatA_get d' j hj
  rw [hE', hu] at h5
  rw [Nat.zero_add] at h4
  rw [h4, h5]
  rfl

set_option maxRecDepth 100000 in
set_option maxHeartbeats 1600000 in
theorem hsorted_any (m : Nat) (E : List Hv) (w : World) (hm : HvMap m E w) (hE : Srt E) (hok : ∀ h ∈ E, okH h = true) (hn : E.length ≤ 1000000) :
    Calls Tryz.prog 41 #[.map (some m)] w fun e w' => e = .returned (.slice (some ⟨w.heap.size, 0, none⟩) E.length E.length) ∧ Below w.heap.size w w' ∧ HvRow w.heap.size E w' := by
  obtain ⟨L, hL, hp⟩ := hm
  have hln := fun ty => hL.run_len (P := Tryz.prog) Tryz.underlying65 ty
  have hlen : (encM L).length = E.length := by rw [← hp.length_eq]; simp [encM]
  rw [hlen] at hln
  have hmlt := hL.lt
  obtain ⟨es, clock, hb, he, hbn, hbc, hkn⟩ := hL
  have hu := unk_list he
  have hk := unk_key he
  have hes : es.size = E.length := by
    have := congrArg List.length hu
    simp only [List.length_map, Array.length_toList] at this
    omega
  obtain ⟨i0, hi, hz0, hz1, hz2⟩ := info_parts Tryz.infoHave
  have HBN := Lib.hid hbn
  have HBC := Lib.hid hbc
  have HK := Lib.hid hk
  have HU := Lib.hid hu
  have HES := Lib.hid hes
  have HP := Lib.hid hp
  have HB := Lib.hid hb
  have HEO := Lib.hid hok
  have HSE := Lib.hid hE
  clear he hbn hbc hkn hk hu hes hp hb hok hE hlen
  go_enter Tryz.func41, Tryz.ntmps41
  go_wp2_with (with_reducible refine wpList_make_own _ rfl _ _ 29 rfl w.heap.size 32 i0 _ 3 Tryz.underlying29 hi hz0 hz1 .i64 .i64 _ E.length rfl rfl rfl (by rw [hz2]; omega) (by unfold maxLen; omega) (Nat.le_refl _) ?_; intro w1 ho1 hg1; have hb1 := (hg1.block m hmlt (fun h => by cases h)).trans HB.out; have hrg := run_range_map (P := Tryz.prog) w1 65 9 32 m es clock Tryz.underlying65 hb1; clear hln)
  have hsz1 := hg1.size
  have hb2 : (w1.alloc (.mapIter (some m) clock #[] clock)).heap[m]? = some (.map es clock) := (Below.heap_alloc w1 _ m (by omega)).trans hb1
  have hr2 : (w1.alloc (.mapIter (some m) clock #[] clock)).heap[w1.heap.size]? = some (.mapIter (some m) clock #[] clock) := heap_alloc_new w1 _
  have hB1 : w.heap.size < w1.heap.size := by
    obtain ⟨_, h2⟩ := ho1
    rcases h2 with ⟨h3, _⟩ | ⟨g, cap, cur, h3, _, h5, _⟩
    · cases h3
    · injection h3 with e1 e2 e3
      injection e1 with e1
      injection e1 with e1
      rw [e1]
      exact block_lt h5
  have hbel : Below w.heap.size w (w1.alloc (.mapIter (some m) clock #[] clock)) := ((Below.refl _ _).grown hg1 (Nat.le_refl _) (fun k h => by cases h)).alloc (by omega) _
  have HRNG := Lib.hid (Rng.start hr2 hb2)
  have HBEL := Lib.hid hbel
  have HOW := Lib.hid (ownsRow_keep ho1 (Below.heap_alloc w1 (.mapIter (some m) clock #[] clock) w.heap.size hB1))
  have hmr : m ≠ w1.heap.size := by omega
  clear hrg hb1 hb2 hr2 hbel ho1 hg1
  generalize w1.alloc (.mapIter (some m) clock #[] clock) = w2 at *
  generalize w1.heap.size = r at *
  go_loopw [3] (fun l wr => ∃ V : List Hv, l = .slice (some ⟨w.heap.size, 0, none⟩) V.length E.length ∧ Rng m r clock es (encM V) wr ∧ Below w.heap.size w wr ∧ wr.ownsRow w.heap.size 32 3 (.slice (some ⟨w.heap.size, 0, none⟩) V.length E.length) V.length (celH V)) (fun l _ => E.length - lenOf l)
  case atStart => exact ⟨[], rfl, HRNG.out, HBEL.out, HOW.out⟩
  case round =>
    obtain ⟨V, rfl, hrng, hbel, how⟩ := hrel
    clear HRNG HBEL HOW
    rcases hrng.step (P := Tryz.prog) 0 HBN.out HBC.out HK.out hmr with ⟨hperm, hnx⟩ | ⟨x, W, hx, hlt, hnx, hen, hr', w3, hw3, hg3⟩
    · have hVE : V.length = E.length := by
        have := hperm.length_eq
        rw [HU.out] at this
        simpa [encM, HP.out.length_eq] using this
      rw [HU.out] at hperm
      have HVP := Lib.hid ((encM_inj hperm).trans HP.out)
      rw [hVE] at how ⊢
      have HVE := Lib.hid hVE
      have HBL := Lib.hid hbel
      have HOV := Lib.hid how
      clear hrng hbel how hVE hperm
      have HCS := Lib.hid (callsSort V E.length w.heap.size wr (fun h hh => HEO.out h (HVP.out.mem_iff.1 hh)) HVE.out hn w.heap.size HOV.out HSE.out HVP.out)
      go_wp2_with fail
      refine HCS.out.mono ?_
      rintro e w' ⟨rfl, hrow, d', mm, os, rfl⟩
      go_wp2_with fail
      go_ret
      exact ⟨rfl, below_sortK encA 3 HBL.out w.heap.size 0 mm d' os (Nat.le_refl _) HBL.out.size, hrow⟩
    · rw [HU.out] at hx
      obtain ⟨⟨a, b, c⟩, hh, rfl⟩ := encM_mem hx
      rw [encM_snoc] at hr'
      dsimp only [Hv.val] at hnx hen
      have hw3h : w3.heap = wr.heap := by rcases hw3 with rfl | rfl <;> rfl
      have hbw : Below w.heap.size w W := by
        have h1 : Below w.heap.size w w3 := by
          rcases hw3 with rfl | rfl
          · exact hbel
          · exact hbel.drew
        exact h1.grown hg3 (by rw [hw3h]; exact hbel.size) (fun k hk => by injection hk; omega)
      have HBW := Lib.hid hbw
      have HRW := Lib.hid hr'
      have howW := ownsRow_keep how ((hg3.block w.heap.size (by rw [hw3h]; have := hrng.lt; omega) (fun h => by injection h; omega)).trans (by rw [hw3h]))
      have hrl := hr'.lt
      have HOWW := Lib.hid (ownsRow_keep (ownsRow_keep howW (Below.heap_alloc W (.cells #[.string a, .int .i64 b, .string c] 32) w.heap.size (by omega))) (Below.heap_alloc (W.alloc (.cells #[.string a, .int .i64 b, .string c] 32)) (.cells #[.string a, .int .i64 b, .string c] 32) w.heap.size (by simp; omega)))
      have hVl : V.length < E.length := by rw [HES.out] at hlt; simpa [encM] using hlt
      clear hrng hbel how hw3 hg3 hx hw3h hbw hr' howW hlt hh
      go_wp2_with (at_builtin; (refine wpList_append_fits _ rfl _ _ 29 rfl w.heap.size 32 i0 3 Tryz.underlying29 hi hz1 w.heap.size V.length E.length (celH V) rfl HOWW.out _ 1 1 [.string a, .int .i64 b, .string c] rfl rfl (lit_cells_at (W.alloc (.cells #[.string a, .int .i64 b, .string c] 32)) _ [.string a, .int .i64 b, .string c] _ (by simp)) (by simp [Value.oneCell']) (by omega) ?_); intro w4 ho4 hg4)
      go_round
      case rel =>
        have hs4 := hg4.size
        have hsW : ((W.alloc (.cells #[.string a, .int .i64 b, .string c] 32)).alloc (.cells #[.string a, .int .i64 b, .string c] 32)).heap.size = W.heap.size + 2 := by simp
        have hmW := block_lt HRW.out.mb
        have hk4 : ∀ b', b' < W.heap.size → b' ≠ w.heap.size → w4.heap[b']? = W.heap[b']? := fun b' h1 h2 =>
          (hg4.block b' (by rw [hsW]; omega) (fun h => h2 (by injection h))).trans ((Below.heap_alloc _ _ b' (by simp; omega)).trans (Below.heap_alloc W _ b' h1))
        refine ⟨V ++ [⟨a, b, c⟩], by simp, HRW.out.of (hk4 r hrl (by omega)) (hk4 m hmW (by omega)), ?_, ?_⟩
        · exact ((HBW.out.alloc HBW.out.size _).alloc (by simp; have := HBW.out.size; omega) _).grown hg4 (by rw [hsW]; have := HBW.out.size; omega) (fun k hk => by injection hk; omega)
        · rw [celH_append, List.length_append]
          exact ho4
      case measure => simp [lenOf]; omega

end Go.Proofs.YtjjdffafibonhaaGreatDoor
