/-
  The program's All: the leases of the table's map, in order.
-/
import Derived.Test.YtphoodnclmplhaaDoorItr
import Derived.Test.YtphoodnclmplhaaDoorCmp
import Derived.Test.YtphoodnclmplhaaDoorSortF
import Derived.OwnWalk
namespace Go.Proofs.YtphoodnclmplhaaDoor
open Go.RowKit
open Go.Sort (HoldsK)
attribute [local go_sem] Oper.semAt_some

/-- What an AppendSeq has collected. -/
def Coll (n0 B : Nat) (w : World) (pre : List Lease) (W : World) : Prop := (∃ v, Boxed W B 26 v ∧ W.ownsRow n0 34 5 v pre.length (celL pre) ∧ True) ∧ Below n0 w W
theorem blk_own {w : World} (x : Lease) : OwnFrom w.heap.size (fun (_ : Unit) W => ∃ Bx, w.heap.size ≤ Bx ∧ Blk Bx 34 x.cells W) := by
  rintro _ X Y row ⟨Bx, h1, hk⟩ hg hr
  refine ⟨Bx, h1, hk.grown hg fun e => ?_⟩
  obtain ⟨_, o, ho, hc⟩ := hr Bx e
  have hk' : X.heap[Bx]? = some (.cells x.cells.toArray 34 (0, 0)) := hk
  rw [hk'] at ho
  cases ho
  cases hc

set_option maxRecDepth 100000 in
set_option maxHeartbeats 2000000 in
theorem appSeq_in (F : Fence) (n : Nat) (hf : F.fn 63) (hv : F.fn 55) (hro : F.round = none) (hn : 2 ≤ n) (Bm b : Nat) (L : List (ByteArray × Lease)) (hL : L.length ≤ 1000000) (w : World) (hBm : Bm < w.heap.size) (hm : w.cell? ⟨Bm, 0, none⟩ = some (.map (some b))) (hmap : MapIs b (encL L) w) :
    CallsIn F n Tryd.prog 63 #[.slice none 0 0, .func (.func 55) #[] #[.pointer (some ⟨Bm, 0, none⟩)]] w fun e w' => ∃ (v : Value) (xs : List Lease), e = .returned v ∧ xs.Perm (L.map (·.2)) ∧ w'.ownsRow w.heap.size 34 5 v xs.length (celL xs) ∧ Below w.heap.size w w' := by
  obtain ⟨i0, hi0, hz0, hz1, hz2⟩ := info_parts Tryd.infoLease
  have h1 : 1 ≤ n := by omega
  have hb0 := below_alloc1 w (.cells #[.slice none 0 0] 26)
  have HST := Lib.hid (values_stops F (n - 1) hv hro (by omega) Bm b L (w.alloc (.cells #[.slice none 0 0] 26)) (by simp; omega) ((hb0.cell (p := ⟨Bm, 0, none⟩) hBm).trans hm) (hmap.alloc _))
  have HB0 := Lib.hid hb0
  have HBX := Lib.hid (Boxed.new w 26 (.slice none 0 0))
  have hsz : (w.alloc (.cells #[.slice none 0 0] 26)).heap.size = w.heap.size + 1 := by simp
  clear hb0 hm hmap
  refine callsIn_of_wp_marks Tryd.func63 rfl hf ?_ hro
  simp only [Tryd.ntmps63, List.size_toArray, List.length_cons, List.length_nil, Nat.reduceAdd, Nat.reduceSub, Array.replicate_succ, Array.replicate_zero, List.push_toArray, List.append_toArray, List.nil_append, List.cons_append]
  gi_wp2
  generalize w.alloc (.cells #[.slice none 0 0] 26) = W0 at *
  refine wpIn_rangeFunc_ownH hro h1 (gf := 55) (lb := #[.pointer (some ⟨Bm, 0, none⟩)]) rfl hv (enters_of Tryd.func55 (by kernel_rfl) rfl) HST.out walksK_t walksK_b (Below.refl _ _) (fun _ => rfl)
    (Coll w.heap.size w.heap.size w) (fun _ _ _ => False) ?hI (fun _ _ _ _ _ h _ _ => h) ⟨⟨_, HBX.out, ⟨rfl, .inl ⟨rfl, rfl⟩⟩, trivial⟩, HB0.out⟩
    (fun x a' W => (∃ Bx, W0.heap.size ≤ Bx ∧ Blk Bx 34 x.cells W ∧ a' = { tmps := #[.slice none 0 0, .func (.func 55) #[] #[.pointer (some ⟨Bm, 0, none⟩)], .pointer (some ⟨w.heap.size, 0, none⟩), undef, .slice none 0 0, .pointer (some ⟨Bx, 0, none⟩), .func (.func 55) #[] #[.pointer (some ⟨Bm, 0, none⟩)], x.val, undef, undef, undef, undef, undef], defers := [] })) ?hAx ?assign ?body ?done ?stop
  case hI => exact OwnFrom.and (Own.from (holdsRow_own w.heap.size w.heap.size 26 34 5 (fun pre => pre.length) (fun pre => celL pre) (fun _ _ => True)) _) (ownFrom_below (Nat.le_refl _) (by omega))
  case hAx =>
    rintro x a' _ X Y row ⟨Bx, h1, hk, ha⟩ hg hr
    refine ⟨Bx, h1, hk.grown hg fun e => ?_, ha⟩
    obtain ⟨_, o, ho, hc⟩ := hr Bx e
    have hk' : X.heap[Bx]? = some (.cells x.cells.toArray 34 (0, 0)) := hk
    rw [hk'] at ho
    cases ho
    cases hc
  case assign =>
    intro l pre x W K hi hK
    have HI := Lib.hid hi
    have HKK := Lib.hid hK
    obtain ⟨lp, lh, lf, ls, lu⟩ := x
    dsimp only [Lease.val]
    clear hi hK
    gi_wp2
    obtain ⟨⟨v, hv, ho, _⟩, hB⟩ := HI.out
    have hlt := hv.lt
    refine HKK.out _ _ ((KeepsOthers.alloc _ _).from _) (KeepsOthers.alloc _ _).walks ⟨⟨v, hv.alloc _, ho.alloc _, trivial⟩, hB.alloc hB.size _⟩ ⟨W.heap.size, by omega, Blk.new W 34 _, rfl⟩
  case body =>
    rintro l pre x a' W hl ⟨rr, hrr⟩ ⟨⟨v, hv, ho, _⟩, hB⟩ ⟨Bx, hBx, hk, rfl⟩ hlen
    have hHB := Lib.hid hB
    have HO := Lib.hid ho
    have HV := Lib.hid hv
    have HR := Lib.hid hrr
    have hc := hv.cell
    have hfz := hv.frozen
    have q0 := hk.cell 0
    have q1 := hk.cell 1
    have q2 := hk.cell 2
    have q3 := hk.cell 3
    have q4 := hk.cell 4
    simp only [Lease.cells, List.getElem?_cons_succ, List.getElem?_cons_zero] at q0 q1 q2 q3 q4
    have HLL := Lib.hid (lit_leases W x)
    have hle := hB.size
    have hvl := hv.lt
    clear hB ho hv hrr
    gi_wp2_with (gi_at_builtin; refine wpListIn_append_own _ rfl _ _ 26 rfl w.heap.size 34 i0 (.agg #[.string ⟨#[]⟩, .string ⟨#[]⟩, .int .i64 0, .int .i64 0, .int .i64 0]) 5 56 Tryd.underlying26 hi0 hz0 hz1 hz2 rfl (by decide) _ _ _ rfl (HO.out.alloc _) ⟨W.heap.size, 0, none⟩ 1 1 x.cells rfl rfl HLL.out.1 HLL.out.2 (by unfold maxLen; omega) (by omega) (by simp; omega) ?_; intro v' w1 hown' hgrow _; obtain ⟨g', cap', rfl⟩ := ownsRow_succ hown'; obtain ⟨hv1, hv2, hr2, hk2, hb2⟩ := HV.out.appended (by decide) HO.out hle (Nat.le_refl _) hown' hgrow; have hc1 := hv1.cell; have hf1 := hv1.frozen)
    refine ⟨hk2.from _, hk2.walks, ⟨_, hv2, ?_, trivial⟩, hHB.out.trans hb2⟩
    rw [celL_append, List.length_append]
    exact hr2
  case done =>
    rintro D xs W hD hS ⟨⟨v, hv, ho, _⟩, hB⟩ hK
    have hc := hv.cell
    have hfz := hv.frozen
    have HO := Lib.hid ho
    have HB := Lib.hid hB
    have HS := Lib.hid hS
    have HK := Lib.hid hK
    clear ho hB hS hK
    gi_wp2
    refine ⟨by simp, .inl ⟨_, _, rfl, run_takeDeferred HK.out, ?_⟩⟩
    exact ⟨_, results_tmp rfl _ _ _, v, xs, rfl, HS.out, ownsRow_putObj HO.out _ HK.out rfl, HB.out.trans (belowK_b (w := w) (Nat.le_refl _) W D _ _ (by omega) HK.out rfl rfl)⟩
  case stop =>
    rintro D c pre W _ _ h _
    exact h.elim


set_option maxHeartbeats 1000000 in
theorem collect_any (Bm b : Nat) (L : List (ByteArray × Lease)) (hL : L.length ≤ 1000000) (w : World) (hBm : Bm < w.heap.size) (hm : w.cell? ⟨Bm, 0, none⟩ = some (.map (some b))) (hmap : MapIs b (encL L) w) :
    Calls Tryd.prog 53 #[.func (.func 55) #[] #[.pointer (some ⟨Bm, 0, none⟩)]] w fun e w' => ∃ (v : Value) (xs : List Lease), e = .returned v ∧ xs.Perm (L.map (·.2)) ∧ w'.ownsRow w.heap.size 34 5 v xs.length (celL xs) ∧ Below w.heap.size w w' := by
  have HA := Lib.hid (callsIn_wide (n := 6) |>.1 (appSeq_in Fence.wide 6 trivial trivial rfl (by omega) Bm b L hL w hBm hm hmap))
  clear hm hmap
  go_enter Tryd.func53, Tryd.ntmps53
  go_wp2_with fail
  refine HA.out.mono ?_
  rintro e w' ⟨v, xs, rfl, hp, ho, hb⟩
  have HO := Lib.hid ho
  have HP := Lib.hid hp
  have HB := Lib.hid hb
  clear ho hp hb
  go_wp2_with fail
  go_ret
  exact ⟨v, xs, rfl, HP.out, HO.out, HB.out⟩

def okP (x : Lease) : Bool := isPathB x.path
theorem okP_path {x : Lease} (h : okP x = true) : x.path.size ≤ 200 ∧ validB x.path.data.toList = true := by simpa [okP, isPathB] using h
abbrev LeA := { x : Lease // okP x = true }
instance : Inhabited LeA := ⟨⟨⟨⟨#[47, 47, 97, 47, 97]⟩, ⟨#[]⟩, 0, 0, 0⟩, by decide +kernel⟩⟩
def encLA (x : LeA) : List Value := x.1.cells
def cfLA (x y : LeA) : Int := pcmp x.1.path.data.toList y.1.path.data.toList
theorem ltLA (x y : LeA) : ltOf cfLA x y = decide (pcmp x.1.path.data.toList y.1.path.data.toList < 0) := rfl
theorem swoLA : Sort.SWO (ltOf cfLA) := by
  refine ⟨fun x => ?_, fun x y z h1 h2 => ?_, fun x y z h1 h2 => ?_⟩
  · rw [ltLA, pcmp_self]; rfl
  · rw [ltLA, decide_eq_true_eq] at *
    exact pcmp_trans h1 h2
  · rw [ltLA, decide_eq_false_iff_not] at *
    intro h
    have s1 := pcmp_swap x.1.path.data.toList y.1.path.data.toList
    by_cases e1 : pcmp x.1.path.data.toList y.1.path.data.toList = 0
    · rw [pcmp_zero e1] at h; exact h2 h
    · have h3 : pcmp y.1.path.data.toList x.1.path.data.toList < 0 := by omega
      exact h2 (pcmp_trans h3 h)

set_option maxRecDepth 100000 in
set_option maxHeartbeats 800000 in
theorem lcompare_any (x y : Lease) (hx : okP x = true) (hy : okP y = true) (W : World) : Calls Tryd.prog 45 #[x.val, y.val] W fun e w' => e = .returned (.int .i64 (pcmp x.path.data.toList y.path.data.toList)) ∧ ∃ q os', w' = Sort.grow (W.drewN q) os' := by
  have h1 := okP_path hx
  have h2 := okP_path hy
  obtain ⟨xp, xh, xf, xs, xu⟩ := x
  obtain ⟨yp, yh, yf, ys, yu⟩ := y
  dsimp only at h1 h2
  have HC := Lib.hid (fun w => pathcmp_any xp yp w h1.2 h2.2 (by omega) (by omega))
  clear hx hy h1 h2
  unfold Lease.val
  dsimp only
  go_enter Tryd.func45, Tryd.ntmps45
  go_wp2_with fail
  refine (HC.out _).mono ?_
  rintro e w' ⟨rfl, q, rfl⟩
  go_wp2_with fail
  go_ret
  exact ⟨rfl, q, _, by rw [Sort.alloc_eq_grow, Sort.alloc_eq_grow, Sort.grow_grow]; rfl⟩

/-- The leases with their proof. -/
def packL : (V : List Lease) → (∀ h ∈ V, okP h = true) → List LeA
  | [], _ => []
  | h :: V, k => ⟨h, k h (List.mem_cons_self ..)⟩ :: packL V (fun q hq => k q (List.mem_cons_of_mem _ hq))
theorem packL_val : ∀ (V : List Lease) (k : ∀ h ∈ V, okP h = true), (packL V k).map (·.1) = V
  | [], _ => rfl
  | h :: V, k => by simp only [packL, List.map_cons, packL_val V]
theorem packL_len (V : List Lease) (k : ∀ h ∈ V, okP h = true) : (packL V k).length = V.length := by
  have := congrArg List.length (packL_val V k)
  simpa using this
theorem flatLA_get (d : Array LeA) (j : Nat) (hj : j < d.size * 5) : (celL (d.toList.map (·.1)))[j]? = some (Sort.flatK encLA 5 d)[j]! := by
  have hq : j / 5 < d.size := by omega
  have e : j = j / 5 * 5 + j % 5 := by omega
  rw [Sort.get_flatK _ _ _ _ hj]
  have h1 : (d.toList.map (·.1))[j / 5]? = some d[j / 5].1 := by simp [hq]
  have h2 := celL_get (d.toList.map (·.1)) (j / 5) (j % 5) _ h1 (by omega)
  rw [← e] at h2
  rw [h2, getElem!_pos d (j / 5) hq]
  have h3 : j % 5 < (encLA d[j / 5]).length := by unfold encLA; rw [lease_len]; omega
  rw [getElem!_pos (encLA d[j / 5]) (j % 5) h3]
  unfold encLA
  exact List.getElem?_eq_getElem _
theorem holdsLA {w : World} {base g cap n : Nat} {V : List Lease} (hok : ∀ h ∈ V, okP h = true) (hn : V.length = n) (ho : w.ownsRow base 34 5 (.slice (some ⟨g, 0, none⟩) n cap) n (celL V)) : HoldsK encLA 5 w g 0 (packL V hok).toArray ∧ g < w.heap.size := by
  obtain ⟨_, h2⟩ := ho
  rcases h2 with ⟨h3, _⟩ | ⟨g, cap, cur, h3, hbs, hb, _, _, hs, ht⟩
  · cases h3
  injection h3 with e1 e2 e3
  injection e1 with e1
  injection e1 with e1
  subst e1
  refine ⟨fun j hj => ?_, block_lt hb⟩
  rw [Sort.size_flatK] at hj
  have hsz : (packL V hok).toArray.size = n := by simp [packL_len, hn]
  rw [hsz] at hj
  constructor
  · rw [Nat.zero_add, cell_at hb]
    have h5 := flatLA_get (packL V hok).toArray j (by rw [hsz]; exact hj)
    rw [show (packL V hok).toArray.toList = packL V hok from rfl, packL_val, ← ht, List.getElem?_take, if_pos hj, Array.getElem?_toList] at h5
    exact h5
  · simp [World.frozen?, hb]
theorem below_sortL {α : Type} [Inhabited α] (enc : α → List Value) (k : Nat) {B : Nat} {w w0 : World} (hb : Below B w0 w) (blk off m : Nat) (d : Array α) (os : Array Obj) (hB : B ≤ blk) (hBs : B ≤ w.heap.size) : Below B w0 (sortWorldK enc k w blk off m d os) := by
  have hother : ∀ b, b < w.heap.size → b ≠ blk → (sortWorldK enc k w blk off m d os).heap[b]? = w.heap[b]? := fun b hlt hne => by
    show ((w.heap.modify blk _) ++ os)[b]? = _
    rw [Array.getElem?_append_left (by simpa using hlt), Array.getElem?_modify, if_neg (fun h => hne h.symm)]
  have hs : w.heap.size ≤ (sortWorldK enc k w blk off m d os).heap.size := by
    show _ ≤ ((w.heap.modify blk _) ++ os).size
    simp
  refine ⟨hb.os, hb.tape, hb.output, Nat.le_trans hb.size hs, fun b hlt => ?_⟩
  exact (hother b (by omega) (by omega)).trans (hb.block b hlt)
theorem sortedL_is {V : List Lease} (hV : (V.map (·.path)).Nodup) (hok : ∀ h ∈ V, okP h = true) (d' : Array LeA) (h1 : Sort.PermIn 0 (packL V hok).toArray.size (packL V hok).toArray d') (h2 : Sort.SortedIn (ltOf cfLA) 0 (packL V hok).toArray.size d') : (d'.toList.map (·.1)).Perm V ∧ SrtL (d'.toList.map (·.1)) := by
  obtain ⟨hs, _, hp⟩ := h1
  have e1 : (packL V hok).toArray.extract 0 (packL V hok).toArray.size = (packL V hok).toArray := by simp
  have e2 : d'.extract 0 (packL V hok).toArray.size = d' := by rw [← hs]; simp
  rw [e1, e2] at hp
  have hp2 : (d'.toList.map (·.1)).Perm V := by
    have := hp.map (fun x : LeA => x.1)
    rw [show (packL V hok).toArray.toList = packL V hok from rfl, packL_val] at this
    exact this
  have hon : (d'.toList.map (·.1)).Pairwise (fun a b => a.path ≠ b.path) := (hp2.pairwise_iff (fun h => h.symm)).2 (List.pairwise_map.1 hV)
  refine ⟨hp2, ?_⟩
  unfold SrtL
  rw [List.pairwise_iff_getElem]
  intro i j hi hj hij
  simp only [List.length_map, Array.length_toList] at hi hj
  have h3 := h2 i j (Nat.zero_le _) hij (by rw [← hs]; exact hj)
  rw [getElem!_pos d' i hi, getElem!_pos d' j hj, ltLA, decide_eq_false_iff_not] at h3
  have hne := List.pairwise_iff_getElem.1 hon i j (by simpa using hi) (by simpa using hj) hij
  simp only [List.getElem_map, Array.getElem_toList] at hne ⊢
  rw [ordH_valid (okP_path d'[i].2).2 (okP_path d'[j].2).2]
  have h4 := pcmp_swap d'[i].1.path.data.toList d'[j].1.path.data.toList
  have h5 : pcmp d'[i].1.path.data.toList d'[j].1.path.data.toList ≠ 0 := fun e => hne (ba_data (pcmp_zero e))
  omega
theorem callsSortL (V : List Lease) (n g cap : Nat) (w : World) (hok : ∀ h ∈ V, okP h = true) (hV : (V.map (·.path)).Nodup) (hn : V.length = n) (hn2 : n ≤ 1000000) (base : Nat) (ho : w.ownsRow base 34 5 (.slice (some ⟨g, 0, none⟩) n cap) n (celL V)) :
    Calls Tryd.prog 54 #[.slice (some ⟨g, 0, none⟩) n cap, .func (.func 45) #[] #[]] w fun e w' => e = .returned (.tuple #[]) ∧ ∃ S : List Lease, S.Perm V ∧ SrtL S ∧ LsAt g 0 S w' ∧ g < w'.heap.size ∧ ∃ (d' : Array LeA) (m : Nat) (os : Array Obj), w' = sortWorldK encLA 5 w g 0 m d' os := by
  obtain ⟨hH, hB⟩ := holdsLA hok hn ho
  have hsz : (packL V hok).toArray.size = n := by simp [packL_len, hn]
  have eg : ∀ args w, (callFunc 45 args).run Tryd.prog w = .ok (.enter 45 args) w := enters_of Tryd.func45 (by kernel_rfl) rfl
  have hcmp : CmpLays Tryd.prog 45 #[] encLA 5 cfLA g 0 (packL V hok).toArray.size w := fun _ _ _ _ x y => lcompare_any x.1 y.1 x.2 y.2 _
  have hcon := AnyQ.slices_SortFunc Tryd.sortF 5 Tryd.isAgg34 Tryd.sizeOf34 encLA (fun _ => rfl) (fun x v hv => by simp [encLA, Lease.cells] at hv; rcases hv with rfl | rfl | rfl | rfl | rfl <;> rfl) cfLA swoLA 45 #[] g 0 cap (packL V hok).toArray w eg hcmp hH hB (by rw [hsz]; omega)
  change Calls Tryd.prog 54 _ _ _ at hcon
  rw [hsz] at hcon
  refine hcon.mono ?_
  rintro e w' ⟨rfl, d', m, os, h1, h2, rfl⟩
  obtain ⟨hp, hs⟩ := sortedL_is hV hok d' (by rw [hsz]; exact h1) (by rw [hsz]; exact h2)
  have hh := holdsK_sortWorldK_c encLA 5 w g 0 (packL V hok).toArray d' m os hH hB h1.1
  refine ⟨rfl, _, hp, hs, fun i x hx => ?_, Nat.lt_of_lt_of_le hB (size_sortWorldK_c encLA 5 w g 0 m d' os), d', m, os, rfl⟩
  have hi : i < d'.size := by have := (List.getElem?_eq_some_iff.1 hx).1; simpa using this
  have hd : d'[i]!.1 = x := by
    rw [getElem!_pos d' i hi]
    simpa [hi] using hx
  have hc : ∀ c, c < 5 → (sortWorldK encLA 5 w g 0 m d' os).cell? ⟨g, 0 + i * 5 + c, none⟩ = some x.cells[c]! := fun c hc => by
    have := (Sort.HoldsK.cell hh hi hc).1
    unfold encLA at this
    rw [hd] at this
    exact this
  exact ⟨hc 0 (by omega), hc 1 (by omega), hc 2 (by omega), hc 3 (by omega), hc 4 (by omega)⟩

end Go.Proofs.YtphoodnclmplhaaDoor
