/-
  Copies of files.
-/
import Derived.Test.YthjbaafbkalomaaFiles
namespace Go.Proofs.Ythjbaafbkalomaa
open Go.RowKit

set_option maxRecDepth 100000 in
set_option maxHeartbeats 800000 in
theorem mapsClone_any (b : Nat) (es : Array MapEntry) (clock : Nat) (w : World) (hb : w.heap[b]? = some (.map es clock)) :
    Calls Try.prog 55 #[.map (some b)] w fun e w' => e = .returned (.map (some w.heap.size)) ∧ w' = w.alloc (.map es clock) := by
  have hq := fun w => run_eql_map_nil_sl (P := Try.prog) w 60 _ _ (some b) Try.underlying60
  have ht := fun (v : Value) (w : World) => run_typeAssert_map_sl (P := Try.prog) w 60 20 _ _ v Try.underlying60
  go_enter Try.func55, Try.ntmps55
  go_wp2
  rw [run_callFunc_extern Try.func68 (by kernel_rfl) (by kernel_rfl) (by kernel_rfl) (e := Extern.MapsClone.clone) (by kernel_rfl), run_maps_clone_sl w 60 hb]
  simp only [Result.andThen]
  rw [Oper.upon_value]
  go_wp2
  go_ret
  exact ⟨rfl, rfl⟩

set_option maxRecDepth 100000 in
set_option maxHeartbeats 400000 in
theorem clip_any (A : Option Addr) (n c : Nat) (w : World) (h : n ≤ c) (_hc : c ≤ 9223372036854775807) :
    Calls Try.prog 70 #[.slice A n c] w fun e w' => e = .returned (.slice A n n) ∧ w = w' := by
  obtain ⟨i0, hi, hz0, hz1, hz2⟩ := info_parts Try.infoU8
  have hcut := run_cut_hm (P := Try.prog) Try.underlying37 hi A n c n n (Nat.le_refl _) h
  clear hi hz0 hz1 hz2
  go_enter Try.func70, Try.ntmps70
  go_wp2_with fail
  go_ret
  exact ⟨rfl, rfl⟩

theorem nodup_le {α : Type} [DecidableEq α] : ∀ (l l' : List α), l.Nodup → (∀ x ∈ l, x ∈ l') → l.length ≤ l'.length
  | [], _, _, _ => Nat.zero_le _
  | x :: l, l', hn, hs => by
    rw [List.nodup_cons] at hn
    have h1 : x ∈ l' := hs x (by simp)
    have h2 := nodup_le l (l'.erase x) hn.2 (fun y hy => (List.mem_erase_of_ne (fun e : y = x => hn.1 (by rw [← e]; exact hy))).2 (hs y (by simp [hy])))
    rw [List.length_erase_of_mem h1] at h2
    have := List.length_pos_of_mem h1
    simp only [List.length_cons]
    omega
def clipV : Value → Value
  | .slice A n _ => .slice A n n
  | v => v
/-- So far the copy has the entries whose stamps have been seen. -/
structure Copying (es : Array MapEntry) (seen : Array Nat) (L' : List (ByteArray × Value)) : Prop where
  has : ∀ e ∈ es.toList, seen.contains e.born = true → ∀ q, e.key = .string q → look L' q = some (clipV e.val)
  only : ∀ q v, look L' q = some v → ∃ e ∈ es.toList, seen.contains e.born = true ∧ e.key = .string q
theorem key_inj {es : Array MapEntry} {L : List (ByteArray × Value)} (he : es.toList.map (fun e => (e.key, e.val)) = L.map (fun x => (Value.string x.1, x.2))) (hn : (L.map (·.1)).Nodup) {e e' : MapEntry} (h : e ∈ es.toList) (h' : e' ∈ es.toList) (hk : e.key = e'.key) : e = e' := by
  have hkn : (es.toList.map (·.key)).Nodup := by
    have h1 : es.toList.map (·.key) = (L.map (·.1)).map Value.string := by
      have := congrArg (List.map Prod.fst) he
      simpa [List.map_map, Function.comp_def] using this
    rw [h1]
    exact List.Pairwise.map Value.string (fun a b hab e => hab (by injection e)) hn
  generalize es.toList = l at *
  clear he
  induction l with
  | nil => cases h
  | cons x l ih =>
    rw [List.map_cons, List.nodup_cons] at hkn
    rcases List.mem_cons.1 h with rfl | h1
    · rcases List.mem_cons.1 h' with rfl | h2
      · rfl
      · exact absurd (hk ▸ List.mem_map_of_mem h2) hkn.1
    · rcases List.mem_cons.1 h' with rfl | h2
      · exact absurd (hk ▸ List.mem_map_of_mem h1) hkn.1
      · exact ih h1 h2 hkn.2
theorem Copying.step {es : Array MapEntry} {seen : Array Nat} {L L' : List (ByteArray × Value)} (he : es.toList.map (fun e => (e.key, e.val)) = L.map (fun x => (Value.string x.1, x.2))) (hn : (L.map (·.1)).Nodup) (hbn : (es.toList.map (·.born)).Nodup) (h : Copying es seen L') {e : MapEntry} (hm : e ∈ es.toList) {q : ByteArray} (hq : e.key = .string q) :
    Copying es (seen.push e.born) (put L' q (clipV e.val)) := by
  refine ⟨fun e' he' hs q' hq' => ?_, fun q' v hv => ?_⟩
  · rw [look_put]
    split
    · rename_i hqq
      subst hqq
      rw [key_inj he hn he' hm (hq'.trans hq.symm)]
    · rename_i hqq
      refine h.has e' he' ?_ q' hq'
      simp only [Array.contains_push, Bool.or_eq_true, beq_iff_eq] at hs
      rcases hs with hs | hs
      · exact hs
      · have : e' = e := by
          have hb : ∀ {l : List MapEntry}, (l.map (·.born)).Nodup → e' ∈ l → e ∈ l → e' = e := by
            intro l hl h1 h2
            induction l with
            | nil => cases h1
            | cons x l ih =>
              rw [List.map_cons, List.nodup_cons] at hl
              rcases List.mem_cons.1 h1 with h1' | h1'
              · rcases List.mem_cons.1 h2 with h2' | h2'
                · rw [h1', h2']
                · exact absurd (by rw [← h1', hs]; exact List.mem_map_of_mem h2') hl.1
              · rcases List.mem_cons.1 h2 with h2' | h2'
                · exact absurd (by rw [← h2', ← hs]; exact List.mem_map_of_mem h1') hl.1
                · exact ih hl.2 h1' h2'
          exact hb hbn he' hm
        subst this
        rw [hq] at hq'
        injection hq' with hq'
        exact absurd hq'.symm hqq
  · rw [look_put] at hv
    split at hv
    · rename_i hqq
      exact ⟨e, hm, by simp, by rw [hqq]; exact hq⟩
    · obtain ⟨e', h1, h2, h3⟩ := h.only q' v hv
      exact ⟨e', h1, by rw [Array.contains_push, h2]; rfl, h3⟩
theorem look_mem {L : List (ByteArray × Value)} (hn : (L.map (·.1)).Nodup) {q : ByteArray} {v : Value} (h : (q, v) ∈ L) : look L q = some v := by
  induction L with
  | nil => cases h
  | cons x r ih =>
    rw [List.map_cons, List.nodup_cons] at hn
    rcases List.mem_cons.1 h with h6 | h6
    · subst h6; simp [look, ba_self]
    · have hne : (q == x.1) = false := by
        cases hb : (q == x.1)
        · rfl
        · exact absurd ((ba_beq _ _).1 hb ▸ List.mem_map_of_mem h6) hn.1
      have := ih hn.2 h6
      simpa [look, List.find?_cons, hne] using this
/-- A copy of files: the same bytes, in a new map whose values have no room. -/
theorem copied_end {g : Gh} {w w' : World} {b c o : Nat} {f : Fl} {es : Array MapEntry} {clock : Nat} {seen : Array Nat} {L L' : List (ByteArray × Value)} (hf : FlRd g w b f) (hL : MapIs b L w) (_hb : w.heap[b]? = some (.map es clock)) (he : es.toList.map (fun e => (e.key, e.val)) = L.map (fun x => (Value.string x.1, x.2)))
    (hbb : Below w.heap.size w w') (hc : MapIs c L' w') (hcp : Copying es seen L') (hall : ∀ x ∈ es.toList, seen.contains x.born = true) (hlen : ∀ k l, f.m k = some l → l.length ≤ 8388608) (hcw : w.heap.size ≤ c) :
    ∃ g', (∀ b, b < w.heap.size → g'.F b = g.F b) ∧ (∀ b, b < w.heap.size → g'.O b = g.O b) ∧ FlAp o g' w' c f := by
  have hcl := hc.lt
  have hx0 : Ext (fun _ => True) g w ⟨fun k => if k = c then 0 else g.F k, fun k => if k = c then o else g.O k⟩ w' := (Ext.of_below (fun _ => True) g hbb).up (fun k hk => by dsimp only; rw [if_neg (by omega)]) (fun k hk => by dsimp only; rw [if_neg (by omega)])
  obtain ⟨L0, h1, h2, h3, h4⟩ := hf.ex
  obtain rfl := h1.inj hL
  have hmem : ∀ q v, (q, v) ∈ L0 → ∃ e ∈ es.toList, e.key = .string q ∧ e.val = v := fun q v hm => by
    have h5 : (Value.string q, v) ∈ es.toList.map (fun e => (e.key, e.val)) := by rw [he]; exact List.mem_map.2 ⟨(q, v), hm, rfl⟩
    obtain ⟨e, h6, h7⟩ := List.mem_map.1 h5
    simp only [Prod.mk.injEq] at h7
    exact ⟨e, h6, h7.1, h7.2⟩
  have hmem2 : ∀ e ∈ es.toList, ∀ q, e.key = .string q → look L0 q = some e.val := fun e hm q hq => by
    obtain ⟨_, _, _, _, _, _, hkn⟩ := h1
    have h5 : (Value.string q, e.val) ∈ L0.map (fun x => (Value.string x.1, x.2)) := by rw [← he]; exact List.mem_map.2 ⟨e, hm, by rw [hq]⟩
    obtain ⟨⟨q', v'⟩, h6, h7⟩ := List.mem_map.1 h5
    simp only [Prod.mk.injEq, Value.string.injEq] at h7
    obtain ⟨rfl, rfl⟩ := h7
    exact look_mem hkn h6
  have hkeys : ∀ q, (look L' q).isSome = true ↔ (look L0 q).isSome = true := fun q => by
    constructor
    · intro h
      obtain ⟨v, hv⟩ := Option.isSome_iff_exists.1 h
      obtain ⟨e, hm, _, hq⟩ := hcp.only q v hv
      rw [hmem2 e hm q hq]; rfl
    · intro h
      rw [look_isSome] at h
      obtain ⟨⟨q', v⟩, h6, h7⟩ := List.mem_map.1 h
      dsimp only at h7
      subst h7
      obtain ⟨e, hm, hq, _⟩ := hmem q' v h6
      rw [hcp.has e hm (hall e hm) q' hq]; rfl
  refine ⟨⟨fun k => if k = c then 0 else g.F k, fun k => if k = c then o else g.O k⟩, fun k hk => by dsimp only; rw [if_neg (by omega)], fun k hk => by dsimp only; rw [if_neg (by omega)], ⟨L', hc, ?_, fun q hq => ?_, fun q v hq => ?_, ?_⟩, by simp, by simp⟩
  · rw [← h2]
    obtain ⟨_, _, _, _, _, _, hkn⟩ := h1
    obtain ⟨_, _, _, _, _, _, hkn'⟩ := hc
    have a1 := nodup_le _ _ hkn' (fun q hq => (look_isSome L0 q).1 ((hkeys q).1 ((look_isSome L' q).2 hq)))
    have a2 := nodup_le _ _ hkn (fun q hq => (look_isSome L' q).1 ((hkeys q).2 ((look_isSome L0 q).2 hq)))
    simp only [List.length_map] at a1 a2
    omega
  · refine h3 q ?_
    cases hl : look L0 q with
    | none => rfl
    | some v =>
      have := (hkeys q).2 (by rw [hl]; rfl)
      rw [hq] at this
      cases this
  · obtain ⟨e, hm, hs, hq2⟩ := hcp.only q v hq
    have e1 := hcp.has e hm hs q hq2
    rw [hq] at e1
    injection e1 with e1
    obtain ⟨l, e2, hbat⟩ := h4 q e.val (hmem2 e hm q hq2)
    obtain ⟨A, cap, e3, e4, e5, e6, e7⟩ := hbat.ex
    rw [e3] at e1
    exact ⟨l, A, l.length, e2, e1, hlen q l e2, ⟨e7.ext hx0, Nat.le_refl _, by omega, fun hA => ⟨e6 hA, e6 hA⟩, fun h => absurd h (Nat.lt_irrefl _)⟩⟩
  · intro k k' A n cc A' n' c' h1' h2' _ hlt
    obtain ⟨e, hm, hs, hq2⟩ := hcp.only k _ h1'
    have e1 := hcp.has e hm hs k hq2
    rw [h1'] at e1
    injection e1 with e1
    obtain ⟨l, e2, hbat⟩ := h4 k e.val (hmem2 e hm k hq2)
    obtain ⟨A2, cap, e3, _⟩ := hbat.ex
    rw [e3] at e1
    injection e1 with _ e5 e6
    omega

def CopiedP (o : Nat) (g : Gh) (w : World) (f : Fl) (e : Ending) (w' : World) : Prop :=
  ∃ c g', e = .returned (.map (some c)) ∧ w.heap.size ≤ c ∧ Below w.heap.size w w' ∧ (∀ b, b < w.heap.size → g'.F b = g.F b) ∧ (∀ b, b < w.heap.size → g'.O b = g.O b) ∧ FlAp o g' w' c f
def seenOf (r : Nat) (w : World) : Array Nat := match w.heap[r]? with
  | some (.mapIter _ _ seen _) => seen
  | _ => #[]
theorem run_makeMap_hint {P : Program} (t k e : TypeId) (kd : IntKind) (n : Int) (ht : P.underlying t = some (.map k e)) (w : World) :
    (Instr.makeMap t (some (.int kd n))).run P w = .ok (.map (some w.heap.size)) (w.alloc (.map #[] 0)) := by
  simp [Instr.makeMap, run_underlying ht]; rfl
theorem setBlock_grown (w : World) (r : Nat) (o : Obj) : w.grownBy (ChangeMaps.setBlock w r o) (some r) :=
  ⟨rfl, rfl, rfl, by simp [ChangeMaps.setBlock], fun i _ hne => by
    have hri : r ≠ i := fun e => hne (by rw [e])
    simp [ChangeMaps.setBlock, hri]⟩
theorem setBlock_at {w : World} {r : Nat} {o0 : Obj} (h : w.heap[r]? = some o0) (o : Obj) : (ChangeMaps.setBlock w r o).heap[r]? = some o := by
  have := block_lt h
  simp [ChangeMaps.setBlock, this]

set_option maxRecDepth 100000 in
set_option maxHeartbeats 1600000 in
theorem copied_any (o b : Nat) (g : Gh) (f : Fl) (w : World) (hf : FlRd g w b f) (hlen : ∀ k l, f.m k = some l → l.length ≤ 8388608) (hn : f.n ≤ 1000000) :
    Calls Try.prog 57 #[.map (some b)] w (CopiedP o g w f) := by
  obtain ⟨L, hL, hLn, hL3, hL4⟩ := hf.ex
  have hL' := hL
  obtain ⟨es, clock, hb, he, hbn, hbc, hkn⟩ := hL'
  have hln := fun ty => hL.run_len (P := Try.prog) Try.underlying60 ty
  have hblt := hL.lt
  have hmk := fun (n : Int) (W : World) => run_makeMap_hint (P := Try.prog) 60 9 37 .i64 n Try.underlying60 W
  have hb1 : (w.alloc (.map #[] 0)).heap[b]? = some (.map es clock) := (Below.heap_alloc w _ b hblt).trans hb
  have hrg := run_range_map (P := Try.prog) (w.alloc (.map #[] 0)) 60 9 37 b es clock Try.underlying60 hb1
  have HEND := Lib.hid (fun w' seen L' => @copied_end g w w' b w.heap.size o f es clock seen L L' hf hL hb he)
  have hval : ∀ e ∈ es.toList, ∃ q A n c, e.key = .string q ∧ e.val = .slice A n c ∧ n ≤ c ∧ c ≤ 9223372036854775807 := fun e hm => by
    have h5 : (e.key, e.val) ∈ L.map (fun x => (Value.string x.1, x.2)) := by rw [← he]; exact List.mem_map.2 ⟨e, hm, rfl⟩
    obtain ⟨⟨q, v⟩, h6, h7⟩ := List.mem_map.1 h5
    simp only [Prod.mk.injEq] at h7
    obtain ⟨l, e2, hbat⟩ := hL4 q v (look_mem hkn h6)
    obtain ⟨A, cap, e3, e4, e5, _⟩ := hbat.ex
    exact ⟨q, A, _, cap, h7.1.symm, by rw [← h7.2, e3], e4, by simp only [maxLen] at e5; omega⟩
  have HV := Lib.hid hval
  have HE := Lib.hid he
  have HBN := Lib.hid hbn
  have HBC := Lib.hid hbc
  have HKN := Lib.hid hkn
  have HLEN := Lib.hid hlen
  have hLb : L.length ≤ 1000000 := by omega
  have HB0 := Lib.hid hb
  clear hf hL hLn hL3 hL4 hb he hbn hbc hkn hval hlen hn
  go_enter Try.func57, Try.ntmps57
  go_wp2_with fail
  clear hln hmk hrg
  go_loopw [11] (fun _ wr => ∃ seen L' last, wr.heap[w.heap.size + 1]? = some (.mapIter (some b) clock seen last) ∧ clock ≤ last ∧ wr.heap[b]? = some (.map es clock) ∧ MapIs w.heap.size L' wr ∧ Copying es seen L' ∧ Below w.heap.size w wr ∧ seenOf (w.heap.size + 1) wr = seen) (fun _ wr => (leftOf es (seenOf (w.heap.size + 1) wr)).size)
  case atStart =>
    have q1 : ((w.alloc (.map #[] 0)).alloc (.mapIter (some b) clock #[] clock)).heap[w.heap.size + 1]? = some (.mapIter (some b) clock #[] clock) := by
      have := heap_alloc_new (w.alloc (.map #[] 0)) (.mapIter (some b) clock #[] clock)
      simpa using this
    refine ⟨#[], [], clock, q1, Nat.le_refl _, (Below.heap_alloc _ _ b (by simp; omega)).trans hb1, (MapIs.new w).alloc _, ⟨fun e _ h => by simp at h, fun q v h => by simp [look] at h⟩, ((Below.refl _ _).alloc (Nat.le_refl _) _).alloc (by simp) _, ?_⟩
    unfold seenOf
    rw [q1]
  case round =>
    obtain ⟨seen, L', last, hit, hlast, hmb, hmc, hcp, hbel, hseen⟩ := hrel
    rcases run_next_at (P := Try.prog) wr 0 (w.heap.size + 1) b clock last seen es clock hit hmb HBC.out hlast with ⟨h0, hnx⟩ | ⟨e, hel, w1, hw1, hnx⟩
    · obtain ⟨g', hF, hO, hfl⟩ := HEND.out wr seen L' hbel hmc hcp (all_seen es seen h0) HLEN.out (Nat.le_refl _)
      have HFL := Lib.hid hfl
      have HF := Lib.hid hF
      have HO := Lib.hid hO
      clear HEND hfl hF hO hit hmb hmc hcp
      go_wp2_with fail
      go_ret
      exact ⟨w.heap.size, g', rfl, Nat.le_refl _, hbel, HF.out, HO.out, HFL.out⟩
    · obtain ⟨hem, hens⟩ := mem_left hel
      obtain ⟨q, A, n, c, hq, hv, hnc, hcm⟩ := HV.out e hem
      have hshr := left_shrinks es seen e hel
      have hw1h : w1.heap = wr.heap := by rcases hw1 with rfl | rfl <;> rfl
      have hg1 := setBlock_grown w1 (w.heap.size + 1) (.mapIter (some b) clock (seen.push e.born) clock)
      have hit1 := setBlock_at (w := w1) (r := w.heap.size + 1) (by rw [hw1h]; exact hit) (.mapIter (some b) clock (seen.push e.born) clock)
      have hbw1 : Below w.heap.size w w1 := by
        rcases hw1 with rfl | rfl
        · exact hbel
        · exact hbel.drew
      have hsz1 : w1.heap.size = wr.heap.size := by rw [hw1h]
      have hlt1 := block_lt hit
      generalize hW : ChangeMaps.setBlock w1 (w.heap.size + 1) (.mapIter (some b) clock (seen.push e.born) clock) = W at hnx hg1 hit1
      have hmbW : W.heap[b]? = some (.map es clock) := (hg1.block b (by omega) (fun h => by injection h; omega)).trans (by rw [hw1h]; exact hmb)
      have hmcW : MapIs w.heap.size L' W := hmc.of_block ((hg1.block _ (by omega) (fun h => by injection h; omega)).trans (by rw [hw1h]))
      have hbW : Below w.heap.size w W := hbw1.grown hg1 (by omega) (fun k hk => by injection hk; omega)
      have hen := run_entry_at (P := Try.prog) W (w.heap.size + 1) b clock seen es clock e hit1 hmbW hem HBN.out
      rw [hq, hv] at hnx hen
      have hcp1 := hcp.step HE.out HKN.out HBN.out hem hq
      rw [hv] at hcp1
      have HCP := Lib.hid hcp1
      have HMC := Lib.hid hmcW
      have HIT := Lib.hid hit1
      have HMB := Lib.hid hmbW
      have HSH := Lib.hid hshr
      have HSN := Lib.hid hseen
      have hszW := hg1.size
      clear hit hmb hmc hcp hel hw1 hem hens hq hv hw1h hg1 hit1 hW hmbW hmcW hcp1 hshr hseen
      go_wp2_with fail
      refine (clip_any A n c _ hnc hcm).mono ?_
      rintro e1 w2 ⟨rfl, rfl⟩
      go_wp2_with (with_reducible refine wpList_put rfl (.tmp 16) (.tmp 17) (.tmp 19) 60 rfl 9 37 Try.underlying60 Try.underlying9 w.heap.size L' rfl HMC.out q rfl (.slice A n n) rfl ?_; intro w3 hm3 hg3)
      go_frame
      go_roundw
      case rel =>
        refine ⟨seen.push e.born, _, clock, (hg3.block _ (by omega) (fun h => by injection h; omega)).trans HIT.out, Nat.le_refl _, (hg3.block _ (by omega) (fun h => by injection h; omega)).trans HMB.out, hm3, HCP.out, hbW.grown hg3 (by omega) (fun k hk => by injection hk; omega), ?_⟩
        unfold seenOf
        rw [(hg3.block _ (by omega) (fun h => by injection h; omega)).trans HIT.out]
      case measure =>
        have e1 : seenOf (w.heap.size + 1) w3 = seen.push e.born := by
          unfold seenOf
          rw [(hg3.block _ (by omega) (fun h => by injection h; omega)).trans HIT.out]
        rw [e1, HSN.out]
        exact HSH.out

end Go.Proofs.Ythjbaafbkalomaa
