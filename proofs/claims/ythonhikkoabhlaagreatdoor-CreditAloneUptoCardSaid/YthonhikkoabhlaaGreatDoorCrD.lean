/-
  The walk of the set's list.
-/
import Derived.Test.YthonhikkoabhlaaGreatDoorCrC
import Derived.Test.YthonhikkoabhlaaGreatDoorCrL
namespace Go.Proofs.YthonhikkoabhlaaGreatDoor
open Go.RowKit

set_option maxHeartbeats 1000000 in
theorem insNone (p : Option Addr) (cap : Nat) (fv : Value) (w : World) : Calls Tryz.prog 68 #[.slice p 0 cap, .int .i64 0, .int .i64 0, fv] w fun e w' => e = .returned (.tuple #[]) ∧ w' = w := by
  go_enter Tryz.func68, Tryz.ntmps68
  go_wp2
  refine wp_loop_rounds 1 ?_
  rw [rounds_succ]
  go_wp2
  go_end0
  exact ⟨rfl, rfl⟩
set_option maxHeartbeats 1000000 in
theorem pdqNone (p : Option Addr) (cap : Nat) (lim : Int) (fv : Value) (w : World) : Calls Tryz.prog 59 #[.slice p 0 cap, .int .i64 0, .int .i64 0, .int .i64 lim, fv] w fun e w' => e = .returned (.tuple #[]) ∧ w' = w := by
  go_enter Tryz.func59, Tryz.ntmps59
  go_wp2
  refine wp_loop_rounds 1 ?_
  rw [rounds_succ]
  go_wp2_with (go_at_call 68; refine (insNone _ _ _ _).mono ?_; rintro e w' ⟨rfl, rfl⟩)
  (try simp only [Exit.inBlock, Exit.then]); refine bodyPost_ret (results_none rfl _ _ _) rfl ?_
  exact ⟨rfl, rfl⟩
set_option maxHeartbeats 1000000 in
theorem sortNone (cap : Nat) (fv : Value) (w : World) : Calls Tryz.prog 42 #[.slice none 0 cap, fv] w fun e w' => e = .returned (.tuple #[]) ∧ w' = w := by
  go_enter Tryz.func42, Tryz.ntmps42
  go_wp2_with (first
    | (go_at_call 60; refine (Tryz.bits_Len 0 _ (by omega) (by omega)).mono ?_; rintro e w' ⟨rfl, rfl⟩)
    | (go_at_call 59; refine (pdqNone _ _ _ _ _).mono ?_; rintro e w' ⟨rfl, rfl⟩))
  go_end0
  exact ⟨rfl, rfl⟩

theorem Tryz.infoFile : (Tryz.prog.info? 47).map (fun i => (i.zero, i.size, i.bytes)) = some (some (.agg #[.string ⟨#[]⟩, .int .i64 0]), 2, 24) := by kernel_rfl
/-- A list of revisions in order, in memory that was there or is new. -/
def ListRet (S : Fil → Prop) (w : World) (e : Ending) (w' : World) : Prop := ∃ (L : List Fil) (A : Option Addr) (c : Nat), e = .returned (.slice A L.length c) ∧ filK.In A L w' ∧ SrtF L ∧ (∀ f, f ∈ L ↔ S f) ∧ Below w.heap.size w w'
set_option maxRecDepth 100000 in
set_option maxHeartbeats 3200000 in
theorem list_any (b : Nat) (S : Fil → Prop) (w : World) (hb : SetIs b S w) (hok : ∀ f, S f → okV f = true) (hfew : ∀ L : List Fil, L.Nodup → (∀ f ∈ L, S f) → L.length ≤ 512) :
    Calls Tryz.prog 29 #[.map (some b)] w (ListRet S w) := by
  obtain ⟨L, hL, hLS⟩ := hb
  obtain ⟨i0, hi0, hz0, hz1, hz2⟩ := info_parts Tryz.infoFile
  obtain ⟨es, clock, hes, hme⟩ := hL.open_
  have hcl := hL.lt
  have hnd : L.Nodup := by
    have := hL.nodup
    rw [List.map_map] at this
    simpa [Function.comp_def] using this
  have hln : L.length ≤ 512 := hfew L hnd fun f hf => (hLS f).1 hf
  have hess : es.size = L.length := by rw [hme.size]; simp
  have HESS := Lib.hid hess
  have hrg := run_range_map (P := Tryz.prog) w 80 47 4 b es clock Tryz.underlying80 hes
  have hb2 : (w.alloc (.mapIter (some b) clock #[] clock)).heap[b]? = some (.map es clock) := (Below.heap_alloc w _ b hcl).trans hes
  have hr2 : (w.alloc (.mapIter (some b) clock #[] clock)).heap[w.heap.size]? = some (.mapIter (some b) clock #[] clock) := heap_alloc_new w _
  have HRNG := Lib.hid (KR.start (T := filT) hr2 hb2)
  have HB := Lib.hid ((Below.refl w.heap.size w).alloc (Nat.le_refl _) (.mapIter (some b) clock #[] clock))
  have HME := Lib.hid hme
  have HLS := Lib.hid hLS
  have HND := Lib.hid hnd
  have HOK := Lib.hid hok
  have hsz2 : w.heap.size < (w.alloc (.mapIter (some b) clock #[] clock)).heap.size := by simp
  clear hL hes hme hb2 hr2 hLS hnd hok hfew hess
  go_enter Tryz.func29, Tryz.ntmps29
  go_wp2_with fail
  clear hrg
  generalize w.alloc (.mapIter (some b) clock #[] clock) = w2 at *
  have hmr : b ≠ w.heap.size := by omega
  go_loopw [3, 4] (fun sv _ wr => ∃ (V : List Fil) (x0 : Value), sv = x0 ∧ KR filT b w.heap.size clock es (V.map fun f => (f, Value.bool true)) wr ∧ wr.ownsRow (w.heap.size + 1) 47 2 x0 V.length (filK.flat V) ∧ Below w.heap.size w wr ∧ w.heap.size < wr.heap.size ∧ Hid (V = [] → x0 = .slice none 0 0)) (fun _ _ wr => (leftOf es (rgSeen w.heap.size wr)).size)
  case atStart => exact ⟨[], _, rfl, HRNG.out, World.ownsRow_nil _ _ _ _, HB.out, hsz2, (fun _ => rfl : _ → _)⟩
  case round =>
    obtain ⟨V, x0, rfl, hrng, hown, hbel, hszr, hnil⟩ := hrel
    have HM : Hid ((leftOf es (rgSeen w.heap.size wr)).size = es.size - V.length) := by
      have := hrng.left
      show _ = _
      simpa using this
    have HOW := Lib.hid hown
    have HBW := Lib.hid hbel
    rcases hrng.step HME.out 0 hmr with ⟨hperm, hnx⟩ | ⟨x, W, hx, hlt, hnx, hen, hr', ⟨w3, hw3, hg3⟩, hsz⟩
    · have hp := map_perm_inj (fun _ _ e => congrArg Prod.fst e) hperm
      have HV : Hid ((∀ f ∈ V, okV f = true) ∧ V.Nodup ∧ V.length ≤ 512 ∧ ∀ f, f ∈ V ↔ S f) := ⟨fun f hf => HOK.out f ((HLS.out f).1 (hp.mem_iff.1 hf)), hp.symm.nodup HND.out, by rw [hp.length_eq]; exact hln, fun f => by rw [hp.mem_iff, HLS.out f]⟩
      clear hperm hrng hp hown hbel
      cases V with
      | nil =>
        have hnn := hnil.out rfl
        subst hnn
        go_wp2_with fail
        refine (sortNone 0 _ wr).mono ?_
        rintro e w4 ⟨rfl, rfl⟩
        go_wp2_with fail
        go_ret
        exact ⟨[], none, 0, rfl, RowK.In.nil _ _, List.Pairwise.nil, HV.out.2.2.2, HBW.out⟩
      | cons f V =>
        obtain ⟨g, cp, rfl⟩ : ∃ g cp, u3 = .slice (some ⟨g, 0, none⟩) (f :: V).length cp := by
          rcases HOW.out.2 with ⟨h0, h1⟩ | ⟨g, cp, cs, h3, _⟩
          · simp at h1
          · exact ⟨g, cp, h3⟩
        have hcs := callsSortF (f :: V) (f :: V).length g cp wr HV.out.1 HV.out.2.1 rfl (by have := HV.out.2.2.1; omega) _ HOW.out
        obtain ⟨n, hn⟩ : ∃ n, n = (f :: V).length := ⟨_, rfl⟩
        have HN := Lib.hid hn
        rw [← hn] at hcs ⊢
        have HCS := Lib.hid hcs
        clear hcs hn
        go_wp2_with fail
        refine HCS.out.mono ?_
        rintro e w4 ⟨rfl, S', hp, hs, hat, hgl, hb4⟩
        have HE : Hid (S'.length = n ∧ filK.In (some ⟨g, 0, none⟩) S' w4 ∧ SrtF S' ∧ (∀ f, f ∈ S' ↔ S f) ∧ Below w.heap.size w w4) := ⟨hp.length_eq.trans HN.out.symm, fun _ => ⟨g, 0, rfl, hgl, hat⟩, hs, fun x => by rw [hp.mem_iff]; exact HV.out.2.2.2 x, HBW.out.trans (hb4.mono (by omega))⟩
        clear hp hs hat hb4
        go_wp2_with fail
        go_ret
        exact ⟨S', _, cp, by rw [HE.out.1]; rfl, HE.out.2.1, HE.out.2.2.1, HE.out.2.2.2.1, HE.out.2.2.2.2⟩
    · obtain ⟨⟨p, n⟩, hf, rfl⟩ := List.mem_map.1 hx
      dsimp only [filT, fileV] at hnx hen
      have hw3h : w3.heap = wr.heap := by rcases hw3 with rfl | rfl <;> rfl
      have hk3 : Below w.heap.size w w3 := by
        rcases hw3 with rfl | rfl
        · exact hbel
        · exact hbel.drew
      have hbW : Below w.heap.size w W := hk3.grown hg3 hk3.size (fun k e => by injection e; omega)
      have hown3 : w3.ownsRow (w.heap.size + 1) 47 2 u3 V.length (filK.flat V) := by
        rcases hw3 with rfl | rfl
        · exact hown
        · exact hown.drew
      have hownW := hown3.kept hg3 (by
        cases hb : u3.ownBlock with
        | none => exact .inl rfl
        | some g => exact .inr (fun e => by injection e with e; have := (hown3.lt g hb).1; omega))
      have HBW2 := Lib.hid ((hbW.alloc hbW.size (.cells #[.string p, .int .i64 n] 47)).alloc (by have := hbW.size; simp; omega) (.cells #[.string p, .int .i64 n] 47))
      have HOW2 := Lib.hid ((hownW.alloc (.cells #[.string p, .int .i64 n] 47)).alloc (.cells #[.string p, .int .i64 n] 47))
      have HRW := Lib.hid ((hr'.of (Below.heap_alloc W (.cells #[.string p, .int .i64 n] 47) _ hr'.ltr) (Below.heap_alloc W (.cells #[.string p, .int .i64 n] 47) _ hr'.ltb)))
      have HRW2 := Lib.hid ((HRW.out.of (Below.heap_alloc _ (.cells #[.string p, .int .i64 n] 47) _ HRW.out.ltr) (Below.heap_alloc _ (.cells #[.string p, .int .i64 n] 47) _ HRW.out.ltb)))
      have HLIT := Lib.hid (filK.lit2 W (.cells #[.string p, .int .i64 n] 47) (p, n) 47)
      have hV : V.length < es.size := by simpa using hlt
      have hes := HESS.out
      have hszW : w.heap.size < W.heap.size := by have := hr'.ltr; omega
      have HVL := Lib.hid hV
      clear hrng hx hlt hr' hw3 hg3 hw3h hk3 hbW hf hown hbel hown3 hownW hnil HRW hsz
      go_wp2_with (at_builtin; refine wpList_append_own_at _ rfl _ _ 30 rfl (w.heap.size + 1) 47 i0 (.agg #[.string ⟨#[]⟩, .int .i64 0]) 2 24 Tryz.underlying30 hi0 hz0 hz1 hz2 rfl (by decide) u3 _ _ rfl HOW2.out ⟨W.heap.size + 1, 0, none⟩ 1 1 [.string p, .int .i64 n] rfl rfl HLIT.out.1 HLIT.out.2 (by unfold maxLen; omega) (by omega) (by simp; omega) ?_; intro v' w4 ho4 hg4 _ _)
      have hne : ∀ k, w.heap.size + 1 > k → some k ≠ u3.ownBlock := fun k hk e => by have := (HOW2.out.lt k e.symm).1; omega
      have h4 := HRW2.out.of (hg4.block _ HRW2.out.ltr (hne _ (by omega))) (hg4.block _ HRW2.out.ltb (hne _ (by omega)))
      go_roundw
      case rel =>
        refine ⟨V ++ [(p, n)], v', rfl, by simpa using h4, ?_, HBW2.out.grown hg4 HBW2.out.size (fun k e => by have := (HOW2.out.lt k e).1; omega), Nat.lt_of_lt_of_le (by simp; omega) hg4.size, (fun h => by simp at h : _ → _)⟩
        rw [List.length_append, RowK.flat_append, RowK.flat_one]
        exact ho4
      case measure =>
        have h5 := h4.left
        have h6 := HVL.out
        rw [HM.out, h5]
        simp
        omega
end Go.Proofs.YthonhikkoabhlaaGreatDoor
