/-
  maps.Values of the table's map: the leases come, each once, in some order.
-/
import Derived.Test.YtphoodnclmplhaaDoorLs
import Derived.Test.YtphoodnclmplhaaDoorRngL
import Derived.RangeFuncNested
import Derived.RangeFuncBound
import Derived.RangeFuncCalls
import Derived.RangeFuncLeaves
import Derived.RangeFuncGives
import Derived.OwnWalkIn
import Derived.TacticsInMore
import Derived.RegionIn
import Derived.LoopNIn
import Derived.LoopIn
namespace Go.Proofs.YtphoodnclmplhaaDoor
open Go.RowKit
attribute [local go_sem] Oper.semAt_some

def strV : Value → ByteArray
  | .string s => s
  | _ => ⟨#[]⟩
def cellV (v : Value) (i : Nat) : Value := match v with
  | .agg cs => cs.getD i undef
  | _ => undef
theorem encL_inj {V L : List (ByteArray × Lease)} (h : (encL V).Perm (encL L)) : V.Perm L := by
  have := h.map (fun x : ByteArray × Value => (x.1, (⟨strV (cellV x.2 0), strV (cellV x.2 1), intOf (cellV x.2 2), intOf (cellV x.2 3), intOf (cellV x.2 4)⟩ : Lease)))
  simp only [encL, List.map_map, Function.comp_def] at this
  have e : ∀ l : List (ByteArray × Lease), l.map (fun x => (x.1, (⟨strV (cellV x.2.val 0), strV (cellV x.2.val 1), intOf (cellV x.2.val 2), intOf (cellV x.2.val 3), intOf (cellV x.2.val 4)⟩ : Lease))) = l := fun l => by
    conv => rhs; rw [← List.map_id l]
    exact List.map_congr_left fun x _ => rfl
  rw [e, e] at this
  exact this
theorem Rng.walks {b r clock : Nat} {es : Array MapEntry} {V : List (ByteArray × Value)} {w w' : World} (h : Rng b r clock es V w) (hk : KeepsWalks w w') : Rng b r clock es V w' := by
  obtain ⟨⟨seen, last, a, c, d⟩, e⟩ := h
  exact ⟨⟨seen, last, hk.same r _ a rfl, c, d⟩, hk.same b _ e rfl⟩
theorem below_alloc1 (w : World) (o : Obj) : Below w.heap.size w (w.alloc o) := (Below.refl _ _).alloc (Nat.le_refl _) _
theorem grown_drew (w : World) (row : Option Nat) : w.grownBy w.drew row := ⟨rfl, rfl, rfl, Nat.le_refl _, fun _ _ _ => rfl⟩
theorem grown_alloc (w : World) (o : Obj) (row : Option Nat) : w.grownBy (w.alloc o) row := ⟨rfl, rfl, rfl, by simp, fun k hk _ => Below.heap_alloc w o k hk⟩

set_option maxRecDepth 100000 in
set_option maxHeartbeats 2000000 in
theorem vals1_in (F : Fence) (n : Nat) (hf : F.fn 55) (hro : F.round = none) (hn : 1 ≤ n) (l Bm b : Nat) (L : List (ByteArray × Lease)) (J Jx : List Lease → World → Prop)
    (hY : ∀ pre x W, J pre W → pre.length < L.length → YieldAt F (n - 1) Tryd.prog l #[x.val] W fun e W' => (e = .returned (.bool true) ∧ J (pre ++ [x]) W' ∧ KeepsWalks W W') ∨ (e = .returned (.bool false) ∧ Jx (pre ++ [x]) W'))
    (W : World) (hJ : AbidesFrom W.heap.size J) (hm : W.cell? ⟨Bm, 0, none⟩ = some (.map (some b))) (hmap : MapIs b (encL L) W) (h0 : J [] W) :
    CallsIn F n Tryd.prog 55 #[.func (.yield l) #[] #[], .pointer (some ⟨Bm, 0, none⟩)] W fun e W' => (∃ v, e = .returned v) ∧ ((∃ xs, xs.Perm (L.map (·.2)) ∧ J xs W') ∨ (∃ pre, True ∧ Jx pre W')) := by
  have hbl := hmap.lt
  obtain ⟨es, clock, hb, he, hbn, hbc, hkn⟩ := hmap
  have hu := unk_list he
  have hk := unk_key he
  have HBN := Lib.hid hbn
  have HBC := Lib.hid hbc
  have HK := Lib.hid hk
  have HU := Lib.hid hu
  have HJ := Lib.hid hJ
  have HY := Lib.hid hY
  have hrg := run_range_map (P := Tryd.prog) W 53 9 34 b es clock Tryd.underlying53 hb
  have hb2 : (W.alloc (.mapIter (some b) clock #[] clock)).heap[b]? = some (.map es clock) := (Below.heap_alloc W _ b hbl).trans hb
  have hr2 : (W.alloc (.mapIter (some b) clock #[] clock)).heap[W.heap.size]? = some (.mapIter (some b) clock #[] clock) := heap_alloc_new W _
  have HRNG := Lib.hid (Rng.start hr2 hb2)
  have HJ0 := Lib.hid (hJ [] W (W.alloc (.mapIter (some b) clock #[] clock)) none h0 (grown_alloc _ _ _) (fun r e => by cases e))
  clear he hbn hbc hkn hk hu hJ hY hb hb2 hr2 h0
  refine callsIn_of_wp Tryd.func55 rfl hf ?_ hro
  simp only [Tryd.ntmps55, List.size_toArray, List.length_cons, List.length_nil, Nat.reduceAdd, Nat.reduceSub, Array.replicate_succ, Array.replicate_zero, List.push_toArray, List.append_toArray, List.nil_append, List.cons_append]
  gi_wp2
  clear hrg
  generalize W.alloc (.mapIter (some b) clock #[] clock) = W1 at *
  have hmr : b ≠ W.heap.size := by omega
  gi_loopw [4] (fun _ wr => ∃ V : List (ByteArray × Lease), Rng b W.heap.size clock es (encL V) wr ∧ J (V.map (·.2)) wr) (fun _ wr => (leftOf es (seenOf W.heap.size wr)).size)
  case atStart => exact ⟨[], HRNG.out, HJ0.out⟩
  case round =>
    obtain ⟨V, hrng, hjv⟩ := hrel
    have HM : Hid ((leftOf es (seenOf W.heap.size wr)).size = es.size - (encL V).length) := hrng.left
    have hBm : wr.heap.size = wr.heap.size := rfl
    rcases hrng.step (P := Tryd.prog) 0 HBN.out HBC.out HK.out hmr with ⟨hperm, hnx⟩ | ⟨x, W2, hx, hlt, hnx, hen, hr', w3, hw3, hg3⟩
    · rw [HU.out] at hperm
      have HP := Lib.hid ((encL_inj hperm).map (·.2))
      have HJV := Lib.hid hjv
      clear hperm hrng hjv HRNG HJ0 hBm
      gi_wp2
      go_end0
      exact ⟨⟨_, rfl⟩, .inl ⟨_, HP.out, HJV.out⟩⟩
    · rw [HU.out] at hx
      obtain ⟨⟨q, ⟨lp, lh, lf, ls, lu⟩⟩, hxm, rfl⟩ := List.mem_map.1 hx
      dsimp only [Lease.val] at hnx hen hr'
      have hj2 : J (V.map (·.2)) W2 := by
        have h1 : J (V.map (·.2)) w3 := by
          rcases hw3 with rfl | rfl
          · exact hjv
          · exact HJ.out _ _ _ none hjv (grown_drew _ _) (fun r e => by cases e)
        refine HJ.out _ _ _ _ h1 hg3 (fun r e => ?_)
        injection e with e
        subst e
        obtain ⟨seen, last, a, _, _⟩ := hrng.it
        have hw3h : w3.heap = wr.heap := by rcases hw3 with rfl | rfl <;> rfl
        exact ⟨Nat.le_refl _, _, by rw [hw3h]; exact a, rfl⟩
      have hj3 : J (V.map (·.2)) (W2.alloc (.cells #[.string lp, .string lh, .int .i64 lf, .int .i64 ls, .int .i64 lu] 34)) := HJ.out _ _ _ none hj2 (grown_alloc _ _ _) (fun r e => by cases e)
      have hvl : (V.map (·.2)).length < L.length := by
        have h1 := congrArg List.length HU.out
        simp only [List.length_map, Array.length_toList, encL] at h1 hlt ⊢
        omega
      obtain ⟨fn, tmps, assign, body, hy, hR⟩ := HY.out _ ⟨lp, lh, lf, ls, lu⟩ _ hj3 hvl
      dsimp only [Lease.val] at hy
      have HR := Lib.hid hR
      have hr3 : Rng b W.heap.size clock es (encL (V ++ [(q, ⟨lp, lh, lf, ls, lu⟩)])) (W2.alloc (.cells #[.string lp, .string lh, .int .i64 lf, .int .i64 ls, .int .i64 lu] 34)) := by
        have e : encL (V ++ [(q, ⟨lp, lh, lf, ls, lu⟩)]) = encL V ++ [(q, .agg #[.string lp, .string lh, .int .i64 lf, .int .i64 ls, .int .i64 lu])] := by simp [encL, Lease.val]
        rw [e]
        exact hr'.of (Below.heap_alloc _ _ _ hr'.lt) (Below.heap_alloc _ _ _ (block_lt hr'.mb))
      have HR3 := Lib.hid hr3
      have HVL : Hid (V.length < es.size) := by
        have := hlt
        show _ < _
        simpa [encL] using this
      clear hrng hjv hx hxm hr' hw3 hg3 hj2 hj3 hvl hR hr3 hlt HRNG HJ0 hBm
      gi_wp2
      refine HR.out.mono ?_
      rintro e W4 (⟨rfl, hJ4, hk4⟩ | ⟨rfl, hJx⟩)
      rotate_left
      · have HJX := Lib.hid hJx
        clear hy hJx HR HR3 hnx hen
        gi_wp2
        refine bodyPost_ret (results_none rfl _ _ _) rfl ?_
        exact ⟨⟨_, rfl⟩, .inr ⟨_, trivial, HJX.out⟩⟩
      have HJ4 := Lib.hid hJ4
      have HR4 := Lib.hid (HR3.out.walks hk4)
      clear hy hk4 hJ4 HR HR3 hnx hen
      gi_wp2
      go_roundw
      case rel => exact ⟨V ++ [(q, ⟨lp, lh, lf, ls, lu⟩)], HR4.out, by simpa using HJ4.out⟩
      case measure =>
        have h1 := HR4.out.left
        have h2 := HM.out
        have h3 := HVL.out
        simp only [encL, List.length_map, List.length_append, List.length_cons, List.length_nil] at h1 h2
        show (leftOf es (seenOf W.heap.size W4)).size < _
        omega

theorem values_stops (F : Fence) (n : Nat) (hf : F.fn 55) (hro : F.round = none) (hn : 1 ≤ n) (Bm b : Nat) (L : List (ByteArray × Lease)) (w : World) (hBm : Bm < w.heap.size) (hm : w.cell? ⟨Bm, 0, none⟩ = some (.map (some b))) (hmap : MapIs b (encL L) w) :
    SeqStopsK F n Tryd.prog 55 #[.pointer (some ⟨Bm, 0, none⟩)] (fun x : Lease => #[x.val]) KeepsWalks (fun xs => xs.Perm (L.map (·.2))) (fun _ => True) L.length w := fun l J Jx W hW hJ _ hY h0 =>
  vals1_in F n hf hro hn l Bm b L J Jx hY W hJ ((hW.cell (p := ⟨Bm, 0, none⟩) hBm).trans hm) (hmap.below hW hmap.lt) h0

set_option maxHeartbeats 1000000 in
theorem values_in (F : Fence) (n : Nat) (hf : F.fn 44) (hro : F.round = none) (mb : Option Nat) (w : World) :
    CallsIn F n Tryd.prog 44 #[.map mb] w fun e w' => e = .returned (.func (.func 55) #[] #[.pointer (some ⟨w.heap.size, 0, none⟩)]) ∧ w' = w.alloc (.cells #[.map mb] 53) := by
  refine callsIn_of_wp Tryd.func44 rfl hf ?_ hro
  simp only [Tryd.ntmps44, List.size_toArray, List.length_cons, List.length_nil, Nat.reduceAdd, Nat.reduceSub, Array.replicate_succ, Array.replicate_zero, List.push_toArray, List.append_toArray, List.nil_append, List.cons_append]
  gi_wp2
  go_ret
  exact ⟨rfl, rfl⟩

end Go.Proofs.YtphoodnclmplhaaDoor
