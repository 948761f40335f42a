/-
  Sets of revisions in memory; the walks of both functions that add one set to another.
-/
import Derived.Test.YthonhikkoabhlaaGreatDoorCrK
import Derived.Test.YthonhikkoabhlaaGreatDoorCrP
import Derived.Maps.Own
import Derived.DeepKeys4
namespace Go.Proofs.YthonhikkoabhlaaGreatDoor
open Go.RowKit

theorem fil_keyed : Maps.Keyed Tryz.prog 47 := Maps.Keyed.of_law (deep_law_laid Tryz.laidOut (m := 10) (by decide) (of_decide_eq_true (by kernel_rfl)) (by kernel_rfl) (by kernel_rfl))
theorem fil_key (s : ByteArray) (n : Int) (hs : s.size ≤ maxLen) (hn : (Lit.int .i64 n).wf = true) : ∃ l, keyOf Tryz.prog 47 (.agg #[.string s, .int .i64 n]) = some l := by
  obtain ⟨m, hm⟩ : ∃ m, Tryz.prog.types.size = m + 1 := ⟨Tryz.prog.types.size - 1, by kernel_rfl⟩
  have h1 : (Tryz.prog.keyType 47 && (Value.agg #[.string s, .int .i64 n]).formed Tryz.prog 47) = true := by kernel_rfl
  have hc : Tryz.prog.cellsOf 47 = 2 := by kernel_rfl
  have hcs : Tryz.prog.cellsOf 9 = 1 := by kernel_rfl
  have hci : Tryz.prog.cellsOf 3 = 1 := by kernel_rfl
  have hu := Tryz.underlying47
  refine ⟨.string (keyBytes [.string s.data.toList, .int .i64 n]), ?_⟩
  unfold keyOf
  simp only [hu]
  rw [if_pos h1, hm]
  unfold Program.keyLits
  simp only [hu, Value.cells]
  rw [if_pos ⟨by rw [hc]; rfl, by kernel_rfl⟩]
  simp [Program.keyLits, Tryz.underlying9, Tryz.underlying3, hcs, hci, hs, hn]
/-- A name that is short enough to be a key. -/
def FOk (f : Fil) : Prop := f.1.size ≤ 4294967281 ∧ (Lit.int .i64 f.2).wf = true
def filT : KeyT Tryz.prog 47 Fil where
  val := fileV
  ok := FOk
  inj h := by
    unfold fileV at h
    injection h with h
    injection h with h
    injection h with h1 h2
    injection h2 with h2 _
    injection h1 with h1
    injection h2 with _ h2
    exact Prod.ext h1 h2
  lit h := fil_key _ _ (Nat.le_trans h.1 (by unfold maxLen; omega)) h.2
  law := fil_keyed

/-- What was there is as it was, but for some blocks. -/
structure Kp (S : Nat → Prop) (w w' : World) : Prop where
  os : w'.os = w.os
  tape : w'.tape = w.tape
  output : w'.output = w.output
  size : w.heap.size ≤ w'.heap.size
  block : ∀ b, b < w.heap.size → ¬ S b → w'.heap[b]? = w.heap[b]?
section
variable {S S' : Nat → Prop} {w w' w'' : World}
theorem Kp.refl (S : Nat → Prop) (w : World) : Kp S w w := ⟨rfl, rfl, rfl, Nat.le_refl _, fun _ _ _ => rfl⟩
theorem Kp.trans (h : Kp S w w') (k : Kp S w' w'') : Kp S w w'' := ⟨k.os.trans h.os, k.tape.trans h.tape, k.output.trans h.output, Nat.le_trans h.size k.size, fun b hb hS => (k.block b (Nat.lt_of_lt_of_le hb h.size) hS).trans (h.block b hb hS)⟩
theorem Kp.weaken (h : Kp S w w') (hS : ∀ b, b < w.heap.size → S b → S' b) : Kp S' w w' := ⟨h.os, h.tape, h.output, h.size, fun b hb hn => h.block b hb fun hs => hn (hS b hb hs)⟩
theorem Kp.of_below {B : Nat} (h : Below B w w') (hB : w.heap.size ≤ B) : Kp S w w' := ⟨h.os, h.tape, h.output, h.size, fun b hb _ => h.block b (Nat.lt_of_lt_of_le hb hB)⟩
theorem Kp.of_grown {row : Option Nat} (h : w.grownBy w' row) (hS : ∀ b, row = some b → S b) : Kp S w w' := ⟨h.os, h.tape, h.output, h.size, fun b hb hn => h.block b hb fun e => hn (hS b e.symm)⟩
theorem Kp.alloc (h : Kp S w w') (o : Obj) : Kp S w (w'.alloc o) := h.trans (.of_below ((Below.refl _ _).alloc (Nat.le_refl _) o) (Nat.le_refl _))
theorem Kp.grown {row : Option Nat} (h : Kp S w w') (hg : w'.grownBy w'' row) (hS : ∀ b, row = some b → S b ∨ w.heap.size ≤ b) : Kp S w w'' :=
  ⟨hg.os.trans h.os, hg.tape.trans h.tape, hg.output.trans h.output, Nat.le_trans h.size hg.size, fun b hb hn =>
    (hg.block b (Nat.lt_of_lt_of_le hb h.size) fun e => (hS b e.symm).elim hn fun h => absurd hb (by omega)).trans (h.block b hb hn)⟩
theorem Kp.fresh (h : Kp S w w') (hk : Kp S' w' w'') (hS : ∀ b, S' b → w.heap.size ≤ b) : Kp S w w'' :=
  ⟨hk.os.trans h.os, hk.tape.trans h.tape, hk.output.trans h.output, Nat.le_trans h.size hk.size, fun b hb hn =>
    (hk.block b (Nat.lt_of_lt_of_le hb h.size) fun e => absurd hb (Nat.not_lt.2 (hS b e))).trans (h.block b hb hn)⟩
theorem Kp.drew (h : Kp S w w') : Kp S w w'.drew := ⟨h.os, h.tape, h.output, h.size, h.block⟩
theorem Kp.below {B : Nat} (h : Kp S w w') (hS : ∀ b, b < B → ¬ S b) (hB : B ≤ w.heap.size) : Below B w w' := ⟨h.os, h.tape, h.output, h.size, fun b hb => h.block b (Nat.lt_of_lt_of_le hb hB) (hS b hb)⟩
theorem Kp.cell (h : Kp S w w') {b : Nat} (hb : b < w.heap.size) (hS : ¬ S b) (o : Nat) : w'.cell? ⟨b, o, none⟩ = w.cell? ⟨b, o, none⟩ := by simp [World.cell?, h.block b hb hS]
end

/-- Block b is a set of these revisions. -/
def SetIs (b : Nat) (S : Fil → Prop) (w : World) : Prop := ∃ L : List Fil, KM filT b (L.map fun f => (f, Value.bool true)) w ∧ ∀ f, f ∈ L ↔ S f
theorem SetIs.lt {b : Nat} {S : Fil → Prop} {w : World} (h : SetIs b S w) : b < w.heap.size := by
  obtain ⟨L, h, _⟩ := h
  exact h.lt
theorem SetIs.of_block {b : Nat} {S : Fil → Prop} {w w' : World} (h : SetIs b S w) (hb : w'.heap[b]? = w.heap[b]?) : SetIs b S w' := by
  obtain ⟨L, h, h2⟩ := h
  exact ⟨L, h.of_block hb, h2⟩
theorem SetIs.kp {b : Nat} {S : Fil → Prop} {w w' : World} {T : Nat → Prop} (h : SetIs b S w) (hk : Kp T w w') (hb : ¬ T b) : SetIs b S w' := h.of_block (hk.block b h.lt hb)
theorem SetIs.below {b B : Nat} {S : Fil → Prop} {w w' : World} (h : SetIs b S w) (hk : Below B w w') (hb : b < B) : SetIs b S w' := h.of_block (hk.block b hb)
theorem SetIs.congr {b : Nat} {S S' : Fil → Prop} {w : World} (h : SetIs b S w) (he : ∀ f, S f ↔ S' f) : SetIs b S' w := by
  obtain ⟨L, h, h2⟩ := h
  exact ⟨L, h, fun f => (h2 f).trans (he f)⟩
theorem SetIs.new (w : World) : SetIs w.heap.size (fun _ => False) (w.alloc (.map #[] 0)) := ⟨[], KM.new w filT, fun f => by simp⟩
theorem SetIs.ok {b : Nat} {S : Fil → Prop} {w : World} (h : SetIs b S w) {f : Fil} (hf : S f) : FOk f := by
  obtain ⟨L, h, h2⟩ := h
  exact h.oks (f, .bool true) (List.mem_map.2 ⟨f, (h2 f).2 hf, rfl⟩)
theorem set_get {L : List Fil} {f : Fil} : (kget (L.map fun f => (f, Value.bool true)) f).getD (.bool false) = .bool (L.contains f) := by
  induction L with
  | nil => rfl
  | cons x r ih =>
    rw [List.map_cons, List.contains_cons]
    cases hb : (f == x)
    · rw [Bool.false_or, ← ih]
      simp [kget, hb]
    · simp [kget, hb]
/-- A look-up in a set. -/
theorem SetIs.run_has {b : Nat} {S : Fil → Prop} {w : World} {t et : TypeId} (h : SetIs b S w) (ht : Tryz.prog.underlying t = some (.map 47 et)) (hz : (zeroValue et).run Tryz.prog w = .ok (.bool false) w) {f : Fil} (hf : FOk f) :
    ∃ c : Bool, (Instr.lookup t (.map (some b)) (fileV f) false).run Tryz.prog w = .ok (.bool c) w ∧ (c = true ↔ S f) := by
  obtain ⟨L, h, h2⟩ := h
  refine ⟨L.contains f, ?_, by rw [← h2 f]; simp⟩
  have := h.run_get ht hz hf false
  rw [set_get] at this
  exact this
theorem set_put (L : List Fil) (f : Fil) : kput (L.map fun f => (f, Value.bool true)) f (.bool true) = (if L.contains f = true then L else L ++ [f]).map fun f => (f, Value.bool true) := by
  induction L with
  | nil => rfl
  | cons x r ih =>
    rw [List.map_cons, List.contains_cons]
    unfold kput
    cases hb : (f == x)
    · rw [Bool.false_or]
      simp only [Bool.false_eq_true, if_false]
      rw [ih]
      split <;> simp
    · have := eq_of_beq hb
      subst this
      simp
theorem SetIs.kput {b : Nat} {L : List Fil} {f : Fil} {w : World} (h : KM filT b (kput (L.map fun f => (f, Value.bool true)) f (.bool true)) w) {S : Fil → Prop} (hL : ∀ f, f ∈ L ↔ S f) : SetIs b (fun g => S g ∨ g = f) w := by
  rw [set_put] at h
  refine ⟨_, h, fun g => ?_⟩
  split
  · rename_i hc
    rw [hL g]
    refine ⟨.inl, fun h => h.elim id fun e => ?_⟩
    rw [e, ← hL f]
    simpa using hc
  · rw [List.mem_append, List.mem_singleton, hL g]

set_option maxRecDepth 100000 in
set_option maxHeartbeats 3200000 in
theorem add_any (b c ab : Nat) (S T : Fil → Prop) (w : World) (hb : SetIs b S w) (hc : SetIs c T w) (hne : c ≠ b) (hA : w.cell? ⟨ab, 0, none⟩ = some (.map (some c))) :
    Calls Tryz.prog 31 #[.map (some b), .slice (some ⟨ab, 0, none⟩) 1 1] w fun e w' => e = .returned (.tuple #[]) ∧ SetIs b (fun f => S f ∨ T f) w' ∧ Kp (· = b) w w' := by
  obtain ⟨L, hL, hLT⟩ := hc
  obtain ⟨es, clock, hes, hme⟩ := hL.open_
  have hcl := hL.lt
  have hbl := hb.lt
  have HES := Lib.hid hes
  have HS0 := Lib.hid hb
  have HME := Lib.hid hme
  have HLT := Lib.hid hLT
  clear hL hme hb hLT hes
  go_enter Tryz.func31, Tryz.ntmps31
  go_wp2_with fail
  go_loopw [9] (fun s wr => (s = .int .i64 0 ∧ wr = w) ∨ (s = .int .i64 1 ∧ SetIs b (fun f => S f ∨ T f) wr ∧ Kp (· = b) w wr)) (fun s _ => 1 - (intOf s).toNat)
  case atStart => exact .inl ⟨rfl, rfl⟩
  case round =>
    rcases hrel with ⟨rfl, hww⟩ | ⟨rfl, hset, hkp⟩
    rotate_left
    · have HE := Lib.hid (And.intro hset hkp)
      clear hset hkp
      go_wp2_with fail
      go_end0
      exact ⟨rfl, HE.out.1, HE.out.2⟩
    · have hww2 := hww.symm
      subst hww2
      clear hww
      have hrg := run_range_map (P := Tryz.prog) w 80 47 4 c es clock Tryz.underlying80 HES.out
      have hb2 : (w.alloc (.mapIter (some c) clock #[] clock)).heap[c]? = some (.map es clock) := (Below.heap_alloc w _ c hcl).trans HES.out
      have hr2 : (w.alloc (.mapIter (some c) clock #[] clock)).heap[w.heap.size]? = some (.mapIter (some c) clock #[] clock) := heap_alloc_new w _
      have HRNG := Lib.hid (KR.start (T := filT) hr2 hb2)
      have HS := Lib.hid (HS0.out.below (Below.alloc (Below.refl w.heap.size w) (Nat.le_refl _) (.mapIter (some c) clock #[] clock)) hbl)
      have HK := Lib.hid ((Kp.refl (· = b) w).alloc (.mapIter (some c) clock #[] clock))
      clear hb2 hr2
      go_wp2_with fail
      clear hrg
      generalize w.alloc (.mapIter (some c) clock #[] clock) = w2 at *
      have hmr : c ≠ w.heap.size := by omega
      go_loopw [6] (fun _ wr => ∃ V : List Fil, KR filT c w.heap.size clock es (V.map fun f => (f, Value.bool true)) wr ∧ SetIs b (fun f => S f ∨ f ∈ V) wr ∧ Kp (· = b) w wr) (fun _ wr => (leftOf es (rgSeen w.heap.size wr)).size)
      case atStart => exact ⟨[], HRNG.out, HS.out.congr fun f => by simp, HK.out⟩
      case round =>
        obtain ⟨V, hrng, hset, hkp⟩ := hrel
        have HM : Hid ((leftOf es (rgSeen w.heap.size wr)).size = es.size - V.length) := by
          have := hrng.left
          show _ = _
          simpa using this
        rcases hrng.step HME.out 0 hmr with ⟨hperm, hnx⟩ | ⟨x, W, hx, hlt, hnx, hen, hr', ⟨w3, hw3, hg3⟩, hsz⟩
        · have hVT : ∀ f, f ∈ V ↔ T f := fun f => by
            rw [← HLT.out f, (map_perm_inj (fun _ _ e => congrArg Prod.fst e) hperm).mem_iff]
          have HE : Hid (SetIs b (fun f => S f ∨ T f) wr ∧ Kp (· = b) w wr) := ⟨hset.congr fun f => by rw [hVT f], hkp⟩
          clear hperm hset hkp hrng hVT
          go_wp2_with fail
          go_roundw
          case rel => exact .inr ⟨rfl, HE.out.1, HE.out.2⟩
          case measure => simp [intOf]
        · obtain ⟨⟨p, n⟩, hf, rfl⟩ := List.mem_map.1 hx
          dsimp only [filT, fileV] at hnx hen
          have hw3h : w3.heap = wr.heap := by rcases hw3 with rfl | rfl <;> rfl
          have hok : FOk (p, n) := HME.out.oks _ hx
          have hk3 : Kp (· = b) w w3 := by
            rcases hw3 with rfl | rfl
            · exact hkp
            · exact hkp.drew
          have hkW : Kp (· = b) w W := hk3.grown hg3 (fun k e => by injection e with e; exact .inr (by omega))
          have hsW : SetIs b (fun f => S f ∨ f ∈ V) W := hset.of_block ((hg3.block b (by rw [hw3h]; exact hset.lt) (fun e => by injection e; omega)).trans (by rw [hw3h]))
          have HKW := Lib.hid (hkW.alloc (.cells #[.string p, .int .i64 n] 47))
          have hsW2 := hsW.of_block (Below.heap_alloc W (.cells #[.string p, .int .i64 n] 47) b hsW.lt)
          obtain ⟨L', hL', hLS⟩ := hsW2
          have HLS := Lib.hid hLS
          have HRW := Lib.hid (hr'.of (Below.heap_alloc W (.cells #[.string p, .int .i64 n] 47) _ hr'.ltr) (Below.heap_alloc W (.cells #[.string p, .int .i64 n] 47) _ hr'.ltb))
          have HV : Hid (V.length < es.size) := by
            show _ < _
            simpa using hlt
          clear hrng hset hkp hx hlt hr' hw3 hg3 hw3h hk3 hkW hsW hLS hf
          go_wp2_with (at_mapUpdate; refine wpList_kput rfl _ _ _ 80 rfl 4 Tryz.underlying80 b _ rfl hL' (p, n) rfl hok _ rfl ?_; intro w4 hm4 hg4 hs4)
          have h4 := HRW.out.of (hg4.block _ HRW.out.ltr (fun e => by injection e; omega)) (hg4.block _ HRW.out.ltb (fun e => by injection e with e; exact hne e))
          go_roundw
          case rel =>
            refine ⟨V ++ [(p, n)], by simpa using h4, (SetIs.kput hm4 HLS.out).congr fun f => by simp [or_assoc], HKW.out.grown hg4 fun k e => by injection e with e; exact .inl e.symm⟩
          case measure =>
            have h5 := h4.left
            have h6 := HV.out
            rw [HM.out, h5]
            simp
            omega

end Go.Proofs.YthonhikkoabhlaaGreatDoor
