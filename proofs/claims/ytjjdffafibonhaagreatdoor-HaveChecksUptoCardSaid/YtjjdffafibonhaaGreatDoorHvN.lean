/-
  What have.Open makes.
-/
import Derived.Test.YtjjdffafibonhaaGreatDoorHvV
import Derived.Test.YtjjdffafibonhaaGreatDoorGenC
import Derived.Test.YtjjdffafibonhaaGreatDoorMix
namespace Go.Proofs.YtjjdffafibonhaaGreatDoor
open Go.RowKit

/-- The checkpoint's state says this list. -/
def stE (E : List Hv) : Option Ck → Prop
  | none => E = []
  | some c => c.st = encH E

set_option maxRecDepth 100000 in
set_option maxHeartbeats 3200000 in
theorem hopen_bad (d : Nat) (w : World) (name : ByteArray) (hs : name.size ≤ 9223372036854775807) (h : nmB false 40 name = false) :
    Calls Tryz.prog 10 #[.pointer (some ⟨d, 0, none⟩), .string name] w fun e w' => e = .returned (.tuple #[.pointer none, .int .i64 345]) ∧ w = w' := by
  have HLD := Lib.hid (load_bad d w name hs h)
  go_enter Tryz.func10, Tryz.ntmps10
  go_wp2_with fail
  refine HLD.out.mono ?_
  rintro e w' ⟨rfl, rfl⟩
  go_wp2_with fail
  go_ret2
  exact ⟨rfl, rfl⟩

set_option maxRecDepth 100000 in
set_option maxHeartbeats 3200000 in
theorem hopen_down (d : Nat) (g : Gh) (w : World) (D : Dev) (hD : DevAt g w d D) (hdn : D.down = true) (name : ByteArray) (h : nmB false 40 name = true) :
    Calls Tryz.prog 10 #[.pointer (some ⟨d, 0, none⟩), .string name] w fun e w' => e = .returned (.tuple #[.pointer none, .int .i64 303]) ∧ ∃ g', Ext (fun o => w.heap.size ≤ o) g w g' w' := by
  have HLD := Lib.hid (load_down d g w D hD hdn name h)
  go_enter Tryz.func10, Tryz.ntmps10
  go_wp2_with fail
  refine HLD.out.mono ?_
  rintro e w' ⟨rfl, g', hx⟩
  have HX := Lib.hid hx
  clear hx
  go_wp2_with fail
  go_ret2
  exact ⟨rfl, g', HX.out⟩

set_option maxRecDepth 100000 in
set_option maxHeartbeats 6400000 in
theorem hopen_any (d : Nat) (g : Gh) (w : World) (D : Dev) (hD : DevAt g w d D) (hdn : D.down = false) (name : ByteArray) (h : nmB false 40 name = true) (o0 o1 : Option Ck) (h0 : SlotIs D (slotN name 0) o0) (h1 : SlotIs D (slotN name 1) o1) (E : List Hv) (hst : stE E (newS o0 o1).1) (hE : HvOk E) (hnum : ∀ h ∈ E, h.num < 4611686018427387904) (hck : checkH E = 0) :
    Calls Tryz.prog 10 #[.pointer (some ⟨d, 0, none⟩), .string name] w fun e w' => ∃ b, w.heap.size ≤ b ∧ e = .returned (.tuple #[.pointer (some ⟨b, 0, none⟩), .int .i64 0]) ∧ ∃ g', Ext (fun o => w.heap.size ≤ o) g w g' w' ∧ HvAt g' w' b d name (posO (newS o0 o1).1 : Int) E false := by
  have HLD := Lib.hid (load_any d g w D hD hdn name h o0 o1 h0 h1)
  have HST := Lib.hid hst
  have HE := Lib.hid hE
  have HNUM := Lib.hid hnum
  have HCK := Lib.hid hck
  have hEl := hE.len
  have hmm := @run_makeMap Tryz.prog
  clear hD h h0 h1 hst hE hnum hck hdn
  generalize (newS o0 o1).1 = o at *
  go_enter Tryz.func10, Tryz.ntmps10
  go_wp2_with fail
  refine HLD.out.mono ?_
  rintro e w1 ⟨g1, v, hx1, hsa, rfl⟩
  have HX1 := Lib.hid hx1
  have HSA := Lib.hid hsa
  have hsz := hx1.size
  obtain ⟨p, hp⟩ : ∃ p : Int, (posO o : Int) = p := ⟨_, rfl⟩
  rw [hp]
  clear HLD hx1 hsa
  have HPO := Lib.hid hp
  clear hp
  have hx2 : Ext (fun o => w.heap.size ≤ o) g1 w1 ⟨fun k => if k < w1.heap.size then g1.F k else 0, fun k => if k < w1.heap.size then g1.O k else w1.heap.size + 1⟩ ((w1.alloc (.map #[] 0)).alloc (.cells #[.pointer (some ⟨d, 0, none⟩), .string name, .int .i64 p, .map (some w1.heap.size), .bool false] 67)) :=
    (((Ext.refl _ g1 w1).alloc _).alloc _).up (fun k hk => by dsimp only; rw [if_pos hk]) (fun k hk => by dsimp only; rw [if_pos hk])
  have hb2 : Blk (w1.heap.size + 1) 67 (hvCs d name p w1.heap.size false) ((w1.alloc (.map #[] 0)).alloc (.cells #[.pointer (some ⟨d, 0, none⟩), .string name, .int .i64 p, .map (some w1.heap.size), .bool false] 67)) := by
    have := Blk.new (w1.alloc (.map #[] 0)) 67 (hvCs d name p w1.heap.size false)
    simpa [hvCs] using this
  have hm2 : MapIs w1.heap.size (encM []) ((w1.alloc (.map #[] 0)).alloc (.cells #[.pointer (some ⟨d, 0, none⟩), .string name, .int .i64 p, .map (some w1.heap.size), .bool false] 67)) := (MapIs.new w1).alloc _
  have hO2 : (⟨fun k => if k < w1.heap.size then g1.F k else 0, fun k => if k < w1.heap.size then g1.O k else w1.heap.size + 1⟩ : Gh).O (w1.heap.size + 1) = w1.heap.size + 1 := by dsimp only; rw [if_neg (by omega)]
  have hF2 : (⟨fun k => if k < w1.heap.size then g1.F k else 0, fun k => if k < w1.heap.size then g1.O k else w1.heap.size + 1⟩ : Gh).F (w1.heap.size + 1) = 0 := by dsimp only; rw [if_neg (by omega)]
  have hO3 : (⟨fun k => if k < w1.heap.size then g1.F k else 0, fun k => if k < w1.heap.size then g1.O k else w1.heap.size + 1⟩ : Gh).O w1.heap.size = w1.heap.size + 1 := by dsimp only; rw [if_neg (by omega)]
  have hF3 : (⟨fun k => if k < w1.heap.size then g1.F k else 0, fun k => if k < w1.heap.size then g1.O k else w1.heap.size + 1⟩ : Gh).F w1.heap.size = 0 := by dsimp only; rw [if_neg (by omega)]
  generalize (⟨fun k => if k < w1.heap.size then g1.F k else 0, fun k => if k < w1.heap.size then g1.O k else w1.heap.size + 1⟩ : Gh) = g2 at *
  have HX2 := Lib.hid (HX1.out.trans hx2)
  have HSA2 := Lib.hid (HSA.out.ext hx2)
  have HB2 := Lib.hid hb2
  have HM2 := Lib.hid hm2
  clear hx2 hb2 hm2 HX1 HSA
  cases o with
  | none =>
    have HE0 : Hid (E = []) := HST.out
    have hv : v = .slice none 0 0 := HSA2.out
    subst hv
    dsimp only [Option.isSome]
    go_wp2_with fail
    go_ret2
    refine ⟨w1.heap.size + 1, by omega, rfl, g2, HX2.out, ⟨w1.heap.size, by rw [HPO.out]; exact HB2.out, ⟨[], HM2.out, by rw [HE0.out]⟩, hO3, hF3⟩, hO2, hF2, HE.out⟩
  | some c =>
    obtain ⟨A, hv, hby⟩ := HSA2.out
    subst hv
    have hcs : c.st = encH E := HST.out
    rw [hcs] at hby ⊢
    have HBY := Lib.hid hby
    clear hby hcs HSA2
    have HDC := Lib.hid (hdecode_any g2 _ A _ E HBY.out (fun q hq => by have h1 := okH_size (HE.out.ok q hq); have h2 := HE.out.ok q hq; simp only [okH, Bool.and_eq_true, decide_eq_true_eq] at h2; exact ⟨by omega, by omega, by omega, HNUM.out q hq⟩) (by omega) HCK.out)
    dsimp only [Option.isSome]
    go_wp2_with fail
    clear hmm
    generalize (w1.alloc (.map #[] 0)).alloc (.cells #[.pointer (some ⟨d, 0, none⟩), .string name, .int .i64 p, .map (some w1.heap.size), .bool false] 67) = w2 at *
    refine HDC.out.mono ?_
    rintro e w5 ⟨A', c', g5, rfl, hx5, hr5⟩
    have hO5 : g5.O (w1.heap.size + 1) = w1.heap.size + 1 := (hx5.own _ HB2.out.lt).trans hO2
    have hF5 : g5.F (w1.heap.size + 1) = 0 := hx5.zero _ HB2.out.lt hF2
    have hO6 : g5.O w1.heap.size = w1.heap.size + 1 := (hx5.own _ HM2.out.lt).trans hO3
    have hF6 : g5.F w1.heap.size = 0 := hx5.zero _ HM2.out.lt hF3
    have HB5 : Hid (Blk (w1.heap.size + 1) 67 (hvCs d name p w1.heap.size false) w5) := HB2.out.ext hx5 (fun h => h)
    have HM5 : Hid (MapIs w1.heap.size (encM []) w5) := HM2.out.of_block ((hx5.keep _ HM2.out.lt (fun h => h)).1)
    have HX5 := Lib.hid (HX2.out.trans (hx5.imp (fun _ h => h.elim)))
    have HR5 := Lib.hid hr5
    have HON := Lib.hid HE.out.srt.once
    clear hx5 hr5 HB2 HM2 HX2 HDC HBY
    go_wp2_with fail
    go_loopw [36] (fun i wr => ∃ k : Nat, i = .int .i64 k ∧ k ≤ E.length ∧ Ext (· = w1.heap.size + 1) g5 w5 g5 wr ∧ Blk (w1.heap.size + 1) 67 (hvCs d name p w1.heap.size false) wr ∧ MapIs w1.heap.size (encM (E.take k)) wr) (fun i _ => E.length - (intOf i).toNat)
    case atStart => exact ⟨0, rfl, Nat.zero_le _, Ext.refl _ _ _, HB5.out, HM5.out⟩
    case round =>
      obtain ⟨k, rfl, hk, hxr, hbr, hmr⟩ := hrel
      have HBR := Lib.hid hbr
      have HMR := Lib.hid hmr
      have HXR := Lib.hid hxr
      clear HB5 HM5 hbr hmr
      by_cases hlt : k < E.length
      · have hlt' : (k : Int) < (E.length : Int) := by omega
        obtain ⟨b0, off, hA, _, hbx, hc⟩ := (HR5.out.ext hxr).at_ (by omega)
        subst hA
        obtain ⟨h, hh⟩ : ∃ h, E[k] = h := ⟨_, rfl⟩
        have hg := List.getElem?_eq_getElem hlt
        rw [hh] at hg
        have c0 := hc _ _ (celH_get E k 0 h hg (by omega))
        have c1 := hc _ _ (celH_get E k 1 h hg (by omega))
        have c2 := hc _ _ (celH_get E k 2 h hg (by omega))
        simp only [Nat.add_zero, ← Nat.add_assoc] at c0 c1 c2
        have hts : E.take (k + 1) = E.take k ++ [h] := by rw [List.take_add_one, hg]; rfl
        have hno : anyP (E.take k) h.path = false := by
          rw [anyP_false]
          have h1 : Once (E.take (k + 1)) := HON.out.sublist (List.take_sublist _ _)
          rw [hts] at h1
          exact fun q hq => (List.pairwise_append.1 h1).2.2 q hq h (List.mem_singleton.2 rfl)
        have hput := putM hno
        rw [← hts] at hput
        have HPU := Lib.hid hput
        clear hts hc hh hg hno hput hxr
        obtain ⟨pa, n, lo⟩ := h
        dsimp only at c0 c1 c2
        have HV : Hid (Blk wr.heap.size 32 [.string pa, .int .i64 n, .string lo] (wr.alloc (.cells #[.string pa, .int .i64 n, .string lo] 32))) := Blk.new wr 32 [.string pa, .int .i64 n, .string lo]
        have hrM := HMR.out.lt
        have hrB := HBR.out.lt
        go_wp2_with fail
        have hS : (fun x : World => Blk (w1.heap.size + 1) 67 (hvCs d name p w1.heap.size false) x ∧ Blk wr.heap.size 32 [.string pa, .int .i64 n, .string lo] x) (wr.alloc (.cells #[.string pa, .int .i64 n, .string lo] 32)).drew := ⟨(HBR.out.alloc _).drew, HV.out.drew⟩
        (refine wp_region_mix (S := (fun x : World => Blk (w1.heap.size + 1) 67 (hvCs d name p w1.heap.size false) x ∧ Blk wr.heap.size 32 [.string pa, .int .i64 n, .string lo] x)) [] [([0, 1, 2, 3, 4, 5, 6], 7)] (by kernel_rfl) (by kernel_rfl) (by intro c a d v w h; cases d <;> exact h) hS ?_; have hN : Nonempty (Held ((fun x : World => Blk (w1.heap.size + 1) 67 (hvCs d name p w1.heap.size false) x ∧ Blk wr.heap.size 32 [.string pa, .int .i64 n, .string lo] x))) := ⟨⟨_, hS⟩⟩)
        have r0 : ∀ y : Held ((fun x : World => Blk (w1.heap.size + 1) 67 (hvCs d name p w1.heap.size false) x ∧ Blk wr.heap.size 32 [.string pa, .int .i64 n, .string lo] x)), y.w.cell? ⟨w1.heap.size + 1, 3, none⟩ = some (.map (some w1.heap.size)) := fun y => y.ok.1.cell 3
        have r1 : ∀ y : Held ((fun x : World => Blk (w1.heap.size + 1) 67 (hvCs d name p w1.heap.size false) x ∧ Blk wr.heap.size 32 [.string pa, .int .i64 n, .string lo] x)), y.w.cell? ⟨wr.heap.size, 0, none⟩ = some (.string pa) := fun y => y.ok.2.cell 0
        have r2 : ∀ y : Held ((fun x : World => Blk (w1.heap.size + 1) 67 (hvCs d name p w1.heap.size false) x ∧ Blk wr.heap.size 32 [.string pa, .int .i64 n, .string lo] x)), y.w.cell? ⟨wr.heap.size, 1, none⟩ = some (.int .i64 n) := fun y => y.ok.2.cell 1
        have r3 : ∀ y : Held ((fun x : World => Blk (w1.heap.size + 1) 67 (hvCs d name p w1.heap.size false) x ∧ Blk wr.heap.size 32 [.string pa, .int .i64 n, .string lo] x)), y.w.cell? ⟨wr.heap.size, 2, none⟩ = some (.string lo) := fun y => y.ok.2.cell 2
        (unfold wpMix wpRd; (repeat (first | simp only [List.filterMap_cons] | simp only [List.filterMap_nil] | simp only [List.getElem?_toArray] | simp only [List.getElem?_cons_zero] | simp only [List.getElem?_cons_succ])); (try dsimp only); change wpQuiet _ _ _ _ (_ :: _ :: _ :: _ :: _ :: _ :: _ :: []) _; (repeat (go_big_quiet_step (fail))); refine wpQuiet_nil ?_; (try dsimp only))
        clear r0 r1 r2 r3
        have HM3 := Lib.hid ((HMR.out.alloc (.cells #[.string pa, .int .i64 n, .string lo] 32)).drew)
        have HX3 := Lib.hid ((HXR.out.alloc (.cells #[.string pa, .int .i64 n, .string lo] 32)).drew)
        have HB3 := Lib.hid ((HBR.out.alloc (.cells #[.string pa, .int .i64 n, .string lo] 32)).drew)
        have HV3 := Lib.hid HV.out.drew
        refine wpList_put rfl _ _ _ 65 rfl 9 32 Tryz.underlying65 Tryz.underlying9 w1.heap.size (encM (E.take k)) rfl HM3.out pa rfl (.agg #[.string pa, .int .i64 n, .string lo]) rfl ?_
        intro w6 hm6 hg6
        refine ⟨⟨HB3.out.grown hg6 (fun e => by injection e; omega), HV3.out.grown hg6 (fun e => by injection e; omega)⟩, ?_⟩
        (unfold wpMix wpRd; (repeat (first | simp only [List.filterMap_cons] | simp only [List.filterMap_nil] | simp only [List.getElem?_toArray] | simp only [List.getElem?_cons_zero] | simp only [List.getElem?_cons_succ])); (try dsimp only); change wpQuiet _ _ _ _ ([]) _; (repeat (go_big_quiet_step (fail))); refine wpQuiet_nil ?_; (try dsimp only))
        have HB6 := Lib.hid (HB3.out.grown hg6 (fun e => by injection e; omega))
        have HX6 := Lib.hid (HX3.out.one hg6 (fun _ => hO6) hF6)
        have e6 : put (encM (E.take k)) pa (.agg #[.string pa, .int .i64 n, .string lo]) = encM (E.take (k + 1)) := HPU.out
        rw [e6] at hm6
        have HM6 := Lib.hid hm6
        clear hm6 hg6 e6
        go_wp2_with fail
        go_round
        case rel => exact ⟨k + 1, by go_num, by omega, HX6.out, HB6.out, HM6.out⟩
        case measure => simp [intOf]; omega
      · obtain rfl : k = E.length := by omega
        go_wp2_with fail
        go_ret2
        have hm := HMR.out
        rw [List.take_length] at hm
        refine ⟨w1.heap.size + 1, by omega, rfl, g5, HX5.out.trans (HXR.out.imp (fun o h => by rw [h]; omega)), ⟨w1.heap.size, by rw [HPO.out]; exact HBR.out, ⟨E, hm, List.Perm.refl _⟩, hO6, hF6⟩, hO5, hF5, HE.out⟩

end Go.Proofs.YtjjdffafibonhaaGreatDoor
