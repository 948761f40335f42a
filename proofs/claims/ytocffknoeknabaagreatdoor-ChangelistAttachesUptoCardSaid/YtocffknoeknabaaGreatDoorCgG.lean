/-
  The base for seats without the journal (joined by a program of ours from our own texts).
-/
import Derived.Test.YtocffknoeknabaaGreatDoorDpH
import Derived.Test.YtocffknoeknabaaGreatDoorDpS
namespace Go.Proofs.YtocffknoeknabaaGreatDoor
section
open Go.RowKit

structure ChkOk (d : List Rev) (nb : Nat) (c : Chg) : Prop where
  pos : 1 ≤ c.edits.length
  few : c.edits.length ≤ 64
  fewr : c.recs.length ≤ 64
  num : 1 ≤ c.num ∧ c.num ≤ 1073741824
  later : ∀ v ∈ d, v.chg < c.num
  edit : ∀ i x, c.edits[i]? = some x → EditOk d c.edits i x
  moved : ∀ x ∈ c.edits, movedE c.edits x = true
  record : ∀ i x, c.recs[i]? = some x → ∃ t, RecOk d c i x t
  room : d.length + c.edits.length ≤ 512
  roomr : nb + c.recs.length ≤ 512

set_option maxRecDepth 100000 in
set_option maxHeartbeats 6400000 in
theorem rcheck_any (d : List Rev) (A B : Option Addr) (ca nb cb : Nat) (c : Chg) (E R : Option Addr) (ec rc : Nat) (w : World)
    (hd : revK.In A d w) (hn : d.length ≤ 1000000) (hnb : nb ≤ 1000000) (hk : OkR d) (hE : edtK.In E c.edits w) (hR : rcdK.In R c.recs w) (hz : c.edits.length ≤ 9000000000000000000) (hzr : c.recs.length ≤ 9000000000000000000)
    (hse : ∀ y ∈ c.edits, y.path.size < 4294967281 ∧ y.src.size < 4294967281) (hsr : ∀ y ∈ c.recs, y.src.size < 4294967281 ∧ y.dst.size < 4294967281) (hg : G0 w) :
    Calls Tryz.prog 68 #[.agg #[.slice A d.length ca, .slice B nb cb], chgV c E ec R rc] w fun e w' => ∃ n : Int, e = .returned (.int .i64 n) ∧ (n = 0 → ChkOk d nb c) ∧ Below w.heap.size w w' := by
  have HI := Lib.hid hd
  have HIE := Lib.hid hE
  have HIR := Lib.hid hR
  have HG := Lib.hid hg
  have HSE := Lib.hid hse
  have HSR := Lib.hid hsr
  have HK := Lib.hid hk
  clear hd hE hR hg hse hsr hk
  have HED := Lib.hid (fun (hz : c.edits.length ≤ 1000000) i x w a b d' e => redit_any d A B ca nb cb c E R ec rc i x w a hn HK.out b hz d' HSE.out e)
  have HMV := Lib.hid (fun (hz : c.edits.length ≤ 1000000) x w a => rmoved_any c x E R ec rc w a hz)
  have HRC := Lib.hid (fun (hz : c.edits.length ≤ 1000000) (hzr : c.recs.length ≤ 1000000) i x w a b c' d' e f => rrecord_any d A B ca nb cb c E R ec rc i x w a hn HK.out b c' hz hzr d' HSR.out e f)
  unfold chgV at HED HMV HRC ⊢
  go_enter Tryz.func68, Tryz.ntmps68
  go_upto_region 1 with fail
  generalize hw1 : World.alloc _ (.cells #[.int .i64 c.num, .string c.client, .string c.text, .slice E c.edits.length ec, .slice R c.recs.length rc] 52) = w1
  have HM1 : Hid (Bs [(w.heap.size + 1, 52, [.int .i64 c.num, .string c.client, .string c.text, .slice E c.edits.length ec, .slice R c.recs.length rc]), (w.heap.size, 37, [.slice A d.length ca, .slice B nb cb])] w1) := by
    show Bs _ _
    rw [← hw1]
    refine ⟨Blk.new1 _ _ _ _, ?_, trivial⟩
    (repeat (first | (with_reducible exact Blk.new _ _ _) | (with_reducible refine Blk.alloc ?_ _) | (with_reducible refine Blk.drew ?_) | (with_reducible refine Blk.far ?_ ?_ _; rotate_left; focus (dsimp only; omega))))
  have HB1 : Hid (Below w.heap.size w w1) := by
    show Below _ _ _
    rw [← hw1]
    (repeat (first | (with_reducible exact Below.refl _ _) | (with_reducible assumption) | (with_reducible refine Below.setCell ?_ ?_ _; rotate_left; focus (first | exact Nat.le_refl _ | (dsimp only; omega))) | (with_reducible refine Below.drew ?_) | (with_reducible refine below_drewN ?_ _) | (with_reducible refine Below.alloc ?_ ?_ _; rotate_left; focus (first | exact Nat.le_refl _ | (simp; done) | (simp; omega)))))
  clear hw1
  (obtain ⟨g0, g1, g2, g3, g4⟩ := (HM1.out).1.c5; obtain ⟨d0, d1⟩ := (HM1.out).2.1.c2; have lg := (HM1.out).1.lt; have ld := (HM1.out).2.1.lt)
  by_cases h1 : c.edits.length = 0
  · have e1 : ((c.edits.length : Int) == 0) = true := by rw [h1]; rfl
    clear h1
    go_wp2_with fail
    all_goals (go_ret; refine ⟨_, rfl, fun h => absurd h (by decide), ?_⟩; have HB1 := (HB1).out; (repeat (first | (with_reducible exact Below.refl _ _) | (with_reducible assumption) | (with_reducible refine Below.setCell ?_ ?_ _; rotate_left; focus (first | exact Nat.le_refl _ | (dsimp only; omega) | (simp; omega))) | (with_reducible refine Below.drew ?_) | (with_reducible refine below_drewN ?_ _) | (with_reducible refine Below.alloc ?_ ?_ _; rotate_left; focus (first | exact Nat.le_refl _ | omega | (simp; done) | (simp; omega))) | (with_reducible refine Below.trans ?_ (HB1.mono ?_); rotate_left; focus (first | exact Nat.le_refl _ | omega | (simp; done) | (simp; omega))))))
  by_cases h2 : 64 < c.edits.length
  · go_wp2_with fail
    all_goals (go_ret; refine ⟨_, rfl, fun h => absurd h (by decide), ?_⟩; have HB1 := (HB1).out; (repeat (first | (with_reducible exact Below.refl _ _) | (with_reducible assumption) | (with_reducible refine Below.setCell ?_ ?_ _; rotate_left; focus (first | exact Nat.le_refl _ | (dsimp only; omega) | (simp; omega))) | (with_reducible refine Below.drew ?_) | (with_reducible refine below_drewN ?_ _) | (with_reducible refine Below.alloc ?_ ?_ _; rotate_left; focus (first | exact Nat.le_refl _ | omega | (simp; done) | (simp; omega))) | (with_reducible refine Below.trans ?_ (HB1.mono ?_); rotate_left; focus (first | exact Nat.le_refl _ | omega | (simp; done) | (simp; omega))))))
  by_cases h3 : 64 < c.recs.length
  · go_wp2_with fail
    all_goals (go_ret; refine ⟨_, rfl, fun h => absurd h (by decide), ?_⟩; have HB1 := (HB1).out; (repeat (first | (with_reducible exact Below.refl _ _) | (with_reducible assumption) | (with_reducible refine Below.setCell ?_ ?_ _; rotate_left; focus (first | exact Nat.le_refl _ | (dsimp only; omega) | (simp; omega))) | (with_reducible refine Below.drew ?_) | (with_reducible refine below_drewN ?_ _) | (with_reducible refine Below.alloc ?_ ?_ _; rotate_left; focus (first | exact Nat.le_refl _ | omega | (simp; done) | (simp; omega))) | (with_reducible refine Below.trans ?_ (HB1.mono ?_); rotate_left; focus (first | exact Nat.le_refl _ | omega | (simp; done) | (simp; omega))))))
  by_cases h4 : c.num ≤ 0
  · go_wp2_with fail
    all_goals (go_ret; refine ⟨_, rfl, fun h => absurd h (by decide), ?_⟩; have HB1 := (HB1).out; (repeat (first | (with_reducible exact Below.refl _ _) | (with_reducible assumption) | (with_reducible refine Below.setCell ?_ ?_ _; rotate_left; focus (first | exact Nat.le_refl _ | (dsimp only; omega) | (simp; omega))) | (with_reducible refine Below.drew ?_) | (with_reducible refine below_drewN ?_ _) | (with_reducible refine Below.alloc ?_ ?_ _; rotate_left; focus (first | exact Nat.le_refl _ | omega | (simp; done) | (simp; omega))) | (with_reducible refine Below.trans ?_ (HB1.mono ?_); rotate_left; focus (first | exact Nat.le_refl _ | omega | (simp; done) | (simp; omega))))))
  by_cases h5 : 1073741824 < c.num
  · go_wp2_with fail
    all_goals (go_ret; refine ⟨_, rfl, fun h => absurd h (by decide), ?_⟩; have HB1 := (HB1).out; (repeat (first | (with_reducible exact Below.refl _ _) | (with_reducible assumption) | (with_reducible refine Below.setCell ?_ ?_ _; rotate_left; focus (first | exact Nat.le_refl _ | (dsimp only; omega) | (simp; omega))) | (with_reducible refine Below.drew ?_) | (with_reducible refine below_drewN ?_ _) | (with_reducible refine Below.alloc ?_ ?_ _; rotate_left; focus (first | exact Nat.le_refl _ | omega | (simp; done) | (simp; omega))) | (with_reducible refine Below.trans ?_ (HB1.mono ?_); rotate_left; focus (first | exact Nat.le_refl _ | omega | (simp; done) | (simp; omega))))))
  have hz' : c.edits.length ≤ 1000000 := by omega
  have e1 : ((c.edits.length : Int) == 0) = false := by rw [beq_eq_false_iff_ne]; omega
  have e2 : decide (64 < (c.edits.length : Int)) = false := by rw [decide_eq_false_iff_not]; omega
  have e3 : decide (64 < (c.recs.length : Int)) = false := by rw [decide_eq_false_iff_not]; omega
  have hzr' : c.recs.length ≤ 1000000 := by omega
  have HED := Lib.hid (HED.out hz')
  have HMV := Lib.hid (HMV.out hz')
  have HRC := Lib.hid (HRC.out hz' hzr')
  go_wp2_with fail
  clear e1 e2 e3
  go_loopw [39] (fun s wr => ∃ k : Nat, s = .int .i64 k ∧ k ≤ d.length ∧ Below w1.heap.size w1 wr ∧ Hid (∀ v ∈ d.take k, v.chg < c.num)) (fun s _ => d.length - (intOf s).toNat)
  case atStart => exact ⟨0, rfl, Nat.zero_le _, Below.refl _ _, fun v h => by simp at h⟩
  case round =>
    obtain ⟨k, rfl, hk, hB, HL⟩ := hrel
    (clear g0 g1 g2 g3 g4 d0 d1 lg ld)
    have HMr := Lib.hid (HM1.out.below hB)
    have HBr := Lib.hid (HB1.out.trans (hB.mono HB1.out.size))
    have HBs := Lib.hid hB
    clear hB
    (obtain ⟨g0, g1, g2, g3, g4⟩ := (HMr.out).1.c5; obtain ⟨d0, d1⟩ := (HMr.out).2.1.c2; have lg := (HMr.out).1.lt; have ld := (HMr.out).2.1.lt)
    by_cases hlt : k < d.length
    · skip --SKIP
      obtain ⟨b, off, rfl, hbl, hat⟩ := HI.out (by omega)
      have hat := hat.below HBr.out hbl
      have hbl' : b < wr.heap.size := Nat.lt_of_lt_of_le hbl HBr.out.size
      have hg := List.getElem?_eq_getElem hlt
      have HT : Hid (d.take (k + 1) = d.take k ++ [d[k]]) := List.take_succ_eq_append_getElem hlt
      generalize hq : d[k] = v at *
      (have hcv := fun j (u : Value) (hj : (v).cells[j]? = some u) => ((hat).get hg hj); have c0 := hcv 0 _ rfl; have c1 := hcv 1 _ rfl; have c2 := hcv 2 _ rfl; have c3 := hcv 3 _ rfl; have c4 := hcv 4 _ rfl; have c5 := hcv 5 _ rfl; have c6 := hcv 6 _ rfl; have c7 := hcv 7 _ rfl; have c8 := hcv 8 _ rfl; have c9 := hcv 9 _ rfl; have c10 := hcv 10 _ rfl; have c11 := hcv 11 _ rfl; have e12 : revK.n = 12 := rfl; simp only [e12, Nat.add_zero] at c0 c1 c2 c3 c4 c5 c6 c7 c8 c9 c10 c11; clear hcv e12)
      clear hat hg hq
      by_cases hv : c.num ≤ v.chg
      · go_wp2_with fail
        (go_ret; refine ⟨_, rfl, fun h => absurd h (by decide), ?_⟩; have HB1 := (HBr).out; (repeat (first | (with_reducible exact Below.refl _ _) | (with_reducible assumption) | (with_reducible refine Below.setCell ?_ ?_ _; rotate_left; focus (first | exact Nat.le_refl _ | (dsimp only; omega) | (simp; omega))) | (with_reducible refine Below.drew ?_) | (with_reducible refine below_drewN ?_ _) | (with_reducible refine Below.alloc ?_ ?_ _; rotate_left; focus (first | exact Nat.le_refl _ | omega | (simp; done) | (simp; omega))) | (with_reducible refine Below.trans ?_ (HB1.mono ?_); rotate_left; focus (first | exact Nat.le_refl _ | omega | (simp; done) | (simp; omega))))))
      · go_wp2_with fail
        go_roundw
        case rel =>
          refine ⟨k + 1, by go_num, by omega, HBs.out.alloc HBs.out.size _, fun u hu => ?_⟩
          rw [HT.out] at hu
          rcases List.mem_append.1 hu with h | h
          · exact HL.out u h
          · obtain rfl := List.mem_singleton.1 h
            omega
        case measure => simp [intOf]; omega
    · obtain rfl : k = d.length := by omega
      have HLT : Hid (∀ v ∈ d, v.chg < c.num) := by
        have := HL.out
        rwa [List.take_length] at this
      clear HL hlt HM1 HB1 HBs
      generalize wr = w2 at *
      go_wp2_with fail
      go_loopw [52] (fun s wr => ∃ k : Nat, s = .int .i64 k ∧ k ≤ c.edits.length ∧ Below w2.heap.size w2 wr ∧ Hid (∀ i x, i < k → c.edits[i]? = some x → EditOk d c.edits i x)) (fun s _ => c.edits.length - (intOf s).toNat)
      case atStart => exact ⟨0, rfl, Nat.zero_le _, Below.refl _ _, fun i x h => by omega⟩
      case round =>
        obtain ⟨k, rfl, hk, hB, HL⟩ := hrel
        (clear g0 g1 g2 g3 g4 d0 d1 lg ld)
        have HM3 := Lib.hid (HMr.out.below hB)
        have HB3 := Lib.hid (HBr.out.trans (hB.mono HBr.out.size))
        have HBs := Lib.hid hB
        clear hB
        (obtain ⟨g0, g1, g2, g3, g4⟩ := (HM3.out).1.c5; obtain ⟨d0, d1⟩ := (HM3.out).2.1.c2; have lg := (HM3.out).1.lt; have ld := (HM3.out).2.1.lt)
        by_cases hlt : k < c.edits.length
        · skip --SKIP
          have hg := List.getElem?_eq_getElem hlt
          generalize hq : c.edits[k] = x at *
          have HX := Lib.hid hg
          clear hg hq
          go_wp2_with fail
          refine (HED.out k x _ (HI.out.below HB3.out) (HIE.out.below HB3.out) HX.out (HG.out.below HB3.out)).mono ?_
          rintro e w3 ⟨n, rfl, hok, hB4⟩
          have HOK := Lib.hid hok
          have HB4 := Lib.hid (HB3.out.trans (hB4.mono HB3.out.size))
          have HBt := Lib.hid (HBs.out.trans (hB4.mono HBs.out.size))
          clear hok hB4
          by_cases h0 : n = 0
          · subst h0
            go_wp2_with fail
            go_roundw
            case rel =>
              refine ⟨k + 1, by go_num, by omega, HBt.out, fun i y h1 h2 => ?_⟩
              by_cases hik : i < k
              · exact HL.out i y hik h2
              · obtain rfl : i = k := by omega
                have := HX.out
                rw [h2] at this
                injection this with this
                subst this
                exact HOK.out trivial
            case measure => simp [intOf]; omega
          · go_wp2_with fail
            go_ret
            refine ⟨n, rfl, fun h => absurd h h0, ?_⟩
            have HB1 := HB4.out
            (repeat (first | (with_reducible exact Below.refl _ _) | (with_reducible assumption) | (with_reducible refine Below.setCell ?_ ?_ _; rotate_left; focus (first | exact Nat.le_refl _ | (dsimp only; omega) | (simp; omega))) | (with_reducible refine Below.drew ?_) | (with_reducible refine below_drewN ?_ _) | (with_reducible refine Below.alloc ?_ ?_ _; rotate_left; focus (first | exact Nat.le_refl _ | omega | (simp; done) | (simp; omega))) | (with_reducible refine Below.trans ?_ (HB1.mono ?_); rotate_left; focus (first | exact Nat.le_refl _ | omega | (simp; done) | (simp; omega)))))
        · obtain rfl : k = c.edits.length := by omega
          have HEO : Hid (∀ i x, c.edits[i]? = some x → EditOk d c.edits i x) := fun i x h => HL.out i x (List.getElem?_eq_some_iff.1 h).1 h
          clear HL hlt HMr HBr HBs
          generalize wr = w3 at *
          go_wp2_with fail
          go_loopw [66] (fun s wr => ∃ k : Nat, s = .int .i64 k ∧ k ≤ c.edits.length ∧ Below w3.heap.size w3 wr ∧ Hid (∀ x ∈ c.edits.take k, movedE c.edits x = true)) (fun s _ => c.edits.length - (intOf s).toNat)
          case atStart => exact ⟨0, rfl, Nat.zero_le _, Below.refl _ _, fun x h => by simp at h⟩
          case round =>
            obtain ⟨k, rfl, hk, hB, HL⟩ := hrel
            (clear g0 g1 g2 g3 g4 d0 d1 lg ld)
            have HM4 := Lib.hid (HM3.out.below hB)
            have HB4 := Lib.hid (HB3.out.trans (hB.mono HB3.out.size))
            have HBs := Lib.hid hB
            clear hB
            (obtain ⟨g0, g1, g2, g3, g4⟩ := (HM4.out).1.c5; obtain ⟨d0, d1⟩ := (HM4.out).2.1.c2; have lg := (HM4.out).1.lt; have ld := (HM4.out).2.1.lt)
            by_cases hlt : k < c.edits.length
            · skip --SKIP
              obtain ⟨eb, eo, rfl, hbl, hat⟩ := HIE.out (by omega)
              have hat := hat.below HB4.out hbl
              have hbl' : eb < wr.heap.size := Nat.lt_of_lt_of_le hbl HB4.out.size
              have hg := List.getElem?_eq_getElem hlt
              have HT : Hid (c.edits.take (k + 1) = c.edits.take k ++ [c.edits[k]]) := List.take_succ_eq_append_getElem hlt
              generalize hq : c.edits[k] = x at *
              have HMX := Lib.hid (fun w a => HMV.out x w a)
              generalize hmb : movedE c.edits x = mb at HMX
              have HMB := Lib.hid hmb
              clear hmb
              (have hcv := fun j (u : Value) (hj : (x).cells[j]? = some u) => ((hat).get hg hj); have c0 := hcv 0 _ rfl; have c1 := hcv 1 _ rfl; have c2 := hcv 2 _ rfl; have c3 := hcv 3 _ rfl; have c4 := hcv 4 _ rfl; have c5 := hcv 5 _ rfl; have c6 := hcv 6 _ rfl; have c7 := hcv 7 _ rfl; have c8 := hcv 8 _ rfl; have c9 := hcv 9 _ rfl; have c10 := hcv 10 _ rfl; have c11 := hcv 11 _ rfl; have e12 : edtK.n = 12 := rfl; simp only [e12, Nat.add_zero] at c0 c1 c2 c3 c4 c5 c6 c7 c8 c9 c10 c11; clear hcv e12)
              clear hat hg hq
              obtain ⟨yp, ya, ⟨yb1, yb2, yb3, yb4⟩, ⟨yc1, yc2⟩, yb, ys, ym, yf⟩ := x
              unfold Edt.val Edt.cells at HMX
              dsimp only at HMX
              go_wp2_with fail
              refine (HMX.out _ (HIE.out.below (HB4.out.alloc HB4.out.size _))).mono ?_
              rintro e w5 ⟨rfl, hB5⟩
              have HB5 : Hid (Below w.heap.size w w5) := (HB4.out.alloc HB4.out.size _).trans (hB5.mono (HB4.out.alloc HB4.out.size _).size)
              have HBt : Hid (Below w3.heap.size w3 w5) := (HBs.out.alloc HBs.out.size _).trans (hB5.mono (HBs.out.alloc HBs.out.size _).size)
              clear hB5
              cases mb
              · go_wp2_with fail
                (go_ret; refine ⟨_, rfl, fun h => absurd h (by decide), ?_⟩; have HB1 := (HB5).out; (repeat (first | (with_reducible exact Below.refl _ _) | (with_reducible assumption) | (with_reducible refine Below.setCell ?_ ?_ _; rotate_left; focus (first | exact Nat.le_refl _ | (dsimp only; omega) | (simp; omega))) | (with_reducible refine Below.drew ?_) | (with_reducible refine below_drewN ?_ _) | (with_reducible refine Below.alloc ?_ ?_ _; rotate_left; focus (first | exact Nat.le_refl _ | omega | (simp; done) | (simp; omega))) | (with_reducible refine Below.trans ?_ (HB1.mono ?_); rotate_left; focus (first | exact Nat.le_refl _ | omega | (simp; done) | (simp; omega))))))
              · go_wp2_with fail
                go_roundw
                case rel =>
                  refine ⟨k + 1, by go_num, by omega, HBt.out, fun u hu => ?_⟩
                  rw [HT.out] at hu
                  rcases List.mem_append.1 hu with h | h
                  · exact HL.out u h
                  · rw [List.mem_singleton.1 h]
                    exact HMB.out
                case measure => simp [intOf]; omega
            · obtain rfl : k = c.edits.length := by omega
              have HMO : Hid (∀ x ∈ c.edits, movedE c.edits x = true) := by
                have := HL.out
                rwa [List.take_length] at this
              clear HL hlt HM3 HB3 HBs
              generalize wr = w4 at *
              go_wp2_with fail
              go_loopw [78] (fun s wr => ∃ k : Nat, s = .int .i64 k ∧ k ≤ c.recs.length ∧ Below w4.heap.size w4 wr ∧ Hid (∀ i x, i < k → c.recs[i]? = some x → ∃ t, RecOk d c i x t)) (fun s _ => c.recs.length - (intOf s).toNat)
              case atStart => exact ⟨0, rfl, Nat.zero_le _, Below.refl _ _, fun i x h => by omega⟩
              case round =>
                obtain ⟨k, rfl, hk, hB, HL⟩ := hrel
                (clear g0 g1 g2 g3 g4 d0 d1 lg ld)
                have HM5 := Lib.hid (HM4.out.below hB)
                have HB5 := Lib.hid (HB4.out.trans (hB.mono HB4.out.size))
                have HBs := Lib.hid hB
                clear hB
                (obtain ⟨g0, g1, g2, g3, g4⟩ := (HM5.out).1.c5; obtain ⟨d0, d1⟩ := (HM5.out).2.1.c2; have lg := (HM5.out).1.lt; have ld := (HM5.out).2.1.lt)
                by_cases hlt : k < c.recs.length
                · skip --SKIP
                  have hg := List.getElem?_eq_getElem hlt
                  generalize hq : c.recs[k] = x at *
                  have HX := Lib.hid hg
                  have HBA : Hid (∀ y ∈ c.edits, 0 ≤ y.base ∧ y.base ≤ 1000000) := fun y hy => by
                    obtain ⟨i, hi⟩ := List.mem_iff_getElem?.1 hy
                    rw [(HEO.out i y hi).base]
                    exact lastN_bound HK.out _
                  clear hg hq
                  go_wp2_with fail
                  refine (HRC.out k x _ (HI.out.below HB5.out) (HIE.out.below HB5.out) (HIR.out.below HB5.out) HX.out HBA.out (HG.out.below HB5.out)).mono ?_
                  rintro e w6 ⟨r, rfl, hok, hB6⟩
                  have HOK := Lib.hid hok
                  have HB6 := Lib.hid (HB5.out.trans (hB6.mono HB5.out.size))
                  have HBt := Lib.hid (HBs.out.trans (hB6.mono HBs.out.size))
                  clear hok hB6
                  cases r
                  · go_wp2_with fail
                    (go_ret; refine ⟨_, rfl, fun h => absurd h (by decide), ?_⟩; have HB1 := (HB6).out; (repeat (first | (with_reducible exact Below.refl _ _) | (with_reducible assumption) | (with_reducible refine Below.setCell ?_ ?_ _; rotate_left; focus (first | exact Nat.le_refl _ | (dsimp only; omega) | (simp; omega))) | (with_reducible refine Below.drew ?_) | (with_reducible refine below_drewN ?_ _) | (with_reducible refine Below.alloc ?_ ?_ _; rotate_left; focus (first | exact Nat.le_refl _ | omega | (simp; done) | (simp; omega))) | (with_reducible refine Below.trans ?_ (HB1.mono ?_); rotate_left; focus (first | exact Nat.le_refl _ | omega | (simp; done) | (simp; omega))))))
                  · go_wp2_with fail
                    go_roundw
                    case rel =>
                      refine ⟨k + 1, by go_num, by omega, HBt.out, fun i y h1 h2 => ?_⟩
                      by_cases hik : i < k
                      · exact HL.out i y hik h2
                      · obtain rfl : i = k := by omega
                        have := HX.out
                        rw [h2] at this
                        injection this with this
                        subst this
                        exact HOK.out trivial
                    case measure => simp [intOf]; omega
                · obtain rfl : k = c.recs.length := by omega
                  have HRO : Hid (∀ i x, c.recs[i]? = some x → ∃ t, RecOk d c i x t) := fun i x h => HL.out i x (List.getElem?_eq_some_iff.1 h).1 h
                  clear HL hlt HM4 HB4 HBs
                  by_cases h6 : 512 < d.length + c.edits.length
                  · go_wp2_with fail
                    all_goals (go_ret; refine ⟨_, rfl, fun h => absurd h (by decide), ?_⟩; have HB1 := (HB5).out; (repeat (first | (with_reducible exact Below.refl _ _) | (with_reducible assumption) | (with_reducible refine Below.setCell ?_ ?_ _; rotate_left; focus (first | exact Nat.le_refl _ | (dsimp only; omega) | (simp; omega))) | (with_reducible refine Below.drew ?_) | (with_reducible refine below_drewN ?_ _) | (with_reducible refine Below.alloc ?_ ?_ _; rotate_left; focus (first | exact Nat.le_refl _ | omega | (simp; done) | (simp; omega))) | (with_reducible refine Below.trans ?_ (HB1.mono ?_); rotate_left; focus (first | exact Nat.le_refl _ | omega | (simp; done) | (simp; omega))))))
                  by_cases h7 : 512 < nb + c.recs.length
                  · go_wp2_with fail
                    all_goals (go_ret; refine ⟨_, rfl, fun h => absurd h (by decide), ?_⟩; have HB1 := (HB5).out; (repeat (first | (with_reducible exact Below.refl _ _) | (with_reducible assumption) | (with_reducible refine Below.setCell ?_ ?_ _; rotate_left; focus (first | exact Nat.le_refl _ | (dsimp only; omega) | (simp; omega))) | (with_reducible refine Below.drew ?_) | (with_reducible refine below_drewN ?_ _) | (with_reducible refine Below.alloc ?_ ?_ _; rotate_left; focus (first | exact Nat.le_refl _ | omega | (simp; done) | (simp; omega))) | (with_reducible refine Below.trans ?_ (HB1.mono ?_); rotate_left; focus (first | exact Nat.le_refl _ | omega | (simp; done) | (simp; omega))))))
                  have e1 : decide (512 < (d.length : Int) + (c.edits.length : Int)) = false := by rw [decide_eq_false_iff_not]; omega
                  have e2 : decide (512 < (nb : Int) + (c.recs.length : Int)) = false := by rw [decide_eq_false_iff_not]; omega
                  go_wp2_with fail
                  go_ret
                  exact ⟨0, rfl, fun _ => ⟨by omega, by omega, by omega, ⟨by omega, by omega⟩, HLT.out, HEO.out, HMO.out, HRO.out, by omega, by omega⟩, HB5.out⟩
end

section
open Go.RowKit

def appD (d : Dep) (c : Chg) : Dep := ⟨d.revs ++ c.edits.map (madeR c.num), sortR (d.recs ++ c.recs)⟩
inductive Blt : Dep → Prop
  | nil : Blt ⟨[], []⟩
  | step {d : Dep} {c : Chg} : Blt d → ChkOk d.revs d.recs.length c → (∀ x ∈ sortR (d.recs ++ c.recs), x ∈ d.recs ++ c.recs) → (sortR (d.recs ++ c.recs)).length = (d.recs ++ c.recs).length → Blt (appD d c)

theorem ord_all : ∀ {E : List Edt}, (∀ i y x, E[i]? = some y → E[i + 1]? = some x → ordH y.path x.path < 0) → E.Pairwise (fun a b => ordH a.path b.path < 0)
  | [], _ => .nil
  | [x], _ => by simp
  | x :: y :: r, h => by
    have ih := ord_all (E := y :: r) fun i a b h1 h2 => h (i + 1) a b h1 h2
    refine List.pairwise_cons.2 ⟨fun b hb => ?_, ih⟩
    have h0 := h 0 x y rfl rfl
    rcases List.mem_cons.1 hb with rfl | hb
    · exact h0
    · exact ordH_trans h0 (List.rel_of_pairwise_cons ih hb)
theorem lastN_snoc_ne {d : List Rev} {v : Rev} {p : ByteArray} (h : v.path ≠ p) : lastN (d ++ [v]) p = lastN d p := by
  unfold lastN lastD
  rw [log_snoc, if_neg (fun e => h ((ba_beq _ _).1 e))]
theorem asc_made (n : Int) : ∀ (E : List Edt) {d : List Rev}, Asc d → E.Pairwise (fun a b => ordH a.path b.path < 0) → (∀ x ∈ E, x.base = lastN d x.path) → Asc (d ++ E.map (madeR n))
  | [], d, h, _, _ => by simpa using h
  | x :: r, d, h, hp, hb => by
    rw [List.pairwise_cons] at hp
    have h1 : Asc (d ++ [madeR n x]) := asc_snoc h (by show x.base + 1 = lastN d x.path + 1; rw [hb x (by simp)])
    have h2 := asc_made n r h1 hp.2 fun y hy => by
      have hne : (madeR n x).path ≠ y.path := by
        intro e
        have := hp.1 y hy
        rw [show x.path = y.path from e, ordH_self] at this
        exact absurd this (by decide)
      rw [lastN_snoc_ne hne]
      exact hb y (by simp [hy])
    simpa using h2

structure DepOk (d : Dep) : Prop where
  asc : Asc d.revs
  few : d.revs.length ≤ 512
  fewr : d.recs.length ≤ 512
  chg : ∀ v ∈ d.revs, 1 ≤ v.chg ∧ v.chg ≤ 1073741824
  path : ∀ v ∈ d.revs, validB v.path.data.toList = true ∧ v.path.size ≤ 200
  src : ∀ v ∈ d.revs, v.src.size ≤ 200
  act : ∀ v ∈ d.revs, 1 ≤ v.act ∧ v.act ≤ 5
  recs : ∀ r ∈ d.recs, r.src.size ≤ 200 ∧ r.dst.size ≤ 200
theorem DepOk.nil : DepOk ⟨[], []⟩ := ⟨asc_nil, by decide, by decide, fun v h => by simp at h, fun v h => by simp at h, fun v h => by simp at h, fun v h => by simp at h, fun v h => by simp at h⟩
theorem log_mem {d : List Rev} {p : ByteArray} {v : Rev} (h : v ∈ logD d p) : v ∈ d ∧ v.path = p := by
  have := List.mem_filter.1 h
  exact ⟨this.1, (ba_beq _ _).1 this.2⟩
theorem DepOk.num {d : Dep} (h : DepOk d) {v : Rev} (hv : v ∈ d.revs) : 1 ≤ v.num ∧ v.num ≤ 512 := by
  have hl : v ∈ logD d.revs v.path := List.mem_filter.2 ⟨hv, ba_self _⟩
  have h1 : v.num ∈ (logD d.revs v.path).map (·.num) := List.mem_map_of_mem hl
  rw [h.asc v.path] at h1
  obtain ⟨i, hi, he⟩ := List.mem_map.1 h1
  rw [List.mem_range] at hi
  have h2 := log_len d.revs v.path
  have h3 := h.few
  omega
theorem DepOk.okR {d : Dep} (h : DepOk d) : OkR d.revs := fun v hv => by
  have h1 := h.num hv
  have h2 := h.chg v hv
  omega
theorem ChkOk.ord {d : List Rev} {nb : Nat} {c : Chg} (h : ChkOk d nb c) : c.edits.Pairwise (fun a b => ordH a.path b.path < 0) :=
  ord_all fun i y x h1 h2 => (h.edit (i + 1) x h2).order y (by omega) (by simpa using h1)
theorem ChkOk.at {d : List Rev} {nb : Nat} {c : Chg} (h : ChkOk d nb c) {x : Edt} (hx : x ∈ c.edits) : ∃ i, EditOk d c.edits i x := by
  obtain ⟨i, hi⟩ := List.mem_iff_getElem?.1 hx
  exact ⟨i, h.edit i x hi⟩
theorem DepOk.step {d : Dep} {c : Chg} (h : DepOk d) (hc : ChkOk d.revs d.recs.length c) (hm : ∀ x ∈ sortR (d.recs ++ c.recs), x ∈ d.recs ++ c.recs) (hl : (sortR (d.recs ++ c.recs)).length = (d.recs ++ c.recs).length) : DepOk (appD d c) := by
  have live : ∀ p, liveD d.revs p = true → p.size ≤ 200 := fun p hp => by
    unfold liveD at hp
    cases hq : lastD d.revs p with
    | none => rw [hq] at hp; cases hp
    | some v =>
      obtain ⟨h1, rfl⟩ := log_mem (List.mem_of_getLast? hq)
      exact (h.path v h1).2
  have made : ∀ v ∈ c.edits.map (madeR c.num), ∃ x i, x ∈ c.edits ∧ v = madeR c.num x ∧ EditOk d.revs c.edits i x := fun v hv => by
    obtain ⟨x, hx, rfl⟩ := List.mem_map.1 hv
    obtain ⟨i, hi⟩ := hc.at hx
    exact ⟨x, i, hx, rfl, hi⟩
  refine ⟨asc_made _ _ h.asc hc.ord fun x hx => (hc.at hx).elim fun _ h => h.base, ?_, ?_, ?_, ?_, ?_, ?_, ?_⟩
  · show (d.revs ++ c.edits.map (madeR c.num)).length ≤ 512
    have := hc.room
    simpa using this
  · show (sortR (d.recs ++ c.recs)).length ≤ 512
    have := hc.roomr
    rw [hl, List.length_append]
    exact this
  · intro v hv
    rcases List.mem_append.1 hv with hv | hv
    · exact h.chg v hv
    · obtain ⟨x, i, _, rfl, _⟩ := made v hv
      exact hc.num
  · intro v hv
    rcases List.mem_append.1 hv with hv | hv
    · exact h.path v hv
    · obtain ⟨x, i, _, rfl, hi⟩ := made v hv
      exact ⟨hi.valid, hi.short⟩
  · intro v hv
    rcases List.mem_append.1 hv with hv | hv
    · exact h.src v hv
    · obtain ⟨x, i, _, rfl, hi⟩ := made v hv
      show x.src.size ≤ 200
      by_cases h4 : x.act = 4
      · exact live _ (hi.here h4).1
      · have := (hi.none h4).1
        omega
  · intro v hv
    rcases List.mem_append.1 hv with hv | hv
    · exact h.act v hv
    · obtain ⟨x, i, _, rfl, hi⟩ := made v hv
      exact hi.act
  · intro r hr
    rcases List.mem_append.1 (hm r hr) with hr | hr
    · exact h.recs r hr
    · obtain ⟨i, hi⟩ := List.mem_iff_getElem?.1 hr
      obtain ⟨t, ht⟩ := hc.record i r hi
      refine ⟨?_, ?_⟩
      · have h1 := ht.span
        have : 0 < (logD d.revs r.src).length := by omega
        obtain ⟨h2, h3⟩ := log_mem (List.getElem_mem this)
        rw [← h3]
        exact (h.path _ h2).2
      · obtain ⟨j, hj⟩ := hc.at ht.mem
        rw [← ht.path]
        exact hj.short
theorem Blt.ok {d : Dep} (h : Blt d) : DepOk d := by
  induction h with
  | nil => exact DepOk.nil
  | step _ h1 h2 h3 ih => exact ih.step h1 h2 h3
end

end Go.Proofs.YtocffknoeknabaaGreatDoor
