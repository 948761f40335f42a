/-
  Whether a have-list has the entries of a list.
-/
import Derived.Test.YtjjdffafibonhaaGreatDoorHvX
namespace Go.Proofs.YtjjdffafibonhaaGreatDoor
open Go.RowKit

theorem HvRow.rd {g : Gh} {x : World} {B : Nat} {E : List Hv} (h : HvRow B E x) : Rd 3 ⟨fun k => if k = B then E.length * 3 else g.F k, g.O⟩ x (some ⟨B, 0, none⟩) E.length (celH E) :=
  ⟨celH_len E, fun _ => ⟨B, 0, rfl, by simp, h.1, fun j u hu => by rw [Nat.zero_add]; exact h.2 j u hu⟩⟩

set_option maxRecDepth 100000 in
set_option maxHeartbeats 1600000 in
theorem rsame_any (g : Gh) (w : World) (A B : Option Addr) (c c' : Nat) (E F : List Hv) (h1 : Rd 3 g w A E.length (celH E)) (h2 : Rd 3 g w B F.length (celH F)) (n1 : E.length ≤ 1000000) (n2 : F.length ≤ 1000000) :
    Calls Tryz.prog 35 #[.slice A E.length c, .slice B F.length c'] w fun e w' => ∃ v : Bool, e = .returned (.bool v) ∧ (v = true ↔ E = F) ∧ Below w.heap.size w w' := by
  by_cases hl : E.length = F.length
  · have H1 := Lib.hid h1
    have H2 := Lib.hid h2
    have HL := Lib.hid hl
    rw [← hl]
    clear h1 h2 hl
    go_enter Tryz.func35, Tryz.ntmps35
    go_wp2_with fail
    go_loopw [5] (fun i wr => ∃ k : Nat, i = .int .i64 k ∧ k ≤ E.length ∧ Below w.heap.size w wr ∧ Hid (E.take k = F.take k)) (fun i _ => E.length - (intOf i).toNat)
    case atStart => exact ⟨0, rfl, Nat.zero_le _, Below.refl _ _, rfl⟩
    case round =>
      obtain ⟨k, rfl, hk, hb, ht⟩ := hrel
      by_cases hlt : k < E.length
      · have hlt' : (k : Int) < (E.length : Int) := by omega
        have hltF : k < F.length := by have := HL.out; omega
        obtain ⟨a, off, rfl, _, hax, hc⟩ := (H1.out.ext (Ext.of_below (fun _ => False) g hb)).at_ (by omega)
        obtain ⟨b, of2, rfl, _, hbx, hd⟩ := (H2.out.ext (Ext.of_below (fun _ => False) g hb)).at_ (by omega)
        have hg1 := List.getElem?_eq_getElem hlt
        have hg2 := List.getElem?_eq_getElem hltF
        have HT1 : Hid (E.take (k + 1) = E.take k ++ [E[k]]) := by show _ = _; rw [List.take_add_one, hg1]; rfl
        have HT2 : Hid (F.take (k + 1) = F.take k ++ [F[k]]) := by show _ = _; rw [List.take_add_one, hg2]; rfl
        generalize hq1 : E[k] = q1 at *
        generalize hq2 : F[k] = q2 at *
        have HQ : Hid (E = F → q1 = q2) := fun e => by rw [← hq1, ← hq2]; subst e; rfl
        have c0 := hc _ _ (celH_get E k 0 q1 hg1 (by omega))
        have c1 := hc _ _ (celH_get E k 1 q1 hg1 (by omega))
        have c2 := hc _ _ (celH_get E k 2 q1 hg1 (by omega))
        have d0 := hd _ _ (celH_get F k 0 q2 hg2 (by omega))
        have d1 := hd _ _ (celH_get F k 1 q2 hg2 (by omega))
        have d2 := hd _ _ (celH_get F k 2 q2 hg2 (by omega))
        simp only [Nat.add_zero, ← Nat.add_assoc] at c0 c1 c2 d0 d1 d2
        obtain ⟨p, n, lo⟩ := q1
        obtain ⟨p', n', lo'⟩ := q2
        dsimp only at c0 c1 c2 d0 d1 d2
        have HB := Lib.hid hb
        have HT := Lib.hid ht.out
        clear hc hd hg1 hg2 hq1 hq2 hb ht
        by_cases he : (⟨p, n, lo⟩ : Hv) = ⟨p', n', lo'⟩
        · cases he
          have HN : Hid (E.take (k + 1) = F.take (k + 1)) := by show _ = _; rw [HT1.out, HT2.out, HT.out]
          clear HT1 HT2
          go_wp2_with fail
          go_quiet (fail)
          go_wp2_with fail
          go_round
          case rel => exact ⟨k + 1, by go_num, by omega, (HB.out.trans (below_drewN (Below.refl _ _) _)), HN.out⟩
          case measure => simp [intOf]; omega
        · have HE := Lib.hid he
          have key : Hid ((p.toList == p'.toList) = false ∨ (p = p' ∧ (n == n') = false) ∨ (p = p' ∧ n = n' ∧ (lo.toList == lo'.toList) = false)) := by
            by_cases hpp : p = p'
            · by_cases hnn : n = n'
              · refine .inr (.inr ⟨hpp, hnn, ?_⟩)
                rw [beq_eq_false_iff_ne]
                intro e
                refine he ?_
                rw [hpp, hnn, ba_data (a := lo) (b := lo') (by rw [← toList_eq, ← toList_eq]; exact e)]
              · exact .inr (.inl ⟨hpp, by rw [beq_eq_false_iff_ne]; exact hnn⟩)
            · refine .inl ?_
              rw [beq_eq_false_iff_ne]
              exact fun e => hpp (ba_data (by rw [← toList_eq, ← toList_eq]; exact e))
          have HNE : Hid (E ≠ F) := fun e => HE.out (HQ.out e)
          clear he HE
          rcases key.out with h3 | ⟨rfl, h3⟩ | ⟨rfl, rfl, h3⟩
          · go_wp2_with fail
            go_quiet (fail)
            go_wp2_with fail
            go_ret
            exact ⟨false, rfl, iff_of_false (by decide) HNE.out, (HB.out.trans (below_drewN (Below.refl _ _) _))⟩
          · go_wp2_with fail
            go_quiet (fail)
            go_wp2_with fail
            go_ret
            exact ⟨false, rfl, iff_of_false (by decide) HNE.out, (HB.out.trans (below_drewN (Below.refl _ _) _))⟩
          · go_wp2_with fail
            go_quiet (fail)
            go_wp2_with fail
            go_ret
            exact ⟨false, rfl, iff_of_false (by decide) HNE.out, (HB.out.trans (below_drewN (Below.refl _ _) _))⟩
      · obtain rfl : k = E.length := by omega
        have HE : Hid (E = F) := by
          have := ht.out
          rwa [List.take_length, HL.out, List.take_length] at this
        go_wp2_with fail
        go_ret
        exact ⟨true, rfl, iff_of_true rfl HE.out, hb⟩
  · have hl' : (E.length : Int) ≠ (F.length : Int) := by omega
    have HE : Hid (E ≠ F) := fun e => hl (by rw [e])
    clear h1 h2
    go_enter Tryz.func35, Tryz.ntmps35
    go_wp2_with fail
    go_ret
    exact ⟨false, rfl, iff_of_false (by decide) HE.out, Below.refl _ _⟩

set_option maxRecDepth 100000 in
set_option maxHeartbeats 3200000 in
theorem his_any (g : Gh) (w : World) (b d : Nat) (name : ByteArray) (ch : Int) (E : List Hv) (dead : Bool) (h : HvAt g w b d name ch E dead) (A : Option Addr) (c : Nat) (F : List Hv) (hr : Rd 3 g w A F.length (celH F)) (hF : F.length ≤ 1000000) :
    Calls Tryz.prog 22 #[.pointer (some ⟨b, 0, none⟩), .slice A F.length c] w fun e w' => ∃ v : Bool, e = .returned (.bool v) ∧ (v = true ↔ E = F) ∧ Below w.heap.size w w' := by
  have HH := Lib.hid h
  have HR := Lib.hid hr
  have hEl := h.ok.len
  clear h hr
  go_enter Tryz.func22, Tryz.ntmps22
  go_wp2_with fail
  refine (hall_any HH.out).mono ?_
  rintro e w1 ⟨rfl, hb1, hrow⟩
  have hx1 := Ext.of_below (fun _ => False) g hb1
  obtain ⟨g1, hxr, hrd⟩ := row_rd g hb1 hrow
  have HS := Lib.hid (rsame_any g1 w1 _ A E.length c E F hrd (HR.out.ext hxr) (by omega) hF)
  have HB1 := Lib.hid hb1
  clear hx1 hxr hrd hrow hb1
  go_wp2_with fail
  refine HS.out.mono ?_
  rintro e w2 ⟨v, rfl, hv, hb2⟩
  have HB2 := Lib.hid (HB1.out.trans (hb2.mono HB1.out.size))
  clear hb2 HS
  cases v
  · have HV : Hid (E ≠ F) := fun e => absurd (hv.2 e) (by decide)
    clear hv
    go_wp2_with fail
    go_ret
    exact ⟨false, rfl, iff_of_false (by decide) HV.out, HB2.out⟩
  · have hEF := hv.1 rfl
    clear hv
    subst hEF
    go_wp2_with fail
    go_loopw [5] (fun i wr => ∃ k : Nat, i = .int .i64 k ∧ k ≤ E.length ∧ Below w.heap.size w wr) (fun i _ => E.length - (intOf i).toNat)
    case atStart => exact ⟨0, rfl, Nat.zero_le _, HB2.out⟩
    case round =>
      obtain ⟨k, rfl, hk, hb⟩ := hrel
      clear HB2
      by_cases hlt : k < E.length
      · have hlt' : (k : Int) < (E.length : Int) := by omega
        have hxr := Ext.of_below (fun _ => False) g hb
        have HHr := Lib.hid (HH.out.ext hxr (fun h => h))
        obtain ⟨a, off, rfl, _, hax, hc⟩ := (HR.out.ext hxr).at_ (by omega)
        have hg1 := List.getElem?_eq_getElem hlt
        have hm := List.getElem_mem hlt
        have e1 := getH_of HH.out.ok.srt hm
        have e2 := atH_of HH.out.ok.locs hm
        generalize E[k] = q at *
        have c0 := hc _ _ (celH_get E k 0 q hg1 (by omega))
        have c1 := hc _ _ (celH_get E k 1 q hg1 (by omega))
        have c2 := hc _ _ (celH_get E k 2 q hg1 (by omega))
        simp only [Nat.add_zero, ← Nat.add_assoc] at c0 c1 c2
        obtain ⟨p, n, lo⟩ := q
        dsimp only at c0 c1 c2 e1 e2
        have hg0 := hget_any HHr.out p
        rw [e1] at hg0
        have HG : Hid (Calls Tryz.prog 28 #[.pointer (some ⟨b, 0, none⟩), .string p] wr fun e x' => e = .returned (.tuple #[.agg #[.string p, .int .i64 n, .string lo], .bool true]) ∧ Below wr.heap.size wr x') := hg0
        clear hg0
        have HB := Lib.hid hb
        have HAT : Hid (∀ y, Below wr.heap.size wr y → Calls Tryz.prog 30 #[.pointer (some ⟨b, 0, none⟩), .string lo] y fun e x' => e = .returned (.tuple #[.agg #[.string p, .int .i64 n, .string lo], .bool true]) ∧ Below y.heap.size y x') := by
          intro y hy
          have := hat_any (HHr.out.ext (Ext.of_below (fun _ => False) g hy) (fun h => h)) lo
          rw [e2] at this
          exact this
        have HC := Lib.hid (And.intro c0 (And.intro c1 c2))
        clear hc hg1 hm e1 e2 hxr hb c1
        go_wp2_with fail
        refine HG.out.mono ?_
        rintro e w3 ⟨rfl, hb3⟩
        have c0 := (hb3.cell (p := ⟨a, off + k * 3, none⟩) hax).trans HC.out.1
        have c2 := (hb3.cell (p := ⟨a, off + k * 3 + 2, none⟩) hax).trans HC.out.2.2
        have hB4 : Below wr.heap.size wr (w3.alloc (.cells #[.string p, .int .i64 n, .string lo] 32)) := hb3.alloc hb3.size _
        have HB4 := Lib.hid hB4
        have c2 := (hB4.cell (p := ⟨a, off + k * 3 + 2, none⟩) hax).trans HC.out.2.2
        have h3s := hb3.size
        have HA4 := HAT.out _ hB4
        have HA5 := Lib.hid HA4
        have HK3 : Hid (Blk w3.heap.size 32 [.string p, .int .i64 n, .string lo] (w3.alloc (.cells #[.string p, .int .i64 n, .string lo] 32))) := Blk.new w3 32 [.string p, .int .i64 n, .string lo]
        clear hb3 hB4 HA4 HG
        go_wp2_with fail
        refine HA5.out.mono ?_
        rintro e w5 ⟨rfl, hb5⟩
        have HB6 : Hid (Below wr.heap.size wr (w5.alloc (.cells #[.string p, .int .i64 n, .string lo] 32))) := (HB4.out.trans (hb5.mono HB4.out.size)).alloc (HB4.out.trans (hb5.mono HB4.out.size)).size _
        have hk3 : Blk w3.heap.size 32 [.string p, .int .i64 n, .string lo] (w5.alloc (.cells #[.string p, .int .i64 n, .string lo] 32)) := (HK3.out.below hb5).alloc _
        have hk5 : Blk w5.heap.size 32 [.string p, .int .i64 n, .string lo] (w5.alloc (.cells #[.string p, .int .i64 n, .string lo] 32)) := Blk.new w5 32 [.string p, .int .i64 n, .string lo]
        have u0 := hk3.cell 0
        have u1 := hk3.cell 1
        have u2 := hk3.cell 2
        have v0 := hk5.cell 0
        have v1 := hk5.cell 1
        have v2 := hk5.cell 2
        dsimp only [List.getElem?_cons_zero, List.getElem?_cons_succ] at u0 u1 u2 v0 v1 v2
        have a0 := (HB6.out.cell (p := ⟨a, off + k * 3, none⟩) hax).trans HC.out.1
        have a1 := (HB6.out.cell (p := ⟨a, off + k * 3 + 1, none⟩) hax).trans HC.out.2.1
        have a2 := (HB6.out.cell (p := ⟨a, off + k * 3 + 2, none⟩) hax).trans HC.out.2.2
        clear hk3 hk5 hb5 c0 c2
        go_wp2_with fail
        go_quiet (fail)
        go_wp2_with fail
        go_round
        case rel => exact ⟨k + 1, by go_num, by omega, HB.out.trans ((HB6.out.trans (below_drewN (Below.refl _ _) _)).mono HB.out.size)⟩
        case measure => simp [intOf]; omega
      · go_wp2_with fail
        go_ret
        exact ⟨rfl, hb⟩

end Go.Proofs.YtjjdffafibonhaaGreatDoor
