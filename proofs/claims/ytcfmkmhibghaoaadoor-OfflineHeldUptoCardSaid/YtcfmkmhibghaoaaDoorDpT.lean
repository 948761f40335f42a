/-
  The program's Log: its stable sort leaves a list as it is whose numbers ascend.
-/
import Derived.Test.YtcfmkmhibghaoaaDoorDpQ
import Derived.IntWalk
namespace Go.Proofs.YtcfmkmhibghaoaaDoor
open Go.RowKit

def cmpN (a b : Int) : Int := if a < b then -1 else if b < a then 1 else 0
theorem cmpN_nn {a b : Int} (h : b ≤ a) : decide (cmpN a b < 0) = false := by
  unfold cmpN
  rw [if_neg (by omega)]
  split <;> decide
theorem isnan_any (a : Int) (w : World) : Calls Tryd.prog 54 #[.int .i64 a] w fun e w' => e = .returned (.bool false) ∧ w = w' := by
  have h : ((a : Int) != a) = false := by simp
  go_enter Tryd.func54, Tryd.ntmps54
  go_wp2_with fail
  go_ret
  exact ⟨by simp, rfl⟩
theorem cmpi_any (a b : Int) (w : World) : Calls Tryd.prog 41 #[.int .i64 a, .int .i64 b] w fun e w' => e = .returned (.int .i64 (cmpN a b)) ∧ w = w' := by
  generalize hc : cmpN a b = c
  have HC := Lib.hid hc
  clear hc
  go_enter Tryd.func41, Tryd.ntmps41
  go_wp2_with (go_at_call 54; refine (isnan_any _ _).mono ?_; rintro e w' ⟨rfl, rfl⟩)
  all_goals
    go_ret
    refine ⟨ret_int ?_, rfl⟩
    rw [← HC.out]
    unfold cmpN
    repeat' split
    all_goals first
      | rfl
      | omega
      | (exfalso; simp_all; omega)
theorem lcmp_any (a b : Rev) (w : World) : Calls Tryd.prog 40 #[a.val, b.val] w fun e w' => e = .returned (.int .i64 (cmpN a.num b.num)) ∧ Below w.heap.size w w' := by
  obtain ⟨vp, vn, vc, va, ⟨tb, tk, te, tx⟩, ⟨cs, cz⟩, vs, vm⟩ := a
  obtain ⟨up, un, uc, ua, ⟨ub, uk, ue, ux⟩, ⟨us, uz⟩, uv, um⟩ := b
  unfold Rev.val Rev.cells
  dsimp only
  go_enter Tryd.func40, Tryd.ntmps40
  go_wp2_with (go_at_call 41; refine (cmpi_any _ _ _).mono ?_; rintro e w' ⟨rfl, rfl⟩)
  go_ret
  exact ⟨rfl, by (repeat (first | (with_reducible exact Below.refl _ _) | (with_reducible assumption) | (with_reducible refine Below.setCell ?_ ?_ _; rotate_left; focus (first | exact Nat.le_refl _ | (dsimp only; omega))) | (with_reducible refine Below.drew ?_) | (with_reducible refine below_drewN ?_ _) | (with_reducible refine Below.alloc ?_ ?_ _; rotate_left; focus (first | exact Nat.le_refl _ | (simp; done) | (simp; omega)))))⟩

def AscN (V : List Rev) : Prop := ∀ (i j : Nat) (x y : Rev), i ≤ j → V[i]? = some x → V[j]? = some y → x.num ≤ y.num

set_option maxRecDepth 100000 in
set_option maxHeartbeats 1600000 in
theorem ins_any (V : List Rev) (A : Option Addr) (cap a b : Nat) (w : World) (hI : revK.In A V w) (hV : AscN V) (hab : a ≤ b) (hb : b ≤ V.length) (hn : V.length ≤ 1000000) :
    Calls Tryd.prog 64 #[.slice A V.length cap, .int .i64 a, .int .i64 b, .func (.func 40) #[] #[]] w fun e w' => e = .returned (.tuple #[]) ∧ Below w.heap.size w w' := by
  have HI := Lib.hid hI
  have HV := Lib.hid hV
  clear hI hV
  go_enter Tryd.func64, Tryd.ntmps64
  go_wp2_with fail
  go_loopw [8] (fun i wr => ∃ k : Nat, i = .int .i64 k ∧ a + 1 ≤ k ∧ Below w.heap.size w wr) (fun i _ => b - (intOf i).toNat)
  case atStart => exact ⟨a + 1, by go_num, Nat.le_refl _, Below.refl _ _⟩
  case round =>
    obtain ⟨k, rfl, hk, hB⟩ := hrel
    have HB := Lib.hid hB
    clear hB
    by_cases hlt : k < b
    · obtain ⟨g, off, rfl, hgl, hat⟩ := HI.out (by omega)
      obtain ⟨jp, rfl⟩ : ∃ jp, k = jp + 1 := ⟨k - 1, by omega⟩
      have hlt2 : jp + 1 < V.length := by omega
      have hlt1 : jp < V.length := by omega
      have hgx := List.getElem?_eq_getElem hlt2
      have hgy := List.getElem?_eq_getElem hlt1
      have hle := HV.out jp (jp + 1) _ _ (by omega) hgy hgx
      generalize hqx : V[jp + 1] = x at *
      generalize hqy : V[jp] = y at *
      obtain ⟨wo, rfl⟩ : ∃ wo : World, wo = wr := ⟨_, rfl⟩
      have hS : Below wo.heap.size wo wo.drew := (Below.refl _ _).drew
      have hgw : g < wo.heap.size := Nat.lt_of_lt_of_le hgl HB.out.size
      have hcx := fun (z : Held (Below wo.heap.size wo)) j (u : Value) (hj : x.cells[j]? = some u) => ((hat.below (HB.out.trans (z.ok.mono HB.out.size)) hgl).get hgx hj)
      have hcy := fun (z : Held (Below wo.heap.size wo)) j (u : Value) (hj : y.cells[j]? = some u) => ((hat.below (HB.out.trans (z.ok.mono HB.out.size)) hgl).get hgy hj)
      have hgz := fun (z : Held (Below wo.heap.size wo)) => Nat.lt_of_lt_of_le hgw z.ok.size
      have HC := Lib.hid (fun w => lcmp_any x y w)
      have hd := cmpN_nn hle
      have hja : decide ((a : Int) < (jp : Int) + 1) = true := by rw [decide_eq_true_eq]; omega
      generalize cmpN x.num y.num = cn at *
      clear hat hgx hgy hqx hqy hle
      have x0 := fun z => hcx z 0 _ rfl
      have x1 := fun z => hcx z 1 _ rfl
      have x2 := fun z => hcx z 2 _ rfl
      have x3 := fun z => hcx z 3 _ rfl
      have x4 := fun z => hcx z 4 _ rfl
      have x5 := fun z => hcx z 5 _ rfl
      have x6 := fun z => hcx z 6 _ rfl
      have x7 := fun z => hcx z 7 _ rfl
      have x8 := fun z => hcx z 8 _ rfl
      have x9 := fun z => hcx z 9 _ rfl
      have x10 := fun z => hcx z 10 _ rfl
      have x11 := fun z => hcx z 11 _ rfl
      have y0 := fun z => hcy z 0 _ rfl
      have y1 := fun z => hcy z 1 _ rfl
      have y2 := fun z => hcy z 2 _ rfl
      have y3 := fun z => hcy z 3 _ rfl
      have y4 := fun z => hcy z 4 _ rfl
      have y5 := fun z => hcy z 5 _ rfl
      have y6 := fun z => hcy z 6 _ rfl
      have y7 := fun z => hcy z 7 _ rfl
      have y8 := fun z => hcy z 8 _ rfl
      have y9 := fun z => hcy z 9 _ rfl
      have y10 := fun z => hcy z 10 _ rfl
      have y11 := fun z => hcy z 11 _ rfl
      have e12 : revK.n = 12 := rfl
      simp only [e12, Nat.add_zero] at x0 x1 x2 x3 x4 x5 x6 x7 x8 x9 x10 x11 y0 y1 y2 y3 y4 y5 y6 y7 y8 y9 y10 y11
      clear hcx hcy e12
      obtain ⟨vp, vn, vc, va, ⟨tb, tk, te, tx⟩, ⟨cs, cz⟩, vs, vm⟩ := x
      obtain ⟨up, un, uc, ua, ⟨ub, uk, ue, ux⟩, ⟨us, uz⟩, uv, um⟩ := y
      unfold Rev.val Rev.cells at HC
      dsimp only at HC
      go_wp2_with fail
      go_loopw [9] (fun i wx => i = .int .i64 ((jp + 1 : Nat) : Int) ∧ wx = wo) (fun _ _ => 0)
      case atStart => exact ⟨rfl, rfl⟩
      case round =>
        obtain ⟨rfl, rfl⟩ := hrel
        go_wp2_with fail
        (refine wp_region_s (S := Below wr.heap.size wr) (by kernel_rfl) (by kernel_rfl) hS ?_; have hN : Nonempty (Held (Below wr.heap.size wr)) := ⟨⟨_, hS⟩⟩; skip; (repeat (go_big_quiet_step ((go_at_call 40; exact held_keep (HC.out _))))); refine wpQuiet_nil ?_; rintro x ⟨⟨_, hx⟩, rfl⟩; clear hN)
        go_wp2_with fail
        go_roundw
        case rel => exact ⟨jp + 1 + 1, by go_num, by omega, HB.out.trans (hx.mono HB.out.size)⟩
        case measure => simp [intOf]; omega
    · go_wp2_with fail

      refine bodyPost_end (results_none rfl _ _ _) rfl ?_
      exact ⟨rfl, HB.out⟩

/-- The cells of an element, in every world that goes on from here. -/
theorem cells12 {V : List Rev} {g off : Nat} {w wo : World} (hat : revK.At g off V w) (hgl : g < w.heap.size) (HB : Below w.heap.size w wo) {i : Nat} {x : Rev} (hgx : V[i]? = some x) :
    (∀ z : Held (Below wo.heap.size wo), z.w.cell? ⟨g, off + i * 12, none⟩ = some (.string x.path)) ∧ (∀ z : Held (Below wo.heap.size wo), z.w.cell? ⟨g, off + i * 12 + 1, none⟩ = some (.int .i64 x.num)) ∧ (∀ z : Held (Below wo.heap.size wo), z.w.cell? ⟨g, off + i * 12 + 2, none⟩ = some (.int .i64 x.chg)) ∧ (∀ z : Held (Below wo.heap.size wo), z.w.cell? ⟨g, off + i * 12 + 3, none⟩ = some (.int .i64 x.act)) ∧
    (∀ z : Held (Below wo.heap.size wo), z.w.cell? ⟨g, off + i * 12 + 4, none⟩ = some (.int .i64 x.ty.base)) ∧ (∀ z : Held (Below wo.heap.size wo), z.w.cell? ⟨g, off + i * 12 + 5, none⟩ = some (.bool x.ty.kw)) ∧ (∀ z : Held (Below wo.heap.size wo), z.w.cell? ⟨g, off + i * 12 + 6, none⟩ = some (.bool x.ty.ex)) ∧ (∀ z : Held (Below wo.heap.size wo), z.w.cell? ⟨g, off + i * 12 + 7, none⟩ = some (.bool x.ty.xe)) ∧
    (∀ z : Held (Below wo.heap.size wo), z.w.cell? ⟨g, off + i * 12 + 8, none⟩ = some (.int .u64 x.con.sum)) ∧ (∀ z : Held (Below wo.heap.size wo), z.w.cell? ⟨g, off + i * 12 + 9, none⟩ = some (.int .i64 x.con.size)) ∧ (∀ z : Held (Below wo.heap.size wo), z.w.cell? ⟨g, off + i * 12 + 10, none⟩ = some (.string x.src)) ∧ (∀ z : Held (Below wo.heap.size wo), z.w.cell? ⟨g, off + i * 12 + 11, none⟩ = some (.int .i64 x.srcn)) ∧ ∀ z : Held (Below wo.heap.size wo), g < z.w.heap.size := by
  have hc := fun (z : Held (Below wo.heap.size wo)) j (u : Value) (hj : x.cells[j]? = some u) => ((hat.below (HB.trans (z.ok.mono HB.size)) hgl).get hgx hj)
  exact ⟨fun z => hc z 0 _ rfl, fun z => hc z 1 _ rfl, fun z => hc z 2 _ rfl, fun z => hc z 3 _ rfl, fun z => hc z 4 _ rfl, fun z => hc z 5 _ rfl, fun z => hc z 6 _ rfl, fun z => hc z 7 _ rfl, fun z => hc z 8 _ rfl, fun z => hc z 9 _ rfl, fun z => hc z 10 _ rfl, fun z => hc z 11 _ rfl, fun z => Nat.lt_of_lt_of_le (Nat.lt_of_lt_of_le hgl HB.size) z.ok.size⟩

set_option maxRecDepth 100000 in
set_option maxHeartbeats 3200000 in
theorem sym_any (V : List Rev) (g off cap : Nat) (w0 : World) (hat : revK.At g off V w0) (hgl : g < w0.heap.size) (hV : AscN V) (hn : V.length ≤ 1000000) : ∀ (N a m b : Nat), b - a ≤ N → a < m → m < b → b ≤ V.length → ∀ w, Below w0.heap.size w0 w →
    Calls Tryd.prog 65 #[.slice (some ⟨g, off, none⟩) V.length cap, .int .i64 a, .int .i64 m, .int .i64 b, .func (.func 40) #[] #[]] w fun e w' => e = .returned (.tuple #[]) ∧ Below w.heap.size w w' := by
  have HV := Lib.hid hV
  have HAT := Lib.hid hat
  clear hV hat
  intro N
  induction N with
  | zero => intro a m b h1 h2 h3; omega
  | succ N ih =>
    intro a m b hN ham hmb hb w HB0
    have IH := Lib.hid ih
    have HBW := Lib.hid HB0
    clear ih HB0
    by_cases h1 : m - a = 1
    · obtain rfl : m = a + 1 := by omega
      have e1 : ((a : Int) + 1 - (a : Int) == 1) = true := by rw [beq_iff_eq]; omega
      go_enter Tryd.func65, Tryd.ntmps65
      go_wp2_with fail
      go_loopw [10, 11] (fun i j wr => ∃ q : Nat, i = .int .i64 ((a + 1 : Nat) : Int) ∧ j = .int .i64 q ∧ a + 1 ≤ q ∧ q ≤ b ∧ Below w.heap.size w wr) (fun _ j _ => (intOf j).toNat)
      case atStart => exact ⟨b, rfl, rfl, by omega, Nat.le_refl _, Below.refl _ _⟩
      case round =>
        obtain ⟨q, rfl, rfl, hq1, hq2, hB⟩ := hrel
        have HB := Lib.hid (HBW.out.trans (hB.mono HBW.out.size))
        have HB1 := Lib.hid hB
        have hat := HAT.out
        clear hB
        obtain ⟨wo, rfl⟩ : ∃ wo : World, wo = wr := ⟨_, rfl⟩
        have hS : Below wo.heap.size wo wo.drew := (Below.refl _ _).drew
        by_cases hlt : a + 1 < q
        · go_wp2_with fail
          have hh : ((a : Int) + 1 + (q : Int)) / 2 = ((a + 1 + q) / 2 : Nat) := by omega
          rw [hh]
          clear hh
          obtain ⟨h, hq⟩ : ∃ h : Nat, h = (a + 1 + q) / 2 := ⟨_, rfl⟩
          rw [← hq]
          have h1 : a + 1 ≤ h := by omega
          have h2 : h < q := by omega
          have h3 : h < V.length := by omega
          have h4 : a < V.length := by omega
          clear hq
          (have hgx := List.getElem?_eq_getElem (l := V) (i := h) (by omega); have hgy := List.getElem?_eq_getElem (l := V) (i := a) (by omega); have hle := HV.out (a) (h) _ _ (by omega) hgy hgx; generalize hqx : V[h] = x at *; generalize hqy : V[a] = y at *; obtain ⟨x0, x1, x2, x3, x4, x5, x6, x7, x8, x9, x10, x11, xg⟩ := cells12 hat hgl HB.out hgx; obtain ⟨y0, y1, y2, y3, y4, y5, y6, y7, y8, y9, y10, y11, _⟩ := cells12 hat hgl HB.out hgy; have HC := Lib.hid (fun w => lcmp_any x y w); have hd := cmpN_nn hle; generalize cmpN x.num y.num = cn at *; clear hgx hgy hqx hqy hle; obtain ⟨vp, vn, vc, va, ⟨tb, tk, te, tx⟩, ⟨cs, cz⟩, vs, vm⟩ := x; obtain ⟨up, un, uc, ua, ⟨ub, uk, ue, ux⟩, ⟨us, uz⟩, uv, um⟩ := y; unfold Rev.val Rev.cells at HC; dsimp only at HC x0 x1 x2 x3 x4 x5 x6 x7 x8 x9 x10 x11 y0 y1 y2 y3 y4 y5 y6 y7 y8 y9 y10 y11)
          (refine wp_region_s (S := Below wo.heap.size wo) (by kernel_rfl) (by kernel_rfl) hS ?_; have hN : Nonempty (Held (Below wo.heap.size wo)) := ⟨⟨_, hS⟩⟩; skip; (repeat (go_big_quiet_step ((go_at_call 40; exact held_keep (HC.out _))))); refine wpQuiet_nil ?_; rintro x ⟨⟨_, hx⟩, rfl⟩; clear hN)
          go_wp2_with fail
          go_roundw
          case rel => exact ⟨h, rfl, rfl, by omega, by omega, HB1.out.trans (hx.mono HB1.out.size)⟩
          case measure => simp [intOf]; omega
        · go_wp2_with fail
          go_loopw [13] (fun k wx => k = .int .i64 (a : Int) ∧ wx = wo) (fun _ _ => 0)
          case atStart => exact ⟨rfl, rfl⟩
          case round =>
            obtain ⟨rfl, rfl⟩ := hrel
            go_wp2_with fail
            refine bodyPost_ret (results_none rfl _ _ _) rfl ?_
            exact ⟨rfl, HB1.out⟩
    · have e1 : ((m : Int) - (a : Int) == 1) = false := by simp; omega
      by_cases h2 : b - m = 1
      · obtain rfl : b = m + 1 := by omega
        have e2 : ((m : Int) + 1 - (m : Int) == 1) = true := by rw [beq_iff_eq]; omega
        go_enter Tryd.func65, Tryd.ntmps65
        go_wp2_with fail
        clear e1 e2
        go_loopw [14, 15] (fun i j wr => ∃ q : Nat, i = .int .i64 q ∧ j = .int .i64 m ∧ a ≤ q ∧ q ≤ m ∧ Below w.heap.size w wr) (fun i _ _ => m - (intOf i).toNat)
        case atStart => exact ⟨a, rfl, rfl, Nat.le_refl _, by omega, Below.refl _ _⟩
        case round =>
          obtain ⟨q, rfl, rfl, hq1, hq2, hB⟩ := hrel
          have HB := Lib.hid (HBW.out.trans (hB.mono HBW.out.size))
          have HB1 := Lib.hid hB
          have hat := HAT.out
          clear hB
          obtain ⟨wo, rfl⟩ : ∃ wo : World, wo = wr := ⟨_, rfl⟩
          have hS : Below wo.heap.size wo wo.drew := (Below.refl _ _).drew
          by_cases hlt : q < m
          · go_wp2_with fail
            have hh : ((q : Int) + (m : Int)) / 2 = ((q + m) / 2 : Nat) := by omega
            rw [hh]
            clear hh
            obtain ⟨h, hq⟩ : ∃ h : Nat, h = (q + m) / 2 := ⟨_, rfl⟩
            rw [← hq]
            have h1 : q ≤ h := by omega
            have h2 : h < m := by omega
            have h3 : h < V.length := by omega
            have h4 : m < V.length := by omega
            clear hq
            (have hgx := List.getElem?_eq_getElem (l := V) (i := m) (by omega); have hgy := List.getElem?_eq_getElem (l := V) (i := h) (by omega); have hle := HV.out (h) (m) _ _ (by omega) hgy hgx; generalize hqx : V[m] = x at *; generalize hqy : V[h] = y at *; obtain ⟨x0, x1, x2, x3, x4, x5, x6, x7, x8, x9, x10, x11, xg⟩ := cells12 hat hgl HB.out hgx; obtain ⟨y0, y1, y2, y3, y4, y5, y6, y7, y8, y9, y10, y11, _⟩ := cells12 hat hgl HB.out hgy; have HC := Lib.hid (fun w => lcmp_any x y w); have hd := cmpN_nn hle; generalize cmpN x.num y.num = cn at *; clear hgx hgy hqx hqy hle; obtain ⟨vp, vn, vc, va, ⟨tb, tk, te, tx⟩, ⟨cs, cz⟩, vs, vm⟩ := x; obtain ⟨up, un, uc, ua, ⟨ub, uk, ue, ux⟩, ⟨us, uz⟩, uv, um⟩ := y; unfold Rev.val Rev.cells at HC; dsimp only at HC x0 x1 x2 x3 x4 x5 x6 x7 x8 x9 x10 x11 y0 y1 y2 y3 y4 y5 y6 y7 y8 y9 y10 y11)
            (refine wp_region_s (S := Below wo.heap.size wo) (by kernel_rfl) (by kernel_rfl) hS ?_; have hN : Nonempty (Held (Below wo.heap.size wo)) := ⟨⟨_, hS⟩⟩; skip; (repeat (go_big_quiet_step ((go_at_call 40; exact held_keep (HC.out _))))); refine wpQuiet_nil ?_; rintro x ⟨⟨_, hx⟩, rfl⟩; clear hN)
            go_wp2_with fail
            go_roundw
            case rel => exact ⟨h + 1, by go_num, rfl, by omega, by omega, HB1.out.trans (hx.mono HB1.out.size)⟩
            case measure => simp [intOf]; omega
          · obtain rfl : q = m := by omega
            go_wp2_with fail
            go_loopw [17] (fun k wx => k = .int .i64 (q : Int) ∧ wx = wo) (fun _ _ => 0)
            case atStart => exact ⟨rfl, rfl⟩
            case round =>
              obtain ⟨rfl, rfl⟩ := hrel
              go_wp2_with fail
              refine bodyPost_ret (results_none rfl _ _ _) rfl ?_
              exact ⟨rfl, HB1.out⟩
      · have e2 : ((b : Int) - (m : Int) == 1) = false := by simp; omega
        obtain ⟨d, hd⟩ : ∃ d : Nat, d = (a + b) / 2 := ⟨_, rfl⟩
        have hh : ((a : Int) + (b : Int)) / 2 = (d : Int) := by omega
        have hd1 : 2 * d ≤ a + b := by omega
        have hd2 : a + b ≤ 2 * d + 1 := by omega
        clear hd
        by_cases hmd : d < m
        · obtain ⟨s0, hs0⟩ : ∃ s0 : Nat, d + m = b + s0 := ⟨d + m - b, by omega⟩
          have hs1 : (d : Int) + (m : Int) - (b : Int) = (s0 : Int) := by omega
          go_enter Tryd.func65, Tryd.ntmps65
          go_wp2_with fail
          clear e1 e2 hs1 hh
          go_loopw [20, 21] (fun i j wr => ∃ q : Nat, i = .int .i64 q ∧ j = .int .i64 d ∧ s0 ≤ q ∧ q ≤ d ∧ Below w.heap.size w wr) (fun i _ _ => d - (intOf i).toNat)
          case atStart => exact ⟨s0, rfl, rfl, Nat.le_refl _, by omega, Below.refl _ _⟩
          case round =>
            obtain ⟨q, rfl, rfl, hq1, hq2, hB⟩ := hrel
            have HB := Lib.hid (HBW.out.trans (hB.mono HBW.out.size))
            have HB1 := Lib.hid hB
            have hat := HAT.out
            clear hB
            obtain ⟨wo, rfl⟩ : ∃ wo : World, wo = wr := ⟨_, rfl⟩
            have hS : Below wo.heap.size wo wo.drew := (Below.refl _ _).drew
            by_cases hlt : q < d
            · go_wp2_with fail
              have hh : ((q : Int) + (d : Int)) / 2 = ((q + d) / 2 : Nat) := by omega
              rw [hh]
              clear hh
              obtain ⟨h, hq⟩ : ∃ h : Nat, h = (q + d) / 2 := ⟨_, rfl⟩
              rw [← hq]
              have h1 : q ≤ h := by omega
              have h2 : h < d := by omega
              have h3 : h < V.length := by omega
              clear hq
              obtain ⟨r, hr⟩ : ∃ r : Nat, r + h + 1 = d + m := ⟨d + m - 1 - h, by omega⟩
              have h4 : r < V.length := by omega
              have h5 : h ≤ r := by omega
              have hr1 : (d : Int) + (m : Int) - 1 - (h : Int) = (r : Int) := by omega
              have HR := Lib.hid hr
              clear hr
              (have hgx := List.getElem?_eq_getElem (l := V) (i := r) (by omega); have hgy := List.getElem?_eq_getElem (l := V) (i := h) (by omega); have hle := HV.out (h) (r) _ _ (by omega) hgy hgx; generalize hqx : V[r] = x at *; generalize hqy : V[h] = y at *; obtain ⟨x0, x1, x2, x3, x4, x5, x6, x7, x8, x9, x10, x11, xg⟩ := cells12 hat hgl HB.out hgx; obtain ⟨y0, y1, y2, y3, y4, y5, y6, y7, y8, y9, y10, y11, _⟩ := cells12 hat hgl HB.out hgy; have HC := Lib.hid (fun w => lcmp_any x y w); have hd := cmpN_nn hle; generalize cmpN x.num y.num = cn at *; clear hgx hgy hqx hqy hle; obtain ⟨vp, vn, vc, va, ⟨tb, tk, te, tx⟩, ⟨cs, cz⟩, vs, vm⟩ := x; obtain ⟨up, un, uc, ua, ⟨ub, uk, ue, ux⟩, ⟨us, uz⟩, uv, um⟩ := y; unfold Rev.val Rev.cells at HC; dsimp only at HC x0 x1 x2 x3 x4 x5 x6 x7 x8 x9 x10 x11 y0 y1 y2 y3 y4 y5 y6 y7 y8 y9 y10 y11)
              have hw1 : IntKind.i64.wrap (r : Int) = (r : Int) := IntWalk.i64_in _ (by omega)
              (refine wp_region_s (S := Below wo.heap.size wo) (by kernel_rfl) (by kernel_rfl) hS ?_; have hN : Nonempty (Held (Below wo.heap.size wo)) := ⟨⟨_, hS⟩⟩; skip; (repeat (go_big_quiet_step ((go_at_call 40; exact held_keep (HC.out _))))); refine wpQuiet_nil ?_; rintro x ⟨⟨_, hx⟩, rfl⟩; clear hN)
              clear hr1 hw1
              go_wp2_with fail
              go_roundw
              case rel => exact ⟨h + 1, by go_num, rfl, by omega, by omega, HB1.out.trans (hx.mono HB1.out.size)⟩
              case measure => simp [intOf]; omega
            · obtain rfl : q = d := by omega
              have hqm : (q : Int) + (m : Int) - (q : Int) = (m : Int) := by omega
              go_wp2_with fail
              refine (IH.out q m b (by omega) (by omega) (by omega) hb wo HB.out).mono ?_
              rintro e w2 ⟨rfl, hB2⟩
              go_wp2_with fail
              refine bodyPost_end (results_none rfl _ _ _) rfl ?_
              exact ⟨rfl, HB1.out.trans (hB2.mono HB1.out.size)⟩
        · go_enter Tryd.func65, Tryd.ntmps65
          go_wp2_with fail
          clear e1 e2 hh
          go_loopw [20, 21] (fun i j wr => ∃ q : Nat, i = .int .i64 q ∧ j = .int .i64 m ∧ a ≤ q ∧ q ≤ m ∧ Below w.heap.size w wr) (fun i _ _ => m - (intOf i).toNat)
          case atStart => exact ⟨a, rfl, rfl, Nat.le_refl _, by omega, Below.refl _ _⟩
          case round =>
            obtain ⟨q, rfl, rfl, hq1, hq2, hB⟩ := hrel
            have HB := Lib.hid (HBW.out.trans (hB.mono HBW.out.size))
            have HB1 := Lib.hid hB
            have hat := HAT.out
            clear hB
            obtain ⟨wo, rfl⟩ : ∃ wo : World, wo = wr := ⟨_, rfl⟩
            have hS : Below wo.heap.size wo wo.drew := (Below.refl _ _).drew
            by_cases hlt : q < m
            · go_wp2_with fail
              have hh : ((q : Int) + (m : Int)) / 2 = ((q + m) / 2 : Nat) := by omega
              rw [hh]
              clear hh
              obtain ⟨h, hq⟩ : ∃ h : Nat, h = (q + m) / 2 := ⟨_, rfl⟩
              rw [← hq]
              have h1 : q ≤ h := by omega
              have h2 : h < m := by omega
              have h3 : h < V.length := by omega
              clear hq
              obtain ⟨r, hr⟩ : ∃ r : Nat, r + h + 1 = d + m := ⟨d + m - 1 - h, by omega⟩
              have h4 : r < V.length := by omega
              have h5 : h ≤ r := by omega
              have hr1 : (d : Int) + (m : Int) - 1 - (h : Int) = (r : Int) := by omega
              have HR := Lib.hid hr
              clear hr
              (have hgx := List.getElem?_eq_getElem (l := V) (i := r) (by omega); have hgy := List.getElem?_eq_getElem (l := V) (i := h) (by omega); have hle := HV.out (h) (r) _ _ (by omega) hgy hgx; generalize hqx : V[r] = x at *; generalize hqy : V[h] = y at *; obtain ⟨x0, x1, x2, x3, x4, x5, x6, x7, x8, x9, x10, x11, xg⟩ := cells12 hat hgl HB.out hgx; obtain ⟨y0, y1, y2, y3, y4, y5, y6, y7, y8, y9, y10, y11, _⟩ := cells12 hat hgl HB.out hgy; have HC := Lib.hid (fun w => lcmp_any x y w); have hd := cmpN_nn hle; generalize cmpN x.num y.num = cn at *; clear hgx hgy hqx hqy hle; obtain ⟨vp, vn, vc, va, ⟨tb, tk, te, tx⟩, ⟨cs, cz⟩, vs, vm⟩ := x; obtain ⟨up, un, uc, ua, ⟨ub, uk, ue, ux⟩, ⟨us, uz⟩, uv, um⟩ := y; unfold Rev.val Rev.cells at HC; dsimp only at HC x0 x1 x2 x3 x4 x5 x6 x7 x8 x9 x10 x11 y0 y1 y2 y3 y4 y5 y6 y7 y8 y9 y10 y11)
              have hw1 : IntKind.i64.wrap (r : Int) = (r : Int) := IntWalk.i64_in _ (by omega)
              (refine wp_region_s (S := Below wo.heap.size wo) (by kernel_rfl) (by kernel_rfl) hS ?_; have hN : Nonempty (Held (Below wo.heap.size wo)) := ⟨⟨_, hS⟩⟩; skip; (repeat (go_big_quiet_step ((go_at_call 40; exact held_keep (HC.out _))))); refine wpQuiet_nil ?_; rintro x ⟨⟨_, hx⟩, rfl⟩; clear hN)
              clear hr1 hw1
              go_wp2_with fail
              go_roundw
              case rel => exact ⟨h + 1, by go_num, rfl, by omega, by omega, HB1.out.trans (hx.mono HB1.out.size)⟩
              case measure => simp [intOf]; omega
            · obtain rfl : q = m := by omega
              have hqm : (d : Int) + (q : Int) - (q : Int) = (d : Int) := by omega
              by_cases hqd : q < d
              · go_wp2_with fail
                refine (IH.out a q d (by omega) (by omega) (by omega) (by omega) wo HB.out).mono ?_
                rintro e w2 ⟨rfl, hB2⟩
                go_wp2_with fail
                refine bodyPost_end (results_none rfl _ _ _) rfl ?_
                exact ⟨rfl, HB1.out.trans (hB2.mono HB1.out.size)⟩
              · go_wp2_with fail
                refine bodyPost_end (results_none rfl _ _ _) rfl ?_
                exact ⟨rfl, HB1.out⟩
end Go.Proofs.YtcfmkmhibghaoaaDoor
