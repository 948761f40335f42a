/-
  The reference of have-lists: Check.
-/
import Derived.Test.YtjjdffafibonhaaGreatDoorHvR4
namespace Go.Proofs.YtjjdffafibonhaaGreatDoor
open Go.RowKit

def ChkAt (l : List Hv) (k : Nat) : Prop := chkH [] l = chkH (l.take k) (l.drop k)
def LastLt (l : List Hv) (k : Nat) (p : ByteArray) : Prop := ∀ q, (l.take k).getLast? = some q → ordH q.path p < 0
theorem chk_bad1 {l : List Hv} {k : Nat} {h : Hv} (hg : l[k]? = some h) (hc : ChkAt l k) (ho : okH h = false) : chkH [] l = 340 := by
  rw [show chkH [] l = _ from hc, chk_take hg, ho]; rfl
theorem chk_bad2 {l : List Hv} {k : Nat} {h q : Hv} (hg : l[k]? = some h) (hc : ChkAt l k) (hq : (l.take k).getLast? = some q) (ho : 0 ≤ ordH q.path h.path) : chkH [] l = 340 := by
  rw [show chkH [] l = _ from hc, chk_take hg, hq]
  exact if_pos (by simp [ho])
theorem chk_rest {l : List Hv} {k : Nat} {h : Hv} (hg : l[k]? = some h) (hc : ChkAt l k) (ho : okH h = true) (hl : LastLt l k h.path) : chkH [] l = if (l.take k).any (fun q => q.loc == h.loc) then 341 else chkH (l.take (k + 1)) (l.drop (k + 1)) := by
  rw [show chkH [] l = _ from hc, chk_take hg, ho]
  cases e : (l.take k).getLast? with
  | none => rfl
  | some q =>
    have h1 := hl q e
    exact if_neg (by simp; omega)
theorem chk_taken {l : List Hv} {k j : Nat} {h q : Hv} (hg : l[k]? = some h) (hc : ChkAt l k) (ho : okH h = true) (hl : LastLt l k h.path) (hq : l[j]? = some q) (hj : j < k) (e : q.loc = h.loc) : chkH [] l = 341 := by
  rw [chk_rest hg hc ho hl, if_pos]
  rw [List.any_eq_true]
  exact ⟨q, List.mem_iff_getElem?.2 ⟨j, by rw [List.getElem?_take, if_pos hj]; exact hq⟩, (ba_beq _ _).2 e⟩
theorem chk_next {l : List Hv} {k : Nat} {h : Hv} (hg : l[k]? = some h) (hc : ChkAt l k) (ho : okH h = true) (hl : LastLt l k h.path) (hn : NoL l k h.loc) : ChkAt l (k + 1) := by
  unfold ChkAt
  rw [chk_rest hg hc ho hl, if_neg]
  rw [List.any_eq_true]
  rintro ⟨q, hq, e⟩
  obtain ⟨j, hj⟩ := List.mem_iff_getElem?.1 hq
  rw [List.getElem?_take] at hj
  split at hj
  · rename_i h1; exact hn j q h1 hj ((ba_beq _ _).1 e)
  · cases hj
theorem rd_cells {g : Gh} {w : World} {A : Option Addr} {E : List Hv} (h : Rd 3 g w A E.length (celH E)) {k : Nat} {p : ByteArray} {n : Int} {lo : ByteArray} (hk : E[k]? = some ⟨p, n, lo⟩) :
    ∃ a off, A = some ⟨a, off, none⟩ ∧ a < w.heap.size ∧ w.cell? ⟨a, off + k * 3, none⟩ = some (.string p) ∧ w.cell? ⟨a, off + k * 3 + 1, none⟩ = some (.int .i64 n) ∧ w.cell? ⟨a, off + k * 3 + 2, none⟩ = some (.string lo) := by
  have hlt := (List.getElem?_eq_some_iff.1 hk).1
  obtain ⟨a, off, e, _, ha, hc⟩ := h.at_ (by omega)
  have c0 := hc _ _ (celH_get E k 0 _ hk (by omega))
  have c1 := hc _ _ (celH_get E k 1 _ hk (by omega))
  have c2 := hc _ _ (celH_get E k 2 _ hk (by omega))
  simp only [Nat.add_zero, ← Nat.add_assoc] at c0 c1 c2
  exact ⟨a, off, e, ha, c0, c1, c2⟩
theorem ord_vals (p q : ByteArray) : -1 ≤ ordH p q ∧ ordH p q ≤ 1 := by
  unfold ordH ordL
  have h1 := pcmp_vals p.data.toList q.data.toList
  have h2 : Lib.compareBytes p.data.toList q.data.toList = -1 ∨ Lib.compareBytes p.data.toList q.data.toList = 0 ∨ Lib.compareBytes p.data.toList q.data.toList = 1 := by
    generalize p.data.toList = l1
    generalize q.data.toList = l2
    induction l1 generalizing l2 with
    | nil => cases l2 <;> simp [Lib.compareBytes]
    | cons x xs ih =>
      cases l2 with
      | nil => simp [Lib.compareBytes]
      | cons y ys =>
        unfold Lib.compareBytes
        split
        · simp
        · split
          · simp
          · exact ih ys
  split <;> omega

set_option maxRecDepth 100000 in
set_option maxHeartbeats 6400000 in
theorem rcheck_any (g : Gh) (w : World) (A : Option Addr) (c : Nat) (l : List Hv) (hr : Rd 3 g w A l.length (celH l)) (hs : Sm l) (hg : G0 w) (hn : l.length ≤ 4611686018427387904) :
    Calls Tryz.prog 25 #[.slice A l.length c] w fun e w' => e = .returned (.int .i64 (checkH l)) ∧ Below w.heap.size w w' := by
  by_cases hbig : 1024 < l.length
  · have hb' : (1024 : Int) < (l.length : Int) := by omega
    have e : checkH l = 342 := by unfold checkH; rw [if_pos hbig]
    rw [e]
    clear hr hs hg
    go_enter Tryz.func25, Tryz.ntmps25
    go_wp2_with fail
    go_ret
    exact ⟨rfl, Below.refl _ _⟩
  have hb' : (l.length : Int) ≤ 1024 := by omega
  have hl1 : l.length ≤ 1024 := by omega
  have e : checkH l = chkH [] l := by unfold checkH; rw [if_neg hbig]
  rw [e]
  obtain ⟨ch, hch⟩ : ∃ ch, chkH [] l = ch := ⟨_, rfl⟩
  rw [hch]
  have HCH := Lib.hid hch
  have HR := Lib.hid hr
  have HS := Lib.hid hs
  have HG := Lib.hid hg
  clear e hbig hr hs hg hch
  go_enter Tryz.func25, Tryz.ntmps25
  go_wp2_with fail
  go_loopw [3] (fun i wr => ∃ k : Nat, i = .int .i64 k ∧ k ≤ l.length ∧ Below w.heap.size w wr ∧ Hid (ChkAt l k)) (fun i _ => l.length - (intOf i).toNat)
  case atStart => exact ⟨0, rfl, Nat.zero_le _, Below.refl _ _, rfl⟩
  case round =>
    obtain ⟨k, rfl, hk, hb, hc⟩ := hrel
    have HBE := Lib.hid hb
    have HC := Lib.hid hc.out
    have hbs := hb.size
    clear hc
    by_cases hlt : k < l.length
    · have hlt' : (k : Int) < (l.length : Int) := by omega
      have hx := Ext.of_below (fun _ => False) g hb
      have hgk := List.getElem?_eq_getElem hlt
      have hm := List.getElem_mem hlt
      generalize l[k] = q at *
      obtain ⟨p, n, lo⟩ := q
      have hz := HS.out _ hm
      dsimp only at hz
      have HGK := Lib.hid hgk
      obtain ⟨a, off, rfl, hax, c0, c1, c2⟩ := rd_cells (HR.out.ext hx) hgk
      have HCL := Lib.hid (And.intro c0 (And.intro c1 c2))
      have HAX := Lib.hid hax
      have HV : Hid (∀ y : Held (Below wr.heap.size wr), Calls Tryz.prog 46 #[.agg #[.string p, .int .i64 n, .string lo]] y.w fun e w'' => e = .returned (.bool (okH ⟨p, n, lo⟩)) ∧ ∃ z : Held (Below wr.heap.size wr), w'' = z.w) :=
        fun y => held_below (fun a b h1 h2 => h1.trans (h2.mono h1.size)) (rvalid_any p lo n y.w hz.1 hz.2 (HG.out.below (HBE.out.trans (y.ok.mono hbs))))
      have hS : Below wr.heap.size wr wr.drew := (Below.refl _ _).drew
      clear hx hgk hm hax c0 c1 c2 hb
      obtain ⟨ok, hok⟩ : ∃ ok, okH ⟨p, n, lo⟩ = ok := ⟨_, rfl⟩
      rw [hok] at HV
      have HOK := Lib.hid hok
      clear hok
      cases ok
      · have HE := Lib.hid (chk_bad1 HGK.out HC.out HOK.out)
        go_wp2_with fail
        (refine wp_region_s (S := Below wr.heap.size wr) (by kernel_rfl) (by kernel_rfl) hS ?_; have hN : Nonempty (Held (Below wr.heap.size wr)) := ⟨⟨_, hS⟩⟩; (have v0 : ∀ y : Held (Below wr.heap.size wr), y.w.cell? ⟨a, off + k * 3, none⟩ = some (.string p) := fun y => (((bcell y.ok).1 a _ HAX.out).trans HCL.out.1); have v1 : ∀ y : Held (Below wr.heap.size wr), y.w.cell? ⟨a, off + k * 3 + 1, none⟩ = some (.int .i64 n) := fun y => (((bcell y.ok).1 a _ HAX.out).trans HCL.out.2.1); have v2 : ∀ y : Held (Below wr.heap.size wr), y.w.cell? ⟨a, off + k * 3 + 2, none⟩ = some (.string lo) := fun y => (((bcell y.ok).1 a _ HAX.out).trans HCL.out.2.2)); (repeat (go_big_quiet_step ((go_at_call 46; exact HV.out _)))); refine wpQuiet_nil ?_; rintro _ ⟨⟨x, hx⟩, rfl⟩; clear hN)
        clear v0 v1 v2
        have HB3 := Lib.hid (HBE.out.trans (hx.mono hbs))
        go_wp2_with fail
        go_ret
        exact ⟨by rw [← HCH.out, HE.out]; rfl, HB3.out⟩
      by_cases hk0 : k = 0
      · subst hk0
        have HLAST : Hid (LastLt l 0 p) := fun q hq => by simp at hq
        have HCL0 : Hid (wr.cell? ⟨a, off, none⟩ = some (.string p) ∧ wr.cell? ⟨a, off + 1, none⟩ = some (.int .i64 n) ∧ wr.cell? ⟨a, off + 2, none⟩ = some (.string lo)) := by
          have := HCL.out
          show _ ∧ _ ∧ _
          simpa using this
        go_wp2_with fail
        (refine wp_region_s (S := Below wr.heap.size wr) (by kernel_rfl) (by kernel_rfl) hS ?_; have hN : Nonempty (Held (Below wr.heap.size wr)) := ⟨⟨_, hS⟩⟩; (have v0 : ∀ y : Held (Below wr.heap.size wr), y.w.cell? ⟨a, off, none⟩ = some (.string p) := fun y => (((bcell y.ok).1 a _ HAX.out).trans HCL0.out.1); have v1 : ∀ y : Held (Below wr.heap.size wr), y.w.cell? ⟨a, off + 1, none⟩ = some (.int .i64 n) := fun y => (((bcell y.ok).1 a _ HAX.out).trans HCL0.out.2.1); have v2 : ∀ y : Held (Below wr.heap.size wr), y.w.cell? ⟨a, off + 2, none⟩ = some (.string lo) := fun y => (((bcell y.ok).1 a _ HAX.out).trans HCL0.out.2.2)); (repeat (go_big_quiet_step ((go_at_call 46; exact HV.out _)))); refine wpQuiet_nil ?_; rintro _ ⟨⟨x, hx⟩, rfl⟩; clear hN)
        clear v0 v1 v2
        have HB3 := Lib.hid (HBE.out.trans (hx.mono hbs))
        go_wp2_with fail
        go_loopw [4] (fun i wx => ∃ q : Nat, i = .int .i64 q ∧ q ≤ 0 ∧ Below w.heap.size w wx ∧ Hid (NoL l q lo)) (fun i _ => 0 - (intOf i).toNat)
        case atStart => exact ⟨0, rfl, Nat.zero_le _, HB3.out, fun j r hj => absurd hj (by omega)⟩
        case round =>
          obtain ⟨q, rfl, hq, hbx, hnp⟩ := hrel
          have HBW := Lib.hid hbx
          have HNP := Lib.hid hnp.out
          clear hnp
          obtain rfl : q = 0 := by omega
          have HCX := Lib.hid (chk_next HGK.out HC.out HOK.out HLAST.out HNP.out)
          go_wp2_with fail
          go_round
          case rel => exact ⟨0 + 1, by go_num, by omega, HBW.out, HCX.out⟩
          case measure => simp [intOf]; omega
      · have hkp : (0 : Int) < (k : Int) := by omega
        obtain ⟨k', rfl⟩ : ∃ k', k = k' + 1 := ⟨k - 1, by omega⟩
        have hg2 := List.getElem?_eq_getElem (show k' < l.length by omega)
        have hm2 := List.getElem_mem (show k' < l.length by omega)
        generalize l[k'] = q2 at *
        obtain ⟨p2, n2, lo2⟩ := q2
        have hz2 := HS.out _ hm2
        dsimp only at hz2
        have hgl : (l.take (k' + 1)).getLast? = some ⟨p2, n2, lo2⟩ := by rw [List.take_add_one, hg2]; simp
        obtain ⟨a2, of2, he2, _, u0, _, _⟩ := rd_cells (HR.out.ext (Ext.of_below (fun _ => False) g HBE.out)) hg2
        injection he2 with he2
        injection he2 with he3 he4
        subst he3 he4
        have U0 := Lib.hid u0
        have hcast : ((k' + 1 : Nat) : Int) - 1 = (k' : Int) := by omega
        have HGL := Lib.hid hgl
        have HO : Hid (∀ y : Held (Below wr.heap.size wr), Calls Tryz.prog 47 #[.string p2, .string p] y.w fun e w'' => e = .returned (.int .i64 (ordH p2 p)) ∧ ∃ z : Held (Below wr.heap.size wr), w'' = z.w) :=
          fun y => held_below (fun a b h1 h2 => h1.trans (h2.mono h1.size)) (rorder_any p2 p y.w hz2.1 hz.1 (HG.out.below (HBE.out.trans (y.ok.mono hbs))))
        obtain ⟨hv1, hv2⟩ := ord_vals p2 p
        obtain ⟨ov, hov⟩ : ∃ ov, ordH p2 p = ov := ⟨_, rfl⟩
        rw [hov] at HO hv1 hv2
        have HOV := Lib.hid hov
        clear hg2 hm2 hgl u0 hov
        have hkb : (k' : Int) < 1024 := by omega
        by_cases hord : 0 ≤ ov
        · have HE := Lib.hid (chk_bad2 HGK.out HC.out HGL.out (by rw [show (⟨p2, n2, lo2⟩ : Hv).path = p2 from rfl, HOV.out]; exact hord))
          go_wp2_with fail
          (refine wp_region_s (S := Below wr.heap.size wr) (by kernel_rfl) (by kernel_rfl) hS ?_; have hN : Nonempty (Held (Below wr.heap.size wr)) := ⟨⟨_, hS⟩⟩; (have v0 : ∀ y : Held (Below wr.heap.size wr), y.w.cell? ⟨a, off + (k' + 1) * 3, none⟩ = some (.string p) := fun y => (((bcell y.ok).1 a _ HAX.out).trans HCL.out.1); have v1 : ∀ y : Held (Below wr.heap.size wr), y.w.cell? ⟨a, off + (k' + 1) * 3 + 1, none⟩ = some (.int .i64 n) := fun y => (((bcell y.ok).1 a _ HAX.out).trans HCL.out.2.1); have v2 : ∀ y : Held (Below wr.heap.size wr), y.w.cell? ⟨a, off + (k' + 1) * 3 + 2, none⟩ = some (.string lo) := fun y => (((bcell y.ok).1 a _ HAX.out).trans HCL.out.2.2); have u0 : ∀ y : Held (Below wr.heap.size wr), y.w.cell? ⟨a, off + k' * 3, none⟩ = some (.string p2) := fun y => (((bcell y.ok).1 a _ HAX.out).trans U0.out)); (repeat (go_big_quiet_step ((first | (go_at_call 46; exact HV.out _) | (go_at_call 47; exact HO.out _))))); refine wpQuiet_nil ?_; rintro _ ⟨⟨x, hx⟩, rfl⟩; clear hN)
          clear v0 v1 v2 u0
          have HB3 := Lib.hid (HBE.out.trans (hx.mono hbs))
          go_wp2_with fail
          go_ret
          exact ⟨by rw [← HCH.out, HE.out]; rfl, HB3.out⟩
        · have HLAST : Hid (LastLt l (k' + 1) p) := fun q hq => by
            rw [HGL.out] at hq
            cases hq
            show ordH p2 p < 0
            rw [HOV.out]; omega
          go_wp2_with fail
          (refine wp_region_s (S := Below wr.heap.size wr) (by kernel_rfl) (by kernel_rfl) hS ?_; have hN : Nonempty (Held (Below wr.heap.size wr)) := ⟨⟨_, hS⟩⟩; (have v0 : ∀ y : Held (Below wr.heap.size wr), y.w.cell? ⟨a, off + (k' + 1) * 3, none⟩ = some (.string p) := fun y => (((bcell y.ok).1 a _ HAX.out).trans HCL.out.1); have v1 : ∀ y : Held (Below wr.heap.size wr), y.w.cell? ⟨a, off + (k' + 1) * 3 + 1, none⟩ = some (.int .i64 n) := fun y => (((bcell y.ok).1 a _ HAX.out).trans HCL.out.2.1); have v2 : ∀ y : Held (Below wr.heap.size wr), y.w.cell? ⟨a, off + (k' + 1) * 3 + 2, none⟩ = some (.string lo) := fun y => (((bcell y.ok).1 a _ HAX.out).trans HCL.out.2.2); have u0 : ∀ y : Held (Below wr.heap.size wr), y.w.cell? ⟨a, off + k' * 3, none⟩ = some (.string p2) := fun y => (((bcell y.ok).1 a _ HAX.out).trans U0.out)); (repeat (go_big_quiet_step ((first | (go_at_call 46; exact HV.out _) | (go_at_call 47; exact HO.out _))))); refine wpQuiet_nil ?_; rintro _ ⟨⟨x, hx⟩, rfl⟩; clear hN)
          clear v0 v1 v2 u0
          have HB3 := Lib.hid (HBE.out.trans (hx.mono hbs))
          go_wp2_with fail
          go_loopw [4] (fun i wx => ∃ q : Nat, i = .int .i64 q ∧ q ≤ k' + 1 ∧ Below w.heap.size w wx ∧ Hid (NoL l q lo)) (fun i _ => k' + 1 - (intOf i).toNat)
          case atStart => exact ⟨0, rfl, Nat.zero_le _, HB3.out, fun j r hj => absurd hj (by omega)⟩
          case round =>
            obtain ⟨q, rfl, hq, hbx, hnp⟩ := hrel
            have HBW := Lib.hid hbx
            have HNP := Lib.hid hnp.out
            clear hnp
            by_cases hqk : q < k' + 1
            · have hqk' : (q : Int) < (k' : Int) + 1 := by omega
              have hsl := HR.out.ext (Ext.of_below (fun _ => False) g hbx)
              obtain ⟨a2, of2, he2, _, _, _, k2⟩ := rd_cells hsl HGK.out
              injection he2 with he2
              injection he2 with he3 he4
              subst he3 he4
              have hgq := List.getElem?_eq_getElem (show q < l.length by omega)
              generalize l[q] = r at *
              obtain ⟨rp, rn, rl⟩ := r
              obtain ⟨a', off', he, _, _, _, d2⟩ := rd_cells hsl hgq
              injection he with he
              injection he with he1 he2
              subst he1 he2
              have HGQ := Lib.hid hgq
              clear hgq hbx hsl
              by_cases hpp : rl = lo
              · subst hpp
                have HSB := Lib.hid (chk_taken HGK.out HC.out HOK.out HLAST.out HGQ.out hqk rfl)
                go_wp2_with fail
                go_quiet (fail)
                go_wp2_with fail
                go_ret
                exact ⟨by rw [← HCH.out, HSB.out]; rfl, HBW.out.trans (below_drewN (Below.refl _ _) _)⟩
              · have hne := ba_ne hpp
                have HNX := Lib.hid (HNP.out.next HGQ.out hpp)
                clear hpp
                go_wp2_with fail
                go_quiet (fail)
                go_wp2_with fail
                go_round
                case rel => exact ⟨q + 1, by go_num, by omega, HBW.out.trans (below_drewN (Below.refl _ _) _), HNX.out⟩
                case measure => simp [intOf]; omega
            · obtain rfl : q = k' + 1 := by omega
              have HCX := Lib.hid (chk_next HGK.out HC.out HOK.out HLAST.out HNP.out)
              go_wp2_with fail
              go_round
              case rel => exact ⟨k' + 1 + 1, by go_num, by omega, HBW.out, HCX.out⟩
              case measure => simp [intOf]; omega
    · obtain rfl : k = l.length := by omega
      have HE : Hid (chkH [] l = 0) := by
        have h1 : chkH [] l = chkH (l.take l.length) (l.drop l.length) := HC.out
        rw [List.drop_length] at h1
        exact h1
      go_wp2_with fail
      go_ret
      exact ⟨by rw [← HCH.out, HE.out]; rfl, hb⟩

end Go.Proofs.YtjjdffafibonhaaGreatDoor
