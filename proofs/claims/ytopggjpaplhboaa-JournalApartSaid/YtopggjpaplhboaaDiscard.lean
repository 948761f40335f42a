/-
  Discard and Get.
-/
import Derived.Test.YtopggjpaplhboaaCommit
namespace Go.Proofs.Ytopggjpaplhboaa
open Go.RowKit

def lens : List (List UInt8) → Nat
  | [] => 0
  | r :: rs => r.length + lens rs
theorem lens_append (a b : List (List UInt8)) : lens (a ++ b) = lens a + lens b := by
  induction a with
  | nil => simp [lens]
  | cons r rs ih => simp [lens, ih]; omega
theorem lens_snoc {l : List (List UInt8)} {k : Nat} (h : k < l.length) : lens (l.take (k + 1)) = lens (l.take k) + l[k].length := by
  rw [List.take_add_one, lens_append, List.getElem?_eq_getElem h]
  simp [lens]
theorem lens_take (l : List (List UInt8)) (k : Nat) : lens (l.take k) ≤ lens l := by
  have h := lens_append (l.take k) (l.drop k)
  rw [List.take_append_drop] at h
  omega
def disJ (J : Jrn) : Jrn := if J.dead then J else { J with pend := [], bytes := J.bytes - lens J.pend }

set_option maxRecDepth 100000 in
set_option maxHeartbeats 1600000 in
theorem discard_any (j d : Nat) (g : Gh) (w : World) (J : Jrn) (hJ : JAt g w j d J) (hb0 : lens J.pend ≤ J.bytes) (hb1 : J.bytes ≤ 1000000000) (hn2 : J.pend.length ≤ 1000000) :
    Calls Try.prog 30 #[.pointer (some ⟨j, 0, none⟩)] w fun e w' => e = .returned (.tuple #[]) ∧ JP j d g w (disJ J) w' := by
  obtain ⟨A1, c1, v1, A2, c2, v2, hb, hi⟩ := hJ
  have HJ : Hid (JAt g w j d J) := ⟨A1, c1, v1, A2, c2, v2, hb, hi⟩
  have c7 : w.cell? ⟨j, 7, none⟩ = some (.bool J.dead) := hb.cell 7
  have c4 : w.cell? ⟨j, 4, none⟩ = some (.slice A2 J.pend.length c2) := hb.cell 4
  have HB := Lib.hid hb
  have HI := Lib.hid hi
  clear hb hi
  by_cases h1 : J.dead = true
  · have HJJ : Hid (disJ J = J) := by simp [Hid, disJ, h1]
    rw [h1] at c7
    go_enter Try.func30, Try.ntmps30
    go_wp2_with fail
    refine bodyPost_ret (results_none rfl _ _ _) rfl ?_
    exact ⟨rfl, by rw [HJJ.out]; exact JP.drew HJ.out 0⟩
  have h1 : J.dead = false := by simpa using h1
  have HJJ : Hid (disJ J = { J with pend := [], bytes := J.bytes - lens J.pend }) := by simp [Hid, disJ, h1]
  rw [h1] at c7
  go_enter Try.func30, Try.ntmps30
  go_wp2_with fail
  go_loopw [13] (fun i wr => ∃ k : Nat, k ≤ J.pend.length ∧ i = .int .i64 k ∧ Ext (· = j) g w g wr ∧ JIn g wr j A1 c1 v1 A2 c2 v2 J ∧ Blk j 69 (jCs d A1 c1 A2 c2 { J with bytes := J.bytes - lens (J.pend.take k) }) wr) (fun i _ => J.pend.length - (intOf i).toNat)
  case atStart => exact ⟨0, Nat.zero_le _, rfl, Ext.refl _ _ _, HI.out, by simpa [lens] using HB.out⟩
  case round =>
    obtain ⟨k, hk, rfl, hx, hi, hb⟩ := hrel
    have HX := Lib.hid hx
    have HI1 := Lib.hid hi
    have HB1 := Lib.hid hb
    have q5 : wr.cell? ⟨j, 5, none⟩ = some (.int .i64 (J.bytes - lens (J.pend.take k))) := hb.cell 5
    have q4 : wr.cell? ⟨j, 4, none⟩ = some (.slice A2 J.pend.length c2) := hb.cell 4
    have z := hb.fz
    have hlt0 := lens_take J.pend k
    have hlt1 := lens_take J.pend (k + 1)
    clear hx hi hb
    by_cases hlt : k < J.pend.length
    · obtain ⟨v, hv, hbv⟩ := HI1.out.q2.get hlt
      obtain ⟨b, off, rfl, _, _, hc⟩ := HI1.out.r2.rd.at_ (by omega)
      have hcell := hc k _ hv
      obtain ⟨Ar, cr, rfl, _⟩ := hbv.ex
      have hsn := lens_snoc hlt
      clear hc hv hbv
      generalize (J.pend[k]).length = rl at *
      generalize hL1 : lens (J.pend.take (k + 1)) = L1 at *
      generalize hL0 : lens (J.pend.take k) = L0 at *
      go_wp2_with fail
      go_round
      case rel =>
        obtain ⟨hx5, hi5⟩ := HI1.out.self (grownBy_setCell wr ⟨j, 5, none⟩ (.int .i64 (J.bytes - L0 - rl)))
        refine ⟨k + 1, by omega, by go_num, HX.out.trans hx5, hi5, ?_⟩
        have := HB1.out.set 5 (.int .i64 (J.bytes - L0 - rl))
        have e : J.bytes - (L1 : Int) = J.bytes - L0 - rl := by omega
        rw [hL1, e]
        simpa [jCs] using this
      case measure => simp [intOf]; omega
    · obtain rfl : k = J.pend.length := by omega
      rw [List.take_length] at HB1
      clear c4 c7
      go_wp2_with fail
      go_end0
      refine ⟨rfl, ?_⟩
      rw [HJJ.out]
      obtain ⟨hx5, hi5⟩ := HI1.out.self (grownBy_setCell wr ⟨j, 4, none⟩ (.slice none 0 0))
      refine ⟨g, HX.out.trans hx5, A1, c1, v1, none, 0, [], ?_, ⟨hi5.r1, hi5.q1, App.nil _ _ _ _ _, trivial, fun _ h2 => absurd h2 (Nat.lt_irrefl _), hi5.O, hi5.F⟩⟩
      have := HB1.out.set 4 (.slice none 0 0)
      simpa [jCs] using this

/-- Get: the record at a position. -/
def getR (J : Jrn) (p : Int) : Option (List UInt8) := if p < J.start then none else if J.start + J.recs.length ≤ p then none else J.recs[(p - J.start).toNat]?
/-- What Get returns. -/
def GetP (_o : Nat) (g : Gh) (w : World) (r : Option (List UInt8)) (e : Ending) (w' : World) : Prop :=
  match r with
  | none => e = .returned (.tuple #[.slice none 0 0, .bool false]) ∧ ∃ n, w' = w.drewN n
  | some l => ∃ A c g', e = .returned (.tuple #[.slice A l.length c, .bool true]) ∧ Ext (fun _ => False) g w g' w' ∧ BytesAt g' w' (.slice A l.length c) l

set_option maxRecDepth 100000 in
set_option maxHeartbeats 1600000 in
theorem get_any (j d : Nat) (g : Gh) (w : World) (J : Jrn) (hJ : JAt g w j d J) (p : Int) (h0 : 0 ≤ J.start) (h1 : J.start ≤ 4611686018427387904) (hn2 : J.recs.length ≤ 1000000) (hrl : ∀ r ∈ J.recs, r.length ≤ 65536) (_hp0 : -9223372036854775808 ≤ p) (_hp1 : p ≤ 9223372036854775807) :
    Calls Try.prog 22 #[.pointer (some ⟨j, 0, none⟩), .int .i64 p] w (GetP 0 g w (getR J p)) := by
  have hJ0 := hJ
  obtain ⟨A1, c1, v1, A2, c2, v2, hb, hi⟩ := hJ
  have c2' : w.cell? ⟨j, 2, none⟩ = some (.int .i64 J.start) := hb.cell 2
  have c3' : w.cell? ⟨j, 3, none⟩ = some (.slice A1 J.recs.length c1) := hb.cell 3
  have HB := Lib.hid hb
  have HI := Lib.hid hi
  have HJ := Lib.hid hJ0
  have HRL := Lib.hid hrl
  clear hb hi hJ0 hrl
  by_cases h2 : p < J.start
  · have HR : Hid (getR J p = none) := by simp [Hid, getR, h2]
    rw [HR.out]
    go_enter Try.func22, Try.ntmps22
    go_wp2_with fail
    go_ret2
    exact ⟨rfl, 0, rfl⟩
  by_cases h3 : J.start + J.recs.length ≤ p
  · have HR : Hid (getR J p = none) := by simp [Hid, getR, h2, h3]
    rw [HR.out]
    go_enter Try.func22, Try.ntmps22
    go_wp2_with fail
    refine (jend_any j d g w J HJ.out h0 h1 hn2).mono ?_
    rintro e w1 ⟨rfl, n, rfl⟩
    go_wp2_with fail
    go_ret2
    exact ⟨rfl, n, rfl⟩
  have hk : (p - J.start).toNat < J.recs.length := by omega
  have HR : Hid (getR J p = some J.recs[(p - J.start).toNat]) := by simp [Hid, getR, h2, h3, hk]
  have hpk : p - J.start = (((p - J.start).toNat : Nat) : Int) := by omega
  have hrk := HRL.out _ (List.getElem_mem hk)
  rw [HR.out]
  obtain ⟨v, hv, hbv⟩ := HI.out.q1.get hk
  obtain ⟨b, off, rfl, _, _, hc⟩ := HI.out.r1.rd.at_ (by omega)
  have hcell := hc _ _ hv
  obtain ⟨Ar, cr, rfl, _⟩ := hbv.ex
  have HBV := Lib.hid hbv
  clear hc hv hbv HR
  generalize J.recs[(p - J.start).toNat] = r at *
  generalize (p - J.start).toNat = k at *
  go_enter Try.func22, Try.ntmps22
  go_wp2_with fail
  refine (jend_any j d g w J HJ.out h0 h1 hn2).mono ?_
  rintro e w1 ⟨rfl, n, rfl⟩
  go_wp2_with fail
  have hS : (fun x => Blk j 69 (jCs d (some ⟨b, off, none⟩) c1 A2 c2 J) x ∧ x.cell? ⟨b, off + k, none⟩ = some (.slice Ar r.length cr)) (w.drewN n).drew := ⟨HB.out, hcell⟩
  have hxd : Ext (fun _ => False) g w g (w.drewN n).drew := ((Ext.refl _ _ _).drewN n).drew
  obtain ⟨_, hrz, hrr⟩ := (HBV.out.ext hxd).rd
  have HRR := Lib.hid hrr
  have HRZ := Lib.hid hrz
  have HXD := Lib.hid hxd
  clear hrr hrz hxd
  (refine wp_region_mix (S := fun x => Blk j 69 (jCs d (some ⟨b, off, none⟩) c1 A2 c2 J) x ∧ x.cell? ⟨b, off + k, none⟩ = some (.slice Ar r.length cr)) [13, 14] [([0, 1, 2, 3, 4, 5, 6, 7, 8, 9, 10, 11], 12)] (by kernel_rfl) (by kernel_rfl) (by intro c a d v w h; cases d <;> exact h) hS ?_; have hN : Nonempty (Held (fun x => Blk j 69 (jCs d (some ⟨b, off, none⟩) c1 A2 c2 J) x ∧ x.cell? ⟨b, off + k, none⟩ = some (.slice Ar r.length cr))) := ⟨⟨_, hS⟩⟩)
  have r2 : ∀ y : Held (fun x => Blk j 69 (jCs d (some ⟨b, off, none⟩) c1 A2 c2 J) x ∧ x.cell? ⟨b, off + k, none⟩ = some (.slice Ar r.length cr)), y.w.cell? ⟨j, 2, none⟩ = some (.int .i64 J.start) := fun y => y.ok.1.cell 2
  have r3 : ∀ y : Held (fun x => Blk j 69 (jCs d (some ⟨b, off, none⟩) c1 A2 c2 J) x ∧ x.cell? ⟨b, off + k, none⟩ = some (.slice Ar r.length cr)), y.w.cell? ⟨j, 3, none⟩ = some (.slice (some ⟨b, off, none⟩) J.recs.length c1) := fun y => y.ok.1.cell 3
  have rk : ∀ y : Held (fun x => Blk j 69 (jCs d (some ⟨b, off, none⟩) c1 A2 c2 J) x ∧ x.cell? ⟨b, off + k, none⟩ = some (.slice Ar r.length cr)), y.w.cell? ⟨b, off + k, none⟩ = some (.slice Ar r.length cr) := fun y => y.ok.2
  (unfold wpMix wpRd; (repeat (first | simp only [List.filterMap_cons] | simp only [List.filterMap_nil] | simp only [List.getElem?_toArray] | simp only [List.getElem?_cons_zero] | simp only [List.getElem?_cons_succ])); (try dsimp only); change wpQuiet _ _ _ _ (_ :: _ :: _ :: _ :: _ :: _ :: _ :: _ :: _ :: _ :: _ :: _ :: []) _; (repeat (go_big_quiet_step (fail))); refine wpQuiet_nil ?_; (try dsimp only))
  clear r2 r3 rk
  go_wp2_with fail
  refine (cloneB_any 0 g Ar r.length cr (bv r) _ HRR.out HRZ.out (bv_one r) (by omega)).mono ?_
  rintro e w2 ⟨A', cap', g2, rfl, hb2, hF2, hO2, ha2, _, _⟩
  have hx2 : Ext (fun _ => False) g _ g2 w2 := (Ext.of_below (fun _ => False) g hb2).up hF2 hO2
  have HX2 := Lib.hid (HXD.out.trans hx2)
  have HBA := Lib.hid (BytesAt.of_new ha2)
  have hS2 : (fun x => Blk j 69 (jCs d (some ⟨b, off, none⟩) c1 A2 c2 J) x ∧ x.cell? ⟨b, off + k, none⟩ = some (.slice Ar r.length cr)) w2 := ⟨hS.1.below hb2, ((bcell hb2).1 b (off + k) (by obtain ⟨cs, e, fr, q, _⟩ := cell_block hS.2; exact block_lt q)).trans hS.2⟩
  clear hx2 hF2 hO2 ha2 hb2
  go_wp2_with fail
  refine ⟨hS2, ?_⟩
  (unfold wpMix wpRd; (repeat (first | simp only [List.filterMap_cons] | simp only [List.filterMap_nil] | simp only [List.getElem?_toArray] | simp only [List.getElem?_cons_zero] | simp only [List.getElem?_cons_succ])); (try dsimp only); change wpQuiet _ _ _ _ (_ :: _ :: []) _; (repeat (go_big_quiet_step (fail))); refine wpQuiet_nil ?_; (try dsimp only))
  go_wp2_with fail
  go_ret2
  exact ⟨A', cap', g2, rfl, HX2.out, HBA.out⟩

end Go.Proofs.Ytopggjpaplhboaa
