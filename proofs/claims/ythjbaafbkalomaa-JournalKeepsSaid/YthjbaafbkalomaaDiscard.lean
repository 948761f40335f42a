/-
  Discard and Get.
-/
import Derived.Test.YthjbaafbkalomaaCommit
namespace Go.Proofs.Ythjbaafbkalomaa
open Go.RowKit

def lens : List (List UInt8) → Nat
  | [] => 0
  | r :: rs => r.length + lens rs
theorem lens_append (a b : List (List UInt8)) : lens (a ++ b) = lens a + lens b := by
  induction a with
  | nil => simp [lens]
  | cons r rs ih => simp [lens, ih]; omega
theorem lens_snoc {l : List (List UInt8)} {k : Nat} (h : k < l.length) : lens (l.take (k + 1)) = lens (l.take k) + l[k].length := by
  rw [List.take_add_one, lens_append, List.getElem?_eq_getElem h]
  simp [lens]
theorem lens_take (l : List (List UInt8)) (k : Nat) : lens (l.take k) ≤ lens l := by
  have h := lens_append (l.take k) (l.drop k)
  rw [List.take_append_drop] at h
  omega
def disJ (J : Jrn) : Jrn := if J.dead then J else { J with pend := [], bytes := J.bytes - lens J.pend }

/-- Get: the record at a position. -/
def getR (J : Jrn) (p : Int) : Option (List UInt8) := if p < J.start then none else if J.start + J.recs.length ≤ p then none else J.recs[(p - J.start).toNat]?
/-- What Get returns. -/
def GetP (_o : Nat) (g : Gh) (w : World) (r : Option (List UInt8)) (e : Ending) (w' : World) : Prop :=
  match r with
  | none => e = .returned (.tuple #[.slice none 0 0, .bool false]) ∧ ∃ n, w' = w.drewN n
  | some l => ∃ A c g', e = .returned (.tuple #[.slice A l.length c, .bool true]) ∧ Ext (fun _ => False) g w g' w' ∧ BytesAt g' w' (.slice A l.length c) l

set_option maxRecDepth 100000 in
set_option maxHeartbeats 1600000 in
theorem get_any (j d : Nat) (g : Gh) (w : World) (J : Jrn) (hJ : JAt g w j d J) (p : Int) (h0 : 0 ≤ J.start) (h1 : J.start ≤ 4611686018427387904) (hn2 : J.recs.length ≤ 1000000) (hrl : ∀ r ∈ J.recs, r.length ≤ 65536) (_hp0 : -9223372036854775808 ≤ p) (_hp1 : p ≤ 9223372036854775807) :
    Calls Try.prog 28 #[.pointer (some ⟨j, 0, none⟩), .int .i64 p] w (GetP 0 g w (getR J p)) := by
  have hJ0 := hJ
  obtain ⟨A1, c1, v1, A2, c2, v2, hb, hi⟩ := hJ
  have c2' : w.cell? ⟨j, 2, none⟩ = some (.int .i64 J.start) := hb.cell 2
  have c3' : w.cell? ⟨j, 3, none⟩ = some (.slice A1 J.recs.length c1) := hb.cell 3
  have HB := Lib.hid hb
  have HI := Lib.hid hi
  have HJ := Lib.hid hJ0
  have HRL := Lib.hid hrl
  clear hb hi hJ0 hrl
  by_cases h2 : p < J.start
  · have HR : Hid (getR J p = none) := by simp [Hid, getR, h2]
    rw [HR.out]
    go_enter Try.func28, Try.ntmps28
    go_wp2_with fail
    go_ret2
    exact ⟨rfl, 0, rfl⟩
  by_cases h3 : J.start + J.recs.length ≤ p
  · have HR : Hid (getR J p = none) := by simp [Hid, getR, h2, h3]
    rw [HR.out]
    go_enter Try.func28, Try.ntmps28
    go_wp2_with fail
    refine (jend_any j d g w J HJ.out h0 h1 hn2).mono ?_
    rintro e w1 ⟨rfl, n, rfl⟩
    go_wp2_with fail
    go_ret2
    exact ⟨rfl, n, rfl⟩
  have hk : (p - J.start).toNat < J.recs.length := by omega
  have HR : Hid (getR J p = some J.recs[(p - J.start).toNat]) := by simp [Hid, getR, h2, h3, hk]
  have hpk : p - J.start = (((p - J.start).toNat : Nat) : Int) := by omega
  have hrk := HRL.out _ (List.getElem_mem hk)
  rw [HR.out]
  obtain ⟨v, hv, hbv⟩ := HI.out.q1.get hk
  obtain ⟨b, off, rfl, _, _, hc⟩ := HI.out.r1.rd.at_ (by omega)
  have hcell := hc _ _ hv
  obtain ⟨Ar, cr, rfl, _⟩ := hbv.ex
  have HBV := Lib.hid hbv
  clear hc hv hbv HR
  generalize J.recs[(p - J.start).toNat] = r at *
  generalize (p - J.start).toNat = k at *
  go_enter Try.func28, Try.ntmps28
  go_wp2_with fail
  refine (jend_any j d g w J HJ.out h0 h1 hn2).mono ?_
  rintro e w1 ⟨rfl, n, rfl⟩
  go_wp2_with fail
  have hS : (fun x => Blk j 66 (jCs d (some ⟨b, off, none⟩) c1 A2 c2 J) x ∧ x.cell? ⟨b, off + k, none⟩ = some (.slice Ar r.length cr)) (w.drewN n).drew := ⟨HB.out, hcell⟩
  have hxd : Ext (fun _ => False) g w g (w.drewN n).drew := ((Ext.refl _ _ _).drewN n).drew
  obtain ⟨_, hrz, hrr⟩ := (HBV.out.ext hxd).rd
  have HRR := Lib.hid hrr
  have HRZ := Lib.hid hrz
  have HXD := Lib.hid hxd
  clear hrr hrz hxd
  (refine wp_region_mix (S := fun x => Blk j 66 (jCs d (some ⟨b, off, none⟩) c1 A2 c2 J) x ∧ x.cell? ⟨b, off + k, none⟩ = some (.slice Ar r.length cr)) [13, 14] [([0, 1, 2, 3, 4, 5, 6, 7, 8, 9, 10, 11], 12)] (by kernel_rfl) (by kernel_rfl) (by intro c a d v w h; cases d <;> exact h) hS ?_; have hN : Nonempty (Held (fun x => Blk j 66 (jCs d (some ⟨b, off, none⟩) c1 A2 c2 J) x ∧ x.cell? ⟨b, off + k, none⟩ = some (.slice Ar r.length cr))) := ⟨⟨_, hS⟩⟩)
  have r2 : ∀ y : Held (fun x => Blk j 66 (jCs d (some ⟨b, off, none⟩) c1 A2 c2 J) x ∧ x.cell? ⟨b, off + k, none⟩ = some (.slice Ar r.length cr)), y.w.cell? ⟨j, 2, none⟩ = some (.int .i64 J.start) := fun y => y.ok.1.cell 2
  have r3 : ∀ y : Held (fun x => Blk j 66 (jCs d (some ⟨b, off, none⟩) c1 A2 c2 J) x ∧ x.cell? ⟨b, off + k, none⟩ = some (.slice Ar r.length cr)), y.w.cell? ⟨j, 3, none⟩ = some (.slice (some ⟨b, off, none⟩) J.recs.length c1) := fun y => y.ok.1.cell 3
  have rk : ∀ y : Held (fun x => Blk j 66 (jCs d (some ⟨b, off, none⟩) c1 A2 c2 J) x ∧ x.cell? ⟨b, off + k, none⟩ = some (.slice Ar r.length cr)), y.w.cell? ⟨b, off + k, none⟩ = some (.slice Ar r.length cr) := fun y => y.ok.2
  (unfold wpMix wpRd; (repeat (first | simp only [List.filterMap_cons] | simp only [List.filterMap_nil] | simp only [List.getElem?_toArray] | simp only [List.getElem?_cons_zero] | simp only [List.getElem?_cons_succ])); (try dsimp only); change wpQuiet _ _ _ _ (_ :: _ :: _ :: _ :: _ :: _ :: _ :: _ :: _ :: _ :: _ :: _ :: []) _; (repeat (go_big_quiet_step (fail))); refine wpQuiet_nil ?_; (try dsimp only))
  clear r2 r3 rk
  go_wp2_with fail
  refine (cloneB_any 0 g Ar r.length cr (bv r) _ HRR.out HRZ.out (bv_one r) (by omega)).mono ?_
  rintro e w2 ⟨A', cap', g2, rfl, hb2, hF2, hO2, ha2, _, _⟩
  have hx2 : Ext (fun _ => False) g _ g2 w2 := (Ext.of_below (fun _ => False) g hb2).up hF2 hO2
  have HX2 := Lib.hid (HXD.out.trans hx2)
  have HBA := Lib.hid (BytesAt.of_new ha2)
  have hS2 : (fun x => Blk j 66 (jCs d (some ⟨b, off, none⟩) c1 A2 c2 J) x ∧ x.cell? ⟨b, off + k, none⟩ = some (.slice Ar r.length cr)) w2 := ⟨hS.1.below hb2, ((bcell hb2).1 b (off + k) (by obtain ⟨cs, e, fr, q, _⟩ := cell_block hS.2; exact block_lt q)).trans hS.2⟩
  clear hx2 hF2 hO2 ha2 hb2
  go_wp2_with fail
  refine ⟨hS2, ?_⟩
  (unfold wpMix wpRd; (repeat (first | simp only [List.filterMap_cons] | simp only [List.filterMap_nil] | simp only [List.getElem?_toArray] | simp only [List.getElem?_cons_zero] | simp only [List.getElem?_cons_succ])); (try dsimp only); change wpQuiet _ _ _ _ (_ :: _ :: []) _; (repeat (go_big_quiet_step (fail))); refine wpQuiet_nil ?_; (try dsimp only))
  go_wp2_with fail
  go_ret2
  exact ⟨A', cap', g2, rfl, HX2.out, HBA.out⟩

end Go.Proofs.Ythjbaafbkalomaa
