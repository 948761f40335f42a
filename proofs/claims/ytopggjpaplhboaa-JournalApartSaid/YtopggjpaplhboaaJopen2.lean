/-
  Open of a journal that has a file; and of one on a device without power.
-/
import Derived.Test.YtopggjpaplhboaaRec
namespace Go.Proofs.Ytopggjpaplhboaa
open Go.RowKit

set_option maxRecDepth 100000 in
theorem open_some (d : Nat) (g : Gh) (w : World) (D : Dev) (hD : DevAt g w d D) (name : ByteArray) (h : nmB false 40 name = true) (hdn : D.down = false) (st : Nat) (hst : st < 9223372036854775808) (rs : List (List UInt8)) (t : List UInt8) (hm : D.now.m (jrn0 name).file = some (fileB st rs ++ t)) (ht : Torn t) (hrl : ∀ r ∈ rs, r.length ≤ 65536) (hcl : rs.length ≤ 1000000) (hbl : lens rs ≤ 1000000000) (hlen : (fileB st rs ++ t).length ≤ 140737488355328) :
    Calls Try.prog 12 #[.pointer (some ⟨d, 0, none⟩), .string name] w fun e w' => ∃ j g', e = .returned (.tuple #[.pointer (some ⟨j, 0, none⟩), .int .i64 0]) ∧ w.heap.size ≤ j ∧ Ext (fun o => o = j) g w g' w' ∧ JAt g' w' j d (recJ name st rs t.isEmpty) := by
  obtain ⟨n0, n1, n2, n3⟩ := JOk.names h (J := jrn0 name) rfl
  have hx := Ext.box (fun _ => False) g w (.cells #[.pointer (some ⟨d, 0, none⟩), .string name, .int .i64 0, .slice none 0 0, .slice none 0 0, .int .i64 0, .bool false, .bool false] 69)
  have hJ := JAt.new g w d name
  have HX := Lib.hid hx
  have HJ := Lib.hid hJ
  have HD := Lib.hid (hD.ext hx (fun h => h))
  have HRL := Lib.hid hrl
  have HT := Lib.hid ht
  have HG : Hid (D.now.get (jrn0 name).file = fileB st rs ++ t) := by show _ = _; unfold Fl.get; rw [hm]; rfl
  clear hx hJ hD hrl ht
  go_enter Try.func12, Try.ntmps12
  go_wp2_with fail
  refine (jname_any name w (by have : name.size ≤ 40 := n0; omega)).mono ?_
  rw [h]
  rintro e w' ⟨rfl, rfl⟩
  go_wp2_with fail
  refine (jfile_any w.heap.size d _ _ (jrn0 name) HJ.out n0).mono ?_
  rintro e w' ⟨rfl, rfl⟩
  go_wp2_with fail
  refine (dread_any d 0 _ _ D HD.out (jrn0 name).file n1).mono ?_
  rintro e w2 ⟨A, cap, g2, hx2, rfl, hB⟩
  have HB := Lib.hid (hB hdn)
  have HX2 := Lib.hid hx2
  have HJ2 := Lib.hid (HJ.out.ext hx2 (fun h => h))
  clear hx2 hB
  rw [HG.out] at HB
  rw [hdn, hm, HG.out]
  generalize hL : (fileB st rs ++ t).length = len at *
  go_wp2_with fail
  subst hL
  refine (recover_any w.heap.size d g2 w2 name HJ2.out st hst rs t HT.out HRL.out hcl hbl A cap HB.out hlen).mono ?_
  rintro e w3 ⟨rfl, g3, hx3, hJ3⟩
  have HX3 := Lib.hid (((HX.out.trans HX2.out).imp (fun _ h => h.elim)).trans hx3)
  have HJ3 := Lib.hid hJ3
  clear hx3 hJ3
  go_wp2_with fail
  go_ret2
  exact ⟨w.heap.size, g3, rfl, Nat.le_refl _, HX3.out, HJ3.out⟩

set_option maxRecDepth 100000 in
theorem open_down (d : Nat) (g : Gh) (w : World) (D : Dev) (hD : DevAt g w d D) (name : ByteArray) (h : nmB false 40 name = true) (hdn : D.down = true) :
    Calls Try.prog 12 #[.pointer (some ⟨d, 0, none⟩), .string name] w fun e w' => e = .returned (.tuple #[.pointer none, .int .i64 303]) ∧ SameP g w w' := by
  obtain ⟨n0, n1, n2, n3⟩ := JOk.names h (J := jrn0 name) rfl
  have hx := Ext.box (fun _ => False) g w (.cells #[.pointer (some ⟨d, 0, none⟩), .string name, .int .i64 0, .slice none 0 0, .slice none 0 0, .int .i64 0, .bool false, .bool false] 69)
  have hJ := JAt.new g w d name
  have HX := Lib.hid hx
  have HJ := Lib.hid hJ
  have HD := Lib.hid (hD.ext hx (fun h => h))
  clear hx hJ hD
  go_enter Try.func12, Try.ntmps12
  go_wp2_with fail
  refine (jname_any name w (by have : name.size ≤ 40 := n0; omega)).mono ?_
  rw [h]
  rintro e w' ⟨rfl, rfl⟩
  go_wp2_with fail
  refine (jfile_any w.heap.size d _ _ (jrn0 name) HJ.out n0).mono ?_
  rintro e w' ⟨rfl, rfl⟩
  go_wp2_with fail
  refine (dread_any d 0 _ _ D HD.out (jrn0 name).file n1).mono ?_
  rintro e w2 ⟨A, cap, g2, hx2, rfl, _⟩
  have HX2 := Lib.hid hx2
  clear hx2
  rw [hdn]
  go_wp2_with fail
  go_ret2
  exact ⟨rfl, g2, HX.out.trans HX2.out⟩

/-- A journal on a device that is not down, opened anew. -/
theorem gopen (d : Nat) (g : Gh) (w : World) (J : Jrn) (D : Dev) (c m : Nat) (hD : DevAt g w d D) (hG : Good J D c m) (hm : m ≤ 4611686018427387904) :
    Calls Try.prog 12 #[.pointer (some ⟨d, 0, none⟩), .string J.name] w fun e w' => ∃ j g', e = .returned (.tuple #[.pointer (some ⟨j, 0, none⟩), .int .i64 0]) ∧ w.heap.size ≤ j ∧ Ext (fun o => o = j) g w g' w' ∧ JAt g' w' j d (disR J) := by
  have h1 := hG.st0
  have h2 := hG.st1
  have h3 := hG.cnt
  have h4 := hG.bx
  have h5 := hG.dead
  have hrl : ∀ r ∈ J.recs, r.length ≤ 65536 := fun r hr => hG.rl r (List.mem_append_left _ hr)
  cases hw : J.whole
  · obtain ⟨e1, e2, e3⟩ := hG.nw hw
    refine (open_none d g w D hD J.name hG.nm hG.up.dn e1).mono ?_
    rintro e w' ⟨j', g', a1, a2, a3, a4⟩
    refine ⟨j', g', a1, a2, a3.imp (fun _ h => h.elim), ?_⟩
    have : disR J = jrn0 J.name := by
      rcases J with ⟨a, b, cc, dd, e, f, g⟩
      simp only at hw e2 e3 h5
      subst hw e2 e3 h5
      rfl
    rw [this]; exact a4
  · have e1 := hG.wh hw
    have hl := fileB_len J.start.toNat (by omega) J.recs hrl
    refine (open_some d g w D hD J.name hG.nm hG.up.dn J.start.toNat (by omega) J.recs [] (by rw [List.append_nil]; exact e1) Torn.nil hrl (by omega) (by omega) (by rw [List.append_nil]; omega)).mono ?_
    rintro e w' ⟨j', g', a1, a2, a3, a4⟩
    refine ⟨j', g', a1, a2, a3, ?_⟩
    have : disR J = recJ J.name J.start.toNat J.recs ([] : List UInt8).isEmpty := by
      rcases J with ⟨a, b, cc, dd, e, f, g⟩
      simp only at hw h5 h1
      subst hw h5
      have hb : ((b.toNat : Nat) : Int) = b := by omega
      simp only [disR, recJ, hb]
      rfl
    rw [this]; exact a4

end Go.Proofs.Ytopggjpaplhboaa
