/-
  The walk of the reference's Attach (printed by mkratt.py).
-/
import Derived.Test.YtocffknoeknabaaGreatDoorAtW
import Derived.Test.YtocffknoeknabaaGreatDoorClG
namespace Go.Proofs.YtocffknoeknabaaGreatDoor
open Go.RowKit

/-- The place of the first edit of a path in any list of edits, or -1. -/
def findU (V : List Edt) (s : ByteArray) : Int := if V.findIdx (fun y => y.path == s) < V.length then ((V.findIdx (fun y => y.path == s) : Nat) : Int) else -1
theorem findU_go {V : List Edt} {s : ByteArray} {k : Nat} (hk : k < V.length) (h0 : ∀ x ∈ V.take k, x.path ≠ s) (hp : V[k].path = s) : findU V s = k := by
  have h : V.findIdx (fun y => y.path == s) = k := by
    rw [List.findIdx_eq hk]
    refine ⟨(ba_beq _ _).2 hp, fun j hj => ?_⟩
    have h1 := h0 V[j] (by rw [List.mem_iff_getElem]; exact ⟨j, by rw [List.length_take]; omega, by rw [List.getElem_take]⟩)
    cases h2 : (V[j].path == s)
    · rfl
    · exact absurd ((ba_beq _ _).1 h2) h1
  unfold findU
  rw [h, if_pos hk]
theorem findU_none {V : List Edt} {s : ByteArray} (h0 : ∀ x ∈ V, x.path ≠ s) : findU V s = -1 := by
  unfold findU
  rw [if_neg]
  rw [List.findIdx_lt_length]
  rintro ⟨x, hx, h⟩
  exact h0 x hx ((ba_beq _ _).1 h)
theorem findU_sign (V : List Edt) (s : ByteArray) : 0 ≤ findU V s ↔ hasP V s = true := by
  unfold findU
  rw [hasP_iff]
  split
  · rename_i h
    rw [List.findIdx_lt_length] at h
    obtain ⟨x, hx, h⟩ := h
    exact ⟨fun _ => ⟨x, hx, (ba_beq _ _).1 h⟩, fun _ => Int.natCast_nonneg _⟩
  · rename_i h
    rw [List.findIdx_lt_length] at h
    exact ⟨fun h1 => absurd h1 (by decide), fun ⟨y, hy, e⟩ => absurd ⟨y, hy, (ba_beq _ _).2 e⟩ h⟩
set_option maxRecDepth 100000 in
set_option maxHeartbeats 1600000 in
theorem find_anyU (p : Pnd) (s : ByteArray) (E R : Option Addr) (ec rc : Nat) (w : World) (hE : edtK.In E p.edits w) (hn : p.edits.length ≤ 100000) :
    Calls Tryz.prog 36 #[pndV p E ec R rc, .string s] w fun e w' => e = .returned (.int .i64 (findU p.edits s)) ∧ Below w.heap.size w w' := by
  have HE := Lib.hid hE
  clear hE
  obtain ⟨pn, pc, pt, ps, V⟩ := p
  unfold pndV pndC
  dsimp only at *
  obtain ⟨q, hq⟩ : ∃ q, findU V s = q := ⟨_, rfl⟩
  rw [hq]
  have HQ := Lib.hid hq
  clear hq
  go_enter Tryz.func36, Tryz.ntmps36
  go_wp2_with fail
  go_loopw [10] (fun i wr => ∃ k : Nat, i = .int .i64 k ∧ k ≤ V.length ∧ Below w.heap.size w wr ∧ Hid (∀ x ∈ V.take k, x.path ≠ s)) (fun i _ => V.length - (intOf i).toNat)
  case atStart => exact ⟨0, rfl, Nat.zero_le _, by (repeat (first | (with_reducible exact Below.refl _ _) | (with_reducible assumption) | (with_reducible refine Below.setCell ?_ ?_ _; rotate_left; focus (first | exact Nat.le_refl _ | (dsimp only; omega))) | (with_reducible refine Below.drew ?_) | (with_reducible refine below_drewN ?_ _) | (with_reducible refine Below.alloc ?_ ?_ _; rotate_left; focus (first | exact Nat.le_refl _ | (simp; done) | (simp; omega))))), fun x h => by simp at h⟩
  case round =>
    obtain ⟨k, rfl, hk, hB, HF⟩ := hrel
    have HB := Lib.hid hB
    clear hB
    by_cases hlt : k < V.length
    · obtain ⟨b, off, rfl, hbl, hat⟩ := (HE.out.below HB.out) (by omega)
      have hg := List.getElem?_eq_getElem hlt
      have HT := Lib.hid (fun h => take_succ_all hlt HF.out (s := s) h)
      have HG := Lib.hid (fun h => findU_go hlt HF.out (s := s) h)
      generalize hx : V[k] = x at *
      (have hcv := fun j (u : Value) (hj : (x).cells[j]? = some u) => ((hat).get hg hj); have c0 := hcv 0 _ rfl; have c1 := hcv 1 _ rfl; have c2 := hcv 2 _ rfl; have c3 := hcv 3 _ rfl; have c4 := hcv 4 _ rfl; have c5 := hcv 5 _ rfl; have c6 := hcv 6 _ rfl; have c7 := hcv 7 _ rfl; have c8 := hcv 8 _ rfl; have c9 := hcv 9 _ rfl; have c10 := hcv 10 _ rfl; have c11 := hcv 11 _ rfl; have e12 : edtK.n = 12 := rfl; simp only [e12, Nat.add_zero] at c0 c1 c2 c3 c4 c5 c6 c7 c8 c9 c10 c11; clear hcv e12)
      clear hat hg hx
      cases hv : (x.path == s)
      · have hv' : (x.path.toList == s.toList) = false := by rw [path_tl]; exact hv
        have HTT : Hid (∀ x ∈ V.take (k + 1), x.path ≠ s) := HT.out (fun e => by rw [(ba_beq _ _).2 e] at hv; cases hv)
        clear hv HT HG
        go_wp2_with fail
        go_roundw
        case rel => exact ⟨k + 1, by go_num, by omega, HB.out.alloc HB.out.size _, HTT⟩
        case measure => simp [intOf]; omega
      · have hv' : (x.path.toList == s.toList) = true := by rw [path_tl]; exact hv
        have HGG := Lib.hid (HG.out ((ba_beq _ _).1 hv))
        clear hv HT HG
        go_wp2_with fail
        go_ret
        exact ⟨ret_int (by rw [← HQ.out, HGG.out]), HB.out.alloc HB.out.size _⟩
    · obtain rfl : k = V.length := by omega
      have HGG : Hid (findU V s = -1) := findU_none (by have := HF.out; rwa [List.take_length] at this)
      go_wp2_with fail
      go_ret
      exact ⟨ret_int (by rw [← HQ.out, HGG.out]), HB.out⟩
theorem rwith_add (p : Pnd) (X : List Edt) (E R F : Option Addr) (ec rc fc : Nat) (w : World) (hE : edtK.In E p.edits w) (hF : edtK.In F X w) (hp : EPl p.edits) (hu : ∀ x ∈ p.edits ++ X, validB x.path.data.toList = true ∧ x.path.size < 4294967281) (hf : freshE p.edits X = true) (hn : p.edits.length + X.length ≤ 1000) (hg : G0 w) :
    Calls Tryz.prog 37 #[pndV p E ec R rc, .slice F X.length fc] w (PndRetN { p with edits := addE p.edits X } w) := by
  obtain ⟨h1, h2⟩ := add_ok X hp (fun x hx => ⟨(hu x (List.mem_append_right _ hx)).1, Nat.le_of_lt (hu x (List.mem_append_right _ hx)).2⟩) hf hn
  by_cases h0 : 0 < p.edits.length + X.length
  · exact rwithN_any p X (addE p.edits X) E R F ec rc fc w hE hF hn (fun x hx => (hu x hx).2) h1.srt h2 h0 hg
  · have h3 := rwith0_any p X E R F ec rc fc w hE hF (by omega)
    have h4 : addE p.edits X = p.edits := by
      obtain rfl : X = [] := List.eq_nil_of_length_eq_zero (by omega)
      rfl
    rw [h4]
    exact h3
set_option maxRecDepth 100000 in
set_option maxHeartbeats 12800000 in
theorem rattach_any (p : Pnd) (X : List Edt) (Q : List Rcd) (E R F G : Option Addr) (ec rc fc gc : Nat) (w : World) (hE : edtK.In E p.edits w) (hF : edtK.In F X w) (hG : rcdK.In G Q w) (hp : EPl p.edits) (hu : ∀ x ∈ p.edits ++ X, validB x.path.data.toList = true ∧ x.path.size < 4294967281) (hq : ∀ r ∈ Q, r.src.size < 4294967281 ∧ r.dst.size < 4294967281) (hn : p.edits.length + X.length ≤ 1000 ∧ Q.length ≤ 1000) (hfc : X.length ≤ fc) (hg : G0 w) :
    Calls Tryz.prog 16 #[pndV p E ec R rc, .slice F X.length fc, .slice G Q.length gc] w (AtRet (attP p X Q) w) := by
  have HE := Lib.hid hE
  have HF := Lib.hid hF
  have HG := Lib.hid hG
  have HP := Lib.hid hp
  have HU := Lib.hid hu
  have HQS := Lib.hid hq
  have HG0 := Lib.hid hg
  obtain ⟨hn1, hn2⟩ := hn
  clear hE hF hG hp hu hq hg
  have HQ181 : Hid (freshE p.edits X = false → attP p X Q = (zeroP, [], [], 181)) := fun h => by unfold attP; rw [if_pos h]
  obtain ⟨pn, pc, pt, ps, V⟩ := p
  unfold pndV pndC
  dsimp only at HE HP HU hn1 HQ181 ⊢
  go_enter Tryz.func16, Tryz.ntmps16
  go_upto_region 1 with fail
  generalize hw1 : World.alloc _ (.cells #[.int .i64 0, .string ⟨#[]⟩, .string ⟨#[]⟩, .bool false, .slice none 0 0, .slice none 0 0] 41) = w1
  have HM1 : Hid (Bs [(w.heap.size + 1, 41, [.int .i64 0, .string ⟨#[]⟩, .string ⟨#[]⟩, .bool false, .slice none 0 0, .slice none 0 0]), (w.heap.size, 41, [.int .i64 pn, .string pc, .string pt, .bool ps, .slice E V.length ec, .slice R 0 rc])] w1) := by
    show Bs _ _
    rw [← hw1]
    exact ⟨Blk.new1 _ _ _ _, (Blk.new _ _ _).alloc _, trivial⟩
  have HB1 : Hid (Below w.heap.size w w1) := by
    show Below _ _ _
    rw [← hw1]
    (repeat (first | (with_reducible exact Below.refl _ _) | (with_reducible assumption) | (with_reducible refine Below.setCell ?_ ?_ _; rotate_left; focus (first | exact Nat.le_refl _ | (dsimp only; omega))) | (with_reducible refine Below.drew ?_) | (with_reducible refine below_drewN ?_ _) | (with_reducible refine Below.alloc ?_ ?_ _; rotate_left; focus (first | exact Nat.le_refl _ | (simp; done) | (simp; omega)))))
  clear hw1
  go_wp2_with fail
  go_loopw [12] (fun i wr => ∃ k : Nat, i = .int .i64 k ∧ k ≤ X.length ∧ Hid (Bs [(w.heap.size + 1, 41, [.int .i64 0, .string ⟨#[]⟩, .string ⟨#[]⟩, .bool false, .slice none 0 0, .slice none 0 0]), (w.heap.size, 41, [.int .i64 pn, .string pc, .string pt, .bool ps, .slice E V.length ec, .slice R 0 rc])] wr) ∧ Hid (Below w.heap.size w wr) ∧ Hid (freshE V (X.take k) = true)) (fun i _ => X.length - (intOf i).toNat)
  case atStart => exact ⟨0, rfl, Nat.zero_le _, HM1.out, HB1.out, rfl⟩
  case round =>
    obtain ⟨k, rfl, hk, HM, HB, HFR⟩ := hrel
    clear HM1 HB1
    by_cases hlt : k < X.length
    · obtain ⟨g, off, rfl, hgl, hat⟩ := HF.out (by omega)
      have hgk := List.getElem?_eq_getElem hlt
      generalize hqv : X[k] = v at *
      have HGK := Lib.hid hgk
      obtain ⟨xp, xa, ⟨tb, tk, te, tx⟩, ⟨cs, cz⟩, xb, xs, xm, xf⟩ := v
      have hat := hat.below HB.out hgl
      (have hcv := fun j (u : Value) (hj : ((⟨xp, xa, ⟨tb, tk, te, tx⟩, ⟨cs, cz⟩, xb, xs, xm, xf⟩ : Edt)).cells[j]? = some u) => ((hat).get hgk hj); have c0 := hcv 0 _ rfl; have c1 := hcv 1 _ rfl; have c2 := hcv 2 _ rfl; have c3 := hcv 3 _ rfl; have c4 := hcv 4 _ rfl; have c5 := hcv 5 _ rfl; have c6 := hcv 6 _ rfl; have c7 := hcv 7 _ rfl; have c8 := hcv 8 _ rfl; have c9 := hcv 9 _ rfl; have c10 := hcv 10 _ rfl; have c11 := hcv 11 _ rfl; have e12 : edtK.n = 12 := rfl; simp only [e12, Nat.add_zero] at c0 c1 c2 c3 c4 c5 c6 c7 c8 c9 c10 c11; clear hcv e12)
      have hb4 := (Below.refl wr.heap.size wr).alloc (Nat.le_refl _) (.cells [.string xp, .int .i64 xa, .int .i64 tb, .bool tk, .bool te, .bool tx, .int .u64 cs, .int .i64 cz, .int .i64 xb, .string xs, .int .i64 xm, .int .i64 xf].toArray 44)
      have HM4 := Lib.hid (HM.out.below hb4)
      have HB4 := Lib.hid (HB.out.trans (hb4.mono HB.out.size))
      have HX4 := Lib.hid (Blk.new wr 44 [.string xp, .int .i64 xa, .int .i64 tb, .bool tk, .bool te, .bool tx, .int .u64 cs, .int .i64 cz, .int .i64 xb, .string xs, .int .i64 xm, .int .i64 xf])
      clear hat hgk hqv hb4 HM HB
      go_upto_region 4 with fail
      generalize World.alloc wr _ = w4 at *
      generalize wr.heap.size = eb at *
      clear c0 c1 c2 c3 c4 c5 c6 c7 c8 c9 c10 c11
      have hfk : k ≤ fc := by omega
      have hS : Below w4.heap.size w4 w4.drew := (Below.refl _ _).drew
      have HTK : Hid ((X.take k).length = k) := by show _ = _; rw [List.length_take]; omega
      have HC1 := Lib.hid (fun y : Held (Below w4.heap.size w4) => find_anyU ⟨pn, pc, pt, ps, V⟩ xp E R ec rc y.w (HE.out.below (HB4.out.trans (y.ok.mono HB4.out.size))) (by dsimp only; omega))
      have HC2 := Lib.hid (fun y : Held (Below w4.heap.size w4) => find_anyU ⟨0, ⟨#[]⟩, ⟨#[]⟩, false, X.take k⟩ xp (some ⟨g, off, none⟩) none fc 0 y.w (fun hk0 => by
        obtain ⟨b', off', e', hl', hat'⟩ := (HF.out.below (HB4.out.trans (y.ok.mono HB4.out.size))) (by omega)
        injection e' with e'
        injection e' with e1 e2
        subst e1 e2
        refine ⟨g, off, rfl, hl', fun j u hj => hat' j u ?_⟩
        rw [← List.take_append_drop k X, edtK.flat_append, List.getElem?_append_left (List.getElem?_eq_some_iff.1 hj).1]
        exact hj) (by dsimp only; rw [HTK.out]; omega))
      unfold pndV pndC at HC1 HC2
      dsimp only at HC1 HC2
      rw [HTK.out] at HC2
      have HN1 := Lib.hid (findU_sign V xp)
      have HN2 := Lib.hid (findU_sign (X.take k) xp)
      generalize findU V xp = q1 at *
      generalize findU (X.take k) xp = q2 at *
      obtain ⟨l0, l1, l2, l3, l4, l5⟩ := sfun_and6 (fun y : Held (Below w4.heap.size w4) => (HM4.out.2.1.below y.ok).c6)
      have e0 : ∀ y : Held (Below w4.heap.size w4), y.w.cell? ⟨eb, 0, none⟩ = some (.string xp) := fun y => (HX4.out.below y.ok).cell 0
      cases h1 : decide (0 ≤ q1)
      · have h1n : ¬ 0 ≤ q1 := by simpa using h1
        have h1l : q1 < 0 := by omega
        have HV1 : Hid (hasP V xp = false) := by
          show _ = _
          cases h : hasP V xp
          · rfl
          · exact absurd (HN1.out.2 h) h1n
        cases h2 : decide (0 ≤ q2)
        · have h2n : ¬ 0 ≤ q2 := by simpa using h2
          have h2l : q2 < 0 := by omega
          have HV2 : Hid (hasP (X.take k) xp = false) := by
            show _ = _
            cases h : hasP (X.take k) xp
            · rfl
            · exact absurd (HN2.out.2 h) h2n
          have HFR2 : Hid (freshE V (X.take (k + 1)) = true) := freshE_take k (by omega) HFR.out _ HGK.out (by rw [hasP_app, HV1.out, HV2.out]; rfl)
          go_wp2_with fail
          -- MARKA
          refine wp_region_s (S := Below w4.heap.size w4) (by kernel_rfl) (by kernel_rfl) hS ?_
          have hN : Nonempty (Held (Below w4.heap.size w4)) := ⟨⟨_, hS⟩⟩
          iterate 4 (go_big_quiet_step ((go_at_call 36; exact held_keep (HC1.out _))))
          -- MARKQ
          clear HC1
          (repeat (go_big_quiet_step ((go_at_call 36; exact held_keep (HC2.out _)))))
          -- MARKR
          refine wpQuiet_nil ?_
          rintro x ⟨⟨_, hx⟩, rfl⟩
          clear hN
          have HMX := Lib.hid (HM4.out.below hx)
          have HBX := Lib.hid (HB4.out.trans (hx.mono HB4.out.size))
          clear hx l0 l1 l2 l3 l4 l5 e0 HC2
          go_wp2_with fail
          go_roundw
          case rel =>
            refine ⟨k + 1, ?_, ?_, HMX.out, HBX.out, HFR2⟩
            · go_num
            · omega
          case measure => simp [intOf]; omega
        · have h2n : 0 ≤ q2 := by simpa using h2
          have HQ181 : Hid (attP ⟨pn, pc, pt, ps, V⟩ X Q = (zeroP, [], [], 181)) := HQ181.out (freshE_not k _ HGK.out (by rw [hasP_app, HN2.out.1 h2n, Bool.or_true]))
          go_wp2_with fail
          refine wp_region_s (S := Below w4.heap.size w4) (by kernel_rfl) (by kernel_rfl) hS ?_
          have hN : Nonempty (Held (Below w4.heap.size w4)) := ⟨⟨_, hS⟩⟩
          iterate 4 (go_big_quiet_step ((go_at_call 36; exact held_keep (HC1.out _))))
          -- MARKQ
          clear HC1
          (repeat (go_big_quiet_step ((go_at_call 36; exact held_keep (HC2.out _)))))
          -- MARKR
          refine wpQuiet_nil ?_
          rintro x ⟨⟨_, hx⟩, rfl⟩
          clear hN
          have HMX := Lib.hid (HM4.out.below hx)
          have HBX := Lib.hid (HB4.out.trans (hx.mono HB4.out.size))
          clear hx l0 l1 l2 l3 l4 l5 e0 HC2
          obtain ⟨z0, z1, z2, z3, z4, z5⟩ := HMX.out.1.c6
          have f0 := HMX.out.1.fz 0
          have f1 := HMX.out.1.fz 1
          have f2 := HMX.out.1.fz 2
          have f3 := HMX.out.1.fz 3
          have f4 := HMX.out.1.fz 4
          have f5 := HMX.out.1.fz 5
          have KZ := Lib.hid (zero_putA HMX.out.1 (.int .i64 0) (.string ⟨#[]⟩) (.string ⟨#[]⟩) (.bool false) (.slice none 0 0) (.slice none 0 0))
          have HBZ := Lib.hid (below_put6A HBX.out (b := w.heap.size + 1) (by omega) (.int .i64 0) (.string ⟨#[]⟩) (.string ⟨#[]⟩) (.bool false) (.slice none 0 0) (.slice none 0 0))
          have hlb := HMX.out.1.lt
          -- MARKV
          go_wp2_with fail
          -- MARKW
          clear z0 z1 z2 z3 z4 z5 f0 f1 f2 f3 f4 f5
          (generalize World.setCell (World.setCell (World.setCell (World.setCell (World.setCell (World.setCell _ _ _) _ _) _ _) _ _) _ _) _ _ = w9 at *)
          obtain ⟨z0, z1, z2, z3, z4, z5⟩ := KZ.out.c6
          refine bodyPost_ret (v := .tuple #[pnrV zeroP [] [] none none 0 0, .int .i64 181]) (by simp [results, Tryz.results16, go_sem, z0, z1, z2, z3, z4, z5]; rfl) rfl ?_
          rw [HQ181.out]
          exact ⟨none, 0, none, 0, rfl, RowK.In.nil _ _, RowK.In.nil _ _, HBZ.out⟩
      · have h1n : 0 ≤ q1 := by simpa using h1
        have HQ181 : Hid (attP ⟨pn, pc, pt, ps, V⟩ X Q = (zeroP, [], [], 181)) := HQ181.out (freshE_not k _ HGK.out (by rw [hasP_app, HN1.out.1 h1n, Bool.true_or]))
        go_wp2_with fail
        refine wp_region_s (S := Below w4.heap.size w4) (by kernel_rfl) (by kernel_rfl) hS ?_
        have hN : Nonempty (Held (Below w4.heap.size w4)) := ⟨⟨_, hS⟩⟩
        iterate 4 (go_big_quiet_step ((go_at_call 36; exact held_keep (HC1.out _))))
        -- MARKQ
        clear HC1
        (repeat (go_big_quiet_step ((go_at_call 36; exact held_keep (HC2.out _)))))
        -- MARKR
        refine wpQuiet_nil ?_
        rintro x ⟨⟨_, hx⟩, rfl⟩
        clear hN
        have HMX := Lib.hid (HM4.out.below hx)
        have HBX := Lib.hid (HB4.out.trans (hx.mono HB4.out.size))
        clear hx l0 l1 l2 l3 l4 l5 e0 HC2
        obtain ⟨z0, z1, z2, z3, z4, z5⟩ := HMX.out.1.c6
        have f0 := HMX.out.1.fz 0
        have f1 := HMX.out.1.fz 1
        have f2 := HMX.out.1.fz 2
        have f3 := HMX.out.1.fz 3
        have f4 := HMX.out.1.fz 4
        have f5 := HMX.out.1.fz 5
        have KZ := Lib.hid (zero_putA HMX.out.1 (.int .i64 0) (.string ⟨#[]⟩) (.string ⟨#[]⟩) (.bool false) (.slice none 0 0) (.slice none 0 0))
        have HBZ := Lib.hid (below_put6A HBX.out (b := w.heap.size + 1) (by omega) (.int .i64 0) (.string ⟨#[]⟩) (.string ⟨#[]⟩) (.bool false) (.slice none 0 0) (.slice none 0 0))
        have hlb := HMX.out.1.lt
        -- MARKV
        go_wp2_with fail
        -- MARKW
        clear z0 z1 z2 z3 z4 z5 f0 f1 f2 f3 f4 f5
        (generalize World.setCell (World.setCell (World.setCell (World.setCell (World.setCell (World.setCell _ _ _) _ _) _ _) _ _) _ _) _ _ = w9 at *)
        obtain ⟨z0, z1, z2, z3, z4, z5⟩ := KZ.out.c6
        refine bodyPost_ret (v := .tuple #[pnrV zeroP [] [] none none 0 0, .int .i64 181]) (by simp [results, Tryz.results16, go_sem, z0, z1, z2, z3, z4, z5]; rfl) rfl ?_
        rw [HQ181.out]
        exact ⟨none, 0, none, 0, rfl, RowK.In.nil _ _, RowK.In.nil _ _, HBZ.out⟩
    · obtain rfl : k = X.length := by omega
      -- MARKB
      have HFRX : Hid (freshE V X = true) := by
        have h := HFR.out
        rw [List.take_length] at h
        exact h
      clear HFR HQ181
      have HQ184 : Hid (64 < V.length + X.length ∨ 64 < Q.length → attP ⟨pn, pc, pt, ps, V⟩ X Q = (zeroP, [], [], 184)) := fun h => by
        unfold attP
        rw [if_neg (by rw [HFRX.out]; decide), if_pos h]
      have HQ0 : Hid (¬ (64 < V.length + X.length ∨ 64 < Q.length) → attP ⟨pn, pc, pt, ps, V⟩ X Q = (⟨pn, pc, pt, ps, V⟩, addE V X, sortR Q, 0)) := fun h => by
        unfold attP
        rw [if_neg (by rw [HFRX.out]; decide), if_neg h]
      obtain ⟨d0, d1, d2, d3, d4, d5⟩ := HM.out.2.1.c6
      have HMX := HM
      have HBX := HB
      by_cases h1 : 64 < V.length + X.length
      · have HQ184 : Hid (attP ⟨pn, pc, pt, ps, V⟩ X Q = (zeroP, [], [], 184)) := HQ184.out (.inl h1)
        go_upto_region 8 with fail
        clear d0 d1 d2 d3 d4 d5
        obtain ⟨z0, z1, z2, z3, z4, z5⟩ := HMX.out.1.c6
        have f0 := HMX.out.1.fz 0
        have f1 := HMX.out.1.fz 1
        have f2 := HMX.out.1.fz 2
        have f3 := HMX.out.1.fz 3
        have f4 := HMX.out.1.fz 4
        have f5 := HMX.out.1.fz 5
        have KZ := Lib.hid (zero_putA HMX.out.1 (.int .i64 0) (.string ⟨#[]⟩) (.string ⟨#[]⟩) (.bool false) (.slice none 0 0) (.slice none 0 0))
        have HBZ := Lib.hid (below_put6A HBX.out (b := w.heap.size + 1) (by omega) (.int .i64 0) (.string ⟨#[]⟩) (.string ⟨#[]⟩) (.bool false) (.slice none 0 0) (.slice none 0 0))
        have hlb := HMX.out.1.lt
        -- MARKV
        go_wp2_with fail
        -- MARKW
        clear z0 z1 z2 z3 z4 z5 f0 f1 f2 f3 f4 f5
        (generalize World.setCell (World.setCell (World.setCell (World.setCell (World.setCell (World.setCell _ _ _) _ _) _ _) _ _) _ _) _ _ = w9 at *)
        obtain ⟨z0, z1, z2, z3, z4, z5⟩ := KZ.out.c6
        refine bodyPost_ret (v := .tuple #[pnrV zeroP [] [] none none 0 0, .int .i64 184]) (by simp [results, Tryz.results16, go_sem, z0, z1, z2, z3, z4, z5]; rfl) rfl ?_
        rw [HQ184.out]
        exact ⟨none, 0, none, 0, rfl, RowK.In.nil _ _, RowK.In.nil _ _, HBZ.out⟩
      by_cases h2 : 64 < Q.length
      · have HQ184 : Hid (attP ⟨pn, pc, pt, ps, V⟩ X Q = (zeroP, [], [], 184)) := HQ184.out (.inr h2)
        go_upto_region 8 with fail
        clear d0 d1 d2 d3 d4 d5
        obtain ⟨z0, z1, z2, z3, z4, z5⟩ := HMX.out.1.c6
        have f0 := HMX.out.1.fz 0
        have f1 := HMX.out.1.fz 1
        have f2 := HMX.out.1.fz 2
        have f3 := HMX.out.1.fz 3
        have f4 := HMX.out.1.fz 4
        have f5 := HMX.out.1.fz 5
        have KZ := Lib.hid (zero_putA HMX.out.1 (.int .i64 0) (.string ⟨#[]⟩) (.string ⟨#[]⟩) (.bool false) (.slice none 0 0) (.slice none 0 0))
        have HBZ := Lib.hid (below_put6A HBX.out (b := w.heap.size + 1) (by omega) (.int .i64 0) (.string ⟨#[]⟩) (.string ⟨#[]⟩) (.bool false) (.slice none 0 0) (.slice none 0 0))
        have hlb := HMX.out.1.lt
        -- MARKV
        go_wp2_with fail
        -- MARKW
        clear z0 z1 z2 z3 z4 z5 f0 f1 f2 f3 f4 f5
        (generalize World.setCell (World.setCell (World.setCell (World.setCell (World.setCell (World.setCell _ _ _) _ _) _ _) _ _) _ _) _ _ = w9 at *)
        obtain ⟨z0, z1, z2, z3, z4, z5⟩ := KZ.out.c6
        refine bodyPost_ret (v := .tuple #[pnrV zeroP [] [] none none 0 0, .int .i64 184]) (by simp [results, Tryz.results16, go_sem, z0, z1, z2, z3, z4, z5]; rfl) rfl ?_
        rw [HQ184.out]
        exact ⟨none, 0, none, 0, rfl, RowK.In.nil _ _, RowK.In.nil _ _, HBZ.out⟩
      have HQ0 : Hid (attP ⟨pn, pc, pt, ps, V⟩ X Q = (⟨pn, pc, pt, ps, V⟩, addE V X, sortR Q, 0)) := HQ0.out (by omega)
      have HWI := Lib.hid (rwith_add ⟨pn, pc, pt, ps, V⟩ X E R F ec rc fc wr (HE.out.below HB.out) (HF.out.below HB.out) HP.out HU.out HFRX.out hn1 (HG0.out.below HB.out))
      clear HQ184 HMX HBX HFRX
      unfold pndV pndC at HWI
      unfold PndRetN pndV pndC at HWI
      dsimp only at HWI
      go_wp2_with fail
      -- MARKC
      refine HWI.out.mono ?_
      rintro e w6 ⟨E2, e2, rfl, hin6, hfr6, hb6⟩
      generalize addE V X = LL at *
      have HM6 := Lib.hid (HM.out.below hb6)
      have HB6 := Lib.hid (HB.out.trans (hb6.mono HB.out.size))
      have hlt6 := HM.out.1.lt
      have HIN6 := Lib.hid hin6
      have HFR6 : Hid (∀ b off, E2 = some ⟨b, off, none⟩ → w.heap.size + 1 < b) := fun b off e => by have := hfr6 b off e; omega
      clear hb6 hin6 hfr6 HM HB HWI d0 d1 d2 d3 d4 d5
      obtain ⟨d0, d1, d2, d3, d4, d5⟩ := HM6.out.2.1.c6
      have g0 := HM6.out.2.1.fz 0
      have g1 := HM6.out.2.1.fz 1
      have g2 := HM6.out.2.1.fz 2
      have g3 := HM6.out.2.1.fz 3
      have g4 := HM6.out.2.1.fz 4
      have g5 := HM6.out.2.1.fz 5
      have HMP := Lib.hid (show Bs [(w.heap.size + 1, 41, [.int .i64 0, .string ⟨#[]⟩, .string ⟨#[]⟩, .bool false, .slice none 0 0, .slice none 0 0]), (w.heap.size, 41, [.int .i64 pn, .string pc, .string pt, .bool ps, .slice E2 LL.length e2, .slice none 0 0])] _ from ⟨(((((HM6.out.1.far (p := ⟨w.heap.size, 0, none⟩) (by dsimp only; omega) (.int .i64 pn)).far (p := ⟨w.heap.size, 1, none⟩) (by dsimp only; omega) (.string pc)).far (p := ⟨w.heap.size, 2, none⟩) (by dsimp only; omega) (.string pt)).far (p := ⟨w.heap.size, 3, none⟩) (by dsimp only; omega) (.bool ps)).far (p := ⟨w.heap.size, 4, none⟩) (by dsimp only; omega) (.slice E2 LL.length e2)).far (p := ⟨w.heap.size, 5, none⟩) (by dsimp only; omega) (.slice none 0 0), zero_put HM6.out.2.1 (.int .i64 pn) (.string pc) (.string pt) (.bool ps) (.slice E2 LL.length e2) (.slice none 0 0), trivial⟩)
      have HBP := Lib.hid (below_put6 HB6.out (b := w.heap.size) (Nat.le_refl _) (.int .i64 pn) (.string pc) (.string pt) (.bool ps) (.slice E2 LL.length e2) (.slice none 0 0))
      have HEP := Lib.hid (inPut6A HIN6.out (b := w.heap.size) (fun b' off e => by have := HFR6.out b' off e; omega) (.int .i64 pn) (.string pc) (.string pt) (.bool ps) (.slice E2 LL.length e2) (.slice none 0 0))
      go_upto_region 10 with fail
      (generalize World.setCell (World.setCell (World.setCell (World.setCell (World.setCell (World.setCell _ _ _) _ _) _ _) _ _) _ _) _ _ = w7 at *)
      clear HM6 HB6 HIN6 d0 d1 d2 d3 d4 d5 g0 g1 g2 g3 g4 g5
      obtain ⟨i0, hi0, hz0, hz1, hz2⟩ := info_parts Tryz.infoRec18
      have HNW := Lib.hid (RowK.In.news (HG.out.below HBP.out))
      have d5 := HMP.out.2.1.cell 5
      have hsz7 := HMP.out.1.lt
      -- MARKD
      go_wp2_with (at_builtin; go_loud (refine wpList_append_any rfl _ _ 35 rfl w7.heap.size 55 i0 zeroRcd.val 6 64 Tryz.underlying35 hi0 hz0 hz1 hz2 rfl (by decide) (.slice none 0 0) 0 [] rfl ⟨rfl, .inl ⟨rfl, rfl⟩⟩ G Q.length gc (rcdK.flat Q) rfl (rcdK.flat_len Q) HNW.out (rcdK.flat_ones Q) (by unfold maxLen; omega) (by omega) (Nat.le_refl _) ?_); intro v8 w8 ho8 hg8; simp only [Nat.zero_add, List.nil_append] at ho8; obtain ⟨Av, cv, rfl⟩ := own_slice ho8; have HO8 := Lib.hid ho8; have HB78 := Lib.hid ((Below.refl w7.heap.size w7).grown hg8 (Nat.le_refl _) (fun j e => by cases e)); clear ho8 hg8)
      -- MARKE
      have HM8 := Lib.hid (HMP.out.below HB78.out)
      have HB8 := Lib.hid (HBP.out.trans (HB78.out.mono HBP.out.size))
      have hsz8 := HB78.out.size
      have hsz := HBP.out.size
      have HSO := Lib.hid (rsorted_any Q Av cv w7.heap.size w8 HO8.out hsz8 HQS.out (by omega) (HG0.out.below HB8.out) (fun x hx => HG0.out.below (HB8.out.trans (hx.mono hsz))))
      clear HMP HBP HNW d5
      refine HSO.out.mono ?_
      rintro e wz ⟨rfl, hql, -, hinz, hbz⟩
      have HQL : Hid ((sortR Q).length = Q.length) := hql
      have HMZ : Hid (Bs [(w.heap.size + 1, 41, [.int .i64 0, .string ⟨#[]⟩, .string ⟨#[]⟩, .bool false, .slice none 0 0, .slice none 0 0]), (w.heap.size, 41, [.int .i64 pn, .string pc, .string pt, .bool ps, .slice E2 LL.length e2, .slice none 0 0])] wz) := ⟨HM8.out.1.of (hbz.block _ (by omega)), HM8.out.2.1.of (hbz.block _ (by omega)), trivial⟩
      have HBZ := Lib.hid (HB8.out.trans (hbz.mono hsz))
      have HRZ := Lib.hid hinz
      have HNZ : Hid (edtK.In E2 LL wz) := HEP.out.below (HB78.out.trans hbz)
      have hvm : ∀ j, (Value.slice Av Q.length cv).ownBlock = some j → w.heap.size + 1 < j := fun j e => by
        have := (HO8.out.lt j e).1
        omega
      clear hql hinz hbz HM8 HB8 HEP HB78 HSO HO8
      have d5 := HMZ.out.2.1.cell 5
      have g5 := HMZ.out.2.1.fz 5
      have HMA := Lib.hid (show Bs [(w.heap.size + 1, 41, [.int .i64 0, .string ⟨#[]⟩, .string ⟨#[]⟩, .bool false, .slice none 0 0, .slice none 0 0]), (w.heap.size, 41, [.int .i64 pn, .string pc, .string pt, .bool ps, .slice E2 LL.length e2, .slice Av Q.length cv])] _ from ⟨HMZ.out.1.far (p := ⟨w.heap.size, 5, none⟩) (by dsimp only; omega) (.slice Av Q.length cv), HMZ.out.2.1.set 5 (.slice Av Q.length cv), trivial⟩)
      have HBA := Lib.hid (HBZ.out.setCell (p := ⟨w.heap.size, 5, none⟩) (Nat.le_refl _) (.slice Av Q.length cv))
      have HNA := Lib.hid (inSetA HNZ.out (p := ⟨w.heap.size, 5, none⟩) (fun b off e => by have := HFR6.out b off e; dsimp only; omega) (.slice Av Q.length cv))
      have HRA := Lib.hid (inSetA HRZ.out (p := ⟨w.heap.size, 5, none⟩) (fun b off e => by have := hvm b (sliceBlock e); dsimp only; omega) (.slice Av Q.length cv))
      go_upto_region 11 with fail
      (generalize World.setCell _ _ _ = wa at *)
      clear HMZ HBZ HNZ HRZ d5 g5
      -- MARKF
      obtain ⟨d0, d1, d2, d3, d4, d5⟩ := HMA.out.2.1.c6
      obtain ⟨z0, z1, z2, z3, z4, z5⟩ := HMA.out.1.c6
      have f0 := HMA.out.1.fz 0
      have f1 := HMA.out.1.fz 1
      have f2 := HMA.out.1.fz 2
      have f3 := HMA.out.1.fz 3
      have f4 := HMA.out.1.fz 4
      have f5 := HMA.out.1.fz 5
      have KZ := zero_putA HMA.out.1 (.int .i64 pn) (.string pc) (.string pt) (.bool ps) (.slice E2 LL.length e2) (.slice Av Q.length cv)
      have HBZ := below_put6A HBA.out (b := w.heap.size + 1) (by omega) (.int .i64 pn) (.string pc) (.string pt) (.bool ps) (.slice E2 LL.length e2) (.slice Av Q.length cv)
      have HNP := inPut6A HNA.out (b := w.heap.size + 1) (fun b' off e => by have := HFR6.out b' off e; omega) (.int .i64 pn) (.string pc) (.string pt) (.bool ps) (.slice E2 LL.length e2) (.slice Av Q.length cv)
      have HRP := inPut6A HRA.out (b := w.heap.size + 1) (fun b' off e => by have := hvm b' (sliceBlock e); omega) (.int .i64 pn) (.string pc) (.string pt) (.bool ps) (.slice E2 LL.length e2) (.slice Av Q.length cv)
      go_wp2_with fail
      clear d0 d1 d2 d3 d4 d5 z0 z1 z2 z3 z4 z5 f0 f1 f2 f3 f4 f5
      (generalize World.setCell (World.setCell (World.setCell (World.setCell (World.setCell (World.setCell _ _ _) _ _) _ _) _ _) _ _) _ _ = w11 at *)
      obtain ⟨z0, z1, z2, z3, z4, z5⟩ := KZ.c6
      have hql := HQL.out
      refine bodyPost_ret (v := .tuple #[pnrV ⟨pn, pc, pt, ps, V⟩ LL (sortR Q) E2 Av e2 cv, .int .i64 0]) (by unfold pnrV pnrC; rw [hql]; simp [results, Tryz.results16, go_sem, z0, z1, z2, z3, z4, z5]) rfl ?_
      rw [HQ0.out]
      exact ⟨E2, e2, Av, cv, rfl, HNP, HRP, HBZ⟩
end Go.Proofs.YtocffknoeknabaaGreatDoor
