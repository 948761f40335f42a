/-
  What the statements' change makes.
-/
import Derived.Test.YtjjdffafibonhaaGreatDoorHvL2
import Derived.Test.YtjjdffafibonhaaGreatDoorHvI
namespace Go.Proofs.YtjjdffafibonhaaGreatDoor
open Go.RowKit

def Nu (E : List Hv) : Prop := ∀ q ∈ E, q.num < 4611686018427387904
theorem Dr.nu' {l : List Hv} (h : Dr l) : Nu l := h.nu
theorem check_ne (l : List Hv) : checkH l ≠ 303 := by
  have : ∀ (l dn : List Hv), chkH dn l = 0 ∨ chkH dn l = 340 ∨ chkH dn l = 341 := by
    intro l
    induction l with
    | nil => intro dn; exact .inl rfl
    | cons a t ih =>
      intro dn
      obtain ⟨bad, he, _⟩ := chkH_bad dn a t
      rw [he]
      cases bad
      · rw [if_neg (by decide)]
        by_cases hl : (dn.any fun q => q.loc == a.loc) = true
        · rw [if_pos hl]; exact .inr (.inr rfl)
        · rw [if_neg hl]; exact ih _
      · rw [if_pos rfl]; exact .inr (.inl rfl)
  unfold checkH
  split
  · decide
  · rcases this l [] with h | h | h <;> rw [h] <;> decide
theorem setI_ne (E l : List Hv) : setI E l ≠ 303 := by
  unfold setI
  split
  · decide
  · split
    · decide
    · split <;> decide
theorem dropI_ne (E : List Hv) (ps : List ByteArray) : dropI E ps ≠ 303 := by
  unfold dropI
  split <;> decide
theorem HvOk.sm {E : List Hv} (h : HvOk E) : Sm E := fun q hq => by
  have := okH_size (h.ok q hq); omega
theorem Nu.set {E l : List Hv} (h : Nu E) (hs : Srt E) (hl : Nu l) : Nu (setE E l) := by
  unfold setE
  split
  · intro q hq
    rcases putAll_sub hs q hq with hq | hq
    · exact h q hq
    · exact hl q hq
  · exact h
theorem Nu.drop {E : List Hv} (h : Nu E) (ps : List ByteArray) : Nu (drpE E ps) := by
  unfold drpE
  split
  · exact fun q hq => h q (List.mem_filter.1 hq).1
  · exact h
theorem drp_len (E : List Hv) (ps : List ByteArray) : (drpE E ps).length ≤ E.length := by
  unfold drpE
  split
  · exact List.length_filter_le _ _
  · exact Nat.le_refl _
theorem set_len (E l : List Hv) : (setE E l).length ≤ E.length + l.length := by
  unfold setE
  split
  · exact putAll_len l E
  · omega
theorem HvG.ok {F : Int} {g : Gh} {x : World} {b d n : Nat} {name : ByteArray} {E : List Hv} (h : HvG F g x b d name n E) : HvOk E ∧ Nu E := by
  obtain ⟨k, D, o0, o1, hk, h⟩ := h
  exact ⟨h.hv.ok, h.nu⟩

/-- What change answers: what the list says, what is right, and the right code; the list stands or is dead. -/
def ChaP (F : Int) (t o b d m n : Nat) (name : ByteArray) (g : Gh) (w : World) (E : List Hv) (e : Ending) (w' : World) : Prop :=
  ∃ j i E' A' c' g', e = .returned (.tuple #[.int .i64 j, .slice A' E'.length c', .int .i64 i]) ∧ i ≠ 303 ∧ Ext (fun x => x = t ∨ x = o ∨ x = d ∨ x = b ∨ w.heap.size ≤ x) g w g' w' ∧ TapeAt g' w' t (m + 100) ∧ Sl g' w' A' c' E' ∧ (Nu E' ∧ E'.length ≤ 2000) ∧
    ((j = i ∧ ∃ F', 0 ≤ F' ∧ (F = 0 → F' = 0) ∧ HvG F' g' w' b d name (n + 1) E') ∨ (j = 303 ∧ F ≠ 0 ∧ HvX g' w' b d name (n + 1) E (fun L => L = E ∨ L = E')))

set_option maxRecDepth 100000 in
set_option maxHeartbeats 6400000 in
theorem change_law (wrong : Bool) (hok : EntOk wrong) (F : Int) (t o b d m n : Nat) (name : ByteArray) (g : Gh) (w : World) (E : List Hv) (A : Option Addr) (c : Nat) (hv : HvG F g w b d name n E) (hn : n ≤ 250) (ht : TapeAt g w t m) (hm : m ≤ 700000) (hA : Sl g w A c E) (hg : GK g w) (ho : o < w.heap.size) (hto : t ≠ o) (htb : t ≠ b) (htd : t ≠ d) (hob : o ≠ b) (hod : o ≠ d) (hg1 : 0 < t) (hg2 : 0 < o) (_hg3 : 0 < b) (_hg4 : 0 < d) :
    Calls Tryz.prog 27 #[.pointer (some ⟨t, 0, none⟩), .pointer (some ⟨b, 0, none⟩), .slice A E.length c, .bool wrong] w (ChaP F t o b d m n name g w E) := by
  have HV0 := Lib.hid hv
  have HT0 := Lib.hid ht
  have HA0 := Lib.hid hA
  have HG0 := Lib.hid hg
  have HOK := Lib.hid hok
  have HEK := Lib.hid hv.ok.1
  have HNU := Lib.hid hv.ok.2
  have hel := hv.ok.1.len
  obtain ⟨hvb, hvd, _⟩ := hv.lt
  clear hv ht hA hg hok
  go_enter Tryz.func27, Tryz.ntmps27
  go_wp2_with fail
  refine (next_any t m g w HT0.out (by omega) 4 (by omega)).mono ?_
  rintro e w1 ⟨v, rfl, hv0, hv1, hx1, ht1⟩
  have HX1 : Hid (Ext (fun x => x = t ∨ x = o ∨ x = d ∨ x = b ∨ w.heap.size ≤ x) g w g w1) := hx1.imp (fun _ h => .inl h)
  have HV1 := Lib.hid (HV0.out.ext hx1 (fun e => htb e.symm) (fun e => htd e.symm))
  have HA1 := Lib.hid (HA0.out.ext hx1)
  have HG1 := Lib.hid (HG0.out.ext hx1 (by omega))
  have HT1 := Lib.hid ht1
  have hw1 := hx1.size
  clear hx1 ht1 HV0 HT0 HA0 HG0
  by_cases hv2 : v = 0
  · subst hv2
    clear hv0 hv1
    go_wp2_with fail
    refine (paths_any t o _ g w1 HT1.out (by omega) hto).mono ?_
    rintro e w2 ⟨ps, B, cb, g2, rfl, hpl, hx2, hr2, ht2⟩
    have HX2 := Lib.hid (HX1.out.trans (hx2.imp (fun x h => by omega)))
    have HV2 := Lib.hid (HV1.out.ext hx2 (by omega) (by omega))
    have HA2 := Lib.hid (HA1.out.ext hx2)
    have HR2 := Lib.hid hr2
    have HT2 := Lib.hid ht2
    have hw2 := hx2.size
    clear hx2 hr2 ht2 HX1 HV1 HA1 HG1 HT1
    go_wp2_with fail
    refine (rdrop_any g2 w2 A c E HA2.out (by omega) B cb ps HR2.out (by omega) o (by omega)).mono ?_
    rintro e w3 ⟨A3, c3, g3, rfl, hx3, hs3⟩
    have HX3 := Lib.hid (HX2.out.trans (hx3.imp (fun x h => .inr (.inl h))))
    have HV3 := Lib.hid (HV2.out.ext hx3 (by omega) (by omega))
    have HR3 := Lib.hid (HR2.out.ext hx3)
    have HS3 := Lib.hid hs3
    have HT3 := Lib.hid (HT2.out.ext hx3 hto)
    have hw3 := hx3.size
    clear hx3 hs3 HX2 HV2 HA2 HR2 HT2
    go_wp2_with fail
    refine (fdrop HV3.out hn B cb ps HR3.out (by omega)).mono ?_
    rintro e w9 ⟨j, g9, rfl, hx9, hor⟩
    have HOR := Lib.hid hor
    clear hor
    have HX9 := Lib.hid (HX3.out.trans (hx9.imp (fun x h => by omega)))
    have HT9 := Lib.hid (HT3.out.ext hx9 (by have := HT3.out.lt; omega))
    have HS9 := Lib.hid (HS3.out.ext hx9)
    clear hx9
    go_wp2_with fail
    go_ret3
    exact ⟨j, _, _, A3, c3, g9, rfl, dropI_ne E ps, HX9.out, HT9.out.more (by omega), HS9.out, ⟨HNU.out.drop ps, by have := drp_len E ps; omega⟩, HOR.out⟩
  by_cases hv3 : v = 1
  · subst hv3
    clear hv0 hv1 hv2
    go_wp2_with fail
    refine (entries_any wrong HOK.out t o _ g w1 HT1.out (by omega) hto).mono ?_
    rintro e w2 ⟨l0, B, cb, g2, rfl, hl0, hdr, hx2, ha2, ht2⟩
    have HX2 := Lib.hid (HX1.out.trans (hx2.imp (fun x h => by omega)))
    have HV2 := Lib.hid (HV1.out.ext hx2 (by omega) (by omega))
    have HA2 := Lib.hid (HA1.out.ext hx2)
    have HG2 := Lib.hid (HG1.out.ext hx2 (by omega))
    have HS2 := Lib.hid ha2.sl.2
    have HT2 := Lib.hid ht2
    have HDR := Lib.hid hdr
    have hw2 := hx2.size
    clear hx2 ha2 ht2 hdr HX1 HV1 HA1 HG1 HT1
    go_wp2_with fail
    refine (sorted_any g2 w2 B cb l0 HS2.out HDR.out.sm (by omega) HG2.out o (by omega) (by omega)).mono ?_
    rintro e w3 ⟨l, A3, c3, g3, rfl, hl, hin, hx3, ha3⟩
    have HX3 := Lib.hid (HX2.out.trans (hx3.imp (fun x h => .inr (.inl h))))
    have HV3 := Lib.hid (HV2.out.ext hx3 (by omega) (by omega))
    have HA3 := Lib.hid (HA2.out.ext hx3)
    have HG3 := Lib.hid (HG2.out.ext hx3 (by omega))
    have HT3 := Lib.hid (HT2.out.ext hx3 hto)
    have HD3 : Hid (Dr l) := fun q hq => HDR.out q (hin q hq)
    have HAP3 := Lib.hid ha3
    have HS3 := Lib.hid ha3.sl.2
    have hw3 := hx3.size
    clear hx3 hin ha3 HX2 HV2 HA2 HG2 HT2 HS2 HDR
    cases wrong
    · clear HAP3
      have HCK := Lib.hid (rcheck_any g3 w3 A3 c3 l HS3.out.rd (HD3.out.sm) (HG3.out.1) (by omega))
      have HRP := Lib.hid (fun (y : World) (hy : Below w3.heap.size w3 y) => freplace (HV3.out.ext (Ext.of_below (fun _ => False) g3 hy) (fun h => h) (fun h => h)) hn A3 c3 l (HS3.out.rd.ext (Ext.of_below (fun _ => False) g3 hy)) (by omega) (HD3.out.nu))
      obtain ⟨ck, hck⟩ : ∃ ck, checkH l = ck := ⟨_, rfl⟩
      have hne : ck ≠ 303 := by rw [← hck]; exact check_ne l
      rw [hck] at HCK HRP
      have HCKE := Lib.hid hck
      have HNE := Lib.hid hne
      clear hck hne
      go_wp2_with fail
      refine HCK.out.mono ?_
      rintro e w8 ⟨rfl, hb8⟩
      have HB8 := Lib.hid hb8
      have HR8 := Lib.hid (HRP.out w8 hb8)
      clear hb8 HCK HRP
      by_cases hz : ck = 0
      · subst hz
        have HRE : Hid (repE E l = l) := if_pos HCKE.out
        rw [HRE.out] at HR8
        go_wp2_with fail
        refine HR8.out.mono ?_
        rintro e w9 ⟨j, g9, rfl, hx9, hor⟩
        have HOR := Lib.hid hor
        clear hor
        have hx89 : Ext (fun x => x = d ∨ x = b ∨ w.heap.size ≤ x) g3 w3 g9 w9 := (Ext.of_below _ g3 HB8.out).trans (hx9.imp (fun x h => by have := HX3.out.size; have := HB8.out.size; omega))
        have HX9 := Lib.hid (HX3.out.trans (hx89.imp (fun x h => by omega)))
        have HT9 := Lib.hid ((HT3.out.ext (Ext.of_below (fun _ => False) g3 HB8.out) (fun h => h)).ext hx9 (by have := HT3.out.lt; have := HB8.out.size; omega))
        have HS9 := Lib.hid (HS3.out.ext hx89)
        clear hx9 hx89 HR8
        go_wp2_with fail
        go_ret3
        exact ⟨j, 0, l, A3, c3, g9, rfl, by decide, HX9.out, HT9.out.more (by omega), HS9.out, ⟨HD3.out.nu', by first | omega | simp⟩, HOR.out⟩
      · have hz2 : (ck == 0) = false := by simpa using hz
        have HRE : Hid (repE E l = E) := if_neg (by rw [HCKE.out]; exact hz)
        rw [HRE.out] at HR8
        go_wp2_with fail
        refine HR8.out.mono ?_
        rintro e w9 ⟨j, g9, rfl, hx9, hor⟩
        have HOR := Lib.hid hor
        clear hor
        have hx89 : Ext (fun x => x = d ∨ x = b ∨ w.heap.size ≤ x) g3 w3 g9 w9 := (Ext.of_below _ g3 HB8.out).trans (hx9.imp (fun x h => by have := HX3.out.size; have := HB8.out.size; omega))
        have HX9 := Lib.hid (HX3.out.trans (hx89.imp (fun x h => by omega)))
        have HT9 := Lib.hid ((HT3.out.ext (Ext.of_below (fun _ => False) g3 HB8.out) (fun h => h)).ext hx9 (by have := HT3.out.lt; have := HB8.out.size; omega))
        have HS9 := Lib.hid (HA3.out.ext hx89)
        clear hx9 hx89 HR8
        go_wp2_with fail
        go_ret3
        exact ⟨j, ck, E, A, c, g9, rfl, HNE.out, HX9.out, HT9.out.more (by omega), HS9.out, ⟨HNU.out, by omega⟩, HOR.out⟩
    · go_wp2_with fail
      refine (next_any t _ g3 w3 HT3.out (by omega) 6 (by omega)).mono ?_
      rintro e w4 ⟨u, rfl, hu0, hu1, hx4, ht4⟩
      have HX4 := Lib.hid (HX3.out.trans (hx4.imp (fun x h => .inl h)))
      have HV4 := Lib.hid (HV3.out.ext hx4 (fun e => htb e.symm) (fun e => htd e.symm))
      have HA4 := Lib.hid (HA3.out.ext hx4)
      have HG4 := Lib.hid (HG3.out.ext hx4 (by omega))
      have HT4 := Lib.hid ht4
      have HAP4 := Lib.hid (HAP3.out.ext hx4 (fun e => hto e.symm))
      have HS4 := Lib.hid (HS3.out.ext hx4)
      have hw4 := hx4.size
      clear hx4 ht4 HX3 HV3 HA3 HG3 HT3 HAP3 HS3
      by_cases hu : u = 0
      · subst hu
        by_cases hlen : l.length = 0
        · obtain rfl : l = [] := List.eq_nil_of_length_eq_zero hlen
          clear HAP4 hlen
          have HCK := Lib.hid (rcheck_any g3 w4 A3 c3 ([] : List Hv) HS4.out.rd (HD3.out.sm) (HG4.out.1) (by omega))
          have HRP := Lib.hid (fun (y : World) (hy : Below w4.heap.size w4 y) => freplace (HV4.out.ext (Ext.of_below (fun _ => False) g3 hy) (fun h => h) (fun h => h)) hn A3 c3 ([] : List Hv) (HS4.out.rd.ext (Ext.of_below (fun _ => False) g3 hy)) (by omega) (HD3.out.nu))
          obtain ⟨ck, hck⟩ : ∃ ck, checkH ([] : List Hv) = ck := ⟨_, rfl⟩
          have hne : ck ≠ 303 := by rw [← hck]; exact check_ne ([] : List Hv)
          rw [hck] at HCK HRP
          have HCKE := Lib.hid hck
          have HNE := Lib.hid hne
          clear hck hne
          go_wp2_with fail
          refine HCK.out.mono ?_
          rintro e w8 ⟨rfl, hb8⟩
          have HB8 := Lib.hid hb8
          have HR8 := Lib.hid (HRP.out w8 hb8)
          clear hb8 HCK HRP
          by_cases hz : ck = 0
          · subst hz
            have HRE : Hid (repE E ([] : List Hv) = ([] : List Hv)) := if_pos HCKE.out
            rw [HRE.out] at HR8
            go_wp2_with fail
            refine HR8.out.mono ?_
            rintro e w9 ⟨j, g9, rfl, hx9, hor⟩
            have HOR := Lib.hid hor
            clear hor
            have hx89 : Ext (fun x => x = d ∨ x = b ∨ w.heap.size ≤ x) g3 w4 g9 w9 := (Ext.of_below _ g3 HB8.out).trans (hx9.imp (fun x h => by have := HX4.out.size; have := HB8.out.size; omega))
            have HX9 := Lib.hid (HX4.out.trans (hx89.imp (fun x h => by omega)))
            have HT9 := Lib.hid ((HT4.out.ext (Ext.of_below (fun _ => False) g3 HB8.out) (fun h => h)).ext hx9 (by have := HT4.out.lt; have := HB8.out.size; omega))
            have HS9 := Lib.hid (HS4.out.ext hx89)
            clear hx9 hx89 HR8
            go_wp2_with fail
            go_ret3
            exact ⟨j, 0, ([] : List Hv), A3, c3, g9, rfl, by decide, HX9.out, HT9.out.more (by omega), HS9.out, ⟨HD3.out.nu', by first | omega | simp⟩, HOR.out⟩
          · have hz2 : (ck == 0) = false := by simpa using hz
            have HRE : Hid (repE E ([] : List Hv) = E) := if_neg (by rw [HCKE.out]; exact hz)
            rw [HRE.out] at HR8
            go_wp2_with fail
            refine HR8.out.mono ?_
            rintro e w9 ⟨j, g9, rfl, hx9, hor⟩
            have HOR := Lib.hid hor
            clear hor
            have hx89 : Ext (fun x => x = d ∨ x = b ∨ w.heap.size ≤ x) g3 w4 g9 w9 := (Ext.of_below _ g3 HB8.out).trans (hx9.imp (fun x h => by have := HX4.out.size; have := HB8.out.size; omega))
            have HX9 := Lib.hid (HX4.out.trans (hx89.imp (fun x h => by omega)))
            have HT9 := Lib.hid ((HT4.out.ext (Ext.of_below (fun _ => False) g3 HB8.out) (fun h => h)).ext hx9 (by have := HT4.out.lt; have := HB8.out.size; omega))
            have HS9 := Lib.hid (HA4.out.ext hx89)
            clear hx9 hx89 HR8
            go_wp2_with fail
            go_ret3
            exact ⟨j, ck, E, A, c, g9, rfl, HNE.out, HX9.out, HT9.out.more (by omega), HS9.out, ⟨HNU.out, by omega⟩, HOR.out⟩
        · have hlen' : (0 : Int) < (l.length : Int) := by omega
          go_wp2_with fail
          refine (next_any t _ g3 w4 HT4.out (by omega) l.length (by omega)).mono ?_
          rintro e w5 ⟨q, rfl, hq0, hq1, hx5, ht5⟩
          obtain ⟨k, rfl⟩ : ∃ k : Nat, q = (k : Int) := ⟨q.toNat, by omega⟩
          have hk : k < l.length := by omega
          have hk' : (k : Int) < (l.length : Int) := by omega
          have HX5 := Lib.hid (HX4.out.trans (hx5.imp (fun x h => .inl h)))
          have HV5 := Lib.hid (HV4.out.ext hx5 (fun e => htb e.symm) (fun e => htd e.symm))
          have HA5 := Lib.hid (HA4.out.ext hx5)
          have HG5 := Lib.hid (HG4.out.ext hx5 (by omega))
          have HT5 := Lib.hid ht5
          have HAP5 := Lib.hid (HAP4.out.ext hx5 (fun e => hto e.symm))
          have hs5 := HS4.out.ext hx5
          have hw5 := hx5.size
          have hgk := List.getElem?_eq_getElem hk
          have hm := List.getElem_mem hk
          generalize l[k] = r at *
          obtain ⟨p, nn, lo⟩ := r
          obtain ⟨a, off, hA3, hax, c0, c1, c2⟩ := hs5.cells hgk
          subst hA3
          have hdr := HD3.out _ hm
          dsimp only at hdr
          have HD5 := Lib.hid (HD3.out.snoc (q := ⟨p, nn, lo⟩) hdr.1 hdr.2.1 hdr.2.2.1 hdr.2.2.2)
          have hal : Ext (fun _ => False) g3 w5 g3 (w5.alloc (.cells #[.string p, .int .i64 nn, .string lo] 32)) := (Ext.refl _ _ _).alloc _
          have HAP6 := Lib.hid (HAP5.out.ext hal (fun h => h))
          have HS6 := Lib.hid (src_hv1 w5 p nn lo)
          have HCE : Hid (celH (l ++ [⟨p, nn, lo⟩]) = celH l ++ celH [⟨p, nn, lo⟩]) := celH_append _ _
          have HAL := Lib.hid hal
          obtain ⟨i0, hi0, hz0, hz1, hz2⟩ := info_parts Tryz.infoHave
          clear hx5 ht5 hs5 hgk hm hdr HX4 HV4 HA4 HG4 HT4 HAP4 HS4 HAP5 hq0 hq1
          have HM : Hid (∀ x, x = o → x = t ∨ x = o ∨ x = d ∨ x = b ∨ w.heap.size ≤ x) := fun x h => .inr (.inl h)
          clear hal
          go_wp2_with (at_builtin; refine wpList_append_app rfl _ _ _ _ rfl 32 i0 (.agg #[.string ⟨#[]⟩, .int .i64 0, .string ⟨#[]⟩]) 3 40 Tryz.underlying29 hi0 hz0 hz1 hz2 rfl (by decide) rfl HAP6.out rfl HS6.out (by unfold maxLen; omega) (by omega) ?_; intro A6 c6 w6 g6 hx6 ha6 _; rw [← HCE.out] at ha6; have HXA : Hid (Ext (· = o) g3 w5 g6 w6) := (HAL.out.imp (fun _ h => h.elim)).trans hx6; have HAP7 := Lib.hid ha6; clear hx6 ha6)
          have hl6 : (l ++ [(⟨p, nn, lo⟩ : Hv)]).length ≤ 10 := by rw [List.length_append]; simp; omega
          have HL6 : Hid (l.length + 1 = (l ++ [(⟨p, nn, lo⟩ : Hv)]).length) := by show _ = _; rw [List.length_append]; rfl
          rw [HL6.out] at HAP7 ⊢
          have HX6 := Lib.hid (HX5.out.trans (HXA.out.imp HM.out))
          have HV6 := Lib.hid (HV5.out.ext HXA.out (by omega) (by omega))
          have HA6 := Lib.hid (HA5.out.ext HXA.out)
          have HG6 := Lib.hid (HG5.out.ext HXA.out (by omega))
          have HT6 := Lib.hid (HT5.out.ext HXA.out hto)
          have HS7 := Lib.hid HAP7.out.sl.2
          have hw6 := HXA.out.size
          obtain ⟨l6, hl6e⟩ : ∃ l6, l ++ [(⟨p, nn, lo⟩ : Hv)] = l6 := ⟨_, rfl⟩
          rw [hl6e] at HD5 HS7 HAP7 hl6 ⊢
          clear HL6 HXA HAP6 HS6 HAL HX5 HV5 HA5 HG5 HT5 HCE hl6e HAP7
          have HCK := Lib.hid (rcheck_any g6 w6 A6 c6 l6 HS7.out.rd (HD5.out.sm) (HG6.out.1) (by omega))
          have HRP := Lib.hid (fun (y : World) (hy : Below w6.heap.size w6 y) => freplace (HV6.out.ext (Ext.of_below (fun _ => False) g6 hy) (fun h => h) (fun h => h)) hn A6 c6 l6 (HS7.out.rd.ext (Ext.of_below (fun _ => False) g6 hy)) (by omega) (HD5.out.nu))
          obtain ⟨ck, hck⟩ : ∃ ck, checkH l6 = ck := ⟨_, rfl⟩
          have hne : ck ≠ 303 := by rw [← hck]; exact check_ne l6
          rw [hck] at HCK HRP
          have HCKE := Lib.hid hck
          have HNE := Lib.hid hne
          clear hck hne
          go_wp2_with fail
          refine HCK.out.mono ?_
          rintro e w8 ⟨rfl, hb8⟩
          have HB8 := Lib.hid hb8
          have HR8 := Lib.hid (HRP.out w8 hb8)
          clear hb8 HCK HRP
          by_cases hz : ck = 0
          · subst hz
            have HRE : Hid (repE E l6 = l6) := if_pos HCKE.out
            rw [HRE.out] at HR8
            go_wp2_with fail
            refine HR8.out.mono ?_
            rintro e w9 ⟨j, g9, rfl, hx9, hor⟩
            have HOR := Lib.hid hor
            clear hor
            have hx89 : Ext (fun x => x = d ∨ x = b ∨ w.heap.size ≤ x) g6 w6 g9 w9 := (Ext.of_below _ g6 HB8.out).trans (hx9.imp (fun x h => by have := HX6.out.size; have := HB8.out.size; omega))
            have HX9 := Lib.hid (HX6.out.trans (hx89.imp (fun x h => by omega)))
            have HT9 := Lib.hid ((HT6.out.ext (Ext.of_below (fun _ => False) g6 HB8.out) (fun h => h)).ext hx9 (by have := HT6.out.lt; have := HB8.out.size; omega))
            have HS9 := Lib.hid (HS7.out.ext hx89)
            clear hx9 hx89 HR8
            go_wp2_with fail
            go_ret3
            exact ⟨j, 0, l6, A6, c6, g9, rfl, by decide, HX9.out, HT9.out.more (by omega), HS9.out, ⟨HD5.out.nu', by first | omega | simp⟩, HOR.out⟩
          · have hz2 : (ck == 0) = false := by simpa using hz
            have HRE : Hid (repE E l6 = E) := if_neg (by rw [HCKE.out]; exact hz)
            rw [HRE.out] at HR8
            go_wp2_with fail
            refine HR8.out.mono ?_
            rintro e w9 ⟨j, g9, rfl, hx9, hor⟩
            have HOR := Lib.hid hor
            clear hor
            have hx89 : Ext (fun x => x = d ∨ x = b ∨ w.heap.size ≤ x) g6 w6 g9 w9 := (Ext.of_below _ g6 HB8.out).trans (hx9.imp (fun x h => by have := HX6.out.size; have := HB8.out.size; omega))
            have HX9 := Lib.hid (HX6.out.trans (hx89.imp (fun x h => by omega)))
            have HT9 := Lib.hid ((HT6.out.ext (Ext.of_below (fun _ => False) g6 HB8.out) (fun h => h)).ext hx9 (by have := HT6.out.lt; have := HB8.out.size; omega))
            have HS9 := Lib.hid (HA6.out.ext hx89)
            clear hx9 hx89 HR8
            go_wp2_with fail
            go_ret3
            exact ⟨j, ck, E, A, c, g9, rfl, HNE.out, HX9.out, HT9.out.more (by omega), HS9.out, ⟨HNU.out, by omega⟩, HOR.out⟩
      · have hu' : (u == 0) = false := by simpa using hu
        clear HAP4
        have HCK := Lib.hid (rcheck_any g3 w4 A3 c3 l HS4.out.rd (HD3.out.sm) (HG4.out.1) (by omega))
        have HRP := Lib.hid (fun (y : World) (hy : Below w4.heap.size w4 y) => freplace (HV4.out.ext (Ext.of_below (fun _ => False) g3 hy) (fun h => h) (fun h => h)) hn A3 c3 l (HS4.out.rd.ext (Ext.of_below (fun _ => False) g3 hy)) (by omega) (HD3.out.nu))
        obtain ⟨ck, hck⟩ : ∃ ck, checkH l = ck := ⟨_, rfl⟩
        have hne : ck ≠ 303 := by rw [← hck]; exact check_ne l
        rw [hck] at HCK HRP
        have HCKE := Lib.hid hck
        have HNE := Lib.hid hne
        clear hck hne
        go_wp2_with fail
        refine HCK.out.mono ?_
        rintro e w8 ⟨rfl, hb8⟩
        have HB8 := Lib.hid hb8
        have HR8 := Lib.hid (HRP.out w8 hb8)
        clear hb8 HCK HRP
        by_cases hz : ck = 0
        · subst hz
          have HRE : Hid (repE E l = l) := if_pos HCKE.out
          rw [HRE.out] at HR8
          go_wp2_with fail
          refine HR8.out.mono ?_
          rintro e w9 ⟨j, g9, rfl, hx9, hor⟩
          have HOR := Lib.hid hor
          clear hor
          have hx89 : Ext (fun x => x = d ∨ x = b ∨ w.heap.size ≤ x) g3 w4 g9 w9 := (Ext.of_below _ g3 HB8.out).trans (hx9.imp (fun x h => by have := HX4.out.size; have := HB8.out.size; omega))
          have HX9 := Lib.hid (HX4.out.trans (hx89.imp (fun x h => by omega)))
          have HT9 := Lib.hid ((HT4.out.ext (Ext.of_below (fun _ => False) g3 HB8.out) (fun h => h)).ext hx9 (by have := HT4.out.lt; have := HB8.out.size; omega))
          have HS9 := Lib.hid (HS4.out.ext hx89)
          clear hx9 hx89 HR8
          go_wp2_with fail
          go_ret3
          exact ⟨j, 0, l, A3, c3, g9, rfl, by decide, HX9.out, HT9.out.more (by omega), HS9.out, ⟨HD3.out.nu', by first | omega | simp⟩, HOR.out⟩
        · have hz2 : (ck == 0) = false := by simpa using hz
          have HRE : Hid (repE E l = E) := if_neg (by rw [HCKE.out]; exact hz)
          rw [HRE.out] at HR8
          go_wp2_with fail
          refine HR8.out.mono ?_
          rintro e w9 ⟨j, g9, rfl, hx9, hor⟩
          have HOR := Lib.hid hor
          clear hor
          have hx89 : Ext (fun x => x = d ∨ x = b ∨ w.heap.size ≤ x) g3 w4 g9 w9 := (Ext.of_below _ g3 HB8.out).trans (hx9.imp (fun x h => by have := HX4.out.size; have := HB8.out.size; omega))
          have HX9 := Lib.hid (HX4.out.trans (hx89.imp (fun x h => by omega)))
          have HT9 := Lib.hid ((HT4.out.ext (Ext.of_below (fun _ => False) g3 HB8.out) (fun h => h)).ext hx9 (by have := HT4.out.lt; have := HB8.out.size; omega))
          have HS9 := Lib.hid (HA4.out.ext hx89)
          clear hx9 hx89 HR8
          go_wp2_with fail
          go_ret3
          exact ⟨j, ck, E, A, c, g9, rfl, HNE.out, HX9.out, HT9.out.more (by omega), HS9.out, ⟨HNU.out, by omega⟩, HOR.out⟩
  · have hv4 : (v == 0) = false := by simpa using hv2
    have hv5 : (v == 1) = false := by simpa using hv3
    go_wp2_with fail
    refine (entries_any wrong HOK.out t o _ g w1 HT1.out (by omega) hto).mono ?_
    rintro e w2 ⟨l, B, cb, g2, rfl, hl0, hdr, hx2, ha2, ht2⟩
    have HX2 := Lib.hid (HX1.out.trans (hx2.imp (fun x h => by omega)))
    have HV2 := Lib.hid (HV1.out.ext hx2 (by omega) (by omega))
    have HA2 := Lib.hid (HA1.out.ext hx2)
    have HG2 := Lib.hid (HG1.out.ext hx2 (by omega))
    have HS2 := Lib.hid ha2.sl.2
    have HT2 := Lib.hid ht2
    have HDR := Lib.hid hdr
    have hw2 := hx2.size
    clear hx2 ha2 ht2 hdr HX1 HV1 HA1 HG1 HT1
    go_wp2_with fail
    refine (rset_any g2 w2 A c E HA2.out HEK.out.sm (by omega) B cb l HS2.out HDR.out.sm (by omega) HG2.out o (by omega) (by omega)).mono ?_
    rintro e w3 ⟨A3, c3, g3, rfl, hx3, hs3⟩
    have HX3 := Lib.hid (HX2.out.trans (hx3.imp (fun x h => .inr (.inl h))))
    have HV3 := Lib.hid (HV2.out.ext hx3 (by omega) (by omega))
    have HSB := Lib.hid (HS2.out.ext hx3)
    have HS3 := Lib.hid hs3
    have HT3 := Lib.hid (HT2.out.ext hx3 hto)
    have hw3 := hx3.size
    clear hx3 hs3 HX2 HV2 HA2 HT2 HS2 HG2
    go_wp2_with fail
    refine (fset HV3.out hn B cb l HSB.out.rd (by omega) HDR.out.nu).mono ?_
    rintro e w9 ⟨j, g9, rfl, hx9, hor⟩
    have HOR := Lib.hid hor
    clear hor
    have HX9 := Lib.hid (HX3.out.trans (hx9.imp (fun x h => by omega)))
    have HT9 := Lib.hid (HT3.out.ext hx9 (by have := HT3.out.lt; omega))
    have HS9 := Lib.hid (HS3.out.ext hx9)
    clear hx9
    go_wp2_with fail
    go_ret3
    exact ⟨j, _, _, A3, c3, g9, rfl, setI_ne E l, HX9.out, HT9.out.more (by omega), HS9.out, ⟨HNU.out.set HEK.out.srt HDR.out.nu, by have := set_len E l; omega⟩, HOR.out⟩

end Go.Proofs.YtjjdffafibonhaaGreatDoor
