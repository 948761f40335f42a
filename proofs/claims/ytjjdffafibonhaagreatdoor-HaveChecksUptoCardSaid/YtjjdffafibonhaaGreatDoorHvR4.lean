/-
  The reference of have-lists: Set and Drop.
-/
import Derived.Test.YtjjdffafibonhaaGreatDoorHvR3
namespace Go.Proofs.YtjjdffafibonhaaGreatDoor
open Go.RowKit

def GK (g : Gh) (w : World) : Prop := G0 w ∧ g.O 0 = 0 ∧ 0 < w.heap.size
theorem GK.ext {g g' : Gh} {w w' : World} {M : Nat → Prop} (h : GK g w) (hx : Ext M g w g' w') (hm : ¬ M 0) : GK g' w' := by
  obtain ⟨⟨m, hc⟩, h2, h3⟩ := h
  refine ⟨⟨m, ?_⟩, (hx.own _ h3).trans h2, Nat.lt_of_lt_of_le h3 hx.size⟩
  have hk := (hx.keep _ h3 (by rw [h2]; exact hm)).1
  unfold World.cell? at hc ⊢
  dsimp only at hc ⊢
  rw [hk]
  exact hc
theorem GK.below {g : Gh} {w w' : World} (h : GK g w) (hb : Below w.heap.size w w') : GK g w' := h.ext (M := fun _ => False) (Ext.of_below _ g hb) (fun h => h)

/-- A list and a code are returned. -/
def SetP (o : Nat) (g : Gh) (w : World) (R : List Hv) (i : Int) (e : Ending) (w' : World) : Prop := ∃ A' c' g', e = .returned (.tuple #[.slice A' R.length c', .int .i64 i]) ∧ Ext (· = o) g w g' w' ∧ Sl g' w' A' c' R
def FormAt (l : List Hv) (k : Nat) : Prop := formB l = formF (l.take k) (l.drop k)
def NoP (l : List Hv) (q : Nat) (p : ByteArray) : Prop := ∀ j r, j < q → l[j]? = some r → r.path ≠ p
def NoL (l : List Hv) (q : Nat) (p : ByteArray) : Prop := ∀ j r, j < q → l[j]? = some r → r.loc ≠ p
theorem NoP.next {l : List Hv} {q : Nat} {p : ByteArray} {h : Hv} (hn : NoP l q p) (hg : l[q]? = some h) (e : h.path ≠ p) : NoP l (q + 1) p := fun j r hj hr => by
  rcases Nat.lt_succ_iff_lt_or_eq.1 hj with hj | rfl
  · exact hn j r hj hr
  · rw [hg] at hr; cases hr; exact e
theorem NoL.next {l : List Hv} {q : Nat} {p : ByteArray} {h : Hv} (hn : NoL l q p) (hg : l[q]? = some h) (e : h.loc ≠ p) : NoL l (q + 1) p := fun j r hj hr => by
  rcases Nat.lt_succ_iff_lt_or_eq.1 hj with hj | rfl
  · exact hn j r hj hr
  · rw [hg] at hr; cases hr; exact e
theorem LocTo.next {l : List Hv} {k : Nat} {h : Hv} (hl : LocTo l k) (hg : l[k]? = some h) (hn : NoL l k h.loc) : LocTo l (k + 1) := fun i j a b hi hj ha hb => by
  rcases Nat.lt_succ_iff_lt_or_eq.1 hi with hi | rfl
  · exact hl i j a b hi hj ha hb
  · rw [hg] at ha; cases ha; exact hn j b hj hb
theorem set_bad {E l : List Hv} (h : formB l = false) : setI E l = 340 ∧ setE E l = E := by
  have : setI E l = 340 := by unfold setI; rw [if_pos h]
  exact ⟨this, by rw [setE, this, if_neg (by decide)]⟩
theorem set_taken {E l : List Hv} (h : formB l = true) (h2 : ¬ ((putAll E l).map (·.loc)).Nodup) : setI E l = 341 ∧ setE E l = E := by
  have : setI E l = 341 := by unfold setI; rw [if_neg (by rw [h]; decide), if_pos h2]
  exact ⟨this, by rw [setE, this, if_neg (by decide)]⟩
theorem set_full {E l : List Hv} (h : formB l = true) (h2 : ((putAll E l).map (·.loc)).Nodup) (h3 : 1024 < (putAll E l).length) : setI E l = 342 ∧ setE E l = E := by
  have : setI E l = 342 := by unfold setI; rw [if_neg (by rw [h]; decide), if_neg (fun k => k h2), if_pos h3]
  exact ⟨this, by rw [setE, this, if_neg (by decide)]⟩
theorem set_good {E l : List Hv} (h : formB l = true) (h2 : ((putAll E l).map (·.loc)).Nodup) (h3 : ¬ 1024 < (putAll E l).length) : setI E l = 0 ∧ setE E l = putAll E l := by
  have : setI E l = 0 := by unfold setI; rw [if_neg (by rw [h]; decide), if_neg (fun k => k h2), if_neg h3]
  exact ⟨this, by rw [setE, if_pos this]⟩
theorem Sm.put {E : List Hv} {h : Hv} (hs : Sm E) (hh : h.path.size < 4294967281 ∧ h.loc.size < 4294967281) : Sm (putH E h) := fun q hq => by
  rcases mem_put hq with rfl | hq
  · exact hh
  · exact hs q hq
theorem Sm.putAll {l : List Hv} : ∀ {E : List Hv}, Sm E → Sm l → Sm (putAll E l) := by
  induction l with
  | nil => intro E h _; exact h
  | cons a t ih => intro E h h2; exact ih (h.put (h2 a (List.mem_cons_self ..))) (fun q hq => h2 q (List.mem_cons_of_mem _ hq))
theorem ba_ne {a b : ByteArray} (h : a ≠ b) : (a.toList == b.toList) = false := by
  rw [beq_eq_false_iff_ne]
  exact fun e => h (ba_data (by rw [← toList_eq, ← toList_eq]; exact e))
theorem Sl.cells {g : Gh} {w : World} {A : Option Addr} {c : Nat} {E : List Hv} (h : Sl g w A c E) {k : Nat} {p : ByteArray} {n : Int} {lo : ByteArray} (hk : E[k]? = some ⟨p, n, lo⟩) :
    ∃ a off, A = some ⟨a, off, none⟩ ∧ a < w.heap.size ∧ w.cell? ⟨a, off + k * 3, none⟩ = some (.string p) ∧ w.cell? ⟨a, off + k * 3 + 1, none⟩ = some (.int .i64 n) ∧ w.cell? ⟨a, off + k * 3 + 2, none⟩ = some (.string lo) := by
  have hlt := (List.getElem?_eq_some_iff.1 hk).1
  obtain ⟨a, off, e, _, ha, hc⟩ := h.rd.at_ (by omega)
  have c0 := hc _ _ (celH_get E k 0 _ hk (by omega))
  have c1 := hc _ _ (celH_get E k 1 _ hk (by omega))
  have c2 := hc _ _ (celH_get E k 2 _ hk (by omega))
  simp only [Nat.add_zero, ← Nat.add_assoc] at c0 c1 c2
  exact ⟨a, off, e, ha, c0, c1, c2⟩

set_option maxRecDepth 100000 in
set_option maxHeartbeats 6400000 in
theorem rset_any (g : Gh) (w : World) (A : Option Addr) (c : Nat) (E : List Hv) (h : Sl g w A c E) (hs : Sm E) (hn : E.length ≤ 5000) (B : Option Addr) (d : Nat) (l : List Hv) (hl : Sl g w B d l) (hsl : Sm l) (hln : l.length ≤ 5000) (hg : GK g w) (o : Nat) (ho : o < w.heap.size) (ho0 : o ≠ 0) :
    Calls Tryz.prog 50 #[.slice A E.length c, .slice B l.length d] w (SetP o g w (setE E l) (setI E l)) := by
  have HA := Lib.hid h
  have HS := Lib.hid hs
  have HB := Lib.hid hl
  have HSL := Lib.hid hsl
  have HG := Lib.hid hg
  have HO0 := Lib.hid ho0
  obtain ⟨R, hR⟩ : ∃ R, putAll E l = R := ⟨_, rfl⟩
  have HR := Lib.hid hR
  have hRl : R.length ≤ 10000 := by rw [← hR]; have := putAll_len l E; omega
  obtain ⟨i0, hi0, hz0, hz1, hz2⟩ := info_parts Tryz.infoHave
  have HSR := Lib.hid (h.takeS (Nat.le_refl _))
  have HTK : Hid (celH (E.take E.length) = celH E) := by show _ = _; rw [List.take_length]
  clear h hs hl hsl hg ho0 hR
  go_enter Tryz.func50, Tryz.ntmps50
  go_wp2_with (at_builtin; refine wpList_append_app rfl _ _ _ _ rfl 32 i0 (.agg #[.string ⟨#[]⟩, .int .i64 0, .string ⟨#[]⟩]) 3 40 Tryz.underlying29 hi0 hz0 hz1 hz2 rfl (by decide) rfl (App.nil 32 3 o g w) rfl HSR.out (by unfold maxLen; omega) (by omega) ?_; intro A1 c1 w1 g1 hx1 ha1 _; simp only [Nat.zero_add, List.nil_append] at ha1; rw [Nat.zero_add]; rw [HTK.out] at ha1; have HX1 := Lib.hid hx1; have HA1 := Lib.hid ha1; have HAX := Lib.hid (HA.out.ext hx1); have HBX := Lib.hid (HB.out.ext hx1); have HG1 := Lib.hid (HG.out.ext hx1 (fun e => HO0.out e.symm)); clear hx1 ha1)
  have hs1 := HX1.out.size
  clear HTK HSR HA HB HG
  go_loopw [7] (fun i wr => ∃ k : Nat, i = .int .i64 k ∧ k ≤ l.length ∧ Below w1.heap.size w1 wr ∧ Hid (FormAt l k)) (fun i _ => l.length - (intOf i).toNat)
  case atStart => exact ⟨0, rfl, Nat.zero_le _, Below.refl _ _, rfl⟩
  case round =>
    obtain ⟨k, rfl, hk, hb, hf⟩ := hrel
    have HBE := Lib.hid hb
    have HF := Lib.hid hf.out
    clear hf
    by_cases hlt : k < l.length
    · have hlt' : (k : Int) < (l.length : Int) := by omega
      have hx := Ext.of_below (fun _ => False) g1 hb
      have hgk := List.getElem?_eq_getElem hlt
      have hm := List.getElem_mem hlt
      generalize l[k] = q at *
      obtain ⟨p, n, lo⟩ := q
      obtain ⟨a, off, rfl, hax, c0, c1, c2⟩ := (HBX.out.ext hx).cells hgk
      have hz := HSL.out _ hm
      have HV := Lib.hid (rvalid_any p lo n wr hz.1 hz.2 (HG1.out.below hb).1)
      have HGK := Lib.hid hgk
      obtain ⟨ok, hok⟩ : ∃ ok, okH ⟨p, n, lo⟩ = ok := ⟨_, rfl⟩
      rw [hok] at HV
      have HOK := Lib.hid hok
      have hbs := hb.size
      clear hx hgk hm hz hok hb
      go_wp2_with fail
      refine HV.out.mono ?_
      rintro e w2 ⟨rfl, hb2⟩
      have HB2 := Lib.hid (HBE.out.trans (hb2.mono hbs))
      have c0' := (hb2.cell (p := ⟨a, off + k * 3, none⟩) hax).trans c0
      have C0 := Lib.hid c0'
      have hb2s := hb2.size
      clear hb2 c0 c1 c2 c0' HV
      cases ok
      · have HSB := Lib.hid (set_bad (E := E) (form_bad1 HGK.out HF.out HOK.out))
        go_wp2_with fail
        go_ret2
        refine ⟨A, c, g1, by rw [HSB.out.1, HSB.out.2]; rfl, HX1.out.below HB2.out, ?_⟩
        rw [HSB.out.2]
        exact HAX.out.ext (Ext.of_below (fun _ => False) g1 HB2.out)
      · go_wp2_with fail
        have hw2a : a < w2.heap.size := by omega
        go_loopw [8] (fun i wx => ∃ q : Nat, i = .int .i64 q ∧ q ≤ k ∧ Below w2.heap.size w2 wx ∧ Hid (NoP l q p)) (fun i _ => k - (intOf i).toNat)
        case atStart => exact ⟨0, rfl, Nat.zero_le _, Below.refl _ _, fun j r hj => absurd hj (by omega)⟩
        case round =>
          obtain ⟨q, rfl, hq, hbx, hnp⟩ := hrel
          have HBW := Lib.hid hbx
          have HNP := Lib.hid hnp.out
          have HB3 := Lib.hid (HB2.out.trans (hbx.mono HB2.out.size))
          clear hnp
          by_cases hqk : q < k
          · have hqk' : (q : Int) < (k : Int) := by omega
            have c0 := (hbx.cell (p := ⟨a, off + k * 3, none⟩) hw2a).trans C0.out
            have hgq := List.getElem?_eq_getElem (show q < l.length by omega)
            generalize l[q] = r at *
            obtain ⟨rp, rn, rl⟩ := r
            obtain ⟨a', off', he, _, d0, _, _⟩ := (HBX.out.ext (Ext.of_below (fun _ => False) g1 HB3.out)).cells hgq
            injection he with he
            injection he with he1 he2
            subst he1 he2
            have HGQ := Lib.hid hgq
            clear hgq hbx
            by_cases hpp : rp = p
            · subst hpp
              have HSB := Lib.hid (set_bad (E := E) (form_bad2 HGK.out HGQ.out hqk HF.out rfl))
              go_wp2_with fail
              go_quiet (fail)
              go_wp2_with fail
              go_ret2
              refine ⟨A, c, g1, by rw [HSB.out.1, HSB.out.2]; rfl, HX1.out.below (HB3.out.trans (below_drewN (Below.refl _ _) _)), ?_⟩
              rw [HSB.out.2]
              exact HAX.out.ext (Ext.of_below (fun _ => False) g1 (HB3.out.trans (below_drewN (Below.refl _ _) _)))
            · have hne := ba_ne hpp
              have HNX := Lib.hid (HNP.out.next HGQ.out hpp)
              clear hpp
              go_wp2_with fail
              go_quiet (fail)
              go_wp2_with fail
              go_round
              case rel => exact ⟨q + 1, by go_num, by omega, HBW.out.trans (below_drewN (Below.refl _ _) _), HNX.out⟩
              case measure => simp [intOf]; omega
          · obtain rfl : q = k := by omega
            have HFX : Hid (FormAt l (q + 1)) := form_next HGK.out HF.out HOK.out HNP.out
            go_wp2_with fail
            go_round
            case rel => exact ⟨q + 1, by go_num, by omega, HB3.out, HFX.out⟩
            case measure => simp [intOf]; omega
    · obtain rfl : k = l.length := by omega
      have HFB : Hid (formB l = true) := by
        have h1 : formB l = formF (l.take l.length) (l.drop l.length) := HF.out
        rw [List.drop_length] at h1
        exact h1
      clear HF hb
      have HX2 : Hid (Ext (· = o) g w g1 wr) := HX1.out.below HBE.out
      have hxr := Ext.of_below (fun _ => False) g1 HBE.out
      have HA2 : Hid (App 32 3 o g1 wr A1 (putAll E (l.take 0)).length c1 (celH (putAll E (l.take 0)))) := HA1.out.ext hxr (fun h => h)
      have HAX2 := Lib.hid (HAX.out.ext hxr)
      have HBX2 := Lib.hid (HBX.out.ext hxr)
      have HG2 := Lib.hid (HG1.out.ext hxr (fun h => h))
      have hws := HX2.out.size
      clear hxr HX1 HA1 HAX HBX HG1 HBE
      go_wp2_with fail
      go_loopw [6, 9] (fun s6 i wx => ∃ (k : Nat) (A2 : Option Addr) (c2 : Nat) (gx : Gh), i = .int .i64 k ∧ k ≤ l.length ∧ s6 = .slice A2 (putAll E (l.take k)).length c2 ∧ App 32 3 o gx wx A2 (putAll E (l.take k)).length c2 (celH (putAll E (l.take k))) ∧ Ext (· = o) g w gx wx ∧ Ext (· = o) g1 wr gx wx) (fun _ i _ => l.length - (intOf i).toNat)
      case atStart => exact ⟨0, A1, c1, g1, rfl, Nat.zero_le _, rfl, HA2.out, HX2.out, Ext.refl _ _ _⟩
      case round =>
        obtain ⟨k, A2, c2, gx, rfl, hk, rfl, ha, hxw, hx2⟩ := hrel
        have HAP := Lib.hid ha
        have HXW := Lib.hid hxw
        have HXX := Lib.hid hx2
        have HAY := Lib.hid (HAX2.out.ext hx2)
        have HBY := Lib.hid (HBX2.out.ext hx2)
        have HGY := Lib.hid (HG2.out.ext hx2 (fun e => HO0.out e.symm))
        have hwy := hxw.size
        clear ha hxw hx2 HA2
        by_cases hlt : k < l.length
        · have hlt' : (k : Int) < (l.length : Int) := by omega
          have hgk := List.getElem?_eq_getElem hlt
          have hm := List.getElem_mem hlt
          generalize l[k] = q at *
          obtain ⟨p, n, lo⟩ := q
          obtain ⟨a, off, rfl, hax, c0, c1', c2'⟩ := HBY.out.cells hgk
          have hz := HSL.out _ hm
          have hln2 : (putAll E (l.take k)).length ≤ 10000 := by have := putAll_len (l.take k) E; rw [List.length_take] at this; omega
          have hsm : Sm (putAll E (l.take k)) := HS.out.putAll (fun q hq => HSL.out q (List.mem_of_mem_take hq))
          have HPT := Lib.hid (rput_any gx _ A2 c2 (putAll E (l.take k)) HAP.out.sl.2 hsm p n lo hz.1 HGY.out.1 (by omega) o (by omega))
          have HSN := Lib.hid (putAll_snoc E l k ⟨p, n, lo⟩ hgk)
          clear hgk hm hz hsm
          obtain ⟨T, hT⟩ : ∃ T, putAll E (l.take k) = T := ⟨_, rfl⟩
          rw [hT] at HPT HSN HAP ⊢
          clear hT
          go_wp2_with fail
          refine HPT.out.mono ?_
          rintro e w5 ⟨A5, c5, g5, rfl, hx5, ha5⟩
          rw [← HSN.out] at ha5 ⊢
          have HA5 := Lib.hid ha5
          have HX5 := Lib.hid hx5
          clear ha5 hx5 HPT c0 c1' c2'
          go_wp2_with fail
          go_round
          case rel => exact ⟨k + 1, A5, c5, g5, by go_num, by omega, rfl, HA5.out, HXW.out.trans HX5.out, HXX.out.trans HX5.out⟩
          case measure => simp [intOf]; omega
        · obtain rfl : k = l.length := by omega
          rw [List.take_length, HR.out] at HAP ⊢
          have HSR := Lib.hid HAP.out.sl.2
          obtain ⟨wq, HWQ⟩ : ∃ wq, Hid (wq = wr) := ⟨_, rfl⟩
          rw [← HWQ.out] at HSR HXW HAY
          go_wp2_with fail
          go_loopw [10] (fun i wz => ∃ k : Nat, i = .int .i64 k ∧ k ≤ R.length ∧ Below wq.heap.size wq wz ∧ Hid (LocTo R k)) (fun i _ => R.length - (intOf i).toNat)
          case atStart => exact ⟨0, rfl, Nat.zero_le _, by rw [HWQ.out]; exact Below.refl _ _, fun i j a b hi => absurd hi (by omega)⟩
          case round =>
            obtain ⟨k, rfl, hk, hb, hlo⟩ := hrel
            have HBE := Lib.hid hb
            have HLO := Lib.hid hlo.out
            have hbs := hb.size
            clear hlo
            by_cases hlt : k < R.length
            · have hlt' : (k : Int) < (R.length : Int) := by omega
              have hgk := List.getElem?_eq_getElem hlt
              generalize R[k] = q at *
              obtain ⟨p, n, lo⟩ := q
              obtain ⟨a, off, rfl, hax, c0, c1', c2'⟩ := (HSR.out.ext (Ext.of_below (fun _ => False) gx hb)).cells hgk
              have C2 := Lib.hid c2'
              have HGK := Lib.hid hgk
              clear hgk hb c0 c1' c2'
              go_wp2_with fail
              go_loopw [11] (fun i wv => ∃ q : Nat, i = .int .i64 q ∧ q ≤ k ∧ Below wq.heap.size wq wv ∧ Hid (NoL R q lo)) (fun i _ => k - (intOf i).toNat)
              case atStart => exact ⟨0, rfl, Nat.zero_le _, HBE.out, fun j r hj => absurd hj (by omega)⟩
              case round =>
                obtain ⟨q, rfl, hq, hbx, hnp⟩ := hrel
                have HBW := Lib.hid hbx
                have HNP := Lib.hid hnp.out
                clear hnp
                by_cases hqk : q < k
                · have hqk' : (q : Int) < (k : Int) := by omega
                  have hsl := HSR.out.ext (Ext.of_below (fun _ => False) gx hbx)
                  obtain ⟨a2, of2, he2, _, _, _, k2⟩ := hsl.cells HGK.out
                  injection he2 with he2
                  injection he2 with he3 he4
                  subst he3 he4
                  have hgq := List.getElem?_eq_getElem (show q < R.length by omega)
                  generalize R[q] = r at *
                  obtain ⟨rp, rn, rl⟩ := r
                  obtain ⟨a', off', he, _, _, _, d2⟩ := hsl.cells hgq
                  injection he with he
                  injection he with he1 he2
                  subst he1 he2
                  have HGQ := Lib.hid hgq
                  clear hgq hbx hsl
                  by_cases hpp : rl = lo
                  · subst hpp
                    have HSB := Lib.hid (set_taken (E := E) HFB.out (by rw [HR.out]; exact loc_dup hqk HGK.out HGQ.out rfl))
                    go_wp2_with fail
                    go_quiet (fail)
                    go_wp2_with fail
                    go_ret2
                    refine ⟨A, c, gx, by rw [HSB.out.1, HSB.out.2]; rfl, HXW.out.below (HBW.out.trans (below_drewN (Below.refl _ _) _)), ?_⟩
                    rw [HSB.out.2]
                    exact HAY.out.ext (Ext.of_below (fun _ => False) gx (HBW.out.trans (below_drewN (Below.refl _ _) _)))
                  · have hne := ba_ne hpp
                    have HNX := Lib.hid (HNP.out.next HGQ.out hpp)
                    clear hpp
                    go_wp2_with fail
                    go_quiet (fail)
                    go_wp2_with fail
                    go_round
                    case rel => exact ⟨q + 1, by go_num, by omega, HBW.out.trans (below_drewN (Below.refl _ _) _), HNX.out⟩
                    case measure => simp [intOf]; omega
                · obtain rfl : q = k := by omega
                  have HLX : Hid (LocTo R (q + 1)) := HLO.out.next HGK.out HNP.out
                  go_wp2_with fail
                  go_round
                  case rel => exact ⟨q + 1, by go_num, by omega, HBW.out, HLX.out⟩
                  case measure => simp [intOf]; omega
            · obtain rfl : k = R.length := by omega
              have HND : Hid (((putAll E l).map (·.loc)).Nodup) := by
                show List.Nodup _
                rw [HR.out]
                exact loc_nodup HLO.out
              clear hb HLO
              by_cases hful : 1024 < R.length
              · have hful' : (1024 : Int) < (R.length : Int) := by omega
                have HSB := Lib.hid (set_full (E := E) HFB.out HND.out (by rw [HR.out]; exact hful))
                go_wp2_with fail
                go_ret2
                refine ⟨A, c, gx, by rw [HSB.out.1, HSB.out.2]; rfl, HXW.out.below HBE.out, ?_⟩
                rw [HSB.out.2]
                exact HAY.out.ext (Ext.of_below (fun _ => False) gx HBE.out)
              · have hful' : ¬ (1024 : Int) < (R.length : Int) := by omega
                have HSB := Lib.hid (set_good (E := E) HFB.out HND.out (by rw [HR.out]; exact hful))
                go_wp2_with fail
                go_ret2
                refine ⟨A2, c2, gx, by rw [HSB.out.1, HSB.out.2, HR.out]; rfl, HXW.out.below HBE.out, ?_⟩
                rw [HSB.out.2, HR.out]
                exact HSR.out.ext (Ext.of_below (fun _ => False) gx HBE.out)


def AllIn (E : List Hv) (ps : List ByteArray) (k : Nat) : Prop := ∀ j p, j < k → ps[j]? = some p → anyP E p = true
theorem AllIn.next {E : List Hv} {ps : List ByteArray} {k : Nat} {p : ByteArray} (h : AllIn E ps k) (hg : ps[k]? = some p) (hp : anyP E p = true) : AllIn E ps (k + 1) := fun j q hj hq => by
  rcases Nat.lt_succ_iff_lt_or_eq.1 hj with hj | rfl
  · exact h j q hj hq
  · rw [hg] at hq; cases hq; exact hp
theorem drop_bad {E : List Hv} {ps : List ByteArray} {k : Nat} {p : ByteArray} (hg : ps[k]? = some p) (hp : anyP E p = false) : dropI E ps = 343 ∧ drpE E ps = E := by
  have : dropI E ps = 343 := by
    unfold dropI
    rw [if_neg]
    rw [List.all_eq_true]
    intro h
    have := h p (List.mem_iff_getElem?.2 ⟨k, hg⟩)
    rw [hp] at this
    cases this
  exact ⟨this, by rw [drpE, this, if_neg (by decide)]⟩
theorem drop_good {E : List Hv} {ps : List ByteArray} (h : AllIn E ps ps.length) : dropI E ps = 0 ∧ drpE E ps = dropE E ps := by
  have : dropI E ps = 0 := by
    unfold dropI
    rw [if_pos]
    rw [List.all_eq_true]
    intro p hp
    obtain ⟨j, hj⟩ := List.mem_iff_getElem?.1 hp
    exact h j p (List.getElem?_eq_some_iff.1 hj).1 hj
  exact ⟨this, by rw [drpE, if_pos this]⟩
theorem rdStr {g : Gh} {w : World} {B : Option Addr} {ps : List ByteArray} (h : Rd 1 g w B ps.length (ps.map Value.string)) {k : Nat} {p : ByteArray} (hk : ps[k]? = some p) : ∃ b off, B = some ⟨b, off, none⟩ ∧ b < w.heap.size ∧ w.cell? ⟨b, off + k, none⟩ = some (.string p) := by
  have hlt := (List.getElem?_eq_some_iff.1 hk).1
  obtain ⟨b, off, e, _, hb, hc⟩ := h.at_ (by omega)
  exact ⟨b, off, e, hb, hc k _ (by rw [List.getElem?_map, hk]; rfl)⟩

set_option maxRecDepth 100000 in
set_option maxHeartbeats 6400000 in
theorem rdrop_any (g : Gh) (w : World) (A : Option Addr) (c : Nat) (E : List Hv) (h : Sl g w A c E) (hn : E.length ≤ 5000) (B : Option Addr) (d : Nat) (ps : List ByteArray) (hp : Rd 1 g w B ps.length (ps.map Value.string)) (hpl : ps.length ≤ 1000) (o : Nat) (_ho : o < w.heap.size) :
    Calls Tryz.prog 49 #[.slice A E.length c, .slice B ps.length d] w (SetP o g w (drpE E ps) (dropI E ps)) := by
  have HA := Lib.hid h
  have HB := Lib.hid hp
  obtain ⟨i0, hi0, hz0, hz1, hz2⟩ := info_parts Tryz.infoHave
  clear h hp
  go_enter Tryz.func49, Tryz.ntmps49
  go_wp2_with fail
  go_loopw [6] (fun i wr => ∃ k : Nat, i = .int .i64 k ∧ k ≤ ps.length ∧ Below w.heap.size w wr ∧ Hid (AllIn E ps k)) (fun i _ => ps.length - (intOf i).toNat)
  case atStart => exact ⟨0, rfl, Nat.zero_le _, Below.refl _ _, fun j p hj => absurd hj (by omega)⟩
  case round =>
    obtain ⟨k, rfl, hk, hb, hf⟩ := hrel
    have HBE := Lib.hid hb
    have HF := Lib.hid hf.out
    have hbs := hb.size
    clear hf
    by_cases hlt : k < ps.length
    · have hlt' : (k : Int) < (ps.length : Int) := by omega
      have hx := Ext.of_below (fun _ => False) g hb
      have hgk := List.getElem?_eq_getElem hlt
      generalize ps[k] = p at *
      obtain ⟨b, off, rfl, hbx, c0⟩ := rdStr (HB.out.ext hx) hgk
      have hget := rget_any g wr A c E (HA.out.ext hx).rd p (by omega)
      have hsome := get_isSome (E := E) (p := p)
      obtain ⟨v, hv⟩ : ∃ v, getH E p = v := ⟨_, rfl⟩
      rw [hv] at hget hsome
      have HGT := Lib.hid hget
      have HSM := Lib.hid hsome
      have HGK := Lib.hid hgk
      clear hx hgk hget hsome hv hb
      cases v with
      | none =>
        have HSB := Lib.hid (drop_bad (E := E) HGK.out HSM.out.symm)
        have HGT2 : Hid (Calls Tryz.prog 29 #[.slice A E.length c, .string p] wr fun e w' => e = .returned (.tuple #[.agg #[.string ⟨#[]⟩, .int .i64 0, .string ⟨#[]⟩], .bool false]) ∧ Below wr.heap.size wr w') := HGT.out
        clear HGT
        go_wp2_with fail
        refine HGT2.out.mono ?_
        rintro e w2 ⟨rfl, hb2⟩
        have HB2 := Lib.hid (HBE.out.trans (hb2.mono hbs))
        clear hb2 c0
        go_wp2_with fail
        go_ret2
        refine ⟨A, c, g, by rw [HSB.out.1, HSB.out.2]; rfl, (Ext.of_below _ g HB2.out).alloc _, ?_⟩
        rw [HSB.out.2]
        exact HA.out.ext ((Ext.of_below (fun _ => False) g HB2.out).alloc _)
      | some q =>
        obtain ⟨qp, qn, ql⟩ := q
        have HGT2 : Hid (Calls Tryz.prog 29 #[.slice A E.length c, .string p] wr fun e w' => e = .returned (.tuple #[.agg #[.string qp, .int .i64 qn, .string ql], .bool true]) ∧ Below wr.heap.size wr w') := HGT.out
        have HFX : Hid (AllIn E ps (k + 1)) := HF.out.next HGK.out HSM.out.symm
        clear HGT
        go_wp2_with fail
        refine HGT2.out.mono ?_
        rintro e w2 ⟨rfl, hb2⟩
        have HB2 := Lib.hid (HBE.out.trans (hb2.mono hbs))
        clear hb2 c0
        go_wp2_with fail
        go_round
        case rel => exact ⟨k + 1, by go_num, by omega, HB2.out.alloc HB2.out.size _, HFX.out⟩
        case measure => simp [intOf]; omega
    · obtain rfl : k = ps.length := by omega
      have HSB := Lib.hid (drop_good HF.out)
      have hxr := Ext.of_below (· = o) g hb
      obtain ⟨R, hR⟩ : ∃ R, drpE E ps = R := ⟨_, rfl⟩
      have HRE : Hid (dropE E ps = R) := HSB.out.2.symm.trans hR
      have HI := Lib.hid HSB.out.1
      have HRR := Lib.hid hR
      have HX := Lib.hid hxr
      clear hR HF HSB hb hxr
      go_wp2_with fail
      go_loopw [9, 10] (fun s9 i wx => ∃ (k : Nat) (A2 : Option Addr) (c2 : Nat) (gx : Gh), i = .int .i64 k ∧ k ≤ E.length ∧ s9 = .slice A2 (dropE (E.take k) ps).length c2 ∧ App 32 3 o gx wx A2 (dropE (E.take k) ps).length c2 (celH (dropE (E.take k) ps)) ∧ Ext (· = o) g w gx wx) (fun _ i _ => E.length - (intOf i).toNat)
      case atStart => exact ⟨0, none, 0, g, rfl, Nat.zero_le _, rfl, App.nil _ _ _ _ _, HX.out⟩
      case round =>
        obtain ⟨k, A2, c2, gx, rfl, hk, rfl, ha, hxw⟩ := hrel
        have HAP := Lib.hid ha
        have HXW := Lib.hid hxw
        have HAY := Lib.hid (HA.out.ext hxw)
        have HBY := Lib.hid (HB.out.ext hxw)
        clear ha hxw HX HBE
        by_cases hlt : k < E.length
        · have hlt' : (k : Int) < (E.length : Int) := by omega
          have hgk := List.getElem?_eq_getElem hlt
          generalize E[k] = q at *
          obtain ⟨p, n, lo⟩ := q
          obtain ⟨a, off, rfl, hax, c0, c1, c2'⟩ := HAY.out.cells hgk
          have hds := drop_snoc E ps k ⟨p, n, lo⟩ hgk
          dsimp only at hds
          have hdl : (dropE (E.take k) ps).length ≤ 5000 := by
            have h1 : (dropE (E.take k) ps).length ≤ (E.take k).length := List.length_filter_le _ _
            rw [List.length_take] at h1
            omega
          have HDS := Lib.hid hds
          have HC := Lib.hid (And.intro c0 (And.intro c1 c2'))
          obtain ⟨wq, HWQ⟩ : ∃ wq, Hid (wq = wr) := ⟨_, rfl⟩
          have HAX : Hid (a < wr.heap.size) := hax
          rw [← HWQ.out] at HC HXW HAP HAX
          clear hds c0 c1 c2' hax
          go_wp2_with fail
          go_loopw [11, 12] (fun s11 i wx => ∃ q : Nat, i = .int .i64 q ∧ q ≤ ps.length ∧ s11 = .bool ((ps.take q).any (fun x => x == p)) ∧ Below wq.heap.size wq wx) (fun _ i _ => ps.length - (intOf i).toNat)
          case atStart => exact ⟨0, rfl, Nat.zero_le _, rfl, by rw [HWQ.out]; exact Below.refl _ _⟩
          case round =>
            obtain ⟨q, rfl, hq, rfl, hbx⟩ := hrel
            have HBW := Lib.hid hbx
            have hsn : ∀ x, ps[q]? = some x → (ps.take (q + 1)).any (fun x => x == p) = ((ps.take q).any (fun x => x == p) || (x == p)) := fun x hx => by
              rw [List.take_add_one, hx, List.any_append]
              simp
            have c0 := (hbx.cell (p := ⟨a, off + k * 3, none⟩) HAX.out).trans HC.out.1
            have c1 := (hbx.cell (p := ⟨a, off + k * 3 + 1, none⟩) HAX.out).trans HC.out.2.1
            have c2' := (hbx.cell (p := ⟨a, off + k * 3 + 2, none⟩) HAX.out).trans HC.out.2.2
            have HSN := Lib.hid hsn
            clear hsn
            by_cases hlq : q < ps.length
            · have hlq' : (q : Int) < (ps.length : Int) := by omega
              have hgq := List.getElem?_eq_getElem hlq
              generalize ps[q] = r at *
              obtain ⟨b, of2, rfl, hbb, d0⟩ := rdStr (HBY.out.ext (Ext.of_below (fun _ => False) gx (by rw [HWQ.out] at hbx; exact hbx))) hgq
              have hst := HSN.out r hgq
              obtain ⟨gone, hgone⟩ : ∃ gone, (ps.take q).any (fun x => x == p) = gone := ⟨_, rfl⟩
              rw [hgone] at hst ⊢
              have HST := Lib.hid hst
              clear hgq hst hgone HSN hbx
              cases gone
              · by_cases hrp : r = p
                · subst hrp
                  have HEQ : Hid ((ps.take (q + 1)).any (fun x => x == r) = true) := by show _ = _; rw [HST.out, Bool.false_or]; exact ba_self _
                  go_wp2_with fail
                  go_quiet (fail)
                  go_wp2_with fail
                  go_round
                  case rel => exact ⟨q + 1, by go_num, by omega, by rw [HEQ.out], HBW.out.trans (below_drewN (Below.refl _ _) _)⟩
                  case measure => simp [intOf]; omega
                · have hne := ba_ne hrp
                  have HEQ : Hid ((ps.take (q + 1)).any (fun x => x == p) = false) := by
                    show _ = _
                    rw [HST.out, Bool.false_or, ← Bool.not_eq_true, ba_beq]
                    exact hrp
                  clear hrp
                  go_wp2_with fail
                  go_quiet (fail)
                  go_wp2_with fail
                  go_round
                  case rel => exact ⟨q + 1, by go_num, by omega, by rw [HEQ.out], HBW.out.trans (below_drewN (Below.refl _ _) _)⟩
                  case measure => simp [intOf]; omega
              · have HEQ : Hid ((ps.take (q + 1)).any (fun x => x == p) = true) := by show _ = _; rw [HST.out]; rfl
                go_wp2_with fail
                go_quiet (fail)
                go_wp2_with fail
                go_round
                case rel => exact ⟨q + 1, by go_num, by omega, by rw [HEQ.out], HBW.out.trans (below_drewN (Below.refl _ _) _)⟩
                case measure => simp [intOf]; omega
            · obtain rfl : q = ps.length := by omega
              rw [List.take_length]
              obtain ⟨gone, hgone⟩ : ∃ gone, ps.any (fun x => x == p) = gone := ⟨_, rfl⟩
              rw [hgone] at HDS ⊢
              clear hgone HSN
              have HXV := Lib.hid (HXW.out.below hbx)
              have HAV := Lib.hid (HAP.out.ext (Ext.of_below (fun _ => False) gx hbx) (fun h => h))
              obtain ⟨T, hT⟩ : ∃ T, dropE (E.take k) ps = T := ⟨_, rfl⟩
              rw [hT] at HDS HAV HAP hdl ⊢
              clear hT
              cases gone
              · have HDN : Hid (dropE (E.take (k + 1)) ps = T ++ [⟨p, n, lo⟩]) := HDS.out
                have HS1 := Lib.hid (src_hv1 wr p n lo)
                have HAL := Lib.hid (HAV.out.ext ((Ext.refl (fun _ => False) gx wr).alloc (.cells #[.string p, .int .i64 n, .string lo] 32)) (fun h => h))
                have HXL := Lib.hid (HXV.out.alloc (.cells #[.string p, .int .i64 n, .string lo] 32))
                clear hbx
                go_wp2_with (at_builtin; refine wpList_append_app rfl _ _ _ _ rfl 32 i0 (.agg #[.string ⟨#[]⟩, .int .i64 0, .string ⟨#[]⟩]) 3 40 Tryz.underlying29 hi0 hz0 hz1 hz2 rfl (by decide) rfl HAL.out rfl HS1.out (by unfold maxLen; omega) (by omega) ?_; intro A5 c5 w5 g5 hx5 ha5 _)
                have HX5 := Lib.hid (HXL.out.trans hx5)
                have HA5 := Lib.hid ha5
                clear hx5 ha5
                go_round
                case rel =>
                  refine ⟨k + 1, A5, c5, g5, by go_num, by omega, ?_, ?_, HX5.out⟩
                  · rw [HDN.out, List.length_append]; rfl
                  · rw [HDN.out, List.length_append, celH_append]; exact HA5.out
                case measure => simp [intOf]; omega
              · have HDN : Hid (dropE (E.take (k + 1)) ps = T) := by
                  have h1 := HDS.out
                  rw [if_pos rfl, List.append_nil] at h1
                  exact h1
                go_wp2_with fail
                go_round
                case rel => exact ⟨k + 1, A2, c2, gx, by go_num, by omega, by rw [HDN.out], by rw [HDN.out]; exact HAV.out, HXV.out⟩
                case measure => simp [intOf]; omega
        · obtain rfl : k = E.length := by omega
          rw [List.take_length, HRE.out] at HAP ⊢
          go_wp2_with fail
          go_ret2
          refine ⟨A2, c2, gx, ?_, HXW.out, ?_⟩
          · rw [HI.out, HRR.out]; rfl
          · rw [HRR.out]; exact HAP.out.sl.2

end Go.Proofs.YtjjdffafibonhaaGreatDoor
