/-
  What the statements draw: lists of entries and of paths; sorted.
-/
import Derived.Test.YtjjdffafibonhaaGreatDoorHvL
namespace Go.Proofs.YtjjdffafibonhaaGreatDoor
open Go.RowKit

/-- Small entries. -/
def Dr (l : List Hv) : Prop := ∀ h ∈ l, h.path.size ≤ 300 ∧ h.loc.size ≤ 300 ∧ 0 ≤ h.num ∧ h.num ≤ 4
theorem Dr.sm {l : List Hv} (h : Dr l) : Sm l := fun q hq => by have := h q hq; omega
theorem Dr.nu {l : List Hv} (h : Dr l) : ∀ q ∈ l, q.num < 4611686018427387904 := fun q hq => by have := h q hq; omega
theorem Dr.snoc {l : List Hv} {q : Hv} (h : Dr l) (h1 : q.path.size ≤ 300) (h2 : q.loc.size ≤ 300) (h3 : 0 ≤ q.num) (h4 : q.num ≤ 4) : Dr (l ++ [q]) := fun r hr => by
  rcases List.mem_append.1 hr with hr | hr
  · exact h r hr
  · rw [List.mem_singleton] at hr; subst hr; exact ⟨h1, h2, h3, h4⟩
/-- Drawn entries. -/
def EntsP (t o m : Nat) (g : Gh) (w : World) (e : Ending) (w' : World) : Prop := ∃ l A c g', e = .returned (.slice A l.length c) ∧ l.length ≤ 3 ∧ Dr l ∧ Ext (fun x => x = t ∨ x = o) g w g' w' ∧ App 32 3 o g' w' A l.length c (celH l) ∧ TapeAt g' w' t (m + 30)

set_option maxRecDepth 100000 in
set_option maxHeartbeats 3200000 in
theorem entries_any (wrong : Bool) (hok : EntOk wrong) (t o m : Nat) (g : Gh) (w : World) (ht : TapeAt g w t m) (hm : m ≤ 800000) (hto : t ≠ o) :
    Calls Tryz.prog 23 #[.pointer (some ⟨t, 0, none⟩), .bool wrong] w (EntsP t o m g w) := by
  have HT := Lib.hid ht
  have HOK := Lib.hid hok
  obtain ⟨i0, hi0, hz0, hz1, hz2⟩ := info_parts Tryz.infoHave
  clear ht hok
  go_enter Tryz.func23, Tryz.ntmps23
  go_wp2_with fail
  refine (next_any t m g w HT.out (by omega) 4 (by omega)).mono ?_
  rintro e w1 ⟨v, rfl, hv0, hv1, hx1, ht1⟩
  obtain ⟨k0, rfl⟩ : ∃ k : Nat, v = (k : Int) := ⟨v.toNat, by omega⟩
  have hk4 : k0 ≤ 3 := by omega
  have HX1 : Hid (Ext (fun x => x = t ∨ x = o) g w g w1) := hx1.imp (fun _ h => .inl h)
  have HT1 := Lib.hid ht1
  clear hx1 ht1 HT hv0 hv1
  go_wp2_with fail
  go_loopw [5, 6] (fun s5 s6 wr => ∃ (k : Nat) (l : List Hv) (A : Option Addr) (c : Nat) (gx : Gh), s6 = .int .i64 k ∧ k + l.length ≤ 3 ∧ s5 = .slice A l.length c ∧ Dr l ∧ Ext (fun x => x = t ∨ x = o) g w gx wr ∧ App 32 3 o gx wr A l.length c (celH l) ∧ TapeAt gx wr t (m + 1 + 5 * l.length)) (fun _ i _ => (intOf i).toNat)
  case atStart => exact ⟨k0, [], none, 0, g, rfl, by simpa using hk4, rfl, (fun q hq => by cases hq), HX1.out, App.nil _ _ _ _ _, HT1.out⟩
  case round =>
    obtain ⟨k, l, A, c, gx, rfl, hkl, rfl, hdr, hx, ha, ht⟩ := hrel
    have HDR := Lib.hid hdr
    have HXR := Lib.hid hx
    have HAR := Lib.hid ha
    have HTR := Lib.hid ht
    clear HX1 HT1 hdr hx ha ht
    by_cases hk0 : k = 0
    · subst hk0
      go_wp2_with fail
      go_ret
      exact ⟨l, A, c, gx, rfl, by omega, HDR.out, HXR.out, HAR.out, HTR.out.more (by omega)⟩
    · have hkp : (0 : Int) < (k : Int) := by omega
      go_wp2_with fail
      refine (HOK.out t _ gx wr HTR.out (by omega)).mono ?_
      rintro e w3 ⟨p, n, lo, g3, rfl, hp, hlo, hn0, hn4, hx3, ht3⟩
      have hal : Ext (fun _ => False) g3 w3 g3 (w3.alloc (.cells #[.string p, .int .i64 n, .string lo] 32)) := (Ext.refl _ _ _).alloc _
      have HX3 := Lib.hid ((HXR.out.trans (hx3.imp (fun _ h => .inl h))).alloc (.cells #[.string p, .int .i64 n, .string lo] 32))
      have HA3 := Lib.hid ((HAR.out.ext hx3 (fun e => hto e.symm)).ext hal (fun h => h))
      have HT3 := Lib.hid (ht3.ext hal (fun h => h))
      have HS3 := Lib.hid (src_hv1 w3 p n lo)
      have HD3 := Lib.hid (HDR.out.snoc (q := ⟨p, n, lo⟩) hp hlo hn0 hn4)
      have HCE : Hid (celH (l ++ [⟨p, n, lo⟩]) = celH l ++ celH [⟨p, n, lo⟩]) := celH_append _ _
      clear hx3 ht3 hal HXR HAR HTR HDR
      go_wp2_with (at_builtin; refine wpList_append_app rfl _ _ _ _ rfl 32 i0 (.agg #[.string ⟨#[]⟩, .int .i64 0, .string ⟨#[]⟩]) 3 40 Tryz.underlying29 hi0 hz0 hz1 hz2 rfl (by decide) rfl HA3.out rfl HS3.out (by unfold maxLen; omega) (by omega) ?_; intro A5 c5 w5 g5 hx5 ha5 _)
      have HX5 := Lib.hid (HX3.out.trans (hx5.imp (fun _ h => .inr h)))
      have HT5 := Lib.hid (HT3.out.ext hx5 hto)
      rw [← HCE.out] at ha5
      have HA5 := Lib.hid ha5
      clear hx5 ha5
      go_wp2_with fail
      go_round
      case rel => exact ⟨k - 1, l ++ [⟨p, n, lo⟩], A5, c5, g5, by go_num, by rw [List.length_append]; simp; omega, by rw [List.length_append]; rfl, HD3.out, HX5.out, by rw [List.length_append]; exact HA5.out, HT5.out.more (by rw [List.length_append]; simp; omega)⟩
      case measure => simp [intOf]; omega

/-- Drawn paths. -/
def PthsP (t o m : Nat) (g : Gh) (w : World) (e : Ending) (w' : World) : Prop := ∃ (l : List ByteArray) (A : Option Addr) (c : Nat) (g' : Gh), e = .returned (.slice A l.length c) ∧ l.length ≤ 2 ∧ Ext (fun x => x = t ∨ x = o) g w g' w' ∧ Rd 1 g' w' A l.length (l.map Value.string) ∧ TapeAt g' w' t (m + 30)
theorem Tryz.infoStr : (Tryz.prog.info? 9).map (fun i => (i.zero, i.size, i.bytes)) = some (some (.string ⟨#[]⟩), 1, 16) := by kernel_rfl
theorem src_str1 (x : World) (s : ByteArray) : Src Tryz.prog 1 36 (.slice (some ⟨x.heap.size, 0, none⟩) 1 1) 1 [.string s] (x.alloc (.cells #[.string s] 9)) :=
  Src.ofSlice _ Tryz.underlying36 _ 1 1 _ rfl (fun j u hu => by
    have hh : (x.alloc (.cells #[.string s] 9)).heap[x.heap.size]? = some (.cells #[.string s] 9 (0, 0)) := heap_alloc_new x _
    rw [add_lit, Nat.zero_add, cell_at hh]
    simpa using hu) (by simp [Value.oneCell'])

set_option maxRecDepth 100000 in
set_option maxHeartbeats 3200000 in
theorem paths_any (t o m : Nat) (g : Gh) (w : World) (ht : TapeAt g w t m) (hm : m ≤ 800000) (hto : t ≠ o) :
    Calls Tryz.prog 48 #[.pointer (some ⟨t, 0, none⟩)] w (PthsP t o m g w) := by
  have HT := Lib.hid ht
  obtain ⟨i0, hi0, hz0, hz1, hz2⟩ := info_parts Tryz.infoStr
  clear ht
  go_enter Tryz.func48, Tryz.ntmps48
  go_wp2_with fail
  refine (next_any t m g w HT.out (by omega) 3 (by omega)).mono ?_
  rintro e w1 ⟨v, rfl, hv0, hv1, hx1, ht1⟩
  obtain ⟨k0, rfl⟩ : ∃ k : Nat, v = (k : Int) := ⟨v.toNat, by omega⟩
  have hk4 : k0 ≤ 2 := by omega
  have HX1 : Hid (Ext (fun x => x = t ∨ x = o) g w g w1) := hx1.imp (fun _ h => .inl h)
  have HT1 := Lib.hid ht1
  clear hx1 ht1 HT hv0 hv1
  go_wp2_with fail
  go_loopw [3, 4] (fun s5 s6 wr => ∃ (k : Nat) (l : List ByteArray) (A : Option Addr) (c : Nat) (gx : Gh), s6 = .int .i64 k ∧ k + l.length ≤ 2 ∧ s5 = .slice A l.length c ∧ Ext (fun x => x = t ∨ x = o) g w gx wr ∧ App 9 1 o gx wr A l.length c (l.map Value.string) ∧ TapeAt gx wr t (m + 1 + 5 * l.length)) (fun _ i _ => (intOf i).toNat)
  case atStart => exact ⟨k0, [], none, 0, g, rfl, by simpa using hk4, rfl, HX1.out, App.nil _ _ _ _ _, HT1.out⟩
  case round =>
    obtain ⟨k, l, A, c, gx, rfl, hkl, rfl, hx, ha, ht⟩ := hrel
    have HXR := Lib.hid hx
    have HAR := Lib.hid ha
    have HTR := Lib.hid ht
    clear HX1 HT1 hx ha ht
    by_cases hk0 : k = 0
    · subst hk0
      go_wp2_with fail
      go_ret
      exact ⟨l, A, c, gx, rfl, by omega, HXR.out, HAR.out.rd, HTR.out.more (by omega)⟩
    · have hkp : (0 : Int) < (k : Int) := by omega
      go_wp2_with fail
      refine (depot_any t _ gx wr HTR.out (by omega)).mono ?_
      rintro e w3 ⟨p, g3, rfl, hp, hx3, ht3⟩
      have hal : Ext (fun _ => False) g3 w3 g3 (w3.alloc (.cells #[.string p] 9)) := (Ext.refl _ _ _).alloc _
      have HX3 := Lib.hid ((HXR.out.trans (hx3.imp (fun _ h => .inl h))).alloc (.cells #[.string p] 9))
      have HA3 := Lib.hid ((HAR.out.ext hx3 (fun e => hto e.symm)).ext hal (fun h => h))
      have HT3 := Lib.hid (ht3.ext hal (fun h => h))
      have HS3 := Lib.hid (src_str1 w3 p)
      have HCE : Hid ((l ++ [p]).map Value.string = l.map Value.string ++ [.string p]) := by show _ = _; simp
      clear hx3 ht3 hal HXR HAR HTR
      go_wp2_with (at_builtin; refine wpList_append_app rfl _ _ _ _ rfl 9 i0 (.string ⟨#[]⟩) 1 16 Tryz.underlying36 hi0 hz0 hz1 hz2 rfl (by decide) rfl HA3.out rfl HS3.out (by unfold maxLen; omega) (by omega) ?_; intro A5 c5 w5 g5 hx5 ha5 _)
      have HX5 := Lib.hid (HX3.out.trans (hx5.imp (fun _ h => .inr h)))
      have HT5 := Lib.hid (HT3.out.ext hx5 hto)
      rw [← HCE.out] at ha5
      have HA5 := Lib.hid ha5
      clear hx5 ha5
      go_wp2_with fail
      go_round
      case rel => exact ⟨k - 1, l ++ [p], A5, c5, g5, by go_num, by rw [List.length_append]; simp; omega, by rw [List.length_append]; rfl, HX5.out, by rw [List.length_append]; exact HA5.out, HT5.out.more (by rw [List.length_append]; simp; omega)⟩
      case measure => simp [intOf]; omega

/-- A list of entries of another. -/
def SrtP (o : Nat) (g : Gh) (w : World) (l : List Hv) (e : Ending) (w' : World) : Prop := ∃ R A c g', e = .returned (.slice A R.length c) ∧ R.length ≤ l.length ∧ (∀ q ∈ R, q ∈ l) ∧ Ext (· = o) g w g' w' ∧ App 32 3 o g' w' A R.length c (celH R)
theorem valO_agg (o : Option Hv) : ∃ p n lo, valO o = .agg #[.string p, .int .i64 n, .string lo] := by
  cases o with
  | none => exact ⟨_, _, _, rfl⟩
  | some q => exact ⟨_, _, _, rfl⟩

set_option maxRecDepth 100000 in
set_option maxHeartbeats 3200000 in
theorem sorted_any (g : Gh) (w : World) (A : Option Addr) (c : Nat) (l : List Hv) (h : Sl g w A c l) (hs : Sm l) (hn : l.length ≤ 1000) (hg : GK g w) (o : Nat) (ho : o < w.heap.size) (ho0 : o ≠ 0) :
    Calls Tryz.prog 24 #[.slice A l.length c] w (SrtP o g w l) := by
  have HL := Lib.hid h
  have HS := Lib.hid hs
  have HG := Lib.hid hg
  have HO0 := Lib.hid ho0
  clear h hs hg ho0
  go_enter Tryz.func24, Tryz.ntmps24
  go_wp2_with fail
  go_loopw [3, 4] (fun s3 i wr => ∃ (k : Nat) (R : List Hv) (B : Option Addr) (d : Nat) (gx : Gh), i = .int .i64 k ∧ k ≤ l.length ∧ s3 = .slice B R.length d ∧ R.length ≤ k ∧ Hid (∀ q ∈ R, q ∈ l) ∧ Ext (· = o) g w gx wr ∧ App 32 3 o gx wr B R.length d (celH R)) (fun _ i _ => l.length - (intOf i).toNat)
  case atStart => exact ⟨0, [], none, 0, g, rfl, Nat.zero_le _, rfl, Nat.le_refl _, (fun q hq => by cases hq), Ext.refl _ _ _, App.nil _ _ _ _ _⟩
  case round =>
    obtain ⟨k, R, B, d, gx, rfl, hk, rfl, hRk, hin, hx, ha⟩ := hrel
    have HXR := Lib.hid hx
    have HAR := Lib.hid ha
    have HIN : Hid (∀ q ∈ R, q ∈ l) := hin
    have HLR := Lib.hid (HL.out.ext hx)
    have HGR := Lib.hid (HG.out.ext hx (fun e => HO0.out e.symm))
    have hws := hx.size
    clear hx ha hin
    by_cases hlt : k < l.length
    · have hlt' : (k : Int) < (l.length : Int) := by omega
      have hgk := List.getElem?_eq_getElem hlt
      have hm := List.getElem_mem hlt
      generalize l[k] = q at *
      obtain ⟨p, n, lo⟩ := q
      have hz := HS.out _ hm
      dsimp only at hz
      obtain ⟨a, off, rfl, hax, c0, c1, c2⟩ := HLR.out.cells hgk
      have HM := Lib.hid hm
      have HSR : Hid (Sm R) := fun q hq => HS.out q (HIN.out q hq)
      obtain ⟨p1, n1, l1, hv1⟩ := valO_agg (getH R p)
      obtain ⟨p2, n2, l2, hv2⟩ := valO_agg (atH R lo)
      have hget := rget_any gx wr B d R HAR.out.rd p (by omega)
      rw [hv1] at hget
      have HGT := Lib.hid hget
      have HAT : Hid (∀ y, Below wr.heap.size wr y → Calls Tryz.prog 31 #[.slice B R.length d, .string lo] y fun e w' => e = .returned (.tuple #[.agg #[.string p2, .int .i64 n2, .string l2], .bool (atH R lo).isSome]) ∧ Below y.heap.size y w') := by
        intro y hy
        have := rat_any gx y B d R (HAR.out.ext (Ext.of_below (fun _ => False) gx hy) (fun h => h)).rd lo (by omega)
        rw [hv2] at this
        exact this
      generalize (getH R p).isSome = s1 at *
      generalize (atH R lo).isSome = s2 at *
      have HC := Lib.hid (And.intro c0 (And.intro c1 c2))
      clear hgk hm hget hv1 hv2 c1 c2
      go_wp2_with fail
      refine HGT.out.mono ?_
      rintro e w3 ⟨rfl, hb3⟩
      have hB4 : Below wr.heap.size wr (w3.alloc (.cells #[.string p1, .int .i64 n1, .string l1] 32)) := hb3.alloc hb3.size _
      have HB4 := Lib.hid hB4
      have c2 := (hB4.cell (p := ⟨a, off + k * 3 + 2, none⟩) hax).trans HC.out.2.2
      have HA4 := Lib.hid (HAT.out _ hB4)
      clear hb3 hB4 HGT HAT c0
      go_wp2_with fail
      refine HA4.out.mono ?_
      rintro e w5 ⟨rfl, hb5⟩
      have hB6 : Below wr.heap.size wr (w5.alloc (.cells #[.string p2, .int .i64 n2, .string l2] 32)) := (HB4.out.trans (hb5.mono HB4.out.size)).alloc (HB4.out.trans (hb5.mono HB4.out.size)).size _
      have HB6 := Lib.hid hB6
      have c0 := (hB6.cell (p := ⟨a, off + k * 3, none⟩) hax).trans HC.out.1
      have c1 := (hB6.cell (p := ⟨a, off + k * 3 + 1, none⟩) hax).trans HC.out.2.1
      have c2 := (hB6.cell (p := ⟨a, off + k * 3 + 2, none⟩) hax).trans HC.out.2.2
      have hx6 := Ext.of_below (fun _ => False) gx hB6
      have hx6s := hB6.size
      have HPT := Lib.hid (rput_any gx _ B d R (HAR.out.ext hx6 (fun h => h)).sl.2 HSR.out p n lo hz.1 (HGR.out.ext hx6 (fun h => h)).1 (by omega) o (by omega))
      clear hb5 hB6 HB4 HA4 hx6
      have HNO : Hid (Ext (· = o) g w gx (w5.alloc (.cells #[.string p2, .int .i64 n2, .string l2] 32))) := HXR.out.below HB6.out
      have HNA : Hid (App 32 3 o gx (w5.alloc (.cells #[.string p2, .int .i64 n2, .string l2] 32)) B R.length d (celH R)) := HAR.out.ext (Ext.of_below (fun _ => False) gx HB6.out) (fun h => h)
      cases s1
      · cases s2
        · go_wp2_with fail
          refine HPT.out.mono ?_
          rintro e w7 ⟨A7, c7, g7, rfl, hx7, ha7⟩
          have HX7 := Lib.hid (HNO.out.trans hx7)
          have HA7 := Lib.hid ha7
          have hl7 := putH_len R ⟨p, n, lo⟩
          have HI7 : Hid (∀ q ∈ putH R ⟨p, n, lo⟩, q ∈ l) := fun q hq => by
            rcases mem_put hq with rfl | hq
            · exact HM.out
            · exact HIN.out q hq
          clear hx7 ha7
          obtain ⟨T, hT⟩ : ∃ T, putH R ⟨p, n, lo⟩ = T := ⟨_, rfl⟩
          rw [hT] at HA7 HI7 hl7 ⊢
          clear hT HPT
          go_wp2_with fail
          go_round
          case rel => exact ⟨k + 1, T, A7, c7, g7, by go_num, by omega, rfl, by omega, HI7.out, HX7.out, HA7.out⟩
          case measure => simp [intOf]; omega
        · go_wp2_with fail
          go_round
          case rel => exact ⟨k + 1, R, B, d, gx, by go_num, by omega, rfl, by omega, HIN.out, HNO.out, HNA.out⟩
          case measure => simp [intOf]; omega
      · go_wp2_with fail
        go_round
        case rel => exact ⟨k + 1, R, B, d, gx, by go_num, by omega, rfl, by omega, HIN.out, HNO.out, HNA.out⟩
        case measure => simp [intOf]; omega
    · go_wp2_with fail
      go_ret
      exact ⟨R, B, d, gx, rfl, by omega, HIN.out, HXR.out, HAR.out⟩

end Go.Proofs.YtjjdffafibonhaaGreatDoor
