/-
  Recover.
-/
import Derived.Test.YtcjkllmellampaaDoorCkL
import Derived.Test.YtcjkllmellampaaDoorRec
namespace Go.Proofs.YtcjkllmellampaaDoor
open Go.RowKit

/-- A list of byte strings that can be read. -/
structure RecsAt (g : Gh) (w : World) (A : Option Addr) (c : Nat) (rs : List (List UInt8)) : Prop where
  ex : ∃ vs, Rd 1 g w A rs.length vs ∧ RecsR g w vs rs
  le : rs.length ≤ c
  mx : c ≤ maxLen
  nz : A = none → rs.length = 0
theorem RecsAt.ext {g g' : Gh} {w w' : World} {A : Option Addr} {c : Nat} {rs : List (List UInt8)} {M : Nat → Prop} (h : RecsAt g w A c rs) (hx : Ext M g w g' w') : RecsAt g' w' A c rs := by
  obtain ⟨vs, h1, h2⟩ := h.ex
  exact ⟨⟨vs, h1.ext hx, h2.ext hx⟩, h.le, h.mx, h.nz⟩
theorem RecsAt.nil (g : Gh) (w : World) : RecsAt g w none 0 [] := ⟨⟨[], Rd.nil _ _ _ _, trivial⟩, Nat.le_refl _, Nat.zero_le _, fun _ => rfl⟩
theorem RecsAt.get {g : Gh} {w : World} {A : Option Addr} {c : Nat} {rs : List (List UInt8)} (h : RecsAt g w A c rs) {k : Nat} (hk : k < rs.length) : ∃ b off Ar cr, A = some ⟨b, off, none⟩ ∧ w.cell? ⟨b, off + k, none⟩ = some (.slice Ar rs[k].length cr) ∧ BytesAt g w (.slice Ar rs[k].length cr) rs[k] := by
  obtain ⟨vs, h1, h2⟩ := h.ex
  obtain ⟨v, hv, hb⟩ := h2.get hk
  obtain ⟨b, off, hA, _, _, hc⟩ := h1.at_ (by omega)
  have h3 := hc k _ hv
  obtain ⟨Ar, cr, rfl, _⟩ := hb.ex
  exact ⟨b, off, Ar, cr, hA, h3, hb⟩
theorem RecsAt.ofApp {g : Gh} {w : World} {A : Option Addr} {c o n : Nat} {e : TypeId} {vs : List Value} {rs : List (List UInt8)} (h : App e 1 o g w A n c vs) (hn : rs.length = n) (hr : RecsR g w vs rs) : RecsAt g w A c rs := by
  subst hn
  exact ⟨⟨vs, h.rd, hr⟩, h.le, h.mx, fun e => (h.nz e).1⟩
theorem RecsAt.drop {g : Gh} {w : World} {A : Option Addr} {c : Nat} {rs : List (List UInt8)} (h : RecsAt g w A c rs) {k : Nat} (hk : k ≤ rs.length) : RecsAt g w (cutA 1 A c k) (c - k) (rs.drop k) := by
  obtain ⟨vs, h1, h2⟩ := h.ex
  have := h.le
  have := h.mx
  refine ⟨⟨vs.drop k, by rw [List.length_drop]; exact h1.drop hk h.le, h2.drop k⟩, by rw [List.length_drop]; omega, by omega, fun e => ?_⟩
  have := h.nz (cutA_isNone e)
  rw [List.length_drop]; omega

/-- The journal opens as J. -/
def Opens (d : Nat) (D : Dev) (name : ByteArray) (J : Jrn) : Prop := ∀ g w, DevAt g w d D → Calls Tryd.prog 31 #[.pointer (some ⟨d, 0, none⟩), .string name] w fun e w' => ∃ j g', e = .returned (.tuple #[.pointer (some ⟨j, 0, none⟩), .int .i64 0]) ∧ w.heap.size ≤ j ∧ Ext (fun o => o = j) g w g' w' ∧ JAt g' w' j d J

set_option maxRecDepth 100000 in
theorem recover_bad (d : Nat) (w : World) (name records : ByteArray) (hs : name.size ≤ 9223372036854775807) (hr : records.size ≤ 9223372036854775807) (h : nmB false 40 name = false ∨ nmB false 40 records = false ∨ name = records) :
    Calls Tryd.prog 25 #[.pointer (some ⟨d, 0, none⟩), .string name, .string records] w fun e w' => e = .returned (.tuple #[.int .i64 0, .slice none 0 0, .slice none 0 0, .int .i64 323]) ∧ w = w' := by
  by_cases h1 : nmB false 40 name = true
  · by_cases h2 : nmB false 40 records = true
    · have h3 : name = records := by
        rcases h with h | h | h
        · rw [h1] at h; cases h
        · rw [h2] at h; cases h
        · exact h
      subst h3
      clear h
      go_enter Tryd.func25, Tryd.ntmps25
      go_wp2_with fail
      refine (cname_any name _ hs).mono ?_
      rw [h1]
      rintro e w' ⟨rfl, rfl⟩
      go_wp2_with fail
      refine (cname_any name _ hs).mono ?_
      rw [h1]
      rintro e w' ⟨rfl, rfl⟩
      go_wp2_with fail
      refine bodyPost_ret (v := .tuple #[.int .i64 0, .slice none 0 0, .slice none 0 0, .int .i64 323]) (by simp [results, Tryd.results25, go_sem]) rfl ⟨rfl, rfl⟩
    · have h2' : nmB false 40 records = false := by simpa using h2
      clear h h2
      go_enter Tryd.func25, Tryd.ntmps25
      go_wp2_with fail
      refine (cname_any name _ hs).mono ?_
      rw [h1]
      rintro e w' ⟨rfl, rfl⟩
      go_wp2_with fail
      refine (cname_any records _ hr).mono ?_
      rw [h2']
      rintro e w' ⟨rfl, rfl⟩
      go_wp2_with fail
      refine bodyPost_ret (v := .tuple #[.int .i64 0, .slice none 0 0, .slice none 0 0, .int .i64 323]) (by simp [results, Tryd.results25, go_sem]) rfl ⟨rfl, rfl⟩
  · have h1' : nmB false 40 name = false := by simpa using h1
    clear h h1
    go_enter Tryd.func25, Tryd.ntmps25
    go_wp2_with fail
    refine (cname_any name _ hs).mono ?_
    rw [h1']
    rintro e w' ⟨rfl, rfl⟩
    go_wp2_with fail
    refine bodyPost_ret (v := .tuple #[.int .i64 0, .slice none 0 0, .slice none 0 0, .int .i64 323]) (by simp [results, Tryd.results25, go_sem]) rfl ⟨rfl, rfl⟩

/-- Names that Recover takes. -/
structure TwoNames (name records : ByteArray) : Prop where
  a : nmB false 40 name = true
  b : nmB false 40 records = true
  ne : name ≠ records
theorem TwoNames.beq {name records : ByteArray} (h : TwoNames name records) : (name.toList == records.toList) = false := by
  cases e : (name.toList == records.toList)
  · rfl
  · refine absurd ?_ h.ne
    have e2 : name.toList = records.toList := by simpa using e
    rw [toList_eq, toList_eq] at e2
    exact ByteArray.ext (Array.toList_inj.1 e2)

set_option maxRecDepth 100000 in
set_option maxHeartbeats 1600000 in
theorem recover_down (d : Nat) (g : Gh) (w : World) (D : Dev) (hD : DevAt g w d D) (hdn : D.down = true) (name records : ByteArray) (h : TwoNames name records) :
    Calls Tryd.prog 25 #[.pointer (some ⟨d, 0, none⟩), .string name, .string records] w fun e w' => e = .returned (.tuple #[.int .i64 0, .slice none 0 0, .slice none 0 0, .int .i64 303]) ∧ ∃ g', Ext (fun o => w.heap.size ≤ o) g w g' w' := by
  have ha := nm_size h.a
  have hb := nm_size h.b
  have hbe := h.beq
  go_enter Tryd.func25, Tryd.ntmps25
  go_wp2_with fail
  refine (cname_any name _ (by omega)).mono ?_
  rw [h.a]
  rintro e w' ⟨rfl, rfl⟩
  go_wp2_with fail
  refine (cname_any records _ (by omega)).mono ?_
  rw [h.b]
  rintro e w' ⟨rfl, rfl⟩
  go_wp2_with fail
  refine (load_down d g w D hD hdn name h.a).mono ?_
  rintro e w2 ⟨rfl, g2, hx2⟩
  go_wp2_with fail
  refine bodyPost_ret (v := .tuple #[.int .i64 0, .slice none 0 0, .slice none 0 0, .int .i64 303]) (by simp [results, Tryd.results25, go_sem]) rfl ⟨rfl, g2, hx2⟩

/-- What Recover hands back. -/
def RcvP (g : Gh) (w : World) (o : Option Ck) (J : Jrn) (e : Ending) (w' : World) : Prop :=
  ∃ g', Ext (fun o => w.heap.size ≤ o) g w g' w' ∧
    (((posO o : Int) < J.start ∨ J.start + J.recs.length < (posO o : Int)) ∧ e = .returned (.tuple #[.int .i64 0, .slice none 0 0, .slice none 0 0, .int .i64 322]) ∨
     ∃ k A c v, (posO o : Int) = J.start + (k : Nat) ∧ k ≤ J.recs.length ∧ StAt g' w' v o ∧ RecsAt g' w' A c (J.recs.drop k) ∧ e = .returned (.tuple #[.int .i64 (posO o), v, .slice A (J.recs.drop k).length c, .int .i64 0]))

set_option maxRecDepth 100000 in
set_option maxHeartbeats 6400000 in
theorem recover_all (d : Nat) (g : Gh) (w : World) (D : Dev) (hD : DevAt g w d D) (hdn : D.down = false) (name records : ByteArray) (h : TwoNames name records) (o0 o1 : Option Ck) (h0 : SlotIs D (slotN name 0) o0) (h1 : SlotIs D (slotN name 1) o1) (J : Jrn) (hJ : Opens d D records J) (j0 : 0 ≤ J.start) (j1 : J.start ≤ 4611686018427387904) (j2 : J.recs.length ≤ 4096) (j3 : ∀ r ∈ J.recs, r.length ≤ 65536) (hpo : posO (newS o0 o1).1 ≤ 1000000000) :
    Calls Tryd.prog 25 #[.pointer (some ⟨d, 0, none⟩), .string name, .string records] w (RcvP g w (newS o0 o1).1 J) := by
  have ha := nm_size h.a
  have hb := nm_size h.b
  have hbe := h.beq
  have HJ := Lib.hid hJ
  have H3 := Lib.hid j3
  clear hJ j3
  obtain ⟨i0, hi0, hz0, hz1, hz2⟩ := info_parts Tryd.infoBytes
  go_enter Tryd.func25, Tryd.ntmps25
  go_wp2_with fail
  refine (cname_any name _ (by omega)).mono ?_
  rw [h.a]
  rintro e w' ⟨rfl, rfl⟩
  go_wp2_with fail
  refine (cname_any records _ (by omega)).mono ?_
  rw [h.b]
  rintro e w' ⟨rfl, rfl⟩
  go_wp2_with fail
  refine (load_any d g w D hD hdn name h.a o0 o1 h0 h1).mono ?_
  generalize (newS o0 o1).1 = o at *
  rintro e w2 ⟨g2, v, hx2, hst, rfl⟩
  obtain ⟨Av, nv, cv, rfl⟩ := hst.slice
  have HX2 := Lib.hid hx2
  have HS2 := Lib.hid hst
  have HD2 := Lib.hid (hD.ext hx2 (by have := hD.lt; omega))
  have hsz2 := hx2.size
  clear hx2 hst hD h0 h1
  obtain ⟨p, hpq⟩ : ∃ p, posO o = p := ⟨_, rfl⟩
  have HPQ := Lib.hid hpq
  rw [hpq] at hpo ⊢
  clear hpq
  go_wp2_with fail
  refine (HJ.out g2 w2 HD2.out).mono ?_
  rintro e w3 ⟨j, g3, rfl, hj, hx3, hJ3⟩
  have HX3 := Lib.hid (HX2.out.trans (hx3.imp (fun o (h : o = j) => show w.heap.size ≤ o by omega)))
  have HS3 := Lib.hid (HS2.out.ext hx3)
  have HJ3 := Lib.hid hJ3
  clear hx3 hJ3 HX2 HS2 HD2 HJ
  have hjl := HJ3.out.lt
  go_wp2_with fail
  refine (jstart_any j d g3 w3 J HJ3.out).mono ?_
  rintro e w' ⟨rfl, rfl⟩
  by_cases hlo : (p : Int) < J.start
  · go_wp2_with fail
    refine bodyPost_ret (v := .tuple #[.int .i64 0, .slice none 0 0, .slice none 0 0, .int .i64 322]) (by simp [results, Tryd.results25, go_sem]) rfl ⟨g3, HX3.out, .inl ⟨.inl (by rw [HPQ.out]; exact hlo), rfl⟩⟩
  go_wp2_with fail
  refine (jend_any j d g3 _ J HJ3.out j0 j1 (by omega)).mono ?_
  rintro e w' ⟨rfl, n1, rfl⟩
  have hxd : Ext (fun _ => False) g3 w3 g3 (w3.drewN n1) := (Ext.refl _ _ _).drewN _
  have HX4 := Lib.hid (HX3.out.trans (hxd.imp (fun _ h => h.elim)))
  have HS4 := Lib.hid (HS3.out.ext hxd)
  have HJ4 := Lib.hid (HJ3.out.ext hxd (fun h => h))
  have hjl4 : j < (w3.drewN n1).heap.size := hjl
  clear hxd HX3 HS3 HJ3
  generalize w3.drewN n1 = w4 at *
  by_cases hhi : J.start + (J.recs.length : Int) < p
  · go_wp2_with fail
    refine bodyPost_ret (v := .tuple #[.int .i64 0, .slice none 0 0, .slice none 0 0, .int .i64 322]) (by simp [results, Tryd.results25, go_sem]) rfl ⟨g3, HX4.out, .inl ⟨.inr (by rw [HPQ.out]; exact hhi), rfl⟩⟩
  obtain ⟨k, hk⟩ : ∃ k : Nat, (p : Int) = J.start + k := ⟨((p : Int) - J.start).toNat, by omega⟩
  have hkl : k ≤ J.recs.length := by omega
  have HK := Lib.hid hk
  clear hk
  obtain ⟨o', ho'⟩ := owner_new g3 w4.heap.size
  have hoj : o' ≠ j := fun e => by
    obtain ⟨A1, c1, v1, A2, c2, v2, hb, hi⟩ := HJ4.out
    exact ho' j hb.lt (by rw [hi.O, e])
  have HO := Lib.hid ho'
  clear ho'
  go_wp2_with fail
  go_loopw [8, 11, 12, 13] (fun r i _ _ wr => ∃ (n : Nat) (gr : Gh) (B : Option Addr) (c : Nat) (vs : List Value), n ≤ (J.recs.drop k).length ∧ r = .slice B n c ∧ i = .int .i64 ((p : Int) + n) ∧ Ext (· = o') g3 w4 gr wr ∧ JAt gr wr j d J ∧ StAt gr wr (.slice Av nv cv) o ∧ App 32 1 o' gr wr B n c vs ∧ RecsR gr wr vs ((J.recs.drop k).take n)) (fun _ i _ _ _ => ((J.start + J.recs.length) - intOf i).toNat)
  case atStart => exact ⟨0, g3, none, 0, [], Nat.zero_le _, rfl, by go_num, Ext.refl _ _ _, HJ4.out, HS4.out, App.nil _ _ _ _ _, trivial⟩
  case round =>
    obtain ⟨n, gr, B, c, vs, hn, rfl, rfl, hx, hJr, hsr, har, hrr⟩ := hrel
    have hdl : (J.recs.drop k).length = J.recs.length - k := List.length_drop
    have HX5 := Lib.hid hx
    have HJ5 := Lib.hid hJr
    have HS5 := Lib.hid hsr
    have HA5 := Lib.hid har
    have HR5 := Lib.hid hrr
    clear hx hJr hsr har hrr
    go_wp2_with fail
    refine (jend_any j d gr _ J HJ5.out j0 j1 (by omega)).mono ?_
    rintro e w' ⟨rfl, n2, rfl⟩
    have hxd : Ext (fun _ => False) gr wr gr (wr.drewN n2) := (Ext.refl _ _ _).drewN _
    have HX6 := Lib.hid (HX5.out.trans (hxd.imp (fun _ h => h.elim)))
    have HJ6 := Lib.hid (HJ5.out.ext hxd (fun h => h))
    have HS6 := Lib.hid (HS5.out.ext hxd)
    have HA6 := Lib.hid (HA5.out.ext hxd (fun h => h))
    have HR6 := Lib.hid (HR5.out.ext hxd)
    clear hxd HX5 HJ5 HS5 HA5 HR5
    generalize wr.drewN n2 = w6 at *
    by_cases hlt : n < (J.recs.drop k).length
    · have hlt' : (p : Int) + n < J.start + J.recs.length := by have := HK.out; omega
      have hg : getR J ((p : Int) + n) = some (J.recs.drop k)[n] := by
        have hk := HK.out
        unfold getR
        rw [if_neg (by omega), if_neg (by omega)]
        have : ((p : Int) + n - J.start).toNat = k + n := by omega
        rw [this, List.getElem_drop, List.getElem?_eq_getElem]
      have HG := Lib.hid hg
      have HTS : Hid ((J.recs.drop k).take (n + 1) = (J.recs.drop k).take n ++ [(J.recs.drop k)[n]]) := by
        show _ = _
        rw [List.take_add_one, List.getElem?_eq_getElem hlt]; rfl
      clear hg
      generalize (J.recs.drop k)[n] = r at *
      go_wp2_with fail
      refine (get_any j d gr w6 J HJ6.out _ j0 j1 (by omega) H3.out (by omega) (by omega)).mono ?_
      rw [HG.out]
      rintro e w7 ⟨A7, c7, g7, rfl, hx7, hB7⟩
      have hal : Ext (fun _ => False) g7 w7 g7 (w7.alloc (.cells #[.slice A7 r.length c7] 32)) := (Ext.refl _ _ _).alloc _
      have HX8 := Lib.hid ((HX6.out.trans (hx7.imp (fun _ h => h.elim))).trans (hal.imp (fun _ h => h.elim)))
      have HJ8 := Lib.hid ((HJ6.out.ext hx7 (fun h => h)).ext hal (fun h => h))
      have HS8 := Lib.hid ((HS6.out.ext hx7).ext hal)
      have HA8 := Lib.hid ((HA6.out.ext hx7 (fun h => h)).ext hal (fun h => h))
      have HR8 := Lib.hid ((HR6.out.ext hx7).ext hal)
      have HB8 := Lib.hid (hB7.ext hal)
      generalize r.length = rl at *
      have HSRC : Hid (Src Tryd.prog 1 54 (.slice (some ⟨w7.heap.size, 0, none⟩) 1 1) 1 [.slice A7 rl c7] (w7.alloc (.cells #[.slice A7 rl c7] 32))) :=
        Src.ofSlice _ Tryd.underlying54 _ 1 1 _ rfl (fun j u hu => by
          have hh : (w7.alloc (.cells #[.slice A7 rl c7] 32)).heap[w7.heap.size]? = some (.cells #[.slice A7 rl c7] 32 (0, 0)) := heap_alloc_new w7 _
          rw [add_lit, Nat.zero_add, cell_at hh]
          simpa using hu) (by simp [Value.oneCell'])
      clear hal hx7 hB7 HX6 HJ6 HS6 HA6 HR6
      go_wp2_with (at_builtin; refine wpList_append_app rfl _ _ _ _ rfl 32 i0 (.slice none 0 0) 1 24 Tryd.underlying54 hi0 hz0 hz1 hz2 rfl (by decide) rfl HA8.out rfl HSRC.out (by unfold maxLen; omega) (by omega) ?_; intro A9 c9 w9 g9 hx9 ha9 hl9; have HX9 := Lib.hid (HX8.out.trans hx9); have HJ9 := Lib.hid (HJ8.out.ext hx9 (fun e => hoj e.symm)); have HS9 := Lib.hid (HS8.out.ext hx9); have HA9 := Lib.hid ha9; have HR9 := Lib.hid (RecsR.append (HR8.out.ext hx9) (vs' := [.slice A7 rl c7]) (rs' := [r]) ⟨HB8.out.ext hx9, trivial⟩); clear hx9 ha9 hl9)
      go_round
      case rel =>
        refine ⟨n + 1, g9, A9, c9, _, by omega, rfl, by go_num, HX9.out, HJ9.out, HS9.out, HA9.out, ?_⟩
        rw [HTS.out]; exact HR9.out
      case measure => have := HK.out; simp [intOf]; omega
    · have hge : ¬ (p : Int) + n < J.start + J.recs.length := by have := HK.out; omega
      go_wp2_with fail
      refine bodyPost_ret (v := .tuple #[.int .i64 p, .slice Av nv cv, .slice B n c, .int .i64 0]) (by simp [results, Tryd.results25, go_sem]) rfl ⟨gr, HX4.out.trans (HX6.out.more ?_), .inr ⟨k, B, c, .slice Av nv cv, by rw [HPQ.out]; exact HK.out, hkl, HS6.out, ?_, ?_⟩⟩
      · intro b hb e
        exact absurd e (HO.out b hb)
      · obtain rfl : n = (J.recs.drop k).length := by omega
        have hr := HR6.out
        rw [List.take_length] at hr
        exact RecsAt.ofApp HA6.out rfl hr
      · obtain rfl : n = (J.recs.drop k).length := by omega
        rw [HPQ.out]

end Go.Proofs.YtcjkllmellampaaDoor
