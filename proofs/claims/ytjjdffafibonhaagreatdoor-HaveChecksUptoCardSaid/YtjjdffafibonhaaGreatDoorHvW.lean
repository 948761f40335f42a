/-
  What the changes of a have-list do: ready and change.
-/
import Derived.Test.YtjjdffafibonhaaGreatDoorHvO
import Derived.Test.YtjjdffafibonhaaGreatDoorGenC
import Derived.Test.YtjjdffafibonhaaGreatDoorMix
namespace Go.Proofs.YtjjdffafibonhaaGreatDoor
open Go.RowKit

set_option maxRecDepth 100000 in
set_option maxHeartbeats 400000 in
theorem hdown_any (g : Gh) (x : World) (d : Nat) (D : Dev) (hD : DevAt g x d D) : Calls Tryz.prog 55 #[.pointer (some ⟨d, 0, none⟩)] x fun e x' => e = .returned (.bool D.down) ∧ x = x' := by
  obtain ⟨km, nm, A, cap, xs, hb, hi⟩ := hD
  have c3 : x.cell? ⟨d, 3, none⟩ = some (.bool D.down) := hb.cell 3
  clear hb hi
  go_enter Tryz.func55, Tryz.ntmps55
  go_wp2_with fail
  go_ret
  exact ⟨rfl, rfl⟩

theorem HvMap.ne {m : Nat} {E : List Hv} {x : World} {b : Nat} {T : TypeId} {cs : List Value} (h : HvMap m E x) (hb : Blk b T cs x) : m ≠ b := fun e => by
  obtain ⟨L, ⟨es, clock, h1, _⟩, _⟩ := h
  have h2 : x.heap[b]? = some (.cells cs.toArray T (0, 0)) := hb
  rw [e, h2] at h1
  cases h1
theorem HvAt.kill {g : Gh} {x : World} {b d : Nat} {name : ByteArray} {ch : Int} {E : List Hv} {dead : Bool} (h : HvAt g x b d name ch E dead) (v : Bool) : HvAt g (x.setCell ⟨b, 4, none⟩ (.bool v)) b d name ch E v ∧ Ext (· = b) g x g (x.setCell ⟨b, 4, none⟩ (.bool v)) := by
  have hx : Ext (· = b) g x g (x.setCell ⟨b, 4, none⟩ (.bool v)) := (Ext.refl _ g x).setCell (p := ⟨b, 4, none⟩) (fun _ => h.O) h.F _
  obtain ⟨m, hb, hmp, hO, hF⟩ := h.ex
  have hmb : m ≠ b := fun e => by
    obtain ⟨L, ⟨es, clock, h1, _⟩, _⟩ := hmp
    obtain ⟨cs, h2⟩ : ∃ cs, x.heap[b]? = some (.cells cs 67 (0, 0)) := ⟨_, hb⟩
    rw [e, h2] at h1
    cases h1
  refine ⟨⟨⟨m, ?_, hmp.of (Below.heap_setCell x ⟨b, 4, none⟩ _ m hmb), hO, hF⟩, h.O, h.F, h.ok⟩, hx⟩
  have := hb.set 4 (.bool v)
  simpa [hvCs] using this

set_option maxRecDepth 100000 in
set_option maxHeartbeats 800000 in
theorem ready_dead {g : Gh} {x : World} {b d : Nat} {name : ByteArray} {ch : Int} {E : List Hv} (h : HvAt g x b d name ch E true) : Calls Tryz.prog 38 #[.pointer (some ⟨b, 0, none⟩)] x fun e x' => e = .returned (.int .i64 344) ∧ x = x' := by
  obtain ⟨m, hb, _⟩ := h.ex
  have c4 : x.cell? ⟨b, 4, none⟩ = some (.bool true) := hb.cell 4
  clear hb
  go_enter Tryz.func38, Tryz.ntmps38
  go_wp2_with fail
  go_ret
  exact ⟨rfl, rfl⟩
set_option maxRecDepth 100000 in
set_option maxHeartbeats 800000 in
theorem ready_up {g : Gh} {x : World} {b d : Nat} {name : ByteArray} {ch : Int} {E : List Hv} (h : HvAt g x b d name ch E false) (D : Dev) (hD : DevAt g x d D) (hdn : D.down = false) : Calls Tryz.prog 38 #[.pointer (some ⟨b, 0, none⟩)] x fun e x' => e = .returned (.int .i64 0) ∧ x = x' := by
  obtain ⟨m, hb, _⟩ := h.ex
  have c4 : x.cell? ⟨b, 4, none⟩ = some (.bool false) := hb.cell 4
  have c0 : x.cell? ⟨b, 0, none⟩ = some (.pointer (some ⟨d, 0, none⟩)) := hb.cell 0
  have hd := hdown_any g x d D hD
  rw [hdn] at hd
  have HD := Lib.hid hd
  clear hb hd hdn
  go_enter Tryz.func38, Tryz.ntmps38
  go_wp2_with fail
  refine HD.out.mono ?_
  rintro e x' ⟨rfl, rfl⟩
  go_wp2_with fail
  go_ret
  exact ⟨rfl, rfl⟩
set_option maxRecDepth 100000 in
set_option maxHeartbeats 800000 in
theorem ready_down {g : Gh} {x : World} {b d : Nat} {name : ByteArray} {ch : Int} {E : List Hv} (h : HvAt g x b d name ch E false) (D : Dev) (hD : DevAt g x d D) (hdn : D.down = true) : Calls Tryz.prog 38 #[.pointer (some ⟨b, 0, none⟩)] x fun e x' => e = .returned (.int .i64 303) ∧ HvAt g x' b d name ch E true ∧ Ext (· = b) g x g x' := by
  have hk := h.kill true
  obtain ⟨m, hb, _⟩ := h.ex
  have c4 : x.cell? ⟨b, 4, none⟩ = some (.bool false) := hb.cell 4
  have c0 : x.cell? ⟨b, 0, none⟩ = some (.pointer (some ⟨d, 0, none⟩)) := hb.cell 0
  have z := hb.fz
  have hd := hdown_any g x d D hD
  rw [hdn] at hd
  have HD := Lib.hid hd
  have HK := Lib.hid hk
  clear hb hd hdn hk
  go_enter Tryz.func38, Tryz.ntmps38
  go_wp2_with fail
  refine HD.out.mono ?_
  rintro e x' ⟨rfl, rfl⟩
  go_wp2_with fail
  go_ret
  exact ⟨rfl, HK.out.1, HK.out.2⟩

theorem row_rd (g : Gh) {x w2 : World} {E : List Hv} (hb : Below x.heap.size x w2) (hrow : HvRow x.heap.size E w2) : ∃ g2, Ext (fun _ => False) g x g2 w2 ∧ Rd 3 g2 w2 (some ⟨x.heap.size, 0, none⟩) E.length (celH E) := by
  refine ⟨⟨fun k => if k = x.heap.size then E.length * 3 else g.F k, g.O⟩, (Ext.of_below _ g hb).up (fun k hk => by dsimp only; rw [if_neg (by omega)]) (fun k hk => rfl), celH_len E, fun _ => ⟨x.heap.size, 0, rfl, by simp, hrow.1, fun j u hu => ?_⟩⟩
  rw [Nat.zero_add]
  exact hrow.2 j u hu
/-- What a save asks of the device. -/
structure SvOk (D : Dev) (name : ByteArray) (ch : Int) (o0 o1 : Option Ck) : Prop where
  dn : D.down = false
  nm : nmB false 40 name = true
  s0 : SlotIs D (slotN name 0) o0
  s1 : SlotIs D (slotN name 1) o1
  p0 : 0 ≤ ch
  p1 : (posO (newS o0 o1).1 : Int) ≤ ch
  pb : ch < 900000000
  sq : seqO (newS o0 o1).1 + 1 < 1000000000
  n : D.now.n < 256
  pl : D.pend.length ≤ 999999
noncomputable def hvOp (name : ByteArray) (ch : Int) (o0 o1 : Option Ck) (E : List Hv) : POp := svOp name (newS o0 o1).2 ⟨seqO (newS o0 o1).1 + 1, (ch + 1).toNat, encH E⟩

theorem svI_two (D : Dev) (o : POp) : svI D o = 0 ∨ svI D o = 303 := by
  unfold svI
  split
  · unfold syncI
    split
    · exact .inr rfl
    · split
      · exact .inr rfl
      · exact .inl rfl
  · rcases actI_two D with h | h
    · exact .inl h
    · exact .inr h

set_option maxRecDepth 100000 in
set_option maxHeartbeats 3200000 in
theorem change_any (g : Gh) (x : World) (b d : Nat) (name : ByteArray) (ch : Int) (E E' : List Hv) (m' : Nat) (D : Dev) (o0 o1 : Option Ck) (h : HvAt g x b d name ch E false) (hD : DevAt g x d D) (hs : SvOk D name ch o0 o1) (hm : HvMap m' E' x) (hE : HvOk E') (hnum : ∀ h ∈ E', h.num < 4611686018427387904) (hO : g.O m' = b) (hF : g.F m' = 0) (hbd : b ≠ d) :
    Calls Tryz.prog 39 #[.pointer (some ⟨b, 0, none⟩), .map (some m')] x fun e x' => e = .returned (.int .i64 (svI D (hvOp name ch o0 o1 E'))) ∧ ∃ g', Ext (fun o => o = d ∨ o = b ∨ x.heap.size ≤ o) g x g' x' ∧ DevAt g' x' d (svD D (hvOp name ch o0 o1 E')) ∧
      ((svI D (hvOp name ch o0 o1 E') = 0 ∧ HvAt g' x' b d name (ch + 1) E' false) ∨ (svI D (hvOp name ch o0 o1 E') = 303 ∧ HvAt g' x' b d name ch E true)) := by
  obtain ⟨m, hb, hmp, hmO, hmF⟩ := h.ex
  have hbO := h.O
  have hbF := h.F
  have hS : Blk b 67 (hvCs d name ch m false) x.drew := hb.below (Below.refl _ _).drew
  have hx0 : Ext (fun _ => False) g x g x.drew := (Ext.refl _ _ _).drew
  have hch0 := hs.p0
  have hchb := hs.pb
  have hsrt := hsorted_any m' E' x.drew (hm.of rfl) hE.srt hE.ok (by have := hE.len; omega)
  have HSRT := Lib.hid hsrt
  have HB := Lib.hid hb
  have HH := Lib.hid h
  have HD := Lib.hid hD
  have HS := Lib.hid hs
  have HM := Lib.hid hm
  have HE := Lib.hid hE
  have HNUM := Lib.hid hnum
  have hmlt := hm.lt
  have hblt := hb.lt
  have hdlt := hD.lt
  clear hb hsrt hmp h hD hs hm hE hnum
  go_enter Tryz.func39, Tryz.ntmps39
  go_wp2_with fail
  (refine wp_region_mix (S := Blk b 67 (hvCs d name ch m false)) [17] [([0, 1, 2, 3, 4, 5, 6, 7, 8, 9, 10, 11, 12, 13], 14), ([], 15), ([], 16)] (by kernel_rfl) (by kernel_rfl) (by intro c a d v w h; cases d <;> exact h) hS ?_; have hN : Nonempty (Held (Blk b 67 (hvCs d name ch m false))) := ⟨⟨_, hS⟩⟩)
  have r0 : ∀ y : Held (Blk b 67 (hvCs d name ch m false)), y.w.cell? ⟨b, 0, none⟩ = some (.pointer (some ⟨d, 0, none⟩)) := fun y => y.ok.cell 0
  have r1 : ∀ y : Held (Blk b 67 (hvCs d name ch m false)), y.w.cell? ⟨b, 1, none⟩ = some (.string name) := fun y => y.ok.cell 1
  have r2 : ∀ y : Held (Blk b 67 (hvCs d name ch m false)), y.w.cell? ⟨b, 2, none⟩ = some (.int .i64 ch) := fun y => y.ok.cell 2
  (unfold wpMix wpRd; (repeat (first | simp only [List.filterMap_cons] | simp only [List.filterMap_nil] | simp only [List.getElem?_toArray] | simp only [List.getElem?_cons_zero] | simp only [List.getElem?_cons_succ])); (try dsimp only); change wpQuiet _ _ _ _ (_ :: _ :: _ :: _ :: _ :: _ :: _ :: _ :: _ :: _ :: _ :: _ :: _ :: _ :: []) _; (repeat (go_big_quiet_step (fail))); refine wpQuiet_nil ?_; (try dsimp only))
  clear r0 r1 r2
  go_wp2_with fail
  refine HSRT.out.mono ?_
  rintro e w2 ⟨rfl, hb2, hrow⟩
  obtain ⟨g2, hx2, hr2⟩ := row_rd g hb2 hrow
  have HX2 := Lib.hid (hx0.trans hx2)
  have HR2 := Lib.hid hr2
  have hB2 : Blk b 67 (hvCs d name ch m false) w2 := HB.out.ext HX2.out (fun h => h)
  clear hx2 hr2 hb2 hrow hx0 hS HSRT
  go_wp2_with fail
  refine ⟨hB2, ?_⟩
  clear hB2
  (unfold wpMix wpRd; (repeat (first | simp only [List.filterMap_cons] | simp only [List.filterMap_nil] | simp only [List.getElem?_toArray] | simp only [List.getElem?_cons_zero] | simp only [List.getElem?_cons_succ])); (try dsimp only); change wpQuiet _ _ _ _ ([]) _; (repeat (go_big_quiet_step (fail))); refine wpQuiet_nil ?_; (try dsimp only))
  have HEN := Lib.hid (hencode_any g2 w2 _ E'.length E' HR2.out (fun q hq => by have h1 := okH_size (HE.out.ok q hq); have h2 := HE.out.ok q hq; simp only [okH, Bool.and_eq_true, decide_eq_true_eq] at h2; exact ⟨by omega, by omega, by omega, HNUM.out q hq⟩) (by have := HE.out.len; omega))
  go_wp2_with fail
  refine HEN.out.mono ?_
  rintro e w3 ⟨A', c', g3, rfl, hx3, hby⟩
  have HX3 := Lib.hid (HX2.out.trans hx3)
  have HBY := Lib.hid hby
  have hB3 : Blk b 67 (hvCs d name ch m false) w3 := HB.out.ext HX3.out (fun h => h)
  clear hx3 hby HX2 HR2 HEN
  go_wp2_with fail
  refine ⟨hB3, ?_⟩
  clear hB3
  (unfold wpMix wpRd; (repeat (first | simp only [List.filterMap_cons] | simp only [List.filterMap_nil] | simp only [List.getElem?_toArray] | simp only [List.getElem?_cons_zero] | simp only [List.getElem?_cons_succ])); (try dsimp only); change wpQuiet _ _ _ _ ([]) _; (repeat (go_big_quiet_step (fail))); refine wpQuiet_nil ?_; (try dsimp only))
  have hlen : (encH E').length ≤ 2097152 := by
    have h1 := encs_len E' (fun q hq => by have h1 := okH_size (HE.out.ok q hq); have h2 := HE.out.ok q hq; simp only [okH, Bool.and_eq_true, decide_eq_true_eq] at h2; exact ⟨by omega, by omega, by omega, HNUM.out q hq⟩)
    have h2 := encU_len (2 * E'.length) 10 (by have := HE.out.len; omega) (by omega)
    have h3 := HE.out.len
    rw [encH, List.length_append]
    omega
  have hsv := save_ok d g3 w3 D (HD.out.ext HX3.out (fun h => h)) HS.out.dn name HS.out.nm o0 o1 HS.out.s0 HS.out.s1 (ch + 1) A' c' (encH E') HBY.out (by omega) (by have := HS.out.p1; omega) (by omega) HS.out.sq hlen HS.out.n HS.out.pl
  have HSV := Lib.hid hsv
  have HOP : Hid (svOp name (newS o0 o1).2 ⟨seqO (newS o0 o1).1 + 1, (ch + 1).toNat, encH E'⟩ = hvOp name ch o0 o1 E') := rfl
  rw [HOP.out] at HSV
  clear hsv hlen HOP
  obtain ⟨op, hop⟩ : ∃ op, hvOp name ch o0 o1 E' = op := ⟨_, rfl⟩
  rw [hop] at HSV
  have HOPE := Lib.hid hop
  clear hop
  obtain ⟨nn, hnn⟩ : ∃ nn, (encH E').length = nn := ⟨_, rfl⟩
  rw [hnn] at HSV ⊢
  clear hnn
  go_wp2_with fail
  refine HSV.out.mono ?_
  rintro e w4 ⟨rfl, g4, hx4, hD4⟩
  have hsz3 := HX3.out.size
  have hx4b : Ext (fun o => o = d ∨ o = b ∨ x.heap.size ≤ o) g x g4 w4 := (HX3.out.imp (fun _ h => h.elim)).trans (hx4.imp (fun o h => by rcases h with h | h; exact .inl h; exact .inr (.inr (by omega))))
  have hxk : Ext (fun o => o = d ∨ x.heap.size ≤ o) g x g4 w4 := (HX3.out.imp (fun _ h => h.elim)).trans (hx4.imp (fun o h => by rcases h with h | h; exact .inl h; exact .inr (by omega)))
  have hnb : ¬ (b = d ∨ x.heap.size ≤ b) := by omega
  have HH4 := Lib.hid (HH.out.ext hxk hnb)
  have hB4 : Blk b 67 (hvCs d name ch m false) w4 := HB.out.ext hxk (by rw [hbO]; exact hnb)
  have hM4 : HvMap m' E' w4 := HM.out.of (hxk.keep m' hmlt (by rw [hO]; exact hnb)).1
  have hO4 : g4.O m' = b := (hxk.own _ hmlt).trans hO
  have hF4 : g4.F m' = 0 := hxk.zero _ hmlt hF
  have HM4 := Lib.hid (And.intro hM4 (And.intro hO4 hF4))
  have HX4 := Lib.hid hx4b
  have HD4 := Lib.hid hD4
  have HB4 := Lib.hid hB4
  clear hx4 hD4 hx4b hxk hM4 hO4 hF4 HX3 HBY HSV HD HM HB
  go_wp2_with fail
  refine ⟨hB4, ?_⟩
  clear hB4
  (unfold wpMix wpRd; (repeat (first | simp only [List.filterMap_cons] | simp only [List.filterMap_nil] | simp only [List.getElem?_toArray] | simp only [List.getElem?_cons_zero] | simp only [List.getElem?_cons_succ])); (try dsimp only); change wpQuiet _ _ _ _ (_ :: []) _; (repeat (go_big_quiet_step (fail))); refine wpQuiet_nil ?_; (try dsimp only))
  clear hN
  rcases svI_two D op with h0 | h0
  · rw [h0]
    have c2 : w4.cell? ⟨b, 2, none⟩ = some (.int .i64 ch) := HB4.out.cell 2
    have c3 : w4.cell? ⟨b, 3, none⟩ = some (.map (some m)) := HB4.out.cell 3
    have z := HB4.out.fz
    have HH0 := Lib.hid h0
    clear h0
    go_wp2_with fail
    go_ret
    have hs1 : Ext (fun o => o = d ∨ o = b ∨ x.heap.size ≤ o) g4 w4 g4 (w4.setCell ⟨b, 2, none⟩ (.int .i64 (ch + 1))) := (Ext.refl _ g4 w4).setCell (p := ⟨b, 2, none⟩) (fun _ => .inr (.inl HH4.out.O)) HH4.out.F _
    have hs2 : Ext (fun o => o = d ∨ o = b ∨ x.heap.size ≤ o) g4 (w4.setCell ⟨b, 2, none⟩ (.int .i64 (ch + 1))) g4 ((w4.setCell ⟨b, 2, none⟩ (.int .i64 (ch + 1))).setCell ⟨b, 3, none⟩ (.map (some m'))) := (Ext.refl _ g4 _).setCell (p := ⟨b, 3, none⟩) (fun _ => .inr (.inl HH4.out.O)) HH4.out.F _
    have ht1 : Ext (· = b) g4 w4 g4 (w4.setCell ⟨b, 2, none⟩ (.int .i64 (ch + 1))) := (Ext.refl _ g4 w4).setCell (p := ⟨b, 2, none⟩) (fun _ => HH4.out.O) HH4.out.F _
    have ht2 : Ext (· = b) g4 (w4.setCell ⟨b, 2, none⟩ (.int .i64 (ch + 1))) g4 ((w4.setCell ⟨b, 2, none⟩ (.int .i64 (ch + 1))).setCell ⟨b, 3, none⟩ (.map (some m'))) := (Ext.refl _ g4 _).setCell (p := ⟨b, 3, none⟩) (fun _ => HH4.out.O) HH4.out.F _
    have hmb := HM4.out.1.ne HB4.out
    rw [HOPE.out, HH0.out]
    refine ⟨rfl, g4, (HX4.out.trans hs1).trans hs2, HD4.out.ext (ht1.trans ht2) (fun e => hbd e.symm), .inl ⟨rfl, ⟨⟨m', ?_, ?_, HM4.out.2.1, HM4.out.2.2⟩, HH4.out.O, HH4.out.F, HE.out⟩⟩⟩
    · have := (HB4.out.set 2 (.int .i64 (ch + 1))).set 3 (.map (some m'))
      simpa [hvCs] using this
    · exact (HM4.out.1.of (Below.heap_setCell w4 ⟨b, 2, none⟩ _ m' hmb)).of (Below.heap_setCell _ ⟨b, 3, none⟩ _ m' hmb)
  · rw [h0]
    have c4 : w4.cell? ⟨b, 4, none⟩ = some (.bool false) := HB4.out.cell 4
    have z := HB4.out.fz
    have HH0 := Lib.hid h0
    have hk := HH4.out.kill true
    have HK := Lib.hid hk
    clear h0 hk
    go_wp2_with fail
    go_ret
    rw [HOPE.out, HH0.out]
    exact ⟨rfl, g4, HX4.out.trans (HK.out.2.imp (fun o e => .inr (.inl e))), HD4.out.ext HK.out.2 (fun e => hbd e.symm), .inr ⟨rfl, HK.out.1⟩⟩

end Go.Proofs.YtjjdffafibonhaaGreatDoor
