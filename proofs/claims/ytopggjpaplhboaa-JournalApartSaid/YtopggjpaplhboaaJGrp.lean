/-
  The walk of JournalGroups.
-/
import Derived.Test.YtopggjpaplhboaaLook
import Derived.Test.YtopggjpaplhboaaJopen2
import Derived.Test.YtopggjpaplhboaaOpenK
namespace Go.Proofs.Ytopggjpaplhboaa
open Go.RowKit

/-- The tape at a law's beginning. -/
theorem TapeAt.new {w : World} {A : Option Addr} {c : Nat} {L : List Int} (hr : Rd 1 (ghW w) w A L.length (L.map (Value.int .i64))) (hL : ∀ x ∈ L, (Lit.int .i64 x).wf = true) : Ext (fun _ => False) (ghW w) w ((ghW w).box w.heap.size) (w.alloc (.cells #[.slice A L.length c, .int .i64 0] 43)) ∧ TapeAt ((ghW w).box w.heap.size) (w.alloc (.cells #[.slice A L.length c, .int .i64 0] 43)) w.heap.size 0 := by
  have hx := Ext.box (fun _ => False) (ghW w) w (.cells #[.slice A L.length c, .int .i64 0] 43)
  exact ⟨hx, A, c, L, 0, Nat.le_refl _, Blk.new w 43 (tpCs A L.length c 0), ⟨hr.ext hx, fun x hx => wf_i64 (hL x hx)⟩, Gh.box_O _ _, Gh.box_F _ _⟩

/-- Two journals on two devices, and a tape. -/
structure Grp (w : World) (g : Gh) (x : World) (t ja da jb db : Nat) (Ja : Jrn) (Da : Dev) (Jb : Jrn) (Db : Dev) (m : Nat) : Prop where
  hx : Ext (fun o => w.heap.size ≤ o) (ghW w) w g x
  ha : JAt g x ja da Ja
  hda : DevAt g x da Da
  hb : JAt g x jb db Jb
  hdb : DevAt g x db Db
  ht : TapeAt g x t m
theorem Grp.step {w : World} {g g' : Gh} {x x' : World} {t ja da jb db : Nat} {Ja : Jrn} {Da : Dev} {Jb : Jrn} {Db : Dev} {m : Nat} {M : Nat → Prop} (h : Grp w g x t ja da jb db Ja Da Jb Db m) (hx : Ext M g x g' x') (hM : ∀ o, M o → x.heap.size ≤ o) : Grp w g' x' t ja da jb db Ja Da Jb Db m :=
  ⟨h.hx.trans (hx.imp (fun o ho => Nat.le_trans h.hx.size (hM o ho))), h.ha.ext hx (fun e => absurd (hM _ e) (by have := h.ha.lt; omega)), h.hda.ext hx (fun e => absurd (hM _ e) (by have := h.hda.lt; omega)), h.hb.ext hx (fun e => absurd (hM _ e) (by have := h.hb.lt; omega)), h.hdb.ext hx (fun e => absurd (hM _ e) (by have := h.hdb.lt; omega)), h.ht.ext hx (fun e => absurd (hM _ e) (by have := h.ht.lt; omega))⟩
theorem Grp.opA {w : World} {g : Gh} {x x' : World} {t ja da jb db : Nat} {Ja Ja' : Jrn} {Da Da' : Dev} {Jb : Jrn} {Db : Dev} {m : Nat} (h : Grp w g x t ja da jb db Ja Da Jb Db m) (hP : BothP ja da g x Ja' Da' x') (h1 : w.heap.size ≤ ja) (h2 : w.heap.size ≤ da) (n1 : jb ≠ ja) (n2 : jb ≠ da) (n3 : db ≠ ja) (n4 : db ≠ da) (n5 : t ≠ ja) (n6 : t ≠ da) : ∃ g', Grp w g' x' t ja da jb db Ja' Da' Jb Db m ∧ Ext (fun o => o = da ∨ o = ja) g x g' x' := by
  obtain ⟨g', hx, hj, hd⟩ := hP
  exact ⟨g', ⟨h.hx.trans (hx.imp (fun o ho => by rcases ho with rfl | rfl <;> assumption)), hj, hd, h.hb.ext hx (fun e => by rcases e with e | e; exact n2 e; exact n1 e), h.hdb.ext hx (fun e => by rcases e with e | e; exact n4 e; exact n3 e), h.ht.ext hx (fun e => by rcases e with e | e; exact n6 e; exact n5 e)⟩, hx⟩
theorem Grp.opB {w : World} {g : Gh} {x x' : World} {t ja da jb db : Nat} {Ja : Jrn} {Da : Dev} {Jb Jb' : Jrn} {Db Db' : Dev} {m : Nat} (h : Grp w g x t ja da jb db Ja Da Jb Db m) (hP : BothP jb db g x Jb' Db' x') (h1 : w.heap.size ≤ jb) (h2 : w.heap.size ≤ db) (n1 : ja ≠ jb) (n2 : ja ≠ db) (n3 : da ≠ jb) (n4 : da ≠ db) (n5 : t ≠ jb) (n6 : t ≠ db) : ∃ g', Grp w g' x' t ja da jb db Ja Da Jb' Db' m ∧ Ext (fun o => o = db ∨ o = jb) g x g' x' := by
  obtain ⟨g', hx, hj, hd⟩ := hP
  exact ⟨g', ⟨h.hx.trans (hx.imp (fun o ho => by rcases ho with rfl | rfl <;> assumption)), h.ha.ext hx (fun e => by rcases e with e | e; exact n2 e; exact n1 e), h.hda.ext hx (fun e => by rcases e with e | e; exact n4 e; exact n3 e), hj, hd, h.ht.ext hx (fun e => by rcases e with e | e; exact n6 e; exact n5 e)⟩, hx⟩

theorem Grp.tape {w : World} {g g' : Gh} {x x' : World} {t ja da jb db : Nat} {Ja : Jrn} {Da : Dev} {Jb : Jrn} {Db : Dev} {m m' : Nat} (h : Grp w g x t ja da jb db Ja Da Jb Db m) (hx : Ext (· = t) g x g' x') (ht : TapeAt g' x' t m') (h0 : w.heap.size ≤ t) (n1 : ja ≠ t) (n2 : da ≠ t) (n3 : jb ≠ t) (n4 : db ≠ t) : Grp w g' x' t ja da jb db Ja Da Jb Db m' :=
  ⟨h.hx.trans (hx.imp (fun o e => by subst e; exact h0)), h.ha.ext hx n1, h.hda.ext hx n2, h.hb.ext hx n3, h.hdb.ext hx n4, ht⟩

set_option maxRecDepth 100000 in
set_option maxHeartbeats 3200000 in
theorem lawGroups_any (w : World) (A : Option Addr) (c : Nat) (L : List Int) (hr : Rd 1 (ghW w) w A L.length (L.map (Value.int .i64))) (hL : ∀ x ∈ L, (Lit.int .i64 x).wf = true) :
    Calls Try.prog 7 #[.slice A L.length c] w fun e w' => e = .returned (.bool true) ∧ Below w.heap.size w w' := by
  obtain ⟨hx0, ht0⟩ := TapeAt.new (c := c) hr hL
  have HX0 := Lib.hid hx0
  have HT0 := Lib.hid ht0
  clear hx0 ht0 hr hL
  go_enter Try.func7, Try.ntmps7
  go_wp2_with fail
  refine (gnew ((ghW w).box w.heap.size) _).mono ?_
  rintro e w1 ⟨d, g1, rfl, hd, hx1, hD1⟩
  have HX1 := Lib.hid (HX0.out.trans hx1)
  have HT1 := Lib.hid (HT0.out.ext hx1 (fun h => h))
  have HD1 := Lib.hid hD1
  have s0 := HT0.out.lt
  have d1 := hD1.lt
  clear hx1 hD1 HX0 HT0
  go_wp2_with fail
  refine (gnew g1 w1).mono ?_
  rintro e w2 ⟨c2, g2, rfl, hc2, hx2, hC2⟩
  have HX2 := Lib.hid (HX1.out.trans hx2)
  have HT2 := Lib.hid (HT1.out.ext hx2 (fun h => h))
  have HD2 := Lib.hid (HD1.out.ext hx2 (fun h => h))
  have HC2 := Lib.hid hC2
  have c2l := hC2.lt
  have d2 := HD2.out.lt
  clear hx2 hC2 HX1 HT1 HD1
  go_wp2_with fail
  refine (open_none d g2 w2 dev0 HD2.out ⟨#[106]⟩ (by decide) rfl rfl).mono ?_
  rintro e w3 ⟨a, g3, rfl, ha, hx3, hA3⟩
  have HX3 := Lib.hid (HX2.out.trans hx3)
  have HT3 := Lib.hid (HT2.out.ext hx3 (fun h => h))
  have HD3 := Lib.hid (HD2.out.ext hx3 (fun h => h))
  have HC3 := Lib.hid (HC2.out.ext hx3 (fun h => h))
  have HA3 := Lib.hid hA3
  have a3 := hA3.lt
  clear hx3 hA3 HX2 HT2 HD2 HC2
  go_wp2_with fail
  refine (open_none c2 g3 w3 dev0 HC3.out ⟨#[106]⟩ (by decide) rfl rfl).mono ?_
  rintro e w4 ⟨b, g4, rfl, hb, hx4, hB4⟩
  have HG4 : Hid (Grp w g4 w4 w.heap.size a d b c2 (jrn0 ⟨#[106]⟩) dev0 (jrn0 ⟨#[106]⟩) dev0 0) := ⟨(HX3.out.trans hx4).imp (fun _ h => h.elim), HA3.out.ext hx4 (fun h => h), HD3.out.ext hx4 (fun h => h), hB4, HC3.out.ext hx4 (fun h => h), HT3.out.ext hx4 (fun h => h)⟩
  have hdt : w.heap.size < d := by
    have : (w.alloc (.cells #[.slice A L.length c, .int .i64 0] 43)).heap.size = w.heap.size + 1 := by simp
    omega
  have hcd : d < c2 := by omega
  have hac : c2 < a := by omega
  have hba : a < b := by omega
  clear hx4 hB4 HX3 HT3 HD3 HC3 HA3 s0 d1 c2l d2 a3 hd hc2 ha hb
  go_wp2_with fail
  refine (known_any g4 w4).mono ?_
  rintro e w5 ⟨rfl, g5, hx5⟩
  have HG5 := Lib.hid (HG4.out.step hx5 (fun _ h => h))
  clear hx5 HG4
  go_wp2_with fail
  refine (next_any w.heap.size 0 g5 w5 HG5.out.ht (by omega) 12 (by omega)).mono ?_
  rintro e w6 ⟨v, rfl, hv0, hv1, hx6, ht6⟩
  have HG6 : Hid (Grp w g5 w6 w.heap.size a d b c2 (jrn0 ⟨#[106]⟩) dev0 (jrn0 ⟨#[106]⟩) dev0 1) := ⟨HG5.out.hx.trans (hx6.imp (fun o h => by subst h; exact Nat.le_refl _)), HG5.out.ha.ext hx6 (by omega), HG5.out.hda.ext hx6 (by omega), HG5.out.hb.ext hx6 (by omega), HG5.out.hdb.ext hx6 (by omega), ht6⟩
  obtain ⟨vn, rfl⟩ : ∃ vn : Nat, v = vn := ⟨v.toNat, by omega⟩
  have hvn : vn ≤ 11 := by omega
  clear hx6 ht6 HG5 hv0 hv1
  go_wp2_with fail
  go_loopw [10] (fun i wr => ∃ (k m : Nat) (gr : Gh) (Ja Jb : Jrn) (Db : Dev), i = .int .i64 k ∧ k ≤ 11 ∧ Grp w gr wr w.heap.size a d b c2 Ja dev0 Jb Db m ∧ Good Ja dev0 0 (11 - k) ∧ Good Jb Db 0 (11 - k) ∧ m ≤ 1 + 8 * (11 - k) ∧ Ja.name = ⟨#[106]⟩ ∧ Jb.name = ⟨#[106]⟩ ∧ Ja.start = 0 ∧ Jb.start = 0 ∧ Ja.recs = [] ∧ Jb.pend = [] ∧ Jb.recs = Ja.pend ∧ Ja.pend.length ≤ 11 - k ∧ lens Ja.pend ≤ 6 * Ja.pend.length) (fun i _ => (intOf i).toNat)
  case atStart => exact ⟨vn, 1, g5, jrn0 ⟨#[106]⟩, jrn0 ⟨#[106]⟩, dev0, rfl, hvn, HG6.out, Good.dev0 (by decide) _, Good.dev0 (by decide) _, by omega, rfl, rfl, rfl, rfl, rfl, rfl, rfl, by simp [jrn0], by simp [jrn0, lens]⟩
  case round =>
    obtain ⟨k, m, gr, Ja, Jb, Db, rfl, hk, hg, hGa, hGb, hm, hna, hnb, hsa, hsb, hra, hpb, hrb, hpl, hll⟩ := hrel
    have HG7 := Lib.hid hg
    have HGA := Lib.hid hGa
    have HGB := Lib.hid hGb
    have HP := Lib.hid (And.intro hna (And.intro hnb (And.intro hsa (And.intro hsb (And.intro hra (And.intro hpb hrb))))))
    have HL := Lib.hid hll
    clear hg hGa hGb hna hnb hsa hsb hra hpb hrb hll HG6
    by_cases hlt : 0 < k
    · go_wp2_with fail
      refine (record_any w.heap.size m gr wr HG7.out.ht (by omega)).mono ?_
      rintro e w8 ⟨A8, c8, l, g8, rfl, hl8, hB8, hx8, ht8⟩
      have HG8 := Lib.hid (HG7.out.tape hx8 ht8 (Nat.le_refl _) (by omega) (by omega) (by omega) (by omega))
      have HB8 := Lib.hid hB8
      clear hx8 ht8 hB8 HG7
      obtain ⟨hna, hnb, hsa, hsb, hra, hpb, hrb⟩ := HP.out
      have hll := HL.out
      have eA := HGA.out.app0 l (by omega) (by rw [hra]; simp only [List.length_nil]; omega) (by rw [hra]; simp only [lens]; omega)
      have eB := HGB.out.app0 l (by omega) (by rw [hpb, hrb]; simp only [List.length_nil]; omega) (by rw [hpb, hrb]; simp only [lens]; omega)
      have HA1 := Lib.hid eA.1
      have HA2 := Lib.hid eA.2
      have HB1 := Lib.hid eB.1
      have HB2 := Lib.hid eB.2
      have HGA9 := Lib.hid (HGA.out.appJ l)
      have HGB9 := Lib.hid (HGB.out.appJ l)
      clear eA eB hna hnb hsa hsb hra hpb hrb hll
      have HAA : Hid (Calls Try.prog 20 #[.pointer (some ⟨a, 0, none⟩), .slice A8 l.length c8] w8 fun e w' => e = .returned (.int .i64 (jappI Ja l)) ∧ BothP a d g8 w8 (jappJ Ja l) dev0 w') := gappend a d g8 w8 Ja dev0 0 _ HG8.out.ha HG8.out.hda HGA.out (by omega) (by omega) A8 c8 l HB8.out (by omega)
      have HBB : Hid (∀ g9 w9, Grp w g9 w9 w.heap.size a d b c2 (jappJ Ja l) dev0 Jb Db (m + 8) → BytesAt g9 w9 (.slice A8 l.length c8) l → Calls Try.prog 20 #[.pointer (some ⟨b, 0, none⟩), .slice A8 l.length c8] w9 fun e w' => e = .returned (.int .i64 (jappI Jb l)) ∧ BothP b c2 g9 w9 (jappJ Jb l) Db w') := fun g9 w9 hg hb => gappend b c2 g9 w9 Jb Db 0 _ hg.hb hg.hdb HGB.out (by omega) (by omega) A8 c8 l hb (by omega)
      rw [HA1.out] at HAA
      rw [HB1.out] at HBB
      generalize hln : l.length = ln at *
      go_wp2_with fail
      refine HAA.out.mono ?_
      rintro e w9 ⟨rfl, hP⟩
      obtain ⟨g9, hg9, hx9⟩ := HG8.out.opA hP (by omega) (by omega) (by omega) (by omega) (by omega) (by omega) (by omega) (by omega)
      have HG9 := Lib.hid hg9
      have HB9 := Lib.hid (HB8.out.ext hx9)
      clear hP hg9 hx9 HG8 HB8 HAA
      go_wp2_with fail
      refine (HBB.out g9 w9 HG9.out HB9.out).mono ?_
      rintro e w10 ⟨rfl, hP⟩
      obtain ⟨g10, hg10, hx10⟩ := HG9.out.opB hP (by omega) (by omega) (by omega) (by omega) (by omega) (by omega) (by omega) (by omega)
      have HG10 := Lib.hid hg10
      clear hP hg10 hx10 HG9 HB9 HBB
      go_wp2_with fail
      refine (gcommit b c2 g10 w10 _ Db 0 _ HG10.out.hb HG10.out.hdb HGB9.out (by omega) (by omega)).mono ?_
      rintro e w11 ⟨rfl, D11, hP, hG11, _⟩
      obtain ⟨g11, hg11, hx11⟩ := HG10.out.opB hP (by omega) (by omega) (by omega) (by omega) (by omega) (by omega) (by omega) (by omega)
      have HG11 := Lib.hid hg11
      have HGB11 := Lib.hid hG11
      clear hP hg11 hx11 HG10 hG11
      go_wp2_with fail
      go_round
      case rel =>
        obtain ⟨hna, hnb, hsa, hsb, hra, hpb, hrb⟩ := HP.out
        have hll := HL.out
        rw [HA2.out] at HG11 HGA9
        rw [HB2.out] at HG11 HGB11
        refine ⟨k - 1, m + 8, g11, _, _, D11, ?_, by omega, HG11.out, HGA9.out.more (by omega), HGB11.out.more (by omega), by omega, hna, hnb, hsa, hsb, hra, rfl, ?_, ?_, ?_⟩
        · have : ((k - 1 : Nat) : Int) = (k : Int) - 1 := by omega
          rw [this]
        · show Jb.recs ++ (Jb.pend ++ [l]) = Ja.pend ++ [l]
          rw [hpb, hrb]; rfl
        · show (Ja.pend ++ [l]).length ≤ _
          simp only [List.length_append, List.length_cons, List.length_nil]; omega
        · show lens (Ja.pend ++ [l]) ≤ 6 * (Ja.pend ++ [l]).length
          simp only [lens_append, lens, List.length_append, List.length_cons, List.length_nil]; omega
      case measure => simp [intOf]; omega
    · obtain rfl : k = 0 := by omega
      go_wp2_with fail
      refine (gcommit a d gr wr _ dev0 0 _ HG7.out.ha HG7.out.hda HGA.out (by omega) (by omega)).mono ?_
      rintro e w8 ⟨rfl, D8, hP, hG8, _⟩
      obtain ⟨g8, hg8, hx8⟩ := HG7.out.opA hP (by omega) (by omega) (by omega) (by omega) (by omega) (by omega) (by omega) (by omega)
      have HG8 := Lib.hid hg8
      have HGA8 := Lib.hid hG8
      clear hP hg8 hx8 HG7 hG8
      obtain ⟨hna, hnb, hsa, hsb, hra, hpb, hrb⟩ := HP.out
      have HOA : Hid (Calls Try.prog 12 #[.pointer (some ⟨d, 0, none⟩), .string ⟨#[106]⟩] w8 fun e w' => ∃ j g', e = .returned (.tuple #[.pointer (some ⟨j, 0, none⟩), .int .i64 0]) ∧ w8.heap.size ≤ j ∧ Ext (fun o => o = j) g8 w8 g' w' ∧ JAt g' w' j d (disR (comR Ja))) := by
        have := gopen d g8 w8 _ D8 0 _ HG8.out.hda HGA8.out (by omega)
        rw [show (comR Ja).name = ⟨#[106]⟩ from hna] at this
        exact this
      have HOB : Hid (∀ g9 w9, DevAt g9 w9 c2 Db → Calls Try.prog 12 #[.pointer (some ⟨c2, 0, none⟩), .string ⟨#[106]⟩] w9 fun e w' => ∃ j g', e = .returned (.tuple #[.pointer (some ⟨j, 0, none⟩), .int .i64 0]) ∧ w9.heap.size ≤ j ∧ Ext (fun o => o = j) g9 w9 g' w' ∧ JAt g' w' j c2 (disR Jb)) := by
        intro g9 w9 hd9
        have := gopen c2 g9 w9 _ Db 0 _ hd9 HGB.out (by omega)
        rw [hnb] at this
        exact this
      clear hna hnb hsa hsb hra hpb hrb
      go_wp2_with fail
      refine HOA.out.mono ?_
      rintro e w9 ⟨a', g9, rfl, ha9, hx9, hJ9⟩
      have hs8 := HG8.out.hx.size
      have hd8 := HG8.out.hda.lt
      have hc8 := HG8.out.hdb.lt
      have HX9 := Lib.hid (HG8.out.hx.trans (hx9.imp (fun o h => show w.heap.size ≤ o from by subst h; omega)))
      have HDB9 := Lib.hid (HG8.out.hdb.ext hx9 (by omega))
      have HJ9 := Lib.hid hJ9
      have ha9l := hJ9.lt
      have hs9 := hx9.size
      clear hx9 hJ9 HG8 HOA
      go_wp2_with fail
      refine (HOB.out g9 w9 HDB9.out).mono ?_
      rintro e w10 ⟨b', g10, rfl, hb10, hx10, hK10⟩
      have HX10 := Lib.hid (HX9.out.trans (hx10.imp (fun o h => show w.heap.size ≤ o from by subst h; omega)))
      have HJ10 := Lib.hid (HJ9.out.ext hx10 (by omega))
      have HK10 := Lib.hid hK10
      clear hx10 hK10 HX9 HDB9 HJ9 HOB
      have hGAl : ∀ r ∈ (disR (comR Ja)).recs, r.length ≤ 65536 := fun r hr => HGA8.out.rl r (List.mem_append_left _ hr)
      have hGBl : ∀ r ∈ (disR Jb).recs, r.length ≤ 65536 := fun r hr => HGB.out.rl r (List.mem_append_left _ hr)
      have HA0 := Lib.hid hGAl
      have HB0 := Lib.hid hGBl
      have ka := HGA8.out.cnt
      have kb := HGB.out.cnt
      have HEQ : Hid ((disR (comR Ja)).start = 0 ∧ (disR Jb).start = 0 ∧ (disR (comR Ja)).recs = (disR Jb).recs ∧ (disR Jb).recs.length ≤ 4096) := by
        obtain ⟨hna, hnb, hsa, hsb, hra, hpb, hrb⟩ := HP.out
        refine ⟨hsa, hsb, ?_, ?_⟩
        · show Ja.recs ++ Ja.pend = Jb.recs
          rw [hra, hrb]; rfl
        · show Jb.recs.length ≤ 4096
          omega
      clear hGAl hGBl ka kb
      generalize disR (comR Ja) = Ka at *
      generalize disR Jb = Kb at *
      obtain ⟨e1, e2, e3, e4⟩ := HEQ.out
      have HE1 := Lib.hid e1
      have HE2 := Lib.hid e2
      have HE3 := Lib.hid e3
      have HE4 := Lib.hid e4
      clear e1 e2 e3 e4
      go_wp2_with fail
      refine (look_any a' d g10 w10 Ka HJ10.out (by rw [HE1.out]; omega) (by rw [HE1.out]; omega) (by rw [HE3.out]; exact HE4.out) HA0.out).mono ?_
      rintro e w11 ⟨v, g11, rfl, hx11, hv⟩
      have HX11 := Lib.hid (HX10.out.trans (hx11.imp (fun _ h => h.elim)))
      have HK11 := Lib.hid (HK10.out.ext hx11 (fun h => h))
      have HV11 := Lib.hid hv
      obtain ⟨A1, c1, A2, c2', rfl, _, _⟩ := hv
      clear hx11 HX10 HJ10 HK10
      go_wp2_with fail
      have hxx := Ext.box (fun _ => False) g11 w11 (.cells #[.int .i64 Ka.start, .slice A1 Ka.recs.length c1, .slice A2 0 c2'] 48)
      have HXX := Lib.hid (HX11.out.trans (hxx.imp (fun _ h => h.elim)))
      have HKX := Lib.hid (HK11.out.ext hxx (fun h => h))
      have HVX := Lib.hid (HV11.out.ext hxx)
      have HBX : Hid (Blk w11.heap.size 48 [.int .i64 Ka.start, .slice A1 Ka.recs.length c1, .slice A2 0 c2'] (w11.alloc (.cells #[.int .i64 Ka.start, .slice A1 Ka.recs.length c1, .slice A2 0 c2'] 48))) := Blk.new w11 48 [.int .i64 Ka.start, .slice A1 Ka.recs.length c1, .slice A2 0 c2']
      clear hxx HX11 HK11 HV11
      generalize g11.box w11.heap.size = gx at *
      generalize (w11.alloc (.cells #[.int .i64 Ka.start, .slice A1 Ka.recs.length c1, .slice A2 0 c2'] 48)) = wx at *
      refine (look_any b' c2 gx wx Kb HKX.out (by rw [HE2.out]; omega) (by rw [HE2.out]; omega) HE4.out HB0.out).mono ?_
      rintro e w12 ⟨u, g12, rfl, hx12, hu⟩
      have HX12 := Lib.hid (HXX.out.trans (hx12.imp (fun _ h => h.elim)))
      have HV12 := Lib.hid (HVX.out.ext hx12)
      have HBX12 := Lib.hid (HBX.out.ext hx12 (fun h => h))
      have HU12 := Lib.hid hu
      obtain ⟨B1, e1, B2, e2, rfl, _, _⟩ := hu
      have hxy := Ext.box (fun _ => False) g12 w12 (.cells #[.int .i64 Kb.start, .slice B1 Kb.recs.length e1, .slice B2 0 e2] 48)
      have HX13 := Lib.hid (HX12.out.trans (hxy.imp (fun _ h => h.elim)))
      have HV13 := Lib.hid (HV12.out.ext hxy)
      have HU13 := Lib.hid (HU12.out.ext hxy)
      have HBX13 := Lib.hid (HBX12.out.ext hxy (fun h => h))
      have HBY13 : Hid (Blk w12.heap.size 48 [.int .i64 Kb.start, .slice B1 Kb.recs.length e1, .slice B2 0 e2] (w12.alloc (.cells #[.int .i64 Kb.start, .slice B1 Kb.recs.length e1, .slice B2 0 e2] 48))) := Blk.new w12 48 [.int .i64 Kb.start, .slice B1 Kb.recs.length e1, .slice B2 0 e2]
      clear hx12 hxy HXX HVX HBX HX12 HV12 HBX12 HU12 HKX
      generalize g12.box w12.heap.size = gy at *
      have x0 := HBX13.out.cell 0
      have x1 := HBX13.out.cell 1
      have x2 := HBX13.out.cell 2
      have y0 := HBY13.out.cell 0
      have y1 := HBY13.out.cell 1
      have y2 := HBY13.out.cell 2
      simp only [List.getElem?_cons_zero, List.getElem?_cons_succ] at x0 x1 x2 y0 y1 y2
      go_wp2_with fail
      refine (same_any gy _ _ _ ⟨Ka.start, Ka.recs, []⟩ ⟨Kb.start, Kb.recs, []⟩ HV13.out HU13.out (by show Ka.recs.length ≤ _; rw [HE3.out]; have := HE4.out; omega)).mono ?_
      have hsm : sameB ⟨Ka.start, Ka.recs, []⟩ ⟨Kb.start, Kb.recs, []⟩ = true := by simp [sameB, HE1.out, HE2.out, HE3.out]
      rw [hsm]
      rintro e w14 ⟨rfl, g14, hx14⟩
      have HX14 := Lib.hid (HX13.out.trans (hx14.imp (fun _ h => h.elim)))
      clear hx14 HX13 x0 x1 x2 y0 y1 y2
      go_wp2_with fail
      go_ret
      exact ⟨rfl, HX14.out.finW⟩

end Go.Proofs.Ytopggjpaplhboaa
