/-
  The walk of JournalApart.
-/
import Derived.Test.YtopggjpaplhboaaApt0
namespace Go.Proofs.Ytopggjpaplhboaa
open Go.RowKit

theorem Try.infoRJ : (Try.prog.info? 48).map (fun i => (i.zero, i.size, i.bytes)) = some (some (.agg #[.int .i64 0, .slice none 0 0, .slice none 0 0]), 3, 56) := by kernel_rfl
theorem Try.infoPJ : (Try.prog.info? 22).map (fun i => (i.zero, i.size, i.bytes)) = some (some (.pointer none), 1, 8) := by kernel_rfl
def rj0 : RefR := ⟨0, [], []⟩
def q0 : Q4 := ⟨none, 0, none, 0⟩
theorem made9 : madeCells #[.int .i64 0, .slice none 0 0, .slice none 0 0] 9 = (blk9 (fun _ => rj0) (fun _ => q0)).toArray := by kernel_rfl
theorem make_rjs (w : World) : (Instr.makeSlice 59 (.int .i64 3) (.int .i64 3)).run Try.prog w = .ok (.slice (some ⟨w.heap.size, 0, none⟩) 3 3) (w.alloc (.cells (blk9 (fun _ => rj0) (fun _ => q0)).toArray 48)) := by
  obtain ⟨i0, hi, hz0, hz1, hz2⟩ := info_parts Try.infoRJ
  have := run_make (P := Try.prog) w 59 48 i0 _ Try.underlying59 hi hz0 .i64 .i64 3 3 (by omega) (by omega) (by rw [hz2]; omega) (by omega)
  rw [hz1] at this
  rw [← made9]
  exact this
theorem nm3_cell (i : Nat) (hi : i < 3) : ([.string (nm3 0), .string (nm3 1), .string (nm3 2)] : List Value)[i]? = some (.string (nm3 i)) := by
  rcases lt3 hi with rfl | rfl | rfl <;> rfl
/-- While the journals are opened. -/
structure Op3 (w : World) (g : Gh) (x : World) (t d nb wb : Nat) (k : Nat) (js : Nat → Nat) (B : Option Addr) (cj : Nat) : Prop where
  hx : Ext (fun o => w.heap.size ≤ o) (ghW w) w g x
  hD : DevAt g x d dev0
  ht : TapeAt g x t 0
  hn : Blk nb 9 [.string (nm3 0), .string (nm3 1), .string (nm3 2)] x
  On : g.O nb = nb
  Fn : g.F nb = 0
  hb : Blk wb 48 (blk9 (fun _ => rj0) (fun _ => q0)) x
  Ob : g.O wb = wb
  Fb : g.F wb = 0
  hJ : ∀ i, i < k → JAt g x (js i) d (jrn0 (nm3 i))
  dist : ∀ i l, i < k → l < k → l ≠ i → js l ≠ js i
  far : ∀ i, i < k → wb < js i
  app : App 22 1 nb g x B k cj ((List.range k).map fun i => .pointer (some ⟨js i, 0, none⟩))
theorem Op3.opened {w : World} {g g' : Gh} {x x' : World} {t d nb wb k : Nat} {js : Nat → Nat} {B : Option Addr} {cj : Nat} (h : Op3 w g x t d nb wb k js B cj) (hx : Ext (fun _ => False) g x g' x') {j : Nat} (hj : x.heap.size ≤ j) (hJ : JAt g' x' j d (jrn0 (nm3 k))) :
    (∀ i, i < k + 1 → JAt g' x' (upd js k j i) d (jrn0 (nm3 i))) ∧ (∀ i l, i < k + 1 → l < k + 1 → l ≠ i → upd js k j l ≠ upd js k j i) ∧ (∀ i, i < k + 1 → wb < upd js k j i) ∧ Op3 w g' x' t d nb wb k js B cj := by
  have lb := h.hb.lt
  have ln := h.hn.lt
  have hlt : ∀ i, i < k → js i < x.heap.size := fun i hi => (h.hJ i hi).lt
  refine ⟨fun i hi => ?_, fun i l hi hl hne => ?_, fun i hi => ?_, ⟨h.hx.trans (hx.imp (fun _ h => h.elim)), h.hD.ext hx (fun h => h), h.ht.ext hx (fun h => h), h.hn.ext hx (fun h => h), (hx.own _ ln).trans h.On, hx.zero _ ln h.Fn, h.hb.ext hx (fun h => h), (hx.own _ lb).trans h.Ob, hx.zero _ lb h.Fb, fun i hi => (h.hJ i hi).ext hx (fun h => h), h.dist, h.far, h.app.ext hx (fun h => h)⟩⟩
  · by_cases e : i = k
    · subst e; rw [upd_same]; exact hJ
    · rw [upd_ne _ _ e]; exact (h.hJ i (by omega)).ext hx (fun h => h)
  · by_cases e1 : i = k
    · have e2 : l ≠ k := by omega
      subst e1
      rw [upd_same, upd_ne _ _ e2]
      have := hlt l (by omega); omega
    · rw [upd_ne _ _ e1]
      by_cases e2 : l = k
      · subst e2; rw [upd_same]
        have := hlt i (by omega); omega
      · rw [upd_ne _ _ e2]; exact h.dist i l (by omega) (by omega) hne
  · by_cases e : i = k
    · subst e; rw [upd_same]; omega
    · rw [upd_ne _ _ e]; exact h.far i (by omega)

theorem range_upd (js : Nat → Nat) (k j : Nat) : ((List.range (k + 1)).map fun i => Value.pointer (some ⟨upd js k j i, 0, none⟩)) = ((List.range k).map fun i => Value.pointer (some ⟨js i, 0, none⟩)) ++ [.pointer (some ⟨j, 0, none⟩)] := by
  rw [List.range_succ, List.map_append]
  congr 1
  · refine List.map_congr_left fun i hi => ?_
    have : i < k := by simpa using hi
    rw [upd_ne _ _ (by omega)]
  · simp [upd]
theorem Op3.pushed {w : World} {g g5 : Gh} {x x5 : World} {t d nb wb k : Nat} {js : Nat → Nat} {B A5 : Option Addr} {cj c5 j : Nat} (h : Op3 w g x t d nb wb k js B cj) (hx : Ext (· = nb) g x g5 x5) (ha : App 22 1 nb g5 x5 A5 (k + 1) c5 (((List.range k).map fun i => .pointer (some ⟨js i, 0, none⟩)) ++ [.pointer (some ⟨j, 0, none⟩)])) (hl : Lies g x B k cj g5 x5 A5 c5)
    (p1 : ∀ i, i < k + 1 → JAt g x (upd js k j i) d (jrn0 (nm3 i))) (p2 : ∀ i l, i < k + 1 → l < k + 1 → l ≠ i → upd js k j l ≠ upd js k j i) (p3 : ∀ i, i < k + 1 → wb < upd js k j i) (hwb : nb < wb) (hd : d ≠ nb) (ht : t ≠ nb) (hnw : w.heap.size ≤ nb) : Op3 w g5 x5 t d nb wb (k + 1) (upd js k j) A5 c5 := by
  have lb := h.hb.lt
  have ln := h.hn.lt
  have hfar := hl.far nb ln (fun hlt off he => h.app.not_self h.Fn (by decide) hlt he rfl)
  exact ⟨h.hx.trans (hx.imp (fun o e => by subst e; exact hnw)), h.hD.ext hx hd, h.ht.ext hx ht, h.hn.of hfar.1, (hx.own _ ln).trans h.On, hfar.2.trans h.Fn, h.hb.ext hx (by rw [h.Ob]; omega), (hx.own _ lb).trans h.Ob, hx.zero _ lb h.Fb, fun i hi => (p1 i hi).ext hx (by have := p3 i hi; omega), p2, p3, by rw [range_upd]; exact ha⟩
theorem src_ptr (w : World) (v : Value) (h1 : v.oneCell' = true) : Src Try.prog 1 60 (.slice (some ⟨w.heap.size, 0, none⟩) 1 1) 1 [v] (w.alloc (.cells #[v] 22)) :=
  Src.ofSlice _ Try.underlying60 _ 1 1 _ rfl (fun j u hu => by
    have hh : (w.alloc (.cells #[v] 22)).heap[w.heap.size]? = some (.cells #[v] 22 (0, 0)) := heap_alloc_new w _
    rw [add_lit, Nat.zero_add, cell_at hh]
    simpa using hu) (by simpa using h1)

set_option maxRecDepth 100000 in
set_option maxHeartbeats 6400000 in
theorem lawApart_any (w : World) (A : Option Addr) (c : Nat) (L : List Int) (hr : Rd 1 (ghW w) w A L.length (L.map (Value.int .i64))) (hL : ∀ x ∈ L, (Lit.int .i64 x).wf = true) :
    Calls Try.prog 9 #[.slice A L.length c] w fun e w' => e = .returned (.bool true) ∧ Below w.heap.size w w' := by
  obtain ⟨hx0, ht0⟩ := TapeAt.new (c := c) hr hL
  have HX0 := Lib.hid hx0
  have HT0 := Lib.hid ht0
  obtain ⟨ip, hip, hp0, hp1, hp2⟩ := info_parts Try.infoPJ
  clear hx0 ht0 hr hL
  go_enter Try.func9, Try.ntmps9
  go_wp2_with fail
  refine (gnew ((ghW w).box w.heap.size) _).mono ?_
  rintro e w1 ⟨d, g1, rfl, hd, hx1, hD1⟩
  have HX1 := Lib.hid (HX0.out.trans hx1)
  have HT1 := Lib.hid (HT0.out.ext hx1 (fun h => h))
  have HD1 := Lib.hid hD1
  have s0 := HT0.out.lt
  have hdl := hD1.lt
  have hdt : w.heap.size < d := by
    have : (w.alloc (.cells #[.slice A L.length c, .int .i64 0] 43)).heap.size = w.heap.size + 1 := by simp
    omega
  clear hx1 hD1 HX0 HT0 s0 hd
  go_wp2_with (at_make; refine wpList_makeB _ rfl _ _ _ rfl rfl rfl (make_rjs _) ?_)
  have HS : Hid (Op3 w ((g1.box w1.heap.size).box (w1.heap.size + 1)) ((w1.alloc (.cells #[.string ⟨#[97]⟩, .string ⟨#[97, 45, 97]⟩, .string ⟨#[97, 97]⟩] 9)).alloc (.cells (blk9 (fun _ => rj0) (fun _ => q0)).toArray 48)) w.heap.size d w1.heap.size (w1.heap.size + 1) 0 (fun _ => 0) none 0) := by
    have hx2 := Ext.two g1 w1 (.cells #[.string ⟨#[97]⟩, .string ⟨#[97, 45, 97]⟩, .string ⟨#[97, 97]⟩] 9) (.cells (blk9 (fun _ => rj0) (fun _ => q0)).toArray 48)
    have hb2 : Blk (w1.heap.size + 1) 48 (blk9 (fun _ => rj0) (fun _ => q0)) ((w1.alloc (.cells #[.string ⟨#[97]⟩, .string ⟨#[97, 45, 97]⟩, .string ⟨#[97, 97]⟩] 9)).alloc (.cells (blk9 (fun _ => rj0) (fun _ => q0)).toArray 48)) := by
      have := Blk.new (w1.alloc (.cells #[.string ⟨#[97]⟩, .string ⟨#[97, 45, 97]⟩, .string ⟨#[97, 97]⟩] 9)) 48 (blk9 (fun _ => rj0) (fun _ => q0))
      simpa using this
    exact ⟨(HX1.out.trans hx2).imp (fun _ h => h.elim), HD1.out.ext hx2 (fun h => h), HT1.out.ext hx2 (fun h => h), (Blk.new w1 9 [.string (nm3 0), .string (nm3 1), .string (nm3 2)]).alloc _, by simp [Gh.box], by simp [Gh.box], hb2, by simp [Gh.box], by simp [Gh.box], fun i hi => by omega, fun i l hi => by omega, fun i hi => by omega, App.nil _ _ _ _ _⟩
  clear HX1 HT1 HD1
  generalize (g1.box w1.heap.size).box (w1.heap.size + 1) = g2 at *
  generalize ((w1.alloc (.cells #[.string ⟨#[97]⟩, .string ⟨#[97, 45, 97]⟩, .string ⟨#[97, 97]⟩] 9)).alloc (.cells (blk9 (fun _ => rj0) (fun _ => q0)).toArray 48)) = w2 at *
  have hdn : d < w1.heap.size := hdl
  have hnw : w.heap.size < w1.heap.size := by omega
  clear hdl
  generalize hnb : w1.heap.size = nb at *
  clear hnb
  go_loopw [7, 8] (fun q i wr => ∃ (k : Nat) (gr : Gh) (js : Nat → Nat) (B : Option Addr) (cj : Nat), k ≤ 3 ∧ q = .slice B k cj ∧ i = .int .i64 k ∧ Op3 w gr wr w.heap.size d nb (nb + 1) k js B cj) (fun _ i _ => 3 - (intOf i).toNat)
  case atStart => exact ⟨0, g2, _, none, 0, by omega, rfl, rfl, HS.out⟩
  case round =>
    obtain ⟨k, gr, js, B, cj, hk, rfl, rfl, hop⟩ := hrel
    have HO := Lib.hid hop
    clear HS
    by_cases hlt : k < 3
    · have n0 : wr.cell? ⟨nb, k, none⟩ = some (.string (nm3 k)) := by rw [hop.hn.cell k]; exact nm3_cell k hlt
      clear hop
      go_wp2_with fail
      refine (open_none d gr wr dev0 HO.out.hD (nm3 k) (nm3_ok hlt) rfl rfl).mono ?_
      rintro e w3 ⟨j3, g3, rfl, hj3, hx3, hJ3⟩
      obtain ⟨p1, p2, p3, p4⟩ := HO.out.opened hx3 hj3 hJ3
      have HP1 := Lib.hid p1
      have HP2 := Lib.hid p2
      have HP3 := Lib.hid p3
      have HO3 := Lib.hid p4
      have hal : Ext (fun _ => False) g3 w3 g3 (w3.alloc (.cells #[.pointer (some ⟨j3, 0, none⟩)] 22)) := (Ext.refl _ _ _).alloc _
      have HO4 : Hid (Op3 w g3 (w3.alloc (.cells #[.pointer (some ⟨j3, 0, none⟩)] 22)) w.heap.size d nb (nb + 1) k js B cj) := by
        have h := HO3.out
        have lb := h.hb.lt
        have ln := h.hn.lt
        exact ⟨h.hx.trans (hal.imp (fun _ h => h.elim)), h.hD.ext hal (fun h => h), h.ht.ext hal (fun h => h), h.hn.ext hal (fun h => h), h.On, h.Fn, h.hb.ext hal (fun h => h), h.Ob, h.Fb, fun i hi => (h.hJ i hi).ext hal (fun h => h), h.dist, h.far, h.app.ext hal (fun h => h)⟩
      have HP4 : Hid (∀ i, i < k + 1 → JAt g3 (w3.alloc (.cells #[.pointer (some ⟨j3, 0, none⟩)] 22)) (upd js k j3 i) d (jrn0 (nm3 i))) := fun i hi => (HP1.out i hi).ext hal (fun h => h)
      have HSRC := Lib.hid (src_ptr w3 (.pointer (some ⟨j3, 0, none⟩)) rfl)
      have HAP := Lib.hid HO4.out.app
      clear hx3 hJ3 p1 p2 p3 p4 n0 hj3 hal HO HO3 HP1
      go_wp2_with (at_builtin; refine wpList_append_app rfl _ _ _ _ rfl 22 ip (.pointer none) 1 8 Try.underlying60 hip hp0 hp1 hp2 rfl (by decide) rfl HAP.out rfl HSRC.out (by unfold maxLen; omega) (by omega) ?_; intro A5 c5 w5 g5 hx5 ha5 hl5)
      go_round
      case rel =>
        exact ⟨k + 1, g5, upd js k j3, A5, c5, by omega, rfl, by go_num, HO4.out.pushed hx5 ha5 hl5 HP4.out HP2.out HP3.out (by omega) (by omega) (by omega) (by omega)⟩
      case measure => simp [intOf]; omega
    · obtain rfl : k = 3 := by omega
      have HAP : Hid (∃ jb jo, B = some ⟨jb, jo, none⟩ ∧ Ap w gr wr w.heap.size d (nb + 1) jb jo nb js (fun i => jrn0 (nm3 i)) dev0 0 (fun _ => rj0) (fun _ => q0)) := by
        obtain ⟨jb, off, hB, hF, hlt', hc⟩ := hop.app.rd.at_ (by omega)
        refine ⟨jb, off, hB, hop.hx, hop.hJ, hop.hD, hop.ht, hop.hb, fun _ _ => RecsAt.nil _ _, fun _ _ => RecsAt.nil _ _, hop.Ob, hop.Fb, ?_, hop.dist, fun i hi => by have := hop.far i hi; omega, fun i hi => by have := hop.far i hi; omega, fun i hi => by have := hop.far i hi; omega, by omega, by omega, by omega, by omega, by omega, by omega, hop.hn, hop.On, fun i hi => by have := hop.far i hi; omega, by omega, by omega, by omega⟩
        have := hop.app.rd
        rw [hB] at this
        exact this
      clear hop HO
      obtain ⟨jb, jo, rfl, hap⟩ := HAP.out
      have HA := Lib.hid hap
      have HG3 : Hid (G3 (fun i => jrn0 (nm3 i)) dev0 0) := ⟨fun i hi => ⟨0, by omega, Good.dev0 (nm3_ok hi) 0⟩, rfl, fun i hi => rfl⟩
      clear hap HAP
      go_wp2_with fail
      refine (next_any w.heap.size 0 gr wr HA.out.ht (by omega) 24 (by omega)).mono ?_
      rintro e w4 ⟨v, rfl, hv0, hv1, hx4, ht4⟩
      have HA4 := Lib.hid (HA.out.tape hx4 ht4)
      obtain ⟨vn, rfl⟩ : ∃ vn : Nat, v = vn := ⟨v.toNat, by omega⟩
      have hvn : vn ≤ 23 := by omega
      clear hx4 ht4 HA hv0 hv1
      generalize gr = g4 at *
      go_wp2_with fail
      go_loopw [11] (fun i wr => ∃ (k m : Nat) (gr : Gh) (Js : Nat → Jrn) (D : Dev) (q : Nat → Q4), i = .int .i64 k ∧ k ≤ 23 ∧ Ap w gr wr w.heap.size d (nb + 1) jb jo nb js Js D m (fun i => rfOf (Js i)) q ∧ G3 Js D (23 - k) ∧ m ≤ 1 + 12 * (23 - k) ∧ ∀ i, i < 3 → (Js i).recs.length + (Js i).pend.length ≤ 23 - k ∧ lens (Js i).recs + lens (Js i).pend ≤ 6 * (23 - k)) (fun i _ => (intOf i).toNat)
      case atStart => exact ⟨vn, 1, g4, _, dev0, _, rfl, hvn, HA4.out, ⟨fun i hi => let ⟨c, h1, h2⟩ := HG3.out.g i hi; ⟨c, h1, h2.more (by omega)⟩, HG3.out.s, HG3.out.n⟩, by omega, fun i hi => ⟨by simp [jrn0], by simp [jrn0, lens]⟩⟩
      case round =>
        obtain ⟨k, m, gr, Js, D, q, rfl, hk, hap, hg3, hm, hcl⟩ := hrel
        have HA5 := Lib.hid hap
        have HG5 := Lib.hid hg3
        have HC5 := Lib.hid hcl
        clear hap hg3 hcl HA4 HG3
        by_cases hlt2 : 0 < k
        · go_wp2_with fail
          refine (next_any w.heap.size m gr _ HA5.out.ht (by omega) 3 (by omega)).mono ?_
          rintro e w6 ⟨v, rfl, hv0, hv1, hx6, ht6⟩
          have HA6 := Lib.hid (HA5.out.tape hx6 ht6)
          obtain ⟨ix, rfl⟩ : ∃ ix : Nat, v = ix := ⟨v.toNat, by omega⟩
          have hix : ix < 3 := by omega
          clear hx6 ht6 HA5 hv0 hv1
          go_wp2_with fail
          refine (next_any w.heap.size (m + 1) gr w6 HA6.out.ht (by omega) 4 (by omega)).mono ?_
          rintro e w7 ⟨v, rfl, hv0, hv1, hx7, ht7⟩
          have HA7 := Lib.hid (HA6.out.tape hx7 ht7)
          obtain ⟨sw, rfl⟩ : ∃ sw : Nat, v = sw := ⟨v.toNat, by omega⟩
          have hsw : sw < 4 := by omega
          clear hx7 ht7 HA6 hv0 hv1
          generalize gr = g7 at *
          have pj : w7.cell? ⟨jb, jo + ix, none⟩ = some (.pointer (some ⟨js ix, 0, none⟩)) := HA7.out.ptr hix
          obtain ⟨b0, b1, b2⟩ := blk9_cell HA7.out.hb hix
          rcases (show sw = 0 ∨ sw = 1 ∨ sw = 2 ∨ sw = 3 by omega) with rfl | rfl | rfl | rfl
          · obtain ⟨cc, hcc, hgg⟩ := HG5.out.g ix hix
            have HGG := Lib.hid hgg
            clear hgg
            go_wp2_with fail
            refine (gcommit (js ix) d g7 w7 (Js ix) D cc _ (HA7.out.hJ ix hix) HA7.out.hD HGG.out (by omega) (by omega)).mono ?_
            rintro e w8 ⟨rfl, D8, hP, hG8, hq8⟩
            obtain ⟨g8, hap8, _⟩ := HA7.out.op hix hP
            have HA8 := Lib.hid hap8
            have HG8 := Lib.hid (HG5.out.step hix (by rfl) hcc HGG.out hG8 hq8 (Nat.le_refl _))
            have HC8 : Hid (∀ i, i < 3 → (upd Js ix (comR (Js ix)) i).recs.length + (upd Js ix (comR (Js ix)) i).pend.length ≤ 23 - k ∧ lens (upd Js ix (comR (Js ix)) i).recs + lens (upd Js ix (comR (Js ix)) i).pend ≤ 6 * (23 - k)) := by
              intro i hi
              by_cases e : i = ix
              · subst e
                rw [upd_same]
                obtain ⟨h1, h2⟩ := HC5.out i hi
                refine ⟨?_, ?_⟩
                · show ((Js i).recs ++ (Js i).pend).length + 0 ≤ _
                  rw [List.length_append]; omega
                · show lens ((Js i).recs ++ (Js i).pend) + 0 ≤ _
                  rw [lens_append]; omega
              · rw [upd_ne _ _ e]; exact HC5.out i hi
            have hc1 : (Js ix).recs.length ≤ 1000000 := by have := (HC5.out ix hix).1; omega
            have hc2 : (Js ix).pend.length ≤ 1000000 := by have := (HC5.out ix hix).1; omega
            obtain ⟨b08, b18, b28⟩ := blk9_cell hap8.hb hix
            have bz8 := hap8.hb.fz
            clear hap8 hP hG8 hq8 HA7 HGG pj b0 b1 b2 b08 b18 b28 bz8
            go_wp2_with fail
            have HA9 := Lib.hid (HA8.out.same ((Ext.refl (fun _ => False) g8 w8).drew))
            have hS : (fun x => Blk (nb + 1) 48 (blk9 (fun i => rfOf (Js i)) q) x) w8.drew := HA9.out.hb
            (refine wp_region_mixz (S := fun x => Blk (nb + 1) 48 (blk9 (fun i => rfOf (Js i)) q) x) [13] 14 [([0, 1, 2, 3, 4, 5, 6, 7, 8, 9, 10, 11], 12)] (by kernel_rfl) (by kernel_rfl) (by intro c a d v w h; cases d <;> exact h) hS ?_; have hN : Nonempty (Held (fun x => Blk (nb + 1) 48 (blk9 (fun i => rfOf (Js i)) q) x)) := ⟨⟨_, hS⟩⟩)
            have x0 : ∀ y : Held (fun x => Blk (nb + 1) 48 (blk9 (fun i => rfOf (Js i)) q) x), y.w.cell? ⟨nb + 1, ix * 3, none⟩ = some (.int .i64 (Js ix).start) := fun y => (blk9_cell y.ok hix).1
            have x1 : ∀ y : Held (fun x => Blk (nb + 1) 48 (blk9 (fun i => rfOf (Js i)) q) x), y.w.cell? ⟨nb + 1, ix * 3 + 1, none⟩ = some (.slice (q ix).A1 (Js ix).recs.length (q ix).c1) := fun y => (blk9_cell y.ok hix).2.1
            have x2 : ∀ y : Held (fun x => Blk (nb + 1) 48 (blk9 (fun i => rfOf (Js i)) q) x), y.w.cell? ⟨nb + 1, ix * 3 + 2, none⟩ = some (.slice (q ix).A2 (Js ix).pend.length (q ix).c2) := fun y => (blk9_cell y.ok hix).2.2
            (unfold wpMixZ wpRd; (repeat (first | simp only [List.filterMap_cons] | simp only [List.filterMap_nil] | simp only [List.getElem?_toArray] | simp only [List.getElem?_cons_zero] | simp only [List.getElem?_cons_succ])); (try dsimp only); change wpQuiet _ _ _ _ (_ :: _ :: _ :: _ :: _ :: _ :: _ :: _ :: _ :: _ :: _ :: _ :: []) _; (repeat (go_big_quiet_step (fail))); refine wpQuiet_nil ?_; (try dsimp only))
            clear x0 x1 x2
            go_wp2_with fail
            refine (rcommit_any g8 _ _ (rfOf (Js ix)) (HA9.out.ref hix) hc1 hc2 (Js ix).pend.length (Nat.le_refl _)).mono ?_
            rintro e w10 ⟨v', g10, rfl, hx10, hv⟩
            have hv' : RefAt g10 w10 v' (rfOf (comR (Js ix))) := by
              have e : (rfOf (Js ix)).recs ++ (rfOf (Js ix)).pend.take (Js ix).pend.length = (Js ix).recs ++ (Js ix).pend := by show (Js ix).recs ++ (Js ix).pend.take (Js ix).pend.length = _; rw [List.take_length]
              rw [e] at hv
              exact hv
            have HA10 := Lib.hid (HA9.out.same hx10)
            obtain ⟨B1, e1, B2, e2, rfl, h1, h2⟩ := hv'
            have HA12 := Lib.hid (HA10.out.store hix (R' := rfOf (comR (Js ix))) (q' := ⟨B1, e1, B2, e2⟩) h1 h2)
            have hS10 : (fun x => Blk (nb + 1) 48 (blk9 (fun i => rfOf (Js i)) q) x) w10 := HA10.out.hb
            obtain ⟨y0, y1, y2⟩ := blk9_cell HA10.out.hb hix
            have yz := HA10.out.hb.fz
            have HRS : Hid ((fun i => rfOf (upd Js ix (comR (Js ix)) i)) = upd (fun i => rfOf (Js i)) ix (rfOf (comR (Js ix)))) := upd_map Js rfOf ix (comR (Js ix))
            clear hx10 hv h1 h2 HA9 HA10 hc1 hc2
            generalize comR (Js ix) = K at *
            go_wp2_with fail
            refine ⟨hS10, ?_⟩
            (unfold wpMixZ wpRd; (repeat (first | simp only [List.filterMap_cons] | simp only [List.filterMap_nil] | simp only [List.getElem?_toArray] | simp only [List.getElem?_cons_zero] | simp only [List.getElem?_cons_succ])); (try dsimp only); change wpQuiet _ _ _ _ (_ :: []) _; (repeat (go_big_quiet_step (fail))); refine wpQuiet_nil ?_; (try dsimp only))
            clear hN
            go_wp2_with fail
            go_round
            case rel =>
              refine ⟨k - 1, m + 1 + 1, g10, upd Js ix K, D8, upd q ix ⟨B1, e1, B2, e2⟩, ?_, by omega, ?_, ⟨fun i hi => let ⟨c, h1, h2⟩ := HG8.out.g i hi; ⟨c, h1, h2.more (by omega)⟩, HG8.out.s, HG8.out.n⟩, by omega, fun i hi => ⟨by have := (HC8.out i hi).1; omega, by have := (HC8.out i hi).2; omega⟩⟩
              · have : ((k - 1 : Nat) : Int) = (k : Int) - 1 := by omega
                rw [this]
              · rw [HRS.out]; exact HA12.out
            case measure => simp [intOf]; omega
          · obtain ⟨cc, hcc, hgg⟩ := HG5.out.g ix hix
            have HGG := Lib.hid hgg
            clear hgg
            go_wp2_with fail
            have HA8 := Lib.hid (HA7.out.same ((Ext.refl (fun _ => False) g7 w7).drew))
            have hS : (fun x => Blk (nb + 1) 48 (blk9 (fun i => rfOf (Js i)) q) x) w7.drew := HA8.out.hb
            have hcc1 := (HC5.out ix hix).1
            clear HA7 pj b0 b1 b2
            (refine wp_region_mix (S := fun x => Blk (nb + 1) 48 (blk9 (fun i => rfOf (Js i)) q) x) [14, 15] [([0, 1, 2, 3, 4, 5, 6, 7, 8, 9, 10, 11, 12], 13)] (by kernel_rfl) (by kernel_rfl) (by intro c a d v w h; cases d <;> exact h) hS ?_; have hN : Nonempty (Held (fun x => Blk (nb + 1) 48 (blk9 (fun i => rfOf (Js i)) q) x)) := ⟨⟨_, hS⟩⟩)
            have x0 : ∀ y : Held (fun x => Blk (nb + 1) 48 (blk9 (fun i => rfOf (Js i)) q) x), y.w.cell? ⟨nb + 1, ix * 3, none⟩ = some (.int .i64 (Js ix).start) := fun y => (blk9_cell y.ok hix).1
            have x1 : ∀ y : Held (fun x => Blk (nb + 1) 48 (blk9 (fun i => rfOf (Js i)) q) x), y.w.cell? ⟨nb + 1, ix * 3 + 1, none⟩ = some (.slice (q ix).A1 (Js ix).recs.length (q ix).c1) := fun y => (blk9_cell y.ok hix).2.1
            (unfold wpMix wpRd; (repeat (first | simp only [List.filterMap_cons] | simp only [List.filterMap_nil] | simp only [List.getElem?_toArray] | simp only [List.getElem?_cons_zero] | simp only [List.getElem?_cons_succ])); (try dsimp only); change wpQuiet _ _ _ _ (_ :: _ :: _ :: _ :: _ :: _ :: _ :: _ :: _ :: _ :: _ :: _ :: _ :: []) _; (repeat (go_big_quiet_step (fail))); refine wpQuiet_nil ?_; (try dsimp only))
            clear x0 x1
            go_wp2_with fail
            refine (next_any w.heap.size (m + 1 + 1) g7 _ HA8.out.ht (by omega) (((Js ix).recs.length : Int) + 1) (by omega)).mono ?_
            rintro e w9 ⟨v, rfl, hv0, hv1, hx9, ht9⟩
            have HA9 := Lib.hid (HA8.out.tape hx9 ht9)
            have hS9 : (fun x => Blk (nb + 1) 48 (blk9 (fun i => rfOf (Js i)) q) x) w9 := HA9.out.hb
            have st0 := HGG.out.st0
            have st1 := HGG.out.st1
            have hv2 : v ≤ (Js ix).recs.length := by omega
            clear hx9 ht9 hv1 HA8
            go_wp2_with fail
            refine ⟨hS9, ?_⟩
            (unfold wpMix wpRd; (repeat (first | simp only [List.filterMap_cons] | simp only [List.filterMap_nil] | simp only [List.getElem?_toArray] | simp only [List.getElem?_cons_zero] | simp only [List.getElem?_cons_succ])); (try dsimp only); change wpQuiet _ _ _ _ (_ :: _ :: []) _; (repeat (go_big_quiet_step (fail))); refine wpQuiet_nil ?_; (try dsimp only))
            clear hN
            generalize hpp : (Js ix).start + v = pp at *
            have hci : cutI (Js ix) pp = 0 := by unfold cutI; rw [if_neg (by omega)]
            have HREF : Hid ((rfOf (Js ix)).cut pp = rfOf (cutR (Js ix) pp)) := by
              show _ = _
              unfold RefR.cut cutR rfOf
              rw [if_neg (by show ¬ (pp < (Js ix).start ∨ (Js ix).start + (Js ix).recs.length < pp); omega)]
              by_cases h2 : pp = (Js ix).start
              · rw [if_pos (.inl (by omega)), h2]
                simp
              · rw [if_neg (by omega)]
            have HNM : Hid ((cutR (Js ix) pp).name = (Js ix).name) := by show _ = _; unfold cutR; split <;> rfl
            have HC8 : Hid (∀ i, i < 3 → (upd Js ix (cutR (Js ix) pp) i).recs.length + (upd Js ix (cutR (Js ix) pp) i).pend.length ≤ 23 - k ∧ lens (upd Js ix (cutR (Js ix) pp) i).recs + lens (upd Js ix (cutR (Js ix) pp) i).pend ≤ 6 * (23 - k)) := by
              intro i hi
              by_cases e : i = ix
              · subst e
                rw [upd_same]
                obtain ⟨h1, h2⟩ := HC5.out i hi
                unfold cutR
                split
                · exact ⟨h1, h2⟩
                · refine ⟨?_, ?_⟩
                  · show ((Js i).recs.drop _).length + (Js i).pend.length ≤ _
                    rw [List.length_drop]; omega
                  · show lens ((Js i).recs.drop _) + lens (Js i).pend ≤ _
                    have := lens_append ((Js i).recs.take (pp - (Js i).start).toNat) ((Js i).recs.drop (pp - (Js i).start).toNat)
                    rw [List.take_append_drop] at this
                    omega
              · rw [upd_ne _ _ e]; exact HC5.out i hi
            have HRS : Hid ((fun i => rfOf (upd Js ix (cutR (Js ix) pp) i)) = upd (fun i => rfOf (Js i)) ix (rfOf (cutR (Js ix) pp))) := upd_map Js rfOf ix (cutR (Js ix) pp)
            have HRC : Hid (∀ g11 w11, RefAt g11 w11 (.agg #[.int .i64 (Js ix).start, .slice (q ix).A1 (Js ix).recs.length (q ix).c1, .slice (q ix).A2 (Js ix).pend.length (q ix).c2]) (rfOf (Js ix)) → Calls Try.prog 29 #[.agg #[.int .i64 (Js ix).start, .slice (q ix).A1 (Js ix).recs.length (q ix).c1, .slice (q ix).A2 (Js ix).pend.length (q ix).c2], .int .i64 pp] w11 (RefP g11 w11 (rfOf (cutR (Js ix) pp)) 0)) := by
              intro g11 w11 h
              have := rcut_any g11 w11 _ (rfOf (Js ix)) h pp st0 (by show (Js ix).start ≤ _; omega) (by show (Js ix).recs.length ≤ _; omega)
              rw [HREF.out, show (rfOf (Js ix)).cutI pp = 0 from hci] at this
              exact this
            have HGC := Lib.hid (gcut (js ix) d g7 w9 (Js ix) D cc _ (HA9.out.hJ ix hix) HA9.out.hD HGG.out (by omega) (by omega) pp)
            rw [hci] at HGC
            have pj9 : w9.cell? ⟨jb, jo + ix, none⟩ = some (.pointer (some ⟨js ix, 0, none⟩)) := HA9.out.ptr hix
            clear hpp HREF hci st0 st1 hv0 hv2 hcc1 hS hS9
            go_wp2_with fail
            refine HGC.out.mono ?_
            rintro e w10 ⟨rfl, D8, hP, hG8, hq8⟩
            obtain ⟨g10, hap10, _⟩ := HA9.out.op hix hP
            have HG8 := Lib.hid (HG5.out.step hix HNM.out hcc HGG.out hG8 hq8 (Nat.le_refl _))
            have HA10' := Lib.hid hap10
            obtain ⟨z0, z1, z2⟩ := blk9_cell hap10.hb hix
            have zz := hap10.hb.fz
            clear hap10 hP hG8 hq8 HA9 HGG HGC pj9 HNM
            generalize cutR (Js ix) pp = K at *
            go_wp2_with fail
            refine (HRC.out g10 w10 (HA10'.out.ref hix)).mono ?_
            rintro e w11 ⟨v', g11, rfl, hx11, hv⟩
            have HA11 := Lib.hid (HA10'.out.same hx11)
            obtain ⟨B1, e1, B2, e2, rfl, h1, h2⟩ := hv
            have HA12 := Lib.hid (HA11.out.store hix (R' := rfOf K) (q' := ⟨B1, e1, B2, e2⟩) h1 h2)
            obtain ⟨y0, y1, y2⟩ := blk9_cell HA11.out.hb hix
            have yz := HA11.out.hb.fz
            clear hx11 h1 h2 HA10' HA11 z0 z1 z2 zz HRC
            go_wp2_with fail
            go_round
            case rel =>
              refine ⟨k - 1, m + 1 + 1 + 1, g11, upd Js ix K, D8, upd q ix ⟨B1, e1, B2, e2⟩, ?_, by omega, ?_, ⟨fun i hi => let ⟨c, h1, h2⟩ := HG8.out.g i hi; ⟨c, h1, h2.more (by omega)⟩, HG8.out.s, HG8.out.n⟩, by omega, fun i hi => ⟨by have := (HC8.out i hi).1; omega, by have := (HC8.out i hi).2; omega⟩⟩
              · have : ((k - 1 : Nat) : Int) = (k : Int) - 1 := by omega
                rw [this]
              · rw [HRS.out]; exact HA12.out
            case measure => simp [intOf]; omega
          · obtain ⟨cc, hcc, hgg⟩ := HG5.out.g ix hix
            have HGG := Lib.hid hgg
            clear hgg
            go_wp2_with fail
            refine (record_any w.heap.size (m + 1 + 1) g7 w7 HA7.out.ht (by omega)).mono ?_
            rintro e w8 ⟨A8, c8, l, g8, rfl, hl8, hB8, hx8, ht8⟩
            have HA8 := Lib.hid (HA7.out.tape hx8 ht8)
            have HB8 := Lib.hid hB8
            have hcc1 := (HC5.out ix hix).1
            have hcc2 := (HC5.out ix hix).2
            have ha := HGG.out.app0 l (by omega) (by omega) (by omega)
            have HA1 := Lib.hid ha.1
            have HA2 := Lib.hid ha.2
            have hc1 : (Js ix).recs.length + (Js ix).pend.length < 4096 := by omega
            have hc2 : lens (Js ix).recs + lens (Js ix).pend + l.length ≤ 1048576 := by omega
            have HG8 := Lib.hid (HG5.out.step hix (by rw [HA2.out]) hcc HGG.out (HGG.out.appJ l) (fun _ _ _ => rfl) (Nat.le_succ _))
            have HC8 : Hid (∀ i, i < 3 → (upd Js ix (jappJ (Js ix) l) i).recs.length + (upd Js ix (jappJ (Js ix) l) i).pend.length ≤ 23 - k + 1 ∧ lens (upd Js ix (jappJ (Js ix) l) i).recs + lens (upd Js ix (jappJ (Js ix) l) i).pend ≤ 6 * (23 - k + 1)) := by
              intro i hi
              by_cases e : i = ix
              · subst e
                rw [upd_same, HA2.out]
                refine ⟨?_, ?_⟩
                · show (Js i).recs.length + ((Js i).pend ++ [l]).length ≤ _
                  rw [List.length_append, List.length_cons, List.length_nil]; omega
                · show lens (Js i).recs + lens ((Js i).pend ++ [l]) ≤ _
                  rw [lens_append]; simp only [lens]; omega
              · rw [upd_ne _ _ e]
                obtain ⟨h1, h2⟩ := HC5.out i hi
                exact ⟨by omega, by omega⟩
            have HREF : Hid (∀ g10 w10 v', RefAt g10 w10 v' ⟨(rfOf (Js ix)).start, (rfOf (Js ix)).recs, (rfOf (Js ix)).pend ++ [l]⟩ → RefAt g10 w10 v' (rfOf (jappJ (Js ix) l))) := by
              intro g10 w10 v' h
              rw [HA2.out]; exact h
            have HRS : Hid ((fun i => rfOf (upd Js ix (jappJ (Js ix) l) i)) = upd (fun i => rfOf (Js i)) ix (rfOf (jappJ (Js ix) l))) := upd_map Js rfOf ix (jappJ (Js ix) l)
            have HAP : Hid (Calls Try.prog 20 #[.pointer (some ⟨js ix, 0, none⟩), .slice A8 l.length c8] w8 fun e w' => e = .returned (.int .i64 (jappI (Js ix) l)) ∧ BothP (js ix) d g8 w8 (jappJ (Js ix) l) D w') := gappend (js ix) d g8 w8 (Js ix) D cc _ (HA8.out.hJ ix hix) HA8.out.hD HGG.out (by omega) (by omega) A8 c8 l HB8.out (by omega)
            rw [HA1.out] at HAP
            have HRA : Hid (∀ g10 w10, RefAt g10 w10 (.agg #[.int .i64 (Js ix).start, .slice (q ix).A1 (Js ix).recs.length (q ix).c1, .slice (q ix).A2 (Js ix).pend.length (q ix).c2]) (rfOf (Js ix)) → BytesAt g10 w10 (.slice A8 l.length c8) l → Calls Try.prog 31 #[.agg #[.int .i64 (Js ix).start, .slice (q ix).A1 (Js ix).recs.length (q ix).c1, .slice (q ix).A2 (Js ix).pend.length (q ix).c2], .slice A8 l.length c8] w10 (RefP g10 w10 ⟨(rfOf (Js ix)).start, (rfOf (Js ix)).recs, (rfOf (Js ix)).pend ++ [l]⟩ 0)) := by
              intro g10 w10 h1 h2
              exact rappend_any g10 w10 _ (rfOf (Js ix)) h1 hc1 A8 c8 l h2 (by omega) hc2
            have pj8 : w8.cell? ⟨jb, jo + ix, none⟩ = some (.pointer (some ⟨js ix, 0, none⟩)) := HA8.out.ptr hix
            clear hx8 ht8 hB8 ha HA7 pj b0 b1 b2 hcc1 hcc2 hc1 hc2 HGG
            generalize l.length = ln at *
            go_wp2_with fail
            refine HAP.out.mono ?_
            rintro e w9 ⟨rfl, hP⟩
            obtain ⟨g9, hap9, hx9⟩ := HA8.out.op hix hP
            have HB9 := Lib.hid (HB8.out.ext hx9)
            have HA9' := Lib.hid hap9
            obtain ⟨z0, z1, z2⟩ := blk9_cell hap9.hb hix
            have zz := hap9.hb.fz
            clear hap9 hx9 hP HA8 HB8 HAP pj8
            generalize jappJ (Js ix) l = K at *
            go_wp2_with fail
            refine (HRA.out g9 w9 (HA9'.out.ref hix) HB9.out).mono ?_
            rintro e w10 ⟨v', g10, rfl, hx10, hv⟩
            have hv' := HREF.out _ _ _ hv
            have HA10 := Lib.hid (HA9'.out.same hx10)
            obtain ⟨B1, e1, B2, e2, rfl, h1, h2⟩ := hv'
            have HA12 := Lib.hid (HA10.out.store hix (R' := rfOf K) (q' := ⟨B1, e1, B2, e2⟩) h1 h2)
            obtain ⟨y0, y1, y2⟩ := blk9_cell HA10.out.hb hix
            have yz := HA10.out.hb.fz
            clear hx10 hv h1 h2 HA9' HA10 HB9 z0 z1 z2 zz HREF HRA
            go_wp2_with fail
            go_round
            case rel =>
              refine ⟨k - 1, m + 1 + 1 + 8, g10, upd Js ix K, D, upd q ix ⟨B1, e1, B2, e2⟩, ?_, by omega, ?_, ⟨fun i hi => let ⟨c, h1, h2⟩ := HG8.out.g i hi; ⟨c, h1, h2.more (by omega)⟩, HG8.out.s, HG8.out.n⟩, by omega, fun i hi => ⟨by have := (HC8.out i hi).1; omega, by have := (HC8.out i hi).2; omega⟩⟩
              · have : ((k - 1 : Nat) : Int) = (k : Int) - 1 := by omega
                rw [this]
              · rw [HRS.out]; exact HA12.out
            case measure => simp [intOf]; omega
          · obtain ⟨cc, hcc, hgg⟩ := HG5.out.g ix hix
            have HGG := Lib.hid hgg
            clear hgg
            go_wp2_with fail
            refine (record_any w.heap.size (m + 1 + 1) g7 w7 HA7.out.ht (by omega)).mono ?_
            rintro e w8 ⟨A8, c8, l, g8, rfl, hl8, hB8, hx8, ht8⟩
            have HA8 := Lib.hid (HA7.out.tape hx8 ht8)
            have HB8 := Lib.hid hB8
            have hcc1 := (HC5.out ix hix).1
            have hcc2 := (HC5.out ix hix).2
            have ha := HGG.out.app0 l (by omega) (by omega) (by omega)
            have HA1 := Lib.hid ha.1
            have HA2 := Lib.hid ha.2
            have hc1 : (Js ix).recs.length + (Js ix).pend.length < 4096 := by omega
            have hc2 : lens (Js ix).recs + lens (Js ix).pend + l.length ≤ 1048576 := by omega
            have HG8 := Lib.hid (HG5.out.step hix (by rw [HA2.out]) hcc HGG.out (HGG.out.appJ l) (fun _ _ _ => rfl) (Nat.le_succ _))
            have HC8 : Hid (∀ i, i < 3 → (upd Js ix (jappJ (Js ix) l) i).recs.length + (upd Js ix (jappJ (Js ix) l) i).pend.length ≤ 23 - k + 1 ∧ lens (upd Js ix (jappJ (Js ix) l) i).recs + lens (upd Js ix (jappJ (Js ix) l) i).pend ≤ 6 * (23 - k + 1)) := by
              intro i hi
              by_cases e : i = ix
              · subst e
                rw [upd_same, HA2.out]
                refine ⟨?_, ?_⟩
                · show (Js i).recs.length + ((Js i).pend ++ [l]).length ≤ _
                  rw [List.length_append, List.length_cons, List.length_nil]; omega
                · show lens (Js i).recs + lens ((Js i).pend ++ [l]) ≤ _
                  rw [lens_append]; simp only [lens]; omega
              · rw [upd_ne _ _ e]
                obtain ⟨h1, h2⟩ := HC5.out i hi
                exact ⟨by omega, by omega⟩
            have HREF : Hid (∀ g10 w10 v', RefAt g10 w10 v' ⟨(rfOf (Js ix)).start, (rfOf (Js ix)).recs, (rfOf (Js ix)).pend ++ [l]⟩ → RefAt g10 w10 v' (rfOf (jappJ (Js ix) l))) := by
              intro g10 w10 v' h
              rw [HA2.out]; exact h
            have HRS : Hid ((fun i => rfOf (upd Js ix (jappJ (Js ix) l) i)) = upd (fun i => rfOf (Js i)) ix (rfOf (jappJ (Js ix) l))) := upd_map Js rfOf ix (jappJ (Js ix) l)
            have HAP : Hid (Calls Try.prog 20 #[.pointer (some ⟨js ix, 0, none⟩), .slice A8 l.length c8] w8 fun e w' => e = .returned (.int .i64 (jappI (Js ix) l)) ∧ BothP (js ix) d g8 w8 (jappJ (Js ix) l) D w') := gappend (js ix) d g8 w8 (Js ix) D cc _ (HA8.out.hJ ix hix) HA8.out.hD HGG.out (by omega) (by omega) A8 c8 l HB8.out (by omega)
            rw [HA1.out] at HAP
            have HRA : Hid (∀ g10 w10, RefAt g10 w10 (.agg #[.int .i64 (Js ix).start, .slice (q ix).A1 (Js ix).recs.length (q ix).c1, .slice (q ix).A2 (Js ix).pend.length (q ix).c2]) (rfOf (Js ix)) → BytesAt g10 w10 (.slice A8 l.length c8) l → Calls Try.prog 31 #[.agg #[.int .i64 (Js ix).start, .slice (q ix).A1 (Js ix).recs.length (q ix).c1, .slice (q ix).A2 (Js ix).pend.length (q ix).c2], .slice A8 l.length c8] w10 (RefP g10 w10 ⟨(rfOf (Js ix)).start, (rfOf (Js ix)).recs, (rfOf (Js ix)).pend ++ [l]⟩ 0)) := by
              intro g10 w10 h1 h2
              exact rappend_any g10 w10 _ (rfOf (Js ix)) h1 hc1 A8 c8 l h2 (by omega) hc2
            have pj8 : w8.cell? ⟨jb, jo + ix, none⟩ = some (.pointer (some ⟨js ix, 0, none⟩)) := HA8.out.ptr hix
            clear hx8 ht8 hB8 ha HA7 pj b0 b1 b2 hcc1 hcc2 hc1 hc2 HGG
            generalize l.length = ln at *
            go_wp2_with fail
            refine HAP.out.mono ?_
            rintro e w9 ⟨rfl, hP⟩
            obtain ⟨g9, hap9, hx9⟩ := HA8.out.op hix hP
            have HB9 := Lib.hid (HB8.out.ext hx9)
            have HA9' := Lib.hid hap9
            obtain ⟨z0, z1, z2⟩ := blk9_cell hap9.hb hix
            have zz := hap9.hb.fz
            clear hap9 hx9 hP HA8 HB8 HAP pj8
            generalize jappJ (Js ix) l = K at *
            go_wp2_with fail
            refine (HRA.out g9 w9 (HA9'.out.ref hix) HB9.out).mono ?_
            rintro e w10 ⟨v', g10, rfl, hx10, hv⟩
            have hv' := HREF.out _ _ _ hv
            have HA10 := Lib.hid (HA9'.out.same hx10)
            obtain ⟨B1, e1, B2, e2, rfl, h1, h2⟩ := hv'
            have HA12 := Lib.hid (HA10.out.store hix (R' := rfOf K) (q' := ⟨B1, e1, B2, e2⟩) h1 h2)
            obtain ⟨y0, y1, y2⟩ := blk9_cell HA10.out.hb hix
            have yz := HA10.out.hb.fz
            clear hx10 hv h1 h2 HA9' HA10 HB9 z0 z1 z2 zz HREF HRA
            go_wp2_with fail
            go_round
            case rel =>
              refine ⟨k - 1, m + 1 + 1 + 8, g10, upd Js ix K, D, upd q ix ⟨B1, e1, B2, e2⟩, ?_, by omega, ?_, ⟨fun i hi => let ⟨c, h1, h2⟩ := HG8.out.g i hi; ⟨c, h1, h2.more (by omega)⟩, HG8.out.s, HG8.out.n⟩, by omega, fun i hi => ⟨by have := (HC8.out i hi).1; omega, by have := (HC8.out i hi).2; omega⟩⟩
              · have : ((k - 1 : Nat) : Int) = (k : Int) - 1 := by omega
                rw [this]
              · rw [HRS.out]; exact HA12.out
            case measure => simp [intOf]; omega
        · obtain rfl : k = 0 := by omega
          have hup : Up D ∧ D.pend = [] ∧ D.kept = D.now := by
            obtain ⟨c, _, h⟩ := HG5.out.g 0 (by omega)
            exact ⟨h.up, h.pl, h.kp⟩
          have HUP := Lib.hid hup
          clear hup
          go_wp2_with fail
          go_loopw [15] (fun i wr => ∃ (k : Nat) (gr : Gh), k ≤ 3 ∧ i = .int .i64 k ∧ Ap w gr wr w.heap.size d (nb + 1) jb jo nb js Js D m (fun i => rfOf (Js i)) q) (fun i _ => 3 - (intOf i).toNat)
          case atStart => exact ⟨0, gr, by omega, rfl, HA5.out⟩
          case round =>
            obtain ⟨k, g6, hk6, rfl, hap6⟩ := hrel
            have HA6 := Lib.hid hap6
            clear HA5
            by_cases hlt6 : k < 3
            · have pj : _ := hap6.ptr hlt6
              obtain ⟨b0, b1, b2⟩ := blk9_cell hap6.hb hlt6
              obtain ⟨cc, hcc, hgg⟩ := HG5.out.g k hlt6
              have k1 := hgg.st0
              have k2 := hgg.st1
              have k3 := hgg.cnt
              have HA6D := Lib.hid (HA6.out.same ((Ext.refl (fun _ => False) g6 _).drew))
              have HIS := Lib.hid (is_any (js k) d g6 _ (Js k) _ (HA6D.out.hJ k hlt6) (HA6D.out.ref hlt6) k1 (by omega) (by omega) (fun r hr => hgg.rl r (List.mem_append_left _ hr)))
              have hS := And.intro (HA6D.out.ptr hlt6) HA6D.out.hb
              clear hap6 hgg k1 k2 k3 pj b0 b1 b2
              go_wp2_with fail
              (refine wp_region_mix (S := fun x => x.cell? ⟨jb, jo + k, none⟩ = some (.pointer (some ⟨js k, 0, none⟩)) ∧ Blk (nb + 1) 48 (blk9 (fun i => rfOf (Js i)) q) x) [9] [([0, 1, 2, 3, 4, 5, 6, 7], 8)] (by kernel_rfl) (by kernel_rfl) (by intro c a d v w h; cases d <;> exact h) hS ?_; have hN : Nonempty (Held (fun x => x.cell? ⟨jb, jo + k, none⟩ = some (.pointer (some ⟨js k, 0, none⟩)) ∧ Blk (nb + 1) 48 (blk9 (fun i => rfOf (Js i)) q) x)) := ⟨⟨_, hS⟩⟩)
              have xp : ∀ y : Held (fun x => x.cell? ⟨jb, jo + k, none⟩ = some (.pointer (some ⟨js k, 0, none⟩)) ∧ Blk (nb + 1) 48 (blk9 (fun i => rfOf (Js i)) q) x), y.w.cell? ⟨jb, jo + k, none⟩ = some (.pointer (some ⟨js k, 0, none⟩)) := fun y => y.ok.1
              have x0 : ∀ y : Held (fun x => x.cell? ⟨jb, jo + k, none⟩ = some (.pointer (some ⟨js k, 0, none⟩)) ∧ Blk (nb + 1) 48 (blk9 (fun i => rfOf (Js i)) q) x), y.w.cell? ⟨nb + 1, k * 3, none⟩ = some (.int .i64 (rfOf (Js k)).start) := fun y => (blk9_cell y.ok.2 hlt6).1
              have x1 : ∀ y : Held (fun x => x.cell? ⟨jb, jo + k, none⟩ = some (.pointer (some ⟨js k, 0, none⟩)) ∧ Blk (nb + 1) 48 (blk9 (fun i => rfOf (Js i)) q) x), y.w.cell? ⟨nb + 1, k * 3 + 1, none⟩ = some (.slice (q k).A1 (rfOf (Js k)).recs.length (q k).c1) := fun y => (blk9_cell y.ok.2 hlt6).2.1
              have x2 : ∀ y : Held (fun x => x.cell? ⟨jb, jo + k, none⟩ = some (.pointer (some ⟨js k, 0, none⟩)) ∧ Blk (nb + 1) 48 (blk9 (fun i => rfOf (Js i)) q) x), y.w.cell? ⟨nb + 1, k * 3 + 2, none⟩ = some (.slice (q k).A2 (rfOf (Js k)).pend.length (q k).c2) := fun y => (blk9_cell y.ok.2 hlt6).2.2
              (unfold wpMix wpRd; (repeat (first | simp only [List.filterMap_cons] | simp only [List.filterMap_nil] | simp only [List.getElem?_toArray] | simp only [List.getElem?_cons_zero] | simp only [List.getElem?_cons_succ])); (try dsimp only); change wpQuiet _ _ _ _ (_ :: _ :: _ :: _ :: _ :: _ :: _ :: _ :: []) _; (repeat (go_big_quiet_step (fail))); refine wpQuiet_nil ?_; (try dsimp only))
              clear xp x0 x1 x2
              go_wp2_with fail
              refine HIS.out.mono ?_
              rintro e w7 ⟨rfl, g7, hx7⟩
              have HA7 := Lib.hid (HA6D.out.same hx7)
              have hS7 : (fun x => x.cell? ⟨jb, jo + k, none⟩ = some (.pointer (some ⟨js k, 0, none⟩)) ∧ Blk (nb + 1) 48 (blk9 (fun i => rfOf (Js i)) q) x) w7 := And.intro (HA7.out.ptr hlt6) HA7.out.hb
              clear hx7 HIS HA6 HA6D hS
              go_wp2_with fail
              refine ⟨hS7, ?_⟩
              (unfold wpMix wpRd; (repeat (first | simp only [List.filterMap_cons] | simp only [List.filterMap_nil] | simp only [List.getElem?_toArray] | simp only [List.getElem?_cons_zero] | simp only [List.getElem?_cons_succ])); (try dsimp only); change wpQuiet _ _ _ _ (_ :: []) _; (repeat (go_big_quiet_step (fail))); refine wpQuiet_nil ?_; (try dsimp only))
              clear hN
              go_wp2_with fail
              refine ⟨⟨_, _, _, _, _, _, _, _, _, _, _, _, _, _, _, _, ⟨k + 1, g7, by omega, by go_num, HA7.out⟩, rfl⟩, ?_⟩
              simp [intOf]
              omega
            · obtain rfl : k = 3 := by omega
              clear hap6
              go_wp2_with fail
              refine (next_any w.heap.size m g6 _ HA6.out.ht (by omega) 4 (by omega)).mono ?_
              rintro e w7 ⟨v, rfl, hv0, hv1, hx7, ht7⟩
              have HA7 := Lib.hid (HA6.out.tape hx7 ht7)
              have hvv : v ≤ 3 := by omega
              clear hx7 ht7 HA6 hv1
              go_wp2_with fail
              refine (next_any w.heap.size (m + 1) g6 w7 HA7.out.ht (by omega) 9 (by omega)).mono ?_
              rintro e w8 ⟨u, rfl, hu0, hu1, hx8, ht8⟩
              have HA8 := Lib.hid (HA7.out.tape hx8 ht8)
              have huu : u ≤ 8 := by omega
              clear hx8 ht8 HA7 hu1
              have HFIT : Hid (Fit D) := by
                obtain ⟨hu, hp, hkn⟩ := HUP.out
                refine ⟨by simp [hp], fun k hk => by simp [hp] at hk, by rw [hkn]; exact HA8.out.hD.len, ?_⟩
                rw [hkn]
                have := HG5.out.s
                have := cntF_le D.now (Js 0).file
                have := cntF_le D.now (Js 1).file
                have := cntF_le D.now (Js 2).file
                omega
              have HLD : Hid (∀ a b, lossD (downD D) a b = downD D) := by
                intro a b
                unfold lossD
                rw [if_pos (by simp [downD, HUP.out.2.1])]
              go_wp2_with fail
              refine (lose_any d g6 w8 D HA8.out.hD HFIT.out v (u - 1) (by omega) (by omega)).mono ?_
              rw [HLD.out]
              rintro e w9 ⟨rfl, hP⟩
              obtain ⟨g9, hap9⟩ := HA8.out.dev hP
              have HA9 := Lib.hid hap9
              clear hap9 hP HA8 HLD HFIT
              go_wp2_with fail
              refine (restart_any d g9 w9 (downD D) HA9.out.hD rfl (by simp [downD, HUP.out.2.1])).mono ?_
              have hDD : { downD D with down := false } = D := by
                obtain ⟨⟨h1, h2⟩, _⟩ := HUP.out
                rcases D with ⟨a, b, c, dd, e⟩
                simp only at h1 h2
                subst h1 h2
                rfl
              rw [hDD]
              rintro e w10 ⟨rfl, hP⟩
              obtain ⟨g10, hap10⟩ := HA9.out.dev hP
              have HA10 := Lib.hid hap10
              clear hap10 hP HA9 hDD
              go_wp2_with fail
              go_loopw [16] (fun i wr => ∃ (k : Nat) (gr : Gh) (Rs : Nat → RefR) (q : Nat → Q4), k ≤ 3 ∧ i = .int .i64 k ∧ Ap w gr wr w.heap.size d (nb + 1) jb jo nb js Js D (m + 1 + 1) Rs q ∧ ∀ i, i < 3 → (Rs i).start = (Js i).start ∧ (Rs i).recs = (Js i).recs) (fun i _ => 3 - (intOf i).toNat)
              case atStart => exact ⟨0, g10, _, _, by omega, rfl, HA10.out, fun i hi => ⟨rfl, rfl⟩⟩
              case round =>
                obtain ⟨k, g11, Rs, qq, hk11, rfl, hap11, hrs⟩ := hrel
                have HA11 := Lib.hid hap11
                have HRS := Lib.hid hrs
                clear HA10 hrs
                by_cases hlt11 : k < 3
                · have n0 : _ := hap11.hn.cell k
                  rw [nm3_cell k hlt11] at n0
                  obtain ⟨cc, hcc, hgg⟩ := HG5.out.g k hlt11
                  have HGG := Lib.hid hgg
                  have HOP := Lib.hid (gopen d g11 _ (Js k) D cc _ hap11.hD hgg (by omega))
                  rw [HG5.out.n k hlt11] at HOP
                  clear hap11 hgg
                  go_wp2_with fail
                  refine HOP.out.mono ?_
                  rintro e w12 ⟨j12, g12, rfl, hj12, hx12, hJ12⟩
                  have hap12 := HA11.out.step hx12 (fun o e => by subst e; exact hj12)
                  have hap13 := hap12.nil2 hlt11
                  have hne12 : j12 ≠ nb + 1 := by have := HA11.out.hb.lt; omega
                  have hxs : Ext (· = nb + 1) g12 w12 g12 (w12.setCell ⟨nb + 1, k * 3 + 2, none⟩ (.slice none 0 0)) := (Ext.refl _ _ _).setCell (fun _ => hap12.O) hap12.F _
                  have HJ13 := Lib.hid (hJ12.ext hxs hne12)
                  have HA13 := Lib.hid hap13
                  obtain ⟨z0, z1, z2⟩ := blk9_cell hap12.hb hlt11
                  have zz := hap12.hb.fz
                  have k1 := HGG.out.st0
                  have k2 := HGG.out.st1
                  have k3 := HGG.out.cnt
                  have HV13 : Hid (RefAt g12 (w12.setCell ⟨nb + 1, k * 3 + 2, none⟩ (.slice none 0 0)) (.agg #[.int .i64 (Rs k).start, .slice (qq k).A1 (Rs k).recs.length (qq k).c1, .slice none 0 0]) ⟨(disR (Js k)).start, (disR (Js k)).recs, (disR (Js k)).pend⟩) := by
                    have h := hap13.ref hlt11
                    rw [upd_same, upd_same] at h
                    obtain ⟨e1, e2⟩ := HRS.out k hlt11
                    have e3 : (⟨(Rs k).start, (Rs k).recs, []⟩ : RefR) = ⟨(disR (Js k)).start, (disR (Js k)).recs, (disR (Js k)).pend⟩ := by rw [e1, e2]; rfl
                    rw [← e3]
                    exact h
                  have HIS := Lib.hid (is_any j12 d g12 _ (disR (Js k)) _ HJ13.out HV13.out k1 (by show (Js k).start ≤ _; omega) (by show (Js k).recs.length ≤ _; omega) (fun r hr => HGG.out.rl r (List.mem_append_left _ hr)))
                  clear hap12 hap13 hxs hx12 hJ12 hj12 HOP n0 k1 k2 k3 hne12
                  go_wp2_with fail
                  refine HIS.out.mono ?_
                  rintro e w14 ⟨rfl, g14, hx14⟩
                  have HA14 := Lib.hid (HA13.out.same hx14)
                  clear hx14 HIS HA13 HJ13 HV13 HA11 z0 z1 z2 zz HGG
                  go_wp2_with fail
                  go_round
                  case rel =>
                    refine ⟨k + 1, g14, _, _, by omega, by go_num, HA14.out, fun i hi => ?_⟩
                    by_cases e : i = k
                    · subst e; rw [upd_same]; exact HRS.out i hi
                    · rw [upd_ne _ _ e]; exact HRS.out i hi
                  case measure => simp [intOf]; omega
                · obtain rfl : k = 3 := by omega
                  clear hap11
                  go_wp2_with fail
                  refine (known_any g11 _).mono ?_
                  rintro e w12 ⟨rfl, g12, hx12⟩
                  have HX12 := Lib.hid (HA11.out.hx.trans (hx12.imp (fun o h => Nat.le_trans HA11.out.hx.size h)))
                  clear hx12
                  go_wp2_with fail
                  go_ret
                  exact ⟨rfl, HX12.out.finW⟩

end Go.Proofs.Ytopggjpaplhboaa
