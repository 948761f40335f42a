/-
  Sync.
-/
import Derived.Test.YthjbaafbkalomaaDev3
namespace Go.Proofs.Ythjbaafbkalomaa
open Go.RowKit

def Gh.give (g : Gh) (b o : Nat) : Gh := ⟨fun k => if k = b then 0 else g.F k, fun k => if k = b then o else g.O k⟩
theorem Ext.give (M : Nat → Prop) (g : Gh) (w : World) (ob : Obj) (o : Nat) : Ext M g w (g.give w.heap.size o) (w.alloc ob) :=
  ((Ext.refl M g w).alloc ob).up (fun b hb => by simp only [Gh.give]; rw [if_neg (by omega)]) (fun b hb => by simp only [Gh.give]; rw [if_neg (by omega)])
theorem Gh.give_O (g : Gh) (b o : Nat) : (g.give b o).O b = o := by simp [Gh.give]
theorem Gh.give_F (g : Gh) (b o : Nat) : (g.give b o).F b = 0 := by simp [Gh.give]

/-- A copy of a map by its entries. -/
theorem MapIs.clone {b : Nat} {L : List (ByteArray × Value)} {w : World} {es : Array MapEntry} {clock : Nat} (h : MapIs b L w) (hb : w.heap[b]? = some (.map es clock)) : MapIs w.heap.size L (w.alloc (.map es clock)) := by
  obtain ⟨es', clock', h1, h2⟩ := h
  rw [hb] at h1
  injection h1 with h1
  injection h1 with e1 e2
  subst e1; subst e2
  exact ⟨es, clock, heap_alloc_new w _, h2⟩

def syncI (D : Dev) : Int := if D.down then 303 else if burnB D then 303 else 0
def syncD (D : Dev) : Dev := if D.down then D else if burnB D then burnD D else if (burnD D).pend.length = 0 then burnD D else { burnD D with kept := (burnD D).now, pend := [] }

theorem sync_end {d km nm : Nat} {g : Gh} {w w1 : World} {A : Option Addr} {cap : Nat} {xs : List Value} {E : Dev} {es : Array MapEntry} {clock : Nat} (hb : Blk d 63 (devCs km nm A cap E) w) (hi : DevIn g w d km nm A cap xs E) (hm : w.heap[nm]? = some (.map es clock))
    (hg : (w.alloc (.map es clock)).grownBy w1 (some d)) (hB : Blk d 63 (devCs w.heap.size nm none 0 { E with kept := E.now, pend := [] }) w1) : DevP d g w { E with kept := E.now, pend := [] } w1 := by
  obtain ⟨n1, n2⟩ := hi.nes hb
  have hlt := hb.lt
  have hx := Ext.give (fun _ => False) g w (.map es clock) d
  have hO := Gh.give_O g w.heap.size d
  have hF := Gh.give_F g w.heap.size d
  have hnml := hi.now.lt
  obtain ⟨L, hL, hn, h3, h4⟩ := hi.now.rd.ex
  have hL1 := hL.clone hm
  generalize g.give w.heap.size d = g1 at *
  have hx2 : Ext (· = d) g1 (w.alloc (.map es clock)) g1 w1 := (Ext.refl _ _ _).one hg (fun _ => by rw [hx.own d hlt]; exact hi.O) (hx.zero d hlt hi.F)
  have hblk : ∀ b, b < w.heap.size + 1 → b ≠ d → w1.heap[b]? = (w.alloc (.map es clock)).heap[b]? := fun b hb' hne => hg.block b (by simpa using hb') (fun e => hne (by injection e))
  have hkept : FlRd g1 (w.alloc (.map es clock)) w.heap.size E.now := ⟨L, hL1, hn, h3, fun k v hl => let ⟨l, e1, e2⟩ := h4 k v hl; ⟨l, e1, e2.ext hx⟩⟩
  refine ⟨g1, (hx.imp (fun _ h => h.elim)).trans hx2, w.heap.size, nm, none, 0, [], hB, by omega, hO, hF, hkept.ext hx2 (hblk _ (by omega) (by omega)), ?_, App.nil _ _ _ _ _, trivial, ?_, hx.zero d hlt hi.F, hi.f0, hi.f1⟩
  · exact (hi.now.ext hx (fun h => h)).same hx2 fun k hk ho => ⟨hblk k (by simpa using hk) (fun e => by
      subst e
      rcases ho with ho | ho
      · exact ho (hx.zero k hlt hi.F)
      · exact n1 ho), rfl⟩
  · rw [hx.own d hlt]; exact hi.O

set_option maxRecDepth 100000 in
set_option maxHeartbeats 1600000 in
theorem sync_any (d : Nat) (g : Gh) (w : World) (D : Dev) (hD : DevAt g w d D) (hpl : D.pend.length ≤ 1000000) :
    Calls Try.prog 40 #[.pointer (some ⟨d, 0, none⟩)] w fun e w' => e = .returned (.int .i64 (syncI D)) ∧ DevP d g w (syncD D) w' := by
  have hD0 := hD
  obtain ⟨km, nm, A, cap, xs, hb, hi⟩ := hD0
  have c3 : w.cell? ⟨d, 3, none⟩ = some (.bool D.down) := hb.cell 3
  clear hb hi
  cases hdn : D.down
  · rw [hdn] at c3
    cases hbb : burnB D
    · have HI : Hid (syncI D = 0) := by simp [Hid, syncI, hdn, hbb]
      have HDD : Hid (syncD D = if (burnD D).pend.length = 0 then burnD D else { burnD D with kept := (burnD D).now, pend := [] }) := by simp [Hid, syncD, hdn, hbb]
      have HBB := Lib.hid hbb
      have hpE : (burnD D).pend.length ≤ 1000000 := by rw [(burn_now D).2.1]; exact hpl
      clear hbb hdn
      go_enter Try.func40, Try.ntmps40
      go_wp2_with fail
      refine (burn_any d g _ D hD).mono ?_
      rw [HBB.out]
      rintro e w1 ⟨rfl, hx1, hD2⟩
      have HX1 := Lib.hid hx1
      have HD2 := Lib.hid hD2
      obtain ⟨km, nm, A, cap, xs, hb, hi⟩ := hD2
      have c2 : w1.cell? ⟨d, 2, none⟩ = some (.slice A (burnD D).pend.length cap) := hb.cell 2
      have c1 : w1.cell? ⟨d, 1, none⟩ = some (.map (some nm)) := hb.cell 1
      clear hx1 c3
      generalize burnD D = E at *
      by_cases h0 : E.pend.length = 0
      · have h0b : decide (0 < E.pend.length) = false := decide_eq_false (by omega)
        have HFIN : Hid (DevP d g w (syncD D) w1) := by
          rw [Hid, HDD.out, if_pos h0]
          exact ⟨g, HX1.out, HD2.out⟩
        have H0 := Lib.hid h0
        clear h0 hb hi
        go_wp2_with fail
        go_ret
        exact ⟨ret_int HI.out.symm, HFIN.out⟩
      · have h0b : decide (0 < E.pend.length) = true := decide_eq_true (by omega)
        obtain ⟨L, hL, _⟩ := hi.now.ex
        obtain ⟨es, clock, hm, _⟩ := hL
        have HM := Lib.hid hm
        have hbk := hb
        have z := (hbk.alloc (.map es clock)).fz
        have a0 : (w1.alloc (.map es clock)).cell? ⟨d, 0, none⟩ = some (.map (some km)) := (hbk.alloc (.map es clock)).cell 0
        have a2 : (w1.alloc (.map es clock)).cell? ⟨d, 2, none⟩ = some (.slice A E.pend.length cap) := (hbk.alloc (.map es clock)).cell 2
        have HFIN : Hid (∀ w2, (w1.alloc (.map es clock)).grownBy w2 (some d) → Blk d 63 (devCs w1.heap.size nm none 0 { E with kept := E.now, pend := [] }) w2 → DevP d g w (syncD D) w2) := by
          intro w2 hg hB
          rw [HDD.out, if_neg h0]
          exact (sync_end hb hi HM.out hg hB).pre HX1.out
        have HBK := Lib.hid (hb.alloc (.map es clock))
        clear h0 hb hi hm hbk
        go_wp2_with fail
        refine (mapsClone_any nm es clock _ HM.out).mono ?_
        rintro e w2 ⟨rfl, rfl⟩
        go_wp2_with fail
        go_ret
        refine ⟨ret_int HI.out.symm, HFIN.out _ ((grownBy_setCell _ ⟨d, 0, none⟩ _).trans (grownBy_setCell _ ⟨d, 2, none⟩ _)) ?_⟩
        exact (HBK.out.set 0 _).set 2 _
    · have HI : Hid (syncI D = 303) := by simp [Hid, syncI, hdn, hbb]
      have HDD : Hid (syncD D = burnD D) := by simp [Hid, syncD, hdn, hbb]
      have HBB := Lib.hid hbb
      clear hbb hdn
      go_enter Try.func40, Try.ntmps40
      go_wp2_with fail
      refine (burn_any d g _ D hD).mono ?_
      rw [HBB.out]
      rintro e w1 ⟨rfl, hx1, hD2⟩
      go_wp2_with fail
      go_ret
      exact ⟨ret_int HI.out.symm, g, hx1, by rw [HDD.out]; exact hD2⟩
  · rw [hdn] at c3
    have HI : Hid (syncI D = 303) := by simp [Hid, syncI, hdn]
    have HDD : Hid (syncD D = D) := by simp [Hid, syncD, hdn]
    clear hdn
    go_enter Try.func40, Try.ntmps40
    go_wp2_with fail
    go_ret
    exact ⟨ret_int HI.out.symm, g, Ext.refl _ _ _, by rw [HDD.out]; exact hD⟩

end Go.Proofs.Ythjbaafbkalomaa
