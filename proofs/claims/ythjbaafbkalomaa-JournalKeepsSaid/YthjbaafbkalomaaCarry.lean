/-
  carry: calls of the device up to the first one that fails.
-/
import Derived.Test.YthjbaafbkalomaaWrite
namespace Go.Proofs.Ythjbaafbkalomaa
open Go.RowKit

structure CStep where
  f : FuncId
  fst : List Value
  cap : List Value
  i : Dev → Int
  act : Dev → Dev
  pre : Dev → Prop
def CStep.v (s : CStep) : Value := .func (.func s.f) s.fst.toArray s.cap.toArray
theorem run_enter {P : Program} {f : FuncId} {fn : Func} {c : Code} (hf : P.funcs[f]? = some fn) (hname : (fn.name == "runtime.NumGoroutine") = false) (hb : fn.body = some c) (args : Array Value) (w : World) : (callFunc f args).run P w = .ok (.enter f args) w := by
  have h1 : fn.name ≠ "runtime.NumGoroutine" := by simpa using hname
  simp [callFunc, hf, h1, hb]
def CStep.ok (s : CStep) (I : Gh → World → Prop) (d : Nat) : Prop := (∀ args w, (callFunc s.f args).run Try.prog w = .ok (.enter s.f args) w) ∧ ∀ g w D, I g w → DevAt g w d D → s.pre D → Calls Try.prog s.f (s.fst ++ s.cap).toArray w fun e w' => e = .returned (.int .i64 (s.i D)) ∧ DevP d g w (s.act D) w'
def carryI : List CStep → Dev → Int
  | [], _ => 0
  | s :: ss, D => if s.i D = 0 then carryI ss (s.act D) else s.i D
def carryD : List CStep → Dev → Dev
  | [], D => D
  | s :: ss, D => if s.i D = 0 then carryD ss (s.act D) else s.act D
def carryJ (i : Int) (J : Jrn) : Jrn := if i = 0 then J else { J with dead := decide (i = 303) }
def carryPre : List CStep → Dev → Prop
  | [], _ => True
  | s :: ss, D => s.pre D ∧ (s.i D = 0 → carryPre ss (s.act D))
def BothP (j d : Nat) (g : Gh) (w : World) (J : Jrn) (D : Dev) (w' : World) : Prop := ∃ g', Ext (fun o => o = d ∨ o = j) g w g' w' ∧ JAt g' w' j d J ∧ DevAt g' w' d D

/-- The journal dies, or not: its own cell is written. -/
theorem BothP.dead {j d : Nat} {g : Gh} {w w1 : World} {J : Jrn} {D : Dev} {g1 : Gh} (hx : Ext (· = d) g w g1 w1) (hJ : JAt g1 w1 j d J) (hD : DevAt g1 w1 d D) (b : Bool) : BothP j d g w { J with dead := b } D (w1.setCell ⟨j, 7, none⟩ (.bool b)) := by
  have hne := hJ.ne_dev hD
  obtain ⟨A1, c1, v1, A2, c2, v2, hb, hi⟩ := hJ
  obtain ⟨hx2, hi2⟩ := hi.self (grownBy_setCell w1 ⟨j, 7, none⟩ (.bool b))
  refine ⟨g1, (hx.imp (fun _ h => .inl h)).trans (hx2.imp (fun _ h => .inr h)), ⟨A1, c1, v1, A2, c2, v2, ?_, ⟨hi2.r1, hi2.q1, hi2.r2, hi2.q2, hi2.ne, hi2.O, hi2.F⟩⟩, hD.ext hx2 (fun e => hne e.symm)⟩
  have := hb.set 7 (.bool b)
  simpa [jCs] using this

set_option maxRecDepth 100000 in
set_option maxHeartbeats 1600000 in
theorem carry_any (I : Gh → World → Prop) (j d : Nat) (g : Gh) (w : World) (J : Jrn) (D : Dev) (hJ : JAt g w j d J) (hD : DevAt g w d D) (hI : I g w) (hIx : ∀ g w g' w', I g w → Ext (· = d) g w g' w' → I g' w') (A : Option Addr) (c : Nat) (ss : List CStep) (hr : Rd 1 g w A ss.length (ss.map CStep.v)) (hok : ∀ s ∈ ss, s.ok I d) (hpre : carryPre ss D) (hn : ss.length ≤ 1000) :
    Calls Try.prog 38 #[.pointer (some ⟨j, 0, none⟩), .slice A ss.length c] w fun e w' => e = .returned (.int .i64 (carryI ss D)) ∧ BothP j d g w (carryJ (carryI ss D) J) (carryD ss D) w' := by
  have HJ := Lib.hid hJ
  have HD := Lib.hid hD
  have HI := Lib.hid hI
  have HIX := Lib.hid hIx
  have HR := Lib.hid hr
  have HOK := Lib.hid hok
  have HPRE := Lib.hid hpre
  clear hJ hD hI hIx hr hok hpre
  go_enter Try.func38, Try.ntmps38
  go_wp2_with fail
  go_loopw [10] (fun i wr => ∃ (k : Nat) (D' : Dev) (gr : Gh), k ≤ ss.length ∧ i = .int .i64 k ∧ Ext (· = d) g w gr wr ∧ DevAt gr wr d D' ∧ carryPre (ss.drop k) D' ∧ carryI ss D = carryI (ss.drop k) D' ∧ carryD ss D = carryD (ss.drop k) D') (fun i _ => ss.length - (intOf i).toNat)
  case atStart => exact ⟨0, D, g, Nat.zero_le _, rfl, Ext.refl _ _ _, HD.out, HPRE.out, rfl, rfl⟩
  case round =>
    obtain ⟨k, D', gr, hk, rfl, hx, hd, hpre, hci, hcd⟩ := hrel
    have HX := Lib.hid hx
    have HD1 := Lib.hid hd
    have HCD := Lib.hid hcd
    have HCI := Lib.hid hci
    by_cases hlt : k < ss.length
    · have hdr : ss.drop k = ss[k] :: ss.drop (k + 1) := List.drop_eq_getElem_cons hlt
      rw [hdr] at hpre HCD HCI
      have hokk := HOK.out ss[k] (List.getElem_mem hlt)
      obtain ⟨b, off, rfl, _, _, hc⟩ := (HR.out.ext HX.out).at_ (by omega)
      have hcell := hc k (CStep.v ss[k]) (by simp [hlt])
      generalize hS : ss[k] = s at *
      obtain ⟨f, fst, cap, i, act, pre⟩ := s
      simp only [CStep.v] at hcell
      clear hc hx hd hcd hci
      obtain ⟨hp1, hp2⟩ := hpre
      obtain ⟨hen, hcall⟩ := hokk
      dsimp only at hen hcall hp1 hp2
      have HCALL := Lib.hid (hcall gr wr D' (HIX.out g w gr wr HI.out HX.out) HD1.out hp1)
      have HP2 := Lib.hid hp2
      have hen1 := hen (fst ++ cap).toArray
      clear hen hcall hp1 hp2 HOK HPRE hdr
      have HJ1 := Lib.hid (HJ.out.ext HX.out (HJ.out.ne_dev HD.out))
      go_wp2_with fail
      refine HCALL.out.mono ?_
      rintro e w2 ⟨rfl, g2, hx2, hd2⟩
      have HX2 := Lib.hid (HX.out.trans hx2)
      have HD2 := Lib.hid hd2
      have HJ2 := Lib.hid (HJ1.out.ext hx2 (HJ1.out.ne_dev HD1.out))
      have hfz : w2.frozen? ⟨j, 7, none⟩ = false ∧ ∃ u, w2.cell? ⟨j, 7, none⟩ = some (.bool u) := by
        obtain ⟨A1, c1, v1, A2, c2, v2, hb, hi⟩ := HJ2.out
        exact ⟨hb.fz 7, J.dead, hb.cell 7⟩
      obtain ⟨hfz1, u, hcu⟩ := hfz
      clear hx2 hd2
      by_cases h0 : i D' = 0
      · have HCI2 : Hid (carryI ss D = carryI (ss.drop (k + 1)) (act D')) := by show _ = _; rw [HCI.out]; simp [carryI, h0]
        have HCD2 : Hid (carryD ss D = carryD (ss.drop (k + 1)) (act D')) := by show _ = _; rw [HCD.out]; simp [carryD, h0]
        have HP3 := Lib.hid (HP2.out h0)
        clear HCI HCD HP2 HCALL
        rw [h0]
        go_wp2_with fail
        go_round
        case rel => exact ⟨k + 1, act D', g2, by omega, by go_num, HX2.out, HD2.out, HP3.out, HCI2.out, HCD2.out⟩
        case measure => simp [intOf]; omega
      · have HCI2 : Hid (carryI ss D = i D') := by show _ = _; rw [HCI.out]; simp [carryI, h0]
        have HCD2 : Hid (carryD ss D = act D') := by show _ = _; rw [HCD.out]; simp [carryD, h0]
        clear HCI HCD HP2 HCALL
        generalize i D' = r at *
        by_cases h3 : r = 303
        · subst h3
          go_wp2_with fail
          go_ret
          refine ⟨ret_int HCI2.out.symm, ?_⟩
          rw [HCI2.out, HCD2.out]
          simpa [carryJ] using BothP.dead HX2.out HJ2.out HD2.out true
        · go_wp2_with fail
          go_ret
          refine ⟨ret_int HCI2.out.symm, ?_⟩
          rw [HCI2.out, HCD2.out]
          have hres := BothP.dead HX2.out HJ2.out HD2.out (r == 303)
          have hcj : carryJ r J = { J with dead := r == 303 } := by unfold carryJ; rw [if_neg h0]; rfl
          rw [hcj]
          exact hres
    · obtain rfl : k = ss.length := by omega
      rw [List.drop_length] at HCD HCI
      clear hx hd hcd hci HR HOK
      go_wp2_with fail
      go_ret
      refine ⟨ret_int HCI.out.symm, ?_⟩
      rw [HCI.out, HCD.out]
      exact ⟨gr, HX.out.imp (fun _ h => .inl h), HJ.out.ext HX.out (HJ.out.ne_dev HD.out), HD1.out⟩

end Go.Proofs.Ythjbaafbkalomaa
