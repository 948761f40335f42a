/-
  Commit.
-/
import Derived.Test.YthjbaafbkalomaaJapp
namespace Go.Proofs.Ythjbaafbkalomaa
open Go.RowKit

theorem run_enters {P : Program} {f : FuncId} {fn : Func} (hf : P.funcs[f]? = some fn) (hname : (fn.name == "runtime.NumGoroutine") = false) (hb : fn.body.isSome = true) (args : Array Value) (w : World) : (callFunc f args).run P w = .ok (.enter f args) w := by
  obtain ⟨c, hc⟩ := Option.isSome_iff_exists.1 hb
  exact run_enter hf hname hc args w
def Jrn.file (J : Jrn) : ByteArray := J.name ++ ⟨#[46, 108, 111, 103]⟩
def Jrn.fresh (J : Jrn) : ByteArray := J.name ++ ⟨#[46, 110, 101, 119]⟩
structure JOk (J : Jrn) : Prop where
  nm : J.name.size ≤ 40
  n1 : namesOk [J.file] = true
  n2 : namesOk [J.fresh] = true
  n3 : namesOk [J.fresh, J.file] = true
  st0 : 0 ≤ J.start
  st1 : J.start < 9223372036854775808
  rl : ∀ r ∈ J.recs ++ J.pend, r.length ≤ 65536
  cnt : (J.recs ++ J.pend).length ≤ 1000000
noncomputable def sExt (J : Jrn) (j : Nat) : CStep := ⟨42, [.pointer (some ⟨j, 0, none⟩)], [], actI, fun D => actD D ⟨1, J.file, ⟨#[]⟩, framesB J.pend, true⟩, fun D => ∃ l0, D.now.m J.file = some l0 ∧ l0.length + (framesB J.pend).length ≤ 4194304 ∧ D.pend.length ≤ 1000000⟩
noncomputable def sRew (J : Jrn) (j : Nat) : CStep := ⟨43, [.pointer (some ⟨j, 0, none⟩)], [], actI, fun D => actD D ⟨0, J.fresh, ⟨#[]⟩, fileB J.start.toNat (J.recs ++ J.pend), true⟩, fun D => (fileB J.start.toNat (J.recs ++ J.pend)).length ≤ 4194304 ∧ D.now.n < 256 ∧ D.pend.length ≤ 1000000⟩
def sRep (J : Jrn) (j : Nat) : CStep := ⟨39, [.pointer (some ⟨j, 0, none⟩)], [], actI, fun D => actD D ⟨2, J.fresh, J.file, [], false⟩, fun D => (D.now.m J.fresh).isSome = true ∧ D.pend.length ≤ 1000000⟩
def sSync (d : Nat) : CStep := ⟨40, [.pointer (some ⟨d, 0, none⟩)], [], syncI, syncD, fun D => D.pend.length ≤ 1000000⟩

theorem sExt_ok {J : Jrn} (hJ : JOk J) (j d : Nat) : (sExt J j).ok (fun g w => JAt g w j d J) d := by
  refine ⟨fun args w => run_enters Try.func42 (by kernel_rfl) (by kernel_rfl) args w, fun g w D h1 h2 ⟨l0, h3, h4, h5⟩ => ?_⟩
  exact extend_any j d g w J D h1 h2 l0 hJ.nm hJ.n1 h3 (fun r hr => hJ.rl r (List.mem_append_right _ hr)) h4 h5 (by have := hJ.cnt; simp at this; omega)
theorem sRew_ok {J : Jrn} (hJ : JOk J) (j d : Nat) : (sRew J j).ok (fun g w => JAt g w j d J) d := by
  refine ⟨fun args w => run_enters Try.func43 (by kernel_rfl) (by kernel_rfl) args w, fun g w D h1 h2 ⟨h3, h4, h5⟩ => ?_⟩
  have := hJ.st0
  have := hJ.st1
  exact rewrite_any j d g w J D h1 h2 J.start.toNat (by omega) hJ.nm hJ.n2 (by omega) hJ.rl h3 h4 h5 hJ.cnt
theorem sRep_ok {J : Jrn} (hJ : JOk J) (j d : Nat) : (sRep J j).ok (fun g w => JAt g w j d J) d := by
  refine ⟨fun args w => run_enters Try.func39 (by kernel_rfl) (by kernel_rfl) args w, fun g w D h1 h2 ⟨h3, h4⟩ => ?_⟩
  exact replace_any j d g w J D h1 h2 hJ.nm hJ.n3 h3 h4
theorem sSync_ok (I : Gh → World → Prop) (d : Nat) : (sSync d).ok I d := by
  refine ⟨fun args w => run_enters Try.func40 (by kernel_rfl) (by kernel_rfl) args w, fun g w D h1 h2 h3 => ?_⟩
  exact sync_any d g w D h2 h3

noncomputable def comS (J : Jrn) (j d : Nat) : List CStep := if J.whole then [sExt J j, sSync d] else [sRew J j, sRep J j, sSync d]
noncomputable def comI (J : Jrn) (j d : Nat) (D : Dev) : Int := if J.dead then 313 else if J.pend.length = 0 then 0 else carryI (comS J j d) D
noncomputable def comD (J : Jrn) (j d : Nat) (D : Dev) : Dev := if J.dead then D else if J.pend.length = 0 then D else carryD (comS J j d) D
noncomputable def comJ (J : Jrn) (j d : Nat) (D : Dev) : Jrn := if J.dead then J else if J.pend.length = 0 then J else if carryI (comS J j d) D = 0 then { J with recs := J.recs ++ J.pend, pend := [], whole := true } else carryJ (carryI (comS J j d) D) J
theorem BothP.same {j d : Nat} {g : Gh} {w : World} {J : Jrn} {D : Dev} (hJ : JAt g w j d J) (hD : DevAt g w d D) : BothP j d g w J D w := ⟨g, Ext.refl _ _ _, hJ, hD⟩

theorem BothP.pre {j d : Nat} {g g1 : Gh} {w w1 w' : World} {J : Jrn} {D : Dev} (hx : Ext (fun _ => False) g w g1 w1) (h : BothP j d g1 w1 J D w') : BothP j d g w J D w' := by
  obtain ⟨g2, h1, h2, h3⟩ := h
  exact ⟨g2, (hx.imp (fun _ h => h.elim)).trans h1, h2, h3⟩
/-- The pending records join the durable ones. -/
theorem JIn.joined {g g3 : Gh} {w w3 : World} {j : Nat} {A1 A2 A3 : Option Addr} {c1 c2 c3 : Nat} {v1 v2 : List Value} {J : Jrn} (h : JIn g w j A1 c1 v1 A2 c2 v2 J) (hj : j < w.heap.size) (hx : Ext (· = j) g w g3 w3) (ha : App 37 1 j g3 w3 A3 (J.recs.length + J.pend.length) c3 (v1 ++ v2)) (hl : Lies g w A1 J.recs.length c1 g3 w3 A3 c3) :
    JIn g3 w3 j A3 c3 (v1 ++ v2) none 0 [] { J with recs := J.recs ++ J.pend, pend := [], whole := true } ∧ w3.heap[j]? = w.heap[j]? := by
  have hjf := hl.far j hj (fun hlt off he => h.r1.not_self h.F (by decide) hlt he rfl)
  refine ⟨⟨?_, (h.q1.append h.q2).ext hx, App.nil _ _ _ _ _, trivial, fun _ h2 => absurd h2 (Nat.lt_irrefl _), (hx.own j hj).trans h.O, hjf.2.trans h.F⟩, hjf.1⟩
  rw [List.length_append]; exact ha
theorem BothP.stored {j d : Nat} {g g3 : Gh} {w w3 : World} {J : Jrn} {D : Dev} {B1 B2 B3 : Option Addr} {e1 e2 e3 : Nat} {u : List Value} (hx : Ext (fun o => o = d ∨ o = j) g w g3 w3) (hi : JIn g3 w3 j B3 e3 u none 0 [] { J with recs := J.recs ++ J.pend, pend := [], whole := true }) (hD : DevAt g3 w3 d D) (hb : Blk j 66 (jCs d B1 e1 B2 e2 J) w3) (hne : j ≠ d) :
    BothP j d g w { J with recs := J.recs ++ J.pend, pend := [], whole := true } D (((w3.setCell ⟨j, 3, none⟩ (.slice B3 (J.recs.length + J.pend.length) e3)).setCell ⟨j, 4, none⟩ (.slice none 0 0)).setCell ⟨j, 6, none⟩ (.bool true)) := by
  obtain ⟨hx5, hi5⟩ := hi.self (grownBy_setCell w3 ⟨j, 3, none⟩ (.slice B3 (J.recs.length + J.pend.length) e3))
  obtain ⟨hx6, hi6⟩ := hi5.self (grownBy_setCell _ ⟨j, 4, none⟩ (.slice none 0 0))
  obtain ⟨hx7, hi7⟩ := hi6.self (grownBy_setCell _ ⟨j, 6, none⟩ (.bool true))
  have hxx := (hx5.trans hx6).trans hx7
  refine ⟨g3, hx.trans (hxx.imp (fun _ h => .inr h)), ⟨B3, e3, u, none, 0, [], ?_, hi7⟩, hD.ext hxx (fun e => hne e.symm)⟩
  have := ((hb.set 3 (.slice B3 (J.recs.length + J.pend.length) e3)).set 4 (.slice none 0 0)).set 6 (.bool true)
  simpa [jCs] using this
theorem calls_rd (g : Gh) (w : World) (e : TypeId) (ss : List CStep) (hm : ss.length ≤ maxLen) : Rd 1 (g.lit w.heap.size ss.length) (w.alloc (.cells (ss.map CStep.v).toArray e)) (some ⟨w.heap.size, 0, none⟩) ss.length (ss.map CStep.v) := (App.lit g w (ss.map CStep.v) e (0, 0) ss.length 0 (by simp) hm).rd

set_option maxRecDepth 100000 in
set_option maxHeartbeats 1600000 in
theorem commit_any (j d : Nat) (g : Gh) (w : World) (J : Jrn) (D : Dev) (hJ : JAt g w j d J) (hD : DevAt g w d D) (hok : JOk J) (hpre : carryPre (comS J j d) D) :
    Calls Try.prog 14 #[.pointer (some ⟨j, 0, none⟩)] w fun e w' => e = .returned (.int .i64 (comI J j d D)) ∧ BothP j d g w (comJ J j d D) (comD J j d D) w' := by
  have hne := hJ.ne_dev hD
  obtain ⟨A1, c1, v1, A2, c2, v2, hb, hi⟩ := hJ
  have HJ : Hid (JAt g w j d J) := ⟨A1, c1, v1, A2, c2, v2, hb, hi⟩
  have c7 : w.cell? ⟨j, 7, none⟩ = some (.bool J.dead) := hb.cell 7
  have c4 : w.cell? ⟨j, 4, none⟩ = some (.slice A2 J.pend.length c2) := hb.cell 4
  have c0 : w.cell? ⟨j, 0, none⟩ = some (.pointer (some ⟨d, 0, none⟩)) := hb.cell 0
  have c6 : w.cell? ⟨j, 6, none⟩ = some (.bool J.whole) := hb.cell 6
  obtain ⟨i0, hi0, hz0, hz1, hz2⟩ := info_parts Try.infoBytes
  have hcnt := hok.cnt
  simp only [List.length_append] at hcnt
  have HB := Lib.hid hb
  have HD := Lib.hid hD
  have HOK := Lib.hid hok
  have HPRE := Lib.hid hpre
  clear hb hi hD hok hpre
  by_cases h1 : J.dead = true
  · have HE : Hid (comI J j d D = 313) := by simp [Hid, comI, h1]
    have HJJ : Hid (comJ J j d D = J) := by simp [Hid, comJ, h1]
    have HDD : Hid (comD J j d D = D) := by simp [Hid, comD, h1]
    rw [h1] at c7
    go_enter Try.func14, Try.ntmps14
    go_wp2_with fail
    go_ret
    exact ⟨ret_int HE.out.symm, by rw [HJJ.out, HDD.out]; exact BothP.same HJ.out HD.out⟩
  have h1 : J.dead = false := by simpa using h1
  rw [h1] at c7
  by_cases h2 : J.pend.length = 0
  · have HE : Hid (comI J j d D = 0) := by simp [Hid, comI, h1, h2]
    have HJJ : Hid (comJ J j d D = J) := by simp [Hid, comJ, h1, h2]
    have HDD : Hid (comD J j d D = D) := by simp [Hid, comD, h1, h2]
    rw [h2] at c4
    go_enter Try.func14, Try.ntmps14
    go_wp2_with fail
    go_ret
    exact ⟨ret_int HE.out.symm, by rw [HJJ.out, HDD.out]; exact BothP.same HJ.out HD.out⟩
  have HE : Hid (comI J j d D = carryI (comS J j d) D) := by simp [Hid, comI, h1, h2]
  have HDD : Hid (comD J j d D = carryD (comS J j d) D) := by simp [Hid, comD, h1, h2]
  have h2' : ((J.pend.length : Int) == 0) = false := beq_eq_false_iff_ne.2 (by omega)
  by_cases h3 : J.whole = true
  · rw [h3] at c6
    have HCS : Hid (comS J j d = [sExt J j, sSync d]) := by simp [Hid, comS, h3]
    have ca6 : ∀ o, (w.alloc o).cell? ⟨j, 6, none⟩ = some (.bool true) := fun o => by rw [← h3]; exact (HB.out.alloc o).cell 6
    have hrd := calls_rd g (w) 46 [sExt J j, sSync d] (by unfold maxLen; simp)
    have hxl := Ext.lit (fun _ => False) g (w) (.cells ([sExt J j, sSync d].map CStep.v).toArray 46) 2
    simp only [List.length_cons, List.length_nil, Nat.zero_add, Nat.reduceAdd] at hrd
    generalize g.lit (w).heap.size 2 = gl at *
    have HX := Lib.hid (hxl)
    have HJ1 := Lib.hid (HJ.out.ext HX.out (fun h => h))
    have HD1 := Lib.hid (HD.out.ext HX.out (fun h => h))
    have HRD := Lib.hid hrd
    rw [HCS.out] at HPRE HE HDD
    clear hrd hxl
    go_enter Try.func14, Try.ntmps14
    go_wp2_with fail
    refine (carry_any (fun g w => JAt g w j d J) j d gl _ J D HJ1.out HD1.out HJ1.out (fun g w g' w' h hx => h.ext hx hne) _ 2 [sExt J j, sSync d] HRD.out (by simpa using ⟨sExt_ok HOK.out j d, sSync_ok _ d⟩) HPRE.out (by simp)).mono ?_
    rintro e w2 ⟨rfl, hP⟩
    have HP := Lib.hid hP
    have HCJ : Hid (comJ J j d D = if carryI [sExt J j, sSync d] D = 0 then { J with recs := J.recs ++ J.pend, pend := [], whole := true } else carryJ (carryI [sExt J j, sSync d] D) J) := by
      show _ = _
      unfold comJ
      rw [HCS.out, h1, if_neg (by decide), if_neg h2]
    clear hP HRD HCS HPRE
    generalize carryI [sExt J j, sSync d] D = ci at *
    generalize carryD [sExt J j, sSync d] D = cd at *
    by_cases hc : ci = 0
    rotate_left
    · have HCJ2 : Hid (comJ J j d D = carryJ ci J) := by show _ = _; rw [HCJ.out, if_neg hc]
      clear HCJ
      go_wp2_with fail
      go_ret
      refine ⟨ret_int HE.out.symm, ?_⟩
      rw [HCJ2.out, HDD.out]
      exact HP.out.pre HX.out
    · subst hc
      have HCJ2 : Hid (comJ J j d D = { J with recs := J.recs ++ J.pend, pend := [], whole := true }) := by show _ = _; rw [HCJ.out, if_pos rfl]
      obtain ⟨g2, hx2, hJ2, hD2⟩ := HP.out
      have hJ2 : JAt g2 w2 j d J := hJ2
      obtain ⟨B1, e1, u1, B2, e2, u2, hb2, hi2⟩ := hJ2
      have hS : Blk j 66 (jCs d B1 e1 B2 e2 J) w2.drew := hb2
      have hxd : Ext (fun _ => False) g2 w2 g2 w2.drew := (Ext.refl _ _ _).drew
      have HI2 := Lib.hid (hi2.ext hxd (fun h => h) hb2.lt)
      have HX2 := Lib.hid ((HX.out.imp (fun _ h => h.elim)).trans (hx2.trans (hxd.imp (fun _ h => h.elim))))
      have HD2 := Lib.hid (hD2.ext hxd (fun h => h))
      have HSRC := Lib.hid (HI2.out.r2.rd.src (P := Try.prog) Try.underlying33 e2 hi2.q2.one (fun h => (hi2.r2.nz h).1))
      clear HCJ HP hx2 hD2 hb2 hi2 HJ1 HD1 hxd
      go_wp2_with fail
      (refine wp_region_mixz (S := Blk j 66 (jCs d B1 e1 B2 e2 J)) [10, 11] 12 [([0, 1, 2, 3, 4, 5, 6, 7, 8], 9)] (by kernel_rfl) (by kernel_rfl) (by intro c a d v w h; cases d <;> exact h) hS ?_; have hN : Nonempty (Held (Blk j 66 (jCs d B1 e1 B2 e2 J))) := ⟨⟨_, hS⟩⟩)
      have r3 : ∀ y : Held (Blk j 66 (jCs d B1 e1 B2 e2 J)), y.w.cell? ⟨j, 3, none⟩ = some (.slice B1 J.recs.length e1) := fun y => y.ok.cell 3
      have r4 : ∀ y : Held (Blk j 66 (jCs d B1 e1 B2 e2 J)), y.w.cell? ⟨j, 4, none⟩ = some (.slice B2 J.pend.length e2) := fun y => y.ok.cell 4
      (unfold wpMixZ wpRd; (repeat (first | simp only [List.filterMap_cons] | simp only [List.filterMap_nil] | simp only [List.getElem?_toArray] | simp only [List.getElem?_cons_zero] | simp only [List.getElem?_cons_succ])); (try dsimp only); change wpQuiet _ _ _ _ (_ :: _ :: _ :: _ :: _ :: _ :: _ :: _ :: _ :: []) _; (repeat (go_big_quiet_step (fail))); refine wpQuiet_nil ?_; (try dsimp only))
      clear r3 r4
      refine wpList_append_app rfl _ _ _ _ rfl 37 i0 (.slice none 0 0) 1 24 Try.underlying33 hi0 hz0 hz1 hz2 rfl (by decide) rfl HI2.out.r1 rfl HSRC.out (by unfold maxLen; omega) (by omega) ?_
      intro B3 e3 w3 g3 hx3 ha3 hl3
      obtain ⟨hi3, hb3⟩ := HI2.out.joined hS.lt hx3 ha3 hl3
      have hS4 : Blk j 66 (jCs d B1 e1 B2 e2 J) w3 := hS.of hb3
      have HI4 := Lib.hid hi3
      have HX4 := Lib.hid (HX2.out.trans (hx3.imp (fun _ h => .inr h)))
      have HD4 := Lib.hid (HD2.out.ext hx3 (fun e => hne e.symm))
      have HS4 := Lib.hid hS4
      clear hx3 ha3 hl3 hi3 hb3 HI2
      refine ⟨hS4, ?_⟩
      have q3 : w3.cell? ⟨j, 3, none⟩ = some (.slice B1 J.recs.length e1) := hS4.cell 3
      have q4 : w3.cell? ⟨j, 4, none⟩ = some (.slice B2 J.pend.length e2) := hS4.cell 4
      have q6 : w3.cell? ⟨j, 6, none⟩ = some (.bool J.whole) := hS4.cell 6
      have z4 := hS4.fz
      clear hS4 c0 c4 c6 c7
      go_frame
      (unfold wpMixZ wpRd; (repeat (first | simp only [List.filterMap_cons] | simp only [List.filterMap_nil] | simp only [List.getElem?_toArray] | simp only [List.getElem?_cons_zero] | simp only [List.getElem?_cons_succ])); (try dsimp only); change wpQuiet _ _ _ _ (_ :: _ :: []) _; (repeat (go_big_quiet_step (fail))); refine wpQuiet_nil ?_; (try dsimp only))
      clear hN
      go_wp2_with fail
      go_ret
      refine ⟨ret_int HE.out.symm, ?_⟩
      rw [HCJ2.out, HDD.out]
      exact BothP.stored HX4.out HI4.out HD4.out HS4.out hne
  · have h3 : J.whole = false := by simpa using h3
    rw [h3] at c6
    have HCS : Hid (comS J j d = [sRew J j, sRep J j, sSync d]) := by simp [Hid, comS, h3]
    have ca6 : ∀ o, (w.alloc o).cell? ⟨j, 6, none⟩ = some (.bool false) := fun o => by rw [← h3]; exact (HB.out.alloc o).cell 6
    have ca0 : ∀ o, (w.alloc o).cell? ⟨j, 0, none⟩ = some (.pointer (some ⟨d, 0, none⟩)) := fun o => (HB.out.alloc o).cell 0
    have hxa : Ext (fun _ => False) g w g (w.alloc (.cells #[.func (.func 42) #[.pointer (some ⟨j, 0, none⟩)] #[], .func (.func 40) #[.pointer (some ⟨d, 0, none⟩)] #[]] 46)) := (Ext.refl _ _ _).alloc _
    have hrd := calls_rd g (w.alloc (.cells #[.func (.func 42) #[.pointer (some ⟨j, 0, none⟩)] #[], .func (.func 40) #[.pointer (some ⟨d, 0, none⟩)] #[]] 46)) 46 [sRew J j, sRep J j, sSync d] (by unfold maxLen; simp)
    have hxl := Ext.lit (fun _ => False) g (w.alloc (.cells #[.func (.func 42) #[.pointer (some ⟨j, 0, none⟩)] #[], .func (.func 40) #[.pointer (some ⟨d, 0, none⟩)] #[]] 46)) (.cells ([sRew J j, sRep J j, sSync d].map CStep.v).toArray 46) 3
    simp only [List.length_cons, List.length_nil, Nat.zero_add, Nat.reduceAdd] at hrd
    generalize g.lit (w.alloc (.cells #[.func (.func 42) #[.pointer (some ⟨j, 0, none⟩)] #[], .func (.func 40) #[.pointer (some ⟨d, 0, none⟩)] #[]] 46)).heap.size 3 = gl at *
    rw [show (w.alloc (.cells #[.func (.func 42) #[.pointer (some ⟨j, 0, none⟩)] #[], .func (.func 40) #[.pointer (some ⟨d, 0, none⟩)] #[]] 46)).heap.size = w.heap.size + 1 from by simp] at hrd
    have HX := Lib.hid (hxa.trans hxl)
    have HJ1 := Lib.hid (HJ.out.ext HX.out (fun h => h))
    have HD1 := Lib.hid (HD.out.ext HX.out (fun h => h))
    have HRD := Lib.hid hrd
    rw [HCS.out] at HPRE HE HDD
    clear hrd hxl
    go_enter Try.func14, Try.ntmps14
    go_wp2_with fail
    refine (carry_any (fun g w => JAt g w j d J) j d gl _ J D HJ1.out HD1.out HJ1.out (fun g w g' w' h hx => h.ext hx hne) _ 3 [sRew J j, sRep J j, sSync d] HRD.out (by simpa using ⟨sRew_ok HOK.out j d, sRep_ok HOK.out j d, sSync_ok _ d⟩) HPRE.out (by simp)).mono ?_
    rintro e w2 ⟨rfl, hP⟩
    have HP := Lib.hid hP
    have HCJ : Hid (comJ J j d D = if carryI [sRew J j, sRep J j, sSync d] D = 0 then { J with recs := J.recs ++ J.pend, pend := [], whole := true } else carryJ (carryI [sRew J j, sRep J j, sSync d] D) J) := by
      show _ = _
      unfold comJ
      rw [HCS.out, h1, if_neg (by decide), if_neg h2]
    clear hP HRD HCS HPRE
    generalize carryI [sRew J j, sRep J j, sSync d] D = ci at *
    generalize carryD [sRew J j, sRep J j, sSync d] D = cd at *
    by_cases hc : ci = 0
    rotate_left
    · have HCJ2 : Hid (comJ J j d D = carryJ ci J) := by show _ = _; rw [HCJ.out, if_neg hc]
      clear HCJ
      go_wp2_with fail
      go_ret
      refine ⟨ret_int HE.out.symm, ?_⟩
      rw [HCJ2.out, HDD.out]
      exact HP.out.pre HX.out
    · subst hc
      have HCJ2 : Hid (comJ J j d D = { J with recs := J.recs ++ J.pend, pend := [], whole := true }) := by show _ = _; rw [HCJ.out, if_pos rfl]
      obtain ⟨g2, hx2, hJ2, hD2⟩ := HP.out
      have hJ2 : JAt g2 w2 j d J := hJ2
      obtain ⟨B1, e1, u1, B2, e2, u2, hb2, hi2⟩ := hJ2
      have hS : Blk j 66 (jCs d B1 e1 B2 e2 J) w2.drew := hb2
      have hxd : Ext (fun _ => False) g2 w2 g2 w2.drew := (Ext.refl _ _ _).drew
      have HI2 := Lib.hid (hi2.ext hxd (fun h => h) hb2.lt)
      have HX2 := Lib.hid ((HX.out.imp (fun _ h => h.elim)).trans (hx2.trans (hxd.imp (fun _ h => h.elim))))
      have HD2 := Lib.hid (hD2.ext hxd (fun h => h))
      have HSRC := Lib.hid (HI2.out.r2.rd.src (P := Try.prog) Try.underlying33 e2 hi2.q2.one (fun h => (hi2.r2.nz h).1))
      clear HCJ HP hx2 hD2 hb2 hi2 HJ1 HD1 hxd
      go_wp2_with fail
      (refine wp_region_mixz (S := Blk j 66 (jCs d B1 e1 B2 e2 J)) [10, 11] 12 [([0, 1, 2, 3, 4, 5, 6, 7, 8], 9)] (by kernel_rfl) (by kernel_rfl) (by intro c a d v w h; cases d <;> exact h) hS ?_; have hN : Nonempty (Held (Blk j 66 (jCs d B1 e1 B2 e2 J))) := ⟨⟨_, hS⟩⟩)
      have r3 : ∀ y : Held (Blk j 66 (jCs d B1 e1 B2 e2 J)), y.w.cell? ⟨j, 3, none⟩ = some (.slice B1 J.recs.length e1) := fun y => y.ok.cell 3
      have r4 : ∀ y : Held (Blk j 66 (jCs d B1 e1 B2 e2 J)), y.w.cell? ⟨j, 4, none⟩ = some (.slice B2 J.pend.length e2) := fun y => y.ok.cell 4
      (unfold wpMixZ wpRd; (repeat (first | simp only [List.filterMap_cons] | simp only [List.filterMap_nil] | simp only [List.getElem?_toArray] | simp only [List.getElem?_cons_zero] | simp only [List.getElem?_cons_succ])); (try dsimp only); change wpQuiet _ _ _ _ (_ :: _ :: _ :: _ :: _ :: _ :: _ :: _ :: _ :: []) _; (repeat (go_big_quiet_step (fail))); refine wpQuiet_nil ?_; (try dsimp only))
      clear r3 r4
      refine wpList_append_app rfl _ _ _ _ rfl 37 i0 (.slice none 0 0) 1 24 Try.underlying33 hi0 hz0 hz1 hz2 rfl (by decide) rfl HI2.out.r1 rfl HSRC.out (by unfold maxLen; omega) (by omega) ?_
      intro B3 e3 w3 g3 hx3 ha3 hl3
      obtain ⟨hi3, hb3⟩ := HI2.out.joined hS.lt hx3 ha3 hl3
      have hS4 : Blk j 66 (jCs d B1 e1 B2 e2 J) w3 := hS.of hb3
      have HI4 := Lib.hid hi3
      have HX4 := Lib.hid (HX2.out.trans (hx3.imp (fun _ h => .inr h)))
      have HD4 := Lib.hid (HD2.out.ext hx3 (fun e => hne e.symm))
      have HS4 := Lib.hid hS4
      clear hx3 ha3 hl3 hi3 hb3 HI2
      refine ⟨hS4, ?_⟩
      have q3 : w3.cell? ⟨j, 3, none⟩ = some (.slice B1 J.recs.length e1) := hS4.cell 3
      have q4 : w3.cell? ⟨j, 4, none⟩ = some (.slice B2 J.pend.length e2) := hS4.cell 4
      have q6 : w3.cell? ⟨j, 6, none⟩ = some (.bool J.whole) := hS4.cell 6
      have z4 := hS4.fz
      clear hS4 c0 c4 c6 c7
      go_frame
      (unfold wpMixZ wpRd; (repeat (first | simp only [List.filterMap_cons] | simp only [List.filterMap_nil] | simp only [List.getElem?_toArray] | simp only [List.getElem?_cons_zero] | simp only [List.getElem?_cons_succ])); (try dsimp only); change wpQuiet _ _ _ _ (_ :: _ :: []) _; (repeat (go_big_quiet_step (fail))); refine wpQuiet_nil ?_; (try dsimp only))
      clear hN
      go_wp2_with fail
      go_ret
      refine ⟨ret_int HE.out.symm, ?_⟩
      rw [HCJ2.out, HDD.out]
      exact BothP.stored HX4.out HI4.out HD4.out HS4.out hne

end Go.Proofs.Ythjbaafbkalomaa
