/-
  The device carries out an operation.
-/
import Derived.Test.YthjbaafbkalomaaDev
namespace Go.Proofs.Ythjbaafbkalomaa
open Go.RowKit

/-- A new block of one's own. -/
def Gh.box (g : Gh) (b : Nat) : Gh := ⟨fun k => if k = b then 0 else g.F k, fun k => if k = b then b else g.O k⟩
theorem Ext.box (M : Nat → Prop) (g : Gh) (w : World) (o : Obj) : Ext M g w (g.box w.heap.size) (w.alloc o) :=
  ((Ext.refl M g w).alloc o).up (fun b hb => by simp only [Gh.box]; rw [if_neg (by omega)]) (fun b hb => by simp only [Gh.box]; rw [if_neg (by omega)])
theorem Gh.box_O (g : Gh) (b : Nat) : (g.box b).O b = b := by simp [Gh.box]
theorem Gh.box_F (g : Gh) (b : Nat) : (g.box b).F b = 0 := by simp [Gh.box]

theorem FlAp.same2 {o : Nat} {g g' : Gh} {w w' : World} {b : Nat} {f : Fl} {M : Nat → Prop} (h : FlAp o g w b f) (hx : Ext M g w g' w') (hb : w'.heap[b]? = w.heap[b]? ∧ g'.F b = g.F b) (hk : ∀ k cs, w.heap[k]? = some (.cells cs 5 (0, 0)) → w'.heap[k]? = w.heap[k]? ∧ g'.F k = g.F k) : FlAp o g' w' b f := by
  have hlt := h.lt
  obtain ⟨L, h1, h2, h3, h4, h5⟩ := h.ex
  refine ⟨⟨L, h1.of_block hb.1, h2, h3, fun k v hl => ?_, h5⟩, (hx.own b hlt).trans h.O, hb.2.trans h.F⟩
  obtain ⟨l, A, cap, e1, e2, e3, ha⟩ := h4 k v hl
  refine ⟨l, A, cap, e1, e2, e3, ha.ext' hx fun b1 off hA hb1 hlt1 => ?_⟩
  obtain ⟨h0, b2, cs, f1, _, f3, f4, _⟩ := ha.sp hlt1
  rw [hA] at f1; injection f1 with f1; injection f1 with f1 _
  rw [f1]
  exact hk b2 cs f4

theorem Try.infoOp : (Try.prog.info? 96).map (fun i => (i.zero, i.size, i.bytes)) = some (some (.agg #[.nilFunc, .string ⟨#[]⟩, .string ⟨#[]⟩, .slice none 0 0, .bool false]), 5, 72) := by kernel_rfl

def doI (D : Dev) : Int := if burnB D then 303 else 0
def doD (D : Dev) (o : POp) : Dev := if burnB D then burnD D else { burnD D with now := D.now.run o, pend := D.pend ++ [o] }
theorem burn_now (D : Dev) : (burnD D).now = D.now ∧ (burnD D).pend = D.pend ∧ (burnD D).kept = D.kept := by
  unfold burnD; split <;> exact ⟨rfl, rfl, rfl⟩

theorem BytesAt.rd {g : Gh} {w : World} {A : Option Addr} {n c : Nat} {l : List UInt8} (h : BytesAt g w (.slice A n c) l) : n = l.length ∧ (A = none → l.length = 0) ∧ Rd 1 g w A l.length (bv l) := by
  obtain ⟨A', cap, h1, h2, h3, h4, h5⟩ := h.ex
  injection h1 with e1 e2 e3
  subst e1
  exact ⟨e2, h4, h5⟩
theorem Lies.below {g g' : Gh} {w w0 w' : World} {A A' : Option Addr} {n cap cap' : Nat} (hb : Below w.heap.size w w0) (h : Lies g w0 A n cap g' w' A' cap') : Lies g w A n cap g' w' A' cap' := by
  have hs := hb.size
  refine ⟨?_, fun b hb' hc => ?_⟩
  · rcases h.at_ with h | ⟨b, h1, h2, h3⟩
    · exact .inl h
    · exact .inr ⟨b, h1, by omega, h3⟩
  · obtain ⟨e1, e2⟩ := h.far b (by omega) hc
    exact ⟨e1.trans (hb.block b hb'), e2⟩
/-- The end: the operation is carried out and listed. -/
theorem do_end {d km nm : Nat} {g g2 g3 : Gh} {w w2 w3 w4 : World} {A A' : Option Addr} {cap cap' : Nat} {xs : List Value} {D : Dev} {o : POp} {bvl : Value} (hb : Blk d 63 (devCs km nm A cap D) w) (hi : DevIn g w d km nm A cap xs D)
    (hx : Ext (· = d) g w g2 w2) (hnow : FlAp d g2 w2 nm (D.now.run o)) (hoth : ∀ b, b < w.heap.size → b ≠ nm → Other g w b → w2.heap[b]? = w.heap[b]? ∧ g2.F b = g.F b)
    (hx3 : Ext (· = d) g2 w2 g3 w3) (ha : App 96 5 d g3 w3 A' (D.pend.length + 1) cap' (xs ++ [fnV o.kind, .string o.name, .string o.to, bvl, .bool o.tears])) (hl : Lies g2 w2 A D.pend.length cap g3 w3 A' cap')
    (hbv : BytesAt g w bvl o.bytes) (hg : w3.grownBy w4 (some d)) (hB : Blk d 63 (devCs km nm A' cap' { D with now := D.now.run o, pend := D.pend ++ [o] }) w4) :
    DevP d g w { D with now := D.now.run o, pend := D.pend ++ [o] } w4 := by
  obtain ⟨n1, n2⟩ := hi.nes hb
  have hs := hx.size
  have hdk := hb.lt
  have hkl := hi.kept.lt
  have e1 := hoth d hdk n1 (.inl hi.F)
  have e2 := hoth km hkl hi.ne (.inl hi.kF)
  have hF2d : g2.F d = 0 := e1.2.trans hi.F
  -- the row of operations in w2
  have hrowT : D.pend.length < cap → ∀ b off, A = some ⟨b, off, none⟩ → ∃ cs, w2.heap[b]? = some (.cells cs 96 (0, 0)) ∧ g2.F b ≠ 0 := fun hc b off hb' => by
    obtain ⟨h0, b2, cs, f1, _, f3, f4, _⟩ := hi.pend.sp hc
    rw [hb'] at f1; injection f1 with f1; injection f1 with f1 _
    have hbne : b ≠ nm := fun e => by
      obtain ⟨L, hL, _⟩ := hi.now.ex
      obtain ⟨es, clk, q, _⟩ := hL
      rw [f1] at e
      rw [e, q] at f4
      cases f4
    have := hoth b (by rw [f1]; exact block_lt f4) hbne (.inr ⟨cs, 96, (0, 0), by rw [f1]; exact f4, by decide⟩)
    exact ⟨cs, by rw [this.1, f1]; exact f4, by rw [this.2, f1, f3]; omega⟩
  have hfar0 : ∀ b, b < w2.heap.size → g2.F b = 0 → w3.heap[b]? = w2.heap[b]? ∧ g3.F b = g2.F b := fun b hb' hF => hl.far b hb' fun hc off he => by
    obtain ⟨cs, _, h⟩ := hrowT hc b off he
    exact h hF
  have hfar8 : ∀ b cs, w2.heap[b]? = some (.cells cs 5 (0, 0)) → w3.heap[b]? = w2.heap[b]? ∧ g3.F b = g2.F b := fun b cs hb' => hl.far b (block_lt hb') fun hc off he => by
    obtain ⟨cs', h, _⟩ := hrowT hc b off he
    rw [hb'] at h
    injection h with h
    injection h with _ h _
    exact absurd h (by decide)
  have hO2 : g2.O d = d := (hx.own d hdk).trans hi.O
  have q3d := hfar0 d (by omega) hF2d
  have q3k := hfar0 km (by omega) (e2.2.trans hi.kF)
  have q3n := hfar0 nm hnow.lt hnow.F
  have hx4 : Ext (· = d) g3 w3 g3 w4 := (Ext.refl _ _ _).one hg (fun _ => (hx3.own d (by omega)).trans hO2) (q3d.2.trans hF2d)
  have hblk : ∀ b, b < w3.heap.size → b ≠ d → w4.heap[b]? = w3.heap[b]? := fun b hb' hne => hg.block b hb' (fun e => hne (by injection e))
  have hs3 := hx3.size
  have hnow3 := hnow.same2 hx3 q3n hfar8
  refine ⟨g3, (hx.trans hx3).trans hx4, km, nm, A', cap', xs ++ [fnV o.kind, .string o.name, .string o.to, bvl, .bool o.tears], hB, hi.ne, ?_, ?_, ?_, ?_, ?_, ?_, ?_, ?_, hi.f0, hi.f1⟩
  · exact (hx3.own km (by omega)).trans ((hx.own km hkl).trans hi.kO)
  · exact q3k.2.trans (e2.2.trans hi.kF)
  · exact ((hi.kept.ext hx e2.1).ext hx3 q3k.1).ext hx4 (hblk km (by omega) (Ne.symm n2))
  · exact hnow3.same hx4 fun k hk ho => ⟨hblk k hk (fun e => by
      subst e
      rcases ho with ho | ho
      · exact ho (q3d.2.trans hF2d)
      · exact n1 ho), rfl⟩
  · have hlen : (D.pend ++ [o]).length = D.pend.length + 1 := by simp
    show App 96 5 d g3 w4 A' (D.pend ++ [o]).length cap' _
    rw [hlen]
    exact ha.ext' hx4 fun b off hA hb' hlt => ⟨hblk b hb' (fun e => by
      subst e
      obtain ⟨h0, b2, cs, f1, _, f3, _⟩ := ha.sp hlt
      rw [hA] at f1; injection f1 with f1; injection f1 with f1 _
      rw [← f1, q3d.2.trans hF2d] at f3
      omega), rfl⟩
  · exact (((hi.ops.ext hx).ext hx3).snoc ((hbv.ext hx).ext hx3)).ext hx4
  · exact (hx3.own d (by omega)).trans hO2
  · exact q3d.2.trans hF2d

set_option maxRecDepth 100000 in
set_option maxHeartbeats 1600000 in
theorem do_create (d : Nat) (g : Gh) (w : World) (D : Dev) (hD : DevAt g w d D) (o : POp) (hk : o.kind = 0) (A1 : Option Addr) (c1 : Nat) (hr : BytesAt g w (.slice A1 o.bytes.length c1) o.bytes) (hlen : o.bytes.length ≤ 8388608) (hpl : D.pend.length ≤ 1000000) :
    Calls Try.prog 65 #[.pointer (some ⟨d, 0, none⟩), .agg #[.func (.func 66) #[] #[], .string o.name, .string o.to, .slice A1 o.bytes.length c1, .bool o.tears]] w fun e w' => e = .returned (.int .i64 (doI D)) ∧ DevP d g w (doD D o) w' := by
  obtain ⟨i0, hi0, hz0, hz1, hz2⟩ := info_parts Try.infoOp
  obtain ⟨bn1, bn2, bn3⟩ := burn_now D
  have hx0 := Ext.box (· = d) g w (.cells #[.func (.func 66) #[] #[], .string o.name, .string o.to, .slice A1 o.bytes.length c1, .bool o.tears] 96)
  have hx00 := Ext.box (fun _ => False) g w (.cells #[.func (.func 66) #[] #[], .string o.name, .string o.to, .slice A1 o.bytes.length c1, .bool o.tears] 96)
  have hD1 := hD.ext hx00 (fun h => h)
  have hbk : Blk w.heap.size 96 [.func (.func 66) #[] #[], .string o.name, .string o.to, .slice A1 o.bytes.length c1, .bool o.tears] (w.alloc (.cells #[.func (.func 66) #[] #[], .string o.name, .string o.to, .slice A1 o.bytes.length c1, .bool o.tears] 96)) := Blk.new w _ _
  have hdlt := hD.lt
  have hr1 := hr.ext hx00
  have hgO := Gh.box_O g w.heap.size
  have hgF := Gh.box_F g w.heap.size
  generalize g.box w.heap.size = g1 at *
  have HX0 := Lib.hid hx0
  have HGF := Lib.hid hgF
  have HGO := Lib.hid hgO
  have HBK := Lib.hid hbk
  clear hx0 hx00 hD hr hgF hgO hbk bn3
  have HBN := Lib.hid bn1
  have HBP := Lib.hid bn2
  clear bn1 bn2
  cases hbb : burnB D
  · have HI : Hid (doI D = 0) := by simp [Hid, doI, hbb]
    have HDD : Hid (doD D o = { burnD D with now := (burnD D).now.run o, pend := (burnD D).pend ++ [o] }) := by
      show _ = _
      unfold doD
      rw [hbb, HBN.out, HBP.out]
      rfl
    have HBB := Lib.hid hbb
    clear hbb
    go_enter Try.func65, Try.ntmps65
    go_wp2_with fail
    refine (burn_any d g1 _ D hD1).mono ?_
    rw [HBB.out]
    rintro e w1 ⟨rfl, hx1, hD2⟩
    have hbk1 := HBK.out.ext hx1 (by rw [HGO.out]; omega)
    have hs1 := hx1.size
    have hw1lt : w.heap.size < w1.heap.size := by have := hbk1.lt; omega
    obtain ⟨km, nm, A, cap, xs, hbd, hi⟩ := hD2
    have hns := hi.nes hbd
    have hr2 := hr1.ext hx1
    have hS : (fun x => Blk w.heap.size 96 [.func (.func 66) #[] #[], .string o.name, .string o.to, .slice A1 o.bytes.length c1, .bool o.tears] x ∧ Blk d 63 (devCs km nm A cap (burnD D)) x) w1.drew := ⟨hbk1, hbd⟩
    have hdr : Ext (· = d) g1 w1 g1 w1.drew := (Ext.refl _ _ _).drew
    have HI2 := Lib.hid (hi.keep hdr hbd.lt (fun _ _ _ _ => ⟨rfl, rfl⟩) hns.1 hns.2)
    have HBD : Hid (Blk d 63 (devCs km nm A cap (burnD D)) w1.drew) := hbd
    have HX1 := Lib.hid ((HX0.out.trans hx1).trans hdr)
    have HR2 := Lib.hid (hr2.ext hdr)
    have hplb : (burnD D).pend.length ≤ 1000000 := by rw [HBP.out]; exact hpl
    clear hi hbd hx1 hr1 hr2 hD1
    generalize burnD D = E at *
    have HBK1 : Hid (Blk w.heap.size 96 [.func (.func 66) #[] #[], .string o.name, .string o.to, .slice A1 o.bytes.length c1, .bool o.tears] w1.drew) := hbk1
    clear hbk1 hdr
    go_wp2_with fail
    (refine wp_region_mix (S := fun x => Blk w.heap.size 96 [.func (.func 66) #[] #[], .string o.name, .string o.to, .slice A1 o.bytes.length c1, .bool o.tears] x ∧ Blk d 63 (devCs km nm A cap E) x) [] [([0, 1, 2, 3, 4, 5, 6], 7)] (by kernel_rfl) (by kernel_rfl) (by intro c a d v w h; cases d <;> exact h) hS ?_; have hN : Nonempty (Held (fun x => Blk w.heap.size 96 [.func (.func 66) #[] #[], .string o.name, .string o.to, .slice A1 o.bytes.length c1, .bool o.tears] x ∧ Blk d 63 (devCs km nm A cap E) x)) := ⟨⟨_, hS⟩⟩)
    have r0 := fun y : Held (fun x => Blk w.heap.size 96 [.func (.func 66) #[] #[], .string o.name, .string o.to, .slice A1 o.bytes.length c1, .bool o.tears] x ∧ Blk d 63 (devCs km nm A cap E) x) => y.ok.1.cell 0
    have r1 := fun y : Held (fun x => Blk w.heap.size 96 [.func (.func 66) #[] #[], .string o.name, .string o.to, .slice A1 o.bytes.length c1, .bool o.tears] x ∧ Blk d 63 (devCs km nm A cap E) x) => y.ok.1.cell 1
    have r2 := fun y : Held (fun x => Blk w.heap.size 96 [.func (.func 66) #[] #[], .string o.name, .string o.to, .slice A1 o.bytes.length c1, .bool o.tears] x ∧ Blk d 63 (devCs km nm A cap E) x) => y.ok.1.cell 2
    have r3 := fun y : Held (fun x => Blk w.heap.size 96 [.func (.func 66) #[] #[], .string o.name, .string o.to, .slice A1 o.bytes.length c1, .bool o.tears] x ∧ Blk d 63 (devCs km nm A cap E) x) => y.ok.1.cell 3
    have r4 := fun y : Held (fun x => Blk w.heap.size 96 [.func (.func 66) #[] #[], .string o.name, .string o.to, .slice A1 o.bytes.length c1, .bool o.tears] x ∧ Blk d 63 (devCs km nm A cap E) x) => y.ok.1.cell 4
    have s1 : ∀ y : Held (fun x => Blk w.heap.size 96 [.func (.func 66) #[] #[], .string o.name, .string o.to, .slice A1 o.bytes.length c1, .bool o.tears] x ∧ Blk d 63 (devCs km nm A cap E) x), y.w.cell? ⟨d, 1, none⟩ = some (.map (some nm)) := fun y => y.ok.2.cell 1
    (unfold wpMix wpRd; (repeat (first | simp only [List.filterMap_cons] | simp only [List.filterMap_nil] | simp only [List.getElem?_toArray] | simp only [List.getElem?_cons_zero] | simp only [List.getElem?_cons_succ])); (try dsimp only); change wpQuiet _ _ _ _ (_ :: _ :: _ :: _ :: _ :: _ :: _ :: []) _; (repeat (go_big_quiet_step (fail))); refine wpQuiet_nil ?_; (try dsimp only))
    clear r0 r1 r2 r3 r4 s1 hN
    go_wp2_with fail
    obtain ⟨_, hrz, hrr⟩ := HR2.out.rd
    obtain ⟨Lm, hLm, _⟩ := HI2.out.now.ex
    have hopnm : w.heap.size ≠ nm := map_ne HBK1.out hLm
    refine (create_any d nm g1 E.now o.name o.to o.tears _ A1 c1 o.bytes _ HI2.out.now hrr hrz hlen).mono ?_
    rintro e w2 ⟨rfl, g2, hx2, hnow2, hoth2⟩
    have q1 := hoth2 w.heap.size hw1lt hopnm (.inl HGF.out)
    have q2 := hoth2 d HBD.out.lt hns.1 (.inl HI2.out.F)
    have hS2 : (fun x => Blk w.heap.size 96 [.func (.func 66) #[] #[], .string o.name, .string o.to, .slice A1 o.bytes.length c1, .bool o.tears] x ∧ Blk d 63 (devCs km nm A cap E) x) w2 := ⟨HBK1.out.of q1.1, HBD.out.of q2.1⟩
    have hxall := HX1.out.trans hx2
    have hs2 := hx2.size
    have HFIN : Hid (∀ g3 w3 w4 A' cap', Ext (· = d) g2 w2 g3 w3 → App 96 5 d g3 w3 A' (E.pend.length + 1) cap' (xs ++ [.func (.func 66) #[] #[], .string o.name, .string o.to, .slice A1 o.bytes.length c1, .bool o.tears]) → Lies g2 w2 A E.pend.length cap g3 w3 A' cap' → w3.grownBy w4 (some d) → Blk d 63 (devCs km nm A' cap' { E with now := E.now.run o, pend := E.pend ++ [o] }) w4 → DevP d g w (doD D o) w4) := by
      intro g3 w3 w4 A' cap' h1 h2 h3 h4 h5
      obtain ⟨g4, hx4, hD4⟩ := do_end (o := o) (bvl := .slice A1 o.bytes.length c1) HBD.out HI2.out hx2 (by unfold Fl.run; simpa [hk] using hnow2) hoth2 h1 (by simpa [fnV, hk] using h2) h3 HR2.out h4 h5
      rw [HDD.out]
      exact ⟨g4, HX1.out.trans hx4, hD4⟩
    have hAP : App 96 5 d g2 w2 A E.pend.length cap xs := HI2.out.pend.ext' hx2 fun b off hA hb hlt => by
      obtain ⟨h0, b2, cs, f1, _, f3, f4, _⟩ := HI2.out.pend.sp hlt
      rw [hA] at f1; injection f1 with f1; injection f1 with f1 _
      have hbne : b ≠ nm := fun e => by
        obtain ⟨es, clk, q, _⟩ := hLm
        rw [f1] at e
        rw [e, q] at f4
        cases f4
      exact hoth2 b hb hbne (.inr ⟨cs, 96, (0, 0), by rw [f1]; exact f4, by decide⟩)
    have HAP := Lib.hid hAP
    have hal2 : Ext (fun _ => False) g2 w2 g2 (w2.drew.alloc (.cells #[.func (.func 66) #[] #[], .string o.name, .string o.to, .slice A1 o.bytes.length c1, .bool o.tears] 96)) := ((Ext.refl _ _ _).drew).alloc _
    have HAP3 := Lib.hid (hAP.ext hal2 (fun h => h))
    have HSRC : Hid (Src Try.prog 5 61 (.slice (some ⟨w2.heap.size, 0, none⟩) 1 1) 1 [.func (.func 66) #[] #[], .string o.name, .string o.to, .slice A1 o.bytes.length c1, .bool o.tears] (w2.drew.alloc (.cells #[.func (.func 66) #[] #[], .string o.name, .string o.to, .slice A1 o.bytes.length c1, .bool o.tears] 96))) :=
      Src.ofSlice _ Try.underlying61 _ 1 1 _ rfl (fun j u hu => by
        have hh : (w2.drew.alloc (.cells #[.func (.func 66) #[] #[], .string o.name, .string o.to, .slice A1 o.bytes.length c1, .bool o.tears] 96)).heap[w2.heap.size]? = some (.cells #[.func (.func 66) #[] #[], .string o.name, .string o.to, .slice A1 o.bytes.length c1, .bool o.tears] 96 (0, 0)) := heap_alloc_new w2.drew _
        rw [add_lit, Nat.zero_add, cell_at hh]
        simpa using hu) (by simp [Value.oneCell'])
    have HF0 : Hid (g2.F w.heap.size = 0 ∧ g2.F d = 0) := ⟨q1.2.trans HGF.out, q2.2.trans HI2.out.F⟩
    have HRW : Hid (E.pend.length < cap → ∀ b off, A = some ⟨b, off, none⟩ → g2.F b ≠ 0) := by
      intro hc b off hb
      obtain ⟨h0, b2, cs, f1, _, f3, _⟩ := hAP.sp hc
      rw [hb] at f1; injection f1 with f1; injection f1 with f1 _
      rw [f1, f3]
      omega
    have HD2 := hS2
    clear hS hAP q1 q2 hoth2 hnow2 hrz hrr hLm
    have HS2 := Lib.hid hS2
    have hS : (fun x => Blk w.heap.size 96 [.func (.func 66) #[] #[], .string o.name, .string o.to, .slice A1 o.bytes.length c1, .bool o.tears] x ∧ Blk d 63 (devCs km nm A cap E) x) w2.drew := hS2
    clear hS2 HD2
    go_wp2_with fail
    refine ⟨HS2.out, ?_⟩
    (unfold wpMix wpRd; (repeat (first | simp only [List.filterMap_cons] | simp only [List.filterMap_nil] | simp only [List.getElem?_toArray] | simp only [List.getElem?_cons_zero] | simp only [List.getElem?_cons_succ])); (try dsimp only); change wpQuiet _ _ _ _ ([]) _; (repeat (go_big_quiet_step (fail))); refine wpQuiet_nil ?_; (try dsimp only))
    go_wp2_with fail
    (refine wp_region_mixz (S := fun x => Blk w.heap.size 96 [.func (.func 66) #[] #[], .string o.name, .string o.to, .slice A1 o.bytes.length c1, .bool o.tears] x ∧ Blk d 63 (devCs km nm A cap E) x) [8, 9] 10 [([0, 1, 2, 3, 4, 5], 6), ([], 7)] (by kernel_rfl) (by kernel_rfl) (by intro c a d v w h; cases d <;> exact h) hS ?_; have hN : Nonempty (Held (fun x => Blk w.heap.size 96 [.func (.func 66) #[] #[], .string o.name, .string o.to, .slice A1 o.bytes.length c1, .bool o.tears] x ∧ Blk d 63 (devCs km nm A cap E) x)) := ⟨⟨_, hS⟩⟩)
    have r0 := fun y : Held (fun x => Blk w.heap.size 96 [.func (.func 66) #[] #[], .string o.name, .string o.to, .slice A1 o.bytes.length c1, .bool o.tears] x ∧ Blk d 63 (devCs km nm A cap E) x) => y.ok.1.cell 0
    have r1 := fun y : Held (fun x => Blk w.heap.size 96 [.func (.func 66) #[] #[], .string o.name, .string o.to, .slice A1 o.bytes.length c1, .bool o.tears] x ∧ Blk d 63 (devCs km nm A cap E) x) => y.ok.1.cell 1
    have r2 := fun y : Held (fun x => Blk w.heap.size 96 [.func (.func 66) #[] #[], .string o.name, .string o.to, .slice A1 o.bytes.length c1, .bool o.tears] x ∧ Blk d 63 (devCs km nm A cap E) x) => y.ok.1.cell 2
    have r3 := fun y : Held (fun x => Blk w.heap.size 96 [.func (.func 66) #[] #[], .string o.name, .string o.to, .slice A1 o.bytes.length c1, .bool o.tears] x ∧ Blk d 63 (devCs km nm A cap E) x) => y.ok.1.cell 3
    have r4 := fun y : Held (fun x => Blk w.heap.size 96 [.func (.func 66) #[] #[], .string o.name, .string o.to, .slice A1 o.bytes.length c1, .bool o.tears] x ∧ Blk d 63 (devCs km nm A cap E) x) => y.ok.1.cell 4
    have s1 : ∀ y : Held (fun x => Blk w.heap.size 96 [.func (.func 66) #[] #[], .string o.name, .string o.to, .slice A1 o.bytes.length c1, .bool o.tears] x ∧ Blk d 63 (devCs km nm A cap E) x), y.w.cell? ⟨d, 2, none⟩ = some (.slice A E.pend.length cap) := fun y => y.ok.2.cell 2
    (unfold wpMixZ wpRd; (repeat (first | simp only [List.filterMap_cons] | simp only [List.filterMap_nil] | simp only [List.getElem?_toArray] | simp only [List.getElem?_cons_zero] | simp only [List.getElem?_cons_succ])); (try dsimp only); change wpQuiet _ _ _ _ (_ :: _ :: _ :: _ :: _ :: _ :: []) _; (repeat (go_big_quiet_step (fail))); refine wpQuiet_nil ?_; (try dsimp only))
    clear r0 r1 r2 r3 r4 s1
    go_wp2_with fail
    refine ⟨⟨hS.1.alloc _, hS.2.alloc _⟩, ?_⟩
    (unfold wpMixZ wpRd; (repeat (first | simp only [List.filterMap_cons] | simp only [List.filterMap_nil] | simp only [List.getElem?_toArray] | simp only [List.getElem?_cons_zero] | simp only [List.getElem?_cons_succ])); (try dsimp only); change wpQuiet _ _ _ _ ([]) _; (repeat (go_big_quiet_step (fail))); refine wpQuiet_nil ?_; (try dsimp only))
    refine wpList_append_app rfl _ _ _ _ rfl 96 i0 _ 5 72 Try.underlying61 hi0 hz0 hz1 hz2 rfl (by decide) rfl HAP3.out rfl HSRC.out (by unfold maxLen; omega) (by omega) ?_
    intro A' cap' w3 g3 hx3 ha3 hl3
    have hbel2 : Below w2.heap.size w2 (w2.drew.alloc (.cells #[.func (.func 66) #[] #[], .string o.name, .string o.to, .slice A1 o.bytes.length c1, .bool o.tears] 96)) := ((Below.refl _ _).drew).alloc (Nat.le_refl _) _
    have hx3' : Ext (· = d) g2 w2 g3 w3 := (Ext.of_below (· = d) g2 hbel2).trans hx3
    have hl3' := hl3.below hbel2
    have hs3 := hx3.size
    have hS3 : (fun x => Blk w.heap.size 96 [.func (.func 66) #[] #[], .string o.name, .string o.to, .slice A1 o.bytes.length c1, .bool o.tears] x ∧ Blk d 63 (devCs km nm A cap E) x) w3 :=
      ⟨HS2.out.1.of (hl3'.far _ HS2.out.1.lt (fun hc off he => HRW.out hc _ _ he HF0.out.1)).1, HS2.out.2.of (hl3'.far _ HS2.out.2.lt (fun hc off he => HRW.out hc _ _ he HF0.out.2)).1⟩
    have HX3 := Lib.hid hx3'
    have HA3 := Lib.hid ha3
    have HL3 := Lib.hid hl3'
    clear hx3 hx3' ha3 hl3 hl3' hbel2
    refine ⟨hS3, ?_⟩
    have c2 : w3.cell? ⟨d, 2, none⟩ = some (.slice A E.pend.length cap) := hS3.2.cell 2
    have z2 := hS3.2.fz
    have HD3 := Lib.hid hS3.2
    clear hS3
    go_frame
    (unfold wpMixZ wpRd; (repeat (first | simp only [List.filterMap_cons] | simp only [List.filterMap_nil] | simp only [List.getElem?_toArray] | simp only [List.getElem?_cons_zero] | simp only [List.getElem?_cons_succ])); (try dsimp only); change wpQuiet _ _ _ _ (_ :: _ :: []) _; (repeat (go_big_quiet_step (fail))); refine wpQuiet_nil ?_; (try dsimp only))
    clear hN
    go_wp2_with fail
    go_ret
    refine ⟨ret_int HI.out.symm, HFIN.out g3 w3 _ A' cap' HX3.out HA3.out HL3.out (grownBy_setCell w3 ⟨d, 2, none⟩ _) ?_⟩
    have := HD3.out.set 2 (.slice A' (E.pend.length + 1) cap')
    simpa [devCs] using this
  · have HI : Hid (doI D = 303) := by simp [Hid, doI, hbb]
    have HDD : Hid (doD D o = burnD D) := by
      show _ = _
      unfold doD
      rw [hbb]
      rfl
    have HBB := Lib.hid hbb
    clear hbb
    go_enter Try.func65, Try.ntmps65
    go_wp2_with fail
    refine (burn_any d g1 _ D hD1).mono ?_
    rw [HBB.out]
    rintro e w1 ⟨rfl, hx1, hD2⟩
    go_wp2_with fail
    go_ret
    exact ⟨ret_int HI.out.symm, g1, HX0.out.trans hx1, by rw [HDD.out]; exact hD2⟩

set_option maxRecDepth 100000 in
set_option maxHeartbeats 1600000 in
theorem do_add (d : Nat) (g : Gh) (w : World) (D : Dev) (hD : DevAt g w d D) (o : POp) (hk : o.kind = 1) (A1 : Option Addr) (c1 : Nat) (hr : BytesAt g w (.slice A1 o.bytes.length c1) o.bytes) (hlen : (D.now.get o.name ++ o.bytes).length ≤ 8388608) (hpl : D.pend.length ≤ 1000000) :
    Calls Try.prog 65 #[.pointer (some ⟨d, 0, none⟩), .agg #[.func (.func 69) #[] #[], .string o.name, .string o.to, .slice A1 o.bytes.length c1, .bool o.tears]] w fun e w' => e = .returned (.int .i64 (doI D)) ∧ DevP d g w (doD D o) w' := by
  obtain ⟨i0, hi0, hz0, hz1, hz2⟩ := info_parts Try.infoOp
  obtain ⟨bn1, bn2, bn3⟩ := burn_now D
  have hx0 := Ext.box (· = d) g w (.cells #[.func (.func 69) #[] #[], .string o.name, .string o.to, .slice A1 o.bytes.length c1, .bool o.tears] 96)
  have hx00 := Ext.box (fun _ => False) g w (.cells #[.func (.func 69) #[] #[], .string o.name, .string o.to, .slice A1 o.bytes.length c1, .bool o.tears] 96)
  have hD1 := hD.ext hx00 (fun h => h)
  have hbk : Blk w.heap.size 96 [.func (.func 69) #[] #[], .string o.name, .string o.to, .slice A1 o.bytes.length c1, .bool o.tears] (w.alloc (.cells #[.func (.func 69) #[] #[], .string o.name, .string o.to, .slice A1 o.bytes.length c1, .bool o.tears] 96)) := Blk.new w _ _
  have hdlt := hD.lt
  have hr1 := hr.ext hx00
  have hgO := Gh.box_O g w.heap.size
  have hgF := Gh.box_F g w.heap.size
  generalize g.box w.heap.size = g1 at *
  have HX0 := Lib.hid hx0
  have HGF := Lib.hid hgF
  have HGO := Lib.hid hgO
  have HBK := Lib.hid hbk
  clear hx0 hx00 hD hr hgF hgO hbk bn3
  have HBN := Lib.hid bn1
  have HBP := Lib.hid bn2
  clear bn1 bn2
  cases hbb : burnB D
  · have HI : Hid (doI D = 0) := by simp [Hid, doI, hbb]
    have HDD : Hid (doD D o = { burnD D with now := (burnD D).now.run o, pend := (burnD D).pend ++ [o] }) := by
      show _ = _
      unfold doD
      rw [hbb, HBN.out, HBP.out]
      rfl
    have HBB := Lib.hid hbb
    clear hbb
    go_enter Try.func65, Try.ntmps65
    go_wp2_with fail
    refine (burn_any d g1 _ D hD1).mono ?_
    rw [HBB.out]
    rintro e w1 ⟨rfl, hx1, hD2⟩
    have hbk1 := HBK.out.ext hx1 (by rw [HGO.out]; omega)
    have hs1 := hx1.size
    have hw1lt : w.heap.size < w1.heap.size := by have := hbk1.lt; omega
    obtain ⟨km, nm, A, cap, xs, hbd, hi⟩ := hD2
    have hns := hi.nes hbd
    have hr2 := hr1.ext hx1
    have hS : (fun x => Blk w.heap.size 96 [.func (.func 69) #[] #[], .string o.name, .string o.to, .slice A1 o.bytes.length c1, .bool o.tears] x ∧ Blk d 63 (devCs km nm A cap (burnD D)) x) w1.drew := ⟨hbk1, hbd⟩
    have hdr : Ext (· = d) g1 w1 g1 w1.drew := (Ext.refl _ _ _).drew
    have HI2 := Lib.hid (hi.keep hdr hbd.lt (fun _ _ _ _ => ⟨rfl, rfl⟩) hns.1 hns.2)
    have HBD : Hid (Blk d 63 (devCs km nm A cap (burnD D)) w1.drew) := hbd
    have HX1 := Lib.hid ((HX0.out.trans hx1).trans hdr)
    have HR2 := Lib.hid (hr2.ext hdr)
    have hplb : (burnD D).pend.length ≤ 1000000 := by rw [HBP.out]; exact hpl
    clear hi hbd hx1 hr1 hr2 hD1
    generalize burnD D = E at *
    have HBK1 : Hid (Blk w.heap.size 96 [.func (.func 69) #[] #[], .string o.name, .string o.to, .slice A1 o.bytes.length c1, .bool o.tears] w1.drew) := hbk1
    clear hbk1 hdr
    go_wp2_with fail
    (refine wp_region_mix (S := fun x => Blk w.heap.size 96 [.func (.func 69) #[] #[], .string o.name, .string o.to, .slice A1 o.bytes.length c1, .bool o.tears] x ∧ Blk d 63 (devCs km nm A cap E) x) [] [([0, 1, 2, 3, 4, 5, 6], 7)] (by kernel_rfl) (by kernel_rfl) (by intro c a d v w h; cases d <;> exact h) hS ?_; have hN : Nonempty (Held (fun x => Blk w.heap.size 96 [.func (.func 69) #[] #[], .string o.name, .string o.to, .slice A1 o.bytes.length c1, .bool o.tears] x ∧ Blk d 63 (devCs km nm A cap E) x)) := ⟨⟨_, hS⟩⟩)
    have r0 := fun y : Held (fun x => Blk w.heap.size 96 [.func (.func 69) #[] #[], .string o.name, .string o.to, .slice A1 o.bytes.length c1, .bool o.tears] x ∧ Blk d 63 (devCs km nm A cap E) x) => y.ok.1.cell 0
    have r1 := fun y : Held (fun x => Blk w.heap.size 96 [.func (.func 69) #[] #[], .string o.name, .string o.to, .slice A1 o.bytes.length c1, .bool o.tears] x ∧ Blk d 63 (devCs km nm A cap E) x) => y.ok.1.cell 1
    have r2 := fun y : Held (fun x => Blk w.heap.size 96 [.func (.func 69) #[] #[], .string o.name, .string o.to, .slice A1 o.bytes.length c1, .bool o.tears] x ∧ Blk d 63 (devCs km nm A cap E) x) => y.ok.1.cell 2
    have r3 := fun y : Held (fun x => Blk w.heap.size 96 [.func (.func 69) #[] #[], .string o.name, .string o.to, .slice A1 o.bytes.length c1, .bool o.tears] x ∧ Blk d 63 (devCs km nm A cap E) x) => y.ok.1.cell 3
    have r4 := fun y : Held (fun x => Blk w.heap.size 96 [.func (.func 69) #[] #[], .string o.name, .string o.to, .slice A1 o.bytes.length c1, .bool o.tears] x ∧ Blk d 63 (devCs km nm A cap E) x) => y.ok.1.cell 4
    have s1 : ∀ y : Held (fun x => Blk w.heap.size 96 [.func (.func 69) #[] #[], .string o.name, .string o.to, .slice A1 o.bytes.length c1, .bool o.tears] x ∧ Blk d 63 (devCs km nm A cap E) x), y.w.cell? ⟨d, 1, none⟩ = some (.map (some nm)) := fun y => y.ok.2.cell 1
    (unfold wpMix wpRd; (repeat (first | simp only [List.filterMap_cons] | simp only [List.filterMap_nil] | simp only [List.getElem?_toArray] | simp only [List.getElem?_cons_zero] | simp only [List.getElem?_cons_succ])); (try dsimp only); change wpQuiet _ _ _ _ (_ :: _ :: _ :: _ :: _ :: _ :: _ :: []) _; (repeat (go_big_quiet_step (fail))); refine wpQuiet_nil ?_; (try dsimp only))
    clear r0 r1 r2 r3 r4 s1 hN
    go_wp2_with fail
    obtain ⟨_, hrz, hrr⟩ := HR2.out.rd
    obtain ⟨Lm, hLm, _⟩ := HI2.out.now.ex
    have hopnm : w.heap.size ≠ nm := map_ne HBK1.out hLm
    refine (add_any d nm g1 E.now o.name o.to o.tears _ A1 c1 o.bytes _ HI2.out.now hrr hrz (by rw [HBN.out]; exact hlen)).mono ?_
    rintro e w2 ⟨rfl, g2, hx2, hnow2, hoth2⟩
    have q1 := hoth2 w.heap.size hw1lt hopnm (.inl HGF.out)
    have q2 := hoth2 d HBD.out.lt hns.1 (.inl HI2.out.F)
    have hS2 : (fun x => Blk w.heap.size 96 [.func (.func 69) #[] #[], .string o.name, .string o.to, .slice A1 o.bytes.length c1, .bool o.tears] x ∧ Blk d 63 (devCs km nm A cap E) x) w2 := ⟨HBK1.out.of q1.1, HBD.out.of q2.1⟩
    have hxall := HX1.out.trans hx2
    have hs2 := hx2.size
    have HFIN : Hid (∀ g3 w3 w4 A' cap', Ext (· = d) g2 w2 g3 w3 → App 96 5 d g3 w3 A' (E.pend.length + 1) cap' (xs ++ [.func (.func 69) #[] #[], .string o.name, .string o.to, .slice A1 o.bytes.length c1, .bool o.tears]) → Lies g2 w2 A E.pend.length cap g3 w3 A' cap' → w3.grownBy w4 (some d) → Blk d 63 (devCs km nm A' cap' { E with now := E.now.run o, pend := E.pend ++ [o] }) w4 → DevP d g w (doD D o) w4) := by
      intro g3 w3 w4 A' cap' h1 h2 h3 h4 h5
      obtain ⟨g4, hx4, hD4⟩ := do_end (o := o) (bvl := .slice A1 o.bytes.length c1) HBD.out HI2.out hx2 (by unfold Fl.run; simpa [hk] using hnow2) hoth2 h1 (by simpa [fnV, hk] using h2) h3 HR2.out h4 h5
      rw [HDD.out]
      exact ⟨g4, HX1.out.trans hx4, hD4⟩
    have hAP : App 96 5 d g2 w2 A E.pend.length cap xs := HI2.out.pend.ext' hx2 fun b off hA hb hlt => by
      obtain ⟨h0, b2, cs, f1, _, f3, f4, _⟩ := HI2.out.pend.sp hlt
      rw [hA] at f1; injection f1 with f1; injection f1 with f1 _
      have hbne : b ≠ nm := fun e => by
        obtain ⟨es, clk, q, _⟩ := hLm
        rw [f1] at e
        rw [e, q] at f4
        cases f4
      exact hoth2 b hb hbne (.inr ⟨cs, 96, (0, 0), by rw [f1]; exact f4, by decide⟩)
    have HAP := Lib.hid hAP
    have hal2 : Ext (fun _ => False) g2 w2 g2 (w2.drew.alloc (.cells #[.func (.func 69) #[] #[], .string o.name, .string o.to, .slice A1 o.bytes.length c1, .bool o.tears] 96)) := ((Ext.refl _ _ _).drew).alloc _
    have HAP3 := Lib.hid (hAP.ext hal2 (fun h => h))
    have HSRC : Hid (Src Try.prog 5 61 (.slice (some ⟨w2.heap.size, 0, none⟩) 1 1) 1 [.func (.func 69) #[] #[], .string o.name, .string o.to, .slice A1 o.bytes.length c1, .bool o.tears] (w2.drew.alloc (.cells #[.func (.func 69) #[] #[], .string o.name, .string o.to, .slice A1 o.bytes.length c1, .bool o.tears] 96))) :=
      Src.ofSlice _ Try.underlying61 _ 1 1 _ rfl (fun j u hu => by
        have hh : (w2.drew.alloc (.cells #[.func (.func 69) #[] #[], .string o.name, .string o.to, .slice A1 o.bytes.length c1, .bool o.tears] 96)).heap[w2.heap.size]? = some (.cells #[.func (.func 69) #[] #[], .string o.name, .string o.to, .slice A1 o.bytes.length c1, .bool o.tears] 96 (0, 0)) := heap_alloc_new w2.drew _
        rw [add_lit, Nat.zero_add, cell_at hh]
        simpa using hu) (by simp [Value.oneCell'])
    have HF0 : Hid (g2.F w.heap.size = 0 ∧ g2.F d = 0) := ⟨q1.2.trans HGF.out, q2.2.trans HI2.out.F⟩
    have HRW : Hid (E.pend.length < cap → ∀ b off, A = some ⟨b, off, none⟩ → g2.F b ≠ 0) := by
      intro hc b off hb
      obtain ⟨h0, b2, cs, f1, _, f3, _⟩ := hAP.sp hc
      rw [hb] at f1; injection f1 with f1; injection f1 with f1 _
      rw [f1, f3]
      omega
    have HD2 := hS2
    clear hS hAP q1 q2 hoth2 hnow2 hrz hrr hLm
    have HS2 := Lib.hid hS2
    have hS : (fun x => Blk w.heap.size 96 [.func (.func 69) #[] #[], .string o.name, .string o.to, .slice A1 o.bytes.length c1, .bool o.tears] x ∧ Blk d 63 (devCs km nm A cap E) x) w2.drew := hS2
    clear hS2 HD2
    go_wp2_with fail
    refine ⟨HS2.out, ?_⟩
    (unfold wpMix wpRd; (repeat (first | simp only [List.filterMap_cons] | simp only [List.filterMap_nil] | simp only [List.getElem?_toArray] | simp only [List.getElem?_cons_zero] | simp only [List.getElem?_cons_succ])); (try dsimp only); change wpQuiet _ _ _ _ ([]) _; (repeat (go_big_quiet_step (fail))); refine wpQuiet_nil ?_; (try dsimp only))
    go_wp2_with fail
    (refine wp_region_mixz (S := fun x => Blk w.heap.size 96 [.func (.func 69) #[] #[], .string o.name, .string o.to, .slice A1 o.bytes.length c1, .bool o.tears] x ∧ Blk d 63 (devCs km nm A cap E) x) [8, 9] 10 [([0, 1, 2, 3, 4, 5], 6), ([], 7)] (by kernel_rfl) (by kernel_rfl) (by intro c a d v w h; cases d <;> exact h) hS ?_; have hN : Nonempty (Held (fun x => Blk w.heap.size 96 [.func (.func 69) #[] #[], .string o.name, .string o.to, .slice A1 o.bytes.length c1, .bool o.tears] x ∧ Blk d 63 (devCs km nm A cap E) x)) := ⟨⟨_, hS⟩⟩)
    have r0 := fun y : Held (fun x => Blk w.heap.size 96 [.func (.func 69) #[] #[], .string o.name, .string o.to, .slice A1 o.bytes.length c1, .bool o.tears] x ∧ Blk d 63 (devCs km nm A cap E) x) => y.ok.1.cell 0
    have r1 := fun y : Held (fun x => Blk w.heap.size 96 [.func (.func 69) #[] #[], .string o.name, .string o.to, .slice A1 o.bytes.length c1, .bool o.tears] x ∧ Blk d 63 (devCs km nm A cap E) x) => y.ok.1.cell 1
    have r2 := fun y : Held (fun x => Blk w.heap.size 96 [.func (.func 69) #[] #[], .string o.name, .string o.to, .slice A1 o.bytes.length c1, .bool o.tears] x ∧ Blk d 63 (devCs km nm A cap E) x) => y.ok.1.cell 2
    have r3 := fun y : Held (fun x => Blk w.heap.size 96 [.func (.func 69) #[] #[], .string o.name, .string o.to, .slice A1 o.bytes.length c1, .bool o.tears] x ∧ Blk d 63 (devCs km nm A cap E) x) => y.ok.1.cell 3
    have r4 := fun y : Held (fun x => Blk w.heap.size 96 [.func (.func 69) #[] #[], .string o.name, .string o.to, .slice A1 o.bytes.length c1, .bool o.tears] x ∧ Blk d 63 (devCs km nm A cap E) x) => y.ok.1.cell 4
    have s1 : ∀ y : Held (fun x => Blk w.heap.size 96 [.func (.func 69) #[] #[], .string o.name, .string o.to, .slice A1 o.bytes.length c1, .bool o.tears] x ∧ Blk d 63 (devCs km nm A cap E) x), y.w.cell? ⟨d, 2, none⟩ = some (.slice A E.pend.length cap) := fun y => y.ok.2.cell 2
    (unfold wpMixZ wpRd; (repeat (first | simp only [List.filterMap_cons] | simp only [List.filterMap_nil] | simp only [List.getElem?_toArray] | simp only [List.getElem?_cons_zero] | simp only [List.getElem?_cons_succ])); (try dsimp only); change wpQuiet _ _ _ _ (_ :: _ :: _ :: _ :: _ :: _ :: []) _; (repeat (go_big_quiet_step (fail))); refine wpQuiet_nil ?_; (try dsimp only))
    clear r0 r1 r2 r3 r4 s1
    go_wp2_with fail
    refine ⟨⟨hS.1.alloc _, hS.2.alloc _⟩, ?_⟩
    (unfold wpMixZ wpRd; (repeat (first | simp only [List.filterMap_cons] | simp only [List.filterMap_nil] | simp only [List.getElem?_toArray] | simp only [List.getElem?_cons_zero] | simp only [List.getElem?_cons_succ])); (try dsimp only); change wpQuiet _ _ _ _ ([]) _; (repeat (go_big_quiet_step (fail))); refine wpQuiet_nil ?_; (try dsimp only))
    refine wpList_append_app rfl _ _ _ _ rfl 96 i0 _ 5 72 Try.underlying61 hi0 hz0 hz1 hz2 rfl (by decide) rfl HAP3.out rfl HSRC.out (by unfold maxLen; omega) (by omega) ?_
    intro A' cap' w3 g3 hx3 ha3 hl3
    have hbel2 : Below w2.heap.size w2 (w2.drew.alloc (.cells #[.func (.func 69) #[] #[], .string o.name, .string o.to, .slice A1 o.bytes.length c1, .bool o.tears] 96)) := ((Below.refl _ _).drew).alloc (Nat.le_refl _) _
    have hx3' : Ext (· = d) g2 w2 g3 w3 := (Ext.of_below (· = d) g2 hbel2).trans hx3
    have hl3' := hl3.below hbel2
    have hs3 := hx3.size
    have hS3 : (fun x => Blk w.heap.size 96 [.func (.func 69) #[] #[], .string o.name, .string o.to, .slice A1 o.bytes.length c1, .bool o.tears] x ∧ Blk d 63 (devCs km nm A cap E) x) w3 :=
      ⟨HS2.out.1.of (hl3'.far _ HS2.out.1.lt (fun hc off he => HRW.out hc _ _ he HF0.out.1)).1, HS2.out.2.of (hl3'.far _ HS2.out.2.lt (fun hc off he => HRW.out hc _ _ he HF0.out.2)).1⟩
    have HX3 := Lib.hid hx3'
    have HA3 := Lib.hid ha3
    have HL3 := Lib.hid hl3'
    clear hx3 hx3' ha3 hl3 hl3' hbel2
    refine ⟨hS3, ?_⟩
    have c2 : w3.cell? ⟨d, 2, none⟩ = some (.slice A E.pend.length cap) := hS3.2.cell 2
    have z2 := hS3.2.fz
    have HD3 := Lib.hid hS3.2
    clear hS3
    go_frame
    (unfold wpMixZ wpRd; (repeat (first | simp only [List.filterMap_cons] | simp only [List.filterMap_nil] | simp only [List.getElem?_toArray] | simp only [List.getElem?_cons_zero] | simp only [List.getElem?_cons_succ])); (try dsimp only); change wpQuiet _ _ _ _ (_ :: _ :: []) _; (repeat (go_big_quiet_step (fail))); refine wpQuiet_nil ?_; (try dsimp only))
    clear hN
    go_wp2_with fail
    go_ret
    refine ⟨ret_int HI.out.symm, HFIN.out g3 w3 _ A' cap' HX3.out HA3.out HL3.out (grownBy_setCell w3 ⟨d, 2, none⟩ _) ?_⟩
    have := HD3.out.set 2 (.slice A' (E.pend.length + 1) cap')
    simpa [devCs] using this
  · have HI : Hid (doI D = 303) := by simp [Hid, doI, hbb]
    have HDD : Hid (doD D o = burnD D) := by
      show _ = _
      unfold doD
      rw [hbb]
      rfl
    have HBB := Lib.hid hbb
    clear hbb
    go_enter Try.func65, Try.ntmps65
    go_wp2_with fail
    refine (burn_any d g1 _ D hD1).mono ?_
    rw [HBB.out]
    rintro e w1 ⟨rfl, hx1, hD2⟩
    go_wp2_with fail
    go_ret
    exact ⟨ret_int HI.out.symm, g1, HX0.out.trans hx1, by rw [HDD.out]; exact hD2⟩

set_option maxRecDepth 100000 in
set_option maxHeartbeats 1600000 in
theorem do_rename (d : Nat) (g : Gh) (w : World) (D : Dev) (hD : DevAt g w d D) (o : POp) (hk : o.kind = 2) (A1 : Option Addr) (c1 : Nat) (hr : BytesAt g w (.slice A1 o.bytes.length c1) o.bytes) (hpl : D.pend.length ≤ 1000000) :
    Calls Try.prog 65 #[.pointer (some ⟨d, 0, none⟩), .agg #[.func (.func 67) #[] #[], .string o.name, .string o.to, .slice A1 o.bytes.length c1, .bool o.tears]] w fun e w' => e = .returned (.int .i64 (doI D)) ∧ DevP d g w (doD D o) w' := by
  obtain ⟨i0, hi0, hz0, hz1, hz2⟩ := info_parts Try.infoOp
  obtain ⟨bn1, bn2, bn3⟩ := burn_now D
  have hx0 := Ext.box (· = d) g w (.cells #[.func (.func 67) #[] #[], .string o.name, .string o.to, .slice A1 o.bytes.length c1, .bool o.tears] 96)
  have hx00 := Ext.box (fun _ => False) g w (.cells #[.func (.func 67) #[] #[], .string o.name, .string o.to, .slice A1 o.bytes.length c1, .bool o.tears] 96)
  have hD1 := hD.ext hx00 (fun h => h)
  have hbk : Blk w.heap.size 96 [.func (.func 67) #[] #[], .string o.name, .string o.to, .slice A1 o.bytes.length c1, .bool o.tears] (w.alloc (.cells #[.func (.func 67) #[] #[], .string o.name, .string o.to, .slice A1 o.bytes.length c1, .bool o.tears] 96)) := Blk.new w _ _
  have hdlt := hD.lt
  have hr1 := hr.ext hx00
  have hgO := Gh.box_O g w.heap.size
  have hgF := Gh.box_F g w.heap.size
  generalize g.box w.heap.size = g1 at *
  have HX0 := Lib.hid hx0
  have HGF := Lib.hid hgF
  have HGO := Lib.hid hgO
  have HBK := Lib.hid hbk
  clear hx0 hx00 hD hr hgF hgO hbk bn3
  have HBN := Lib.hid bn1
  have HBP := Lib.hid bn2
  clear bn1 bn2
  cases hbb : burnB D
  · have HI : Hid (doI D = 0) := by simp [Hid, doI, hbb]
    have HDD : Hid (doD D o = { burnD D with now := (burnD D).now.run o, pend := (burnD D).pend ++ [o] }) := by
      show _ = _
      unfold doD
      rw [hbb, HBN.out, HBP.out]
      rfl
    have HBB := Lib.hid hbb
    clear hbb
    go_enter Try.func65, Try.ntmps65
    go_wp2_with fail
    refine (burn_any d g1 _ D hD1).mono ?_
    rw [HBB.out]
    rintro e w1 ⟨rfl, hx1, hD2⟩
    have hbk1 := HBK.out.ext hx1 (by rw [HGO.out]; omega)
    have hs1 := hx1.size
    have hw1lt : w.heap.size < w1.heap.size := by have := hbk1.lt; omega
    obtain ⟨km, nm, A, cap, xs, hbd, hi⟩ := hD2
    have hns := hi.nes hbd
    have hr2 := hr1.ext hx1
    have hS : (fun x => Blk w.heap.size 96 [.func (.func 67) #[] #[], .string o.name, .string o.to, .slice A1 o.bytes.length c1, .bool o.tears] x ∧ Blk d 63 (devCs km nm A cap (burnD D)) x) w1.drew := ⟨hbk1, hbd⟩
    have hdr : Ext (· = d) g1 w1 g1 w1.drew := (Ext.refl _ _ _).drew
    have HI2 := Lib.hid (hi.keep hdr hbd.lt (fun _ _ _ _ => ⟨rfl, rfl⟩) hns.1 hns.2)
    have HBD : Hid (Blk d 63 (devCs km nm A cap (burnD D)) w1.drew) := hbd
    have HX1 := Lib.hid ((HX0.out.trans hx1).trans hdr)
    have HR2 := Lib.hid (hr2.ext hdr)
    have hplb : (burnD D).pend.length ≤ 1000000 := by rw [HBP.out]; exact hpl
    clear hi hbd hx1 hr1 hr2 hD1
    generalize burnD D = E at *
    have HBK1 : Hid (Blk w.heap.size 96 [.func (.func 67) #[] #[], .string o.name, .string o.to, .slice A1 o.bytes.length c1, .bool o.tears] w1.drew) := hbk1
    clear hbk1 hdr
    go_wp2_with fail
    (refine wp_region_mix (S := fun x => Blk w.heap.size 96 [.func (.func 67) #[] #[], .string o.name, .string o.to, .slice A1 o.bytes.length c1, .bool o.tears] x ∧ Blk d 63 (devCs km nm A cap E) x) [] [([0, 1, 2, 3, 4, 5, 6], 7)] (by kernel_rfl) (by kernel_rfl) (by intro c a d v w h; cases d <;> exact h) hS ?_; have hN : Nonempty (Held (fun x => Blk w.heap.size 96 [.func (.func 67) #[] #[], .string o.name, .string o.to, .slice A1 o.bytes.length c1, .bool o.tears] x ∧ Blk d 63 (devCs km nm A cap E) x)) := ⟨⟨_, hS⟩⟩)
    have r0 := fun y : Held (fun x => Blk w.heap.size 96 [.func (.func 67) #[] #[], .string o.name, .string o.to, .slice A1 o.bytes.length c1, .bool o.tears] x ∧ Blk d 63 (devCs km nm A cap E) x) => y.ok.1.cell 0
    have r1 := fun y : Held (fun x => Blk w.heap.size 96 [.func (.func 67) #[] #[], .string o.name, .string o.to, .slice A1 o.bytes.length c1, .bool o.tears] x ∧ Blk d 63 (devCs km nm A cap E) x) => y.ok.1.cell 1
    have r2 := fun y : Held (fun x => Blk w.heap.size 96 [.func (.func 67) #[] #[], .string o.name, .string o.to, .slice A1 o.bytes.length c1, .bool o.tears] x ∧ Blk d 63 (devCs km nm A cap E) x) => y.ok.1.cell 2
    have r3 := fun y : Held (fun x => Blk w.heap.size 96 [.func (.func 67) #[] #[], .string o.name, .string o.to, .slice A1 o.bytes.length c1, .bool o.tears] x ∧ Blk d 63 (devCs km nm A cap E) x) => y.ok.1.cell 3
    have r4 := fun y : Held (fun x => Blk w.heap.size 96 [.func (.func 67) #[] #[], .string o.name, .string o.to, .slice A1 o.bytes.length c1, .bool o.tears] x ∧ Blk d 63 (devCs km nm A cap E) x) => y.ok.1.cell 4
    have s1 : ∀ y : Held (fun x => Blk w.heap.size 96 [.func (.func 67) #[] #[], .string o.name, .string o.to, .slice A1 o.bytes.length c1, .bool o.tears] x ∧ Blk d 63 (devCs km nm A cap E) x), y.w.cell? ⟨d, 1, none⟩ = some (.map (some nm)) := fun y => y.ok.2.cell 1
    (unfold wpMix wpRd; (repeat (first | simp only [List.filterMap_cons] | simp only [List.filterMap_nil] | simp only [List.getElem?_toArray] | simp only [List.getElem?_cons_zero] | simp only [List.getElem?_cons_succ])); (try dsimp only); change wpQuiet _ _ _ _ (_ :: _ :: _ :: _ :: _ :: _ :: _ :: []) _; (repeat (go_big_quiet_step (fail))); refine wpQuiet_nil ?_; (try dsimp only))
    clear r0 r1 r2 r3 r4 s1 hN
    go_wp2_with fail
    obtain ⟨_, hrz, hrr⟩ := HR2.out.rd
    obtain ⟨Lm, hLm, _⟩ := HI2.out.now.ex
    have hopnm : w.heap.size ≠ nm := map_ne HBK1.out hLm
    refine (rename_any d nm g1 E.now o.name o.to o.tears _ _ _ HI2.out.now).mono ?_
    rintro e w2 ⟨rfl, g2, hx2, hnow2, hoth2⟩
    have q1 := hoth2 w.heap.size hw1lt hopnm (.inl HGF.out)
    have q2 := hoth2 d HBD.out.lt hns.1 (.inl HI2.out.F)
    have hS2 : (fun x => Blk w.heap.size 96 [.func (.func 67) #[] #[], .string o.name, .string o.to, .slice A1 o.bytes.length c1, .bool o.tears] x ∧ Blk d 63 (devCs km nm A cap E) x) w2 := ⟨HBK1.out.of q1.1, HBD.out.of q2.1⟩
    have hxall := HX1.out.trans hx2
    have hs2 := hx2.size
    have HFIN : Hid (∀ g3 w3 w4 A' cap', Ext (· = d) g2 w2 g3 w3 → App 96 5 d g3 w3 A' (E.pend.length + 1) cap' (xs ++ [.func (.func 67) #[] #[], .string o.name, .string o.to, .slice A1 o.bytes.length c1, .bool o.tears]) → Lies g2 w2 A E.pend.length cap g3 w3 A' cap' → w3.grownBy w4 (some d) → Blk d 63 (devCs km nm A' cap' { E with now := E.now.run o, pend := E.pend ++ [o] }) w4 → DevP d g w (doD D o) w4) := by
      intro g3 w3 w4 A' cap' h1 h2 h3 h4 h5
      obtain ⟨g4, hx4, hD4⟩ := do_end (o := o) (bvl := .slice A1 o.bytes.length c1) HBD.out HI2.out hx2 (by unfold Fl.run; simpa [hk] using hnow2) hoth2 h1 (by simpa [fnV, hk] using h2) h3 HR2.out h4 h5
      rw [HDD.out]
      exact ⟨g4, HX1.out.trans hx4, hD4⟩
    have hAP : App 96 5 d g2 w2 A E.pend.length cap xs := HI2.out.pend.ext' hx2 fun b off hA hb hlt => by
      obtain ⟨h0, b2, cs, f1, _, f3, f4, _⟩ := HI2.out.pend.sp hlt
      rw [hA] at f1; injection f1 with f1; injection f1 with f1 _
      have hbne : b ≠ nm := fun e => by
        obtain ⟨es, clk, q, _⟩ := hLm
        rw [f1] at e
        rw [e, q] at f4
        cases f4
      exact hoth2 b hb hbne (.inr ⟨cs, 96, (0, 0), by rw [f1]; exact f4, by decide⟩)
    have HAP := Lib.hid hAP
    have hal2 : Ext (fun _ => False) g2 w2 g2 (w2.drew.alloc (.cells #[.func (.func 67) #[] #[], .string o.name, .string o.to, .slice A1 o.bytes.length c1, .bool o.tears] 96)) := ((Ext.refl _ _ _).drew).alloc _
    have HAP3 := Lib.hid (hAP.ext hal2 (fun h => h))
    have HSRC : Hid (Src Try.prog 5 61 (.slice (some ⟨w2.heap.size, 0, none⟩) 1 1) 1 [.func (.func 67) #[] #[], .string o.name, .string o.to, .slice A1 o.bytes.length c1, .bool o.tears] (w2.drew.alloc (.cells #[.func (.func 67) #[] #[], .string o.name, .string o.to, .slice A1 o.bytes.length c1, .bool o.tears] 96))) :=
      Src.ofSlice _ Try.underlying61 _ 1 1 _ rfl (fun j u hu => by
        have hh : (w2.drew.alloc (.cells #[.func (.func 67) #[] #[], .string o.name, .string o.to, .slice A1 o.bytes.length c1, .bool o.tears] 96)).heap[w2.heap.size]? = some (.cells #[.func (.func 67) #[] #[], .string o.name, .string o.to, .slice A1 o.bytes.length c1, .bool o.tears] 96 (0, 0)) := heap_alloc_new w2.drew _
        rw [add_lit, Nat.zero_add, cell_at hh]
        simpa using hu) (by simp [Value.oneCell'])
    have HF0 : Hid (g2.F w.heap.size = 0 ∧ g2.F d = 0) := ⟨q1.2.trans HGF.out, q2.2.trans HI2.out.F⟩
    have HRW : Hid (E.pend.length < cap → ∀ b off, A = some ⟨b, off, none⟩ → g2.F b ≠ 0) := by
      intro hc b off hb
      obtain ⟨h0, b2, cs, f1, _, f3, _⟩ := hAP.sp hc
      rw [hb] at f1; injection f1 with f1; injection f1 with f1 _
      rw [f1, f3]
      omega
    have HD2 := hS2
    clear hS hAP q1 q2 hoth2 hnow2 hrz hrr hLm
    have HS2 := Lib.hid hS2
    have hS : (fun x => Blk w.heap.size 96 [.func (.func 67) #[] #[], .string o.name, .string o.to, .slice A1 o.bytes.length c1, .bool o.tears] x ∧ Blk d 63 (devCs km nm A cap E) x) w2.drew := hS2
    clear hS2 HD2
    go_wp2_with fail
    refine ⟨HS2.out, ?_⟩
    (unfold wpMix wpRd; (repeat (first | simp only [List.filterMap_cons] | simp only [List.filterMap_nil] | simp only [List.getElem?_toArray] | simp only [List.getElem?_cons_zero] | simp only [List.getElem?_cons_succ])); (try dsimp only); change wpQuiet _ _ _ _ ([]) _; (repeat (go_big_quiet_step (fail))); refine wpQuiet_nil ?_; (try dsimp only))
    go_wp2_with fail
    (refine wp_region_mixz (S := fun x => Blk w.heap.size 96 [.func (.func 67) #[] #[], .string o.name, .string o.to, .slice A1 o.bytes.length c1, .bool o.tears] x ∧ Blk d 63 (devCs km nm A cap E) x) [8, 9] 10 [([0, 1, 2, 3, 4, 5], 6), ([], 7)] (by kernel_rfl) (by kernel_rfl) (by intro c a d v w h; cases d <;> exact h) hS ?_; have hN : Nonempty (Held (fun x => Blk w.heap.size 96 [.func (.func 67) #[] #[], .string o.name, .string o.to, .slice A1 o.bytes.length c1, .bool o.tears] x ∧ Blk d 63 (devCs km nm A cap E) x)) := ⟨⟨_, hS⟩⟩)
    have r0 := fun y : Held (fun x => Blk w.heap.size 96 [.func (.func 67) #[] #[], .string o.name, .string o.to, .slice A1 o.bytes.length c1, .bool o.tears] x ∧ Blk d 63 (devCs km nm A cap E) x) => y.ok.1.cell 0
    have r1 := fun y : Held (fun x => Blk w.heap.size 96 [.func (.func 67) #[] #[], .string o.name, .string o.to, .slice A1 o.bytes.length c1, .bool o.tears] x ∧ Blk d 63 (devCs km nm A cap E) x) => y.ok.1.cell 1
    have r2 := fun y : Held (fun x => Blk w.heap.size 96 [.func (.func 67) #[] #[], .string o.name, .string o.to, .slice A1 o.bytes.length c1, .bool o.tears] x ∧ Blk d 63 (devCs km nm A cap E) x) => y.ok.1.cell 2
    have r3 := fun y : Held (fun x => Blk w.heap.size 96 [.func (.func 67) #[] #[], .string o.name, .string o.to, .slice A1 o.bytes.length c1, .bool o.tears] x ∧ Blk d 63 (devCs km nm A cap E) x) => y.ok.1.cell 3
    have r4 := fun y : Held (fun x => Blk w.heap.size 96 [.func (.func 67) #[] #[], .string o.name, .string o.to, .slice A1 o.bytes.length c1, .bool o.tears] x ∧ Blk d 63 (devCs km nm A cap E) x) => y.ok.1.cell 4
    have s1 : ∀ y : Held (fun x => Blk w.heap.size 96 [.func (.func 67) #[] #[], .string o.name, .string o.to, .slice A1 o.bytes.length c1, .bool o.tears] x ∧ Blk d 63 (devCs km nm A cap E) x), y.w.cell? ⟨d, 2, none⟩ = some (.slice A E.pend.length cap) := fun y => y.ok.2.cell 2
    (unfold wpMixZ wpRd; (repeat (first | simp only [List.filterMap_cons] | simp only [List.filterMap_nil] | simp only [List.getElem?_toArray] | simp only [List.getElem?_cons_zero] | simp only [List.getElem?_cons_succ])); (try dsimp only); change wpQuiet _ _ _ _ (_ :: _ :: _ :: _ :: _ :: _ :: []) _; (repeat (go_big_quiet_step (fail))); refine wpQuiet_nil ?_; (try dsimp only))
    clear r0 r1 r2 r3 r4 s1
    go_wp2_with fail
    refine ⟨⟨hS.1.alloc _, hS.2.alloc _⟩, ?_⟩
    (unfold wpMixZ wpRd; (repeat (first | simp only [List.filterMap_cons] | simp only [List.filterMap_nil] | simp only [List.getElem?_toArray] | simp only [List.getElem?_cons_zero] | simp only [List.getElem?_cons_succ])); (try dsimp only); change wpQuiet _ _ _ _ ([]) _; (repeat (go_big_quiet_step (fail))); refine wpQuiet_nil ?_; (try dsimp only))
    refine wpList_append_app rfl _ _ _ _ rfl 96 i0 _ 5 72 Try.underlying61 hi0 hz0 hz1 hz2 rfl (by decide) rfl HAP3.out rfl HSRC.out (by unfold maxLen; omega) (by omega) ?_
    intro A' cap' w3 g3 hx3 ha3 hl3
    have hbel2 : Below w2.heap.size w2 (w2.drew.alloc (.cells #[.func (.func 67) #[] #[], .string o.name, .string o.to, .slice A1 o.bytes.length c1, .bool o.tears] 96)) := ((Below.refl _ _).drew).alloc (Nat.le_refl _) _
    have hx3' : Ext (· = d) g2 w2 g3 w3 := (Ext.of_below (· = d) g2 hbel2).trans hx3
    have hl3' := hl3.below hbel2
    have hs3 := hx3.size
    have hS3 : (fun x => Blk w.heap.size 96 [.func (.func 67) #[] #[], .string o.name, .string o.to, .slice A1 o.bytes.length c1, .bool o.tears] x ∧ Blk d 63 (devCs km nm A cap E) x) w3 :=
      ⟨HS2.out.1.of (hl3'.far _ HS2.out.1.lt (fun hc off he => HRW.out hc _ _ he HF0.out.1)).1, HS2.out.2.of (hl3'.far _ HS2.out.2.lt (fun hc off he => HRW.out hc _ _ he HF0.out.2)).1⟩
    have HX3 := Lib.hid hx3'
    have HA3 := Lib.hid ha3
    have HL3 := Lib.hid hl3'
    clear hx3 hx3' ha3 hl3 hl3' hbel2
    refine ⟨hS3, ?_⟩
    have c2 : w3.cell? ⟨d, 2, none⟩ = some (.slice A E.pend.length cap) := hS3.2.cell 2
    have z2 := hS3.2.fz
    have HD3 := Lib.hid hS3.2
    clear hS3
    go_frame
    (unfold wpMixZ wpRd; (repeat (first | simp only [List.filterMap_cons] | simp only [List.filterMap_nil] | simp only [List.getElem?_toArray] | simp only [List.getElem?_cons_zero] | simp only [List.getElem?_cons_succ])); (try dsimp only); change wpQuiet _ _ _ _ (_ :: _ :: []) _; (repeat (go_big_quiet_step (fail))); refine wpQuiet_nil ?_; (try dsimp only))
    clear hN
    go_wp2_with fail
    go_ret
    refine ⟨ret_int HI.out.symm, HFIN.out g3 w3 _ A' cap' HX3.out HA3.out HL3.out (grownBy_setCell w3 ⟨d, 2, none⟩ _) ?_⟩
    have := HD3.out.set 2 (.slice A' (E.pend.length + 1) cap')
    simpa [devCs] using this
  · have HI : Hid (doI D = 303) := by simp [Hid, doI, hbb]
    have HDD : Hid (doD D o = burnD D) := by
      show _ = _
      unfold doD
      rw [hbb]
      rfl
    have HBB := Lib.hid hbb
    clear hbb
    go_enter Try.func65, Try.ntmps65
    go_wp2_with fail
    refine (burn_any d g1 _ D hD1).mono ?_
    rw [HBB.out]
    rintro e w1 ⟨rfl, hx1, hD2⟩
    go_wp2_with fail
    go_ret
    exact ⟨ret_int HI.out.symm, g1, HX0.out.trans hx1, by rw [HDD.out]; exact hD2⟩

end Go.Proofs.Ythjbaafbkalomaa
