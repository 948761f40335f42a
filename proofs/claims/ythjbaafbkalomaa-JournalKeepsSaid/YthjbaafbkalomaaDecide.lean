/-
  decide: what a loss of power leaves on the device.
-/
import Derived.Test.YthjbaafbkalomaaRec
import Derived.Laws.EntriesVeiled
namespace Go.Proofs.Ythjbaafbkalomaa
open Go.RowKit

/-- The new blocks of owner o become d's; one more block is d's. -/
def Gh.reown (g : Gh) (o d b : Nat) : Gh := ⟨fun k => if k = b then 0 else g.F k, fun k => if k = b then d else if g.O k = o then d else g.O k⟩
theorem App.reown {e : TypeId} {sz o d : Nat} {g : Gh} {w : World} {A : Option Addr} {n cap : Nat} {xs : List Value} (h : App e sz o g w A n cap xs) (ob : Obj) : App e sz d (g.reown o d w.heap.size) (w.alloc ob) A n cap xs := by
  refine ⟨⟨h.rd.len, fun h0 => ?_⟩, h.le, h.mx, h.nz, fun hlt => ?_⟩
  · obtain ⟨b, off, hA, hF, hb, hc⟩ := h.rd.at_ h0
    refine ⟨b, off, hA, ?_, by simp; omega, fun j u hu => ?_⟩
    · simp only [Gh.reown]; rw [if_neg (by omega)]; exact hF
    · obtain ⟨cs, e, fr, q1, q2⟩ := cell_block (hc j u hu)
      rw [cell_at ((Below.heap_alloc w ob b hb).trans q1)]
      exact q2
  · obtain ⟨h0, b, cs, hA, hO, hF, hh, hs⟩ := h.sp hlt
    have hb := block_lt hh
    refine ⟨h0, b, cs, hA, ?_, ?_, (Below.heap_alloc w ob b hb).trans hh, hs⟩
    · simp only [Gh.reown]; rw [if_neg (by omega), if_pos hO]
    · simp only [Gh.reown]; rw [if_neg (by omega)]; exact hF
theorem decide_end {d km nm lm o : Nat} {g gr : Gh} {w wr w1 : World} {A : Option Addr} {cap : Nat} {xs : List Value} {E : Dev} {f : Fl} {es : Array MapEntry} {clock : Nat} (hb : Blk d 63 (devCs km nm A cap E) w) (hi : DevIn g w d km nm A cap xs E) (hx : Ext (· = o) g w gr wr) (ho : ∀ b, b < w.heap.size → g.O b ≠ o) (hf : FlAp o gr wr lm f) (hm : wr.heap[lm]? = some (.map es clock))
    (hg : (wr.alloc (.map es clock)).grownBy w1 (some d)) (hB : Blk d 63 (devCs lm wr.heap.size none 0 { E with kept := f, now := f, pend := [] }) w1) : DevP d g w { E with kept := f, now := f, pend := [] } w1 := by
  have hdl := hb.lt
  have hsz := hx.size
  have hlml := hf.lt
  have hOd : gr.O d = d := (hx.own d hdl).trans hi.O
  have hod : o ≠ d := fun e => ho d hdl (by rw [hi.O, e])
  have hFd : gr.F d = 0 := hx.zero d hdl hi.F
  have hx1 : Ext (fun _ => False) g w (gr.reown o d wr.heap.size) (wr.alloc (.map es clock)) := by
    refine ((hx.alloc (.map es clock)).up (fun b hb' => ?_) (fun b hb' => ?_)).more (fun b hb' e => absurd e (ho b hb'))
    · simp only [Gh.reown]; rw [if_neg (by omega)]
    · simp only [Gh.reown]; rw [if_neg (by omega), if_neg]
      rw [hx.own b hb']; exact ho b hb'
  obtain ⟨L, hL, hn, h3, h4, h5⟩ := hf.ex
  have hnd : lm ≠ d := fun e => by
    obtain ⟨es', cl', q, _⟩ := hL
    have := hb.ext hx (by rw [hi.O]; exact fun e => hod e.symm)
    rw [← e] at this
    unfold Blk at this
    rw [q] at this
    cases this
  have hF1 : (gr.reown o d wr.heap.size).F d = 0 := by simp only [Gh.reown]; rw [if_neg (by omega)]; exact hFd
  have hO1 : (gr.reown o d wr.heap.size).O d = d := by simp only [Gh.reown]; rw [if_neg (by omega), if_neg (by rw [hOd]; exact fun e => hod e.symm)]; exact hOd
  have hOl : (gr.reown o d wr.heap.size).O lm = d := by simp only [Gh.reown]; rw [if_neg (by omega), if_pos hf.O]
  have hFl : (gr.reown o d wr.heap.size).F lm = 0 := by simp only [Gh.reown]; rw [if_neg (by omega)]; exact hf.F
  have hON : (gr.reown o d wr.heap.size).O wr.heap.size = d := by simp [Gh.reown]
  have hFN : (gr.reown o d wr.heap.size).F wr.heap.size = 0 := by simp [Gh.reown]
  have hLl : MapIs lm L (wr.alloc (.map es clock)) := hL.of_block (Below.heap_alloc wr _ lm hlml)
  have hLn := hL.clone hm
  have hnow : FlAp d (gr.reown o d wr.heap.size) (wr.alloc (.map es clock)) wr.heap.size f :=
    ⟨⟨L, hLn, hn, h3, fun k v hl => let ⟨l, A, cap, e1, e2, e3, e4⟩ := h4 k v hl; ⟨l, A, cap, e1, e2, e3, e4.reown _⟩, h5⟩, hON, hFN⟩
  have hkept : FlRd (gr.reown o d wr.heap.size) (wr.alloc (.map es clock)) lm f := by
    refine ⟨L, hLl, hn, h3, fun k v hl => ?_⟩
    obtain ⟨l, A, cap, e1, e2, _, e4⟩ := h4 k v hl
    have := e4.reown (d := d) (.map es clock)
    exact ⟨l, e1, A, cap, e2, this.le, this.mx, fun h => (this.nz h).1, this.rd⟩
  generalize gr.reown o d wr.heap.size = g1 at *
  have hx2 : Ext (· = d) g1 (wr.alloc (.map es clock)) g1 w1 := (Ext.refl _ _ _).one hg (fun _ => hO1) hF1
  have hblk : ∀ b, b < wr.heap.size + 1 → b ≠ d → w1.heap[b]? = (wr.alloc (.map es clock)).heap[b]? := fun b hb' hne => hg.block b (by simpa using hb') (fun e => hne (by injection e))
  refine ⟨g1, (hx1.imp (fun _ h => h.elim)).trans hx2, lm, wr.heap.size, none, 0, [], hB, by omega, hOl, hFl, hkept.ext hx2 (hblk _ (by omega) hnd), ?_, App.nil _ _ _ _ _, trivial, hO1, hF1, hi.f0, hi.f1⟩
  exact hnow.same hx2 fun k hk ho' => ⟨hblk k (by simpa using hk) (fun e => by
      subst e
      rcases ho' with ho' | ho'
      · exact ho' hF1
      · omega), rfl⟩

theorem grown012 (x : World) (b : Nat) (u v y : Value) : x.grownBy (((x.setCell ⟨b, 0, none⟩ u).setCell ⟨b, 1, none⟩ v).setCell ⟨b, 2, none⟩ y) (some b) := by
  have h1 := grownBy_setCell x ⟨b, 0, none⟩ u
  have h2 := grownBy_setCell (x.setCell ⟨b, 0, none⟩ u) ⟨b, 1, none⟩ v
  have h3 := grownBy_setCell ((x.setCell ⟨b, 0, none⟩ u).setCell ⟨b, 1, none⟩ v) ⟨b, 2, none⟩ y
  exact ⟨h3.os.trans (h2.os.trans h1.os), h3.tape.trans (h2.tape.trans h1.tape), h3.output.trans (h2.output.trans h1.output), Nat.le_trans h1.size (Nat.le_trans h2.size h3.size), fun k hk hne => (h3.block k (by have := h1.size; have := h2.size; omega) hne).trans ((h2.block k (by have := h1.size; omega) hne).trans (h1.block k hk hne))⟩
def fidOf (k : Nat) : FuncId := if k = 0 then 66 else if k = 1 then 69 else 67
theorem fnV_fid (k : Nat) : fnV k = .func (.func (fidOf k)) #[] #[] := by
  unfold fnV fidOf
  split
  · rfl
  · split <;> rfl
theorem fid_enter (k : Nat) (args : Array Value) (w : World) : (callFunc (fidOf k) args).run Try.prog w = .ok (.enter (fidOf k) args) w := by
  unfold fidOf
  split
  · exact run_enters Try.func66 (by kernel_rfl) (by kernel_rfl) args w
  · split
    · exact run_enters Try.func69 (by kernel_rfl) (by kernel_rfl) args w
    · exact run_enters Try.func67 (by kernel_rfl) (by kernel_rfl) args w
/-- An operation that fits into the files. -/
def Fits (f : Fl) (o : POp) : Prop := (o.kind = 0 → o.bytes.length ≤ 8388608) ∧ (o.kind = 1 → (f.get o.name ++ o.bytes).length ≤ 8388608)
theorem run_any (o nm : Nat) (g : Gh) (f : Fl) (p : POp) (A : Option Addr) (c : Nat) (w : World) (hf : FlAp o g w nm f) (hr : BytesAt g w (.slice A p.bytes.length c) p.bytes) (hp : Fits f p) :
    Calls Try.prog (fidOf p.kind) #[.map (some nm), .agg #[.func (.func (fidOf p.kind)) #[] #[], .string p.name, .string p.to, .slice A p.bytes.length c, .bool p.tears]] w (FilesP o nm g w (f.run p)) := by
  obtain ⟨_, hz, hrd⟩ := hr.rd
  unfold Fl.run fidOf
  by_cases h0 : p.kind = 0
  · rw [if_pos h0, if_pos h0]
    exact create_any o nm g f p.name p.to p.tears _ A c p.bytes w hf hrd hz (hp.1 h0)
  · rw [if_neg h0, if_neg h0]
    by_cases h1 : p.kind = 1
    · rw [if_pos h1, if_pos h1]
      exact add_any o nm g f p.name p.to p.tears _ A c p.bytes w hf hrd hz (hp.2 h1)
    · rw [if_neg h1, if_neg h1]
      exact rename_any o nm g f p.name p.to p.tears _ _ w hf
def runs (f : Fl) (l : List POp) : Fl := l.foldl Fl.run f
theorem runs_snoc (f : Fl) (l : List POp) (k : Nat) (h : k < l.length) : runs f (l.take (k + 1)) = (runs f (l.take k)).run l[k] := by
  unfold runs
  rw [List.take_add_one, List.getElem?_eq_getElem h]
  show List.foldl Fl.run f (l.take k ++ [l[k]]) = _
  rw [List.foldl_append]
  rfl
def tornOp (o : POp) (t : Int) : POp := { o with bytes := o.bytes.take t.toNat }
/-- What the loss leaves of the operations from the k-th on. -/
def lossF (f : Fl) (l : List POp) (kp tn : Int) : Fl :=
  if kp < 0 then f else
  match l[kp.toNat]? with
  | none => runs f l
  | some o => if o.tears = true ∧ 0 ≤ tn then (runs f (l.take kp.toNat)).run (tornOp o tn) else runs f (l.take kp.toNat)
def lossD (D : Dev) (kp tn : Int) : Dev := if D.pend.length = 0 then D else { D with kept := lossF D.kept D.pend kp tn, now := lossF D.kept D.pend kp tn, pend := [] }

theorem OpsR.get {g : Gh} {w : World} : ∀ {xs : List Value} {ops : List POp}, OpsR g w xs ops → ∀ {k : Nat} (hk : k < ops.length), ∃ b, xs[k * 5]? = some (fnV ops[k].kind) ∧ xs[k * 5 + 1]? = some (.string ops[k].name) ∧ xs[k * 5 + 2]? = some (.string ops[k].to) ∧ xs[k * 5 + 3]? = some b ∧ xs[k * 5 + 4]? = some (.bool ops[k].tears) ∧ BytesAt g w b ops[k].bytes
  | [], [], _, k, hk => by simp at hk
  | _ :: _ :: _ :: b :: _ :: _, _ :: _, ⟨h1, h2⟩, 0, _ => by
    obtain ⟨e1, e2, e3, e4, e5⟩ := h1
    exact ⟨b, by simp [e1], by simp [e2], by simp [e3], rfl, by simp [e4], e5⟩
  | _ :: _ :: _ :: _ :: _ :: _, _ :: _, ⟨_, h2⟩, k + 1, hk => by
    obtain ⟨b, h⟩ := OpsR.get h2 (k := k) (by simpa using hk)
    refine ⟨b, ?_⟩
    have e : (k + 1) * 5 = k * 5 + 5 := by omega
    rw [e]
    simpa using h

set_option maxRecDepth 100000 in
set_option maxHeartbeats 12800000 in
theorem decide_any (d : Nat) (g : Gh) (w : World) (D : Dev) (hD : DevAt g w d D) (kp tn : Int) (hne : D.pend.length ≠ 0) (hpl : D.pend.length ≤ 1000000) (hfit : ∀ k (hk : k < D.pend.length), Fits (runs D.kept (D.pend.take k)) D.pend[k]) (hlen : ∀ k l, D.kept.m k = some l → l.length ≤ 8388608) (hn : D.kept.n ≤ 1000000) (hk0 : -9223372036854775808 ≤ kp) (hk1 : kp ≤ 9223372036854775807) :
    Calls Try.prog 44 #[.pointer (some ⟨d, 0, none⟩), .agg #[.int .i64 kp, .int .i64 tn]] w fun e w' => e = .returned (.tuple #[]) ∧ DevP d g w (lossD D kp tn) w' := by
  have HDD : Hid (lossD D kp tn = { D with kept := lossF D.kept D.pend kp tn, now := lossF D.kept D.pend kp tn, pend := [] }) := by show _ = _; unfold lossD; rw [if_neg hne]
  rw [HDD.out]
  obtain ⟨km, nm, A, cap, xs, hb, hi⟩ := hD
  have hx0 := Ext.box (fun _ => False) g w (.cells #[.int .i64 kp, .int .i64 tn] 51)
  have hb1 := hb.ext hx0 (fun h => h)
  have hlb : Blk w.heap.size 51 [.int .i64 kp, .int .i64 tn] (w.alloc (.cells #[.int .i64 kp, .int .i64 tn] 51)) := Blk.new w 51 [.int .i64 kp, .int .i64 tn]
  have hOb : (g.box w.heap.size).O w.heap.size = w.heap.size := Gh.box_O _ _
  obtain ⟨o, ho⟩ := owner_new (g.box w.heap.size) (w.heap.size + 1)
  have hol : o ≠ w.heap.size := fun e => ho w.heap.size (by omega) (by rw [hOb, e])
  have HO : Hid (∀ b, b < w.heap.size → g.O b ≠ o) := by
    intro b hb' e
    exact ho b (by omega) (by rw [← e]; simp only [Gh.box]; rw [if_neg (by omega)])
  have hod : o ≠ d := fun e => HO.out d hb.lt (by rw [hi.O, e])
  have c2 : (w.alloc (.cells #[.int .i64 kp, .int .i64 tn] 51)).cell? ⟨d, 2, none⟩ = some (.slice A D.pend.length cap) := hb1.cell 2
  have c0 : (w.alloc (.cells #[.int .i64 kp, .int .i64 tn] 51)).cell? ⟨d, 0, none⟩ = some (.map (some km)) := hb1.cell 0
  have hne' : ((D.pend.length : Int) == 0) = false := beq_eq_false_iff_ne.2 (by omega)
  have hkm : km ≠ w.heap.size := by have := hi.kept.lt; omega
  have hkp := hi.kept.ext hx0 (by exact Below.heap_alloc w _ km hi.kept.lt)
  have HKP := Lib.hid hkp
  have HX0 := Lib.hid hx0
  have HB := Lib.hid hb
  have HI := Lib.hid hi
  have HB1 := Lib.hid hb1
  have HLB := Lib.hid hlb
  have HRD := Lib.hid (hi.pend.rd.ext hx0)
  have HOPS := Lib.hid (hi.ops.ext hx0)
  have HFIT := Lib.hid hfit
  have HLEN := Lib.hid hlen
  have hOd : (g.box w.heap.size).O d = d := by simp only [Gh.box]; rw [if_neg (by have := hb.lt; omega)]; exact hi.O
  have HNE := Lib.hid hne
  clear hb hi hx0 hb1 hlb ho hkp hfit hlen hne HDD
  generalize g.box w.heap.size = g1 at *
  go_enter Try.func44, Try.ntmps44
  go_wp2_with fail
  refine (copied_any o km g1 D.kept _ HKP.out HLEN.out hn).mono ?_
  rintro e w2 ⟨lm, g2, rfl, hlm, hbel, hF2, hO2, hf2⟩
  have hx2 : Ext (fun _ => False) g1 (w.alloc (.cells #[.int .i64 kp, .int .i64 tn] 51)) g2 w2 := (Ext.of_below (fun _ => False) g1 hbel).up hF2 hO2
  have HX2 := Lib.hid (HX0.out.trans hx2)
  have HB2 := Lib.hid (HB1.out.ext hx2 (fun h => h))
  have HL2 := Lib.hid (HLB.out.ext hx2 (fun h => h))
  have HRD2 := Lib.hid (HRD.out.ext hx2)
  have HOPS2 := Lib.hid (HOPS.out.ext hx2)
  have HF2 := Lib.hid hf2
  have hOb2 := (hx2.own _ HLB.out.lt).trans hOb
  have hOd2 := (hx2.own _ HB1.out.lt).trans hOd
  clear hx2 hbel hF2 hO2 hf2 HX0 HB1 HLB HRD HOPS HKP c0 c2 hOb hOd hkm hlm
  have c2 : w2.cell? ⟨d, 2, none⟩ = some (.slice A D.pend.length cap) := HB2.out.cell 2
  go_wp2_with fail
  go_loopw [23] (fun i wr => ∃ (k : Nat) (gr : Gh), k ≤ D.pend.length ∧ i = .int .i64 k ∧ (k = 0 ∨ (k : Int) ≤ kp) ∧ Ext (· = o) g w gr wr ∧ Ext (· = o) g2 w2 gr wr ∧ FlAp o gr wr lm (runs D.kept (D.pend.take k))) (fun i _ => D.pend.length - (intOf i).toNat)
  case atStart => exact ⟨0, g2, Nat.zero_le _, rfl, .inl rfl, HX2.out.imp (fun _ h => h.elim), Ext.refl _ _ _, HF2.out⟩
  case round =>
    obtain ⟨k, gr, hk, rfl, hkk, hxa, hxb, hf⟩ := hrel
    have HXA := Lib.hid hxa
    have HXB := Lib.hid hxb
    have HB3 := Lib.hid (HB2.out.ext hxb (by rw [hOd2]; exact fun e => hod e.symm))
    have HL3 := Lib.hid (HL2.out.ext hxb (by rw [hOb2]; exact fun e => hol e.symm))
    have HRD3 := Lib.hid (HRD2.out.ext hxb)
    have HOPS3 := Lib.hid (HOPS2.out.ext hxb)
    have HF3 := Lib.hid hf
    have hOb3 := (hxb.own _ HL2.out.lt).trans hOb2
    have hOd3 := (hxb.own _ HB2.out.lt).trans hOd2
    clear hxa hxb hf c2
    by_cases hlt : k < D.pend.length
    · obtain ⟨bvl, e0, e1, e2, e3, e4, hba⟩ := HOPS3.out.get hlt
      obtain ⟨b, off, rfl, _, _, hc⟩ := HRD3.out.at_ (by omega)
      have r0 := hc _ _ e0
      have r1 := hc _ _ e1
      have r2 := hc _ _ e2
      have r3 := hc _ _ e3
      have r4 := hc _ _ e4
      rw [fnV_fid] at r0
      rw [← Nat.add_assoc] at r1 r2 r3 r4
      obtain ⟨Ab, cb, rfl, _⟩ := hba.ex
      have HBA := Lib.hid hba
      have HFT := Lib.hid (HFIT.out k hlt)
      have hent := fid_enter D.pend[k].kind
      have HRS := Lib.hid (runs_snoc D.kept D.pend k hlt)
      clear hc e0 e1 e2 e3 e4 hba
      have HGET : Hid (D.pend[k]? = some D.pend[k]) := List.getElem?_eq_getElem hlt
      generalize D.pend[k] = op at *
      have hx4 := Ext.box (fun _ => False) gr wr (.cells #[.func (.func (fidOf op.kind)) #[] #[], .string op.name, .string op.to, .slice Ab op.bytes.length cb, .bool op.tears] 96)
      have HX4 := Lib.hid (HXA.out.trans (hx4.imp (fun _ h => h.elim)))
      have HF4 := Lib.hid (HF3.out.ext hx4 (fun h => h))
      have HL4 := Lib.hid (HL3.out.ext hx4 (fun h => h))
      have HB4 := Lib.hid (HB3.out.ext hx4 (fun h => h))
      have HBA4 := Lib.hid (HBA.out.ext hx4)
      have HBX4 : Hid (Blk wr.heap.size 96 [.func (.func (fidOf op.kind)) #[] #[], .string op.name, .string op.to, .slice Ab op.bytes.length cb, .bool op.tears] (wr.alloc (.cells #[.func (.func (fidOf op.kind)) #[] #[], .string op.name, .string op.to, .slice Ab op.bytes.length cb, .bool op.tears] 96))) := Blk.new wr 96 [.func (.func (fidOf op.kind)) #[] #[], .string op.name, .string op.to, .slice Ab op.bytes.length cb, .bool op.tears]
      have hOx4 : (gr.box wr.heap.size).O wr.heap.size = wr.heap.size := Gh.box_O _ _
      have hFx4 : (gr.box wr.heap.size).F wr.heap.size = 0 := Gh.box_F _ _
      have hOb4 := (hx4.own _ HL3.out.lt).trans hOb3
      have hOd4 := (hx4.own _ HB3.out.lt).trans hOd3
      have b0 : (wr.alloc (.cells #[.func (.func (fidOf op.kind)) #[] #[], .string op.name, .string op.to, .slice Ab op.bytes.length cb, .bool op.tears] 96)).cell? ⟨w.heap.size, 0, none⟩ = some (.int .i64 kp) := HL4.out.cell 0
      have b1 : (wr.alloc (.cells #[.func (.func (fidOf op.kind)) #[] #[], .string op.name, .string op.to, .slice Ab op.bytes.length cb, .bool op.tears] 96)).cell? ⟨w.heap.size, 1, none⟩ = some (.int .i64 tn) := HL4.out.cell 1
      have llt := HL3.out.lt
      have dlt := HB3.out.lt
      clear hx4
      by_cases hkp : (k : Int) < kp
      · have HRUN : Hid (Calls Try.prog (fidOf op.kind) #[.map (some lm), .agg #[.func (.func (fidOf op.kind)) #[] #[], .string op.name, .string op.to, .slice Ab op.bytes.length cb, .bool op.tears]] (wr.alloc (.cells #[.func (.func (fidOf op.kind)) #[] #[], .string op.name, .string op.to, .slice Ab op.bytes.length cb, .bool op.tears] 96)) (FilesP o lm (gr.box wr.heap.size) (wr.alloc (.cells #[.func (.func (fidOf op.kind)) #[] #[], .string op.name, .string op.to, .slice Ab op.bytes.length cb, .bool op.tears] 96)) ((runs D.kept (D.pend.take k)).run op))) := run_any o lm _ _ op Ab cb _ HF4.out HBA4.out HFT.out
        rw [← HRS.out] at HRUN
        have e1 : ((k : Int) == kp) = false := beq_eq_false_iff_ne.2 (by omega)
        have e2 : decide (kp ≤ (k : Int)) = false := by simp; omega
        generalize op.bytes.length = bl at *
        go_wp2_with fail
        refine HRUN.out.mono ?_
        rintro e w5 ⟨rfl, g5, hx5, hf5, _⟩
        have HX5 := Lib.hid (HX4.out.trans hx5)
        have HF5 := Lib.hid hf5
        have HL5 := Lib.hid (HL4.out.ext hx5 (by rw [hOb4]; exact fun e => hol e.symm))
        have HXB5 : Hid (Ext (· = o) g2 w2 g5 w5) := (HXB.out.trans ((Ext.box (fun _ => False) gr wr _).imp (fun _ h => h.elim))).trans hx5
        have k0 : w5.cell? ⟨w.heap.size, 0, none⟩ = some (.int .i64 kp) := HL5.out.cell 0
        clear hx5 hf5 b0 b1 r0 r1 r2 r3 r4 HRUN HF4 HL4 HB4 HBA4 HBX4
        go_wp2_with fail
        go_round
        case rel => exact ⟨k + 1, g5, by omega, by go_num, .inr (by omega), HX5.out, HXB5.out, HF5.out⟩
        case measure => simp [intOf]; omega
      · by_cases htt : (k : Int) = kp ∧ op.tears = true ∧ 0 ≤ tn
        · obtain ⟨hkp1, hte1, htn1⟩ := htt
          rcases (show tn ≤ (op.bytes.length : Int) ∨ (op.bytes.length : Int) < tn by omega) with hle | hgt
          · obtain ⟨mn, rfl⟩ : ∃ mn : Nat, tn = mn := ⟨tn.toNat, by omega⟩
            have hml : mn ≤ op.bytes.length := by omega
            have htl : (tornOp op (mn : Int)).bytes.length = mn := by
              show (op.bytes.take (mn : Int).toNat).length = mn
              rw [List.length_take]; omega
            obtain ⟨i0, hi0, hy0, hy1, hy2⟩ := info_parts Try.infoU8
            have hbc : op.bytes.length ≤ cb := by
              obtain ⟨A', c', he, q1, _⟩ := HBA.out.ex
              injection he with _ _ e3
              omega
            have hcut := run_cut_h (P := Try.prog) Try.underlying37 hi0 Ab op.bytes.length cb mn (by omega)
            have hx5 := Ext.box (fun _ => False) gr wr (.cells #[.func (.func (fidOf op.kind)) #[] #[], .string op.name, .string op.to, .slice Ab mn cb, .bool true] 96)
            have HX5 := Lib.hid (HXA.out.trans (hx5.imp (fun _ h => h.elim)))
            have HL5 := Lib.hid (HL3.out.ext hx5 (fun h => h))
            have HB5 := Lib.hid (HB3.out.ext hx5 (fun h => h))
            have hOb5 := (hx5.own _ HL3.out.lt).trans hOb3
            have hOd5 := (hx5.own _ HB3.out.lt).trans hOd3
            have HRUN : Hid (Calls Try.prog (fidOf op.kind) #[.map (some lm), .agg #[.func (.func (fidOf op.kind)) #[] #[], .string op.name, .string op.to, .slice Ab mn cb, .bool true]] (wr.alloc (.cells #[.func (.func (fidOf op.kind)) #[] #[], .string op.name, .string op.to, .slice Ab mn cb, .bool true] 96)) (FilesP o lm (gr.box wr.heap.size) (wr.alloc (.cells #[.func (.func (fidOf op.kind)) #[] #[], .string op.name, .string op.to, .slice Ab mn cb, .bool true] 96)) ((runs D.kept (D.pend.take k)).run (tornOp op (mn : Int))))) := by
              have hbt : BytesAt gr wr (.slice Ab mn cb) (tornOp op (mn : Int)).bytes := by
                have h1 := HBA.out.take hml
                have h2 : op.bytes.take mn = op.bytes.take (mn : Int).toNat := by
                  rw [Int.toNat_natCast]
                rw [h2] at h1
                exact h1
              have hft : Fits (runs D.kept (D.pend.take k)) (tornOp op (mn : Int)) := by
                obtain ⟨f1, f2⟩ := HFT.out
                have hle : (op.bytes.take (mn : Int).toNat).length ≤ op.bytes.length := by rw [List.length_take]; omega
                refine ⟨fun h => Nat.le_trans hle (f1 h), fun h => ?_⟩
                have := f2 h
                show ((runs D.kept (D.pend.take k)).get op.name ++ op.bytes.take (mn : Int).toNat).length ≤ _
                rw [List.length_append] at this ⊢
                omega
              have := run_any o lm (gr.box wr.heap.size) _ (tornOp op (mn : Int)) Ab cb (wr.alloc (.cells #[.func (.func (fidOf op.kind)) #[] #[], .string op.name, .string op.to, .slice Ab mn cb, .bool true] 96)) (HF3.out.ext hx5 (fun h => h)) (by rw [htl]; exact hbt.ext hx5) hft
              rw [htl] at this
              have hq : (tornOp op (mn : Int)).tears = true := hte1
              rw [hq] at this
              exact this
            have HTT : Hid (op.tears = true ∧ 0 ≤ (mn : Int)) := ⟨hte1, htn1⟩
            have HKP1 := Lib.hid hkp1
            have hkb : ((k : Int) == kp) = true := beq_iff_eq.2 hkp1
            have k0 : (wr.alloc (.cells #[.func (.func (fidOf op.kind)) #[] #[], .string op.name, .string op.to, .slice Ab mn cb, .bool true] 96)).cell? ⟨w.heap.size, 0, none⟩ = some (.int .i64 kp) := HL5.out.cell 0
            rw [hte1] at r4 b0 b1
            clear hx5 hkp1 htl HFT HRS HX4 HF4 HB4 HBA4 HBX4 HL4 hte1
            have htn0 : decide (0 ≤ (mn : Int)) = true := decide_eq_true htn1
            have hmin : (mn : Int) ≤ (op.bytes.length : Int) := by omega
            generalize op.bytes.length = bl at *
            go_wp2_with fail
            refine HRUN.out.mono ?_
            rintro e w9 ⟨rfl, g9, hx9, hf9, _⟩
            have HX9 := Lib.hid (HX5.out.trans hx9)
            have HF9 := Lib.hid hf9
            have HB9 := Lib.hid (HB5.out.ext hx9 (by rw [hOd5]; exact fun e => hod e.symm))
            have HL9 := Lib.hid (HL5.out.ext hx9 (by rw [hOb5]; exact fun e => hol e.symm))
            have k6 : w9.cell? ⟨w.heap.size, 0, none⟩ = some (.int .i64 kp) := HL9.out.cell 0
            clear hx9 hf9 b0 b1 r0 r1 r2 r3 r4 HRUN HX5 HL5 HB5 k0
            have HLF : Hid (lossF D.kept D.pend kp (mn : Int) = (runs D.kept (D.pend.take k)).run (tornOp op (mn : Int))) := by
              show _ = _
              unfold lossF
              rw [if_neg (by have := HKP1.out; omega)]
              have hkk2 : kp.toNat = k := by have := HKP1.out; omega
              rw [hkk2, HGET.out]
              simp only
              rw [if_pos HTT.out]
            obtain ⟨L, hL, _⟩ := HF9.out.ex
            obtain ⟨es, clock, hm, _⟩ := hL
            have HM := Lib.hid hm
            have HFIN : Hid (∀ w6, (w9.alloc (.map es clock)).grownBy w6 (some d) → Blk d 63 (devCs lm w9.heap.size none 0 { D with kept := lossF D.kept D.pend kp (mn : Int), now := lossF D.kept D.pend kp (mn : Int), pend := [] }) w6 → DevP d g w { D with kept := lossF D.kept D.pend kp (mn : Int), now := lossF D.kept D.pend kp (mn : Int), pend := [] } w6) := by
              intro w6 hg hB
              have hf := HF9.out
              rw [← HLF.out] at hf
              exact decide_end HB.out HI.out HX9.out HO.out hf HM.out hg hB
            have HBA := Lib.hid (HB9.out.alloc (.map es clock))
            have HWS : Hid (w9.heap.size = w9.heap.size) := rfl
            clear hm
            go_wp2_with fail
            skip
            refine (mapsClone_any lm es clock _ HM.out).mono ?_
            rintro e w6 ⟨rfl, rfl⟩
            have d0 : (w9.alloc (.map es clock)).cell? ⟨d, 0, none⟩ = some (.map (some km)) := HBA.out.cell 0
            have d1 : (w9.alloc (.map es clock)).cell? ⟨d, 1, none⟩ = some (.map (some nm)) := HBA.out.cell 1
            have d2 : (w9.alloc (.map es clock)).cell? ⟨d, 2, none⟩ = some (.slice (some ⟨b, off, none⟩) D.pend.length cap) := HBA.out.cell 2
            have dz := HBA.out.fz
            go_wp2_with fail
            go_end0
            refine ⟨rfl, HFIN.out _ (grown012 _ d _ _ _) ?_⟩
            have := ((HBA.out.set 0 (.map (some lm))).set 1 (.map (some w9.heap.size))).set 2 (.slice none 0 0)
            simpa [devCs] using this
          · skip
            have hml : op.bytes.length ≤ op.bytes.length := by omega
            have htl : (tornOp op tn).bytes.length = op.bytes.length := by
              show (op.bytes.take tn.toNat).length = op.bytes.length
              rw [List.length_take]; omega
            obtain ⟨i0, hi0, hy0, hy1, hy2⟩ := info_parts Try.infoU8
            have hbc : op.bytes.length ≤ cb := by
              obtain ⟨A', c', he, q1, _⟩ := HBA.out.ex
              injection he with _ _ e3
              omega
            have hcut := run_cut_h (P := Try.prog) Try.underlying37 hi0 Ab op.bytes.length cb op.bytes.length (by omega)
            have hx5 := Ext.box (fun _ => False) gr wr (.cells #[.func (.func (fidOf op.kind)) #[] #[], .string op.name, .string op.to, .slice Ab op.bytes.length cb, .bool true] 96)
            have HX5 := Lib.hid (HXA.out.trans (hx5.imp (fun _ h => h.elim)))
            have HL5 := Lib.hid (HL3.out.ext hx5 (fun h => h))
            have HB5 := Lib.hid (HB3.out.ext hx5 (fun h => h))
            have hOb5 := (hx5.own _ HL3.out.lt).trans hOb3
            have hOd5 := (hx5.own _ HB3.out.lt).trans hOd3
            have HRUN : Hid (Calls Try.prog (fidOf op.kind) #[.map (some lm), .agg #[.func (.func (fidOf op.kind)) #[] #[], .string op.name, .string op.to, .slice Ab op.bytes.length cb, .bool true]] (wr.alloc (.cells #[.func (.func (fidOf op.kind)) #[] #[], .string op.name, .string op.to, .slice Ab op.bytes.length cb, .bool true] 96)) (FilesP o lm (gr.box wr.heap.size) (wr.alloc (.cells #[.func (.func (fidOf op.kind)) #[] #[], .string op.name, .string op.to, .slice Ab op.bytes.length cb, .bool true] 96)) ((runs D.kept (D.pend.take k)).run (tornOp op tn)))) := by
              have hbt : BytesAt gr wr (.slice Ab op.bytes.length cb) (tornOp op tn).bytes := by
                have h1 := HBA.out.take hml
                have h2 : op.bytes.take op.bytes.length = op.bytes.take tn.toNat := by
                  rw [List.take_length, List.take_of_length_le (by omega)]
                rw [h2] at h1
                exact h1
              have hft : Fits (runs D.kept (D.pend.take k)) (tornOp op tn) := by
                obtain ⟨f1, f2⟩ := HFT.out
                have hle : (op.bytes.take tn.toNat).length ≤ op.bytes.length := by rw [List.length_take]; omega
                refine ⟨fun h => Nat.le_trans hle (f1 h), fun h => ?_⟩
                have := f2 h
                show ((runs D.kept (D.pend.take k)).get op.name ++ op.bytes.take tn.toNat).length ≤ _
                rw [List.length_append] at this ⊢
                omega
              have := run_any o lm (gr.box wr.heap.size) _ (tornOp op tn) Ab cb (wr.alloc (.cells #[.func (.func (fidOf op.kind)) #[] #[], .string op.name, .string op.to, .slice Ab op.bytes.length cb, .bool true] 96)) (HF3.out.ext hx5 (fun h => h)) (by rw [htl]; exact hbt.ext hx5) hft
              rw [htl] at this
              have hq : (tornOp op tn).tears = true := hte1
              rw [hq] at this
              exact this
            have HTT : Hid (op.tears = true ∧ 0 ≤ tn) := ⟨hte1, htn1⟩
            have HKP1 := Lib.hid hkp1
            have hkb : ((k : Int) == kp) = true := beq_iff_eq.2 hkp1
            have k0 : (wr.alloc (.cells #[.func (.func (fidOf op.kind)) #[] #[], .string op.name, .string op.to, .slice Ab op.bytes.length cb, .bool true] 96)).cell? ⟨w.heap.size, 0, none⟩ = some (.int .i64 kp) := HL5.out.cell 0
            rw [hte1] at r4 b0 b1
            clear hx5 hkp1 htl HFT HRS HX4 HF4 HB4 HBA4 HBX4 HL4 hte1
            have htn0 : decide (0 ≤ tn) = true := decide_eq_true htn1
            generalize op.bytes.length = bl at *
            go_wp2_with fail
            refine HRUN.out.mono ?_
            rintro e w9 ⟨rfl, g9, hx9, hf9, _⟩
            have HX9 := Lib.hid (HX5.out.trans hx9)
            have HF9 := Lib.hid hf9
            have HB9 := Lib.hid (HB5.out.ext hx9 (by rw [hOd5]; exact fun e => hod e.symm))
            have HL9 := Lib.hid (HL5.out.ext hx9 (by rw [hOb5]; exact fun e => hol e.symm))
            have k6 : w9.cell? ⟨w.heap.size, 0, none⟩ = some (.int .i64 kp) := HL9.out.cell 0
            clear hx9 hf9 b0 b1 r0 r1 r2 r3 r4 HRUN HX5 HL5 HB5 k0
            have HLF : Hid (lossF D.kept D.pend kp tn = (runs D.kept (D.pend.take k)).run (tornOp op tn)) := by
              show _ = _
              unfold lossF
              rw [if_neg (by have := HKP1.out; omega)]
              have hkk2 : kp.toNat = k := by have := HKP1.out; omega
              rw [hkk2, HGET.out]
              simp only
              rw [if_pos HTT.out]
            obtain ⟨L, hL, _⟩ := HF9.out.ex
            obtain ⟨es, clock, hm, _⟩ := hL
            have HM := Lib.hid hm
            have HFIN : Hid (∀ w6, (w9.alloc (.map es clock)).grownBy w6 (some d) → Blk d 63 (devCs lm w9.heap.size none 0 { D with kept := lossF D.kept D.pend kp tn, now := lossF D.kept D.pend kp tn, pend := [] }) w6 → DevP d g w { D with kept := lossF D.kept D.pend kp tn, now := lossF D.kept D.pend kp tn, pend := [] } w6) := by
              intro w6 hg hB
              have hf := HF9.out
              rw [← HLF.out] at hf
              exact decide_end HB.out HI.out HX9.out HO.out hf HM.out hg hB
            have HBA := Lib.hid (HB9.out.alloc (.map es clock))
            have HWS : Hid (w9.heap.size = w9.heap.size) := rfl
            clear hm
            go_wp2_with fail
            skip
            refine (mapsClone_any lm es clock _ HM.out).mono ?_
            rintro e w6 ⟨rfl, rfl⟩
            have d0 : (w9.alloc (.map es clock)).cell? ⟨d, 0, none⟩ = some (.map (some km)) := HBA.out.cell 0
            have d1 : (w9.alloc (.map es clock)).cell? ⟨d, 1, none⟩ = some (.map (some nm)) := HBA.out.cell 1
            have d2 : (w9.alloc (.map es clock)).cell? ⟨d, 2, none⟩ = some (.slice (some ⟨b, off, none⟩) D.pend.length cap) := HBA.out.cell 2
            have dz := HBA.out.fz
            go_wp2_with fail
            go_end0
            refine ⟨rfl, HFIN.out _ (grown012 _ d _ _ _) ?_⟩
            have := ((HBA.out.set 0 (.map (some lm))).set 1 (.map (some w9.heap.size))).set 2 (.slice none 0 0)
            simpa [devCs] using this
        · have hnt : ¬ (kp = (k : Int) ∧ op.tears = true ∧ 0 ≤ tn) := fun h => htt ⟨h.1.symm, h.2⟩
          have hge : decide (kp ≤ (k : Int)) = true := by simp; omega
          have HLF : Hid (lossF D.kept D.pend kp tn = runs D.kept (D.pend.take k)) := by
            show _ = _
            unfold lossF
            by_cases h1 : kp < 0
            · rw [if_pos h1]
              rcases hkk with h | h
              · subst h; simp [runs]
              · omega
            · rw [if_neg h1]
              have hkk2 : kp.toNat = k := by omega
              rw [hkk2, HGET.out]
              simp only
              rw [if_neg (fun h => hnt ⟨by omega, h⟩)]
          obtain ⟨L, hL, _⟩ := HF4.out.ex
          obtain ⟨es, clock, hm, _⟩ := hL
          have HM := Lib.hid hm
          have HFIN : Hid (∀ w6, ((wr.alloc (.cells #[.func (.func (fidOf op.kind)) #[] #[], .string op.name, .string op.to, .slice Ab op.bytes.length cb, .bool op.tears] 96)).alloc (.map es clock)).grownBy w6 (some d) → Blk d 63 (devCs lm (wr.alloc (.cells #[.func (.func (fidOf op.kind)) #[] #[], .string op.name, .string op.to, .slice Ab op.bytes.length cb, .bool op.tears] 96)).heap.size none 0 { D with kept := lossF D.kept D.pend kp tn, now := lossF D.kept D.pend kp tn, pend := [] }) w6 → DevP d g w { D with kept := lossF D.kept D.pend kp tn, now := lossF D.kept D.pend kp tn, pend := [] } w6) := by
            intro w6 hg hB
            have hf := HF4.out
            rw [← HLF.out] at hf
            exact decide_end HB.out HI.out HX4.out HO.out hf HM.out hg hB
          have HBA := Lib.hid (HB4.out.alloc (.map es clock))
          have HWS : Hid ((wr.alloc (.cells #[.func (.func (fidOf op.kind)) #[] #[], .string op.name, .string op.to, .slice Ab op.bytes.length cb, .bool op.tears] 96)).heap.size = (wr.alloc (.cells #[.func (.func (fidOf op.kind)) #[] #[], .string op.name, .string op.to, .slice Ab op.bytes.length cb, .bool op.tears] 96)).heap.size) := rfl
          clear hm
          clear HFT HRS HGET hent
          by_cases h1 : (k : Int) = kp
          · have h1' : ((k : Int) == kp) = true := beq_iff_eq.2 h1
            have htn : op.tears = true → tn < 0 := fun h => by
              rcases Int.lt_or_le tn 0 with h3 | h3
              · exact h3
              · exact absurd ⟨h1, h, h3⟩ htt
            clear htt hnt h1
            generalize op.tears = te at *
            cases te
            · clear htn
              go_wp2_with fail
              generalize (wr.alloc (.cells #[.func (.func (fidOf op.kind)) #[] #[], .string op.name, .string op.to, .slice Ab op.bytes.length cb, .bool false] 96)) = w4 at *
              refine (mapsClone_any lm es clock _ HM.out).mono ?_
              rintro e w6 ⟨rfl, rfl⟩
              have d0 : (w4.alloc (.map es clock)).cell? ⟨d, 0, none⟩ = some (.map (some km)) := HBA.out.cell 0
              have d1 : (w4.alloc (.map es clock)).cell? ⟨d, 1, none⟩ = some (.map (some nm)) := HBA.out.cell 1
              have d2 : (w4.alloc (.map es clock)).cell? ⟨d, 2, none⟩ = some (.slice (some ⟨b, off, none⟩) D.pend.length cap) := HBA.out.cell 2
              have dz := HBA.out.fz
              go_wp2_with fail
              go_end0
              refine ⟨rfl, HFIN.out _ (grown012 _ d _ _ _) ?_⟩
              have := ((HBA.out.set 0 (.map (some lm))).set 1 (.map (some w4.heap.size))).set 2 (.slice none 0 0)
              simpa [devCs] using this
            · have htn1 := htn rfl
              clear htn
              go_wp2_with fail
              generalize (wr.alloc (.cells #[.func (.func (fidOf op.kind)) #[] #[], .string op.name, .string op.to, .slice Ab op.bytes.length cb, .bool true] 96)) = w4 at *
              refine (mapsClone_any lm es clock _ HM.out).mono ?_
              rintro e w6 ⟨rfl, rfl⟩
              have d0 : (w4.alloc (.map es clock)).cell? ⟨d, 0, none⟩ = some (.map (some km)) := HBA.out.cell 0
              have d1 : (w4.alloc (.map es clock)).cell? ⟨d, 1, none⟩ = some (.map (some nm)) := HBA.out.cell 1
              have d2 : (w4.alloc (.map es clock)).cell? ⟨d, 2, none⟩ = some (.slice (some ⟨b, off, none⟩) D.pend.length cap) := HBA.out.cell 2
              have dz := HBA.out.fz
              go_wp2_with fail
              go_end0
              refine ⟨rfl, HFIN.out _ (grown012 _ d _ _ _) ?_⟩
              have := ((HBA.out.set 0 (.map (some lm))).set 1 (.map (some w4.heap.size))).set 2 (.slice none 0 0)
              simpa [devCs] using this
          · have h1' : ((k : Int) == kp) = false := beq_eq_false_iff_ne.2 h1
            clear htt hnt h1
            go_wp2_with fail
            generalize (wr.alloc (.cells #[.func (.func (fidOf op.kind)) #[] #[], .string op.name, .string op.to, .slice Ab op.bytes.length cb, .bool op.tears] 96)) = w4 at *
            refine (mapsClone_any lm es clock _ HM.out).mono ?_
            rintro e w6 ⟨rfl, rfl⟩
            have d0 : (w4.alloc (.map es clock)).cell? ⟨d, 0, none⟩ = some (.map (some km)) := HBA.out.cell 0
            have d1 : (w4.alloc (.map es clock)).cell? ⟨d, 1, none⟩ = some (.map (some nm)) := HBA.out.cell 1
            have d2 : (w4.alloc (.map es clock)).cell? ⟨d, 2, none⟩ = some (.slice (some ⟨b, off, none⟩) D.pend.length cap) := HBA.out.cell 2
            have dz := HBA.out.fz
            go_wp2_with fail
            go_end0
            refine ⟨rfl, HFIN.out _ (grown012 _ d _ _ _) ?_⟩
            have := ((HBA.out.set 0 (.map (some lm))).set 1 (.map (some w4.heap.size))).set 2 (.slice none 0 0)
            simpa [devCs] using this
    · obtain rfl : k = D.pend.length := by omega
      have HLF : Hid (lossF D.kept D.pend kp tn = runs D.kept (D.pend.take D.pend.length)) := by
        show _ = _
        rw [List.take_length]
        unfold lossF
        rcases hkk with h | h
        · exact absurd h HNE.out
        · rw [if_neg (by omega), List.getElem?_eq_none (by omega)]
      obtain ⟨L, hL, _⟩ := HF3.out.ex
      obtain ⟨es, clock, hm, _⟩ := hL
      have HM := Lib.hid hm
      have HFIN : Hid (∀ w6, (wr.alloc (.map es clock)).grownBy w6 (some d) → Blk d 63 (devCs lm wr.heap.size none 0 { D with kept := lossF D.kept D.pend kp tn, now := lossF D.kept D.pend kp tn, pend := [] }) w6 → DevP d g w { D with kept := lossF D.kept D.pend kp tn, now := lossF D.kept D.pend kp tn, pend := [] } w6) := by
        intro w6 hg hB
        have hf := HF3.out
        rw [← HLF.out] at hf
        exact decide_end HB.out HI.out HXA.out HO.out hf HM.out hg hB
      have HBA := Lib.hid (HB3.out.alloc (.map es clock))
      have HWS : Hid (wr.heap.size = wr.heap.size) := rfl
      clear hm
      go_wp2_with fail
      refine (mapsClone_any lm es clock _ HM.out).mono ?_
      rintro e w6 ⟨rfl, rfl⟩
      have d0 : (wr.alloc (.map es clock)).cell? ⟨d, 0, none⟩ = some (.map (some km)) := HBA.out.cell 0
      have d1 : (wr.alloc (.map es clock)).cell? ⟨d, 1, none⟩ = some (.map (some nm)) := HBA.out.cell 1
      have d2 : (wr.alloc (.map es clock)).cell? ⟨d, 2, none⟩ = some (.slice A D.pend.length cap) := HBA.out.cell 2
      have dz := HBA.out.fz
      go_wp2_with fail
      go_end0
      refine ⟨rfl, HFIN.out _ (grown012 _ d _ _ _) ?_⟩
      have := ((HBA.out.set 0 (.map (some lm))).set 1 (.map (some wr.heap.size))).set 2 (.slice none 0 0)
      simpa [devCs] using this
end Go.Proofs.Ythjbaafbkalomaa
