/-
  The base for seats without the journal (joined by a program of ours from our own texts).
-/
import Derived.Test.YtjjdffafibonhaaGreatDoorGenH
import Derived.Laws.EntriesVeiled
import Derived.Test.YtjjdffafibonhaaGreatDoorGenC
namespace Go.Proofs.YtjjdffafibonhaaGreatDoor
section
open Go.RowKit

/-- The new blocks of owner o become d's; one more block is d's. -/
def Gh.reown (g : Gh) (o d b : Nat) : Gh := ⟨fun k => if k = b then 0 else g.F k, fun k => if k = b then d else if g.O k = o then d else g.O k⟩
theorem App.reown {e : TypeId} {sz o d : Nat} {g : Gh} {w : World} {A : Option Addr} {n cap : Nat} {xs : List Value} (h : App e sz o g w A n cap xs) (ob : Obj) : App e sz d (g.reown o d w.heap.size) (w.alloc ob) A n cap xs := by
  refine ⟨⟨h.rd.len, fun h0 => ?_⟩, h.le, h.mx, h.nz, fun hlt => ?_⟩
  · obtain ⟨b, off, hA, hF, hb, hc⟩ := h.rd.at_ h0
    refine ⟨b, off, hA, ?_, by simp; omega, fun j u hu => ?_⟩
    · simp only [Gh.reown]; rw [if_neg (by omega)]; exact hF
    · obtain ⟨cs, e, fr, q1, q2⟩ := cell_block (hc j u hu)
      rw [cell_at ((Below.heap_alloc w ob b hb).trans q1)]
      exact q2
  · obtain ⟨h0, b, cs, hA, hO, hF, hh, hs⟩ := h.sp hlt
    have hb := block_lt hh
    refine ⟨h0, b, cs, hA, ?_, ?_, (Below.heap_alloc w ob b hb).trans hh, hs⟩
    · simp only [Gh.reown]; rw [if_neg (by omega), if_pos hO]
    · simp only [Gh.reown]; rw [if_neg (by omega)]; exact hF
theorem decide_end {d km nm lm o : Nat} {g gr : Gh} {w wr w1 : World} {A : Option Addr} {cap : Nat} {xs : List Value} {E : Dev} {f : Fl} {es : Array MapEntry} {clock : Nat} (hb : Blk d 73 (devCs km nm A cap E) w) (hi : DevIn g w d km nm A cap xs E) (hx : Ext (· = o) g w gr wr) (ho : ∀ b, b < w.heap.size → g.O b ≠ o) (hf : FlAp o gr wr lm f) (hm : wr.heap[lm]? = some (.map es clock))
    (hg : (wr.alloc (.map es clock)).grownBy w1 (some d)) (hB : Blk d 73 (devCs lm wr.heap.size none 0 { E with kept := f, now := f, pend := [] }) w1) : DevP d g w { E with kept := f, now := f, pend := [] } w1 := by
  have hdl := hb.lt
  have hsz := hx.size
  have hlml := hf.lt
  have hOd : gr.O d = d := (hx.own d hdl).trans hi.O
  have hod : o ≠ d := fun e => ho d hdl (by rw [hi.O, e])
  have hFd : gr.F d = 0 := hx.zero d hdl hi.F
  have hx1 : Ext (fun _ => False) g w (gr.reown o d wr.heap.size) (wr.alloc (.map es clock)) := by
    refine ((hx.alloc (.map es clock)).up (fun b hb' => ?_) (fun b hb' => ?_)).more (fun b hb' e => absurd e (ho b hb'))
    · simp only [Gh.reown]; rw [if_neg (by omega)]
    · simp only [Gh.reown]; rw [if_neg (by omega), if_neg]
      rw [hx.own b hb']; exact ho b hb'
  obtain ⟨L, hL, hn, h3, h4, h5⟩ := hf.ex
  have hnd : lm ≠ d := fun e => by
    obtain ⟨es', cl', q, _⟩ := hL
    have := hb.ext hx (by rw [hi.O]; exact fun e => hod e.symm)
    rw [← e] at this
    unfold Blk at this
    rw [q] at this
    cases this
  have hF1 : (gr.reown o d wr.heap.size).F d = 0 := by simp only [Gh.reown]; rw [if_neg (by omega)]; exact hFd
  have hO1 : (gr.reown o d wr.heap.size).O d = d := by simp only [Gh.reown]; rw [if_neg (by omega), if_neg (by rw [hOd]; exact fun e => hod e.symm)]; exact hOd
  have hOl : (gr.reown o d wr.heap.size).O lm = d := by simp only [Gh.reown]; rw [if_neg (by omega), if_pos hf.O]
  have hFl : (gr.reown o d wr.heap.size).F lm = 0 := by simp only [Gh.reown]; rw [if_neg (by omega)]; exact hf.F
  have hON : (gr.reown o d wr.heap.size).O wr.heap.size = d := by simp [Gh.reown]
  have hFN : (gr.reown o d wr.heap.size).F wr.heap.size = 0 := by simp [Gh.reown]
  have hLl : MapIs lm L (wr.alloc (.map es clock)) := hL.of_block (Below.heap_alloc wr _ lm hlml)
  have hLn := hL.clone hm
  have hnow : FlAp d (gr.reown o d wr.heap.size) (wr.alloc (.map es clock)) wr.heap.size f :=
    ⟨⟨L, hLn, hn, h3, fun k v hl => let ⟨l, A, cap, e1, e2, e3, e4⟩ := h4 k v hl; ⟨l, A, cap, e1, e2, e3, e4.reown _⟩, h5⟩, hON, hFN⟩
  have hkept : FlRd (gr.reown o d wr.heap.size) (wr.alloc (.map es clock)) lm f := by
    refine ⟨L, hLl, hn, h3, fun k v hl => ?_⟩
    obtain ⟨l, A, cap, e1, e2, _, e4⟩ := h4 k v hl
    have := e4.reown (d := d) (.map es clock)
    exact ⟨l, e1, A, cap, e2, this.le, this.mx, fun h => (this.nz h).1, this.rd⟩
  generalize gr.reown o d wr.heap.size = g1 at *
  have hx2 : Ext (· = d) g1 (wr.alloc (.map es clock)) g1 w1 := (Ext.refl _ _ _).one hg (fun _ => hO1) hF1
  have hblk : ∀ b, b < wr.heap.size + 1 → b ≠ d → w1.heap[b]? = (wr.alloc (.map es clock)).heap[b]? := fun b hb' hne => hg.block b (by simpa using hb') (fun e => hne (by injection e))
  refine ⟨g1, (hx1.imp (fun _ h => h.elim)).trans hx2, lm, wr.heap.size, none, 0, [], hB, by omega, hOl, hFl, hkept.ext hx2 (hblk _ (by omega) hnd), ?_, App.nil _ _ _ _ _, trivial, hO1, hF1, hi.f0, hi.f1⟩
  exact hnow.same hx2 fun k hk ho' => ⟨hblk k (by simpa using hk) (fun e => by
      subst e
      rcases ho' with ho' | ho'
      · exact ho' hF1
      · omega), rfl⟩

theorem grown012 (x : World) (b : Nat) (u v y : Value) : x.grownBy (((x.setCell ⟨b, 0, none⟩ u).setCell ⟨b, 1, none⟩ v).setCell ⟨b, 2, none⟩ y) (some b) := by
  have h1 := grownBy_setCell x ⟨b, 0, none⟩ u
  have h2 := grownBy_setCell (x.setCell ⟨b, 0, none⟩ u) ⟨b, 1, none⟩ v
  have h3 := grownBy_setCell ((x.setCell ⟨b, 0, none⟩ u).setCell ⟨b, 1, none⟩ v) ⟨b, 2, none⟩ y
  exact ⟨h3.os.trans (h2.os.trans h1.os), h3.tape.trans (h2.tape.trans h1.tape), h3.output.trans (h2.output.trans h1.output), Nat.le_trans h1.size (Nat.le_trans h2.size h3.size), fun k hk hne => (h3.block k (by have := h1.size; have := h2.size; omega) hne).trans ((h2.block k (by have := h1.size; omega) hne).trans (h1.block k hk hne))⟩
def fidOf (k : Nat) : FuncId := if k = 0 then 132 else if k = 1 then 132 else 132
theorem fnV_fid (k : Nat) : fnV k = .func (.func (fidOf k)) #[] #[] := by
  unfold fnV fidOf
  split
  · rfl
  · split <;> rfl
theorem fid_enter (k : Nat) (args : Array Value) (w : World) : (callFunc (fidOf k) args).run Tryz.prog w = .ok (.enter (fidOf k) args) w := by
  unfold fidOf
  split
  · exact run_enters Tryz.func132 (by kernel_rfl) (by kernel_rfl) args w
  · split
    · exact run_enters Tryz.func132 (by kernel_rfl) (by kernel_rfl) args w
    · exact run_enters Tryz.func132 (by kernel_rfl) (by kernel_rfl) args w
/-- An operation that fits into the files. -/
def Fits (f : Fl) (o : POp) : Prop := (o.kind = 0 → o.bytes.length ≤ 8388608) ∧ (o.kind ≠ 0 → (f.get o.name ++ o.bytes).length ≤ 8388608)
theorem run_any (o nm : Nat) (g : Gh) (f : Fl) (p : POp) (A : Option Addr) (c : Nat) (w : World) (hf : FlAp o g w nm f) (hr : BytesAt g w (.slice A p.bytes.length c) p.bytes) (hp : Fits f p) :
    Calls Tryz.prog (fidOf p.kind) #[.map (some nm), .agg #[.func (.func (fidOf p.kind)) #[] #[], .string p.name, .string p.to, .slice A p.bytes.length c, .bool p.tears]] w (FilesP o nm g w (f.run p)) := by
  obtain ⟨_, hz, hrd⟩ := hr.rd
  unfold Fl.run fidOf
  by_cases h0 : p.kind = 0
  · rw [if_pos h0, if_pos h0]
    exact create_any o nm g f p.name p.to p.tears _ A c p.bytes w hf hrd hz (hp.1 h0)
  · rw [if_neg h0, if_neg h0]
    by_cases h1 : p.kind = 1
    · rw [if_pos h1]
      exact create_any o nm g f p.name p.to p.tears _ A c p.bytes w hf hrd hz (by have := hp.2 h0; rw [List.length_append] at this; omega)
    · rw [if_neg h1]
      exact create_any o nm g f p.name p.to p.tears _ A c p.bytes w hf hrd hz (by have := hp.2 h0; rw [List.length_append] at this; omega)
def runs (f : Fl) (l : List POp) : Fl := l.foldl Fl.run f
theorem runs_snoc (f : Fl) (l : List POp) (k : Nat) (h : k < l.length) : runs f (l.take (k + 1)) = (runs f (l.take k)).run l[k] := by
  unfold runs
  rw [List.take_add_one, List.getElem?_eq_getElem h]
  show List.foldl Fl.run f (l.take k ++ [l[k]]) = _
  rw [List.foldl_append]
  rfl
def tornOp (o : POp) (t : Int) : POp := { o with bytes := o.bytes.take t.toNat }
/-- What the loss leaves of the operations from the k-th on. -/
def lossF (f : Fl) (l : List POp) (kp tn : Int) : Fl :=
  if kp < 0 then f else
  match l[kp.toNat]? with
  | none => runs f l
  | some o => if o.tears = true ∧ 0 ≤ tn then (runs f (l.take kp.toNat)).run (tornOp o tn) else runs f (l.take kp.toNat)
def lossD (D : Dev) (kp tn : Int) : Dev := if D.pend.length = 0 then D else { D with kept := lossF D.kept D.pend kp tn, now := lossF D.kept D.pend kp tn, pend := [] }

theorem OpsR.get {g : Gh} {w : World} : ∀ {xs : List Value} {ops : List POp}, OpsR g w xs ops → ∀ {k : Nat} (hk : k < ops.length), ∃ b, xs[k * 5]? = some (fnV ops[k].kind) ∧ xs[k * 5 + 1]? = some (.string ops[k].name) ∧ xs[k * 5 + 2]? = some (.string ops[k].to) ∧ xs[k * 5 + 3]? = some b ∧ xs[k * 5 + 4]? = some (.bool ops[k].tears) ∧ BytesAt g w b ops[k].bytes
  | [], [], _, k, hk => by simp at hk
  | _ :: _ :: _ :: b :: _ :: _, _ :: _, ⟨h1, h2⟩, 0, _ => by
    obtain ⟨e1, e2, e3, e4, e5⟩ := h1
    exact ⟨b, by simp [e1], by simp [e2], by simp [e3], rfl, by simp [e4], e5⟩
  | _ :: _ :: _ :: _ :: _ :: _, _ :: _, ⟨_, h2⟩, k + 1, hk => by
    obtain ⟨b, h⟩ := OpsR.get h2 (k := k) (by simpa using hk)
    refine ⟨b, ?_⟩
    have e : (k + 1) * 5 = k * 5 + 5 := by omega
    rw [e]
    simpa using h

set_option maxRecDepth 100000 in
set_option maxHeartbeats 12800000 in
theorem decide_any (d : Nat) (g : Gh) (w : World) (D : Dev) (hD : DevAt g w d D) (kp tn : Int) (hne : D.pend.length ≠ 0) (hpl : D.pend.length ≤ 1000000) (hfit : ∀ k (hk : k < D.pend.length), Fits (runs D.kept (D.pend.take k)) D.pend[k]) (hlen : ∀ k l, D.kept.m k = some l → l.length ≤ 8388608) (hn : D.kept.n ≤ 1000000) (hk0 : -9223372036854775808 ≤ kp) (hk1 : kp ≤ 9223372036854775807) :
    Calls Tryz.prog 43 #[.pointer (some ⟨d, 0, none⟩), .agg #[.int .i64 kp, .int .i64 tn]] w fun e w' => e = .returned (.tuple #[]) ∧ DevP d g w (lossD D kp tn) w' := by
  have HDD : Hid (lossD D kp tn = { D with kept := lossF D.kept D.pend kp tn, now := lossF D.kept D.pend kp tn, pend := [] }) := by show _ = _; unfold lossD; rw [if_neg hne]
  rw [HDD.out]
  obtain ⟨km, nm, A, cap, xs, hb, hi⟩ := hD
  have hx0 := Ext.box (fun _ => False) g w (.cells #[.int .i64 kp, .int .i64 tn] 42)
  have hb1 := hb.ext hx0 (fun h => h)
  have hlb : Blk w.heap.size 42 [.int .i64 kp, .int .i64 tn] (w.alloc (.cells #[.int .i64 kp, .int .i64 tn] 42)) := Blk.new w 42 [.int .i64 kp, .int .i64 tn]
  have hOb : (g.box w.heap.size).O w.heap.size = w.heap.size := Gh.box_O _ _
  obtain ⟨o, ho⟩ := owner_new (g.box w.heap.size) (w.heap.size + 1)
  have hol : o ≠ w.heap.size := fun e => ho w.heap.size (by omega) (by rw [hOb, e])
  have HO : Hid (∀ b, b < w.heap.size → g.O b ≠ o) := by
    intro b hb' e
    exact ho b (by omega) (by rw [← e]; simp only [Gh.box]; rw [if_neg (by omega)])
  have hod : o ≠ d := fun e => HO.out d hb.lt (by rw [hi.O, e])
  have c2 : (w.alloc (.cells #[.int .i64 kp, .int .i64 tn] 42)).cell? ⟨d, 2, none⟩ = some (.slice A D.pend.length cap) := hb1.cell 2
  have c0 : (w.alloc (.cells #[.int .i64 kp, .int .i64 tn] 42)).cell? ⟨d, 0, none⟩ = some (.map (some km)) := hb1.cell 0
  have hne' : ((D.pend.length : Int) == 0) = false := beq_eq_false_iff_ne.2 (by omega)
  have hkm : km ≠ w.heap.size := by have := hi.kept.lt; omega
  have hkp := hi.kept.ext hx0 (by exact Below.heap_alloc w _ km hi.kept.lt)
  have HKP := Lib.hid hkp
  have HX0 := Lib.hid hx0
  have HB := Lib.hid hb
  have HI := Lib.hid hi
  have HB1 := Lib.hid hb1
  have HLB := Lib.hid hlb
  have HRD := Lib.hid (hi.pend.rd.ext hx0)
  have HOPS := Lib.hid (hi.ops.ext hx0)
  have HFIT := Lib.hid hfit
  have HLEN := Lib.hid hlen
  have hOd : (g.box w.heap.size).O d = d := by simp only [Gh.box]; rw [if_neg (by have := hb.lt; omega)]; exact hi.O
  have HNE := Lib.hid hne
  clear hb hi hx0 hb1 hlb ho hkp hfit hlen hne HDD
  generalize g.box w.heap.size = g1 at *
  go_enter Tryz.func43, Tryz.ntmps43
  go_wp2_with fail
  refine (copied_any o km g1 D.kept _ HKP.out HLEN.out hn).mono ?_
  rintro e w2 ⟨lm, g2, rfl, hlm, hbel, hF2, hO2, hf2⟩
  have hx2 : Ext (fun _ => False) g1 (w.alloc (.cells #[.int .i64 kp, .int .i64 tn] 42)) g2 w2 := (Ext.of_below (fun _ => False) g1 hbel).up hF2 hO2
  have HX2 := Lib.hid (HX0.out.trans hx2)
  have HB2 := Lib.hid (HB1.out.ext hx2 (fun h => h))
  have HL2 := Lib.hid (HLB.out.ext hx2 (fun h => h))
  have HRD2 := Lib.hid (HRD.out.ext hx2)
  have HOPS2 := Lib.hid (HOPS.out.ext hx2)
  have HF2 := Lib.hid hf2
  have hOb2 := (hx2.own _ HLB.out.lt).trans hOb
  have hOd2 := (hx2.own _ HB1.out.lt).trans hOd
  clear hx2 hbel hF2 hO2 hf2 HX0 HB1 HLB HRD HOPS HKP c0 c2 hOb hOd hkm hlm
  have c2 : w2.cell? ⟨d, 2, none⟩ = some (.slice A D.pend.length cap) := HB2.out.cell 2
  go_wp2_with fail
  go_loopw [23] (fun i wr => ∃ (k : Nat) (gr : Gh), k ≤ D.pend.length ∧ i = .int .i64 k ∧ (k = 0 ∨ (k : Int) ≤ kp) ∧ Ext (· = o) g w gr wr ∧ Ext (· = o) g2 w2 gr wr ∧ FlAp o gr wr lm (runs D.kept (D.pend.take k))) (fun i _ => D.pend.length - (intOf i).toNat)
  case atStart => exact ⟨0, g2, Nat.zero_le _, rfl, .inl rfl, HX2.out.imp (fun _ h => h.elim), Ext.refl _ _ _, HF2.out⟩
  case round =>
    obtain ⟨k, gr, hk, rfl, hkk, hxa, hxb, hf⟩ := hrel
    have HXA := Lib.hid hxa
    have HXB := Lib.hid hxb
    have HB3 := Lib.hid (HB2.out.ext hxb (by rw [hOd2]; exact fun e => hod e.symm))
    have HL3 := Lib.hid (HL2.out.ext hxb (by rw [hOb2]; exact fun e => hol e.symm))
    have HRD3 := Lib.hid (HRD2.out.ext hxb)
    have HOPS3 := Lib.hid (HOPS2.out.ext hxb)
    have HF3 := Lib.hid hf
    have hOb3 := (hxb.own _ HL2.out.lt).trans hOb2
    have hOd3 := (hxb.own _ HB2.out.lt).trans hOd2
    clear hxa hxb hf c2
    by_cases hlt : k < D.pend.length
    · obtain ⟨bvl, e0, e1, e2, e3, e4, hba⟩ := HOPS3.out.get hlt
      obtain ⟨b, off, rfl, _, _, hc⟩ := HRD3.out.at_ (by omega)
      have r0 := hc _ _ e0
      have r1 := hc _ _ e1
      have r2 := hc _ _ e2
      have r3 := hc _ _ e3
      have r4 := hc _ _ e4
      rw [fnV_fid] at r0
      rw [← Nat.add_assoc] at r1 r2 r3 r4
      obtain ⟨Ab, cb, rfl, _⟩ := hba.ex
      have HBA := Lib.hid hba
      have HFT := Lib.hid (HFIT.out k hlt)
      have hent := fid_enter D.pend[k].kind
      have HRS := Lib.hid (runs_snoc D.kept D.pend k hlt)
      clear hc e0 e1 e2 e3 e4 hba
      have HGET : Hid (D.pend[k]? = some D.pend[k]) := List.getElem?_eq_getElem hlt
      generalize D.pend[k] = op at *
      have hx4 := Ext.box (fun _ => False) gr wr (.cells #[.func (.func (fidOf op.kind)) #[] #[], .string op.name, .string op.to, .slice Ab op.bytes.length cb, .bool op.tears] 111)
      have HX4 := Lib.hid (HXA.out.trans (hx4.imp (fun _ h => h.elim)))
      have HF4 := Lib.hid (HF3.out.ext hx4 (fun h => h))
      have HL4 := Lib.hid (HL3.out.ext hx4 (fun h => h))
      have HB4 := Lib.hid (HB3.out.ext hx4 (fun h => h))
      have HBA4 := Lib.hid (HBA.out.ext hx4)
      have HBX4 : Hid (Blk wr.heap.size 111 [.func (.func (fidOf op.kind)) #[] #[], .string op.name, .string op.to, .slice Ab op.bytes.length cb, .bool op.tears] (wr.alloc (.cells #[.func (.func (fidOf op.kind)) #[] #[], .string op.name, .string op.to, .slice Ab op.bytes.length cb, .bool op.tears] 111))) := Blk.new wr 111 [.func (.func (fidOf op.kind)) #[] #[], .string op.name, .string op.to, .slice Ab op.bytes.length cb, .bool op.tears]
      have hOx4 : (gr.box wr.heap.size).O wr.heap.size = wr.heap.size := Gh.box_O _ _
      have hFx4 : (gr.box wr.heap.size).F wr.heap.size = 0 := Gh.box_F _ _
      have hOb4 := (hx4.own _ HL3.out.lt).trans hOb3
      have hOd4 := (hx4.own _ HB3.out.lt).trans hOd3
      have b0 : (wr.alloc (.cells #[.func (.func (fidOf op.kind)) #[] #[], .string op.name, .string op.to, .slice Ab op.bytes.length cb, .bool op.tears] 111)).cell? ⟨w.heap.size, 0, none⟩ = some (.int .i64 kp) := HL4.out.cell 0
      have b1 : (wr.alloc (.cells #[.func (.func (fidOf op.kind)) #[] #[], .string op.name, .string op.to, .slice Ab op.bytes.length cb, .bool op.tears] 111)).cell? ⟨w.heap.size, 1, none⟩ = some (.int .i64 tn) := HL4.out.cell 1
      have llt := HL3.out.lt
      have dlt := HB3.out.lt
      clear hx4
      by_cases hkp : (k : Int) < kp
      · have HRUN : Hid (Calls Tryz.prog (fidOf op.kind) #[.map (some lm), .agg #[.func (.func (fidOf op.kind)) #[] #[], .string op.name, .string op.to, .slice Ab op.bytes.length cb, .bool op.tears]] (wr.alloc (.cells #[.func (.func (fidOf op.kind)) #[] #[], .string op.name, .string op.to, .slice Ab op.bytes.length cb, .bool op.tears] 111)) (FilesP o lm (gr.box wr.heap.size) (wr.alloc (.cells #[.func (.func (fidOf op.kind)) #[] #[], .string op.name, .string op.to, .slice Ab op.bytes.length cb, .bool op.tears] 111)) ((runs D.kept (D.pend.take k)).run op))) := run_any o lm _ _ op Ab cb _ HF4.out HBA4.out HFT.out
        rw [← HRS.out] at HRUN
        have e1 : ((k : Int) == kp) = false := beq_eq_false_iff_ne.2 (by omega)
        have e2 : decide (kp ≤ (k : Int)) = false := by simp; omega
        generalize op.bytes.length = bl at *
        go_wp2_with fail
        refine HRUN.out.mono ?_
        rintro e w5 ⟨rfl, g5, hx5, hf5, _⟩
        have HX5 := Lib.hid (HX4.out.trans hx5)
        have HF5 := Lib.hid hf5
        have HL5 := Lib.hid (HL4.out.ext hx5 (by rw [hOb4]; exact fun e => hol e.symm))
        have HXB5 : Hid (Ext (· = o) g2 w2 g5 w5) := (HXB.out.trans ((Ext.box (fun _ => False) gr wr _).imp (fun _ h => h.elim))).trans hx5
        have k0 : w5.cell? ⟨w.heap.size, 0, none⟩ = some (.int .i64 kp) := HL5.out.cell 0
        clear hx5 hf5 b0 b1 r0 r1 r2 r3 r4 HRUN HF4 HL4 HB4 HBA4 HBX4
        go_wp2_with fail
        go_round
        case rel => exact ⟨k + 1, g5, by omega, by go_num, .inr (by omega), HX5.out, HXB5.out, HF5.out⟩
        case measure => simp [intOf]; omega
      · by_cases htt : (k : Int) = kp ∧ op.tears = true ∧ 0 ≤ tn
        · obtain ⟨hkp1, hte1, htn1⟩ := htt
          rcases (show tn ≤ (op.bytes.length : Int) ∨ (op.bytes.length : Int) < tn by omega) with hle | hgt
          · obtain ⟨mn, rfl⟩ : ∃ mn : Nat, tn = mn := ⟨tn.toNat, by omega⟩
            have hml : mn ≤ op.bytes.length := by omega
            have htl : (tornOp op (mn : Int)).bytes.length = mn := by
              show (op.bytes.take (mn : Int).toNat).length = mn
              rw [List.length_take]; omega
            obtain ⟨i0, hi0, hy0, hy1, hy2⟩ := info_parts Tryz.infoU8
            have hbc : op.bytes.length ≤ cb := by
              obtain ⟨A', c', he, q1, _⟩ := HBA.out.ex
              injection he with _ _ e3
              omega
            have hcut := run_cut_h (P := Tryz.prog) Tryz.underlying30 hi0 Ab op.bytes.length cb mn (by omega)
            have hx5 := Ext.box (fun _ => False) gr wr (.cells #[.func (.func (fidOf op.kind)) #[] #[], .string op.name, .string op.to, .slice Ab mn cb, .bool true] 111)
            have HX5 := Lib.hid (HXA.out.trans (hx5.imp (fun _ h => h.elim)))
            have HL5 := Lib.hid (HL3.out.ext hx5 (fun h => h))
            have HB5 := Lib.hid (HB3.out.ext hx5 (fun h => h))
            have hOb5 := (hx5.own _ HL3.out.lt).trans hOb3
            have hOd5 := (hx5.own _ HB3.out.lt).trans hOd3
            have HRUN : Hid (Calls Tryz.prog (fidOf op.kind) #[.map (some lm), .agg #[.func (.func (fidOf op.kind)) #[] #[], .string op.name, .string op.to, .slice Ab mn cb, .bool true]] (wr.alloc (.cells #[.func (.func (fidOf op.kind)) #[] #[], .string op.name, .string op.to, .slice Ab mn cb, .bool true] 111)) (FilesP o lm (gr.box wr.heap.size) (wr.alloc (.cells #[.func (.func (fidOf op.kind)) #[] #[], .string op.name, .string op.to, .slice Ab mn cb, .bool true] 111)) ((runs D.kept (D.pend.take k)).run (tornOp op (mn : Int))))) := by
              have hbt : BytesAt gr wr (.slice Ab mn cb) (tornOp op (mn : Int)).bytes := by
                have h1 := HBA.out.take hml
                have h2 : op.bytes.take mn = op.bytes.take (mn : Int).toNat := by
                  rw [Int.toNat_natCast]
                rw [h2] at h1
                exact h1
              have hft : Fits (runs D.kept (D.pend.take k)) (tornOp op (mn : Int)) := by
                obtain ⟨f1, f2⟩ := HFT.out
                have hle : (op.bytes.take (mn : Int).toNat).length ≤ op.bytes.length := by rw [List.length_take]; omega
                refine ⟨fun h => Nat.le_trans hle (f1 h), fun h => ?_⟩
                have := f2 h
                show ((runs D.kept (D.pend.take k)).get op.name ++ op.bytes.take (mn : Int).toNat).length ≤ _
                rw [List.length_append] at this ⊢
                omega
              have := run_any o lm (gr.box wr.heap.size) _ (tornOp op (mn : Int)) Ab cb (wr.alloc (.cells #[.func (.func (fidOf op.kind)) #[] #[], .string op.name, .string op.to, .slice Ab mn cb, .bool true] 111)) (HF3.out.ext hx5 (fun h => h)) (by rw [htl]; exact hbt.ext hx5) hft
              rw [htl] at this
              have hq : (tornOp op (mn : Int)).tears = true := hte1
              rw [hq] at this
              exact this
            have HTT : Hid (op.tears = true ∧ 0 ≤ (mn : Int)) := ⟨hte1, htn1⟩
            have HKP1 := Lib.hid hkp1
            have hkb : ((k : Int) == kp) = true := beq_iff_eq.2 hkp1
            have k0 : (wr.alloc (.cells #[.func (.func (fidOf op.kind)) #[] #[], .string op.name, .string op.to, .slice Ab mn cb, .bool true] 111)).cell? ⟨w.heap.size, 0, none⟩ = some (.int .i64 kp) := HL5.out.cell 0
            rw [hte1] at r4 b0 b1
            clear hx5 hkp1 htl HFT HRS HX4 HF4 HB4 HBA4 HBX4 HL4 hte1
            have htn0 : decide (0 ≤ (mn : Int)) = true := decide_eq_true htn1
            have hmin : (mn : Int) ≤ (op.bytes.length : Int) := by omega
            generalize op.bytes.length = bl at *
            go_wp2_with fail
            refine HRUN.out.mono ?_
            rintro e w9 ⟨rfl, g9, hx9, hf9, _⟩
            have HX9 := Lib.hid (HX5.out.trans hx9)
            have HF9 := Lib.hid hf9
            have HB9 := Lib.hid (HB5.out.ext hx9 (by rw [hOd5]; exact fun e => hod e.symm))
            have HL9 := Lib.hid (HL5.out.ext hx9 (by rw [hOb5]; exact fun e => hol e.symm))
            have k6 : w9.cell? ⟨w.heap.size, 0, none⟩ = some (.int .i64 kp) := HL9.out.cell 0
            clear hx9 hf9 b0 b1 r0 r1 r2 r3 r4 HRUN HX5 HL5 HB5 k0
            have HLF : Hid (lossF D.kept D.pend kp (mn : Int) = (runs D.kept (D.pend.take k)).run (tornOp op (mn : Int))) := by
              show _ = _
              unfold lossF
              rw [if_neg (by have := HKP1.out; omega)]
              have hkk2 : kp.toNat = k := by have := HKP1.out; omega
              rw [hkk2, HGET.out]
              simp only
              rw [if_pos HTT.out]
            obtain ⟨L, hL, _⟩ := HF9.out.ex
            obtain ⟨es, clock, hm, _⟩ := hL
            have HM := Lib.hid hm
            have HFIN : Hid (∀ w6, (w9.alloc (.map es clock)).grownBy w6 (some d) → Blk d 73 (devCs lm w9.heap.size none 0 { D with kept := lossF D.kept D.pend kp (mn : Int), now := lossF D.kept D.pend kp (mn : Int), pend := [] }) w6 → DevP d g w { D with kept := lossF D.kept D.pend kp (mn : Int), now := lossF D.kept D.pend kp (mn : Int), pend := [] } w6) := by
              intro w6 hg hB
              have hf := HF9.out
              rw [← HLF.out] at hf
              exact decide_end HB.out HI.out HX9.out HO.out hf HM.out hg hB
            have HBA := Lib.hid (HB9.out.alloc (.map es clock))
            have HWS : Hid (w9.heap.size = w9.heap.size) := rfl
            clear hm
            go_wp2_with fail
            skip
            refine (mapsClone_any lm es clock _ HM.out).mono ?_
            rintro e w6 ⟨rfl, rfl⟩
            have d0 : (w9.alloc (.map es clock)).cell? ⟨d, 0, none⟩ = some (.map (some km)) := HBA.out.cell 0
            have d1 : (w9.alloc (.map es clock)).cell? ⟨d, 1, none⟩ = some (.map (some nm)) := HBA.out.cell 1
            have d2 : (w9.alloc (.map es clock)).cell? ⟨d, 2, none⟩ = some (.slice (some ⟨b, off, none⟩) D.pend.length cap) := HBA.out.cell 2
            have dz := HBA.out.fz
            go_wp2_with fail
            go_end0
            refine ⟨rfl, HFIN.out _ (grown012 _ d _ _ _) ?_⟩
            have := ((HBA.out.set 0 (.map (some lm))).set 1 (.map (some w9.heap.size))).set 2 (.slice none 0 0)
            simpa [devCs] using this
          · skip
            have hml : op.bytes.length ≤ op.bytes.length := by omega
            have htl : (tornOp op tn).bytes.length = op.bytes.length := by
              show (op.bytes.take tn.toNat).length = op.bytes.length
              rw [List.length_take]; omega
            obtain ⟨i0, hi0, hy0, hy1, hy2⟩ := info_parts Tryz.infoU8
            have hbc : op.bytes.length ≤ cb := by
              obtain ⟨A', c', he, q1, _⟩ := HBA.out.ex
              injection he with _ _ e3
              omega
            have hcut := run_cut_h (P := Tryz.prog) Tryz.underlying30 hi0 Ab op.bytes.length cb op.bytes.length (by omega)
            have hx5 := Ext.box (fun _ => False) gr wr (.cells #[.func (.func (fidOf op.kind)) #[] #[], .string op.name, .string op.to, .slice Ab op.bytes.length cb, .bool true] 111)
            have HX5 := Lib.hid (HXA.out.trans (hx5.imp (fun _ h => h.elim)))
            have HL5 := Lib.hid (HL3.out.ext hx5 (fun h => h))
            have HB5 := Lib.hid (HB3.out.ext hx5 (fun h => h))
            have hOb5 := (hx5.own _ HL3.out.lt).trans hOb3
            have hOd5 := (hx5.own _ HB3.out.lt).trans hOd3
            have HRUN : Hid (Calls Tryz.prog (fidOf op.kind) #[.map (some lm), .agg #[.func (.func (fidOf op.kind)) #[] #[], .string op.name, .string op.to, .slice Ab op.bytes.length cb, .bool true]] (wr.alloc (.cells #[.func (.func (fidOf op.kind)) #[] #[], .string op.name, .string op.to, .slice Ab op.bytes.length cb, .bool true] 111)) (FilesP o lm (gr.box wr.heap.size) (wr.alloc (.cells #[.func (.func (fidOf op.kind)) #[] #[], .string op.name, .string op.to, .slice Ab op.bytes.length cb, .bool true] 111)) ((runs D.kept (D.pend.take k)).run (tornOp op tn)))) := by
              have hbt : BytesAt gr wr (.slice Ab op.bytes.length cb) (tornOp op tn).bytes := by
                have h1 := HBA.out.take hml
                have h2 : op.bytes.take op.bytes.length = op.bytes.take tn.toNat := by
                  rw [List.take_length, List.take_of_length_le (by omega)]
                rw [h2] at h1
                exact h1
              have hft : Fits (runs D.kept (D.pend.take k)) (tornOp op tn) := by
                obtain ⟨f1, f2⟩ := HFT.out
                have hle : (op.bytes.take tn.toNat).length ≤ op.bytes.length := by rw [List.length_take]; omega
                refine ⟨fun h => Nat.le_trans hle (f1 h), fun h => ?_⟩
                have := f2 h
                show ((runs D.kept (D.pend.take k)).get op.name ++ op.bytes.take tn.toNat).length ≤ _
                rw [List.length_append] at this ⊢
                omega
              have := run_any o lm (gr.box wr.heap.size) _ (tornOp op tn) Ab cb (wr.alloc (.cells #[.func (.func (fidOf op.kind)) #[] #[], .string op.name, .string op.to, .slice Ab op.bytes.length cb, .bool true] 111)) (HF3.out.ext hx5 (fun h => h)) (by rw [htl]; exact hbt.ext hx5) hft
              rw [htl] at this
              have hq : (tornOp op tn).tears = true := hte1
              rw [hq] at this
              exact this
            have HTT : Hid (op.tears = true ∧ 0 ≤ tn) := ⟨hte1, htn1⟩
            have HKP1 := Lib.hid hkp1
            have hkb : ((k : Int) == kp) = true := beq_iff_eq.2 hkp1
            have k0 : (wr.alloc (.cells #[.func (.func (fidOf op.kind)) #[] #[], .string op.name, .string op.to, .slice Ab op.bytes.length cb, .bool true] 111)).cell? ⟨w.heap.size, 0, none⟩ = some (.int .i64 kp) := HL5.out.cell 0
            rw [hte1] at r4 b0 b1
            clear hx5 hkp1 htl HFT HRS HX4 HF4 HB4 HBA4 HBX4 HL4 hte1
            have htn0 : decide (0 ≤ tn) = true := decide_eq_true htn1
            generalize op.bytes.length = bl at *
            go_wp2_with fail
            refine HRUN.out.mono ?_
            rintro e w9 ⟨rfl, g9, hx9, hf9, _⟩
            have HX9 := Lib.hid (HX5.out.trans hx9)
            have HF9 := Lib.hid hf9
            have HB9 := Lib.hid (HB5.out.ext hx9 (by rw [hOd5]; exact fun e => hod e.symm))
            have HL9 := Lib.hid (HL5.out.ext hx9 (by rw [hOb5]; exact fun e => hol e.symm))
            have k6 : w9.cell? ⟨w.heap.size, 0, none⟩ = some (.int .i64 kp) := HL9.out.cell 0
            clear hx9 hf9 b0 b1 r0 r1 r2 r3 r4 HRUN HX5 HL5 HB5 k0
            have HLF : Hid (lossF D.kept D.pend kp tn = (runs D.kept (D.pend.take k)).run (tornOp op tn)) := by
              show _ = _
              unfold lossF
              rw [if_neg (by have := HKP1.out; omega)]
              have hkk2 : kp.toNat = k := by have := HKP1.out; omega
              rw [hkk2, HGET.out]
              simp only
              rw [if_pos HTT.out]
            obtain ⟨L, hL, _⟩ := HF9.out.ex
            obtain ⟨es, clock, hm, _⟩ := hL
            have HM := Lib.hid hm
            have HFIN : Hid (∀ w6, (w9.alloc (.map es clock)).grownBy w6 (some d) → Blk d 73 (devCs lm w9.heap.size none 0 { D with kept := lossF D.kept D.pend kp tn, now := lossF D.kept D.pend kp tn, pend := [] }) w6 → DevP d g w { D with kept := lossF D.kept D.pend kp tn, now := lossF D.kept D.pend kp tn, pend := [] } w6) := by
              intro w6 hg hB
              have hf := HF9.out
              rw [← HLF.out] at hf
              exact decide_end HB.out HI.out HX9.out HO.out hf HM.out hg hB
            have HBA := Lib.hid (HB9.out.alloc (.map es clock))
            have HWS : Hid (w9.heap.size = w9.heap.size) := rfl
            clear hm
            go_wp2_with fail
            skip
            refine (mapsClone_any lm es clock _ HM.out).mono ?_
            rintro e w6 ⟨rfl, rfl⟩
            have d0 : (w9.alloc (.map es clock)).cell? ⟨d, 0, none⟩ = some (.map (some km)) := HBA.out.cell 0
            have d1 : (w9.alloc (.map es clock)).cell? ⟨d, 1, none⟩ = some (.map (some nm)) := HBA.out.cell 1
            have d2 : (w9.alloc (.map es clock)).cell? ⟨d, 2, none⟩ = some (.slice (some ⟨b, off, none⟩) D.pend.length cap) := HBA.out.cell 2
            have dz := HBA.out.fz
            go_wp2_with fail
            go_end0
            refine ⟨rfl, HFIN.out _ (grown012 _ d _ _ _) ?_⟩
            have := ((HBA.out.set 0 (.map (some lm))).set 1 (.map (some w9.heap.size))).set 2 (.slice none 0 0)
            simpa [devCs] using this
        · have hnt : ¬ (kp = (k : Int) ∧ op.tears = true ∧ 0 ≤ tn) := fun h => htt ⟨h.1.symm, h.2⟩
          have hge : decide (kp ≤ (k : Int)) = true := by simp; omega
          have HLF : Hid (lossF D.kept D.pend kp tn = runs D.kept (D.pend.take k)) := by
            show _ = _
            unfold lossF
            by_cases h1 : kp < 0
            · rw [if_pos h1]
              rcases hkk with h | h
              · subst h; simp [runs]
              · omega
            · rw [if_neg h1]
              have hkk2 : kp.toNat = k := by omega
              rw [hkk2, HGET.out]
              simp only
              rw [if_neg (fun h => hnt ⟨by omega, h⟩)]
          obtain ⟨L, hL, _⟩ := HF4.out.ex
          obtain ⟨es, clock, hm, _⟩ := hL
          have HM := Lib.hid hm
          have HFIN : Hid (∀ w6, ((wr.alloc (.cells #[.func (.func (fidOf op.kind)) #[] #[], .string op.name, .string op.to, .slice Ab op.bytes.length cb, .bool op.tears] 111)).alloc (.map es clock)).grownBy w6 (some d) → Blk d 73 (devCs lm (wr.alloc (.cells #[.func (.func (fidOf op.kind)) #[] #[], .string op.name, .string op.to, .slice Ab op.bytes.length cb, .bool op.tears] 111)).heap.size none 0 { D with kept := lossF D.kept D.pend kp tn, now := lossF D.kept D.pend kp tn, pend := [] }) w6 → DevP d g w { D with kept := lossF D.kept D.pend kp tn, now := lossF D.kept D.pend kp tn, pend := [] } w6) := by
            intro w6 hg hB
            have hf := HF4.out
            rw [← HLF.out] at hf
            exact decide_end HB.out HI.out HX4.out HO.out hf HM.out hg hB
          have HBA := Lib.hid (HB4.out.alloc (.map es clock))
          have HWS : Hid ((wr.alloc (.cells #[.func (.func (fidOf op.kind)) #[] #[], .string op.name, .string op.to, .slice Ab op.bytes.length cb, .bool op.tears] 111)).heap.size = (wr.alloc (.cells #[.func (.func (fidOf op.kind)) #[] #[], .string op.name, .string op.to, .slice Ab op.bytes.length cb, .bool op.tears] 111)).heap.size) := rfl
          clear hm
          clear HFT HRS HGET hent
          by_cases h1 : (k : Int) = kp
          · have h1' : ((k : Int) == kp) = true := beq_iff_eq.2 h1
            have htn : op.tears = true → tn < 0 := fun h => by
              rcases Int.lt_or_le tn 0 with h3 | h3
              · exact h3
              · exact absurd ⟨h1, h, h3⟩ htt
            clear htt hnt h1
            generalize op.tears = te at *
            cases te
            · clear htn
              go_wp2_with fail
              generalize (wr.alloc (.cells #[.func (.func (fidOf op.kind)) #[] #[], .string op.name, .string op.to, .slice Ab op.bytes.length cb, .bool false] 111)) = w4 at *
              refine (mapsClone_any lm es clock _ HM.out).mono ?_
              rintro e w6 ⟨rfl, rfl⟩
              have d0 : (w4.alloc (.map es clock)).cell? ⟨d, 0, none⟩ = some (.map (some km)) := HBA.out.cell 0
              have d1 : (w4.alloc (.map es clock)).cell? ⟨d, 1, none⟩ = some (.map (some nm)) := HBA.out.cell 1
              have d2 : (w4.alloc (.map es clock)).cell? ⟨d, 2, none⟩ = some (.slice (some ⟨b, off, none⟩) D.pend.length cap) := HBA.out.cell 2
              have dz := HBA.out.fz
              go_wp2_with fail
              go_end0
              refine ⟨rfl, HFIN.out _ (grown012 _ d _ _ _) ?_⟩
              have := ((HBA.out.set 0 (.map (some lm))).set 1 (.map (some w4.heap.size))).set 2 (.slice none 0 0)
              simpa [devCs] using this
            · have htn1 := htn rfl
              clear htn
              go_wp2_with fail
              generalize (wr.alloc (.cells #[.func (.func (fidOf op.kind)) #[] #[], .string op.name, .string op.to, .slice Ab op.bytes.length cb, .bool true] 111)) = w4 at *
              refine (mapsClone_any lm es clock _ HM.out).mono ?_
              rintro e w6 ⟨rfl, rfl⟩
              have d0 : (w4.alloc (.map es clock)).cell? ⟨d, 0, none⟩ = some (.map (some km)) := HBA.out.cell 0
              have d1 : (w4.alloc (.map es clock)).cell? ⟨d, 1, none⟩ = some (.map (some nm)) := HBA.out.cell 1
              have d2 : (w4.alloc (.map es clock)).cell? ⟨d, 2, none⟩ = some (.slice (some ⟨b, off, none⟩) D.pend.length cap) := HBA.out.cell 2
              have dz := HBA.out.fz
              go_wp2_with fail
              go_end0
              refine ⟨rfl, HFIN.out _ (grown012 _ d _ _ _) ?_⟩
              have := ((HBA.out.set 0 (.map (some lm))).set 1 (.map (some w4.heap.size))).set 2 (.slice none 0 0)
              simpa [devCs] using this
          · have h1' : ((k : Int) == kp) = false := beq_eq_false_iff_ne.2 h1
            clear htt hnt h1
            go_wp2_with fail
            generalize (wr.alloc (.cells #[.func (.func (fidOf op.kind)) #[] #[], .string op.name, .string op.to, .slice Ab op.bytes.length cb, .bool op.tears] 111)) = w4 at *
            refine (mapsClone_any lm es clock _ HM.out).mono ?_
            rintro e w6 ⟨rfl, rfl⟩
            have d0 : (w4.alloc (.map es clock)).cell? ⟨d, 0, none⟩ = some (.map (some km)) := HBA.out.cell 0
            have d1 : (w4.alloc (.map es clock)).cell? ⟨d, 1, none⟩ = some (.map (some nm)) := HBA.out.cell 1
            have d2 : (w4.alloc (.map es clock)).cell? ⟨d, 2, none⟩ = some (.slice (some ⟨b, off, none⟩) D.pend.length cap) := HBA.out.cell 2
            have dz := HBA.out.fz
            go_wp2_with fail
            go_end0
            refine ⟨rfl, HFIN.out _ (grown012 _ d _ _ _) ?_⟩
            have := ((HBA.out.set 0 (.map (some lm))).set 1 (.map (some w4.heap.size))).set 2 (.slice none 0 0)
            simpa [devCs] using this
    · obtain rfl : k = D.pend.length := by omega
      have HLF : Hid (lossF D.kept D.pend kp tn = runs D.kept (D.pend.take D.pend.length)) := by
        show _ = _
        rw [List.take_length]
        unfold lossF
        rcases hkk with h | h
        · exact absurd h HNE.out
        · rw [if_neg (by omega), List.getElem?_eq_none (by omega)]
      obtain ⟨L, hL, _⟩ := HF3.out.ex
      obtain ⟨es, clock, hm, _⟩ := hL
      have HM := Lib.hid hm
      have HFIN : Hid (∀ w6, (wr.alloc (.map es clock)).grownBy w6 (some d) → Blk d 73 (devCs lm wr.heap.size none 0 { D with kept := lossF D.kept D.pend kp tn, now := lossF D.kept D.pend kp tn, pend := [] }) w6 → DevP d g w { D with kept := lossF D.kept D.pend kp tn, now := lossF D.kept D.pend kp tn, pend := [] } w6) := by
        intro w6 hg hB
        have hf := HF3.out
        rw [← HLF.out] at hf
        exact decide_end HB.out HI.out HXA.out HO.out hf HM.out hg hB
      have HBA := Lib.hid (HB3.out.alloc (.map es clock))
      have HWS : Hid (wr.heap.size = wr.heap.size) := rfl
      clear hm
      go_wp2_with fail
      refine (mapsClone_any lm es clock _ HM.out).mono ?_
      rintro e w6 ⟨rfl, rfl⟩
      have d0 : (wr.alloc (.map es clock)).cell? ⟨d, 0, none⟩ = some (.map (some km)) := HBA.out.cell 0
      have d1 : (wr.alloc (.map es clock)).cell? ⟨d, 1, none⟩ = some (.map (some nm)) := HBA.out.cell 1
      have d2 : (wr.alloc (.map es clock)).cell? ⟨d, 2, none⟩ = some (.slice A D.pend.length cap) := HBA.out.cell 2
      have dz := HBA.out.fz
      go_wp2_with fail
      go_end0
      refine ⟨rfl, HFIN.out _ (grown012 _ d _ _ _) ?_⟩
      have := ((HBA.out.set 0 (.map (some lm))).set 1 (.map (some wr.heap.size))).set 2 (.slice none 0 0)
      simpa [devCs] using this
end

section
open Go.RowKit

set_option maxRecDepth 100000 in
theorem decide0_any (d : Nat) (g : Gh) (w : World) (D : Dev) (hD : DevAt g w d D) (kp tn : Int) (hne : D.pend.length = 0) :
    Calls Tryz.prog 43 #[.pointer (some ⟨d, 0, none⟩), .agg #[.int .i64 kp, .int .i64 tn]] w fun e w' => e = .returned (.tuple #[]) ∧ SameP g w w' := by
  obtain ⟨km, nm, A, cap, xs, hb, hi⟩ := hD
  have hx0 := Ext.box (fun _ => False) g w (.cells #[.int .i64 kp, .int .i64 tn] 42)
  have hb1 := hb.ext hx0 (fun h => h)
  have c2 : (w.alloc (.cells #[.int .i64 kp, .int .i64 tn] 42)).cell? ⟨d, 2, none⟩ = some (.slice A 0 cap) := (hb1.cell 2).trans (by simp [devCs, hne])
  have HX := Lib.hid hx0
  clear hx0 hb1 hb hi
  go_enter Tryz.func43, Tryz.ntmps43
  go_wp2_with fail
  refine bodyPost_ret (results_none rfl _ _ _) rfl ?_
  exact ⟨rfl, _, HX.out⟩

/-- What decide asks of the device. -/
structure Fit (D : Dev) : Prop where
  pl : D.pend.length ≤ 1000000
  ops : ∀ k (hk : k < D.pend.length), Fits (runs D.kept (D.pend.take k)) D.pend[k]
  len : ∀ k l, D.kept.m k = some l → l.length ≤ 8388608
  n : D.kept.n ≤ 1000000
theorem decideL (d : Nat) (g : Gh) (w : World) (D : Dev) (hD : DevAt g w d D) (hF : Fit D) (kp tn : Int) (hk0 : -9223372036854775808 ≤ kp) (hk1 : kp ≤ 9223372036854775807) :
    Calls Tryz.prog 43 #[.pointer (some ⟨d, 0, none⟩), .agg #[.int .i64 kp, .int .i64 tn]] w fun e w' => e = .returned (.tuple #[]) ∧ DevP d g w (lossD D kp tn) w' := by
  by_cases h : D.pend.length = 0
  · refine (decide0_any d g w D hD kp tn h).mono ?_
    rintro e w' ⟨h1, g', hx⟩
    have : lossD D kp tn = D := by unfold lossD; rw [if_pos h]
    rw [this]
    exact ⟨h1, g', hx.imp (fun _ h => h.elim), hD.ext hx (fun h => h)⟩
  · exact decide_any d g w D hD kp tn h hF.pl hF.ops hF.len hF.n hk0 hk1

/-- The device's own block is written. -/
theorem DevAt.stored {d : Nat} {g : Gh} {w w' : World} {km nm : Nat} {A : Option Addr} {cap : Nat} {xs : List Value} {D : Dev} {dn : Bool} {fu : Int} (hb : Blk d 73 (devCs km nm A cap D) w) (hi : DevIn g w d km nm A cap xs D) (hg : w.grownBy w' (some d)) (hB : Blk d 73 (devCs km nm A cap { D with down := dn, fuse := fu }) w') (h0 : 0 ≤ fu) (h1 : fu ≤ 4611686018427387904) : DevP d g w { D with down := dn, fuse := fu } w' := by
  obtain ⟨hx, hi'⟩ := hi.self hb hg
  exact ⟨g, hx, km, nm, A, cap, xs, hB, hi'.fused (dn := dn) h0 h1⟩

def downD (D : Dev) : Dev := { D with down := true, fuse := 0 }
set_option maxRecDepth 100000 in
theorem lose_any (d : Nat) (g : Gh) (w : World) (D : Dev) (hD : DevAt g w d D) (hF : Fit D) (kp tn : Int) (hk0 : -9223372036854775808 ≤ kp) (hk1 : kp ≤ 9223372036854775807) :
    Calls Tryz.prog 20 #[.pointer (some ⟨d, 0, none⟩), .agg #[.int .i64 kp, .int .i64 tn]] w fun e w' => e = .returned (.tuple #[]) ∧ DevP d g w (lossD (downD D) kp tn) w' := by
  obtain ⟨km, nm, A, cap, xs, hb, hi⟩ := hD
  have hdl := hb.lt
  have n1 : d ≠ w.heap.size := by omega
  have n2 : w.heap.size ≠ d := by omega
  have c3 : w.cell? ⟨d, 3, none⟩ = some (.bool D.down) := hb.cell 3
  have c4 : w.cell? ⟨d, 4, none⟩ = some (.int .i64 D.fuse) := hb.cell 4
  have z := hb.fz
  have HP2 : Hid (DevP d g w (downD D) ((w.setCell ⟨d, 3, none⟩ (.bool true)).setCell ⟨d, 4, none⟩ (.int .i64 0))) := by
    refine DevAt.stored (dn := true) (fu := 0) hb hi ((grownBy_setCell _ ⟨d, 3, none⟩ _).trans (grownBy_setCell _ ⟨d, 4, none⟩ _)) ?_ (Int.le_refl _) (by omega)
    have := (hb.set 3 (.bool true)).set 4 (.int .i64 0)
    simpa [devCs] using this
  have HFD : Hid (Fit (downD D)) := ⟨hF.pl, hF.ops, hF.len, hF.n⟩
  clear hb hi
  obtain ⟨g2, hx2, hD2⟩ := HP2.out
  have hx3 := Ext.box (fun _ => False) g2 ((w.setCell ⟨d, 3, none⟩ (.bool true)).setCell ⟨d, 4, none⟩ (.int .i64 0)) (.cells #[.int .i64 kp, .int .i64 tn] 42)
  have HX3 := Lib.hid (hx2.trans (hx3.imp (fun _ h => h.elim)))
  have HD3 := Lib.hid (hD2.ext hx3 (fun h => h))
  clear hx2 hx3 hD2 HP2
  go_enter Tryz.func20, Tryz.ntmps20
  go_wp2_with fail
  refine (decideL d _ _ (downD D) HD3.out HFD.out kp tn hk0 hk1).mono ?_
  rintro e w3 ⟨rfl, hP⟩
  have HP3 : Hid (DevP d g w (lossD (downD D) kp tn) w3) := hP.pre HX3.out
  clear hP
  go_wp2_with fail
  go_end0
  exact ⟨rfl, HP3.out⟩

set_option maxRecDepth 100000 in
theorem restart_any (d : Nat) (g : Gh) (w : World) (D : Dev) (hD : DevAt g w d D) (hdn : D.down = true) (hp : D.pend.length = 0) :
    Calls Tryz.prog 21 #[.pointer (some ⟨d, 0, none⟩)] w fun e w' => e = .returned (.tuple #[]) ∧ DevP d g w { D with down := false } w' := by
  have HD := Lib.hid hD
  obtain ⟨km, nm, A, cap, xs, hb, hi⟩ := hD
  have c3 : w.cell? ⟨d, 3, none⟩ = some (.bool true) := by rw [← hdn]; exact hb.cell 3
  clear hb hi
  go_enter Tryz.func21, Tryz.ntmps21
  go_wp2_with fail
  refine (decide0_any d g w D HD.out 0 (-1) hp).mono ?_
  rintro e w1 ⟨rfl, g1, hx1⟩
  have hD1 := HD.out.ext hx1 (fun h => h)
  obtain ⟨km, nm, A, cap, xs, hb, hi⟩ := hD1
  have c3 : w1.cell? ⟨d, 3, none⟩ = some (.bool D.down) := hb.cell 3
  have z := hb.fz
  have HB := Lib.hid hb
  have HI := Lib.hid hi
  have HX := Lib.hid hx1
  clear hb hi hx1
  go_wp2_with fail
  go_end0
  refine ⟨rfl, ?_⟩
  have := DevAt.stored (dn := false) (fu := D.fuse) HB.out HI.out (grownBy_setCell w1 ⟨d, 3, none⟩ (.bool false)) (by
    have := HB.out.set 3 (.bool false)
    simpa [devCs] using this) HI.out.f0 HI.out.f1
  exact this.pre (HX.out.imp (fun _ h => h.elim))
end

section
open Go.RowKit

theorem DevAt.len {g : Gh} {w : World} {d : Nat} {D : Dev} (h : DevAt g w d D) : ∀ k l, D.now.m k = some l → l.length ≤ 8388608 := by
  obtain ⟨km, nm, A, cap, xs, _, hi⟩ := h
  obtain ⟨L, h1, h2, h3, h4, _⟩ := hi.now.ex
  intro k l hk
  cases hl : look L k with
  | none => rw [h3 k hl] at hk; cases hk
  | some v =>
    obtain ⟨l', A, cap, e1, _, e3, _⟩ := h4 k v hl
    rw [e1] at hk
    injection hk with hk
    rw [← hk]; exact e3


/-- A device at rest with at most m files. -/
structure Quiet (D : Dev) (m : Nat) : Prop where
  up : Up D
  pl : D.pend = []
  kp : D.kept = D.now
  n : D.now.n ≤ m
theorem Quiet.dev0 : Quiet dev0 0 := ⟨⟨rfl, rfl⟩, rfl, rfl, Nat.le_refl _⟩
theorem Quiet.more {D : Dev} {m m' : Nat} (h : Quiet D m) (hm : m ≤ m') : Quiet D m' := ⟨h.up, h.pl, h.kp, Nat.le_trans h.n hm⟩
theorem SlotIs.of {D D' : Dev} {k : ByteArray} {o : Option Ck} (h : SlotIs D k o) (e : D'.now.m k = D.now.m k) : SlotIs D' k o := by
  unfold SlotIs at h ⊢
  rw [e]; exact h
theorem SlotIs.zero {D : Dev} {k : ByteArray} (h : D.now.m k = none) : SlotIs D k none := .inl ⟨h, rfl⟩
theorem SlotIs.full {D : Dev} {k : ByteArray} {c : Ck} (hc : CkOk c) (h : D.now.m k = some (encC c)) : SlotIs D k (some c) := .inr ⟨_, c, h, hc, List.prefix_refl _, .inl ⟨rfl, rfl⟩⟩
theorem SlotIs.part {D : Dev} {k : ByteArray} {c : Ck} (hc : CkOk c) {l : List UInt8} (hl : l <+: encC c) (h : D.now.m k = some l) : SlotIs D k (some c) ∨ SlotIs D k none := by
  by_cases e : l = encC c
  · rw [e] at h; exact .inl (SlotIs.full hc h)
  · exact .inr (.inr ⟨_, c, h, hc, hl, .inr ⟨e, rfl⟩⟩)
theorem slotN_ne (name : ByteArray) : slotN name 0 ≠ slotN name 1 := fun h => by
  have := ba_append_inj h
  simp at this
theorem put_n (f : Fl) (k : ByteArray) (l : List UInt8) : (f.put k l).n ≤ f.n + 1 := by
  unfold Fl.put; dsimp only; split <;> omega
theorem put_same (f : Fl) (k : ByteArray) (l : List UInt8) : (f.put k l).m k = some l := by simp [Fl.put]
theorem put_other (f : Fl) {k q : ByteArray} (l : List UInt8) (h : q ≠ k) : (f.put k l).m q = f.m q := by simp [Fl.put, h]

section
variable {D : Dev} {m : Nat}
theorem Quiet.save (h : Quiet D m) (o : POp) : svI D o = 0 ∧ svD D o = synced D (D.now.run o) := by
  unfold svI svD
  rw [if_pos h.up.actI, if_pos h.up.actI]
  exact ⟨(h.up.act _).syncI, two_steps h.up h.pl o⟩

/-- The slots behind a Save that was made. -/
theorem slots_new {D' : Dev} {name : ByteArray} {o0 o1 : Option Ck} (h0 : SlotIs D (slotN name 0) o0) (h1 : SlotIs D (slotN name 1) o1) {c : Ck} (hc : CkOk c) (hseq : c.seq = seqO (newS o0 o1).1 + 1)
    (hs : D'.now.m (slotN name (newS o0 o1).2) = some (encC c)) (ho : ∀ q, q ≠ slotN name (newS o0 o1).2 → D'.now.m q = D.now.m q) :
    ∃ p0 p1, SlotIs D' (slotN name 0) p0 ∧ SlotIs D' (slotN name 1) p1 ∧ (newS p0 p1).1 = some c := by
  rcases (show (newS o0 o1).2 = 0 ∨ (newS o0 o1).2 = 1 by have := newS_lt o0 o1; omega) with e | e
  · rw [e] at hs ho
    exact ⟨some c, o1, SlotIs.full hc hs, h1.of (ho _ (slotN_ne name).symm), by rw [newS_new0 e hseq]⟩
  · rw [e] at hs ho
    exact ⟨o0, some c, h0.of (ho _ (slotN_ne name)), SlotIs.full hc hs, by rw [newS_new1 e hseq]⟩
/-- The slots where the file that Save wrote is torn. -/
theorem slots_torn {D' : Dev} {name : ByteArray} {o0 o1 : Option Ck} (h0 : SlotIs D (slotN name 0) o0) (h1 : SlotIs D (slotN name 1) o1) {c : Ck} (hc : CkOk c) (hseq : c.seq = seqO (newS o0 o1).1 + 1) {l : List UInt8} (hl : l <+: encC c)
    (hs : D'.now.m (slotN name (newS o0 o1).2) = some l) (ho : ∀ q, q ≠ slotN name (newS o0 o1).2 → D'.now.m q = D.now.m q) :
    ∃ p0 p1, SlotIs D' (slotN name 0) p0 ∧ SlotIs D' (slotN name 1) p1 ∧ ((newS p0 p1).1 = some c ∨ (newS p0 p1).1 = (newS o0 o1).1) := by
  rcases (show (newS o0 o1).2 = 0 ∨ (newS o0 o1).2 = 1 by have := newS_lt o0 o1; omega) with e | e
  · rw [e] at hs ho
    rcases SlotIs.part hc hl hs with h | h
    · exact ⟨some c, o1, h, h1.of (ho _ (slotN_ne name).symm), .inl (by rw [newS_new0 e hseq])⟩
    · exact ⟨none, o1, h, h1.of (ho _ (slotN_ne name).symm), .inr (by rw [newS_torn0 e])⟩
  · rw [e] at hs ho
    rcases SlotIs.part hc hl hs with h | h
    · exact ⟨o0, some c, h0.of (ho _ (slotN_ne name)), h, .inl (by rw [newS_new1 e hseq])⟩
    · exact ⟨o0, none, h0.of (ho _ (slotN_ne name)), h, .inr (by rw [newS_torn1 e])⟩

theorem Quiet.fused (h : Quiet D m) (F : Int) (hF : 1 ≤ F) (o : POp) :
    (svI { D with fuse := F } o = 303 ∧ svD { D with fuse := F } o = { D with down := true, fuse := 0 }) ∨
    (svI { D with fuse := F } o = 303 ∧ svD { D with fuse := F } o = { D with now := D.now.run o, pend := [o], down := true, fuse := 0 }) ∨
    (svI { D with fuse := F } o = 0 ∧ svD { D with fuse := F } o = { D with kept := D.now.run o, now := D.now.run o, pend := [], fuse := F - 2 }) := by
  have hdn := h.up.dn
  have hpl := h.pl
  have hF0 : ¬ F = 0 := by omega
  by_cases h1 : F = 1
  · have a1 : actI { D with fuse := F } = 303 := by simp [actI, hdn, doI, burnB, h1]
    have a2 : actD { D with fuse := F } o = { D with down := true, fuse := 0 } := by simp [actD, hdn, doD, burnB, burnD, h1]
    refine .inl ⟨?_, ?_⟩
    · unfold svI; rw [if_neg (by omega)]; exact a1
    · unfold svD; rw [if_neg (by omega)]; exact a2
  · have a1 : actI { D with fuse := F } = 0 := by simp [actI, hdn, doI, burnB, h1]
    have a2 : actD { D with fuse := F } o = { D with now := D.now.run o, pend := [o], down := false, fuse := F - 1 } := by
      simp [actD, hdn, doD, burnB, burnD, h1, hF0, hpl]
    unfold svI svD
    rw [if_pos a1, if_pos a1, a2]
    by_cases h2 : F = 2
    · refine .inr (.inl ⟨?_, ?_⟩)
      · simp [syncI, burnB, h2]
      · simp [syncD, burnB, burnD, h2]
    · have hb1 : ¬ F - 1 = 1 := by omega
      have hb2 : ¬ F - 1 = 0 := by omega
      refine .inr (.inr ⟨?_, ?_⟩)
      · simp [syncI, burnB, hb1]
      · have : F - 1 - 1 = F - 2 := by omega
        simp [syncD, burnB, burnD, hb1, hb2, this, hdn]

/-- What is there once the power has failed. -/
structure LostC (D E : Dev) (m : Nat) (k : ByteArray) : Prop where
  pl : E.pend = []
  dn : E.down = true
  fu : E.fuse = 0
  kp : E.kept = E.now
  n : E.now.n ≤ m + 1
  ot : ∀ q, q ≠ k → E.now.m q = D.now.m q
theorem Quiet.lost (h : Quiet D m) (hm : m ≤ 250) (F : Int) (hF : 1 ≤ F) (name : ByteArray) (i : Nat) (c : Ck) (hc : CkOk c) (kp tn : Int) (hlen : ∀ q l, D.now.m q = some l → l.length ≤ 8388608) :
    Fit (svD { D with fuse := F } (svOp name i c)) ∧ LostC D (lossD (downD (svD { D with fuse := F } (svOp name i c))) kp tn) m (slotN name i) ∧
    ((svI { D with fuse := F } (svOp name i c) = 303 ∧ (lossD (downD (svD { D with fuse := F } (svOp name i c))) kp tn).now.m (slotN name i) = D.now.m (slotN name i)) ∨
     (svI { D with fuse := F } (svOp name i c) = 303 ∧ ∃ l, l <+: encC c ∧ (lossD (downD (svD { D with fuse := F } (svOp name i c))) kp tn).now.m (slotN name i) = some l) ∨
     (svI { D with fuse := F } (svOp name i c) = 0 ∧ (lossD (downD (svD { D with fuse := F } (svOp name i c))) kp tn).now.m (slotN name i) = some (encC c))) := by
  have hel := encC_len hc
  have hn := h.n
  have hkp := h.kp
  have hrun : D.now.run (svOp name i c) = D.now.put (slotN name i) (encC c) := by simp [Fl.run, svOp]
  have hpn := put_n D.now (slotN name i) (encC c)
  rcases h.fused F hF (svOp name i c) with ⟨hi, hd⟩ | ⟨hi, hd⟩ | ⟨hi, hd⟩
  · rw [hi, hd]
    have e : lossD (downD { D with down := true, fuse := 0 }) kp tn = { D with down := true, fuse := 0 } := by unfold lossD; rw [if_pos (by simp [downD, h.pl])]; rfl
    rw [e]
    refine ⟨⟨by simp [h.pl], fun k hk => by simp [h.pl] at hk, by rw [hkp]; exact hlen, by rw [hkp]; omega⟩, ⟨h.pl, rfl, rfl, hkp, by show D.now.n ≤ _; omega, fun _ _ => rfl⟩, .inl ⟨rfl, rfl⟩⟩
  · rw [hi, hd]
    have e : lossD (downD { D with now := D.now.run (svOp name i c), pend := [svOp name i c], down := true, fuse := 0 }) kp tn = { D with kept := lossF D.kept [svOp name i c] kp tn, now := lossF D.kept [svOp name i c] kp tn, pend := [], down := true, fuse := 0 } := by unfold lossD; rw [if_neg (by simp [downD])]; rfl
    rw [e]
    have key : lossF D.kept [svOp name i c] kp tn = D.now ∨ ∃ l, l <+: encC c ∧ lossF D.kept [svOp name i c] kp tn = D.now.put (slotN name i) l := by
      unfold lossF
      rw [hkp]
      by_cases hk : kp < 0
      · rw [if_pos hk]; exact .inl rfl
      rw [if_neg hk]
      by_cases hk0 : kp.toNat = 0
      · rw [hk0]
        simp only [List.getElem?_cons_zero, List.take_zero, runs, List.foldl_nil]
        split
        · right
          exact ⟨(encC c).take tn.toNat, List.take_prefix _ _, by simp [Fl.run, tornOp, svOp]⟩
        · exact .inl rfl
      · have : [svOp name i c][kp.toNat]? = none := by simp; omega
        rw [this]
        right
        exact ⟨encC c, List.prefix_refl _, by simp [runs, Fl.run, svOp]⟩
    refine ⟨⟨by simp, fun k hk => ?_, by rw [hkp]; exact hlen, by rw [hkp]; omega⟩, ?_⟩
    · obtain rfl : k = 0 := by simp at hk; omega
      exact ⟨fun _ => by show (encC c).length ≤ _; omega, fun h => by simp [svOp] at h⟩
    · rcases key with hk | ⟨l, hl, hk⟩
      · rw [hk]
        exact ⟨⟨rfl, rfl, rfl, rfl, by show D.now.n ≤ _; omega, fun _ _ => rfl⟩, .inl ⟨rfl, rfl⟩⟩
      · rw [hk]
        have hpn' := put_n D.now (slotN name i) l
        exact ⟨⟨rfl, rfl, rfl, rfl, by show (D.now.put _ _).n ≤ _; omega, fun q hq => put_other _ _ hq⟩, .inr (.inl ⟨rfl, l, hl, put_same _ _ _⟩)⟩
  · rw [hi, hd]
    have e : lossD (downD { D with kept := D.now.run (svOp name i c), now := D.now.run (svOp name i c), pend := [], fuse := F - 2 }) kp tn = { D with kept := D.now.run (svOp name i c), now := D.now.run (svOp name i c), pend := [], down := true, fuse := 0 } := by unfold lossD; rw [if_pos (by simp [downD])]; rfl
    rw [e, hrun]
    refine ⟨⟨by simp, fun k hk => by simp at hk, fun q l hq => ?_, by show (D.now.put _ _).n ≤ _; omega⟩, ⟨rfl, rfl, rfl, rfl, by show (D.now.put _ _).n ≤ _; omega, fun q hq => put_other _ _ hq⟩, .inr (.inr ⟨rfl, put_same _ _ _⟩)⟩
    change (D.now.put (slotN name i) (encC c)).m q = some l at hq
    by_cases hqk : q = slotN name i
    · subst hqk
      rw [put_same] at hq
      injection hq with hq
      rw [← hq]; omega
    · rw [put_other _ _ hqk] at hq
      exact hlen q l hq
end

/-- Save without a failure of power. -/
theorem gsave (d : Nat) (g : Gh) (w : World) (D : Dev) (m : Nat) (hD : DevAt g w d D) (hq : Quiet D m) (hm : m ≤ 250) (name : ByteArray) (h : nmB false 40 name = true) (o0 o1 : Option Ck) (h0 : SlotIs D (slotN name 0) o0) (h1 : SlotIs D (slotN name 1) o1) (p : Int) (A : Option Addr) (cap : Nat) (st : List UInt8) (hr : BytesAt g w (.slice A st.length cap) st)
    (hp0 : 0 ≤ p) (hp1 : (posO (newS o0 o1).1 : Int) ≤ p) (hpb : p < 1000000000) (hsq : seqO (newS o0 o1).1 + 1 < 1000000000) (hl : st.length ≤ 2097152) :
    Calls Tryz.prog 56 #[.pointer (some ⟨d, 0, none⟩), .string name, .int .i64 p, .slice A st.length cap] w fun e w' => e = .returned (.int .i64 0) ∧ ∃ D' p0 p1, SaveP d g w D' w' ∧ Quiet D' (m + 1) ∧ SlotIs D' (slotN name 0) p0 ∧ SlotIs D' (slotN name 1) p1 ∧ (newS p0 p1).1 = some ⟨seqO (newS o0 o1).1 + 1, p.toNat, st⟩ ∧ ∀ q, q ≠ slotN name 0 → q ≠ slotN name 1 → D'.now.m q = D.now.m q := by
  have hn := hq.n
  have hck : CkOk ⟨seqO (newS o0 o1).1 + 1, p.toNat, st⟩ := ⟨hsq, by show p.toNat < _; omega, hl⟩
  obtain ⟨e1, e2⟩ := hq.save (svOp name (newS o0 o1).2 ⟨seqO (newS o0 o1).1 + 1, p.toNat, st⟩)
  refine (save_ok d g w D hD hq.up.dn name h o0 o1 h0 h1 p A cap st hr hp0 hp1 hpb hsq hl (by omega) (by rw [hq.pl]; simp)).mono ?_
  rintro e w' ⟨he, hP⟩
  rw [e1] at he
  rw [e2] at hP
  have hrun : D.now.run (svOp name (newS o0 o1).2 ⟨seqO (newS o0 o1).1 + 1, p.toNat, st⟩) = D.now.put (slotN name (newS o0 o1).2) (encC ⟨seqO (newS o0 o1).1 + 1, p.toNat, st⟩) := by simp [Fl.run, svOp]
  rw [hrun] at hP
  have hpn := put_n D.now (slotN name (newS o0 o1).2) (encC ⟨seqO (newS o0 o1).1 + 1, p.toNat, st⟩)
  obtain ⟨p0, p1, k0, k1, k2⟩ := slots_new (D' := synced D (D.now.put (slotN name (newS o0 o1).2) (encC ⟨seqO (newS o0 o1).1 + 1, p.toNat, st⟩))) h0 h1 hck rfl (put_same _ _ _) (fun q hq => put_other _ _ hq)
  refine ⟨he, _, p0, p1, hP, ⟨⟨hq.up.dn, hq.up.fu⟩, rfl, rfl, by show (D.now.put _ _).n ≤ _; omega⟩, k0, k1, k2, fun q hq0 hq1 => put_other _ _ ?_⟩
  rcases (show (newS o0 o1).2 = 0 ∨ (newS o0 o1).2 = 1 by have := newS_lt o0 o1; omega) with e | e
  · rw [e]; exact hq0
  · rw [e]; exact hq1

theorem BytesAt.nil (g : Gh) (w : World) : BytesAt g w (.slice none 0 0) [] := ⟨none, 0, rfl, Nat.le_refl _, by decide, fun _ => rfl, Rd.nil _ _ _ _⟩
/-- A state that is a literal. -/
theorem gsave_lit (d : Nat) (g : Gh) (w : World) (D : Dev) (m : Nat) (hD : DevAt g w d D) (hq : Quiet D m) (hm : m ≤ 250) (name : ByteArray) (h : nmB false 40 name = true) (o0 o1 : Option Ck) (h0 : SlotIs D (slotN name 0) o0) (h1 : SlotIs D (slotN name 1) o1) (p : Int) (st : List UInt8) (fr : Nat × Nat)
    (hp0 : 0 ≤ p) (hp1 : (posO (newS o0 o1).1 : Int) ≤ p) (hpb : p < 1000000000) (hsq : seqO (newS o0 o1).1 + 1 < 1000000000) (hl : st.length ≤ 1000) :
    Calls Tryz.prog 56 #[.pointer (some ⟨d, 0, none⟩), .string name, .int .i64 p, .slice (some ⟨w.heap.size, 0, none⟩) st.length st.length] (w.alloc (.cells (bv st).toArray 5 fr)) fun e w' => e = .returned (.int .i64 0) ∧ ∃ D' p0 p1, SaveP d g w D' w' ∧ Quiet D' (m + 1) ∧ SlotIs D' (slotN name 0) p0 ∧ SlotIs D' (slotN name 1) p1 ∧ (newS p0 p1).1 = some ⟨seqO (newS o0 o1).1 + 1, p.toNat, st⟩ ∧ ∀ q, q ≠ slotN name 0 → q ≠ slotN name 1 → D'.now.m q = D.now.m q := by
  have hx := Ext.litB (fun _ => False) g w st fr
  have hsz : w.heap.size ≤ (w.alloc (.cells (bv st).toArray 5 fr)).heap.size := by simp
  refine (gsave d _ _ D m (hD.ext hx (fun h => h)) hq hm name h o0 o1 h0 h1 p _ _ st (BytesAt.lit g w st fr hl) hp0 hp1 hpb hsq (by omega)).mono ?_
  rintro e w' ⟨he, D', p0, p1, ⟨g', hx', hd'⟩, rest⟩
  refine ⟨he, D', p0, p1, ⟨g', (hx.imp (fun o (h : False) => (h.elim : o = d ∨ w.heap.size ≤ o))).trans (hx'.imp (fun o h => h.elim Or.inl (fun h => Or.inr (Nat.le_trans hsz h)))), hd'⟩, rest⟩
end

end Go.Proofs.YtjjdffafibonhaaGreatDoor
