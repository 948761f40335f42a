/-
  The device in memory; its small functions.
-/
import Derived.Test.YthjbaafbkalomaaCopied
import Derived.Test.YthjbaafbkalomaaNames
namespace Go.Proofs.Ythjbaafbkalomaa
open Go.RowKit

/-- A pending operation: kind 0 create, 1 add, else rename. -/
structure POp where
  kind : Nat
  name : ByteArray
  to : ByteArray
  bytes : List UInt8
  tears : Bool
def fnV (k : Nat) : Value := .func (.func (if k = 0 then 66 else if k = 1 then 69 else 67)) #[] #[]
def Fl.run (f : Fl) (o : POp) : Fl := if o.kind = 0 then f.put o.name o.bytes else if o.kind = 1 then f.put o.name (f.get o.name ++ o.bytes) else f.move o.name o.to

/-- The cells of operations. -/
def OpsR (g : Gh) (w : World) : List Value → List POp → Prop
  | [], [] => True
  | f :: n :: t :: b :: k :: xs, o :: ops => (f = fnV o.kind ∧ n = .string o.name ∧ t = .string o.to ∧ k = .bool o.tears ∧ BytesAt g w b o.bytes) ∧ OpsR g w xs ops
  | _, _ => False
theorem OpsR.ext {g g' : Gh} {w w' : World} {M : Nat → Prop} (hx : Ext M g w g' w') : ∀ {xs : List Value} {ops : List POp}, OpsR g w xs ops → OpsR g' w' xs ops
  | [], [], _ => trivial
  | _ :: _ :: _ :: _ :: _ :: _, _ :: _, ⟨⟨h1, h2, h3, h4, h5⟩, h6⟩ => ⟨⟨h1, h2, h3, h4, h5.ext hx⟩, OpsR.ext hx h6⟩
theorem OpsR.snoc {g : Gh} {w : World} : ∀ {xs : List Value} {ops : List POp}, OpsR g w xs ops → ∀ {o : POp} {b : Value}, BytesAt g w b o.bytes → OpsR g w (xs ++ [fnV o.kind, .string o.name, .string o.to, b, .bool o.tears]) (ops ++ [o])
  | [], [], _, _, _, hb => ⟨⟨rfl, rfl, rfl, rfl, hb⟩, trivial⟩
  | _ :: _ :: _ :: _ :: _ :: _, _ :: _, ⟨h1, h2⟩, _, _, hb => ⟨h1, OpsR.snoc h2 hb⟩

structure Dev where
  kept : Fl
  now : Fl
  pend : List POp
  down : Bool
  fuse : Int

/-- What the device's fields lead to. -/
structure DevIn (g : Gh) (w : World) (d : Nat) (km nm : Nat) (A : Option Addr) (cap : Nat) (xs : List Value) (D : Dev) : Prop where
  ne : km ≠ nm
  kO : g.O km = d
  kF : g.F km = 0
  kept : FlRd g w km D.kept
  now : FlAp d g w nm D.now
  pend : App 96 5 d g w A D.pend.length cap xs
  ops : OpsR g w xs D.pend
  O : g.O d = d
  F : g.F d = 0
  f0 : 0 ≤ D.fuse
  f1 : D.fuse ≤ 4611686018427387904
def devCs (km nm : Nat) (A : Option Addr) (cap : Nat) (D : Dev) : List Value := [.map (some km), .map (some nm), .slice A D.pend.length cap, .bool D.down, .int .i64 D.fuse]
def DevAt (g : Gh) (w : World) (d : Nat) (D : Dev) : Prop := ∃ km nm A cap xs, Blk d 63 (devCs km nm A cap D) w ∧ DevIn g w d km nm A cap xs D

theorem FlRd.lt {g : Gh} {w : World} {b : Nat} {f : Fl} (h : FlRd g w b f) : b < w.heap.size := by
  obtain ⟨L, h1, _⟩ := h.ex
  exact h1.lt
/-- The inside is kept where all is as it was but the device's own block. -/
theorem DevIn.keep {g g' : Gh} {w w' : World} {d km nm : Nat} {A : Option Addr} {cap : Nat} {xs : List Value} {D : Dev} {M : Nat → Prop} (h : DevIn g w d km nm A cap xs D) (hx : Ext M g w g' w') (hd : d < w.heap.size)
    (hk : ∀ k, k < w.heap.size → k ≠ d → g.F k ≠ 0 ∨ k = nm ∨ k = km → w'.heap[k]? = w.heap[k]? ∧ g'.F k = g.F k) (hdm : d ≠ nm) (hdk : d ≠ km) : DevIn g' w' d km nm A cap xs D := by
  have hFd : ∀ k, g.F k ≠ 0 → k ≠ d := fun k hF e => by rw [e, h.F] at hF; exact hF rfl
  obtain ⟨q1, q2⟩ := hk km h.kept.lt (Ne.symm hdk) (.inr (.inr rfl))
  refine ⟨h.ne, (hx.own km h.kept.lt).trans h.kO, q2.trans h.kF, h.kept.ext hx q1, h.now.same hx fun k hkl ho => ?_, h.pend.ext' hx fun b off hA hb hlt => ?_, h.ops.ext hx, (hx.own d hd).trans h.O, hx.zero d hd h.F, h.f0, h.f1⟩
  · rcases ho with ho | ho
    · exact hk k hkl (hFd k ho) (.inl ho)
    · exact hk k hkl (by rw [ho]; exact Ne.symm hdm) (.inr (.inl ho))
  · obtain ⟨h0, b2, cs, f1, _, f3, _⟩ := h.pend.sp hlt
    rw [hA] at f1; injection f1 with f1; injection f1 with f1 _
    have : g.F b ≠ 0 := by rw [f1, f3]; omega
    exact hk b hb (hFd b this) (.inl this)
theorem map_ne {w : World} {d b : Nat} {T : TypeId} {cs : List Value} {L : List (ByteArray × Value)} (h : Blk d T cs w) (hm : MapIs b L w) : d ≠ b := fun e => by
  obtain ⟨es, clk, h1, _⟩ := hm
  subst e
  unfold Blk at h
  rw [h] at h1
  cases h1
theorem DevIn.nes {g : Gh} {w : World} {d km nm : Nat} {A : Option Addr} {cap : Nat} {xs : List Value} {D : Dev} {T : TypeId} {cs : List Value} (h : DevIn g w d km nm A cap xs D) (hb : Blk d T cs w) : d ≠ nm ∧ d ≠ km := by
  obtain ⟨L, h1, _⟩ := h.now.ex
  obtain ⟨L', h1', _⟩ := h.kept.ex
  exact ⟨map_ne hb h1, map_ne hb h1'⟩
theorem DevAt.ext {g g' : Gh} {w w' : World} {d : Nat} {D : Dev} {M : Nat → Prop} (h : DevAt g w d D) (hx : Ext M g w g' w') (hm : ¬ M d) : DevAt g' w' d D := by
  obtain ⟨km, nm, A, cap, xs, hb, hi⟩ := h
  obtain ⟨n1, n2⟩ := hi.nes hb
  refine ⟨km, nm, A, cap, xs, hb.ext hx (by rw [hi.O]; exact hm), hi.ne, (hx.own km hi.kept.lt).trans hi.kO, ((hx.keep km hi.kept.lt (by rw [hi.kO]; exact hm)).2).trans hi.kF, hi.kept.ext hx (hx.keep km hi.kept.lt (by rw [hi.kO]; exact hm)).1, hi.now.ext hx hm, hi.pend.ext hx hm, hi.ops.ext hx, (hx.own d hb.lt).trans hi.O, hx.zero d hb.lt hi.F, hi.f0, hi.f1⟩
theorem DevAt.lt {g : Gh} {w : World} {d : Nat} {D : Dev} (h : DevAt g w d D) : d < w.heap.size := by
  obtain ⟨km, nm, A, cap, xs, hb, hi⟩ := h
  exact hb.lt
theorem DevAt.owner {g : Gh} {w : World} {d : Nat} {D : Dev} (h : DevAt g w d D) : g.O d = d := by
  obtain ⟨km, nm, A, cap, xs, hb, hi⟩ := h
  exact hi.O
/-- Only the device's own block is written. -/
theorem DevIn.self {g : Gh} {w w' : World} {d km nm : Nat} {A : Option Addr} {cap : Nat} {xs : List Value} {D : Dev} {T : TypeId} {cs : List Value} (h : DevIn g w d km nm A cap xs D) (hb : Blk d T cs w) (hg : w.grownBy w' (some d)) : Ext (· = d) g w g w' ∧ DevIn g w' d km nm A cap xs D := by
  obtain ⟨n1, n2⟩ := h.nes hb
  have hx : Ext (· = d) g w g w' := (Ext.refl (· = d) g w).one hg (fun _ => h.O) h.F
  exact ⟨hx, h.keep hx hb.lt (fun k hk hne _ => ⟨hg.block k hk (fun e => hne (by injection e)), rfl⟩) n1 n2⟩
/-- What a call on the device leaves. -/
def DevP (d : Nat) (g : Gh) (w : World) (D' : Dev) (w' : World) : Prop := ∃ g', Ext (· = d) g w g' w' ∧ DevAt g' w' d D'
theorem DevIn.fused {g : Gh} {w : World} {d km nm : Nat} {A : Option Addr} {cap : Nat} {xs : List Value} {D : Dev} (h : DevIn g w d km nm A cap xs D) {dn : Bool} {fu : Int} (h0 : 0 ≤ fu) (h1 : fu ≤ 4611686018427387904) : DevIn g w d km nm A cap xs { D with down := dn, fuse := fu } :=
  ⟨h.ne, h.kO, h.kF, h.kept, h.now, h.pend, h.ops, h.O, h.F, h0, h1⟩

/-- The fuse burns: does the power fail by it? -/
def burnB (D : Dev) : Bool := decide (D.fuse = 1)
def burnD (D : Dev) : Dev := if D.fuse = 0 then D else { D with down := burnB D, fuse := D.fuse - 1 }

set_option maxRecDepth 100000 in
set_option maxHeartbeats 800000 in
theorem burn_any (d : Nat) (g : Gh) (w : World) (D : Dev) (hD : DevAt g w d D) :
    Calls Try.prog 54 #[.pointer (some ⟨d, 0, none⟩)] w fun e w' => e = .returned (.bool (burnB D)) ∧ Ext (· = d) g w g w' ∧ DevAt g w' d (burnD D) := by
  obtain ⟨km, nm, A, cap, xs, hb, hi⟩ := hD
  have hf0 := hi.f0
  have hf1 := hi.f1
  have c0 : w.cell? ⟨d, 3, none⟩ = some (.bool D.down) := hb.cell 3
  have c1 : w.cell? ⟨d, 4, none⟩ = some (.int .i64 D.fuse) := hb.cell 4
  have z := hb.fz
  by_cases h0 : D.fuse = 0
  · have HFIN : Hid (burnB D = false ∧ DevAt g w d (burnD D)) := by
      refine ⟨by simp [burnB, h0], ?_⟩
      unfold burnD
      rw [if_pos h0]
      exact ⟨km, nm, A, cap, xs, hb, hi⟩
    have hq : (D.fuse == 0) = true := by simpa using h0
    clear hb hi h0
    go_enter Try.func54, Try.ntmps54
    go_wp2_with fail
    go_ret
    exact ⟨ret_bool HFIN.out.1.symm, Ext.refl _ _ _, HFIN.out.2⟩
  · have hq : (D.fuse == 0) = false := by simpa using h0
    have hq2 : (D.fuse - 1 == 0) = burnB D := by
      unfold burnB
      rw [Bool.eq_iff_iff]
      simp
      omega
    have HFIN : Hid (∀ w', w.grownBy w' (some d) → Blk d 63 (devCs km nm A cap { D with down := burnB D, fuse := D.fuse - 1 }) w' → Ext (· = d) g w g w' ∧ DevAt g w' d (burnD D)) := by
      intro w' hg hB
      obtain ⟨hx, hi'⟩ := hi.self hb hg
      refine ⟨hx, km, nm, A, cap, xs, ?_, ?_⟩
      · unfold burnD; rw [if_neg h0]; exact hB
      · unfold burnD; rw [if_neg h0]; exact hi'.fused (by omega) (by omega)
    have HB := Lib.hid hb
    clear hb hi
    generalize burnB D = bb at *
    go_enter Try.func54, Try.ntmps54
    go_wp2_with fail
    go_ret
    exact ⟨rfl, HFIN.out _ ((grownBy_setCell w ⟨d, 4, none⟩ _).trans (grownBy_setCell _ ⟨d, 3, none⟩ _)) ((HB.out.set 4 _).set 3 _)⟩

/-- Names that a slice of strings holds. -/
def namesOk (l : List ByteArray) : Bool := l.all (nmB true 64)
def checkI (D : Dev) (file : ByteArray) (names : List ByteArray) : Int := if D.down then 303 else if namesOk names = false then 300 else if (D.now.m file).isNone then 301 else 0

set_option maxRecDepth 100000 in
set_option maxHeartbeats 1600000 in
theorem check_any (d : Nat) (g : Gh) (w : World) (D : Dev) (hD : DevAt g w d D) (file : ByteArray) (names : List ByteArray) (b : Nat) (c : Nat) (hnm : Blk b 9 (names.map Value.string) w) (hsz : ∀ s ∈ names, s.size ≤ 9223372036854775807) (hl : names.length ≤ 2) (h0 : 0 < names.length) :
    Calls Try.prog 45 #[.pointer (some ⟨d, 0, none⟩), .string file, .slice (some ⟨b, 0, none⟩) names.length c] w fun e w' => e = .returned (.int .i64 (checkI D file names)) ∧ w = w' := by
  obtain ⟨km, nm, A, cap, xs, hb, hi⟩ := hD
  have c0 : w.cell? ⟨d, 3, none⟩ = some (.bool D.down) := hb.cell 3
  have c1 : w.cell? ⟨d, 1, none⟩ = some (.map (some nm)) := hb.cell 1
  cases hdn : D.down
  · rw [hdn] at c0
    have HC : Hid (checkI D file names = if namesOk names = false then 300 else if (D.now.m file).isNone then 301 else 0) := by
      show _ = _
      unfold checkI
      rw [hdn]
      rfl
    obtain ⟨L, hL, _⟩ := hi.now.ex
    have hfd := hi.now.found hL file
    have HL := Lib.hid hL
    have HFD := Lib.hid hfd
    have HNM := Lib.hid hnm
    have HSZ := Lib.hid hsz
    clear hb hi hdn hL hfd hnm hsz
    go_enter Try.func45, Try.ntmps45
    go_wp2_with fail
    go_loop [17] (fun i => ∃ k : Nat, k ≤ names.length ∧ i = .int .i64 k ∧ Hid (namesOk (names.take k) = true)) (fun i => names.length - (intOf i).toNat)
    case atStart => exact ⟨0, Nat.zero_le _, rfl, rfl⟩
    case round =>
      obtain ⟨k, hk, rfl, HK⟩ := hrel
      by_cases hlt : k < names.length
      · have hcell : w.cell? ⟨b, k, none⟩ = some (.string names[k]) := by
          have := HNM.out.cell k
          rw [this]
          simp [hlt]
        have hs1 := HSZ.out names[k] (List.getElem_mem hlt)
        have htk : Hid (namesOk (names.take (k + 1)) = (namesOk (names.take k) && nmB true 64 names[k])) := by
          show _ = _
          unfold namesOk
          rw [List.take_succ_eq_append_getElem hlt, List.all_append]
          simp
        have hbad : Hid (nmB true 64 names[k] = false → checkI D file names = 300) := by
          intro hf
          rw [HC.out, if_pos]
          unfold namesOk
          rw [List.all_eq_false]
          exact ⟨_, List.getElem_mem hlt, by simp [hf]⟩
        generalize names[k] = nmk at *
        cases hv : nmB true 64 nmk
        · have HV := Lib.hid hv
          clear hv
          go_wp2_with fail
          refine (dname_any nmk _ hs1).mono ?_
          rw [HV.out]
          rintro e w' ⟨rfl, rfl⟩
          go_wp2_with fail
          go_ret
          exact ⟨ret_int (hbad.out HV.out).symm, rfl⟩
        · have HV := Lib.hid hv
          clear hv
          go_wp2_with fail
          refine (dname_any nmk _ hs1).mono ?_
          rw [HV.out]
          rintro e w' ⟨rfl, rfl⟩
          go_wp2_with fail
          go_round
          case rel => exact ⟨k + 1, by omega, by go_num, by show _ = _; rw [htk.out, HK.out, HV.out]; rfl⟩
          case measure => simp [intOf]; omega
      · have hall : Hid (namesOk names = true) := by
          have := HK.out
          rwa [List.take_of_length_le (by omega)] at this
        rcases HFD.out with ⟨h1, h2⟩ | ⟨l, A1, c1, h1, h2, _, _⟩
        · have HFIN : Hid (checkI D file names = 301) := by
            show _ = _
            rw [HC.out, if_neg (by rw [hall.out]; simp), if_pos (by rw [h2]; rfl)]
          have H1 := Lib.hid h1
          clear h1 h2 HFD
          go_wp2_with (with_reducible refine wpList_look_none rfl (.tmp 29) (.tmp 30) 60 true rfl 9 37 Try.underlying60 Try.underlying9 nm L rfl HL.out (.slice none 0 0) (zeroBytes _) file rfl H1.out ?_)
          go_ret
          exact ⟨ret_int HFIN.out.symm, rfl⟩
        · have HFIN : Hid (checkI D file names = 0) := by
            show _ = _
            rw [HC.out, if_neg (by rw [hall.out]; simp), if_neg (by rw [h2]; simp)]
          have H1 := Lib.hid h1
          clear h1 h2 HFD
          go_wp2_with (with_reducible refine wpList_look_some rfl (.tmp 29) (.tmp 30) 60 true rfl 9 37 Try.underlying60 Try.underlying9 nm L rfl HL.out file rfl _ H1.out ?_)
          go_ret
          exact ⟨ret_int HFIN.out.symm, rfl⟩
  · rw [hdn] at c0
    have HC : Hid (checkI D file names = 303) := by
      show _ = _
      unfold checkI
      rw [hdn]
      rfl
    clear hb hi hdn hnm hsz
    go_enter Try.func45, Try.ntmps45
    go_wp2_with fail
    go_ret
    exact ⟨ret_int HC.out.symm, rfl⟩

def fl0 : Fl := ⟨fun _ => none, 0⟩
def dev0 : Dev := ⟨fl0, fl0, [], false, 0⟩
set_option maxRecDepth 100000 in
set_option maxHeartbeats 800000 in
theorem new_any (g : Gh) (w : World) : Calls Try.prog 4 #[] w fun e w' => ∃ d g', e = .returned (.pointer (some ⟨d, 0, none⟩)) ∧ w.heap.size ≤ d ∧ Below w.heap.size w w' ∧ (∀ b, b < w.heap.size → g'.F b = g.F b) ∧ (∀ b, b < w.heap.size → g'.O b = g.O b) ∧ DevAt g' w' d dev0 := by
  have hmm := @run_makeMap Try.prog
  go_enter Try.func4, Try.ntmps4
  go_wp2_with fail
  go_ret
  have hb2 : Blk (w.heap.size + 1 + 1) 63 (devCs w.heap.size (w.heap.size + 1) none 0 dev0) (((w.alloc (.map #[] 0)).alloc (.map #[] 0)).alloc (.cells #[.map (some w.heap.size), .map (some (w.heap.size + 1)), .slice none 0 0, .bool false, .int .i64 0] 63)) := by
    have := Blk.new ((w.alloc (.map #[] 0)).alloc (.map #[] 0)) 63 (devCs w.heap.size (w.heap.size + 1) none 0 dev0)
    simpa [devCs, dev0] using this
  have hm1 : MapIs w.heap.size [] (((w.alloc (.map #[] 0)).alloc (.map #[] 0)).alloc (.cells #[.map (some w.heap.size), .map (some (w.heap.size + 1)), .slice none 0 0, .bool false, .int .i64 0] 63)) := ((MapIs.new w).alloc _).alloc _
  have hm2 : MapIs (w.heap.size + 1) [] (((w.alloc (.map #[] 0)).alloc (.map #[] 0)).alloc (.cells #[.map (some w.heap.size), .map (some (w.heap.size + 1)), .slice none 0 0, .bool false, .int .i64 0] 63)) := by
    have := (MapIs.new (w.alloc (.map #[] 0))).alloc (.cells #[.map (some w.heap.size), .map (some (w.heap.size + 1)), .slice none 0 0, .bool false, .int .i64 0] 63)
    simpa using this
  refine ⟨w.heap.size + 1 + 1, ⟨fun b => if b < w.heap.size then g.F b else 0, fun b => if b < w.heap.size then g.O b else w.heap.size + 1 + 1⟩, rfl, by omega, (((Below.refl _ _).alloc (Nat.le_refl _) _).alloc (by simp) _).alloc (by simp; omega) _, fun b hb => by simp [hb], fun b hb => by simp [hb], w.heap.size, w.heap.size + 1, none, 0, [], hb2, ?_⟩
  refine ⟨by omega, by simp, by simp, ⟨[], hm1, rfl, fun _ _ => rfl, fun k v h => by simp [look] at h⟩, ⟨⟨[], hm2, rfl, fun _ _ => rfl, fun k v h => by simp [look] at h, fun k k' A n c A' n' c' h => by simp [look] at h⟩, (by dsimp only; rw [if_neg (by omega)]), (by dsimp only; rw [if_neg (by omega)])⟩, App.nil _ _ _ _ _, trivial, ?_, ?_, by simp [dev0], by simp [dev0]⟩
  · dsimp only; rw [if_neg (by omega)]
  · dsimp only; rw [if_neg (by omega)]

set_option maxRecDepth 100000 in
set_option maxHeartbeats 800000 in
theorem fuse_any (d : Nat) (g : Gh) (w : World) (D : Dev) (hD : DevAt g w d D) (n : Int) (h0 : 0 ≤ n) (h1 : n ≤ 4611686018427387904) :
    Calls Try.prog 11 #[.pointer (some ⟨d, 0, none⟩), .int .i64 n] w fun e w' => e = .returned (.tuple #[]) ∧ DevP d g w { D with fuse := n } w' := by
  obtain ⟨km, nm, A, cap, xs, hb, hi⟩ := hD
  have c1 : w.cell? ⟨d, 4, none⟩ = some (.int .i64 D.fuse) := hb.cell 4
  have z := hb.fz
  have hmx : max n 0 = n := by omega
  have HFIN : Hid (∀ w', w.grownBy w' (some d) → Blk d 63 (devCs km nm A cap { D with fuse := n }) w' → DevP d g w { D with fuse := n } w') := by
    intro w' hg hB
    obtain ⟨hx, hi'⟩ := hi.self hb hg
    exact ⟨g, hx, km, nm, A, cap, xs, hB, hi'.fused (dn := D.down) h0 h1⟩
  have HB := Lib.hid hb
  clear hb hi
  go_enter Try.func11, Try.ntmps11
  go_wp2_with fail
  go_end0
  exact ⟨rfl, HFIN.out _ (grownBy_setCell w ⟨d, 4, none⟩ _) (HB.out.set 4 _)⟩

end Go.Proofs.Ythjbaafbkalomaa
