/-
  The base for seats without the journal (joined by a program of ours from our own texts).
-/
import Derived.Test.YtjjdffafibonhaaGreatDoorGenA
import Derived.Test.YtjjdffafibonhaaGreatDoorGenH
import Derived.LoopN
import Derived.Defers
import Derived.Recover
namespace Go.Proofs.YtjjdffafibonhaaGreatDoor
section
open Go.RowKit

theorem NewP.bytes {o : Nat} {g : Gh} {w w' : World} {l : List UInt8} {n : Nat} {xs : List Value} {e : Ending} (h : NewP 5 o g w n xs e w') (hn : n = l.length) (hl : xs = bv l) : ∃ A' cap' g', e = .returned (.slice A' l.length cap') ∧ Ext (fun _ => False) g w g' w' ∧ App 5 1 o g' w' A' l.length cap' (bv l) := by
  subst hn hl
  obtain ⟨A', cap', g', he, hb, hF, hO, ha, _⟩ := h
  exact ⟨A', cap', g', he, (Ext.of_below (fun _ => False) g hb).up hF hO, ha⟩

set_option maxRecDepth 100000 in
set_option maxHeartbeats 12800000 in
theorem encode_any (g : Gh) (w : World) (c : Ck) (hc : CkOk c) (A : Option Addr) (cap : Nat) (hr : BytesAt g w (.slice A c.st.length cap) c.st) :
    Calls Tryz.prog 101 #[.agg #[.bool true, .int .i64 c.seq, .int .i64 c.pos], .slice A c.st.length cap] w fun e w' => ∃ A' cap' g', e = .returned (.slice A' (encC c).length cap') ∧ Ext (fun _ => False) g w g' w' ∧ BytesAt g' w' (.slice A' (encC c).length cap') (encC c) := by
  obtain ⟨i0, hi, hz0, hz1, hz2⟩ := info_parts Tryz.infoU8
  obtain ⟨seq, pos, st⟩ := c
  have hs : seq < 1000000000 := hc.s
  have hp : pos < 1000000000 := hc.p
  have hl : st.length ≤ 2097152 := hc.l
  have HOK := Lib.hid hc
  obtain ⟨o, ho⟩ := owner_new g w.heap.size
  have HO := Lib.hid ho
  have hx0 := Ext.box (fun _ => False) g w (.cells #[.bool true, .int .i64 seq, .int .i64 pos] 91)
  have hB0 : Blk w.heap.size 91 [.bool true, .int .i64 seq, .int .i64 pos] (w.alloc (.cells #[.bool true, .int .i64 seq, .int .i64 pos] 91)) := Blk.new w _ _
  have hxl := Ext.litB (fun _ => False) (g.box w.heap.size) (w.alloc (.cells #[.bool true, .int .i64 seq, .int .i64 pos] 91)) ckMark (4, 5)
  have hl0 := BytesAt.lit (g.box w.heap.size) (w.alloc (.cells #[.bool true, .int .i64 seq, .int .i64 pos] 91)) ckMark (4, 5) (by decide)
  have hrl := (hr.ext hx0).ext hxl
  have hBl := hB0.ext hxl (fun h => h)
  have hX := hx0.trans hxl
  have hsz : (w.alloc (.cells #[.bool true, .int .i64 seq, .int .i64 pos] 91)).heap.size = w.heap.size + 1 := by simp
  have hcv := Lib.run_convert_bytes_const (P := Tryz.prog) (w.alloc (.cells #[.bool true, .int .i64 seq, .int .i64 pos] 91)) 30 5 #[.int .u8 83, .int .u8 89, .int .u8 67, .int .u8 80] 4 4 Tryz.underlying30 Tryz.underlying5
  rw [hsz] at hX hrl hl0 hcv
  generalize (g.box w.heap.size).lit (w.heap.size + 1) ckMark.length = gl at *
  obtain ⟨_, hlz, hlr⟩ := hl0.rd
  have HLR : Hid (Rd 1 gl ((w.alloc (.cells #[.bool true, .int .i64 seq, .int .i64 pos] 91)).alloc (.cells #[.int .u8 83, .int .u8 89, .int .u8 67, .int .u8 80] 5 (4, 5))) (some ⟨w.heap.size + 1, 0, none⟩) 4 (bv ckMark)) := hlr
  have HX : Hid (Ext (fun _ => False) g w gl ((w.alloc (.cells #[.bool true, .int .i64 seq, .int .i64 pos] 91)).alloc (.cells #[.int .u8 83, .int .u8 89, .int .u8 67, .int .u8 80] 5 (4, 5)))) := hX
  have HRL : Hid (BytesAt gl ((w.alloc (.cells #[.bool true, .int .i64 seq, .int .i64 pos] 91)).alloc (.cells #[.int .u8 83, .int .u8 89, .int .u8 67, .int .u8 80] 5 (4, 5))) (.slice A st.length cap) st) := hrl
  have HBL : Hid (Blk w.heap.size 91 [.bool true, .int .i64 seq, .int .i64 pos] ((w.alloc (.cells #[.bool true, .int .i64 seq, .int .i64 pos] 91)).alloc (.cells #[.int .u8 83, .int .u8 89, .int .u8 67, .int .u8 80] 5 (4, 5)))) := hBl
  have c1 : ((w.alloc (.cells #[.bool true, .int .i64 seq, .int .i64 pos] 91)).alloc (.cells #[.int .u8 83, .int .u8 89, .int .u8 67, .int .u8 80] 5 (4, 5))).cell? ⟨w.heap.size, 1, none⟩ = some (.int .i64 seq) := hBl.cell 1
  have w1 : IntKind.u64.wrap (seq : Int) = seq := by rw [IntKind.wrap_u64]; omega
  have w2 : IntKind.u64.wrap (pos : Int) = pos := by rw [IntKind.wrap_u64]; omega
  have w3 : IntKind.u64.wrap (st.length : Int) = st.length := by rw [IntKind.wrap_u64]; omega
  have e1 := encU_len10 (v := seq) (by omega)
  have e2 := encU_len10 (v := pos) (by omega)
  have e3 := encU_len10 (v := st.length) (by omega)
  clear hr ho hc hx0 hB0 hxl hl0 hrl hBl hX hlz hlr hsz
  go_enter Tryz.func101, Tryz.ntmps101
  go_wp2_with fail
  refine (putUint_any o gl (some ⟨w.heap.size + 1, 0, none⟩) 4 4 (bv ckMark) seq _ HLR.out (fun h => by cases h) (bv_one _) (by omega) (by omega)).mono ?_
  rintro e x1 hP
  obtain ⟨A1, p1, g1, rfl, hx1, ha1⟩ := hP.bytes (l := ckMark ++ encU seq) (by simp [ckMark]; omega) (by rw [bv_append])
  have HX1 := Lib.hid (HX.out.trans hx1)
  have HA1 := Lib.hid ha1
  have HR1 := Lib.hid (HRL.out.ext hx1)
  have HB1 := Lib.hid (HBL.out.ext hx1 (fun h => h))
  have c2 : x1.cell? ⟨w.heap.size, 2, none⟩ = some (.int .i64 pos) := HB1.out.cell 2
  have n1 : (ckMark ++ encU seq).length = 4 + (encU seq).length := by simp [ckMark]; omega
  have HN1 := Lib.hid n1
  clear n1
  generalize hL1 : ckMark ++ encU seq = L1 at *
  have HL1 := Lib.hid hL1
  clear hL1
  clear hP hx1 ha1 HX HRL HBL c1 hcv HLR
  go_wp2_with fail
  refine (putUint_any o g1 A1 _ p1 (bv L1) pos _ HA1.out.rd (fun h => (HA1.out.nz h).1) (bv_one _) (by have := HN1.out; omega) (by omega)).mono ?_
  rintro e x2 hP
  obtain ⟨A2, p2, g2, rfl, hx2, ha2⟩ := hP.bytes (l := L1 ++ encU pos) (by simp) (by rw [bv_append _ (encU pos)])
  have HX2 := Lib.hid (HX1.out.trans hx2)
  have HA2 := Lib.hid ha2
  have HR2 := Lib.hid (HR1.out.ext hx2)
  have n2 : (L1 ++ encU pos).length = 4 + (encU seq).length + (encU pos).length := by rw [List.length_append, HN1.out]
  have HN2 := Lib.hid n2
  clear n2
  generalize hL2 : L1 ++ encU pos = L2 at *
  have HL2 := Lib.hid hL2
  clear hL2
  clear hP hx2 ha2 HX1 HA1 HR1 HB1 c2
  go_wp2_with fail
  refine (putUint_any o g2 A2 _ p2 (bv L2) st.length _ HA2.out.rd (fun h => (HA2.out.nz h).1) (bv_one _) (by have := HN2.out; omega) (by omega)).mono ?_
  rintro e x3 hP
  obtain ⟨A3, p3, g3, rfl, hx3, ha3⟩ := hP.bytes (l := L2 ++ encU st.length) (by simp) (by rw [bv_append _ (encU st.length)])
  have HX3 := Lib.hid (HX2.out.trans hx3)
  have HA3 := Lib.hid ha3
  have hr3 := HR2.out.ext hx3
  obtain ⟨_, hrz, hrr⟩ := hr3.rd
  have HS3 := Lib.hid (hrr.src (P := Tryz.prog) Tryz.underlying30 cap (bv_one _) hrz)
  have n3 : (L2 ++ encU st.length).length = 4 + (encU seq).length + (encU pos).length + (encU st.length).length := by rw [List.length_append, HN2.out]
  have HN3 := Lib.hid n3
  clear n3
  clear hP hx3 ha3 HX2 HA2 HR2 hr3 hrz hrr
  generalize hL : L2 ++ encU st.length = L at *
  have HL := Lib.hid hL
  clear hL
  go_wp2_with (at_builtin; refine wpList_append_app rfl _ _ _ _ rfl 5 i0 (.int .u8 0) 1 1 Tryz.underlying30 hi hz0 hz1 hz2 rfl (by decide) rfl HA3.out rfl HS3.out (by unfold maxLen; have := HN3.out; omega) (by have := HN3.out; omega) ?_; intro A4 p4 x4 g4 hx4 ha4 _)
  have hbody : ckBody ⟨seq, pos, st⟩ = L ++ st := by rw [← HL.out, ← HL2.out, ← HL1.out]; rfl
  have ha4' : App 5 1 o g4 x4 A4 (L ++ st).length p4 (bv (L ++ st)) := by rw [List.length_append, bv_append]; exact ha4
  have HA4 := Lib.hid ha4'
  have HX4 := Lib.hid ((HX3.out.imp (fun _ h => h.elim)).trans hx4)
  have hlen : (L ++ st).length = L.length + st.length := List.length_append ..
  rw [← hlen]
  have HLE := Lib.hid hlen
  clear hlen
  have HBODY := Lib.hid hbody
  clear ha4 ha4' hx4 HX3 HA3 HS3 hbody
  generalize hM : L ++ st = M at *
  clear hM
  have hsb := sumF_bd M
  obtain ⟨sn, hsn⟩ : ∃ sn : Nat, sumF M = (sn : Int) := ⟨(sumF M).toNat, by omega⟩
  have hsn2 : sn < 18446744073709551616 := by omega
  have HSN := Lib.hid hsn
  clear hsn hsb
  go_wp2_with fail
  refine (sum_any g4 A4 p4 M _ HA4.out.rd (by have := HN3.out; have := HLE.out; omega)).mono ?_
  rw [HSN.out]
  rintro e x5 ⟨rfl, rfl⟩
  go_wp2_with fail
  refine (putUint_any o g4 A4 _ p4 (bv M) sn _ HA4.out.rd (fun h => (HA4.out.nz h).1) (bv_one _) (by have := HN3.out; have := HLE.out; omega) hsn2).mono ?_
  rintro e x6 hP
  obtain ⟨A6, p6, g6, rfl, hx6, ha6⟩ := hP.bytes (l := M ++ encU sn) (by simp) (by rw [bv_append])
  have HX6 := Lib.hid (HX4.out.trans (hx6.imp (fun _ h => h.elim)))
  have HA6 := Lib.hid ha6
  have HE : Hid (encC ⟨seq, pos, st⟩ = M ++ encU sn) := by show _ = _; unfold encC; rw [HBODY.out, HSN.out]; simp
  clear hP hx6 ha6 HX4 HA4
  generalize M ++ encU sn = R at *
  go_wp2_with fail
  go_ret
  rw [HE.out]
  exact ⟨A6, p6, g6, rfl, HX6.out.more (fun b hb e => absurd e (HO.out b hb)), BytesAt.of_new HA6.out⟩
end

section
open Go.RowKit

set_option maxRecDepth 100000 in
theorem hasPrefix_short (_g : Gh) (w : World) (A B : Option Addr) (n c c' : Nat) (hn : n < 4) :
    Calls Tryz.prog 97 #[.slice A n c, .slice B 4 c'] w fun e w' => e = .returned (.bool false) ∧ ∃ k, w' = w.drewN k := by
  go_enter Tryz.func97, Tryz.ntmps97
  go_wp2_with fail
  (try go_quiet (fail))
  (try go_wp2_with fail)
  go_ret
  first | exact ⟨rfl, 0, rfl⟩ | exact ⟨rfl, nq, rfl⟩

/-- What is left of a slot's bytes ahead of number k. -/
noncomputable def ckRest (c : Ck) : Nat → List UInt8
  | 0 => encU c.seq ++ ckR0 c
  | 1 => ckR0 c
  | 2 => ckR1 c
  | _ => ckR2 c
theorem ck_step {c : Ck} (h : CkOk c) {l : List UInt8} (hp : l <+: encC c) {k : Nat} (hk : k < 3) (hl : ckOff c k ≤ l.length) (hr : l.drop (ckOff c k) <+: ckRest c k) :
    (decU 0 0 (l.drop (ckOff c k)) = (ckNum c k, ckOff c (k + 1) - ckOff c k, 0) ∧ ckOff c (k + 1) ≤ l.length ∧ l.drop (ckOff c (k + 1)) <+: ckRest c (k + 1)) ∨
    (decU 0 0 (l.drop (ckOff c k)) = (0, 0, 11) ∧ l ≠ encC c) := by
  have := ck_num h hp hk hl (by rcases k with _ | _ | _ | k <;> first | exact hr | omega)
  rcases k with _ | _ | _ | k
  · exact this
  · exact this
  · exact this
  · omega
theorem ckOff_mono (c : Ck) {k : Nat} (hk : k < 3) : ckOff c k ≤ ckOff c (k + 1) := by
  rcases k with _ | _ | _ | k
  · simp [ckOff]
  · simp [ckOff]
  · simp [ckOff]
  · omega
theorem ckOff_bd {c : Ck} (h : CkOk c) (k : Nat) : ckOff c k ≤ 34 := by
  have h2 := encU_len10 (v := c.seq) (by have := h.s; omega)
  have h3 := encU_len10 (v := c.pos) (by have := h.p; omega)
  have h4 := encU_len10 (v := c.st.length) (by have := h.l; omega)
  rcases k with _ | _ | _ | k <;> simp only [ckOff] <;> omega
theorem ckNum_bd {c : Ck} (h : CkOk c) (k : Nat) : ckNum c k < 1000000000 := by
  have := h.s; have := h.p; have := h.l
  rcases k with _ | _ | k <;> simp only [ckNum] <;> omega
/-- Behind the three numbers. -/
theorem ck_last {c : Ck} {l : List UInt8} (hp : l <+: encC c) (hl : ckOff c 3 ≤ l.length) (_hr : l.drop (ckOff c 3) <+: ckR2 c) :
    (l.length - ckOff c 3 < c.st.length ∧ l ≠ encC c) ∨
    (c.st.length ≤ l.length - ckOff c 3 ∧ decU 0 0 (l.drop (ckOff c 3 + c.st.length)) = (0, 0, 11) ∧ l ≠ encC c) ∨
    (c.st.length ≤ l.length - ckOff c 3 ∧ decU 0 0 (l.drop (ckOff c 3 + c.st.length)) = ((sumF (ckBody c)).toNat, l.length - (ckOff c 3 + c.st.length), 0) ∧ l = encC c ∧ l.take (ckOff c 3 + c.st.length) = ckBody c ∧ (l.drop (ckOff c 3)).take c.st.length = c.st) := by
  have hbl := ckBody_len c
  have hel : (encC c).length = ckOff c 3 + c.st.length + (encU (sumF (ckBody c)).toNat).length := by simp [encC, hbl]
  have hpos := encU_pos (sumF (ckBody c)).toNat
  by_cases h1 : l.length - ckOff c 3 < c.st.length
  · exact .inl ⟨h1, fun e => by rw [e] at h1; omega⟩
  · have hd : l.drop (ckOff c 3 + c.st.length) <+: encU (sumF (ckBody c)).toNat ++ [] := by
      have : l.drop (ckOff c 3 + c.st.length) <+: (encC c).drop (ckOff c 3 + c.st.length) := by
        obtain ⟨t, e⟩ := hp
        rw [← e, List.drop_append_of_le_length (by omega)]
        exact List.prefix_append _ _
      rw [List.append_nil]
      have e : (encC c).drop (ckOff c 3 + c.st.length) = encU (sumF (ckBody c)).toNat := by
        unfold encC
        rw [← hbl, List.drop_left]
      rw [e] at this
      exact this
    rcases dec_pre (sumF_lt (ckBody c)) hd with ⟨a, b, _⟩ | ⟨a, b⟩
    · right; right
      rw [List.length_drop] at b
      have hle := hp.length_le
      have e : l = encC c := hp.eq_of_length (by omega)
      refine ⟨by omega, ?_, e, ?_, ?_⟩
      · rw [a, e, hel]
        congr 2
        omega
      · rw [e]; unfold encC; rw [← hbl, List.take_left]
      · rw [e]
        have : encC c = ((((ckMark ++ encU c.seq) ++ encU c.pos) ++ encU c.st.length) ++ c.st) ++ encU (sumF (ckBody c)).toNat := rfl
        rw [this, List.append_assoc _ c.st]
        have e3 : ckOff c 3 = (((ckMark ++ encU c.seq) ++ encU c.pos) ++ encU c.st.length).length := by simp [ckOff, ckMark]; omega
        rw [e3, List.drop_left, List.take_left]
    · right; left
      refine ⟨by omega, a, fun e => ?_⟩
      rw [List.length_drop, e, hel] at b
      omega

def nums (c : Ck) (k : Nat) : List Value := [.int .u64 (if 0 < k then c.seq else 0 : Nat), .int .u64 (if 1 < k then c.pos else 0 : Nat), .int .u64 (if 2 < k then c.st.length else 0 : Nat)]
theorem nums_set (c : Ck) {k : Nat} (hk : k < 3) : (nums c k).set k (.int .u64 (ckNum c k)) = nums c (k + 1) := by
  rcases k with _ | _ | _ | k
  · simp [nums, ckNum]
  · simp [nums, ckNum]
  · simp [nums, ckNum]
  · omega
theorem nums3 (c : Ck) : nums c 3 = [.int .u64 (c.seq : Nat), .int .u64 (c.pos : Nat), .int .u64 (c.st.length : Nat)] := by simp [nums]
theorem nums0 (c : Ck) : nums c 0 = [.int .u64 0, .int .u64 0, .int .u64 0] := by simp [nums]
theorem Ext.put3 {M : Nat → Prop} {g g' : Gh} {w w' : World} (h : Ext M g w g' w') {b : Nat} (hb : w.heap.size ≤ b) (hF : g'.F b = 0) (u v y : Value) : Ext M g w g' (((w'.setCell ⟨b, 0, none⟩ u).setCell ⟨b, 1, none⟩ v).setCell ⟨b, 2, none⟩ y) :=
  ((h.setCell (p := ⟨b, 0, none⟩) (fun h' => absurd h' (Nat.not_lt.2 hb)) hF u).setCell (p := ⟨b, 1, none⟩) (fun h' => absurd h' (Nat.not_lt.2 hb)) hF v).setCell (p := ⟨b, 2, none⟩) (fun h' => absurd h' (Nat.not_lt.2 hb)) hF y
theorem Blk.put3 {x : World} {b : Nat} {T : TypeId} {p q r : Value} (h : Blk b T [p, q, r] x) (u v y : Value) : Blk b T [u, v, y] (((x.setCell ⟨b, 0, none⟩ u).setCell ⟨b, 1, none⟩ v).setCell ⟨b, 2, none⟩ y) := by
  have := ((h.set 0 u).set 1 v).set 2 y
  simpa using this
/-- A store into a block that is no row leaves bytes as they are. -/
theorem BytesAt.far {g : Gh} {x : World} {v : Value} {l : List UInt8} (h : BytesAt g x v l) {p : Addr} (hF : g.F p.block = 0) (u : Value) : BytesAt g (x.setCell p u) v l :=
  h.ext ((Ext.refl (fun _ => True) g x).setCell (fun _ => trivial) hF u)
/-- What decode hands back. -/
def DecP (g : Gh) (w : World) (l : List UInt8) (c : Ck) (e : Ending) (w' : World) : Prop :=
  ∃ g', Ext (fun _ => False) g w g' w' ∧ ((l = encC c ∧ ∃ A, e = .returned (.tuple #[.agg #[.bool true, .int .i64 c.seq, .int .i64 c.pos], .slice A c.st.length c.st.length]) ∧ BytesAt g' w' (.slice A c.st.length c.st.length) c.st) ∨
    (l ≠ encC c ∧ e = .returned (.tuple #[.agg #[.bool false, .int .i64 0, .int .i64 0], .slice none 0 0])))

set_option maxRecDepth 100000 in
set_option maxHeartbeats 6400000 in
theorem decode_any (g : Gh) (w : World) (c : Ck) (hc : CkOk c) (l : List UInt8) (hp : l <+: encC c) (A : Option Addr) (cap : Nat) (hr : BytesAt g w (.slice A l.length cap) l) :
    Calls Tryz.prog 71 #[.slice A l.length cap] w (DecP g w l c) := by
  have hlen : l.length ≤ 2097196 := Nat.le_trans hp.length_le (encC_len hc)
  have HC := Lib.hid hc
  have HP := Lib.hid hp
  have hx0 := Ext.box (fun _ => False) g w (.cells #[.bool false, .int .i64 0, .int .i64 0] 91)
  have hB0 := Blk.new w 91 [.bool false, .int .i64 0, .int .i64 0]
  have hsz : (w.alloc (.cells #[.bool false, .int .i64 0, .int .i64 0] 91)).heap.size = w.heap.size + 1 := by simp
  have hxl := Ext.litB (fun _ => False) (g.box w.heap.size) (w.alloc (.cells #[.bool false, .int .i64 0, .int .i64 0] 91)) [83, 89, 67, 80] (4, 5)
  have HM := Lib.hid (BytesAt.lit (g.box w.heap.size) (w.alloc (.cells #[.bool false, .int .i64 0, .int .i64 0] 91)) [83, 89, 67, 80] (4, 5) (by decide))
  have HX := Lib.hid (hx0.trans hxl)
  have HB := Lib.hid (hB0.ext hxl (fun h => h))
  have HR := Lib.hid ((hr.ext hx0).ext hxl)
  have hcv := Lib.run_convert_bytes_const (P := Tryz.prog) (w.alloc (.cells #[.bool false, .int .i64 0, .int .i64 0] 91)) 30 5 #[.int .u8 83, .int .u8 89, .int .u8 67, .int .u8 80] 4 4 Tryz.underlying30 Tryz.underlying5
  rw [hsz] at HX HM HR hcv
  clear hxl hB0 hx0 hr hc hp
  simp only [List.length_cons, List.length_nil, Nat.zero_add, Nat.reduceAdd] at HM HB HR HX
  have hFl : ((g.box w.heap.size).lit (w.heap.size + 1) 4).F w.heap.size = 0 := by simp [Gh.lit, Gh.box]
  generalize (g.box w.heap.size).lit (w.heap.size + 1) 4 = gl at *
  by_cases h4 : l.length < 4
  · have HNE : Hid (l ≠ encC c) := fun e => by
      rw [e, encC_split, List.length_append] at h4
      simp [ckMark] at h4
      omega
    go_enter Tryz.func71, Tryz.ntmps71
    go_wp2_with fail
    refine (hasPrefix_short gl _ A _ l.length cap 4 h4).mono ?_
    rintro e w1 ⟨rfl, n1, rfl⟩
    have z := (HB.out.drewN n1).fz
    go_wp2_with fail
    refine bodyPost_ret (v := .tuple #[.agg #[.bool false, .int .i64 0, .int .i64 0], .slice none 0 0]) (by simp [results, Tryz.results71, go_sem]) rfl ?_
    exact ⟨_, Ext.put3 (HX.out.drewN n1) (Nat.le_refl _) hFl _ _ _, .inr ⟨HNE.out, rfl⟩⟩
  have HX1 := HX
  go_enter Tryz.func71, Tryz.ntmps71
  go_wp2_with fail
  have h44 : l.take 4 = [83, 89, 67, 80] := by
    obtain ⟨t, e⟩ := HP.out
    have := congrArg (List.take 4) e
    rw [List.take_append_of_le_length (by omega), encC_split] at this
    exact this
  refine (bytesPrefix_any gl _ A _ l.length cap 4 l [83, 89, 67, 80] HR.out HM.out (by omega) h44).mono ?_
  rintro e w1 ⟨rfl, n1, rfl⟩
  have hx1 : Ext (fun _ => False) gl ((w.alloc (.cells #[.bool false, .int .i64 0, .int .i64 0] 91)).alloc (.cells (bv [83, 89, 67, 80]).toArray 5 (4, 5))) gl (((w.alloc (.cells #[.bool false, .int .i64 0, .int .i64 0] 91)).alloc (.cells (bv [83, 89, 67, 80]).toArray 5 (4, 5))).drewN n1) := (Ext.refl _ _ _).drewN _
  have HX2 := Lib.hid (HX.out.trans hx1)
  have HB2 := Lib.hid (HB.out.ext hx1 (fun h => h))
  have HR2 := Lib.hid (HR.out.ext hx1)
  clear hx1 HX HB HR HM hcv h44 HX1
  have HG : ∃ w1, w1 = ((w.alloc (.cells #[.bool false, .int .i64 0, .int .i64 0] 91)).alloc (.cells (bv [83, 89, 67, 80]).toArray 5 (4, 5))).drewN n1 := ⟨_, rfl⟩
  obtain ⟨w1, hw1⟩ := HG
  rw [← hw1] at HX2 HB2 HR2
  rw [← hw1]
  clear hw1
  have hxa := Ext.box (fun _ => False) gl w1 (.cells #[.int .u64 0, .int .u64 0, .int .u64 0] 155)
  have hba := Blk.new w1 155 [.int .u64 0, .int .u64 0, .int .u64 0]
  have HX3 := Lib.hid (HX2.out.trans hxa)
  have HB3 := Lib.hid (HB2.out.ext hxa (fun h => h))
  have HR3 := Lib.hid (HR2.out.ext hxa)
  have HBA := Lib.hid hba
  have hF3 : (gl.box w1.heap.size).F w1.heap.size = 0 := gl.box_F _
  have hFz : (gl.box w1.heap.size).F w.heap.size = 0 := by simp only [Gh.box]; split <;> first | rfl | exact hFl
  have hlt1 := HB2.out.lt
  clear hxa hba HX2 HB2 HR2
  generalize gl.box w1.heap.size = g3 at *
  go_wp2_with fail
  go_loopw [5, 18] (fun at_ i wr => ∃ k : Nat, k ≤ 3 ∧ i = .int .i64 k ∧ at_ = .int .i64 (ckOff c k : Nat) ∧ ckOff c k ≤ l.length ∧ Hid (l.drop (ckOff c k) <+: ckRest c k) ∧ Ext (fun _ => False) g w g3 wr ∧ Hid (BytesAt g3 wr (.slice A l.length cap) l) ∧ Blk w.heap.size 91 [.bool false, .int .i64 0, .int .i64 0] wr ∧ Blk w1.heap.size 155 (nums c k) wr) (fun _ i _ => 3 - (intOf i).toNat)
  case atStart =>
    refine ⟨0, by omega, rfl, rfl, by show 4 ≤ _; omega, ?_, HX3.out, HR3, HB3.out, ?_⟩
    · show l.drop 4 <+: encU c.seq ++ ckR0 c
      obtain ⟨t, e⟩ := HP.out
      have := congrArg (List.drop 4) e
      rw [List.drop_append_of_le_length (by omega), encC_split] at this
      exact ⟨t, this.trans (by simp [ckMark])⟩
    · rw [nums0]; exact HBA.out
  case round =>
    obtain ⟨k, hk, rfl, rfl, ho, hr, hx, HBT, hb, hn⟩ := hrel
    have HX4 := Lib.hid hx
    have HB4 := Lib.hid hb
    have HN4 := Lib.hid hn
    obtain ⟨hbz, hbr, hcc⟩ : (A = none → l.length = 0) ∧ Rd 1 g3 wr A l.length (bv l) ∧ l.length ≤ cap := by
      obtain ⟨A', cap', he, q1, q2, hz, hr⟩ := HBT.out.ex
      injection he with e1 e2 e3
      subst e1 e3
      exact ⟨hz, hr, q1⟩
    have HR4 := Lib.hid hbr
    clear hbr
    have z := hb.fz
    have zn := hn.fz
    have c0 : wr.cell? ⟨w.heap.size, 0, none⟩ = some (.bool false) := hb.cell 0
    have c1 : wr.cell? ⟨w.heap.size, 1, none⟩ = some (.int .i64 0) := hb.cell 1
    have c2 : wr.cell? ⟨w.heap.size, 2, none⟩ = some (.int .i64 0) := hb.cell 2
    have hnz : w.heap.size ≠ w1.heap.size := by omega
    clear hx hb
    by_cases h3 : k < 3
    · have hmono := ckOff_mono c h3
      have hnb := ckNum_bd HC.out k
      have hob := ckOff_bd HC.out (k + 1)
      obtain ⟨v, hv⟩ : ∃ v, wr.cell? ⟨w1.heap.size, k, none⟩ = some v := by
        rw [hn.cell k]
        rcases k with _ | _ | _ | k <;> first | exact ⟨_, rfl⟩ | omega
      rcases ck_step HC.out HP.out h3 ho hr.out with ⟨a, b, d⟩ | ⟨a, b⟩
      · have hoff : ckOff c k + (ckOff c (k + 1) - ckOff c k) = ckOff c (k + 1) := by omega
        have HSET := Lib.hid (nums_set c h3)
        have HA := Lib.hid a
        have HOF := Lib.hid hoff
        have HDR := Lib.hid d
        clear a d hn hr hoff
        generalize hcn : ckNum c k = cn at *
        go_wp2_with fail
        refine (uint_any g3 A cap l (ckOff c k) wr HR4.out (by omega) ho hcc).mono ?_
        rintro e w' hu
        obtain ⟨rfl, rfl⟩ := hu.ok HA.out HOF.out
        clear hu
        go_wp2_with fail
        go_round
        case rel =>
          refine ⟨k + 1, by omega, by simp, rfl, b, HDR.out, HX4.out.setCell (fun h' => absurd h' (by dsimp only; omega)) hF3 _, Lib.hid (HBT.out.far hF3 _), HB4.out.far (show w.heap.size ≠ w1.heap.size from hnz) _, ?_⟩
          rw [← HSET.out]
          exact HN4.out.set k _
        case measure =>
          simp [intOf]
          omega
      · have HNE := Lib.hid b
        have HA := Lib.hid a
        clear a hn hr b
        go_wp2_with fail
        refine (uint_any g3 A cap l (ckOff c k) wr HR4.out (by omega) ho hcc).mono ?_
        rintro e w' hu
        obtain ⟨rfl, rfl⟩ := hu.bad HA.out
        clear hu
        go_wp2_with fail
        refine bodyPost_ret (v := .tuple #[.agg #[.bool false, .int .i64 0, .int .i64 0], .slice none 0 0]) (by simp [results, Tryz.results71, go_sem, c0, c1, c2]) rfl ?_
        exact ⟨_, Ext.put3 (HX4.out.setCell (p := ⟨w1.heap.size, k, none⟩) (fun h' => absurd h' (by dsimp only; omega)) hF3 _) (Nat.le_refl _) hFz _ _ _, .inr ⟨HNE.out, rfl⟩⟩
    · obtain rfl : k = 3 := by omega
      rw [nums3] at HN4 hn
      have hob := ckOff_bd HC.out 3
      have n0 : wr.cell? ⟨w1.heap.size, 0, none⟩ = some (.int .u64 (c.seq : Nat)) := hn.cell 0
      have n1 : wr.cell? ⟨w1.heap.size, 1, none⟩ = some (.int .u64 (c.pos : Nat)) := hn.cell 1
      have n2 : wr.cell? ⟨w1.heap.size, 2, none⟩ = some (.int .u64 (c.st.length : Nat)) := hn.cell 2
      have hcl := HC.out.l
      have hcs := HC.out.s
      have hcp := HC.out.p
      have HRS := Lib.hid (show l.drop (ckOff c 3) <+: ckR2 c from hr.out)
      have hw1 : IntKind.u64.wrap ((l.length : Int) - (ckOff c 3 : Nat)) = ((l.length - ckOff c 3 : Nat) : Int) := by rw [IntKind.wrap_u64]; omega
      have hw2 : IntKind.i64.wrap ((c.st.length : Nat) : Int) = (c.st.length : Nat) := by rw [IntKind.wrap_i64]; omega
      have hw3 : IntKind.i64.wrap ((c.seq : Nat) : Int) = (c.seq : Nat) := by rw [IntKind.wrap_i64]; omega
      have hw4 : IntKind.i64.wrap ((c.pos : Nat) : Int) = (c.pos : Nat) := by rw [IntKind.wrap_i64]; omega
      clear hr hn
      rcases ck_last HP.out ho HRS.out with ⟨a, b⟩ | ⟨a, b, d⟩ | ⟨a, b, d, e1, e2⟩
      · have HNE := Lib.hid b
        clear b
        go_wp2_with fail
        refine bodyPost_ret (v := .tuple #[.agg #[.bool false, .int .i64 0, .int .i64 0], .slice none 0 0]) (by simp [results, Tryz.results71, go_sem, c0, c1, c2]) rfl ?_
        exact ⟨_, Ext.put3 HX4.out (Nat.le_refl _) hFz _ _ _, .inr ⟨HNE.out, rfl⟩⟩
      · have HNE := Lib.hid d
        have HD := Lib.hid b
        clear b d
        go_wp2_with fail
        refine (uint_any g3 A cap l (ckOff c 3 + c.st.length) wr HR4.out (by omega) (by omega) hcc).mono ?_
        rintro e w' hu
        obtain ⟨rfl, rfl⟩ := hu.bad HD.out
        clear hu
        go_wp2_with fail
        refine bodyPost_ret (v := .tuple #[.agg #[.bool false, .int .i64 0, .int .i64 0], .slice none 0 0]) (by simp [results, Tryz.results71, go_sem, c0, c1, c2]) rfl ?_
        exact ⟨_, Ext.put3 HX4.out (Nat.le_refl _) hFz _ _ _, .inr ⟨HNE.out, rfl⟩⟩
      · have HEQ := Lib.hid d
        have HD := Lib.hid b
        have HE1 := Lib.hid e1
        have HE2 := Lib.hid e2
        have HSN := Lib.hid (sumF_nat (ckBody c)).1
        have hend : ckOff c 3 + c.st.length ≤ l.length := by omega
        have HST : Hid (Rd 1 g3 wr A (ckBody c).length (bv (ckBody c))) := by
          have := (HBT.out.take (k := ckOff c 3 + c.st.length) hend).rd.2.2
          rw [e1] at this
          exact this
        obtain ⟨i0, hi0, hz0, hz1, hz2⟩ := info_parts Tryz.infoU8
        have hrd := (HR4.out.cut (l := ckOff c 3) (k := c.st.length) (m := ckOff c 3 + c.st.length) hend (Nat.le_refl _))
        simp only [Nat.mul_one, bv_drop, bv_take] at hrd
        rw [e2] at hrd
        have hcut' := run_cut_lhm (P := Tryz.prog) Tryz.underlying30 hi0 A l.length cap (ckOff c 3) (ckOff c 3 + c.st.length) (ckOff c 3 + c.st.length) (by omega) (by omega) (by omega)
        rw [hz1] at hcut'
        have hsub : ckOff c 3 + c.st.length - ckOff c 3 = c.st.length := by omega
        rw [hsub] at hcut'
        have HCUT : Hid (∀ w, (Instr.slice 30 (.slice A l.length cap) (some (.int .i64 (ckOff c 3 : Nat))) (some (.int .i64 (((ckOff c 3 : Nat) : Int) + (c.st.length : Nat)))) (some (.int .i64 (((ckOff c 3 : Nat) : Int) + (c.st.length : Nat))))).run Tryz.prog w = .ok (.slice (cutA 1 A (ckOff c 3 + c.st.length) (ckOff c 3)) c.st.length c.st.length) w) := by
          intro w
          have := hcut' w
          simpa using this
        have hcz : cutA 1 A (ckOff c 3 + c.st.length) (ckOff c 3) = none → c.st.length = 0 := fun h => by
          rcases Nat.eq_zero_or_pos c.st.length with h' | h'
          · exact h'
          · obtain ⟨b, off, hA, _⟩ := hrd.at_ h'
            rw [h] at hA; cases hA
        have HBA2 : Hid (BytesAt g3 wr (.slice (cutA 1 A (ckOff c 3 + c.st.length) (ckOff c 3)) c.st.length c.st.length) c.st) := ⟨_, _, rfl, Nat.le_refl _, by simp only [maxLen]; omega, hcz, hrd⟩
        have hch := run_cut_h (P := Tryz.prog) Tryz.underlying30 hi0 A l.length cap (ckOff c 3 + c.st.length) (by omega)
        clear b d e1 e2 hcut' hrd hcz hsub
        generalize cutA 1 A (ckOff c 3 + c.st.length) (ckOff c 3) = A3 at *
        go_wp2_with fail
        refine (uint_any g3 A cap l (ckOff c 3 + c.st.length) wr HR4.out (by omega) (by omega) hcc).mono ?_
        rintro e w' hu
        obtain ⟨rfl, rfl⟩ := hu.ok HD.out (show _ = l.length by omega)
        clear hu
        rw [HSN.out]
        go_wp2_with fail
        have hsum := sum_any g3 A cap (ckBody c) wr (HST.out) (by rw [ckBody_len]; omega)
        rw [ckBody_len] at hsum
        refine hsum.mono ?_
        rintro e w' ⟨rfl, rfl⟩
        clear hsum
        have hcut := HCUT.out
        go_wp2_with fail
        have hS : (fun x => Blk w1.heap.size 155 [.int .u64 (c.seq : Nat), .int .u64 (c.pos : Nat), .int .u64 (c.st.length : Nat)] x) wr.drew := HN4.out
        (refine wp_region_mixz (S := fun x => Blk w1.heap.size 155 [.int .u64 (c.seq : Nat), .int .u64 (c.pos : Nat), .int .u64 (c.st.length : Nat)] x) [] 13 [([0, 1, 2, 3, 4, 5, 6, 7, 8, 9, 10, 11], 12)] (by kernel_rfl) (by kernel_rfl) (by intro c a d v w h; cases d <;> exact h) hS ?_; have hN : Nonempty (Held (fun x => Blk w1.heap.size 155 [.int .u64 (c.seq : Nat), .int .u64 (c.pos : Nat), .int .u64 (c.st.length : Nat)] x)) := ⟨⟨_, hS⟩⟩)
        have q0 : ∀ y : Held (fun x => Blk w1.heap.size 155 [.int .u64 (c.seq : Nat), .int .u64 (c.pos : Nat), .int .u64 (c.st.length : Nat)] x), y.w.cell? ⟨w1.heap.size, 0, none⟩ = some (.int .u64 (c.seq : Nat)) := fun y => y.ok.cell 0
        have q1 : ∀ y : Held (fun x => Blk w1.heap.size 155 [.int .u64 (c.seq : Nat), .int .u64 (c.pos : Nat), .int .u64 (c.st.length : Nat)] x), y.w.cell? ⟨w1.heap.size, 1, none⟩ = some (.int .u64 (c.pos : Nat)) := fun y => y.ok.cell 1
        (unfold wpMixZ wpRd; (repeat (first | simp only [List.filterMap_cons] | simp only [List.filterMap_nil] | simp only [List.getElem?_toArray] | simp only [List.getElem?_cons_zero] | simp only [List.getElem?_cons_succ])); (try dsimp only); change wpQuiet _ _ _ _ (_ :: _ :: _ :: _ :: _ :: _ :: _ :: _ :: _ :: _ :: _ :: _ :: []) _; (repeat (go_big_quiet_step (fail))); refine wpQuiet_nil ?_; (try dsimp only))
        clear q0 q1
        go_wp2_with fail
        refine ⟨Blk.far (Blk.far (Blk.far hS (show w1.heap.size ≠ w.heap.size by omega) _) (show w1.heap.size ≠ w.heap.size by omega) _) (show w1.heap.size ≠ w.heap.size by omega) _, ?_⟩
        (unfold wpMixZ wpRd; (repeat (first | simp only [List.filterMap_cons] | simp only [List.filterMap_nil] | simp only [List.getElem?_toArray] | simp only [List.getElem?_cons_zero] | simp only [List.getElem?_cons_succ])); (try dsimp only); change wpQuiet _ _ _ _ ([]) _; (repeat (go_big_quiet_step (fail))); refine wpQuiet_nil ?_; (try dsimp only))
        clear hN
        go_wp2_with fail
        refine bodyPost_ret (v := .tuple #[.agg #[.bool true, .int .i64 c.seq, .int .i64 c.pos], .slice A3 c.st.length c.st.length]) (by simp [results, Tryz.results71, go_sem, c0, c1, c2]) rfl ?_
        refine ⟨g3, Ext.put3 HX4.out.drew (Nat.le_refl _) hFz _ _ _, .inl ⟨HEQ.out, A3, rfl, ?_⟩⟩
        exact BytesAt.far (BytesAt.far (BytesAt.far (p := ⟨w.heap.size, 0, none⟩) (HBA2.out.ext ((Ext.refl (fun _ => False) g3 wr).drew)) hFz _) (p := ⟨w.heap.size, 1, none⟩) hFz _) (p := ⟨w.heap.size, 2, none⟩) hFz _
end

section
open Go.RowKit

set_option maxRecDepth 100000 in
theorem small0 (w : World) : Calls Tryz.prog 155 #[.int .i64 0] w fun e w' => e = .returned (.string ⟨#[48]⟩) ∧ w = w' := by
  go_enter Tryz.func155, Tryz.ntmps155
  go_wp2_with fail
  go_ret
  exact ⟨rfl, rfl⟩
set_option maxRecDepth 100000 in
theorem formatInt0 (w : World) : Calls Tryz.prog 146 #[.int .i64 0, .int .i64 10] w fun e w' => e = .returned (.string ⟨#[48]⟩) ∧ w = w' := by
  go_enter Tryz.func146, Tryz.ntmps146
  go_wp2_with fail
  refine (small0 w).mono ?_
  rintro e w' ⟨rfl, rfl⟩
  go_wp2_with fail
  go_ret
  exact ⟨rfl, rfl⟩
set_option maxRecDepth 100000 in
theorem itoaI0 (w : World) : Calls Tryz.prog 127 #[.int .i64 0] w fun e w' => e = .returned (.string ⟨#[48]⟩) ∧ w = w' := by
  go_enter Tryz.func127, Tryz.ntmps127
  go_wp2_with fail
  refine (formatInt0 w).mono ?_
  rintro e w' ⟨rfl, rfl⟩
  go_wp2_with fail
  go_ret
  exact ⟨rfl, rfl⟩
set_option maxRecDepth 100000 in
theorem itoa0 (w : World) : Calls Tryz.prog 96 #[.int .i64 0] w fun e w' => e = .returned (.string ⟨#[48]⟩) ∧ w = w' := by
  go_enter Tryz.func96, Tryz.ntmps96
  go_wp2_with fail
  refine (itoaI0 w).mono ?_
  rintro e w' ⟨rfl, rfl⟩
  go_wp2_with fail
  go_ret
  exact ⟨rfl, rfl⟩
set_option maxRecDepth 100000 in
theorem small1 (w : World) : Calls Tryz.prog 155 #[.int .i64 1] w fun e w' => e = .returned (.string ⟨#[49]⟩) ∧ w = w' := by
  go_enter Tryz.func155, Tryz.ntmps155
  go_wp2_with fail
  go_ret
  exact ⟨rfl, rfl⟩
set_option maxRecDepth 100000 in
theorem formatInt1 (w : World) : Calls Tryz.prog 146 #[.int .i64 1, .int .i64 10] w fun e w' => e = .returned (.string ⟨#[49]⟩) ∧ w = w' := by
  go_enter Tryz.func146, Tryz.ntmps146
  go_wp2_with fail
  refine (small1 w).mono ?_
  rintro e w' ⟨rfl, rfl⟩
  go_wp2_with fail
  go_ret
  exact ⟨rfl, rfl⟩
set_option maxRecDepth 100000 in
theorem itoaI1 (w : World) : Calls Tryz.prog 127 #[.int .i64 1] w fun e w' => e = .returned (.string ⟨#[49]⟩) ∧ w = w' := by
  go_enter Tryz.func127, Tryz.ntmps127
  go_wp2_with fail
  refine (formatInt1 w).mono ?_
  rintro e w' ⟨rfl, rfl⟩
  go_wp2_with fail
  go_ret
  exact ⟨rfl, rfl⟩
set_option maxRecDepth 100000 in
theorem itoa1 (w : World) : Calls Tryz.prog 96 #[.int .i64 1] w fun e w' => e = .returned (.string ⟨#[49]⟩) ∧ w = w' := by
  go_enter Tryz.func96, Tryz.ntmps96
  go_wp2_with fail
  refine (itoaI1 w).mono ?_
  rintro e w' ⟨rfl, rfl⟩
  go_wp2_with fail
  go_ret
  exact ⟨rfl, rfl⟩


set_option maxRecDepth 100000 in
set_option maxHeartbeats 1600000 in
theorem cname_any (s : ByteArray) (w : World) (hs : s.size ≤ 9223372036854775807) :
    Calls Tryz.prog 51 #[.string s] w fun e w' => e = .returned (.bool (nmB false 40 s)) ∧ w = w' := by
  by_cases h0 : s.size < 1 ∨ 40 < s.size
  · have HF := Lib.hid (nm_out (dot := false) h0)
    rcases h0 with h0 | h0
    · go_enter Tryz.func51, Tryz.ntmps51
      go_wp2_with fail
      go_ret
      exact ⟨ret_bool HF.out.symm, rfl⟩
    · go_enter Tryz.func51, Tryz.ntmps51
      go_wp2_with fail
      go_ret
      exact ⟨ret_bool HF.out.symm, rfl⟩
  · have h1 : 1 ≤ s.size := by omega
    have h2 : s.size ≤ 40 := by omega
    have h1b : decide ((s.size : Int) < 1) = false := by simp; omega
    have h2b : decide ((40 : Int) < (s.size : Int)) = false := by simp; omega
    clear h0
    go_enter Tryz.func51, Tryz.ntmps51
    go_wp2_with fail
    clear h1b h2b
    go_loop [15] (fun i => ∃ k : Nat, k ≤ s.size ∧ i = .int .i64 k ∧ Hid ((s.data.toList.take k).all (okc false) = true)) (fun i => s.size - (intOf i).toNat)
    case atStart => exact ⟨0, Nat.zero_le _, rfl, rfl⟩
    case round =>
      obtain ⟨k, hk, rfl, HA⟩ := hrel
      by_cases hlt : k < s.size
      · have hc := s[k].toNat_lt
        have HC : Hid (okc false s[k] = ((decide (97 ≤ s[k].toNat) && decide (s[k].toNat ≤ 122)) || (decide (48 ≤ s[k].toNat) && decide (s[k].toNat ≤ 57)) || decide (s[k].toNat = 45) || (false && decide (s[k].toNat = 46)))) := rfl
        have HN := Lib.hid (@nm_next false s k hlt HA.out)
        have HB := Lib.hid (@nm_bad false 40 s k hlt)
        cases hok : okc false s[k]
        · have HO := Lib.hid hok
          clear hok
          have hx : ¬ (97 ≤ s[k].toNat ∧ s[k].toNat ≤ 122) ∧ ¬ (48 ≤ s[k].toNat ∧ s[k].toNat ≤ 57) ∧ s[k].toNat ≠ 45 := by
            have := HO.out
            rw [HC.out] at this
            simp at this
            omega
          have h45 : ((s[k].toNat : Int) != 45) = true := by rw [bne_iff_ne]; omega
          have hr : s[k].toNat < 48 ∨ (58 ≤ s[k].toNat ∧ s[k].toNat < 97) ∨ 122 < s[k].toNat := by omega
          clear hx hc HC HN
          rcases hr with hr | hr | hr
          all_goals
            go_wp2_with fail
            go_ret
            exact ⟨ret_bool (HB.out HO.out).symm, rfl⟩
        · have HO := Lib.hid hok
          clear hok
          have hx : (97 ≤ s[k].toNat ∧ s[k].toNat ≤ 122) ∨ (48 ≤ s[k].toNat ∧ s[k].toNat ≤ 57) ∨ s[k].toNat = 45 := by
            have := HO.out
            rw [HC.out] at this
            simp at this
            omega
          rcases hx with hx | hx | hx
          · clear hc HC HB
            go_wp2_with fail
            go_round
            case rel => exact ⟨k + 1, by omega, by go_num, HN.out HO.out⟩
            case measure => simp [intOf]; omega
          · clear hc HC HB
            go_wp2_with fail
            go_round
            case rel => exact ⟨k + 1, by omega, by go_num, HN.out HO.out⟩
            case measure => simp [intOf]; omega
          · have h45 : ((s[k].toNat : Int) != 45) = false := by rw [bne_eq_false_iff_eq]; omega
            have h46 : ((s[k].toNat : Int) != 46) = true := by rw [bne_iff_ne]; omega
            have hx1 : s[k].toNat < 48 := by omega
            clear hc HC HB hx
            go_wp2_with fail
            go_round
            case rel => exact ⟨k + 1, by omega, by go_num, HN.out HO.out⟩
            case measure => simp [intOf]; omega







      · have HF : Hid (nmB false 40 s = true) := nm_in h1 h2 (by have := HA.out; rwa [List.take_of_length_le (by simp; omega)] at this)
        go_wp2_with fail
        go_ret
        exact ⟨ret_bool HF.out.symm, rfl⟩



/-- The name of a slot's file. -/
def slotN (name : ByteArray) (i : Nat) : ByteArray := name ++ ⟨#[46]⟩ ++ ⟨#[if i = 0 then 48 else 49]⟩
def posO : Option Ck → Nat
  | none => 0
  | some c => c.pos
def stV (o : Option Ck) : Value := .agg #[.bool o.isSome, .int .i64 (seqO o), .int .i64 (posO o)]
def sCs (d : Nat) (name : ByteArray) (e : Int) (o0 o1 : Option Ck) (x0 x1 : Value) : List Value :=
  [.pointer (some ⟨d, 0, none⟩), .string name, .int .i64 e, .bool o0.isSome, .int .i64 (seqO o0), .int .i64 (posO o0), .bool o1.isSome, .int .i64 (seqO o1), .int .i64 (posO o1), x0, x1]
/-- The state of a slot as it was read. -/
def StAt (g : Gh) (w : World) (v : Value) (o : Option Ck) : Prop := match o with
  | none => v = .slice none 0 0
  | some c => ∃ A, v = .slice A c.st.length c.st.length ∧ BytesAt g w v c.st
theorem StAt.ext {g g' : Gh} {w w' : World} {v : Value} {o : Option Ck} {M : Nat → Prop} (h : StAt g w v o) (hx : Ext M g w g' w') : StAt g' w' v o := by
  cases o with
  | none => exact h
  | some c => obtain ⟨A, h1, h2⟩ := h; exact ⟨A, h1, h2.ext hx⟩
theorem StAt.slice {g : Gh} {w : World} {v : Value} {o : Option Ck} (h : StAt g w v o) : ∃ A n c, v = .slice A n c := by
  cases o with
  | none => exact ⟨_, _, _, h⟩
  | some c => obtain ⟨A, h1, _⟩ := h; exact ⟨_, _, _, h1⟩
/-- What a slot's file holds. -/
def SlotIs (D : Dev) (k : ByteArray) (o : Option Ck) : Prop :=
  (D.now.m k = none ∧ o = none) ∨ ∃ l c, D.now.m k = some l ∧ CkOk c ∧ l <+: encC c ∧ ((l = encC c ∧ o = some c) ∨ (l ≠ encC c ∧ o = none))

set_option maxRecDepth 100000 in
theorem file_any (s i : Nat) (w : World) (name : ByteArray) (hi : i < 2) (hc : w.cell? ⟨s, 1, none⟩ = some (.string name)) (hn : name.size ≤ 40) :
    Calls Tryz.prog 70 #[.pointer (some ⟨s, 0, none⟩), .int .i64 (i : Nat)] w fun e w' => e = .returned (.string (slotN name i)) ∧ ∃ n, w' = w.drewN n := by
  have hS : (fun x : World => x.cell? ⟨s, 1, none⟩ = some (.string name)) w.drew := hc
  rcases (show i = 0 ∨ i = 1 by omega) with rfl | rfl
  · go_enter Tryz.func70, Tryz.ntmps70
    go_wp2_with fail
    (refine wp_region_mix (S := (fun x : World => x.cell? ⟨s, 1, none⟩ = some (.string name))) [7, 8] [([0, 1, 2, 3, 4, 5], 6)] (by kernel_rfl) (by kernel_rfl) (by intro c a d v w h; cases d <;> exact h) hS ?_; have hN : Nonempty (Held ((fun x : World => x.cell? ⟨s, 1, none⟩ = some (.string name)))) := ⟨⟨_, hS⟩⟩)
    have r0 : ∀ y : Held ((fun x : World => x.cell? ⟨s, 1, none⟩ = some (.string name))), y.w.cell? ⟨s, 1, none⟩ = some (.string name) := fun y => y.ok
    (unfold wpMix wpRd; (repeat (first | simp only [List.filterMap_cons] | simp only [List.filterMap_nil] | simp only [List.getElem?_toArray] | simp only [List.getElem?_cons_zero] | simp only [List.getElem?_cons_succ])); (try dsimp only); change wpQuiet _ _ _ _ (_ :: _ :: _ :: _ :: _ :: _ :: []) _; (repeat (go_big_quiet_step (fail))); refine wpQuiet_nil ?_; (try dsimp only))
    go_wp2_with fail
    refine (itoa0 w.drew).mono ?_
    rintro e w2 ⟨rfl, rfl⟩
    go_wp2_with fail
    refine ⟨hS, ?_⟩
    (unfold wpMix wpRd; (repeat (first | simp only [List.filterMap_cons] | simp only [List.filterMap_nil] | simp only [List.getElem?_toArray] | simp only [List.getElem?_cons_zero] | simp only [List.getElem?_cons_succ])); (try dsimp only); change wpQuiet _ _ _ _ (_ :: _ :: []) _; (repeat (go_big_quiet_step (fail))); refine wpQuiet_nil ?_; (try dsimp only))
    go_wp2_with fail
    go_ret
    exact ⟨rfl, 1, rfl⟩
  · go_enter Tryz.func70, Tryz.ntmps70
    go_wp2_with fail
    (refine wp_region_mix (S := (fun x : World => x.cell? ⟨s, 1, none⟩ = some (.string name))) [7, 8] [([0, 1, 2, 3, 4, 5], 6)] (by kernel_rfl) (by kernel_rfl) (by intro c a d v w h; cases d <;> exact h) hS ?_; have hN : Nonempty (Held ((fun x : World => x.cell? ⟨s, 1, none⟩ = some (.string name)))) := ⟨⟨_, hS⟩⟩)
    have r0 : ∀ y : Held ((fun x : World => x.cell? ⟨s, 1, none⟩ = some (.string name))), y.w.cell? ⟨s, 1, none⟩ = some (.string name) := fun y => y.ok
    (unfold wpMix wpRd; (repeat (first | simp only [List.filterMap_cons] | simp only [List.filterMap_nil] | simp only [List.getElem?_toArray] | simp only [List.getElem?_cons_zero] | simp only [List.getElem?_cons_succ])); (try dsimp only); change wpQuiet _ _ _ _ (_ :: _ :: _ :: _ :: _ :: _ :: []) _; (repeat (go_big_quiet_step (fail))); refine wpQuiet_nil ?_; (try dsimp only))
    go_wp2_with fail
    refine (itoa1 w.drew).mono ?_
    rintro e w2 ⟨rfl, rfl⟩
    go_wp2_with fail
    refine ⟨hS, ?_⟩
    (unfold wpMix wpRd; (repeat (first | simp only [List.filterMap_cons] | simp only [List.filterMap_nil] | simp only [List.getElem?_toArray] | simp only [List.getElem?_cons_zero] | simp only [List.getElem?_cons_succ])); (try dsimp only); change wpQuiet _ _ _ _ (_ :: _ :: []) _; (repeat (go_big_quiet_step (fail))); refine wpQuiet_nil ?_; (try dsimp only))
    go_wp2_with fail
    go_ret
    exact ⟨rfl, 1, rfl⟩

theorem slotN_ok {name : ByteArray} (h : nmB false 40 name = true) (i : Nat) : namesOk [slotN name i] = true := by
  have e : slotN name i = name ++ (⟨#[46, if i = 0 then 48 else 49]⟩ : ByteArray) := by
    unfold slotN
    rw [ByteArray.append_assoc]
    rfl
  simp only [namesOk, List.all_cons, List.all_nil, Bool.and_true, e]
  exact namesOk_of name [46, if i = 0 then 48 else 49] h (by simp) (by split <;> decide)
theorem nm_size {name : ByteArray} (h : nmB false 40 name = true) : name.size ≤ 40 := by
  unfold nmB at h
  simp only [Bool.and_eq_true, decide_eq_true_eq] at h
  exact h.1.2

section
variable (d : Nat) (g : Gh) (w : World) (D : Dev) (hD : DevAt g w d D) (k : ByteArray) (hnm : namesOk [k] = true)
include hD hnm
theorem read_none (hdn : D.down = false) (hm : D.now.m k = none) : Calls Tryz.prog 69 #[.pointer (some ⟨d, 0, none⟩), .string k] w fun e w' => ∃ A n cap g', Ext (fun _ => False) g w g' w' ∧ e = .returned (.tuple #[.slice A n cap, .int .i64 301]) := by
  refine (dread_any d 0 g w D hD k hnm).mono ?_
  rintro e w' ⟨A, cap, g', hx, rfl, _⟩
  rw [hdn, hm]
  exact ⟨A, _, cap, g', hx, rfl⟩
theorem read_some (hdn : D.down = false) (l : List UInt8) (hm : D.now.m k = some l) : Calls Tryz.prog 69 #[.pointer (some ⟨d, 0, none⟩), .string k] w fun e w' => ∃ A cap g', Ext (fun _ => False) g w g' w' ∧ e = .returned (.tuple #[.slice A l.length cap, .int .i64 0]) ∧ BytesAt g' w' (.slice A l.length cap) l := by
  have hg : D.now.get k = l := by simp [Fl.get, hm]
  refine (dread_any d 0 g w D hD k hnm).mono ?_
  rintro e w' ⟨A, cap, g', hx, rfl, hb⟩
  have hb := hb hdn
  rw [hg] at hb
  rw [hdn, hm, hg]
  exact ⟨A, cap, g', hx, rfl, hb⟩
theorem read_down (hdn : D.down = true) : Calls Tryz.prog 69 #[.pointer (some ⟨d, 0, none⟩), .string k] w fun e w' => ∃ A cap g', Ext (fun _ => False) g w g' w' ∧ e = .returned (.tuple #[.slice A 0 cap, .int .i64 303]) := by
  refine (dread_any d 0 g w D hD k hnm).mono ?_
  rintro e w' ⟨A, cap, g', hx, rfl, _⟩
  rw [hdn]
  exact ⟨A, cap, g', hx, rfl⟩
end
theorem decode_o (g : Gh) (w : World) (c : Ck) (hc : CkOk c) (l : List UInt8) (hp : l <+: encC c) (o : Option Ck) (ho : (l = encC c ∧ o = some c) ∨ (l ≠ encC c ∧ o = none)) (A : Option Addr) (cap : Nat) (hr : BytesAt g w (.slice A l.length cap) l) :
    Calls Tryz.prog 71 #[.slice A l.length cap] w fun e w' => ∃ g' x, Ext (fun _ => False) g w g' w' ∧ e = .returned (.tuple #[.agg #[.bool o.isSome, .int .i64 (seqO o), .int .i64 (posO o)], x]) ∧ StAt g' w' x o := by
  refine (decode_any g w c hc l hp A cap hr).mono ?_
  rintro e w' ⟨g', hx, h⟩
  rcases ho with ⟨h1, rfl⟩ | ⟨h1, rfl⟩
  · rcases h with ⟨_, A', rfl, hb⟩ | ⟨h2, _⟩
    · exact ⟨g', _, hx, rfl, A', rfl, hb⟩
    · exact absurd h1 h2
  · rcases h with ⟨h2, _⟩ | ⟨_, rfl⟩
    · exact absurd h2 h1
    · exact ⟨g', _, hx, rfl, rfl⟩

/-- While newest reads: so much of the slots is in memory. -/
def NR (s d : Nat) (name : ByteArray) (g : Gh) (w : World) (a b : Option Ck) (wr : World) : Prop :=
  ∃ gr x0 x1, Ext (· = s) g w gr wr ∧ Blk s 95 (sCs d name 0 a b x0 x1) wr ∧ StAt gr wr x0 a ∧ StAt gr wr x1 b ∧ Blk w.heap.size 91 [.bool false, .int .i64 0, .int .i64 0] wr ∧ gr.F w.heap.size = 0
/-- newest leaves the two slots in memory. -/
def NewestP (s d : Nat) (name : ByteArray) (g : Gh) (w : World) (o0 o1 : Option Ck) (e : Ending) (w' : World) : Prop :=
  ∃ g' x0 x1, e = .returned (.tuple #[stV (newS o0 o1).1, .int .i64 ((newS o0 o1).2 : Nat)]) ∧ Ext (· = s) g w g' w' ∧ Blk s 95 (sCs d name 0 o0 o1 x0 x1) w' ∧ StAt g' w' x0 o0 ∧ StAt g' w' x1 o1

/-- The end of newest: the result's box is written. -/
theorem newest_end {s d : Nat} {name : ByteArray} {g gr : Gh} {w x : World} {o0 o1 o : Option Ck} {k : Nat} {x0 x1 : Value} (hx : Ext (· = s) g w gr x) (hb : Blk s 95 (sCs d name 0 o0 o1 x0 x1) x) (h0 : StAt gr x x0 o0) (h1 : StAt gr x x1 o1) (hF : gr.F w.heap.size = 0) (hsl : s < w.heap.size) (hk : newS o0 o1 = (o, k)) (u v y : Value) :
    NewestP s d name g w o0 o1 (.returned (.tuple #[stV o, .int .i64 (k : Nat)])) (((x.setCell ⟨w.heap.size, 0, none⟩ u).setCell ⟨w.heap.size, 1, none⟩ v).setCell ⟨w.heap.size, 2, none⟩ y) := by
  have hy := (((Ext.refl (fun _ => True) gr x).setCell (p := ⟨w.heap.size, 0, none⟩) (fun _ => trivial) hF u).setCell (p := ⟨w.heap.size, 1, none⟩) (fun _ => trivial) hF v).setCell (p := ⟨w.heap.size, 2, none⟩) (fun _ => trivial) hF y
  refine ⟨gr, x0, x1, by rw [hk], Ext.put3 hx (Nat.le_refl _) hF _ _ _, ?_, h0.ext hy, h1.ext hy⟩
  exact ((hb.far (p := ⟨w.heap.size, 0, none⟩) (by dsimp only; omega) _).far (p := ⟨w.heap.size, 1, none⟩) (by dsimp only; omega) _).far (p := ⟨w.heap.size, 2, none⟩) (by dsimp only; omega) _

set_option maxRecDepth 100000 in
set_option maxHeartbeats 6400000 in
theorem newest_any (s d : Nat) (g : Gh) (w : World) (D : Dev) (name : ByteArray) (hD : DevAt g w d D) (hdn : D.down = false) (hnm : nmB false 40 name = true) (o0 o1 : Option Ck) (h0 : SlotIs D (slotN name 0) o0) (h1 : SlotIs D (slotN name 1) o1)
    (hB : Blk s 95 (sCs d name 0 none none (.slice none 0 0) (.slice none 0 0)) w) (hO : g.O s = s) (hF : g.F s = 0) (hsd : s ≠ d) :
    Calls Tryz.prog 52 #[.pointer (some ⟨s, 0, none⟩)] w (NewestP s d name g w o0 o1) := by
  have hns := nm_size hnm
  have HXS : Hid (Ext (· = s) g w (g.box w.heap.size) (w.alloc (.cells #[.bool false, .int .i64 0, .int .i64 0] 91))) := Ext.box _ g w _
  have HBS : Hid (Blk s 95 (sCs d name 0 none none (.slice none 0 0) (.slice none 0 0)) (w.alloc (.cells #[.bool false, .int .i64 0, .int .i64 0] 91))) := hB.alloc _
  have HZS : Hid (Blk w.heap.size 91 [.bool false, .int .i64 0, .int .i64 0] (w.alloc (.cells #[.bool false, .int .i64 0, .int .i64 0] 91))) := Blk.new w 91 [.bool false, .int .i64 0, .int .i64 0]
  have hFS : (g.box w.heap.size).F w.heap.size = 0 := g.box_F _
  generalize g.box w.heap.size = gb at *
  have hsl := hB.lt
  clear hB
  go_enter Tryz.func52, Tryz.ntmps52
  go_wp2_with fail
  go_loopw [7] (fun i wr => (i = .int .i64 0 ∧ NR s d name g w none none wr) ∨ (i = .int .i64 1 ∧ NR s d name g w o0 none wr) ∨ (i = .int .i64 2 ∧ NR s d name g w o0 o1 wr)) (fun i _ => 2 - (intOf i).toNat)
  case atStart =>
    exact .inl ⟨rfl, gb, _, _, HXS.out, HBS.out, rfl, rfl, HZS.out, hFS⟩
  case round =>
    rcases hrel with ⟨rfl, hrel⟩ | ⟨rfl, hrel⟩ | ⟨rfl, hrel⟩
    · obtain ⟨gr, x0, x1, hx, hb, hs0, hs1, hz, hFz⟩ := hrel
      have HX := Lib.hid hx
      have HS0 := Lib.hid hs0
      have HS1 := Lib.hid hs1
      have HZ := Lib.hid hz
      have HB := Lib.hid hb
      have HD := Lib.hid (hD.ext hx (fun h => hsd h.symm))
      have hS : Blk s 95 (sCs d name 0 none none x0 x1) wr.drew := hb
      have q1 : wr.drew.cell? ⟨s, 1, none⟩ = some (.string name) := hb.cell 1
      clear hx hs0 hs1 hz hb
      rcases h0 with ⟨hm, ho⟩ | ⟨l, c, hm, hc, hp, ho⟩
      · subst ho
        go_wp2_with fail
        (refine wp_region_mix (S := Blk s 95 (sCs d name 0 none none x0 x1)) [8, 9, 10, 11, 12] [([0, 1, 2, 3, 4, 5], 6), ([], 7)] (by kernel_rfl) (by kernel_rfl) (by intro c a d v w h; cases d <;> exact h) hS ?_; have hN : Nonempty (Held (Blk s 95 (sCs d name 0 none none x0 x1))) := ⟨⟨_, hS⟩⟩)
        have r0 : ∀ y : Held (Blk s 95 (sCs d name 0 none none x0 x1)), y.w.cell? ⟨s, 0, none⟩ = some (.pointer (some ⟨d, 0, none⟩)) := fun y => y.ok.cell 0
        (unfold wpMix wpRd; (repeat (first | simp only [List.filterMap_cons] | simp only [List.filterMap_nil] | simp only [List.getElem?_toArray] | simp only [List.getElem?_cons_zero] | simp only [List.getElem?_cons_succ])); (try dsimp only); change wpQuiet _ _ _ _ (_ :: _ :: _ :: _ :: _ :: _ :: []) _; (repeat (go_big_quiet_step (fail))); refine wpQuiet_nil ?_; (try dsimp only))
        go_wp2_with fail
        refine (file_any s 0 wr.drew name (by omega) q1 hns).mono ?_
        rintro e w2 ⟨rfl, n, rfl⟩
        have hS2 : Blk s 95 (sCs d name 0 none none x0 x1) (wr.drewN (1 + n)) := hS
        have hxn : Ext (fun _ => False) gr wr gr (wr.drewN (1 + n)) := (Ext.refl _ _ _).drewN _
        have HD2 := Lib.hid (HD.out.ext hxn (fun h => h))
        go_wp2_with fail
        refine ⟨hS2, ?_⟩
        (unfold wpMix wpRd; (repeat (first | simp only [List.filterMap_cons] | simp only [List.filterMap_nil] | simp only [List.getElem?_toArray] | simp only [List.getElem?_cons_zero] | simp only [List.getElem?_cons_succ])); (try dsimp only); change wpQuiet _ _ _ _ ([]) _; (repeat (go_big_quiet_step (fail))); refine wpQuiet_nil ?_; (try dsimp only))
        go_wp2_with fail
        refine (read_none d gr _ D HD2.out (slotN name 0) (slotN_ok hnm 0) hdn hm).mono ?_
        rintro e w3 ⟨A, n', cap, g3, hx3, rfl⟩
        have HXA := Lib.hid (HX.out.trans ((hxn.trans hx3).imp (fun _ h => h.elim)))
        have HXB := Lib.hid (hxn.trans hx3)
        have hS3 : Blk s 95 (sCs d name 0 none none x0 x1) w3 := hS2.ext hx3 (fun h => h)
        have HZ3 := Lib.hid ((show Blk w.heap.size 91 [.bool false, .int .i64 0, .int .i64 0] (wr.drewN (1 + n)) from HZ.out).ext hx3 (fun h => h))
        have hF3 := hx3.zero _ (show w.heap.size < (wr.drewN (1 + n)).heap.size from HZ.out.lt) hFz
        go_wp2_with fail
        refine ⟨hS3, ?_⟩
        (unfold wpMix wpRd; (repeat (first | simp only [List.filterMap_cons] | simp only [List.filterMap_nil] | simp only [List.getElem?_toArray] | simp only [List.getElem?_cons_zero] | simp only [List.getElem?_cons_succ])); (try dsimp only); change wpQuiet _ _ _ _ (_ :: _ :: _ :: _ :: _ :: []) _; (repeat (go_big_quiet_step (fail))); refine wpQuiet_nil ?_; (try dsimp only))
        go_wp2_with fail
        go_round
        case rel => exact (Or.inr <| Or.inl ⟨rfl, g3, x0, x1, HXA.out, hS3, HS0.out.ext HXB.out, HS1.out.ext HXB.out, HZ3.out, hF3⟩)
        case measure => simp [intOf]
      · have HO := Lib.hid ho
        have HP := Lib.hid hp
        clear ho hp
        go_wp2_with fail
        (refine wp_region_mix (S := Blk s 95 (sCs d name 0 none none x0 x1)) [8, 9, 10, 11, 12] [([0, 1, 2, 3, 4, 5], 6), ([], 7)] (by kernel_rfl) (by kernel_rfl) (by intro c a d v w h; cases d <;> exact h) hS ?_; have hN : Nonempty (Held (Blk s 95 (sCs d name 0 none none x0 x1))) := ⟨⟨_, hS⟩⟩)
        have r0 : ∀ y : Held (Blk s 95 (sCs d name 0 none none x0 x1)), y.w.cell? ⟨s, 0, none⟩ = some (.pointer (some ⟨d, 0, none⟩)) := fun y => y.ok.cell 0
        (unfold wpMix wpRd; (repeat (first | simp only [List.filterMap_cons] | simp only [List.filterMap_nil] | simp only [List.getElem?_toArray] | simp only [List.getElem?_cons_zero] | simp only [List.getElem?_cons_succ])); (try dsimp only); change wpQuiet _ _ _ _ (_ :: _ :: _ :: _ :: _ :: _ :: []) _; (repeat (go_big_quiet_step (fail))); refine wpQuiet_nil ?_; (try dsimp only))
        go_wp2_with fail
        refine (file_any s 0 wr.drew name (by omega) q1 hns).mono ?_
        rintro e w2 ⟨rfl, n, rfl⟩
        have hS2 : Blk s 95 (sCs d name 0 none none x0 x1) (wr.drewN (1 + n)) := hS
        have hxn : Ext (fun _ => False) gr wr gr (wr.drewN (1 + n)) := (Ext.refl _ _ _).drewN _
        have HD2 := Lib.hid (HD.out.ext hxn (fun h => h))
        go_wp2_with fail
        refine ⟨hS2, ?_⟩
        (unfold wpMix wpRd; (repeat (first | simp only [List.filterMap_cons] | simp only [List.filterMap_nil] | simp only [List.getElem?_toArray] | simp only [List.getElem?_cons_zero] | simp only [List.getElem?_cons_succ])); (try dsimp only); change wpQuiet _ _ _ _ ([]) _; (repeat (go_big_quiet_step (fail))); refine wpQuiet_nil ?_; (try dsimp only))
        go_wp2_with fail
        refine (read_some d gr _ D HD2.out (slotN name 0) (slotN_ok hnm 0) hdn l hm).mono ?_
        rintro e w3 ⟨A, cap, g3, hx3, rfl, hby⟩
        have HBY := Lib.hid hby
        have HXB := Lib.hid (hxn.trans hx3)
        have hS3 : Blk s 95 (sCs d name 0 none none x0 x1) w3 := hS2.ext hx3 (fun h => h)
        go_wp2_with fail
        refine ⟨hS3, ?_⟩
        (unfold wpMix wpRd; (repeat (first | simp only [List.filterMap_cons] | simp only [List.filterMap_nil] | simp only [List.getElem?_toArray] | simp only [List.getElem?_cons_zero] | simp only [List.getElem?_cons_succ])); (try dsimp only); change wpQuiet _ _ _ _ (_ :: _ :: _ :: _ :: _ :: []) _; (repeat (go_big_quiet_step (fail))); refine wpQuiet_nil ?_; (try dsimp only))
        clear hN r0
        go_wp2_with fail
        clear hS hS2
        have hS : (fun x : World => w3.heap.size ≤ x.heap.size) w3.drew := Nat.le_refl _
        (refine wp_region_mix (S := (fun x : World => w3.heap.size ≤ x.heap.size)) [] [([0, 1, 2, 3, 4, 9, 10, 13, 14], 5), ([6, 7, 8, 11], 12), ([15], 16)] (by kernel_rfl) (by kernel_rfl) (by intro c a d v w h; cases d <;> exact h) hS ?_; have hN : Nonempty (Held ((fun x : World => w3.heap.size ≤ x.heap.size))) := ⟨⟨_, hS⟩⟩)
        (unfold wpMix wpRd; (repeat (first | simp only [List.filterMap_cons] | simp only [List.filterMap_nil] | simp only [List.getElem?_toArray] | simp only [List.getElem?_cons_zero] | simp only [List.getElem?_cons_succ])); (try dsimp only); change wpQuiet _ _ _ _ (_ :: _ :: _ :: _ :: _ :: _ :: _ :: _ :: _ :: []) _; (repeat (go_big_quiet_step (fail))); refine wpQuiet_nil ?_; (try dsimp only))
        go_wp2_with fail
        have hxd : Ext (fun _ => False) g3 w3 g3 w3.drew := (Ext.refl _ _ _).drew
        refine (decode_o g3 w3.drew c hc l HP.out _ HO.out A cap (HBY.out.ext hxd)).mono ?_
        rintro e w4 ⟨g4, xx, hx4, rfl, hst⟩
        obtain ⟨A5, n5, c5, rfl⟩ := hst.slice
        have HXB4 := Lib.hid ((HXB.out.trans hxd).trans hx4)
        have HS4 := Lib.hid (hS3.ext (hxd.trans hx4) (fun h => h))
        have HST := Lib.hid hst
        have HSZ4 : Hid (w3.heap.size ≤ w4.heap.size) := hx4.size
        have z := HS4.out.fz
        have p3 : w4.cell? ⟨s, 3, none⟩ = some (.bool false) := HS4.out.cell 3
        have p4 : w4.cell? ⟨s, 4, none⟩ = some (.int .i64 0) := HS4.out.cell 4
        have p5 : w4.cell? ⟨s, 5, none⟩ = some (.int .i64 0) := HS4.out.cell 5
        have p9 : w4.cell? ⟨s, 9, none⟩ = some x0 := HS4.out.cell 9
        clear hx4 hxd hst hx3 hxn
        go_wp2_with fail
        refine ⟨HSZ4.out, ?_⟩
        (unfold wpMix wpRd; (repeat (first | simp only [List.filterMap_cons] | simp only [List.filterMap_nil] | simp only [List.getElem?_toArray] | simp only [List.getElem?_cons_zero] | simp only [List.getElem?_cons_succ])); (try dsimp only); change wpQuiet _ _ _ _ (_ :: _ :: _ :: _ :: []) _; (repeat (go_big_quiet_step (fail))); refine wpQuiet_nil ?_; (try dsimp only))
        go_wp2_with fail
        refine ⟨by simpa using HSZ4.out, ?_⟩
        (unfold wpMix wpRd; (repeat (first | simp only [List.filterMap_cons] | simp only [List.filterMap_nil] | simp only [List.getElem?_toArray] | simp only [List.getElem?_cons_zero] | simp only [List.getElem?_cons_succ])); (try dsimp only); change wpQuiet _ _ _ _ (_ :: []) _; (repeat (go_big_quiet_step (fail))); refine wpQuiet_nil ?_; (try dsimp only))
        go_wp2_with fail
        refine ⟨by simpa using HSZ4.out, ?_⟩
        (unfold wpMix wpRd; (repeat (first | simp only [List.filterMap_cons] | simp only [List.filterMap_nil] | simp only [List.getElem?_toArray] | simp only [List.getElem?_cons_zero] | simp only [List.getElem?_cons_succ])); (try dsimp only); change wpQuiet _ _ _ _ ([]) _; (repeat (go_big_quiet_step (fail))); refine wpQuiet_nil ?_; (try dsimp only))
        clear hN
        go_wp2_with fail
        go_round
        case rel =>
          have hO4 : g4.O s = s := (HXB4.out.own s HB.out.lt).trans ((HX.out.own s hsl).trans hO)
          have hF4 : g4.F s = 0 := HXB4.out.zero s HB.out.lt (HX.out.zero s hsl hF)
          have hF5 := HXB4.out.zero _ HZ.out.lt hFz
          have hy := (((((Ext.refl (· = s) g4 w4).setCell (p := ⟨s, 3, none⟩) (fun _ => hO4) hF4 (.bool o0.isSome)).setCell (p := ⟨s, 4, none⟩) (fun _ => hO4) hF4 (.int .i64 (seqO o0))).setCell (p := ⟨s, 5, none⟩) (fun _ => hO4) hF4 (.int .i64 (posO o0))).setCell (p := ⟨s, 9, none⟩) (fun _ => hO4) hF4 (.slice A5 n5 c5))
          have hX5 := (HX.out.trans (HXB4.out.imp (fun _ h => h.elim))).trans hy
          have hb5 := ((((HS4.out.set 3 (.bool o0.isSome)).set 4 (.int .i64 (seqO o0))).set 5 (.int .i64 (posO o0))).set 9 (.slice A5 n5 c5))
          refine (Or.inr <| Or.inl ⟨rfl, g4, .slice A5 n5 c5, x1, hX5, ?_, HST.out.ext hy, (HS1.out.ext HXB4.out).ext hy, ?_, hF5⟩)
          · simpa [sCs] using hb5
          · have hz4 := HZ.out.ext HXB4.out (fun h => h)
            exact (((hz4.far (p := ⟨s, 3, none⟩) (by dsimp only; omega) _).far (p := ⟨s, 4, none⟩) (by dsimp only; omega) _).far (p := ⟨s, 5, none⟩) (by dsimp only; omega) _).far (p := ⟨s, 9, none⟩) (by dsimp only; omega) _
        case measure => simp [intOf]
    · obtain ⟨gr, x0, x1, hx, hb, hs0, hs1, hz, hFz⟩ := hrel
      have HX := Lib.hid hx
      have HS0 := Lib.hid hs0
      have HS1 := Lib.hid hs1
      have HZ := Lib.hid hz
      have HB := Lib.hid hb
      have HD := Lib.hid (hD.ext hx (fun h => hsd h.symm))
      have hS : Blk s 95 (sCs d name 0 o0 none x0 x1) wr.drew := hb
      have q1 : wr.drew.cell? ⟨s, 1, none⟩ = some (.string name) := hb.cell 1
      clear hx hs0 hs1 hz hb
      rcases h1 with ⟨hm, ho⟩ | ⟨l, c, hm, hc, hp, ho⟩
      · subst ho
        go_wp2_with fail
        (refine wp_region_mix (S := Blk s 95 (sCs d name 0 o0 none x0 x1)) [8, 9, 10, 11, 12] [([0, 1, 2, 3, 4, 5], 6), ([], 7)] (by kernel_rfl) (by kernel_rfl) (by intro c a d v w h; cases d <;> exact h) hS ?_; have hN : Nonempty (Held (Blk s 95 (sCs d name 0 o0 none x0 x1))) := ⟨⟨_, hS⟩⟩)
        have r0 : ∀ y : Held (Blk s 95 (sCs d name 0 o0 none x0 x1)), y.w.cell? ⟨s, 0, none⟩ = some (.pointer (some ⟨d, 0, none⟩)) := fun y => y.ok.cell 0
        (unfold wpMix wpRd; (repeat (first | simp only [List.filterMap_cons] | simp only [List.filterMap_nil] | simp only [List.getElem?_toArray] | simp only [List.getElem?_cons_zero] | simp only [List.getElem?_cons_succ])); (try dsimp only); change wpQuiet _ _ _ _ (_ :: _ :: _ :: _ :: _ :: _ :: []) _; (repeat (go_big_quiet_step (fail))); refine wpQuiet_nil ?_; (try dsimp only))
        go_wp2_with fail
        refine (file_any s 1 wr.drew name (by omega) q1 hns).mono ?_
        rintro e w2 ⟨rfl, n, rfl⟩
        have hS2 : Blk s 95 (sCs d name 0 o0 none x0 x1) (wr.drewN (1 + n)) := hS
        have hxn : Ext (fun _ => False) gr wr gr (wr.drewN (1 + n)) := (Ext.refl _ _ _).drewN _
        have HD2 := Lib.hid (HD.out.ext hxn (fun h => h))
        go_wp2_with fail
        refine ⟨hS2, ?_⟩
        (unfold wpMix wpRd; (repeat (first | simp only [List.filterMap_cons] | simp only [List.filterMap_nil] | simp only [List.getElem?_toArray] | simp only [List.getElem?_cons_zero] | simp only [List.getElem?_cons_succ])); (try dsimp only); change wpQuiet _ _ _ _ ([]) _; (repeat (go_big_quiet_step (fail))); refine wpQuiet_nil ?_; (try dsimp only))
        go_wp2_with fail
        refine (read_none d gr _ D HD2.out (slotN name 1) (slotN_ok hnm 1) hdn hm).mono ?_
        rintro e w3 ⟨A, n', cap, g3, hx3, rfl⟩
        have HXA := Lib.hid (HX.out.trans ((hxn.trans hx3).imp (fun _ h => h.elim)))
        have HXB := Lib.hid (hxn.trans hx3)
        have hS3 : Blk s 95 (sCs d name 0 o0 none x0 x1) w3 := hS2.ext hx3 (fun h => h)
        have HZ3 := Lib.hid ((show Blk w.heap.size 91 [.bool false, .int .i64 0, .int .i64 0] (wr.drewN (1 + n)) from HZ.out).ext hx3 (fun h => h))
        have hF3 := hx3.zero _ (show w.heap.size < (wr.drewN (1 + n)).heap.size from HZ.out.lt) hFz
        go_wp2_with fail
        refine ⟨hS3, ?_⟩
        (unfold wpMix wpRd; (repeat (first | simp only [List.filterMap_cons] | simp only [List.filterMap_nil] | simp only [List.getElem?_toArray] | simp only [List.getElem?_cons_zero] | simp only [List.getElem?_cons_succ])); (try dsimp only); change wpQuiet _ _ _ _ (_ :: _ :: _ :: _ :: _ :: []) _; (repeat (go_big_quiet_step (fail))); refine wpQuiet_nil ?_; (try dsimp only))
        go_wp2_with fail
        go_round
        case rel => exact (Or.inr <| Or.inr ⟨rfl, g3, x0, x1, HXA.out, hS3, HS0.out.ext HXB.out, HS1.out.ext HXB.out, HZ3.out, hF3⟩)
        case measure => simp [intOf]
      · have HO := Lib.hid ho
        have HP := Lib.hid hp
        clear ho hp
        go_wp2_with fail
        (refine wp_region_mix (S := Blk s 95 (sCs d name 0 o0 none x0 x1)) [8, 9, 10, 11, 12] [([0, 1, 2, 3, 4, 5], 6), ([], 7)] (by kernel_rfl) (by kernel_rfl) (by intro c a d v w h; cases d <;> exact h) hS ?_; have hN : Nonempty (Held (Blk s 95 (sCs d name 0 o0 none x0 x1))) := ⟨⟨_, hS⟩⟩)
        have r0 : ∀ y : Held (Blk s 95 (sCs d name 0 o0 none x0 x1)), y.w.cell? ⟨s, 0, none⟩ = some (.pointer (some ⟨d, 0, none⟩)) := fun y => y.ok.cell 0
        (unfold wpMix wpRd; (repeat (first | simp only [List.filterMap_cons] | simp only [List.filterMap_nil] | simp only [List.getElem?_toArray] | simp only [List.getElem?_cons_zero] | simp only [List.getElem?_cons_succ])); (try dsimp only); change wpQuiet _ _ _ _ (_ :: _ :: _ :: _ :: _ :: _ :: []) _; (repeat (go_big_quiet_step (fail))); refine wpQuiet_nil ?_; (try dsimp only))
        go_wp2_with fail
        refine (file_any s 1 wr.drew name (by omega) q1 hns).mono ?_
        rintro e w2 ⟨rfl, n, rfl⟩
        have hS2 : Blk s 95 (sCs d name 0 o0 none x0 x1) (wr.drewN (1 + n)) := hS
        have hxn : Ext (fun _ => False) gr wr gr (wr.drewN (1 + n)) := (Ext.refl _ _ _).drewN _
        have HD2 := Lib.hid (HD.out.ext hxn (fun h => h))
        go_wp2_with fail
        refine ⟨hS2, ?_⟩
        (unfold wpMix wpRd; (repeat (first | simp only [List.filterMap_cons] | simp only [List.filterMap_nil] | simp only [List.getElem?_toArray] | simp only [List.getElem?_cons_zero] | simp only [List.getElem?_cons_succ])); (try dsimp only); change wpQuiet _ _ _ _ ([]) _; (repeat (go_big_quiet_step (fail))); refine wpQuiet_nil ?_; (try dsimp only))
        go_wp2_with fail
        refine (read_some d gr _ D HD2.out (slotN name 1) (slotN_ok hnm 1) hdn l hm).mono ?_
        rintro e w3 ⟨A, cap, g3, hx3, rfl, hby⟩
        have HBY := Lib.hid hby
        have HXB := Lib.hid (hxn.trans hx3)
        have hS3 : Blk s 95 (sCs d name 0 o0 none x0 x1) w3 := hS2.ext hx3 (fun h => h)
        go_wp2_with fail
        refine ⟨hS3, ?_⟩
        (unfold wpMix wpRd; (repeat (first | simp only [List.filterMap_cons] | simp only [List.filterMap_nil] | simp only [List.getElem?_toArray] | simp only [List.getElem?_cons_zero] | simp only [List.getElem?_cons_succ])); (try dsimp only); change wpQuiet _ _ _ _ (_ :: _ :: _ :: _ :: _ :: []) _; (repeat (go_big_quiet_step (fail))); refine wpQuiet_nil ?_; (try dsimp only))
        clear hN r0
        go_wp2_with fail
        clear hS hS2
        have hS : (fun x : World => w3.heap.size ≤ x.heap.size) w3.drew := Nat.le_refl _
        (refine wp_region_mix (S := (fun x : World => w3.heap.size ≤ x.heap.size)) [] [([0, 1, 2, 3, 4, 9, 10, 13, 14], 5), ([6, 7, 8, 11], 12), ([15], 16)] (by kernel_rfl) (by kernel_rfl) (by intro c a d v w h; cases d <;> exact h) hS ?_; have hN : Nonempty (Held ((fun x : World => w3.heap.size ≤ x.heap.size))) := ⟨⟨_, hS⟩⟩)
        (unfold wpMix wpRd; (repeat (first | simp only [List.filterMap_cons] | simp only [List.filterMap_nil] | simp only [List.getElem?_toArray] | simp only [List.getElem?_cons_zero] | simp only [List.getElem?_cons_succ])); (try dsimp only); change wpQuiet _ _ _ _ (_ :: _ :: _ :: _ :: _ :: _ :: _ :: _ :: _ :: []) _; (repeat (go_big_quiet_step (fail))); refine wpQuiet_nil ?_; (try dsimp only))
        go_wp2_with fail
        have hxd : Ext (fun _ => False) g3 w3 g3 w3.drew := (Ext.refl _ _ _).drew
        refine (decode_o g3 w3.drew c hc l HP.out _ HO.out A cap (HBY.out.ext hxd)).mono ?_
        rintro e w4 ⟨g4, xx, hx4, rfl, hst⟩
        obtain ⟨A5, n5, c5, rfl⟩ := hst.slice
        have HXB4 := Lib.hid ((HXB.out.trans hxd).trans hx4)
        have HS4 := Lib.hid (hS3.ext (hxd.trans hx4) (fun h => h))
        have HST := Lib.hid hst
        have HSZ4 : Hid (w3.heap.size ≤ w4.heap.size) := hx4.size
        have z := HS4.out.fz
        have p3 : w4.cell? ⟨s, 6, none⟩ = some (.bool false) := HS4.out.cell 6
        have p4 : w4.cell? ⟨s, 7, none⟩ = some (.int .i64 0) := HS4.out.cell 7
        have p5 : w4.cell? ⟨s, 8, none⟩ = some (.int .i64 0) := HS4.out.cell 8
        have p9 : w4.cell? ⟨s, 10, none⟩ = some x1 := HS4.out.cell 10
        clear hx4 hxd hst hx3 hxn
        go_wp2_with fail
        refine ⟨HSZ4.out, ?_⟩
        (unfold wpMix wpRd; (repeat (first | simp only [List.filterMap_cons] | simp only [List.filterMap_nil] | simp only [List.getElem?_toArray] | simp only [List.getElem?_cons_zero] | simp only [List.getElem?_cons_succ])); (try dsimp only); change wpQuiet _ _ _ _ (_ :: _ :: _ :: _ :: []) _; (repeat (go_big_quiet_step (fail))); refine wpQuiet_nil ?_; (try dsimp only))
        go_wp2_with fail
        refine ⟨by simpa using HSZ4.out, ?_⟩
        (unfold wpMix wpRd; (repeat (first | simp only [List.filterMap_cons] | simp only [List.filterMap_nil] | simp only [List.getElem?_toArray] | simp only [List.getElem?_cons_zero] | simp only [List.getElem?_cons_succ])); (try dsimp only); change wpQuiet _ _ _ _ (_ :: []) _; (repeat (go_big_quiet_step (fail))); refine wpQuiet_nil ?_; (try dsimp only))
        go_wp2_with fail
        refine ⟨by simpa using HSZ4.out, ?_⟩
        (unfold wpMix wpRd; (repeat (first | simp only [List.filterMap_cons] | simp only [List.filterMap_nil] | simp only [List.getElem?_toArray] | simp only [List.getElem?_cons_zero] | simp only [List.getElem?_cons_succ])); (try dsimp only); change wpQuiet _ _ _ _ ([]) _; (repeat (go_big_quiet_step (fail))); refine wpQuiet_nil ?_; (try dsimp only))
        clear hN
        go_wp2_with fail
        go_round
        case rel =>
          have hO4 : g4.O s = s := (HXB4.out.own s HB.out.lt).trans ((HX.out.own s hsl).trans hO)
          have hF4 : g4.F s = 0 := HXB4.out.zero s HB.out.lt (HX.out.zero s hsl hF)
          have hF5 := HXB4.out.zero _ HZ.out.lt hFz
          have hy := (((((Ext.refl (· = s) g4 w4).setCell (p := ⟨s, 6, none⟩) (fun _ => hO4) hF4 (.bool o1.isSome)).setCell (p := ⟨s, 7, none⟩) (fun _ => hO4) hF4 (.int .i64 (seqO o1))).setCell (p := ⟨s, 8, none⟩) (fun _ => hO4) hF4 (.int .i64 (posO o1))).setCell (p := ⟨s, 10, none⟩) (fun _ => hO4) hF4 (.slice A5 n5 c5))
          have hX5 := (HX.out.trans (HXB4.out.imp (fun _ h => h.elim))).trans hy
          have hb5 := ((((HS4.out.set 6 (.bool o1.isSome)).set 7 (.int .i64 (seqO o1))).set 8 (.int .i64 (posO o1))).set 10 (.slice A5 n5 c5))
          refine (Or.inr <| Or.inr ⟨rfl, g4, x0, .slice A5 n5 c5, hX5, ?_, (HS0.out.ext HXB4.out).ext hy, HST.out.ext hy, ?_, hF5⟩)
          · simpa [sCs] using hb5
          · have hz4 := HZ.out.ext HXB4.out (fun h => h)
            exact (((hz4.far (p := ⟨s, 6, none⟩) (by dsimp only; omega) _).far (p := ⟨s, 7, none⟩) (by dsimp only; omega) _).far (p := ⟨s, 8, none⟩) (by dsimp only; omega) _).far (p := ⟨s, 10, none⟩) (by dsimp only; omega) _
        case measure => simp [intOf]
    · obtain ⟨gr, x0, x1, hx, hb, hs0, hs1, hz, hFz⟩ := hrel
      have HX := Lib.hid hx
      have HS0 := Lib.hid hs0
      have HS1 := Lib.hid hs1
      have HZ := Lib.hid hz
      have HB := Lib.hid hb
      have p3 : wr.cell? ⟨s, 3, none⟩ = some (.bool o0.isSome) := hb.cell 3
      have p4 : wr.cell? ⟨s, 4, none⟩ = some (.int .i64 (seqO o0)) := hb.cell 4
      have p5 : wr.cell? ⟨s, 5, none⟩ = some (.int .i64 (posO o0)) := hb.cell 5
      have p6 : wr.cell? ⟨s, 6, none⟩ = some (.bool o1.isSome) := hb.cell 6
      have p7 : wr.cell? ⟨s, 7, none⟩ = some (.int .i64 (seqO o1)) := hb.cell 7
      have p8 : wr.cell? ⟨s, 8, none⟩ = some (.int .i64 (posO o1)) := hb.cell 8
      have z := hz.fz
      have c0 : wr.cell? ⟨w.heap.size, 0, none⟩ = some (.bool false) := hz.cell 0
      have c1 : wr.cell? ⟨w.heap.size, 1, none⟩ = some (.int .i64 0) := hz.cell 1
      have c2 : wr.cell? ⟨w.heap.size, 2, none⟩ = some (.int .i64 0) := hz.cell 2
      clear hx hs0 hs1 hz hb
      cases o1 with
      | none =>
        go_wp2_with fail
        have hS : (fun x : World => ∃ n, x = wr.drewN n) wr.drew := ⟨1, rfl⟩
        refine wp_region_s (S := (fun x : World => ∃ n, x = wr.drewN n)) (by kernel_rfl) (by kernel_rfl) hS ?_
        have hN : Nonempty (Held (fun x : World => ∃ n, x = wr.drewN n)) := ⟨⟨_, hS⟩⟩
        have r6 : ∀ y : Held ((fun x : World => ∃ n, x = wr.drewN n)), y.w.cell? ⟨s, 6, none⟩ = some (.bool false) := fun y => (by obtain ⟨n, hn⟩ := y.ok; rw [hn]; exact p6)
        have r7 : ∀ y : Held ((fun x : World => ∃ n, x = wr.drewN n)), y.w.cell? ⟨s, 7, none⟩ = some (.int .i64 0) := fun y => (by obtain ⟨n, hn⟩ := y.ok; rw [hn]; exact p7)
        have r8 : ∀ y : Held ((fun x : World => ∃ n, x = wr.drewN n)), y.w.cell? ⟨s, 8, none⟩ = some (.int .i64 0) := fun y => (by obtain ⟨n, hn⟩ := y.ok; rw [hn]; exact p8)
        (repeat (go_big_quiet_step (fail)))
        refine wpQuiet_nil ?_
        rintro _ ⟨⟨x, n, rfl⟩, rfl⟩
        clear hN r6 r7 r8
        go_wp2_with fail
        refine bodyPost_ret (v := .tuple #[.agg #[.bool o0.isSome, .int .i64 (seqO o0), .int .i64 (posO o0)], .int .i64 1]) (by simp [results, Tryz.results52, go_sem, c0, c1, c2]) rfl ?_
        exact newest_end (x := wr.drewN n) (HX.out.drewN n) HB.out (HS0.out.ext ((Ext.refl (fun _ => False) _ _).drewN n)) (HS1.out.ext ((Ext.refl (fun _ => False) _ _).drewN n)) hFz hsl (by simp [newS]) _ _ _
      | some cc =>
        have p6' : wr.cell? ⟨s, 6, none⟩ = some (.bool true) := p6
        have p7' : wr.cell? ⟨s, 7, none⟩ = some (.int .i64 cc.seq) := p7
        have p8' : wr.cell? ⟨s, 8, none⟩ = some (.int .i64 cc.pos) := p8
        clear p6 p7 p8
        have p6 := p6'
        have p7 := p7'
        have p8 := p8'
        clear p6' p7' p8'
        by_cases hlt : cc.seq < seqO o0
        · go_wp2_with fail
          have hS : (fun x : World => ∃ n, x = wr.drewN n) wr.drew := ⟨1, rfl⟩
          refine wp_region_s (S := (fun x : World => ∃ n, x = wr.drewN n)) (by kernel_rfl) (by kernel_rfl) hS ?_
          have hN : Nonempty (Held (fun x : World => ∃ n, x = wr.drewN n)) := ⟨⟨_, hS⟩⟩
          have r4 : ∀ y : Held ((fun x : World => ∃ n, x = wr.drewN n)), y.w.cell? ⟨s, 4, none⟩ = some (.int .i64 (seqO o0)) := fun y => (by obtain ⟨n, hn⟩ := y.ok; rw [hn]; exact p4)
          have r6 : ∀ y : Held ((fun x : World => ∃ n, x = wr.drewN n)), y.w.cell? ⟨s, 6, none⟩ = some (.bool true) := fun y => (by obtain ⟨n, hn⟩ := y.ok; rw [hn]; exact p6)
          have r7 : ∀ y : Held ((fun x : World => ∃ n, x = wr.drewN n)), y.w.cell? ⟨s, 7, none⟩ = some (.int .i64 cc.seq) := fun y => (by obtain ⟨n, hn⟩ := y.ok; rw [hn]; exact p7)
          have r8 : ∀ y : Held ((fun x : World => ∃ n, x = wr.drewN n)), y.w.cell? ⟨s, 8, none⟩ = some (.int .i64 cc.pos) := fun y => (by obtain ⟨n, hn⟩ := y.ok; rw [hn]; exact p8)
          (repeat (go_big_quiet_step (fail)))
          refine wpQuiet_nil ?_
          rintro _ ⟨⟨x, n, rfl⟩, rfl⟩
          clear hN r4 r6 r7 r8
          go_wp2_with fail
          refine bodyPost_ret (v := .tuple #[.agg #[.bool o0.isSome, .int .i64 (seqO o0), .int .i64 (posO o0)], .int .i64 1]) (by simp [results, Tryz.results52, go_sem, c0, c1, c2]) rfl ?_
          exact newest_end (x := wr.drewN n) (HX.out.drewN n) HB.out (HS0.out.ext ((Ext.refl (fun _ => False) _ _).drewN n)) (HS1.out.ext ((Ext.refl (fun _ => False) _ _).drewN n)) hFz hsl (by unfold newS; rw [if_pos (.inr hlt)]) _ _ _
        · go_wp2_with fail
          have hS : (fun x : World => ∃ n, x = wr.drewN n) wr.drew := ⟨1, rfl⟩
          refine wp_region_s (S := (fun x : World => ∃ n, x = wr.drewN n)) (by kernel_rfl) (by kernel_rfl) hS ?_
          have hN : Nonempty (Held (fun x : World => ∃ n, x = wr.drewN n)) := ⟨⟨_, hS⟩⟩
          have r4 : ∀ y : Held ((fun x : World => ∃ n, x = wr.drewN n)), y.w.cell? ⟨s, 4, none⟩ = some (.int .i64 (seqO o0)) := fun y => (by obtain ⟨n, hn⟩ := y.ok; rw [hn]; exact p4)
          have r6 : ∀ y : Held ((fun x : World => ∃ n, x = wr.drewN n)), y.w.cell? ⟨s, 6, none⟩ = some (.bool true) := fun y => (by obtain ⟨n, hn⟩ := y.ok; rw [hn]; exact p6)
          have r7 : ∀ y : Held ((fun x : World => ∃ n, x = wr.drewN n)), y.w.cell? ⟨s, 7, none⟩ = some (.int .i64 cc.seq) := fun y => (by obtain ⟨n, hn⟩ := y.ok; rw [hn]; exact p7)
          have r8 : ∀ y : Held ((fun x : World => ∃ n, x = wr.drewN n)), y.w.cell? ⟨s, 8, none⟩ = some (.int .i64 cc.pos) := fun y => (by obtain ⟨n, hn⟩ := y.ok; rw [hn]; exact p8)
          (repeat (go_big_quiet_step (fail)))
          refine wpQuiet_nil ?_
          rintro _ ⟨⟨x, n, rfl⟩, rfl⟩
          clear hN r4 r6 r7 r8
          go_wp2_with fail
          refine bodyPost_ret (v := .tuple #[.agg #[.bool true, .int .i64 cc.seq, .int .i64 cc.pos], .int .i64 0]) (by simp [results, Tryz.results52, go_sem, c0, c1, c2]) rfl ?_
          exact newest_end (x := wr.drewN n) (HX.out.drewN n) HB.out (HS0.out.ext ((Ext.refl (fun _ => False) _ _).drewN n)) (HS1.out.ext ((Ext.refl (fun _ => False) _ _).drewN n)) hFz hsl (by unfold newS; rw [if_neg (by simpa [seqO] using hlt)]) _ _ _
end

section
open Go.RowKit

set_option maxRecDepth 100000 in
set_option maxHeartbeats 6400000 in
theorem newest_down (s d : Nat) (g : Gh) (w : World) (D : Dev) (name : ByteArray) (hD : DevAt g w d D) (hdn : D.down = true) (hnm : nmB false 40 name = true)
    (hB : Blk s 95 (sCs d name 0 none none (.slice none 0 0) (.slice none 0 0)) w) (hO : g.O s = s) (hF : g.F s = 0) :
    Calls Tryz.prog 52 #[.pointer (some ⟨s, 0, none⟩)] w fun e w' => ∃ g', e = .returned (.tuple #[.agg #[.bool false, .int .i64 0, .int .i64 0], .int .i64 0]) ∧ Ext (· = s) g w g' w' ∧ Blk s 95 (sCs d name 303 none none (.slice none 0 0) (.slice none 0 0)) w' := by
  have hns := nm_size hnm
  have hxb : Ext (fun _ => False) g w (g.box w.heap.size) (w.alloc (.cells #[.bool false, .int .i64 0, .int .i64 0] 91)) := Ext.box _ g w _
  have hBS : Blk s 95 (sCs d name 0 none none (.slice none 0 0) (.slice none 0 0)) (w.alloc (.cells #[.bool false, .int .i64 0, .int .i64 0] 91)) := hB.alloc _
  have HZS : Hid (Blk w.heap.size 91 [.bool false, .int .i64 0, .int .i64 0] (w.alloc (.cells #[.bool false, .int .i64 0, .int .i64 0] 91))) := Blk.new w 91 [.bool false, .int .i64 0, .int .i64 0]
  have hFS : (g.box w.heap.size).F w.heap.size = 0 := g.box_F _
  have HDB := Lib.hid (hD.ext hxb (fun h => h))
  have HXB := Lib.hid hxb
  have hsl := hB.lt
  have hOS := (hxb.own s hsl).trans hO
  have hFS' := hxb.zero s hsl hF
  have HB := Lib.hid hBS
  clear hB hxb hBS
  generalize g.box w.heap.size = gb at *
  have hS : Blk s 95 (sCs d name 0 none none (.slice none 0 0) (.slice none 0 0)) (w.alloc (.cells #[.bool false, .int .i64 0, .int .i64 0] 91)).drew := HB.out
  have q1 : (w.alloc (.cells #[.bool false, .int .i64 0, .int .i64 0] 91)).drew.cell? ⟨s, 1, none⟩ = some (.string name) := HB.out.cell 1
  go_enter Tryz.func52, Tryz.ntmps52
  go_wp2_with fail
  refine wp_loop_rounds 1 ?_
  rw [rounds_succ]
  go_wp2_with fail
  (refine wp_region_mix (S := Blk s 95 (sCs d name 0 none none (.slice none 0 0) (.slice none 0 0))) [8, 9, 10, 11, 12] [([0, 1, 2, 3, 4, 5], 6), ([], 7)] (by kernel_rfl) (by kernel_rfl) (by intro c a d v w h; cases d <;> exact h) hS ?_; have hN : Nonempty (Held (Blk s 95 (sCs d name 0 none none (.slice none 0 0) (.slice none 0 0)))) := ⟨⟨_, hS⟩⟩)
  have r0 : ∀ y : Held (Blk s 95 (sCs d name 0 none none (.slice none 0 0) (.slice none 0 0))), y.w.cell? ⟨s, 0, none⟩ = some (.pointer (some ⟨d, 0, none⟩)) := fun y => y.ok.cell 0
  (unfold wpMix wpRd; (repeat (first | simp only [List.filterMap_cons] | simp only [List.filterMap_nil] | simp only [List.getElem?_toArray] | simp only [List.getElem?_cons_zero] | simp only [List.getElem?_cons_succ])); (try dsimp only); change wpQuiet _ _ _ _ (_ :: _ :: _ :: _ :: _ :: _ :: []) _; (repeat (go_big_quiet_step (fail))); refine wpQuiet_nil ?_; (try dsimp only))
  go_wp2_with fail
  refine (file_any s 0 _ name (by omega) q1 hns).mono ?_
  rintro e w2 ⟨rfl, n, rfl⟩
  have hS2 : Blk s 95 (sCs d name 0 none none (.slice none 0 0) (.slice none 0 0)) ((w.alloc (.cells #[.bool false, .int .i64 0, .int .i64 0] 91)).drewN (1 + n)) := hS
  have hxn : Ext (fun _ => False) gb (w.alloc (.cells #[.bool false, .int .i64 0, .int .i64 0] 91)) gb ((w.alloc (.cells #[.bool false, .int .i64 0, .int .i64 0] 91)).drewN (1 + n)) := (Ext.refl _ _ _).drewN _
  have HD2 := Lib.hid (HDB.out.ext hxn (fun h => h))
  go_wp2_with fail
  refine ⟨hS2, ?_⟩
  (unfold wpMix wpRd; (repeat (first | simp only [List.filterMap_cons] | simp only [List.filterMap_nil] | simp only [List.getElem?_toArray] | simp only [List.getElem?_cons_zero] | simp only [List.getElem?_cons_succ])); (try dsimp only); change wpQuiet _ _ _ _ ([]) _; (repeat (go_big_quiet_step (fail))); refine wpQuiet_nil ?_; (try dsimp only))
  go_wp2_with fail
  refine (read_down d gb _ D HD2.out (slotN name 0) (slotN_ok hnm 0) hdn).mono ?_
  rintro e w3 ⟨A, cap, g3, hx3, rfl⟩
  have hS3 : Blk s 95 (sCs d name 0 none none (.slice none 0 0) (.slice none 0 0)) w3 := hS2.ext hx3 (fun h => h)
  have HX3 := Lib.hid (HXB.out.trans (hxn.trans hx3))
  have hz3 := (HZS.out.ext hxn (fun h => h)).ext hx3 (fun h => h)
  have HZ3 := Lib.hid hz3
  have hF3 := (hxn.trans hx3).zero _ HZS.out.lt hFS
  have hO3 : g3.O s = s := ((hxn.trans hx3).own s HB.out.lt).trans hOS
  have hFs3 : g3.F s = 0 := (hxn.trans hx3).zero s HB.out.lt hFS'
  have z := hS3.fz
  have zz := hz3.fz
  have q2 : w3.cell? ⟨s, 2, none⟩ = some (.int .i64 0) := hS3.cell 2
  have c0 : w3.cell? ⟨w.heap.size, 0, none⟩ = some (.bool false) := hz3.cell 0
  have c1 : w3.cell? ⟨w.heap.size, 1, none⟩ = some (.int .i64 0) := hz3.cell 1
  have c2 : w3.cell? ⟨w.heap.size, 2, none⟩ = some (.int .i64 0) := hz3.cell 2
  have hne : s ≠ w.heap.size := by omega
  have hne' : w.heap.size ≠ s := by omega
  clear hx3 hxn hz3
  go_wp2_with fail
  refine ⟨hS3, ?_⟩
  (unfold wpMix wpRd; (repeat (first | simp only [List.filterMap_cons] | simp only [List.filterMap_nil] | simp only [List.getElem?_toArray] | simp only [List.getElem?_cons_zero] | simp only [List.getElem?_cons_succ])); (try dsimp only); change wpQuiet _ _ _ _ (_ :: _ :: _ :: _ :: _ :: []) _; (repeat (go_big_quiet_step (fail))); refine wpQuiet_nil ?_; (try dsimp only))
  clear hN r0
  go_wp2_with fail
  refine bodyPost_ret (v := .tuple #[.agg #[.bool false, .int .i64 0, .int .i64 0], .int .i64 0]) (by simp [results, Tryz.results52, go_sem, c0, c1, c2]) rfl ?_
  have hx4 := (HX3.out.imp (fun o (h : False) => (h.elim : o = s))).setCell (p := ⟨s, 2, none⟩) (fun h => (HX3.out.own s h).symm.trans hO3) hFs3 (.int .i64 303)
  refine ⟨g3, rfl, Ext.put3 hx4 (Nat.le_refl _) hF3 _ _ _, ?_⟩
  have hb4 := hS3.set 2 (.int .i64 303)
  exact ((Blk.far (p := ⟨w.heap.size, 0, none⟩) (by simpa [sCs] using hb4) hne _).far (p := ⟨w.heap.size, 1, none⟩) hne _).far (p := ⟨w.heap.size, 2, none⟩) hne _

/-- What write does to the device, and the error that it leaves. -/
noncomputable def svOp (name : ByteArray) (i : Nat) (c : Ck) : POp := ⟨0, slotN name i, ⟨#[]⟩, encC c, true⟩
noncomputable def svI (D : Dev) (o : POp) : Int := if actI D = 0 then syncI (actD D o) else actI D
noncomputable def svD (D : Dev) (o : POp) : Dev := if actI D = 0 then syncD (actD D o) else actD D o
theorem actI_two (D : Dev) : actI D = 0 ∨ actI D = 303 := by unfold actI doI; split <;> (try split) <;> simp
def WriteP (s d : Nat) (name : ByteArray) (g : Gh) (w : World) (o0 o1 : Option Ck) (x0 x1 : Value) (E : Int) (D' : Dev) (w' : World) : Prop :=
  ∃ g', Ext (fun o => o = s ∨ o = d) g w g' w' ∧ Blk s 95 (sCs d name E o0 o1 x0 x1) w' ∧ DevAt g' w' d D'

set_option maxRecDepth 100000 in
set_option maxHeartbeats 6400000 in
theorem cwrite_any (s d : Nat) (g : Gh) (w : World) (D : Dev) (name : ByteArray) (hD : DevAt g w d D) (hnm : nmB false 40 name = true) (o0 o1 : Option Ck) (x0 x1 : Value) (i : Nat) (hi : i < 2) (c : Ck) (hc : CkOk c) (A : Option Addr) (cap : Nat) (hr : BytesAt g w (.slice A c.st.length cap) c.st)
    (hB : Blk s 95 (sCs d name 0 o0 o1 x0 x1) w) (hO : g.O s = s) (hF : g.F s = 0) (hsd : s ≠ d) (hn : D.now.n < 256) (hpl : D.pend.length ≤ 999999) :
    Calls Tryz.prog 75 #[.pointer (some ⟨s, 0, none⟩), .int .i64 (i : Nat), .agg #[.bool true, .int .i64 c.seq, .int .i64 c.pos], .slice A c.st.length cap] w fun e w' => e = .returned (.tuple #[]) ∧ WriteP s d name g w o0 o1 x0 x1 (svI D (svOp name i c)) (svD D (svOp name i c)) w' := by
  have hns := nm_size hnm
  have hxb : Ext (fun _ => False) g w (g.box w.heap.size) (w.alloc (.cells #[.bool true, .int .i64 c.seq, .int .i64 c.pos] 91)) := Ext.box _ g w _
  have hZ : Blk w.heap.size 91 [.bool true, .int .i64 c.seq, .int .i64 c.pos] (w.alloc (.cells #[.bool true, .int .i64 c.seq, .int .i64 c.pos] 91)) := Blk.new w 91 _
  have hbb : Blk s 95 (sCs d name 0 o0 o1 x0 x1) (w.alloc (.cells #[.bool true, .int .i64 c.seq, .int .i64 c.pos] 91)) := hB.alloc _
  have HD := Lib.hid (hD.ext hxb (fun h => h))
  have HR := Lib.hid (hr.ext hxb)
  have hsl := hB.lt
  have hO1 := (hxb.own s hsl).trans hO
  have hF1 := hxb.zero s hsl hF
  have HXB := Lib.hid hxb
  have HZ := Lib.hid hZ
  have HB := Lib.hid hbb
  have hS : (fun x : World => Blk s 95 (sCs d name 0 o0 o1 x0 x1) x ∧ Blk w.heap.size 91 [.bool true, .int .i64 c.seq, .int .i64 c.pos] x) (w.alloc (.cells #[.bool true, .int .i64 c.seq, .int .i64 c.pos] 91)).drew := ⟨hbb, hZ⟩
  have q1 : (w.alloc (.cells #[.bool true, .int .i64 c.seq, .int .i64 c.pos] 91)).drew.cell? ⟨s, 1, none⟩ = some (.string name) := hbb.cell 1
  have hDl := hD.lt
  clear hbb hZ hxb hB hr hD
  have hOz : (g.box w.heap.size).O w.heap.size = w.heap.size := g.box_O _
  have hdl := hDl
  generalize g.box w.heap.size = gb at *
  generalize hw1 : w.alloc (.cells #[.bool true, .int .i64 c.seq, .int .i64 c.pos] 91) = w1 at *
  go_enter Tryz.func75, Tryz.ntmps75
  go_wp2_with fail
  (refine wp_region_mixz (S := (fun x : World => Blk s 95 (sCs d name 0 o0 o1 x0 x1) x ∧ Blk w.heap.size 91 [.bool true, .int .i64 c.seq, .int .i64 c.pos] x)) [12, 13] 14 [([0, 1, 2, 3, 4, 5, 6, 8, 9], 7), ([], 10), ([], 11)] (by kernel_rfl) (by kernel_rfl) (by intro c a d v w h; cases d <;> exact h) hS ?_; have hN : Nonempty (Held ((fun x : World => Blk s 95 (sCs d name 0 o0 o1 x0 x1) x ∧ Blk w.heap.size 91 [.bool true, .int .i64 c.seq, .int .i64 c.pos] x))) := ⟨⟨_, hS⟩⟩)
  have r0 : ∀ y : Held ((fun x : World => Blk s 95 (sCs d name 0 o0 o1 x0 x1) x ∧ Blk w.heap.size 91 [.bool true, .int .i64 c.seq, .int .i64 c.pos] x)), y.w.cell? ⟨s, 0, none⟩ = some (.pointer (some ⟨d, 0, none⟩)) := fun y => y.ok.1.cell 0
  have t0 : ∀ y : Held ((fun x : World => Blk s 95 (sCs d name 0 o0 o1 x0 x1) x ∧ Blk w.heap.size 91 [.bool true, .int .i64 c.seq, .int .i64 c.pos] x)), y.w.cell? ⟨w.heap.size, 0, none⟩ = some (.bool true) := fun y => y.ok.2.cell 0
  have t1 : ∀ y : Held ((fun x : World => Blk s 95 (sCs d name 0 o0 o1 x0 x1) x ∧ Blk w.heap.size 91 [.bool true, .int .i64 c.seq, .int .i64 c.pos] x)), y.w.cell? ⟨w.heap.size, 1, none⟩ = some (.int .i64 c.seq) := fun y => y.ok.2.cell 1
  have t2 : ∀ y : Held ((fun x : World => Blk s 95 (sCs d name 0 o0 o1 x0 x1) x ∧ Blk w.heap.size 91 [.bool true, .int .i64 c.seq, .int .i64 c.pos] x)), y.w.cell? ⟨w.heap.size, 2, none⟩ = some (.int .i64 c.pos) := fun y => y.ok.2.cell 2
  (unfold wpMixZ wpRd; (repeat (first | simp only [List.filterMap_cons] | simp only [List.filterMap_nil] | simp only [List.getElem?_toArray] | simp only [List.getElem?_cons_zero] | simp only [List.getElem?_cons_succ])); (try dsimp only); change wpQuiet _ _ _ _ (_ :: _ :: _ :: _ :: _ :: _ :: _ :: _ :: _ :: []) _; (repeat (go_big_quiet_step (fail))); refine wpQuiet_nil ?_; (try dsimp only))
  clear r0 t0 t1 t2
  go_wp2_with fail
  refine (file_any s i _ name hi q1 hns).mono ?_
  rintro e w2 ⟨rfl, n, rfl⟩
  have hS2 : (fun x : World => Blk s 95 (sCs d name 0 o0 o1 x0 x1) x ∧ Blk w.heap.size 91 [.bool true, .int .i64 c.seq, .int .i64 c.pos] x) (w1.drewN (1 + n)) := hS
  have hxn : Ext (fun _ => False) gb w1 gb (w1.drewN (1 + n)) := (Ext.refl _ _ _).drewN _
  go_wp2_with fail
  refine ⟨hS2, ?_⟩
  (unfold wpMixZ wpRd; (repeat (first | simp only [List.filterMap_cons] | simp only [List.filterMap_nil] | simp only [List.getElem?_toArray] | simp only [List.getElem?_cons_zero] | simp only [List.getElem?_cons_succ])); (try dsimp only); change wpQuiet _ _ _ _ ([]) _; (repeat (go_big_quiet_step (fail))); refine wpQuiet_nil ?_; (try dsimp only))
  go_wp2_with fail
  refine (encode_any gb (w1.drewN (1 + n)) c hc A cap (HR.out.ext hxn)).mono ?_
  rintro e w3 ⟨A3, cap3, g3, rfl, hx3, hb3⟩
  have hS3 : (fun x : World => Blk s 95 (sCs d name 0 o0 o1 x0 x1) x ∧ Blk w.heap.size 91 [.bool true, .int .i64 c.seq, .int .i64 c.pos] x) w3 := ⟨hS2.1.ext hx3 (fun h => h), hS2.2.ext hx3 (fun h => h)⟩
  have HX3 := Lib.hid (HXB.out.trans (hxn.trans hx3))
  have HD3 := Lib.hid ((HD.out.ext hxn (fun h => h)).ext hx3 (fun h => h))
  have HB3 := Lib.hid hb3
  have hO3 : g3.O s = s := ((hxn.trans hx3).own s HB.out.lt).trans hO1
  have hF3 : g3.F s = 0 := (hxn.trans hx3).zero s HB.out.lt hF1
  have hOz3 : g3.O w.heap.size = w.heap.size := ((hxn.trans hx3).own _ HZ.out.lt).trans hOz
  have hel := encC_len hc
  clear hx3 hxn hb3 HD HR HXB q1
  go_wp2_with fail
  refine ⟨hS3, ?_⟩
  (unfold wpMixZ wpRd; (repeat (first | simp only [List.filterMap_cons] | simp only [List.filterMap_nil] | simp only [List.getElem?_toArray] | simp only [List.getElem?_cons_zero] | simp only [List.getElem?_cons_succ])); (try dsimp only); change wpQuiet _ _ _ _ ([]) _; (repeat (go_big_quiet_step (fail))); refine wpQuiet_nil ?_; (try dsimp only))
  go_wp2_with fail
  refine (dcreate_any d g3 w3 D HD3.out (slotN name i) A3 cap3 (encC c) HB3.out (slotN_ok hnm i) (by omega) hn (by omega)).mono ?_
  rintro e w4 ⟨rfl, g4, hx4, hD4⟩
  have hS4 : (fun x : World => Blk s 95 (sCs d name 0 o0 o1 x0 x1) x ∧ Blk w.heap.size 91 [.bool true, .int .i64 c.seq, .int .i64 c.pos] x) w4 := ⟨hS3.1.ext hx4 (by rw [hO3]; exact hsd), hS3.2.ext hx4 (by rw [hOz3]; omega)⟩
  have HX4 := Lib.hid ((HX3.out.imp (fun o (h : False) => (h.elim : o = s ∨ o = d))).trans (hx4.imp (fun _ h => Or.inr h)))
  have hO4 : g4.O s = s := (hx4.own s hS3.1.lt).trans hO3
  have hF4 : g4.F s = 0 := hx4.zero s hS3.1.lt hF3
  change DevAt g4 w4 d (actD D (svOp name i c)) at hD4
  have hpl4 : (actD D (svOp name i c)).pend.length ≤ 1000000 := by
    have hb := burn_now D
    unfold actD doD
    split
    · omega
    · split
      · rw [hb.2.1]; omega
      · simp; omega
  have HD4 := Lib.hid hD4
  have z := hS4.1.fz
  have q2 : w4.cell? ⟨s, 2, none⟩ = some (.int .i64 0) := hS4.1.cell 2
  have q0 : w4.cell? ⟨s, 0, none⟩ = some (.pointer (some ⟨d, 0, none⟩)) := hS4.1.cell 0
  clear hx4 hD4 HX3 HD3 HB3 hel
  go_wp2_with fail
  refine ⟨hS4, ?_⟩
  (unfold wpMixZ wpRd; (repeat (first | simp only [List.filterMap_cons] | simp only [List.filterMap_nil] | simp only [List.getElem?_toArray] | simp only [List.getElem?_cons_zero] | simp only [List.getElem?_cons_succ])); (try dsimp only); change wpQuiet _ _ _ _ (_ :: _ :: []) _; (repeat (go_big_quiet_step (fail))); refine wpQuiet_nil ?_; (try dsimp only))
  clear hN
  have HSV : Hid (∀ E, Blk s 95 (sCs d name E o0 o1 x0 x1) (w4.setCell ⟨s, 2, none⟩ (.int .i64 E)) ∧ Ext (fun o => o = s ∨ o = d) g w g4 (w4.setCell ⟨s, 2, none⟩ (.int .i64 E)) ∧ DevAt g4 (w4.setCell ⟨s, 2, none⟩ (.int .i64 E)) d (actD D (svOp name i c))) := fun E => by
    have hy := (Ext.refl (· = s) g4 w4).setCell (p := ⟨s, 2, none⟩) (fun _ => hO4) hF4 (.int .i64 E)
    refine ⟨?_, HX4.out.trans (hy.imp (fun _ h => Or.inl h)), HD4.out.ext hy (fun h => hsd h.symm)⟩
    have hb5 := hS4.1.set 2 (.int .i64 E)
    simpa [sCs] using hb5
  rcases actI_two D with ha | ha
  · have HV : Hid (svI D (svOp name i c) = syncI (actD D (svOp name i c)) ∧ svD D (svOp name i c) = syncD (actD D (svOp name i c))) := by
      show _ ∧ _
      unfold svI svD
      rw [if_pos ha, if_pos ha]
      exact ⟨rfl, rfl⟩
    rw [ha]
    obtain ⟨hb5, hx5, hd5⟩ := HSV.out 0
    have HB5 := Lib.hid hb5
    have HX5 := Lib.hid hx5
    have HD5 := Lib.hid hd5
    clear hb5 hx5 hd5 HSV
    go_wp2_with fail
    refine (sync_any d g4 _ _ HD5.out hpl4).mono ?_
    rintro e w6 ⟨rfl, g6, hx6, hD6⟩
    have hB6 := HB5.out.ext hx6 (by rw [hO4]; exact hsd)
    have hO6 : g6.O s = s := (hx6.own s HB5.out.lt).trans hO4
    have hF6 : g6.F s = 0 := hx6.zero s HB5.out.lt hF4
    have z6 := hB6.fz
    have q6 : w6.cell? ⟨s, 2, none⟩ = some (.int .i64 0) := hB6.cell 2
    have HX6 := Lib.hid (HX5.out.trans (hx6.imp (fun _ h => Or.inr h)))
    have HD6 := Lib.hid hD6
    have HB6 := Lib.hid hB6
    clear hx6 hD6 hB6 q2 q0 z
    generalize hE6 : syncI (actD D (svOp name i c)) = E6 at *
    go_wp2_with fail
    go_end0
    rw [HV.out.1, HV.out.2]
    refine ⟨rfl, g6, ?_, ?_, ?_⟩
    · exact HX6.out.trans (((Ext.refl (· = s) g6 w6).setCell (p := ⟨s, 2, none⟩) (fun _ => hO6) hF6 _).imp (fun _ h => Or.inl h))
    · have hb7 := HB6.out.set 2 (.int .i64 E6)
      simpa [sCs] using hb7
    · exact HD6.out.ext ((Ext.refl (· = s) g6 w6).setCell (p := ⟨s, 2, none⟩) (fun _ => hO6) hF6 _) (fun h => hsd h.symm)
  · have HV : Hid (svI D (svOp name i c) = 303 ∧ svD D (svOp name i c) = actD D (svOp name i c)) := by
      show _ ∧ _
      unfold svI svD
      rw [if_neg (by omega), if_neg (by omega)]
      exact ⟨ha, rfl⟩
    rw [ha]
    obtain ⟨hb5, hx5, hd5⟩ := HSV.out 303
    have HB5 := Lib.hid hb5
    have HX5 := Lib.hid hx5
    have HD5 := Lib.hid hd5
    clear hb5 hx5 hd5 HSV
    go_wp2_with fail
    go_end0
    rw [HV.out.1, HV.out.2]
    exact ⟨rfl, g4, HX5.out, HB5.out, HD5.out⟩
end

section
open Go.RowKit

set_option maxRecDepth 100000 in
theorem save1_zero (s b : Nat) (w : World) (hs : w.cell? ⟨s, 2, none⟩ = some (.int .i64 0)) :
    CallsD Tryz.prog 74 #[.pointer (some ⟨s, 0, none⟩), .pointer (some ⟨b, 0, none⟩)] .returning w fun e u' w' => u' = .returning ∧ e = .returned (.tuple #[]) ∧ w' = w := by
  go_enter_d Tryz.func74, Tryz.ntmps74
  go_wp2_with fail
  go_end0
  exact ⟨rfl, rfl⟩
set_option maxRecDepth 100000 in
theorem save1_some (s b : Nat) (w : World) (E x : Int) (hE : E ≠ 0) (hs : w.cell? ⟨s, 2, none⟩ = some (.int .i64 E)) (hb : w.cell? ⟨b, 0, none⟩ = some (.int .i64 x)) (hz : w.frozen? ⟨b, 0, none⟩ = false) :
    CallsD Tryz.prog 74 #[.pointer (some ⟨s, 0, none⟩), .pointer (some ⟨b, 0, none⟩)] .returning w fun e u' w' => u' = .returning ∧ e = .returned (.tuple #[]) ∧ w' = w.setCell ⟨b, 0, none⟩ (.int .i64 E) := by
  go_enter_d Tryz.func74, Tryz.ntmps74
  go_wp2_with fail
  go_end0
  exact ⟨rfl, rfl⟩

set_option maxRecDepth 100000 in
theorem save_bad (d : Nat) (w : World) (name : ByteArray) (hs : name.size ≤ 9223372036854775807) (h : nmB false 40 name = false) (p : Int) (v : Value) :
    Calls Tryz.prog 56 #[.pointer (some ⟨d, 0, none⟩), .string name, .int .i64 p, v] w fun e w' => e = .returned (.int .i64 323) ∧ Below w.heap.size w w' := by
  have hmf : ∀ (fn : Fn) (first cap : Array Value) (w : World), (Instr.makeFunc fn first cap).run Tryz.prog w = .ok (.func fn first cap) w := fun _ _ _ _ => rfl
  go_enter_defers Tryz.func56, Tryz.ntmps56
  go_wp2_with fail
  refine (cname_any name _ hs).mono ?_
  rw [h]
  rintro e w' ⟨rfl, rfl⟩
  go_wp2_with fail
  simp [bodyPostD, Leaves, results, Tryz.results56, go_sem]
  exact (Below.refl _ _).alloc (Nat.le_refl _) _

/-- What Save leaves. -/
def SaveP (d : Nat) (g : Gh) (w : World) (D' : Dev) (w' : World) : Prop := ∃ g', Ext (fun o => o = d ∨ w.heap.size ≤ o) g w g' w' ∧ DevAt g' w' d D'
theorem save_pro (d : Nat) (g : Gh) (w : World) (D : Dev) (hD : DevAt g w d D) (name : ByteArray) : ∃ g2, (fun x : World => Ext (fun _ => False) g w g2 x ∧ Blk w.heap.size 23 [.int .i64 0] x ∧ Blk (w.heap.size + 1) 95 (sCs d name 0 none none (.slice none 0 0) (.slice none 0 0)) x ∧ DevAt g2 x d D) ((w.alloc (.cells #[.int .i64 0] 23)).alloc (.cells #[.pointer (some ⟨d, 0, none⟩), .string name, .int .i64 0, .bool false, .int .i64 0, .int .i64 0, .bool false, .int .i64 0, .int .i64 0, .slice none 0 0, .slice none 0 0] 95)) ∧
    g2.O (w.heap.size + 1) = w.heap.size + 1 ∧ g2.F (w.heap.size + 1) = 0 ∧ g2.O w.heap.size = w.heap.size ∧ g2.F w.heap.size = 0 := by
  have h1 := Ext.box (fun _ => False) g w (.cells #[.int .i64 0] 23)
  have hsz : (w.alloc (.cells #[.int .i64 0] 23)).heap.size = w.heap.size + 1 := by simp
  have h2 := Ext.box (fun _ => False) (g.box w.heap.size) (w.alloc (.cells #[.int .i64 0] 23)) (.cells #[.pointer (some ⟨d, 0, none⟩), .string name, .int .i64 0, .bool false, .int .i64 0, .int .i64 0, .bool false, .int .i64 0, .int .i64 0, .slice none 0 0, .slice none 0 0] 95)
  have hb := Blk.new (w.alloc (.cells #[.int .i64 0] 23)) 95 (sCs d name 0 none none (.slice none 0 0) (.slice none 0 0))
  rw [hsz] at h2 hb
  refine ⟨(g.box w.heap.size).box (w.heap.size + 1), ⟨h1.trans h2, (Blk.new w 23 [.int .i64 0]).ext h2 (fun h => h), hb, (hD.ext h1 (fun h => h)).ext h2 (fun h => h)⟩, Gh.box_O _ _, Gh.box_F _ _, ?_, ?_⟩
  · simp [Gh.box]
  · simp [Gh.box]

theorem save_end0 {d : Nat} {g g3 : Gh} {w w3 : World} {D : Dev} (hx : Ext (fun o => o = d ∨ w.heap.size ≤ o) g w g3 w3) (hD : DevAt g3 w3 d D) (hO : g3.O w.heap.size = w.heap.size) (hF : g3.F w.heap.size = 0) (hd : d < w.heap.size) (u : Value) : SaveP d g w D (w3.setCell ⟨w.heap.size, 0, none⟩ u) :=
  ⟨g3, hx.setCell (p := ⟨w.heap.size, 0, none⟩) (fun h => absurd h (Nat.lt_irrefl _)) hF u, hD.ext ((Ext.refl (· = w.heap.size) g3 w3).setCell (p := ⟨w.heap.size, 0, none⟩) (fun _ => hO) hF u) (by omega)⟩
theorem save_end {d : Nat} {g g3 : Gh} {w w3 : World} {D : Dev} (hx : Ext (fun o => o = d ∨ w.heap.size ≤ o) g w g3 w3) (hD : DevAt g3 w3 d D) (hO : g3.O w.heap.size = w.heap.size) (hF : g3.F w.heap.size = 0) (hd : d < w.heap.size) (u : Value) (ob : Obj) : SaveP d g w D ((w3.setCell ⟨w.heap.size, 0, none⟩ u).alloc ob) := by
  obtain ⟨g', h1, h2⟩ := save_end0 hx hD hO hF hd u
  exact ⟨g', h1.alloc ob, h2.ext ((Ext.refl (fun _ => False) g' _).alloc ob) (fun h => h)⟩

theorem save_end2 {d : Nat} {g g3 : Gh} {w w3 : World} {D : Dev} (hx : Ext (fun o => o = d ∨ w.heap.size ≤ o) g w g3 w3) (hD : DevAt g3 w3 d D) (hO : g3.O w.heap.size = w.heap.size) (hF : g3.F w.heap.size = 0) (hd : d < w.heap.size) (u v : Value) (ob : Obj) : SaveP d g w D (((w3.setCell ⟨w.heap.size, 0, none⟩ u).alloc ob).setCell ⟨w.heap.size, 0, none⟩ v) :=
  ⟨g3, ((hx.setCell (p := ⟨w.heap.size, 0, none⟩) (fun h => absurd h (Nat.lt_irrefl _)) hF u).alloc ob).setCell (p := ⟨w.heap.size, 0, none⟩) (fun h => absurd h (Nat.lt_irrefl _)) hF v, hD.ext ((((Ext.refl (· = w.heap.size) g3 w3).setCell (p := ⟨w.heap.size, 0, none⟩) (fun _ => hO) hF u).alloc ob).setCell (p := ⟨w.heap.size, 0, none⟩) (fun _ => hO) hF v) (by omega)⟩

set_option maxRecDepth 100000 in
set_option maxHeartbeats 6400000 in
theorem save_down (d : Nat) (g : Gh) (w : World) (D : Dev) (hD : DevAt g w d D) (hdn : D.down = true) (name : ByteArray) (h : nmB false 40 name = true) (p : Int) (v : Value) :
    Calls Tryz.prog 56 #[.pointer (some ⟨d, 0, none⟩), .string name, .int .i64 p, v] w fun e w' => e = .returned (.int .i64 303) ∧ SaveP d g w D w' := by
  have hmf : ∀ (fn : Fn) (first cap : Array Value) (w : World), (Instr.makeFunc fn first cap).run Tryz.prog w = .ok (.func fn first cap) w := fun _ _ _ _ => rfl
  have hns := nm_size h
  obtain ⟨g2, ⟨hx2, hb2, hs2, hd2⟩, hO2, hF2, hO2', hF2'⟩ := save_pro d g w D hD name
  have hdl := hD.lt
  have HX2 := Lib.hid hx2
  have HB2 := Lib.hid hb2
  have HS2 := Lib.hid hs2
  have HD2 := Lib.hid hd2
  clear hx2 hb2 hs2 hd2
  go_enter_defers Tryz.func56, Tryz.ntmps56
  go_wp2_with fail
  refine (cname_any name _ (by omega)).mono ?_
  rw [h]
  rintro e w' ⟨rfl, rfl⟩
  go_wp2_with fail
  refine (newest_down (w.heap.size + 1) d g2 _ D name HD2.out hdn h HS2.out hO2 hF2).mono ?_
  rintro e w3 ⟨g3, rfl, hx3, hs3⟩
  have hb3 : Blk w.heap.size 23 [.int .i64 0] w3 := HB2.out.ext hx3 (by rw [hO2']; omega)
  have HX3 := Lib.hid ((HX2.out.imp (fun o (h : False) => (h.elim : o = d ∨ w.heap.size ≤ o))).trans (hx3.imp (fun o h => Or.inr (by omega))))
  have HD3 := Lib.hid (HD2.out.ext hx3 (by omega))
  have HB3 := Lib.hid hb3
  have HS3 := Lib.hid hs3
  have hlt3 := hb3.lt
  have hlt3' := hs3.lt
  have q0 : w3.cell? ⟨w.heap.size, 0, none⟩ = some (.int .i64 0) := hb3.cell 0
  have z0 := hb3.fz
  have q2 : w3.cell? ⟨w.heap.size + 1, 2, none⟩ = some (.int .i64 303) := hs3.cell 2
  have hF3 : g3.F w.heap.size = 0 := hx3.zero _ HB2.out.lt hF2'
  have hO3 : g3.O w.heap.size = w.heap.size := (hx3.own _ HB2.out.lt).trans hO2'
  clear hx3 hb3 hs3
  have hn1 : w3.heap.size ≠ w.heap.size := by omega
  have hn2 : w3.heap.size ≠ w.heap.size + 1 := by omega
  go_wp2_with fail
  refine leaves_cons (f := 74) (args := #[.pointer (some ⟨w.heap.size + 1, 0, none⟩), .pointer (some ⟨w.heap.size, 0, none⟩)]) (by simp) (by simp [go_sem]) ?_
  refine (save1_some (w.heap.size + 1) w.heap.size _ 303 0 (by decide) ?_ ?_ ?_).mono ?_
  · exact ((HS3.out.far (p := ⟨w.heap.size, 0, none⟩) (by dsimp only; omega) _).alloc _).cell 2
  · exact ((HB3.out.set 0 (.int .i64 0)).alloc _).cell 0
  · exact ((HB3.out.set 0 (.int .i64 0)).alloc _).fz 0
  rintro e u' w'' ⟨rfl, rfl, rfl⟩
  have hres : (((w3.setCell ⟨w.heap.size, 0, none⟩ (.int .i64 0)).alloc (.cells #[.bool false, .int .i64 0, .int .i64 0] 91)).setCell ⟨w.heap.size, 0, none⟩ (.int .i64 303)).cell? ⟨w.heap.size, 0, none⟩ = some (.int .i64 303) := (((HB3.out.set 0 (.int .i64 0)).alloc _).set 0 (.int .i64 303)).cell 0
  simp [Leaves, settle, results, Tryz.results56, go_sem, hres]
  exact save_end2 HX3.out HD3.out hO3 hF3 hdl _ _ _

/-- What Save answers, and what it makes of the device. -/
noncomputable def saveI (D : Dev) (name : ByteArray) (o0 o1 : Option Ck) (p : Int) (st : List UInt8) : Int :=
  if p < 0 ∨ p < posO (newS o0 o1).1 then 321 else if 2097152 < st.length then 320 else svI D (svOp name (newS o0 o1).2 ⟨seqO (newS o0 o1).1 + 1, p.toNat, st⟩)
noncomputable def saveD (D : Dev) (name : ByteArray) (o0 o1 : Option Ck) (p : Int) (st : List UInt8) : Dev :=
  if p < 0 ∨ p < posO (newS o0 o1).1 then D else if 2097152 < st.length then D else svD D (svOp name (newS o0 o1).2 ⟨seqO (newS o0 o1).1 + 1, p.toNat, st⟩)

set_option maxRecDepth 100000 in
set_option maxHeartbeats 6400000 in
theorem save_pos (d : Nat) (g : Gh) (w : World) (D : Dev) (hD : DevAt g w d D) (hdn : D.down = false) (name : ByteArray) (h : nmB false 40 name = true) (o0 o1 : Option Ck) (h0 : SlotIs D (slotN name 0) o0) (h1 : SlotIs D (slotN name 1) o1) (p : Int) (A : Option Addr) (cap : Nat) (st : List UInt8) (_hr : BytesAt g w (.slice A st.length cap) st)
    (hp : p < 0 ∨ p < posO (newS o0 o1).1) :
    Calls Tryz.prog 56 #[.pointer (some ⟨d, 0, none⟩), .string name, .int .i64 p, .slice A st.length cap] w fun e w' => e = .returned (.int .i64 321) ∧ SaveP d g w D w' := by
  have hmf : ∀ (fn : Fn) (first cap : Array Value) (w : World), (Instr.makeFunc fn first cap).run Tryz.prog w = .ok (.func fn first cap) w := fun _ _ _ _ => rfl
  have hns := nm_size h
  obtain ⟨g2, ⟨hx2, hb2, hs2, hd2⟩, hO2, hF2, hO2', hF2'⟩ := save_pro d g w D hD name
  have hdl := hD.lt
  have HX2 := Lib.hid hx2
  have HB2 := Lib.hid hb2
  have HS2 := Lib.hid hs2
  have HD2 := Lib.hid hd2
  clear hx2 hb2 hs2 hd2
  go_enter_defers Tryz.func56, Tryz.ntmps56
  go_wp2_with fail
  refine (cname_any name _ (by omega)).mono ?_
  rw [h]
  rintro e w' ⟨rfl, rfl⟩
  go_wp2_with fail
  refine (newest_any (w.heap.size + 1) d g2 _ D name HD2.out hdn h o0 o1 h0 h1 HS2.out hO2 hF2 (by omega)).mono ?_
  rintro e w3 ⟨g3, x0, x1, rfl, hx3, hs3, _, _⟩
  have hb3 : Blk w.heap.size 23 [.int .i64 0] w3 := HB2.out.ext hx3 (by rw [hO2']; omega)
  have HX3 := Lib.hid ((HX2.out.imp (fun o (h : False) => (h.elim : o = d ∨ w.heap.size ≤ o))).trans (hx3.imp (fun o h => Or.inr (by omega))))
  have HD3 := Lib.hid (HD2.out.ext hx3 (by omega))
  have HB3 := Lib.hid hb3
  have HS3 := Lib.hid hs3
  have hlt3 := hb3.lt
  have hlt3' := hs3.lt
  have q0 : w3.cell? ⟨w.heap.size, 0, none⟩ = some (.int .i64 0) := hb3.cell 0
  have z0 := hb3.fz
  have q2 : w3.cell? ⟨w.heap.size + 1, 2, none⟩ = some (.int .i64 0) := hs3.cell 2
  have hF3 : g3.F w.heap.size = 0 := hx3.zero _ HB2.out.lt hF2'
  have hO3 : g3.O w.heap.size = w.heap.size := (hx3.own _ HB2.out.lt).trans hO2'
  have hOs3 : g3.O (w.heap.size + 1) = w.heap.size + 1 := (hx3.own _ HS2.out.lt).trans hO2
  have hFs3 : g3.F (w.heap.size + 1) = 0 := hx3.zero _ HS2.out.lt hF2
  clear hx3 hb3 hs3
  have hn1 : w3.heap.size ≠ w.heap.size := by omega
  have hn2 : w3.heap.size ≠ w.heap.size + 1 := by omega
  rw [show stV (newS o0 o1).1 = .agg #[.bool (newS o0 o1).1.isSome, .int .i64 (seqO (newS o0 o1).1), .int .i64 (posO (newS o0 o1).1)] from rfl]
  have hot := newS_lt o0 o1
  generalize newS o0 o1 = nw at *
  obtain ⟨nw, ot⟩ := nw
  dsimp only at *
  by_cases hp0 : p < 0
  · go_wp2_with fail
    refine leaves_cons (f := 74) (args := #[.pointer (some ⟨w.heap.size + 1, 0, none⟩), .pointer (some ⟨w.heap.size, 0, none⟩)]) (by simp) (by simp [go_sem]) ?_
    refine (save1_zero (w.heap.size + 1) w.heap.size _ ?_).mono ?_
    · exact ((HS3.out.far (p := ⟨w.heap.size, 0, none⟩) (by dsimp only; omega) _).alloc _).cell 2
    rintro e u' w'' ⟨rfl, rfl, rfl⟩
    have hres : ((w3.setCell ⟨w.heap.size, 0, none⟩ (.int .i64 321)).alloc (.cells #[.bool nw.isSome, .int .i64 (seqO nw), .int .i64 (posO nw)] 91)).cell? ⟨w.heap.size, 0, none⟩ = some (.int .i64 321) := ((HB3.out.set 0 (.int .i64 321)).alloc _).cell 0
    simp [Leaves, settle, results, Tryz.results56, go_sem, hres]
    exact save_end HX3.out HD3.out hO3 hF3 hdl _ _
  · have hp1 : p < posO nw := by omega
    go_wp2_with fail
    refine leaves_cons (f := 74) (args := #[.pointer (some ⟨w.heap.size + 1, 0, none⟩), .pointer (some ⟨w.heap.size, 0, none⟩)]) (by simp) (by simp [go_sem]) ?_
    refine (save1_zero (w.heap.size + 1) w.heap.size _ ?_).mono ?_
    · exact ((HS3.out.far (p := ⟨w.heap.size, 0, none⟩) (by dsimp only; omega) _).alloc _).cell 2
    rintro e u' w'' ⟨rfl, rfl, rfl⟩
    have hres : ((w3.setCell ⟨w.heap.size, 0, none⟩ (.int .i64 321)).alloc (.cells #[.bool nw.isSome, .int .i64 (seqO nw), .int .i64 (posO nw)] 91)).cell? ⟨w.heap.size, 0, none⟩ = some (.int .i64 321) := ((HB3.out.set 0 (.int .i64 321)).alloc _).cell 0
    simp [Leaves, settle, results, Tryz.results56, go_sem, hres]
    exact save_end HX3.out HD3.out hO3 hF3 hdl _ _

set_option maxRecDepth 100000 in
set_option maxHeartbeats 6400000 in
theorem save_size (d : Nat) (g : Gh) (w : World) (D : Dev) (hD : DevAt g w d D) (hdn : D.down = false) (name : ByteArray) (h : nmB false 40 name = true) (o0 o1 : Option Ck) (h0 : SlotIs D (slotN name 0) o0) (h1 : SlotIs D (slotN name 1) o1) (p : Int) (A : Option Addr) (cap : Nat) (st : List UInt8) (_hr : BytesAt g w (.slice A st.length cap) st)
    (hp0 : 0 ≤ p) (hp1 : (posO (newS o0 o1).1 : Int) ≤ p) (hl : 2097152 < st.length) :
    Calls Tryz.prog 56 #[.pointer (some ⟨d, 0, none⟩), .string name, .int .i64 p, .slice A st.length cap] w fun e w' => e = .returned (.int .i64 320) ∧ SaveP d g w D w' := by
  have hmf : ∀ (fn : Fn) (first cap : Array Value) (w : World), (Instr.makeFunc fn first cap).run Tryz.prog w = .ok (.func fn first cap) w := fun _ _ _ _ => rfl
  have hns := nm_size h
  obtain ⟨g2, ⟨hx2, hb2, hs2, hd2⟩, hO2, hF2, hO2', hF2'⟩ := save_pro d g w D hD name
  have hdl := hD.lt
  have HX2 := Lib.hid hx2
  have HB2 := Lib.hid hb2
  have HS2 := Lib.hid hs2
  have HD2 := Lib.hid hd2
  clear hx2 hb2 hs2 hd2
  go_enter_defers Tryz.func56, Tryz.ntmps56
  go_wp2_with fail
  refine (cname_any name _ (by omega)).mono ?_
  rw [h]
  rintro e w' ⟨rfl, rfl⟩
  go_wp2_with fail
  refine (newest_any (w.heap.size + 1) d g2 _ D name HD2.out hdn h o0 o1 h0 h1 HS2.out hO2 hF2 (by omega)).mono ?_
  rintro e w3 ⟨g3, x0, x1, rfl, hx3, hs3, _, _⟩
  have hb3 : Blk w.heap.size 23 [.int .i64 0] w3 := HB2.out.ext hx3 (by rw [hO2']; omega)
  have HX3 := Lib.hid ((HX2.out.imp (fun o (h : False) => (h.elim : o = d ∨ w.heap.size ≤ o))).trans (hx3.imp (fun o h => Or.inr (by omega))))
  have HD3 := Lib.hid (HD2.out.ext hx3 (by omega))
  have HB3 := Lib.hid hb3
  have HS3 := Lib.hid hs3
  have hlt3 := hb3.lt
  have hlt3' := hs3.lt
  have q0 : w3.cell? ⟨w.heap.size, 0, none⟩ = some (.int .i64 0) := hb3.cell 0
  have z0 := hb3.fz
  have q2 : w3.cell? ⟨w.heap.size + 1, 2, none⟩ = some (.int .i64 0) := hs3.cell 2
  have hF3 : g3.F w.heap.size = 0 := hx3.zero _ HB2.out.lt hF2'
  have hO3 : g3.O w.heap.size = w.heap.size := (hx3.own _ HB2.out.lt).trans hO2'
  have hOs3 : g3.O (w.heap.size + 1) = w.heap.size + 1 := (hx3.own _ HS2.out.lt).trans hO2
  have hFs3 : g3.F (w.heap.size + 1) = 0 := hx3.zero _ HS2.out.lt hF2
  clear hx3 hb3 hs3
  have hn1 : w3.heap.size ≠ w.heap.size := by omega
  have hn2 : w3.heap.size ≠ w.heap.size + 1 := by omega
  rw [show stV (newS o0 o1).1 = .agg #[.bool (newS o0 o1).1.isSome, .int .i64 (seqO (newS o0 o1).1), .int .i64 (posO (newS o0 o1).1)] from rfl]
  have hot := newS_lt o0 o1
  generalize newS o0 o1 = nw at *
  obtain ⟨nw, ot⟩ := nw
  dsimp only at *
  have hlb : decide ((2097152 : Int) < (st.length : Nat)) = true := by simp; omega
  go_wp2_with fail
  refine leaves_cons (f := 74) (args := #[.pointer (some ⟨w.heap.size + 1, 0, none⟩), .pointer (some ⟨w.heap.size, 0, none⟩)]) (by simp) (by simp [go_sem]) ?_
  refine (save1_zero (w.heap.size + 1) w.heap.size _ ?_).mono ?_
  · exact ((HS3.out.far (p := ⟨w.heap.size, 0, none⟩) (by dsimp only; omega) _).alloc _).cell 2
  rintro e u' w'' ⟨rfl, rfl, rfl⟩
  have hres : ((w3.setCell ⟨w.heap.size, 0, none⟩ (.int .i64 320)).alloc (.cells #[.bool nw.isSome, .int .i64 (seqO nw), .int .i64 (posO nw)] 91)).cell? ⟨w.heap.size, 0, none⟩ = some (.int .i64 320) := ((HB3.out.set 0 (.int .i64 320)).alloc _).cell 0
  simp [Leaves, settle, results, Tryz.results56, go_sem, hres]
  exact save_end HX3.out HD3.out hO3 hF3 hdl _ _
end

section
open Go.RowKit

set_option maxRecDepth 100000 in
set_option maxHeartbeats 6400000 in
theorem save_ok (d : Nat) (g : Gh) (w : World) (D : Dev) (hD : DevAt g w d D) (hdn : D.down = false) (name : ByteArray) (h : nmB false 40 name = true) (o0 o1 : Option Ck) (h0 : SlotIs D (slotN name 0) o0) (h1 : SlotIs D (slotN name 1) o1) (p : Int) (A : Option Addr) (cap : Nat) (st : List UInt8) (hr : BytesAt g w (.slice A st.length cap) st)
    (hp0 : 0 ≤ p) (hp1 : (posO (newS o0 o1).1 : Int) ≤ p) (hpb : p < 1000000000) (hsq : seqO (newS o0 o1).1 + 1 < 1000000000) (hl : st.length ≤ 2097152) (hn : D.now.n < 256) (hpl : D.pend.length ≤ 999999) :
    Calls Tryz.prog 56 #[.pointer (some ⟨d, 0, none⟩), .string name, .int .i64 p, .slice A st.length cap] w fun e w' => e = .returned (.int .i64 (svI D (svOp name (newS o0 o1).2 ⟨seqO (newS o0 o1).1 + 1, p.toNat, st⟩))) ∧ SaveP d g w (svD D (svOp name (newS o0 o1).2 ⟨seqO (newS o0 o1).1 + 1, p.toNat, st⟩)) w' := by
  have hmf : ∀ (fn : Fn) (first cap : Array Value) (w : World), (Instr.makeFunc fn first cap).run Tryz.prog w = .ok (.func fn first cap) w := fun _ _ _ _ => rfl
  have hns := nm_size h
  obtain ⟨g2, ⟨hx2, hb2, hs2, hd2⟩, hO2, hF2, hO2', hF2'⟩ := save_pro d g w D hD name
  have hdl := hD.lt
  have HX2 := Lib.hid hx2
  have HB2 := Lib.hid hb2
  have HS2 := Lib.hid hs2
  have HD2 := Lib.hid hd2
  clear hx2 hb2 hs2 hd2
  have HR2 := Lib.hid (hr.ext HX2.out)
  go_enter_defers Tryz.func56, Tryz.ntmps56
  go_wp2_with fail
  refine (cname_any name _ (by omega)).mono ?_
  rw [h]
  rintro e w' ⟨rfl, rfl⟩
  go_wp2_with fail
  refine (newest_any (w.heap.size + 1) d g2 _ D name HD2.out hdn h o0 o1 h0 h1 HS2.out hO2 hF2 (by omega)).mono ?_
  rintro e w3 ⟨g3, x0, x1, rfl, hx3, hs3, _, _⟩
  have hb3 : Blk w.heap.size 23 [.int .i64 0] w3 := HB2.out.ext hx3 (by rw [hO2']; omega)
  have HX3 := Lib.hid ((HX2.out.imp (fun o (h : False) => (h.elim : o = d ∨ w.heap.size ≤ o))).trans (hx3.imp (fun o h => Or.inr (by omega))))
  have HD3 := Lib.hid (HD2.out.ext hx3 (by omega))
  have HB3 := Lib.hid hb3
  have HS3 := Lib.hid hs3
  have hlt3 := hb3.lt
  have hlt3' := hs3.lt
  have q0 : w3.cell? ⟨w.heap.size, 0, none⟩ = some (.int .i64 0) := hb3.cell 0
  have z0 := hb3.fz
  have q2 : w3.cell? ⟨w.heap.size + 1, 2, none⟩ = some (.int .i64 0) := hs3.cell 2
  have hF3 : g3.F w.heap.size = 0 := hx3.zero _ HB2.out.lt hF2'
  have hO3 : g3.O w.heap.size = w.heap.size := (hx3.own _ HB2.out.lt).trans hO2'
  have hOs3 : g3.O (w.heap.size + 1) = w.heap.size + 1 := (hx3.own _ HS2.out.lt).trans hO2
  have hFs3 : g3.F (w.heap.size + 1) = 0 := hx3.zero _ HS2.out.lt hF2
  have HR3 := Lib.hid (HR2.out.ext hx3)
  clear hx3 hb3 hs3
  have hn1 : w3.heap.size ≠ w.heap.size := by omega
  have hn2 : w3.heap.size ≠ w.heap.size + 1 := by omega
  have hot := newS_lt o0 o1
  obtain ⟨nw, ot, hnw⟩ : ∃ nw ot, newS o0 o1 = (nw, ot) := ⟨_, _, rfl⟩
  rw [hnw] at hot hp1 hsq
  rw [hnw]
  rw [show stV (nw, ot).1 = .agg #[.bool nw.isSome, .int .i64 (seqO nw), .int .i64 (posO nw)] from rfl]
  have HNW := Lib.hid hnw
  clear hnw
  dsimp only at hot hp1 hsq
  dsimp only
  obtain ⟨pn, rfl⟩ : ∃ pn : Nat, p = pn := ⟨p.toNat, by omega⟩
  have hlb : decide ((2097152 : Int) < (st.length : Nat)) = false := by simp; omega
  have hxa := Ext.box (fun _ => False) g3 w3 (.cells #[.bool nw.isSome, .int .i64 (seqO nw), .int .i64 (posO nw)] 91)
  have HXA := Lib.hid hxa
  have HRA := Lib.hid (HR3.out.ext hxa)
  have HDA := Lib.hid (HD3.out.ext hxa (fun h => h))
  have HSA := Lib.hid (HS3.out.ext hxa (fun h => h))
  have hOA := (hxa.own _ HS3.out.lt).trans hOs3
  have hFA := hxa.zero _ HS3.out.lt hFs3
  have hOA' := (hxa.own _ HB3.out.lt).trans hO3
  have hFA' := hxa.zero _ HB3.out.lt hF3
  have HBA := Lib.hid (HB3.out.ext hxa (fun h => h))
  have HCK : Hid (CkOk ⟨seqO nw + 1, pn, st⟩) := ⟨hsq, by show pn < _; omega, hl⟩
  have HWR : Hid (wrap64 ((seqO nw : Int) + 1) = (seqO nw : Int) + 1) := by
    show _ = _
    unfold wrap64
    omega
  have HN := Lib.hid hn
  have HPL := Lib.hid hpl
  have hp1' : ¬ pn < posO nw := by omega
  have hl' : ¬ 2097152 < st.length := by omega
  clear hxa hpb hsq hl hn hpl hp0 hp1 hns
  generalize g3.box w3.heap.size = gA at *
  go_wp2_with fail
  have hcw := cwrite_any (w.heap.size + 1) d gA _ D name HDA.out h o0 o1 x0 x1 ot hot ⟨seqO nw + 1, pn, st⟩ HCK.out A cap HRA.out HSA.out hOA hFA (by omega) HN.out HPL.out
  have ecast : ((seqO nw + 1 : Nat) : Int) = (seqO nw : Int) + 1 := by omega
  dsimp only at hcw
  rw [ecast] at hcw
  clear ecast
  rw [HWR.out]
  refine hcw.mono ?_
  clear hcw
  rintro e w5 ⟨rfl, g5, hx5, hs5, hd5⟩
  have hb5 := HBA.out.ext hx5 (by rw [hOA']; omega)
  have HX5 := Lib.hid (((HX3.out.trans (HXA.out.imp (fun o (h : False) => (h.elim : o = d ∨ w.heap.size ≤ o)))).trans (hx5.imp (fun o h => h.elim (fun h => Or.inr (by omega)) (fun h => Or.inl h)))))
  have HD5 := Lib.hid hd5
  have HB5 := Lib.hid hb5
  have HS5 := Lib.hid hs5
  have r0 : w5.cell? ⟨w.heap.size, 0, none⟩ = some (.int .i64 0) := hb5.cell 0
  have y0 := hb5.fz
  have hF5 := hx5.zero _ HBA.out.lt hFA'
  have hO5 := (hx5.own _ HBA.out.lt).trans hOA'
  clear hx5 hs5 hd5 hb5 q0 z0 q2
  have hpt : (Int.toNat (pn : Int)) = pn := rfl
  have HSV := Lib.hid hpt
  clear hpt
  generalize hE : svI D (svOp name ot ⟨seqO nw + 1, pn, st⟩) = E at *
  generalize hDD : svD D (svOp name ot ⟨seqO nw + 1, pn, st⟩) = DD at *
  have HE := Lib.hid hE
  have HDD := Lib.hid hDD
  have KEY : Hid (svI D (svOp name (newS o0 o1).2 ⟨seqO (newS o0 o1).1 + 1, pn, st⟩) = E) := by show _ = _; rw [HNW.out]; exact hE
  have KEYD : Hid (svD D (svOp name (newS o0 o1).2 ⟨seqO (newS o0 o1).1 + 1, pn, st⟩) = DD) := by show _ = _; rw [HNW.out]; exact hDD
  clear hE hDD
  go_wp2_with fail
  refine leaves_cons (f := 74) (args := #[.pointer (some ⟨w.heap.size + 1, 0, none⟩), .pointer (some ⟨w.heap.size, 0, none⟩)]) (by simp) (by simp [go_sem]) ?_
  by_cases hE0 : E = 0
  · refine (save1_zero (w.heap.size + 1) w.heap.size _ ?_).mono ?_
    · rw [hE0] at HS5
      exact (HS5.out.far (p := ⟨w.heap.size, 0, none⟩) (by dsimp only; omega) _).cell 2
    rintro e u' w'' ⟨rfl, rfl, rfl⟩
    have hres : (w5.setCell ⟨w.heap.size, 0, none⟩ (.int .i64 0)).cell? ⟨w.heap.size, 0, none⟩ = some (.int .i64 0) := (HB5.out.set 0 (.int .i64 0)).cell 0
    simp [Leaves, settle, results, Tryz.results56, go_sem, hres]
    rw [KEY.out, KEYD.out]
    exact ⟨hE0.symm, save_end0 HX5.out HD5.out hO5 hF5 hdl _⟩
  · refine (save1_some (w.heap.size + 1) w.heap.size _ E 0 hE0 ?_ ?_ ?_).mono ?_
    · exact (HS5.out.far (p := ⟨w.heap.size, 0, none⟩) (by dsimp only; omega) _).cell 2
    · exact (HB5.out.set 0 (.int .i64 0)).cell 0
    · exact (HB5.out.set 0 (.int .i64 0)).fz 0
    rintro e u' w'' ⟨rfl, rfl, rfl⟩
    have hres : ((w5.setCell ⟨w.heap.size, 0, none⟩ (.int .i64 0)).setCell ⟨w.heap.size, 0, none⟩ (.int .i64 E)).cell? ⟨w.heap.size, 0, none⟩ = some (.int .i64 E) := ((HB5.out.set 0 (.int .i64 0)).set 0 (.int .i64 E)).cell 0
    simp [Leaves, settle, results, Tryz.results56, go_sem, hres]
    rw [KEY.out, KEYD.out]
    refine ⟨rfl, ?_⟩
    exact ⟨_, (HX5.out.setCell (p := ⟨w.heap.size, 0, none⟩) (fun h => absurd h (Nat.lt_irrefl _)) hF5 _).setCell (p := ⟨w.heap.size, 0, none⟩) (fun h => absurd h (Nat.lt_irrefl _)) hF5 _, HD5.out.ext (((Ext.refl (· = w.heap.size) _ w5).setCell (p := ⟨w.heap.size, 0, none⟩) (fun _ => hO5) hF5 _).setCell (p := ⟨w.heap.size, 0, none⟩) (fun _ => hO5) hF5 _) (by omega)⟩
end

section
open Go.RowKit

set_option maxRecDepth 100000 in
theorem load_bad (d : Nat) (w : World) (name : ByteArray) (hs : name.size ≤ 9223372036854775807) (h : nmB false 40 name = false) :
    Calls Tryz.prog 36 #[.pointer (some ⟨d, 0, none⟩), .string name] w fun e w' => e = .returned (.tuple #[.int .i64 0, .slice none 0 0, .bool false, .int .i64 323]) ∧ w = w' := by
  go_enter Tryz.func36, Tryz.ntmps36
  go_wp2_with fail
  refine (cname_any name _ hs).mono ?_
  rw [h]
  rintro e w' ⟨rfl, rfl⟩
  go_wp2_with fail
  refine bodyPost_ret (v := .tuple #[.int .i64 0, .slice none 0 0, .bool false, .int .i64 323]) (by simp [results, Tryz.results36, go_sem]) rfl ⟨rfl, rfl⟩

theorem load_pro (d : Nat) (g : Gh) (w : World) (D : Dev) (hD : DevAt g w d D) (name : ByteArray) : ∃ g2, (fun x : World => Ext (fun _ => False) g w g2 x ∧ Blk w.heap.size 95 (sCs d name 0 none none (.slice none 0 0) (.slice none 0 0)) x ∧ DevAt g2 x d D) (w.alloc (.cells #[.pointer (some ⟨d, 0, none⟩), .string name, .int .i64 0, .bool false, .int .i64 0, .int .i64 0, .bool false, .int .i64 0, .int .i64 0, .slice none 0 0, .slice none 0 0] 95)) ∧
    g2.O w.heap.size = w.heap.size ∧ g2.F w.heap.size = 0 := by
  have h1 := Ext.box (fun _ => False) g w (.cells #[.pointer (some ⟨d, 0, none⟩), .string name, .int .i64 0, .bool false, .int .i64 0, .int .i64 0, .bool false, .int .i64 0, .int .i64 0, .slice none 0 0, .slice none 0 0] 95)
  exact ⟨g.box w.heap.size, ⟨h1, Blk.new w 95 (sCs d name 0 none none (.slice none 0 0) (.slice none 0 0)), hD.ext h1 (fun h => h)⟩, Gh.box_O _ _, Gh.box_F _ _⟩

set_option maxRecDepth 100000 in
set_option maxHeartbeats 6400000 in
theorem load_down (d : Nat) (g : Gh) (w : World) (D : Dev) (hD : DevAt g w d D) (hdn : D.down = true) (name : ByteArray) (h : nmB false 40 name = true) :
    Calls Tryz.prog 36 #[.pointer (some ⟨d, 0, none⟩), .string name] w fun e w' => e = .returned (.tuple #[.int .i64 0, .slice none 0 0, .bool false, .int .i64 303]) ∧ ∃ g', Ext (fun o => w.heap.size ≤ o) g w g' w' := by
  have hns := nm_size h
  obtain ⟨g2, ⟨hx2, hs2, hd2⟩, hO2, hF2⟩ := load_pro d g w D hD name
  have hdl := hD.lt
  have HX2 := Lib.hid hx2
  have HS2 := Lib.hid hs2
  have HD2 := Lib.hid hd2
  clear hx2 hs2 hd2
  go_enter Tryz.func36, Tryz.ntmps36
  go_wp2_with fail
  refine (cname_any name _ (by omega)).mono ?_
  rw [h]
  rintro e w' ⟨rfl, rfl⟩
  go_wp2_with fail
  refine (newest_down w.heap.size d g2 _ D name HD2.out hdn h HS2.out hO2 hF2).mono ?_
  rintro e w3 ⟨g3, rfl, hx3, hs3⟩
  have HX3 := Lib.hid ((HX2.out.imp (fun o (h : False) => (h.elim : w.heap.size ≤ o))).trans (hx3.imp (fun o h => show w.heap.size ≤ o by omega)))
  have q2 : w3.cell? ⟨w.heap.size, 2, none⟩ = some (.int .i64 303) := hs3.cell 2
  have hlt := hs3.lt
  have hn1 : w3.heap.size ≠ w.heap.size := by omega
  have hn1' : w.heap.size ≠ w3.heap.size := by omega
  clear hx3 hs3
  go_wp2_with fail
  go_quiet (fail)
  go_wp2_with fail
  refine bodyPost_ret (v := .tuple #[.int .i64 0, .slice none 0 0, .bool false, .int .i64 303]) (by simp [results, Tryz.results36, go_sem]) rfl ⟨rfl, g3, ?_⟩
  exact (HX3.out.alloc _).drewN _

/-- What Load hands back. -/
def LoadP (g : Gh) (w : World) (o : Option Ck) (e : Ending) (w' : World) : Prop :=
  ∃ g' x, Ext (fun o => w.heap.size ≤ o) g w g' w' ∧ StAt g' w' x o ∧ e = .returned (.tuple #[.int .i64 (posO o), x, .bool o.isSome, .int .i64 0])

set_option maxRecDepth 100000 in
set_option maxHeartbeats 6400000 in
theorem load_any (d : Nat) (g : Gh) (w : World) (D : Dev) (hD : DevAt g w d D) (hdn : D.down = false) (name : ByteArray) (h : nmB false 40 name = true) (o0 o1 : Option Ck) (h0 : SlotIs D (slotN name 0) o0) (h1 : SlotIs D (slotN name 1) o1) :
    Calls Tryz.prog 36 #[.pointer (some ⟨d, 0, none⟩), .string name] w (LoadP g w (newS o0 o1).1) := by
  have hns := nm_size h
  obtain ⟨g2, ⟨hx2, hs2, hd2⟩, hO2, hF2⟩ := load_pro d g w D hD name
  have hdl := hD.lt
  have HX2 := Lib.hid hx2
  have HS2 := Lib.hid hs2
  have HD2 := Lib.hid hd2
  clear hx2 hs2 hd2
  go_enter Tryz.func36, Tryz.ntmps36
  go_wp2_with fail
  refine (cname_any name _ (by omega)).mono ?_
  rw [h]
  rintro e w' ⟨rfl, rfl⟩
  go_wp2_with fail
  refine (newest_any w.heap.size d g2 _ D name HD2.out hdn h o0 o1 h0 h1 HS2.out hO2 hF2 (by omega)).mono ?_
  rintro e w3 ⟨g3, x0, x1, rfl, hx3, hs3, hst0, hst1⟩
  have HX3 := Lib.hid ((HX2.out.imp (fun o (h : False) => (h.elim : w.heap.size ≤ o))).trans (hx3.imp (fun o h => show w.heap.size ≤ o by omega)))
  have q2 : w3.cell? ⟨w.heap.size, 2, none⟩ = some (.int .i64 0) := hs3.cell 2
  have q9 : w3.cell? ⟨w.heap.size, 9, none⟩ = some x0 := hs3.cell 9
  have q10 : w3.cell? ⟨w.heap.size, 10, none⟩ = some x1 := hs3.cell 10
  have hlt := hs3.lt
  have hn1 : w3.heap.size ≠ w.heap.size := by omega
  have hn1' : w.heap.size ≠ w3.heap.size := by omega
  have HST : Hid (∃ x, StAt g3 w3 x (newS o0 o1).1 ∧ ((newS o0 o1).2 = 1 ∧ x = x0 ∨ (newS o0 o1).2 = 0 ∧ x = x1)) := by
    show ∃ _, _
    unfold newS
    split
    · exact ⟨x0, hst0, .inl ⟨rfl, rfl⟩⟩
    · exact ⟨x1, hst1, .inr ⟨rfl, rfl⟩⟩
  clear hx3 hs3 hst0 hst1
  obtain ⟨nw, ot, hnw⟩ : ∃ nw ot, newS o0 o1 = (nw, ot) := ⟨_, _, rfl⟩
  rw [hnw] at HST
  rw [hnw]
  have HNW := Lib.hid hnw
  clear hnw
  obtain ⟨x, hst, hx⟩ := HST.out
  have HS := Lib.hid hst
  clear hst HST
  dsimp only at hx
  cases nw with
  | none =>
    rw [show stV (none, ot).1 = .agg #[.bool false, .int .i64 0, .int .i64 0] from rfl]
    go_wp2_with fail
    go_quiet (fail)
    go_wp2_with fail
    refine bodyPost_ret (v := .tuple #[.int .i64 0, .slice none 0 0, .bool false, .int .i64 0]) (by simp [results, Tryz.results36, go_sem]) rfl ?_
    rw [HNW.out]
    exact ⟨g3, .slice none 0 0, (HX3.out.alloc _).drewN _, rfl, rfl⟩
  | some c =>
    rw [show stV (some c, ot).1 = .agg #[.bool true, .int .i64 c.seq, .int .i64 c.pos] from rfl]
    rcases hx with ⟨rfl, rfl⟩ | ⟨rfl, rfl⟩
    · go_wp2_with fail
      go_quiet (fail)
      go_wp2_with fail
      refine bodyPost_ret (v := .tuple #[.int .i64 c.pos, x, .bool true, .int .i64 0]) (by simp [results, Tryz.results36, go_sem]) rfl ?_
      rw [HNW.out]
      exact ⟨g3, x, (HX3.out.alloc _).drewN _, HS.out.ext (((Ext.refl (fun _ => False) g3 w3).alloc _).drewN _), rfl⟩
    · go_wp2_with fail
      go_quiet (fail)
      go_wp2_with fail
      refine bodyPost_ret (v := .tuple #[.int .i64 c.pos, x, .bool true, .int .i64 0]) (by simp [results, Tryz.results36, go_sem]) rfl ?_
      rw [HNW.out]
      exact ⟨g3, x, (HX3.out.alloc _).drewN _, HS.out.ext (((Ext.refl (fun _ => False) g3 w3).alloc _).drewN _), rfl⟩
end

end Go.Proofs.YtjjdffafibonhaaGreatDoor
