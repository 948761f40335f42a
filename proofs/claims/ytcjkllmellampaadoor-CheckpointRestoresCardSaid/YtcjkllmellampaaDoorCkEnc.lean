/-
  encode: the bytes of a slot.
-/
import Derived.Test.YtcjkllmellampaaDoorCkP
import Derived.Test.YtcjkllmellampaaDoorLit
namespace Go.Proofs.YtcjkllmellampaaDoor
open Go.RowKit

theorem NewP.bytes {o : Nat} {g : Gh} {w w' : World} {l : List UInt8} {n : Nat} {xs : List Value} {e : Ending} (h : NewP 5 o g w n xs e w') (hn : n = l.length) (hl : xs = bv l) : ∃ A' cap' g', e = .returned (.slice A' l.length cap') ∧ Ext (fun _ => False) g w g' w' ∧ App 5 1 o g' w' A' l.length cap' (bv l) := by
  subst hn hl
  obtain ⟨A', cap', g', he, hb, hF, hO, ha, _⟩ := h
  exact ⟨A', cap', g', he, (Ext.of_below (fun _ => False) g hb).up hF hO, ha⟩

set_option maxRecDepth 100000 in
set_option maxHeartbeats 12800000 in
theorem encode_any (g : Gh) (w : World) (c : Ck) (hc : CkOk c) (A : Option Addr) (cap : Nat) (hr : BytesAt g w (.slice A c.st.length cap) c.st) :
    Calls Tryd.prog 58 #[.agg #[.bool true, .int .i64 c.seq, .int .i64 c.pos], .slice A c.st.length cap] w fun e w' => ∃ A' cap' g', e = .returned (.slice A' (encC c).length cap') ∧ Ext (fun _ => False) g w g' w' ∧ BytesAt g' w' (.slice A' (encC c).length cap') (encC c) := by
  obtain ⟨i0, hi, hz0, hz1, hz2⟩ := info_parts Tryd.infoU8
  obtain ⟨seq, pos, st⟩ := c
  have hs : seq < 1000000000 := hc.s
  have hp : pos < 1000000000 := hc.p
  have hl : st.length ≤ 2097152 := hc.l
  have HOK := Lib.hid hc
  obtain ⟨o, ho⟩ := owner_new g w.heap.size
  have HO := Lib.hid ho
  have hx0 := Ext.box (fun _ => False) g w (.cells #[.bool true, .int .i64 seq, .int .i64 pos] 79)
  have hB0 : Blk w.heap.size 79 [.bool true, .int .i64 seq, .int .i64 pos] (w.alloc (.cells #[.bool true, .int .i64 seq, .int .i64 pos] 79)) := Blk.new w _ _
  have hxl := Ext.litB (fun _ => False) (g.box w.heap.size) (w.alloc (.cells #[.bool true, .int .i64 seq, .int .i64 pos] 79)) ckMark (4, 5)
  have hl0 := BytesAt.lit (g.box w.heap.size) (w.alloc (.cells #[.bool true, .int .i64 seq, .int .i64 pos] 79)) ckMark (4, 5) (by decide)
  have hrl := (hr.ext hx0).ext hxl
  have hBl := hB0.ext hxl (fun h => h)
  have hX := hx0.trans hxl
  have hsz : (w.alloc (.cells #[.bool true, .int .i64 seq, .int .i64 pos] 79)).heap.size = w.heap.size + 1 := by simp
  have hcv := Lib.run_convert_bytes_const (P := Tryd.prog) (w.alloc (.cells #[.bool true, .int .i64 seq, .int .i64 pos] 79)) 32 5 #[.int .u8 83, .int .u8 89, .int .u8 67, .int .u8 80] 4 4 Tryd.underlying32 Tryd.underlying5
  rw [hsz] at hX hrl hl0 hcv
  generalize (g.box w.heap.size).lit (w.heap.size + 1) ckMark.length = gl at *
  obtain ⟨_, hlz, hlr⟩ := hl0.rd
  have HLR : Hid (Rd 1 gl ((w.alloc (.cells #[.bool true, .int .i64 seq, .int .i64 pos] 79)).alloc (.cells #[.int .u8 83, .int .u8 89, .int .u8 67, .int .u8 80] 5 (4, 5))) (some ⟨w.heap.size + 1, 0, none⟩) 4 (bv ckMark)) := hlr
  have HX : Hid (Ext (fun _ => False) g w gl ((w.alloc (.cells #[.bool true, .int .i64 seq, .int .i64 pos] 79)).alloc (.cells #[.int .u8 83, .int .u8 89, .int .u8 67, .int .u8 80] 5 (4, 5)))) := hX
  have HRL : Hid (BytesAt gl ((w.alloc (.cells #[.bool true, .int .i64 seq, .int .i64 pos] 79)).alloc (.cells #[.int .u8 83, .int .u8 89, .int .u8 67, .int .u8 80] 5 (4, 5))) (.slice A st.length cap) st) := hrl
  have HBL : Hid (Blk w.heap.size 79 [.bool true, .int .i64 seq, .int .i64 pos] ((w.alloc (.cells #[.bool true, .int .i64 seq, .int .i64 pos] 79)).alloc (.cells #[.int .u8 83, .int .u8 89, .int .u8 67, .int .u8 80] 5 (4, 5)))) := hBl
  have c1 : ((w.alloc (.cells #[.bool true, .int .i64 seq, .int .i64 pos] 79)).alloc (.cells #[.int .u8 83, .int .u8 89, .int .u8 67, .int .u8 80] 5 (4, 5))).cell? ⟨w.heap.size, 1, none⟩ = some (.int .i64 seq) := hBl.cell 1
  have w1 : IntKind.u64.wrap (seq : Int) = seq := by rw [IntKind.wrap_u64]; omega
  have w2 : IntKind.u64.wrap (pos : Int) = pos := by rw [IntKind.wrap_u64]; omega
  have w3 : IntKind.u64.wrap (st.length : Int) = st.length := by rw [IntKind.wrap_u64]; omega
  have e1 := encU_len10 (v := seq) (by omega)
  have e2 := encU_len10 (v := pos) (by omega)
  have e3 := encU_len10 (v := st.length) (by omega)
  clear hr ho hc hx0 hB0 hxl hl0 hrl hBl hX hlz hlr hsz
  go_enter Tryd.func58, Tryd.ntmps58
  go_wp2_with fail
  refine (putUint_any o gl (some ⟨w.heap.size + 1, 0, none⟩) 4 4 (bv ckMark) seq _ HLR.out (fun h => by cases h) (bv_one _) (by omega) (by omega)).mono ?_
  rintro e x1 hP
  obtain ⟨A1, p1, g1, rfl, hx1, ha1⟩ := hP.bytes (l := ckMark ++ encU seq) (by simp [ckMark]; omega) (by rw [bv_append])
  have HX1 := Lib.hid (HX.out.trans hx1)
  have HA1 := Lib.hid ha1
  have HR1 := Lib.hid (HRL.out.ext hx1)
  have HB1 := Lib.hid (HBL.out.ext hx1 (fun h => h))
  have c2 : x1.cell? ⟨w.heap.size, 2, none⟩ = some (.int .i64 pos) := HB1.out.cell 2
  have n1 : (ckMark ++ encU seq).length = 4 + (encU seq).length := by simp [ckMark]; omega
  have HN1 := Lib.hid n1
  clear n1
  generalize hL1 : ckMark ++ encU seq = L1 at *
  have HL1 := Lib.hid hL1
  clear hL1
  clear hP hx1 ha1 HX HRL HBL c1 hcv HLR
  go_wp2_with fail
  refine (putUint_any o g1 A1 _ p1 (bv L1) pos _ HA1.out.rd (fun h => (HA1.out.nz h).1) (bv_one _) (by have := HN1.out; omega) (by omega)).mono ?_
  rintro e x2 hP
  obtain ⟨A2, p2, g2, rfl, hx2, ha2⟩ := hP.bytes (l := L1 ++ encU pos) (by simp) (by rw [bv_append _ (encU pos)])
  have HX2 := Lib.hid (HX1.out.trans hx2)
  have HA2 := Lib.hid ha2
  have HR2 := Lib.hid (HR1.out.ext hx2)
  have n2 : (L1 ++ encU pos).length = 4 + (encU seq).length + (encU pos).length := by rw [List.length_append, HN1.out]
  have HN2 := Lib.hid n2
  clear n2
  generalize hL2 : L1 ++ encU pos = L2 at *
  have HL2 := Lib.hid hL2
  clear hL2
  clear hP hx2 ha2 HX1 HA1 HR1 HB1 c2
  go_wp2_with fail
  refine (putUint_any o g2 A2 _ p2 (bv L2) st.length _ HA2.out.rd (fun h => (HA2.out.nz h).1) (bv_one _) (by have := HN2.out; omega) (by omega)).mono ?_
  rintro e x3 hP
  obtain ⟨A3, p3, g3, rfl, hx3, ha3⟩ := hP.bytes (l := L2 ++ encU st.length) (by simp) (by rw [bv_append _ (encU st.length)])
  have HX3 := Lib.hid (HX2.out.trans hx3)
  have HA3 := Lib.hid ha3
  have hr3 := HR2.out.ext hx3
  obtain ⟨_, hrz, hrr⟩ := hr3.rd
  have HS3 := Lib.hid (hrr.src (P := Tryd.prog) Tryd.underlying32 cap (bv_one _) hrz)
  have n3 : (L2 ++ encU st.length).length = 4 + (encU seq).length + (encU pos).length + (encU st.length).length := by rw [List.length_append, HN2.out]
  have HN3 := Lib.hid n3
  clear n3
  clear hP hx3 ha3 HX2 HA2 HR2 hr3 hrz hrr
  generalize hL : L2 ++ encU st.length = L at *
  have HL := Lib.hid hL
  clear hL
  go_wp2_with (at_builtin; refine wpList_append_app rfl _ _ _ _ rfl 5 i0 (.int .u8 0) 1 1 Tryd.underlying32 hi hz0 hz1 hz2 rfl (by decide) rfl HA3.out rfl HS3.out (by unfold maxLen; have := HN3.out; omega) (by have := HN3.out; omega) ?_; intro A4 p4 x4 g4 hx4 ha4 _)
  have hbody : ckBody ⟨seq, pos, st⟩ = L ++ st := by rw [← HL.out, ← HL2.out, ← HL1.out]; rfl
  have ha4' : App 5 1 o g4 x4 A4 (L ++ st).length p4 (bv (L ++ st)) := by rw [List.length_append, bv_append]; exact ha4
  have HA4 := Lib.hid ha4'
  have HX4 := Lib.hid ((HX3.out.imp (fun _ h => h.elim)).trans hx4)
  have hlen : (L ++ st).length = L.length + st.length := List.length_append ..
  rw [← hlen]
  have HLE := Lib.hid hlen
  clear hlen
  have HBODY := Lib.hid hbody
  clear ha4 ha4' hx4 HX3 HA3 HS3 hbody
  generalize hM : L ++ st = M at *
  clear hM
  have hsb := sumF_bd M
  obtain ⟨sn, hsn⟩ : ∃ sn : Nat, sumF M = (sn : Int) := ⟨(sumF M).toNat, by omega⟩
  have hsn2 : sn < 18446744073709551616 := by omega
  have HSN := Lib.hid hsn
  clear hsn hsb
  go_wp2_with fail
  refine (sum_any g4 A4 p4 M _ HA4.out.rd (by have := HN3.out; have := HLE.out; omega)).mono ?_
  rw [HSN.out]
  rintro e x5 ⟨rfl, rfl⟩
  go_wp2_with fail
  refine (putUint_any o g4 A4 _ p4 (bv M) sn _ HA4.out.rd (fun h => (HA4.out.nz h).1) (bv_one _) (by have := HN3.out; have := HLE.out; omega) hsn2).mono ?_
  rintro e x6 hP
  obtain ⟨A6, p6, g6, rfl, hx6, ha6⟩ := hP.bytes (l := M ++ encU sn) (by simp) (by rw [bv_append])
  have HX6 := Lib.hid (HX4.out.trans (hx6.imp (fun _ h => h.elim)))
  have HA6 := Lib.hid ha6
  have HE : Hid (encC ⟨seq, pos, st⟩ = M ++ encU sn) := by show _ = _; unfold encC; rw [HBODY.out, HSN.out]; simp
  clear hP hx6 ha6 HX4 HA4
  generalize M ++ encU sn = R at *
  go_wp2_with fail
  go_ret
  rw [HE.out]
  exact ⟨A6, p6, g6, rfl, HX6.out.more (fun b hb e => absurd e (HO.out b hb)), BytesAt.of_new HA6.out⟩

end Go.Proofs.YtcjkllmellampaaDoor
