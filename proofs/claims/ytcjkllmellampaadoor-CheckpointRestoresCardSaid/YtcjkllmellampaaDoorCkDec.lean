/-
  decode: a slot is read from its bytes, or from a beginning of them.
-/
import Derived.Test.YtcjkllmellampaaDoorCkP
import Derived.Test.YtcjkllmellampaaDoorRec
namespace Go.Proofs.YtcjkllmellampaaDoor
open Go.RowKit

set_option maxRecDepth 100000 in
theorem hasPrefix_short (g : Gh) (w : World) (A B : Option Addr) (n c c' : Nat) (hn : n < 4) :
    Calls Tryd.prog 67 #[.slice A n c, .slice B 4 c'] w fun e w' => e = .returned (.bool false) ∧ ∃ k, w' = w.drewN k := by
  go_enter Tryd.func67, Tryd.ntmps67
  go_wp2_with fail
  (try go_quiet (fail))
  (try go_wp2_with fail)
  go_ret
  first | exact ⟨rfl, 0, rfl⟩ | exact ⟨rfl, nq, rfl⟩

/-- What is left of a slot's bytes ahead of number k. -/
noncomputable def ckRest (c : Ck) : Nat → List UInt8
  | 0 => encU c.seq ++ ckR0 c
  | 1 => ckR0 c
  | 2 => ckR1 c
  | _ => ckR2 c
theorem ck_step {c : Ck} (h : CkOk c) {l : List UInt8} (hp : l <+: encC c) {k : Nat} (hk : k < 3) (hl : ckOff c k ≤ l.length) (hr : l.drop (ckOff c k) <+: ckRest c k) :
    (decU 0 0 (l.drop (ckOff c k)) = (ckNum c k, ckOff c (k + 1) - ckOff c k, 0) ∧ ckOff c (k + 1) ≤ l.length ∧ l.drop (ckOff c (k + 1)) <+: ckRest c (k + 1)) ∨
    (decU 0 0 (l.drop (ckOff c k)) = (0, 0, 11) ∧ l ≠ encC c) := by
  have := ck_num h hp hk hl (by rcases k with _ | _ | _ | k <;> first | exact hr | omega)
  rcases k with _ | _ | _ | k
  · exact this
  · exact this
  · exact this
  · omega
theorem ckOff_mono (c : Ck) {k : Nat} (hk : k < 3) : ckOff c k ≤ ckOff c (k + 1) := by
  rcases k with _ | _ | _ | k
  · simp [ckOff]
  · simp [ckOff]
  · simp [ckOff]
  · omega
theorem ckOff_bd {c : Ck} (h : CkOk c) (k : Nat) : ckOff c k ≤ 34 := by
  have h2 := encU_len10 (v := c.seq) (by have := h.s; omega)
  have h3 := encU_len10 (v := c.pos) (by have := h.p; omega)
  have h4 := encU_len10 (v := c.st.length) (by have := h.l; omega)
  rcases k with _ | _ | _ | k <;> simp only [ckOff] <;> omega
theorem ckNum_bd {c : Ck} (h : CkOk c) (k : Nat) : ckNum c k < 1000000000 := by
  have := h.s; have := h.p; have := h.l
  rcases k with _ | _ | k <;> simp only [ckNum] <;> omega
/-- Behind the three numbers. -/
theorem ck_last {c : Ck} {l : List UInt8} (hp : l <+: encC c) (hl : ckOff c 3 ≤ l.length) (hr : l.drop (ckOff c 3) <+: ckR2 c) :
    (l.length - ckOff c 3 < c.st.length ∧ l ≠ encC c) ∨
    (c.st.length ≤ l.length - ckOff c 3 ∧ decU 0 0 (l.drop (ckOff c 3 + c.st.length)) = (0, 0, 11) ∧ l ≠ encC c) ∨
    (c.st.length ≤ l.length - ckOff c 3 ∧ decU 0 0 (l.drop (ckOff c 3 + c.st.length)) = ((sumF (ckBody c)).toNat, l.length - (ckOff c 3 + c.st.length), 0) ∧ l = encC c ∧ l.take (ckOff c 3 + c.st.length) = ckBody c ∧ (l.drop (ckOff c 3)).take c.st.length = c.st) := by
  have hbl := ckBody_len c
  have hel : (encC c).length = ckOff c 3 + c.st.length + (encU (sumF (ckBody c)).toNat).length := by simp [encC, hbl]
  have hpos := encU_pos (sumF (ckBody c)).toNat
  by_cases h1 : l.length - ckOff c 3 < c.st.length
  · exact .inl ⟨h1, fun e => by rw [e] at h1; omega⟩
  · have hd : l.drop (ckOff c 3 + c.st.length) <+: encU (sumF (ckBody c)).toNat ++ [] := by
      have : l.drop (ckOff c 3 + c.st.length) <+: (encC c).drop (ckOff c 3 + c.st.length) := by
        obtain ⟨t, e⟩ := hp
        rw [← e, List.drop_append_of_le_length (by omega)]
        exact List.prefix_append _ _
      rw [List.append_nil]
      have e : (encC c).drop (ckOff c 3 + c.st.length) = encU (sumF (ckBody c)).toNat := by
        unfold encC
        rw [← hbl, List.drop_left]
      rw [e] at this
      exact this
    rcases dec_pre (sumF_lt (ckBody c)) hd with ⟨a, b, _⟩ | ⟨a, b⟩
    · right; right
      rw [List.length_drop] at b
      have hle := hp.length_le
      have e : l = encC c := hp.eq_of_length (by omega)
      refine ⟨by omega, ?_, e, ?_, ?_⟩
      · rw [a, e, hel]
        congr 2
        omega
      · rw [e]; unfold encC; rw [← hbl, List.take_left]
      · rw [e]
        have : encC c = ((((ckMark ++ encU c.seq) ++ encU c.pos) ++ encU c.st.length) ++ c.st) ++ encU (sumF (ckBody c)).toNat := rfl
        rw [this, List.append_assoc _ c.st]
        have e3 : ckOff c 3 = (((ckMark ++ encU c.seq) ++ encU c.pos) ++ encU c.st.length).length := by simp [ckOff, ckMark]; omega
        rw [e3, List.drop_left, List.take_left]
    · right; left
      refine ⟨by omega, a, fun e => ?_⟩
      rw [List.length_drop, e, hel] at b
      omega

def nums (c : Ck) (k : Nat) : List Value := [.int .u64 (if 0 < k then c.seq else 0 : Nat), .int .u64 (if 1 < k then c.pos else 0 : Nat), .int .u64 (if 2 < k then c.st.length else 0 : Nat)]
theorem nums_set (c : Ck) {k : Nat} (hk : k < 3) : (nums c k).set k (.int .u64 (ckNum c k)) = nums c (k + 1) := by
  rcases k with _ | _ | _ | k
  · simp [nums, ckNum]
  · simp [nums, ckNum]
  · simp [nums, ckNum]
  · omega
theorem nums3 (c : Ck) : nums c 3 = [.int .u64 (c.seq : Nat), .int .u64 (c.pos : Nat), .int .u64 (c.st.length : Nat)] := by simp [nums]
theorem nums0 (c : Ck) : nums c 0 = [.int .u64 0, .int .u64 0, .int .u64 0] := by simp [nums]
theorem Ext.put3 {M : Nat → Prop} {g g' : Gh} {w w' : World} (h : Ext M g w g' w') {b : Nat} (hb : w.heap.size ≤ b) (hF : g'.F b = 0) (u v y : Value) : Ext M g w g' (((w'.setCell ⟨b, 0, none⟩ u).setCell ⟨b, 1, none⟩ v).setCell ⟨b, 2, none⟩ y) :=
  ((h.setCell (p := ⟨b, 0, none⟩) (fun h' => absurd h' (Nat.not_lt.2 hb)) hF u).setCell (p := ⟨b, 1, none⟩) (fun h' => absurd h' (Nat.not_lt.2 hb)) hF v).setCell (p := ⟨b, 2, none⟩) (fun h' => absurd h' (Nat.not_lt.2 hb)) hF y
theorem Blk.put3 {x : World} {b : Nat} {T : TypeId} {p q r : Value} (h : Blk b T [p, q, r] x) (u v y : Value) : Blk b T [u, v, y] (((x.setCell ⟨b, 0, none⟩ u).setCell ⟨b, 1, none⟩ v).setCell ⟨b, 2, none⟩ y) := by
  have := ((h.set 0 u).set 1 v).set 2 y
  simpa using this
/-- A store into a block that is no row leaves bytes as they are. -/
theorem BytesAt.far {g : Gh} {x : World} {v : Value} {l : List UInt8} (h : BytesAt g x v l) {p : Addr} (hF : g.F p.block = 0) (u : Value) : BytesAt g (x.setCell p u) v l :=
  h.ext ((Ext.refl (fun _ => True) g x).setCell (fun _ => trivial) hF u)
/-- What decode hands back. -/
def DecP (g : Gh) (w : World) (l : List UInt8) (c : Ck) (e : Ending) (w' : World) : Prop :=
  ∃ g', Ext (fun _ => False) g w g' w' ∧ ((l = encC c ∧ ∃ A, e = .returned (.tuple #[.agg #[.bool true, .int .i64 c.seq, .int .i64 c.pos], .slice A c.st.length c.st.length]) ∧ BytesAt g' w' (.slice A c.st.length c.st.length) c.st) ∨
    (l ≠ encC c ∧ e = .returned (.tuple #[.agg #[.bool false, .int .i64 0, .int .i64 0], .slice none 0 0])))

set_option maxRecDepth 100000 in
set_option maxHeartbeats 6400000 in
theorem decode_any (g : Gh) (w : World) (c : Ck) (hc : CkOk c) (l : List UInt8) (hp : l <+: encC c) (A : Option Addr) (cap : Nat) (hr : BytesAt g w (.slice A l.length cap) l) :
    Calls Tryd.prog 56 #[.slice A l.length cap] w (DecP g w l c) := by
  have hlen : l.length ≤ 2097196 := Nat.le_trans hp.length_le (encC_len hc)
  have HC := Lib.hid hc
  have HP := Lib.hid hp
  have hx0 := Ext.box (fun _ => False) g w (.cells #[.bool false, .int .i64 0, .int .i64 0] 79)
  have hB0 := Blk.new w 79 [.bool false, .int .i64 0, .int .i64 0]
  have hsz : (w.alloc (.cells #[.bool false, .int .i64 0, .int .i64 0] 79)).heap.size = w.heap.size + 1 := by simp
  have hxl := Ext.litB (fun _ => False) (g.box w.heap.size) (w.alloc (.cells #[.bool false, .int .i64 0, .int .i64 0] 79)) [83, 89, 67, 80] (4, 5)
  have HM := Lib.hid (BytesAt.lit (g.box w.heap.size) (w.alloc (.cells #[.bool false, .int .i64 0, .int .i64 0] 79)) [83, 89, 67, 80] (4, 5) (by decide))
  have HX := Lib.hid (hx0.trans hxl)
  have HB := Lib.hid (hB0.ext hxl (fun h => h))
  have HR := Lib.hid ((hr.ext hx0).ext hxl)
  have hcv := Lib.run_convert_bytes_const (P := Tryd.prog) (w.alloc (.cells #[.bool false, .int .i64 0, .int .i64 0] 79)) 32 5 #[.int .u8 83, .int .u8 89, .int .u8 67, .int .u8 80] 4 4 Tryd.underlying32 Tryd.underlying5
  rw [hsz] at HX HM HR hcv
  clear hxl hB0 hx0 hr hc hp
  simp only [List.length_cons, List.length_nil, Nat.zero_add, Nat.reduceAdd] at HM HB HR HX
  have hFl : ((g.box w.heap.size).lit (w.heap.size + 1) 4).F w.heap.size = 0 := by simp [Gh.lit, Gh.box]
  generalize (g.box w.heap.size).lit (w.heap.size + 1) 4 = gl at *
  by_cases h4 : l.length < 4
  · have HNE : Hid (l ≠ encC c) := fun e => by
      rw [e, encC_split, List.length_append] at h4
      simp [ckMark] at h4
      omega
    go_enter Tryd.func56, Tryd.ntmps56
    go_wp2_with fail
    refine (hasPrefix_short gl _ A _ l.length cap 4 h4).mono ?_
    rintro e w1 ⟨rfl, n1, rfl⟩
    have z := (HB.out.drewN n1).fz
    go_wp2_with fail
    refine bodyPost_ret (v := .tuple #[.agg #[.bool false, .int .i64 0, .int .i64 0], .slice none 0 0]) (by simp [results, Tryd.results56, go_sem]) rfl ?_
    exact ⟨_, Ext.put3 (HX.out.drewN n1) (Nat.le_refl _) hFl _ _ _, .inr ⟨HNE.out, rfl⟩⟩
  have HX1 := HX
  go_enter Tryd.func56, Tryd.ntmps56
  go_wp2_with fail
  have h44 : l.take 4 = [83, 89, 67, 80] := by
    obtain ⟨t, e⟩ := HP.out
    have := congrArg (List.take 4) e
    rw [List.take_append_of_le_length (by omega), encC_split] at this
    exact this
  refine (hasPrefix_any gl _ A _ l.length cap 4 l [83, 89, 67, 80] HR.out HM.out (by omega) h44).mono ?_
  rintro e w1 ⟨rfl, n1, rfl⟩
  have hx1 : Ext (fun _ => False) gl ((w.alloc (.cells #[.bool false, .int .i64 0, .int .i64 0] 79)).alloc (.cells (bv [83, 89, 67, 80]).toArray 5 (4, 5))) gl (((w.alloc (.cells #[.bool false, .int .i64 0, .int .i64 0] 79)).alloc (.cells (bv [83, 89, 67, 80]).toArray 5 (4, 5))).drewN n1) := (Ext.refl _ _ _).drewN _
  have HX2 := Lib.hid (HX.out.trans hx1)
  have HB2 := Lib.hid (HB.out.ext hx1 (fun h => h))
  have HR2 := Lib.hid (HR.out.ext hx1)
  clear hx1 HX HB HR HM hcv h44 HX1
  have HG : ∃ w1, w1 = ((w.alloc (.cells #[.bool false, .int .i64 0, .int .i64 0] 79)).alloc (.cells (bv [83, 89, 67, 80]).toArray 5 (4, 5))).drewN n1 := ⟨_, rfl⟩
  obtain ⟨w1, hw1⟩ := HG
  rw [← hw1] at HX2 HB2 HR2
  rw [← hw1]
  clear hw1
  have hxa := Ext.box (fun _ => False) gl w1 (.cells #[.int .u64 0, .int .u64 0, .int .u64 0] 119)
  have hba := Blk.new w1 119 [.int .u64 0, .int .u64 0, .int .u64 0]
  have HX3 := Lib.hid (HX2.out.trans hxa)
  have HB3 := Lib.hid (HB2.out.ext hxa (fun h => h))
  have HR3 := Lib.hid (HR2.out.ext hxa)
  have HBA := Lib.hid hba
  have hF3 : (gl.box w1.heap.size).F w1.heap.size = 0 := gl.box_F _
  have hFz : (gl.box w1.heap.size).F w.heap.size = 0 := by simp only [Gh.box]; split <;> first | rfl | exact hFl
  have hlt1 := HB2.out.lt
  clear hxa hba HX2 HB2 HR2
  generalize gl.box w1.heap.size = g3 at *
  go_wp2_with fail
  go_loopw [5, 18] (fun at_ i wr => ∃ k : Nat, k ≤ 3 ∧ i = .int .i64 k ∧ at_ = .int .i64 (ckOff c k : Nat) ∧ ckOff c k ≤ l.length ∧ Hid (l.drop (ckOff c k) <+: ckRest c k) ∧ Ext (fun _ => False) g w g3 wr ∧ Hid (BytesAt g3 wr (.slice A l.length cap) l) ∧ Blk w.heap.size 79 [.bool false, .int .i64 0, .int .i64 0] wr ∧ Blk w1.heap.size 119 (nums c k) wr) (fun _ i _ => 3 - (intOf i).toNat)
  case atStart =>
    refine ⟨0, by omega, rfl, rfl, by show 4 ≤ _; omega, ?_, HX3.out, HR3, HB3.out, ?_⟩
    · show l.drop 4 <+: encU c.seq ++ ckR0 c
      obtain ⟨t, e⟩ := HP.out
      have := congrArg (List.drop 4) e
      rw [List.drop_append_of_le_length (by omega), encC_split] at this
      exact ⟨t, this.trans (by simp [ckMark])⟩
    · rw [nums0]; exact HBA.out
  case round =>
    obtain ⟨k, hk, rfl, rfl, ho, hr, hx, HBT, hb, hn⟩ := hrel
    have HX4 := Lib.hid hx
    have HB4 := Lib.hid hb
    have HN4 := Lib.hid hn
    obtain ⟨hbz, hbr, hcc⟩ : (A = none → l.length = 0) ∧ Rd 1 g3 wr A l.length (bv l) ∧ l.length ≤ cap := by
      obtain ⟨A', cap', he, q1, q2, hz, hr⟩ := HBT.out.ex
      injection he with e1 e2 e3
      subst e1 e3
      exact ⟨hz, hr, q1⟩
    have HR4 := Lib.hid hbr
    clear hbr
    have z := hb.fz
    have zn := hn.fz
    have c0 : wr.cell? ⟨w.heap.size, 0, none⟩ = some (.bool false) := hb.cell 0
    have c1 : wr.cell? ⟨w.heap.size, 1, none⟩ = some (.int .i64 0) := hb.cell 1
    have c2 : wr.cell? ⟨w.heap.size, 2, none⟩ = some (.int .i64 0) := hb.cell 2
    have hnz : w.heap.size ≠ w1.heap.size := by omega
    clear hx hb
    by_cases h3 : k < 3
    · have hmono := ckOff_mono c h3
      have hnb := ckNum_bd HC.out k
      have hob := ckOff_bd HC.out (k + 1)
      obtain ⟨v, hv⟩ : ∃ v, wr.cell? ⟨w1.heap.size, k, none⟩ = some v := by
        rw [hn.cell k]
        rcases k with _ | _ | _ | k <;> first | exact ⟨_, rfl⟩ | omega
      rcases ck_step HC.out HP.out h3 ho hr.out with ⟨a, b, d⟩ | ⟨a, b⟩
      · have hoff : ckOff c k + (ckOff c (k + 1) - ckOff c k) = ckOff c (k + 1) := by omega
        have HSET := Lib.hid (nums_set c h3)
        have HA := Lib.hid a
        have HOF := Lib.hid hoff
        have HDR := Lib.hid d
        clear a d hn hr hoff
        generalize hcn : ckNum c k = cn at *
        go_wp2_with fail
        refine (uint_any g3 A cap l (ckOff c k) wr HR4.out (by omega) ho hcc).mono ?_
        rintro e w' hu
        obtain ⟨rfl, rfl⟩ := hu.ok HA.out HOF.out
        clear hu
        go_wp2_with fail
        go_round
        case rel =>
          refine ⟨k + 1, by omega, by simp, rfl, b, HDR.out, HX4.out.setCell (fun h' => absurd h' (by dsimp only; omega)) hF3 _, Lib.hid (HBT.out.far hF3 _), HB4.out.far (show w.heap.size ≠ w1.heap.size from hnz) _, ?_⟩
          rw [← HSET.out]
          exact HN4.out.set k _
        case measure =>
          simp [intOf]
          omega
      · have HNE := Lib.hid b
        have HA := Lib.hid a
        clear a hn hr b
        go_wp2_with fail
        refine (uint_any g3 A cap l (ckOff c k) wr HR4.out (by omega) ho hcc).mono ?_
        rintro e w' hu
        obtain ⟨rfl, rfl⟩ := hu.bad HA.out
        clear hu
        go_wp2_with fail
        refine bodyPost_ret (v := .tuple #[.agg #[.bool false, .int .i64 0, .int .i64 0], .slice none 0 0]) (by simp [results, Tryd.results56, go_sem, c0, c1, c2]) rfl ?_
        exact ⟨_, Ext.put3 (HX4.out.setCell (p := ⟨w1.heap.size, k, none⟩) (fun h' => absurd h' (by dsimp only; omega)) hF3 _) (Nat.le_refl _) hFz _ _ _, .inr ⟨HNE.out, rfl⟩⟩
    · obtain rfl : k = 3 := by omega
      rw [nums3] at HN4 hn
      have hob := ckOff_bd HC.out 3
      have n0 : wr.cell? ⟨w1.heap.size, 0, none⟩ = some (.int .u64 (c.seq : Nat)) := hn.cell 0
      have n1 : wr.cell? ⟨w1.heap.size, 1, none⟩ = some (.int .u64 (c.pos : Nat)) := hn.cell 1
      have n2 : wr.cell? ⟨w1.heap.size, 2, none⟩ = some (.int .u64 (c.st.length : Nat)) := hn.cell 2
      have hcl := HC.out.l
      have hcs := HC.out.s
      have hcp := HC.out.p
      have HRS := Lib.hid (show l.drop (ckOff c 3) <+: ckR2 c from hr.out)
      have hw1 : IntKind.u64.wrap ((l.length : Int) - (ckOff c 3 : Nat)) = ((l.length - ckOff c 3 : Nat) : Int) := by rw [IntKind.wrap_u64]; omega
      have hw2 : IntKind.i64.wrap ((c.st.length : Nat) : Int) = (c.st.length : Nat) := by rw [IntKind.wrap_i64]; omega
      have hw3 : IntKind.i64.wrap ((c.seq : Nat) : Int) = (c.seq : Nat) := by rw [IntKind.wrap_i64]; omega
      have hw4 : IntKind.i64.wrap ((c.pos : Nat) : Int) = (c.pos : Nat) := by rw [IntKind.wrap_i64]; omega
      clear hr hn
      rcases ck_last HP.out ho HRS.out with ⟨a, b⟩ | ⟨a, b, d⟩ | ⟨a, b, d, e1, e2⟩
      · have HNE := Lib.hid b
        clear b
        go_wp2_with fail
        refine bodyPost_ret (v := .tuple #[.agg #[.bool false, .int .i64 0, .int .i64 0], .slice none 0 0]) (by simp [results, Tryd.results56, go_sem, c0, c1, c2]) rfl ?_
        exact ⟨_, Ext.put3 HX4.out (Nat.le_refl _) hFz _ _ _, .inr ⟨HNE.out, rfl⟩⟩
      · have HNE := Lib.hid d
        have HD := Lib.hid b
        clear b d
        go_wp2_with fail
        refine (uint_any g3 A cap l (ckOff c 3 + c.st.length) wr HR4.out (by omega) (by omega) hcc).mono ?_
        rintro e w' hu
        obtain ⟨rfl, rfl⟩ := hu.bad HD.out
        clear hu
        go_wp2_with fail
        refine bodyPost_ret (v := .tuple #[.agg #[.bool false, .int .i64 0, .int .i64 0], .slice none 0 0]) (by simp [results, Tryd.results56, go_sem, c0, c1, c2]) rfl ?_
        exact ⟨_, Ext.put3 HX4.out (Nat.le_refl _) hFz _ _ _, .inr ⟨HNE.out, rfl⟩⟩
      · have HEQ := Lib.hid d
        have HD := Lib.hid b
        have HE1 := Lib.hid e1
        have HE2 := Lib.hid e2
        have HSN := Lib.hid (sumF_nat (ckBody c)).1
        have hend : ckOff c 3 + c.st.length ≤ l.length := by omega
        have HST : Hid (Rd 1 g3 wr A (ckBody c).length (bv (ckBody c))) := by
          have := (HBT.out.take (k := ckOff c 3 + c.st.length) hend).rd.2.2
          rw [e1] at this
          exact this
        obtain ⟨i0, hi0, hz0, hz1, hz2⟩ := info_parts Tryd.infoU8
        have hrd := (HR4.out.cut (l := ckOff c 3) (k := c.st.length) (m := ckOff c 3 + c.st.length) hend (Nat.le_refl _))
        simp only [Nat.mul_one, bv_drop, bv_take] at hrd
        rw [e2] at hrd
        have hcut' := run_cut_lhm (P := Tryd.prog) Tryd.underlying32 hi0 A l.length cap (ckOff c 3) (ckOff c 3 + c.st.length) (ckOff c 3 + c.st.length) (by omega) (by omega) (by omega)
        rw [hz1] at hcut'
        have hsub : ckOff c 3 + c.st.length - ckOff c 3 = c.st.length := by omega
        rw [hsub] at hcut'
        have HCUT : Hid (∀ w, (Instr.slice 32 (.slice A l.length cap) (some (.int .i64 (ckOff c 3 : Nat))) (some (.int .i64 (((ckOff c 3 : Nat) : Int) + (c.st.length : Nat)))) (some (.int .i64 (((ckOff c 3 : Nat) : Int) + (c.st.length : Nat))))).run Tryd.prog w = .ok (.slice (cutA 1 A (ckOff c 3 + c.st.length) (ckOff c 3)) c.st.length c.st.length) w) := by
          intro w
          have := hcut' w
          simpa using this
        have hcz : cutA 1 A (ckOff c 3 + c.st.length) (ckOff c 3) = none → c.st.length = 0 := fun h => by
          rcases Nat.eq_zero_or_pos c.st.length with h' | h'
          · exact h'
          · obtain ⟨b, off, hA, _⟩ := hrd.at_ h'
            rw [h] at hA; cases hA
        have HBA2 : Hid (BytesAt g3 wr (.slice (cutA 1 A (ckOff c 3 + c.st.length) (ckOff c 3)) c.st.length c.st.length) c.st) := ⟨_, _, rfl, Nat.le_refl _, by simp only [maxLen]; omega, hcz, hrd⟩
        have hch := run_cut_h (P := Tryd.prog) Tryd.underlying32 hi0 A l.length cap (ckOff c 3 + c.st.length) (by omega)
        clear b d e1 e2 hcut' hrd hcz hsub
        generalize cutA 1 A (ckOff c 3 + c.st.length) (ckOff c 3) = A3 at *
        go_wp2_with fail
        refine (uint_any g3 A cap l (ckOff c 3 + c.st.length) wr HR4.out (by omega) (by omega) hcc).mono ?_
        rintro e w' hu
        obtain ⟨rfl, rfl⟩ := hu.ok HD.out (show _ = l.length by omega)
        clear hu
        rw [HSN.out]
        go_wp2_with fail
        have hsum := sum_any g3 A cap (ckBody c) wr (HST.out) (by rw [ckBody_len]; omega)
        rw [ckBody_len] at hsum
        refine hsum.mono ?_
        rintro e w' ⟨rfl, rfl⟩
        clear hsum
        have hcut := HCUT.out
        go_wp2_with fail
        have hS : (fun x => Blk w1.heap.size 119 [.int .u64 (c.seq : Nat), .int .u64 (c.pos : Nat), .int .u64 (c.st.length : Nat)] x) wr.drew := HN4.out
        (refine wp_region_mixz (S := fun x => Blk w1.heap.size 119 [.int .u64 (c.seq : Nat), .int .u64 (c.pos : Nat), .int .u64 (c.st.length : Nat)] x) [] 13 [([0, 1, 2, 3, 4, 5, 6, 7, 8, 9, 10, 11], 12)] (by kernel_rfl) (by kernel_rfl) (by intro c a d v w h; cases d <;> exact h) hS ?_; have hN : Nonempty (Held (fun x => Blk w1.heap.size 119 [.int .u64 (c.seq : Nat), .int .u64 (c.pos : Nat), .int .u64 (c.st.length : Nat)] x)) := ⟨⟨_, hS⟩⟩)
        have q0 : ∀ y : Held (fun x => Blk w1.heap.size 119 [.int .u64 (c.seq : Nat), .int .u64 (c.pos : Nat), .int .u64 (c.st.length : Nat)] x), y.w.cell? ⟨w1.heap.size, 0, none⟩ = some (.int .u64 (c.seq : Nat)) := fun y => y.ok.cell 0
        have q1 : ∀ y : Held (fun x => Blk w1.heap.size 119 [.int .u64 (c.seq : Nat), .int .u64 (c.pos : Nat), .int .u64 (c.st.length : Nat)] x), y.w.cell? ⟨w1.heap.size, 1, none⟩ = some (.int .u64 (c.pos : Nat)) := fun y => y.ok.cell 1
        (unfold wpMixZ wpRd; (repeat (first | simp only [List.filterMap_cons] | simp only [List.filterMap_nil] | simp only [List.getElem?_toArray] | simp only [List.getElem?_cons_zero] | simp only [List.getElem?_cons_succ])); (try dsimp only); change wpQuiet _ _ _ _ (_ :: _ :: _ :: _ :: _ :: _ :: _ :: _ :: _ :: _ :: _ :: _ :: []) _; (repeat (go_big_quiet_step (fail))); refine wpQuiet_nil ?_; (try dsimp only))
        clear q0 q1
        go_wp2_with fail
        refine ⟨Blk.far (Blk.far (Blk.far hS (show w1.heap.size ≠ w.heap.size by omega) _) (show w1.heap.size ≠ w.heap.size by omega) _) (show w1.heap.size ≠ w.heap.size by omega) _, ?_⟩
        (unfold wpMixZ wpRd; (repeat (first | simp only [List.filterMap_cons] | simp only [List.filterMap_nil] | simp only [List.getElem?_toArray] | simp only [List.getElem?_cons_zero] | simp only [List.getElem?_cons_succ])); (try dsimp only); change wpQuiet _ _ _ _ ([]) _; (repeat (go_big_quiet_step (fail))); refine wpQuiet_nil ?_; (try dsimp only))
        clear hN
        go_wp2_with fail
        refine bodyPost_ret (v := .tuple #[.agg #[.bool true, .int .i64 c.seq, .int .i64 c.pos], .slice A3 c.st.length c.st.length]) (by simp [results, Tryd.results56, go_sem, c0, c1, c2]) rfl ?_
        refine ⟨g3, Ext.put3 HX4.out.drew (Nat.le_refl _) hFz _ _ _, .inl ⟨HEQ.out, A3, rfl, ?_⟩⟩
        exact BytesAt.far (BytesAt.far (BytesAt.far (p := ⟨w.heap.size, 0, none⟩) (HBA2.out.ext ((Ext.refl (fun _ => False) g3 wr).drew)) hFz _) (p := ⟨w.heap.size, 1, none⟩) hFz _) (p := ⟨w.heap.size, 2, none⟩) hFz _

end Go.Proofs.YtcjkllmellampaaDoor
