/-
  What Drop makes of a have-list.
-/
import Derived.Test.YtjjdffafibonhaaGreatDoorHvU
namespace Go.Proofs.YtjjdffafibonhaaGreatDoor
open Go.RowKit

theorem delM : ∀ {V : List Hv} (p : ByteArray), Once V → del (encM V) p = encM (V.filter fun h => !(p == h.path))
  | [], _, _ => rfl
  | a :: V, p, h => by
    have h2 := List.pairwise_cons.1 h
    show (if p == a.path then encM V else (a.path, a.val) :: del (encM V) p) = _
    cases hb : (p == a.path)
    · rw [if_neg (by simp), delM p h2.2, List.filter_cons_of_pos (by simp [hb])]
      rfl
    · rw [if_pos rfl, List.filter_cons_of_neg (by simp [hb])]
      congr 1
      refine (List.filter_eq_self.2 fun q hq => ?_).symm
      rw [Bool.not_eq_true']
      cases hq2 : (p == q.path)
      · rfl
      · exact absurd (((ba_beq _ _).1 hb).symm.trans ((ba_beq _ _).1 hq2)) (h2.1 q hq)
theorem dropE_snoc (V : List Hv) (M : List ByteArray) (p : ByteArray) : dropE V (M ++ [p]) = (dropE V M).filter fun h => !(p == h.path) := by
  unfold dropE
  rw [List.filter_filter]
  congr 1
  funext h
  simp [Bool.and_comm]
theorem dropE_nil (V : List Hv) : dropE V [] = V := by
  unfold dropE
  exact List.filter_eq_self.2 fun _ _ => rfl
theorem Once.drop {V : List Hv} (h : Once V) (M : List ByteArray) : Once (dropE V M) := h.filter _
theorem anyP_perm {V L : List Hv} (h : V.Perm L) (p : ByteArray) : anyP V p = anyP L p := by
  rw [Bool.eq_iff_iff, anyP_iff, anyP_iff]
  exact ⟨fun ⟨q, h1, h2⟩ => ⟨q, h.mem_iff.1 h1, h2⟩, fun ⟨q, h1, h2⟩ => ⟨q, h.mem_iff.2 h1, h2⟩⟩

set_option maxRecDepth 100000 in
set_option maxHeartbeats 6400000 in
theorem hdrop_any (g : Gh) (x : World) (b d : Nat) (name : ByteArray) (ch : Int) (E : List Hv) (D : Dev) (o0 o1 : Option Ck) (h : HvAt g x b d name ch E false) (hD : DevAt g x d D) (hs : SvOk D name ch o0 o1) (A : Option Addr) (c : Nat) (ps : List ByteArray) (hr : Rd 1 g x A ps.length (ps.map Value.string)) (hl : ps.length ≤ 100000) (hnum : ∀ h ∈ dropE E ps, h.num < 4611686018427387904) (hbd : b ≠ d) :
    Calls Tryz.prog 16 #[.pointer (some ⟨b, 0, none⟩), .slice A ps.length c] x fun e x' => (dropI E ps ≠ 0 ∧ e = .returned (.int .i64 (dropI E ps)) ∧ Below x.heap.size x x') ∨ (dropI E ps = 0 ∧ ChgP g x b d name ch E (dropE E ps) D o0 o1 e x') := by
  obtain ⟨m, hb, ⟨L, hL, hp⟩, hmO, hmF⟩ := h.ex
  have hln := fun ty => hL.run_len (P := Tryz.prog) Tryz.underlying65 ty
  have hlenL : (encM L).length = E.length := by rw [← hp.length_eq]; simp [encM]
  rw [hlenL] at hln
  have hEl := h.ok.len
  have hmk := fun (n : Int) (W : World) => run_makeMap_hint (P := Tryz.prog) 65 9 32 .i64 n Tryz.underlying65 W
  have c3 : x.cell? ⟨b, 3, none⟩ = some (.map (some m)) := hb.cell 3
  have HRD := Lib.hid (ready_up h D hD hs.dn)
  have HLO : Hid (Once L) := (hp.pairwise_iff (fun h => h.symm)).2 h.ok.srt.once
  have HH := Lib.hid h
  have HD := Lib.hid hD
  have HS := Lib.hid hs
  have HR := Lib.hid hr
  have HL := Lib.hid hL
  have HP := Lib.hid hp
  have HNUM := Lib.hid hnum
  have HB := Lib.hid hb
  have hmlt := hL.lt
  have hblt := hb.lt
  have HM1 : Hid (MapIs x.heap.size (encM []) (x.alloc (.map #[] 0))) := MapIs.new x
  have HB1 : Hid (Below x.heap.size x (x.alloc (.map #[] 0))) := (Below.refl _ _).alloc (Nat.le_refl _) _
  have hx1 : (x.alloc (.map #[] 0)).heap.size = x.heap.size + 1 := by simp
  have hL1 : MapIs m (encM L) (x.alloc (.map #[] 0)) := hL.alloc _
  obtain ⟨es, clock, hbm, he, hbn, hbc, hkn⟩ := hL1
  have hu := unk_list he
  have hkk := unk_key he
  have hrg := run_range_map (P := Tryz.prog) (x.alloc (.map #[] 0)) 65 9 32 m es clock Tryz.underlying65 hbm
  have HBN := Lib.hid hbn
  have HBC := Lib.hid hbc
  have HK := Lib.hid hkk
  have HU := Lib.hid hu
  have HBM := Lib.hid hbm
  have HX1 := Lib.hid hx1
  clear hb h hD hs hr hL hp hnum hlenL he hbn hbc hkn hkk hu hbm hx1
  go_enter Tryz.func16, Tryz.ntmps16
  go_wp2_with fail
  refine HRD.out.mono ?_
  rintro e x' ⟨rfl, rfl⟩
  go_wp2_with fail
  have hb2 : ((x.alloc (.map #[] 0)).alloc (.mapIter (some m) clock #[] clock)).heap[m]? = some (.map es clock) := (Below.heap_alloc _ _ m (by simp; omega)).trans HBM.out
  have hr2 : ((x.alloc (.map #[] 0)).alloc (.mapIter (some m) clock #[] clock)).heap[x.heap.size + 1]? = some (.mapIter (some m) clock #[] clock) := by
    have := heap_alloc_new (x.alloc (.map #[] 0)) (.mapIter (some m) clock #[] clock)
    simpa using this
  have HRNG := Lib.hid (Rng.start hr2 hb2)
  have HBE2 : Hid (Below x.heap.size x ((x.alloc (.map #[] 0)).alloc (.mapIter (some m) clock #[] clock))) := HB1.out.alloc HB1.out.size _
  have HMA2 : Hid (MapIs x.heap.size (encM []) ((x.alloc (.map #[] 0)).alloc (.mapIter (some m) clock #[] clock))) := HM1.out.alloc _
  have hmr : m ≠ x.heap.size + 1 := by omega
  clear hln hmk c3 HRD hrg hb2 hr2 HB1 HM1
  generalize (x.alloc (.map #[] 0)).alloc (.mapIter (some m) clock #[] clock) = x1 at *
  go_loopw [29] (fun _ wq => ∃ V : List Hv, Rng m (x.heap.size + 1) clock es (encM V) wq ∧ Below x.heap.size x wq ∧ MapIs x.heap.size (encM V) wq) (fun _ wq => (leftOf es (seenOf (x.heap.size + 1) wq)).size)
  case atStart => exact ⟨[], HRNG.out, HBE2.out, HMA2.out⟩
  case round =>
    obtain ⟨V, hrng, hbel, hmp⟩ := hrel
    clear HRNG HBE2 HMA2
    rcases hrng.step (P := Tryz.prog) 0 HBN.out HBC.out HK.out hmr with ⟨hperm, hnx⟩ | ⟨y, W, hy, hly, hnx, hen, hr', w3, hw3, hg3⟩
    · rw [HU.out] at hperm
      have hVL := encM_inj hperm
      have HVE := Lib.hid (hVL.trans HP.out)
      have HMA := Lib.hid hmp
      have HBL := Lib.hid hbel
      have HVO : Hid (Once V) := (hVL.pairwise_iff (fun h => h.symm)).2 HLO.out
      clear hrng hperm hVL hmp hbel
      go_wp2_with fail
      go_loopw [39] (fun i wq => ∃ k : Nat, i = .int .i64 k ∧ k ≤ ps.length ∧ Below x.heap.size x wq ∧ MapIs x.heap.size (encM (dropE V (ps.take k))) wq ∧ Hid (∀ p ∈ ps.take k, anyP E p = true)) (fun i _ => ps.length - (intOf i).toNat)
      case atStart => exact ⟨0, rfl, Nat.zero_le _, HBL.out, by rw [List.take_zero, dropE_nil]; exact HMA.out, fun p hp => by rw [List.take_zero] at hp; cases hp⟩
      case round =>
        clear HBL HMA
        obtain ⟨k, rfl, hk, hbel, hmp, hal⟩ := hrel
        by_cases hlt : k < ps.length
        · have hlt' : (k : Int) < (ps.length : Int) := by omega
          obtain ⟨b0, off, hA, _, hbx, hc⟩ := (HR.out.ext (Ext.of_below (fun _ => False) g hbel)).at_ (by omega)
          subst hA
          obtain ⟨p, hh⟩ : ∃ p, ps[k] = p := ⟨_, rfl⟩
          have hg := List.getElem?_eq_getElem hlt
          rw [hh] at hg
          have c0 := hc k (.string p) (by rw [List.getElem?_map, hg]; rfl)
          have hts : ps.take (k + 1) = ps.take k ++ [p] := by rw [List.take_add_one, hg]; rfl
          have hpm : p ∈ ps := List.mem_of_getElem? hg
          have HTS := Lib.hid hts
          have HBL := Lib.hid hbel
          have HAL := Lib.hid hal
          have HPM := Lib.hid hpm
          have hLw : MapIs m (encM L) wr := HL.out.below hbel hmlt
          have HLW := Lib.hid hLw
          have HM2 := Lib.hid hmp
          have c3 : wr.cell? ⟨b, 3, none⟩ = some (.map (some m)) := (hbel.cell (p := ⟨b, 3, none⟩) hblt).trans (HB.out.cell 3)
          have hxs := hbel.size
          clear hts hc hh hg hal hpm hbel hmp hLw
          cases ha : anyP L p
          · have HLK := Lib.hid (lookM_none ha)
            have HRES : Hid (dropI E ps = 343) := by
              show _ = _
              unfold dropI
              rw [if_neg]
              intro hx
              have := List.all_eq_true.1 hx p HPM.out
              rw [← anyP_perm HP.out, ha] at this
              cases this
            clear ha
            go_wp2_with (with_reducible refine wpList_look_none rfl (.tmp 47) (.tmp 48) 65 true rfl 9 32 Tryz.underlying65 Tryz.underlying9 m (encM L) rfl HLW.out (.agg #[.string ⟨#[]⟩, .int .i64 0, .string ⟨#[]⟩]) (by kernel_rfl) p rfl HLK.out ?_)
            go_ret
            exact .inl ⟨by rw [HRES.out]; decide, by rw [HRES.out]; rfl, HBL.out.alloc HBL.out.size _⟩
          · obtain ⟨q, hq⟩ := lookM_some ha
            have HLK := Lib.hid hq
            have HA2 : Hid (∀ p' ∈ ps.take (k + 1), anyP E p' = true) := by
              show ∀ _, _
              intro p' hp'
              rw [HTS.out, List.mem_append, List.mem_singleton] at hp'
              rcases hp' with hp' | rfl
              · exact HAL.out.out p' hp'
              · rw [← anyP_perm HP.out, ha]
            have HM3 := Lib.hid (HM2.out.alloc (.cells #[.string q.path, .int .i64 q.num, .string q.loc] 32))
            have HB3 := Lib.hid (HBL.out.alloc HBL.out.size (.cells #[.string q.path, .int .i64 q.num, .string q.loc] 32))
            have HDE := Lib.hid ((delM p (HVO.out.drop (ps.take k))).trans (congrArg encM (dropE_snoc V (ps.take k) p).symm))
            clear ha hq
            go_wp2_with (first | (with_reducible refine wpList_look_some rfl (.tmp 47) (.tmp 48) 65 true rfl 9 32 Tryz.underlying65 Tryz.underlying9 m (encM L) rfl HLW.out p rfl _ HLK.out ?_) | (with_reducible refine wpList_del rfl (.tmp 54) (.tmp 55) 65 rfl 9 32 Tryz.underlying65 Tryz.underlying9 x.heap.size (encM (dropE V (ps.take k))) rfl HM3.out p rfl ?_; intro w6 hm6 hg6))
            go_round
            case rel =>
              rw [HDE.out, ← HTS.out] at hm6
              exact ⟨k + 1, by go_num, by omega, HB3.out.grown hg6 HB3.out.size (fun q hq => by injection hq with hq; omega), hm6, HA2.out⟩
            case measure => simp [intOf]; omega
        · obtain rfl : k = ps.length := by omega
          rw [List.take_length] at hmp hal
          have hres : dropI E ps = 0 := by
            unfold dropI
            rw [if_pos (List.all_eq_true.2 hal.out)]
          have HRES := Lib.hid hres
          have HCH := Lib.hid (ChgP.from HH.out HD.out HS.out (HH.out.ok.drop ps) HNUM.out hbd hbel hmp (HVE.out.filter _))
          clear hmp hbel hres hal
          go_wp2_with fail
          refine HCH.out.mono ?_
          rintro e x9 hP
          obtain ⟨rfl, hP2⟩ := hP
          have HP2 := Lib.hid hP2
          clear hP2
          go_wp2_with fail
          go_ret
          exact .inr ⟨HRES.out, rfl, HP2.out⟩
    · rw [HU.out] at hy
      obtain ⟨⟨a, n, c9⟩, hh, rfl⟩ := encM_mem hy
      rw [encM_snoc] at hr'
      dsimp only [Hv.val] at hnx hen
      have hw3h : w3.heap = wr.heap := by rcases hw3 with rfl | rfl <;> rfl
      have hbw : Below x.heap.size x W := by
        have h1 : Below x.heap.size x w3 := by
          rcases hw3 with rfl | rfl
          · exact hbel
          · exact hbel.drew
        exact h1.grown hg3 (by rw [hw3h]; exact hbel.size) (fun k hk => by injection hk; omega)
      have hmW : MapIs x.heap.size (encM V) W := hmp.of_block ((hg3.block x.heap.size (by rw [hw3h]; exact hmp.lt) (fun h => by injection h; omega)).trans (by rw [hw3h]))
      have hleft : (leftOf es (seenOf (x.heap.size + 1) W)).size < (leftOf es (seenOf (x.heap.size + 1) wr)).size := by
        rw [hr'.left, hrng.left]
        simp only [encM, List.length_map, List.length_append, List.length_cons, List.length_nil] at hly ⊢
        omega
      have hon := hr'.once HU.out HLO.out
      have HNO : Hid (anyP V a = false) := anyP_false.2 fun q hq => (List.pairwise_append.1 hon).2.2 q hq _ (List.mem_singleton.2 rfl)
      have HPU := Lib.hid (putM (h := ⟨a, n, c9⟩) HNO.out)
      have HBW := Lib.hid hbw
      have HRW := Lib.hid hr'
      have HLF := Lib.hid hleft
      have HMW := Lib.hid (hmW.alloc (.cells #[.string a, .int .i64 n, .string c9] 32))
      have hWs := hbw.size
      have hrl := hr'.lt
      have hmb := block_lt hr'.mb
      clear hrng hbel hmp hw3 hg3 hy hw3h hbw hr' hly hh hleft hmW hon
      have hvb : Blk W.heap.size 32 [.string a, .int .i64 n, .string c9] (W.alloc (.cells #[.string a, .int .i64 n, .string c9] 32)) := Blk.new W 32 [.string a, .int .i64 n, .string c9]
      have HB1 := Lib.hid (HBW.out.alloc HBW.out.size (.cells #[.string a, .int .i64 n, .string c9] 32))
      have v0 : (W.alloc (.cells #[.string a, .int .i64 n, .string c9] 32)).cell? ⟨W.heap.size, 0, none⟩ = some (.string a) := hvb.cell 0
      have v1 : (W.alloc (.cells #[.string a, .int .i64 n, .string c9] 32)).cell? ⟨W.heap.size, 1, none⟩ = some (.int .i64 n) := hvb.cell 1
      have v2 : (W.alloc (.cells #[.string a, .int .i64 n, .string c9] 32)).cell? ⟨W.heap.size, 2, none⟩ = some (.string c9) := hvb.cell 2
      clear hvb
      go_wp2_with (with_reducible refine wpList_put rfl (.tmp 34) (.tmp 35) (.tmp 36) 65 rfl 9 32 Tryz.underlying65 Tryz.underlying9 x.heap.size (encM V) rfl HMW.out a rfl (.agg #[.string a, .int .i64 n, .string c9]) rfl ?_; intro w6 hm6 hg6)
      go_round
      case rel =>
        have hk6 : ∀ b', b' < W.heap.size → b' ≠ x.heap.size → w6.heap[b']? = W.heap[b']? := fun b' h1 h2 =>
          (hg6.block b' (by simp; omega) (fun h => h2 (by injection h))).trans (Below.heap_alloc W _ b' h1)
        refine ⟨V ++ [⟨a, n, c9⟩], HRW.out.of (hk6 _ hrl (by omega)) (hk6 m hmb (by omega)), HB1.out.grown hg6 HB1.out.size (fun q hq => by injection hq with hq; omega), ?_⟩
        have e6 : put (encM V) a (.agg #[.string a, .int .i64 n, .string c9]) = encM (V ++ [⟨a, n, c9⟩]) := HPU.out
        rw [e6] at hm6
        exact hm6
      case measure =>
        have e2 : seenOf (x.heap.size + 1) w6 = seenOf (x.heap.size + 1) W := by
          unfold seenOf
          rw [(hg6.block (x.heap.size + 1) (by simp; omega) (fun h => by injection h; omega)).trans (Below.heap_alloc W _ (x.heap.size + 1) hrl)]
        rw [e2]
        exact HLF.out

end Go.Proofs.YtjjdffafibonhaaGreatDoor
