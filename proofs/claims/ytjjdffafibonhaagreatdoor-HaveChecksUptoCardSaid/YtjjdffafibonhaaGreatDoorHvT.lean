/-
  What Set makes of a have-list.
-/
import Derived.Test.YtjjdffafibonhaaGreatDoorHvQ
import Derived.Test.YtjjdffafibonhaaGreatDoorHvW
namespace Go.Proofs.YtjjdffafibonhaaGreatDoor
open Go.RowKit

theorem lookM_none {dn : List Hv} {k : ByteArray} (h : anyP dn k = false) : look (encM dn) k = none := by
  unfold look encM
  rw [List.find?_map, Option.map_map]
  have : dn.find? ((fun x : ByteArray × Value => k == x.1) ∘ fun h => (h.path, h.val)) = none := by
    rw [List.find?_eq_none]
    intro x hx hk
    exact anyP_false.1 h x hx ((ba_beq _ _).1 hk).symm
  rw [this]
  rfl
theorem lookM_some {dn : List Hv} {k : ByteArray} (h : anyP dn k = true) : ∃ q : Hv, look (encM dn) k = some (.agg #[.string q.path, .int .i64 q.num, .string q.loc]) := by
  unfold look encM
  rw [List.find?_map, Option.map_map]
  obtain ⟨x, hx, hk⟩ := anyP_iff.1 h
  have : ∃ y, dn.find? ((fun x : ByteArray × Value => k == x.1) ∘ fun h => (h.path, h.val)) = some y := by
    rw [← Option.isSome_iff_exists, List.find?_isSome]
    exact ⟨x, hx, (ba_beq _ _).2 hk.symm⟩
  obtain ⟨y, hy⟩ := this
  rw [hy]
  exact ⟨y, rfl⟩
theorem putM {dn : List Hv} {h : Hv} (hh : anyP dn h.path = false) : put (encM dn) h.path h.val = encM (dn ++ [h]) := by
  have h1 := look_none (lookM_none hh)
  rw [put_none h1]
  simp [encM]
theorem formF_step (dn : List Hv) (h : Hv) (t : List Hv) : formF dn (h :: t) = (!anyP dn h.path && okH h && formF (dn ++ [h]) t) := rfl

theorem once_iff {V : List Hv} : Once V ↔ (V.map (·.path)).Nodup := by
  unfold Once List.Nodup
  rw [List.pairwise_map]
theorem Rng.once {bm r clock : Nat} {es : Array MapEntry} {V L : List Hv} {w : World} (h : Rng bm r clock es (encM V) w) (hu : es.toList.map unk = encM L) (hL : Once L) : Once V := by
  obtain ⟨seen, last, _, _, hp⟩ := h.it
  rw [hu] at hp
  have h1 := hp.map (·.1)
  have h2 : ((encM L).map (·.1)) = L.map (·.path) := by simp [encM]
  have h3 : ((encM V).map (·.1)) = V.map (·.path) := by simp [encM]
  rw [List.map_append, h2, h3] at h1
  have h4 := h1.nodup_iff.2 (once_iff.1 hL)
  exact once_iff.2 (List.nodup_append.1 h4).1
theorem rest_snoc {l V : List Hv} (h : Hv) : restOf l (V ++ [h]) = if anyP l h.path then restOf l V else restOf l V ++ [h] := by
  unfold restOf
  rw [List.filter_append]
  cases e : anyP l h.path
  · rw [List.filter_cons_of_pos (by simp [e])]
    simp
  · rw [List.filter_cons_of_neg (by simp [e])]
    simp
theorem any_rest {l V : List Hv} {h : Hv} (ho : Once (V ++ [h])) : anyP (l ++ restOf l V) h.path = anyP l h.path := by
  have h1 : anyP (restOf l V) h.path = false := by
    rw [anyP_false]
    intro q hq e
    have hq2 := (List.mem_filter.1 hq).1
    exact (List.pairwise_append.1 ho).2.2 q hq2 h (List.mem_singleton.2 rfl) e
  unfold anyP at *
  rw [List.any_append, h1, Bool.or_false]

theorem KeysOf.put {L : List (ByteArray × Value)} {M : List ByteArray} (h : KeysOf (L.map (·.1)) M) (c : ByteArray) (v : Value) : KeysOf ((put L c v).map (·.1)) (M ++ [c]) := by
  refine ⟨put_nodup h.nd c v, fun k => ?_⟩
  rw [put_keys, List.mem_append, List.mem_singleton, ← h.mem k]
  cases e : (look L c).isSome
  · simp
  · have hc := (look_isSome L c).1 e
    simp only [if_true]
    constructor
    · exact fun hk => .inl hk
    · rintro (hk | rfl)
      · exact hk
      · exact hc

set_option maxRecDepth 100000 in
set_option maxHeartbeats 6400000 in
theorem hset_any (g : Gh) (x : World) (b d : Nat) (name : ByteArray) (ch : Int) (E : List Hv) (D : Dev) (o0 o1 : Option Ck) (h : HvAt g x b d name ch E false) (hD : DevAt g x d D) (hs : SvOk D name ch o0 o1) (A : Option Addr) (c : Nat) (l : List Hv) (hr : Rd 3 g x A l.length (celH l)) (hl : l.length ≤ 100000) (hnum : ∀ h ∈ putAll E l, h.num < 4611686018427387904) (hbd : b ≠ d) :
    Calls Tryz.prog 15 #[.pointer (some ⟨b, 0, none⟩), .slice A l.length c] x fun e x' => (setI E l ≠ 0 ∧ e = .returned (.int .i64 (setI E l)) ∧ Below x.heap.size x x') ∨
      (setI E l = 0 ∧ e = .returned (.int .i64 (svI D (hvOp name ch o0 o1 (putAll E l)))) ∧ ∃ g', Ext (fun o => o = d ∨ o = b ∨ x.heap.size ≤ o) g x g' x' ∧ DevAt g' x' d (svD D (hvOp name ch o0 o1 (putAll E l))) ∧
      ((svI D (hvOp name ch o0 o1 (putAll E l)) = 0 ∧ HvAt g' x' b d name (ch + 1) (putAll E l) false) ∨ (svI D (hvOp name ch o0 o1 (putAll E l)) = 303 ∧ HvAt g' x' b d name ch E true))) := by
  obtain ⟨m, hb, ⟨L, hL, hp⟩, hmO, hmF⟩ := h.ex
  have hln := fun ty => hL.run_len (P := Tryz.prog) Tryz.underlying65 ty
  have hlenL : (encM L).length = E.length := by rw [← hp.length_eq]; simp [encM]
  rw [hlenL] at hln
  have hEl := h.ok.len
  have hmk := fun (n : Int) (W : World) => run_makeMap_hint (P := Tryz.prog) 65 9 32 .i64 n Tryz.underlying65 W
  have c3 : x.cell? ⟨b, 3, none⟩ = some (.map (some m)) := hb.cell 3
  have HRD := Lib.hid (ready_up h D hD hs.dn)
  have HH := Lib.hid h
  have HD := Lib.hid hD
  have HS := Lib.hid hs
  have HR := Lib.hid hr
  have HL := Lib.hid hL
  have HP := Lib.hid hp
  have HNUM := Lib.hid hnum
  have HB := Lib.hid hb
  have hmlt := hL.lt
  have hblt := hb.lt
  have HM1 : Hid (MapIs x.heap.size (encM []) (x.alloc (.map #[] 0))) := MapIs.new x
  have HB1 : Hid (Below x.heap.size x (x.alloc (.map #[] 0))) := (Below.refl _ _).alloc (Nat.le_refl _) _
  clear hb h hD hs hr hL hp hnum hlenL
  go_enter Tryz.func15, Tryz.ntmps15
  go_wp2_with fail
  refine HRD.out.mono ?_
  rintro e x' ⟨rfl, rfl⟩
  go_wp2_with fail
  clear hln hmk c3 HRD
  generalize x.alloc (.map #[] 0) = x1 at *
  go_loopw [34] (fun i wr => ∃ k : Nat, i = .int .i64 k ∧ k ≤ l.length ∧ Below x.heap.size x wr ∧ MapIs x.heap.size (encM (l.take k)) wr ∧ Hid (formB l = formF (l.take k) (l.drop k))) (fun i _ => l.length - (intOf i).toNat)
  case atStart => exact ⟨0, rfl, Nat.zero_le _, HB1.out, HM1.out, rfl⟩
  case round =>
    obtain ⟨k, rfl, hk, hbel, hmp, hfm⟩ := hrel
    clear HM1 HB1
    by_cases hlt : k < l.length
    · have hlt' : (k : Int) < (l.length : Int) := by omega
      obtain ⟨b0, off, hA, _, hbx, hc⟩ := (HR.out.ext (Ext.of_below (fun _ => False) g hbel)).at_ (by omega)
      subst hA
      obtain ⟨h, hh⟩ : ∃ h, l[k] = h := ⟨_, rfl⟩
      have hg := List.getElem?_eq_getElem hlt
      rw [hh] at hg
      have c0 := hc _ _ (celH_get l k 0 h hg (by omega))
      have c1 := hc _ _ (celH_get l k 1 h hg (by omega))
      have c2 := hc _ _ (celH_get l k 2 h hg (by omega))
      simp only [Nat.add_zero, ← Nat.add_assoc] at c0 c1 c2
      have hdr : l.drop k = h :: l.drop (k + 1) := by rw [List.drop_eq_getElem_cons hlt, hh]
      have hts : l.take (k + 1) = l.take k ++ [h] := by rw [List.take_add_one, hg]; rfl
      have hfo := hfm.out
      rw [hdr, formF_step] at hfo
      have HFO := Lib.hid hfo
      have HTS := Lib.hid hts
      have HBL := Lib.hid hbel
      clear hfo hts hc hdr hfm hh hg
      obtain ⟨p, n, lo⟩ := h
      dsimp only at c0 c1 c2
      have hvb : Blk wr.heap.size 32 [.string p, .int .i64 n, .string lo] (wr.alloc (.cells #[.string p, .int .i64 n, .string lo] 32)) := Blk.new wr 32 [.string p, .int .i64 n, .string lo]
      have HM2 := Lib.hid (hmp.alloc (.cells #[.string p, .int .i64 n, .string lo] 32))
      have hsx := hbel.size
      clear hmp hbel
      cases ha : anyP (l.take k) p
      · have HLK := Lib.hid (lookM_none ha)
        have HPU := Lib.hid (putM (h := ⟨p, n, lo⟩) ha)
        have HVA := Lib.hid (fun y => hvalid_any p lo n y)
        have HFO2 : Hid (formB l = (okH ⟨p, n, lo⟩ && formF (l.take (k + 1)) (l.drop (k + 1)))) := by
          have h1 := HFO.out
          rw [← HTS.out, ha] at h1
          show _ = _
          simpa using h1
        have HBW : Hid (Below x.heap.size x ((wr.alloc (.cells #[.string p, .int .i64 n, .string lo] 32)).alloc (.cells #[.string ⟨#[]⟩, .int .i64 0, .string ⟨#[]⟩] 32))) := (HBL.out.alloc HBL.out.size _).alloc (by simp; have := HBL.out.size; omega) _
        have HMW : Hid (MapIs x.heap.size (encM (l.take k)) ((wr.alloc (.cells #[.string p, .int .i64 n, .string lo] 32)).alloc (.cells #[.string ⟨#[]⟩, .int .i64 0, .string ⟨#[]⟩] 32))) := HM2.out.alloc _
        have HVW : Hid (Blk wr.heap.size 32 [.string p, .int .i64 n, .string lo] ((wr.alloc (.cells #[.string p, .int .i64 n, .string lo] 32)).alloc (.cells #[.string ⟨#[]⟩, .int .i64 0, .string ⟨#[]⟩] 32))) := hvb.alloc _
        clear ha HFO hvb
        go_wp2_with (with_reducible refine wpList_look_none rfl (.tmp 39) (.tmp 41) 65 true rfl 9 32 Tryz.underlying65 Tryz.underlying9 x.heap.size (encM (l.take k)) rfl HM2.out (.agg #[.string ⟨#[]⟩, .int .i64 0, .string ⟨#[]⟩]) (by kernel_rfl) p rfl HLK.out ?_)
        refine (HVA.out _).mono ?_
        generalize (wr.alloc (.cells #[.string p, .int .i64 n, .string lo] 32)).alloc (.cells #[.string ⟨#[]⟩, .int .i64 0, .string ⟨#[]⟩] 32) = W at *
        rintro e w5 ⟨rfl, hb5⟩
        have hxW := HBW.out.size
        have HB5 := Lib.hid (HBW.out.trans (hb5.mono hxW))
        have HM5 : Hid (MapIs x.heap.size (encM (l.take k)) w5) := HMW.out.below hb5 HMW.out.lt
        cases ho : okH ⟨p, n, lo⟩
        · have HRES : Hid (setI E l = 340) := by
            show _ = _
            unfold setI
            rw [if_pos (by rw [HFO2.out, ho]; rfl)]
          clear ho hb5
          go_wp2_with fail
          go_ret
          exact .inl ⟨by rw [HRES.out]; decide, by rw [HRES.out]; rfl, HB5.out⟩
        · have v0 : w5.cell? ⟨wr.heap.size, 0, none⟩ = some (.string p) := ((bcell hb5).1 _ 0 HVW.out.lt).trans (HVW.out.cell 0)
          have v1 : w5.cell? ⟨wr.heap.size, 1, none⟩ = some (.int .i64 n) := ((bcell hb5).1 _ 1 HVW.out.lt).trans (HVW.out.cell 1)
          have v2 : w5.cell? ⟨wr.heap.size, 2, none⟩ = some (.string lo) := ((bcell hb5).1 _ 2 HVW.out.lt).trans (HVW.out.cell 2)
          have HNX : Hid (formB l = formF (l.take (k + 1)) (l.drop (k + 1))) := by
            show _ = _
            rw [HFO2.out, ho]
            rfl
          clear ho hb5 HFO2
          go_wp2_with (with_reducible refine wpList_put rfl (.tmp 51) (.tmp 53) (.tmp 54) 65 rfl 9 32 Tryz.underlying65 Tryz.underlying9 x.heap.size (encM (l.take k)) rfl HM5.out p rfl (.agg #[.string p, .int .i64 n, .string lo]) rfl ?_; intro w6 hm6 hg6)
          go_round
          case rel =>
            have e6 : put (encM (l.take k)) p (.agg #[.string p, .int .i64 n, .string lo]) = encM (l.take (k + 1)) := by
              rw [HTS.out]
              exact HPU.out
            rw [e6] at hm6
            exact ⟨k + 1, by go_num, by omega, HB5.out.grown hg6 HB5.out.size (fun q hq => by injection hq with hq; omega), hm6, HNX.out⟩
          case measure => simp [intOf]; omega
      · obtain ⟨q, hq⟩ := lookM_some ha
        have HLK := Lib.hid hq
        have hres : formB l = false := by
          have h1 := HFO.out
          rw [ha] at h1
          simpa using h1
        have HRES : Hid (setI E l = 340) := by show _ = _; unfold setI; rw [if_pos hres]
        clear ha hres hq HFO
        go_wp2_with (with_reducible refine wpList_look_some rfl (.tmp 39) (.tmp 41) 65 true rfl 9 32 Tryz.underlying65 Tryz.underlying9 x.heap.size (encM (l.take k)) rfl HM2.out p rfl _ HLK.out ?_)
        go_ret
        exact .inl ⟨by rw [HRES.out]; decide, by rw [HRES.out]; rfl, (HBL.out.alloc HBL.out.size _).alloc (by simp; have := HBL.out.size; omega) _⟩
    · obtain rfl : k = l.length := by omega
      rw [List.take_length] at hmp
      have hfb : formB l = true := by
        have := hfm.out
        rw [List.drop_length] at this
        exact this
      obtain ⟨f1, f2⟩ := formB_ok hfb
      have HFB := Lib.hid hfb
      have HF2 := Lib.hid f2
      have HMA := Lib.hid hmp
      have HBL := Lib.hid hbel
      have hL1 : MapIs m (encM L) wr := HL.out.below hbel hmlt
      obtain ⟨es, clock, hbm, he, hbn, hbc, hkn⟩ := hL1
      have hu := unk_list he
      have hkk := unk_key he
      have hrg := run_range_map (P := Tryz.prog) wr 65 9 32 m es clock Tryz.underlying65 hbm
      have HBN := Lib.hid hbn
      have HBC := Lib.hid hbc
      have HK := Lib.hid hkk
      have HU := Lib.hid hu
      have HBM := Lib.hid hbm
      have c3 : wr.cell? ⟨b, 3, none⟩ = some (.map (some m)) := (hbel.cell (p := ⟨b, 3, none⟩) hblt).trans (HB.out.cell 3)
      have hxs := hbel.size
      clear hmp hbel hfm hfb f1 f2 he hbn hbc hkn hkk hu hbm
      go_wp2_with fail
      have hb2 : (wr.alloc (.mapIter (some m) clock #[] clock)).heap[m]? = some (.map es clock) := (Below.heap_alloc wr _ m (by omega)).trans HBM.out
      have hr2 : (wr.alloc (.mapIter (some m) clock #[] clock)).heap[wr.heap.size]? = some (.mapIter (some m) clock #[] clock) := heap_alloc_new wr _
      have HRNG := Lib.hid (Rng.start hr2 hb2)
      have HBE2 : Hid (Below x.heap.size x (wr.alloc (.mapIter (some m) clock #[] clock))) := HBL.out.alloc HBL.out.size _
      have HMA2 : Hid (MapIs x.heap.size (encM l) (wr.alloc (.mapIter (some m) clock #[] clock))) := HMA.out.alloc _
      have hml := HMA.out.lt
      have hmr : m ≠ wr.heap.size := by omega
      have HLO : Hid (Once L) := (HP.out.pairwise_iff (fun h => h.symm)).2 HH.out.ok.srt.once
      clear hrg hb2 hr2 c3 HBL HMA
      generalize wr.alloc (.mapIter (some m) clock #[] clock) = w2 at *
      generalize wr.heap.size = r at *
      go_loopw [61] (fun _ wq => ∃ V : List Hv, Rng m r clock es (encM V) wq ∧ Below x.heap.size x wq ∧ MapIs x.heap.size (encM (l ++ restOf l V)) wq) (fun _ wq => (leftOf es (seenOf r wq)).size)
      case atStart => exact ⟨[], HRNG.out, HBE2.out, by simpa [restOf] using HMA2.out⟩
      case round =>
        obtain ⟨V, hrng, hbel, hmp⟩ := hrel
        clear HRNG HBE2 HMA2
        rcases hrng.step (P := Tryz.prog) 0 HBN.out HBC.out HK.out hmr with ⟨hperm, hnx⟩ | ⟨y, W, hy, hly, hnx, hen, hr', w3, hw3, hg3⟩
        · rw [HU.out] at hperm
          have hVE := (encM_inj hperm).trans HP.out
          have HSP := Lib.hid (set_perm HH.out.ok.srt HF2.out hVE)
          have HMA := Lib.hid hmp
          have HBL := Lib.hid hbel
          clear hrng hperm hVE hmp hbel
          generalize l ++ restOf l V = O at *
          have hln2 := fun ty => HMA.out.run_len (P := Tryz.prog) Tryz.underlying65 ty
          have hOl : (encM O).length = O.length := by simp [encM]
          rw [hOl] at hln2
          have hmk2 := fun (n : Int) (W : World) => run_makeMap_hint (P := Tryz.prog) 77 9 78 .i64 n Tryz.underlying77 W
          clear hOl
          have hMA1 : MapIs x.heap.size (encM O) (wr.alloc (.map #[] 0)) := HMA.out.alloc _
          have hll := HMA.out.lt
          obtain ⟨es2, clock2, hbm2, he2, hbn2, hbc2, hkn2⟩ := hMA1
          have hu2 := unk_list he2
          have hkk2 := unk_key he2
          have hrg2 := run_range_map (P := Tryz.prog) (wr.alloc (.map #[] 0)) 65 9 32 x.heap.size es2 clock2 Tryz.underlying65 hbm2
          have HBN2 := Lib.hid hbn2
          have HBC2 := Lib.hid hbc2
          have HK2 := Lib.hid hkk2
          have HU2 := Lib.hid hu2
          have HBM2 := Lib.hid hbm2
          have HML : Hid (MapIs wr.heap.size [] (wr.alloc (.map #[] 0))) := MapIs.new wr
          have HBL2 := Lib.hid (HBL.out.alloc HBL.out.size (.map #[] 0))
          have HMA1 := Lib.hid (HMA.out.alloc (.map #[] 0))
          have hwsz : (wr.alloc (.map #[] 0)).heap.size = wr.heap.size + 1 := by simp
          have HWS := Lib.hid hwsz
          clear he2 hbn2 hbc2 hkk2 hu2 hbm2 hkn2 HBL HMA hwsz
          go_wp2_with fail
          clear hrg2 hln2 hmk2
          have hb3 : ((wr.alloc (.map #[] 0)).alloc (.mapIter (some x.heap.size) clock2 #[] clock2)).heap[x.heap.size]? = some (.map es2 clock2) := (Below.heap_alloc _ _ _ (by simp; omega)).trans HBM2.out
          have hr3 : ((wr.alloc (.map #[] 0)).alloc (.mapIter (some x.heap.size) clock2 #[] clock2)).heap[wr.heap.size + 1]? = some (.mapIter (some x.heap.size) clock2 #[] clock2) := by
            have := heap_alloc_new (wr.alloc (.map #[] 0)) (.mapIter (some x.heap.size) clock2 #[] clock2)
            simpa using this
          have HRNG3 := Lib.hid (Rng.start hr3 hb3)
          have HBE3 : Hid (Below x.heap.size x ((wr.alloc (.map #[] 0)).alloc (.mapIter (some x.heap.size) clock2 #[] clock2))) := HBL2.out.alloc HBL2.out.size _
          have HML3 : Hid (MapIs wr.heap.size [] ((wr.alloc (.map #[] 0)).alloc (.mapIter (some x.heap.size) clock2 #[] clock2))) := HML.out.alloc _
          have HMA3 : Hid (MapIs x.heap.size (encM O) ((wr.alloc (.map #[] 0)).alloc (.mapIter (some x.heap.size) clock2 #[] clock2))) := HMA1.out.alloc _
          have HB3 := Lib.hid hb3
          have hmr3 : x.heap.size ≠ wr.heap.size + 1 := by omega
          have HOO : Hid (Once O) := (HSP.out.pairwise_iff (fun h => h.symm)).2 (srt_putAll HH.out.ok.srt).once
          clear hb3 hr3 HBL2 HML HMA1 HWS HBM2
          generalize ((wr.alloc (.map #[] 0)).alloc (.mapIter (some x.heap.size) clock2 #[] clock2)) = w4 at *
          generalize wr.heap.size = ml at *
          go_loopw [82] (fun _ wr => ∃ (V : List Hv) (LL : List (ByteArray × Value)), Rng x.heap.size (ml + 1) clock2 es2 (encM V) wr ∧ Below x.heap.size x wr ∧ MapIs ml LL wr ∧ Hid (KeysOf (LL.map (·.1)) (V.map (·.loc)))) (fun _ wr => (leftOf es2 (seenOf (ml + 1) wr)).size)
          case atStart => exact ⟨[], [], HRNG3.out, HBE3.out, HML3.out, ⟨by simp, fun k => by simp⟩⟩
          case round =>
            obtain ⟨V, LL, hrng, hbel, hmp, hky⟩ := hrel
            clear HRNG3 HBE3 HML3
            rcases hrng.step (P := Tryz.prog) 0 HBN2.out HBC2.out HK2.out hmr3 with ⟨hperm, hnx⟩ | ⟨y, W, hy, hly, hnx, hen, hr', w3, hw3, hg3⟩
            · rw [HU2.out] at hperm
              have hVO := encM_inj hperm
              have hMO : MapIs x.heap.size (encM O) wr := HMA3.out.of_block (hrng.mb.trans HB3.out.symm)
              have hlnA := fun ty => hMO.run_len (P := Tryz.prog) Tryz.underlying65 ty
              have hlnL := fun ty => hmp.run_len (P := Tryz.prog) Tryz.underlying77 ty
              have hOl : (encM O).length = O.length := by simp [encM]
              rw [hOl] at hlnA
              have hpl : (V.map (·.loc)).Perm ((putAll E l).map (·.loc)) := (hVO.trans HSP.out).map _
              have hcnt : LL.length < O.length ↔ ¬ ((putAll E l).map (·.loc)).Nodup := by
                have h1 := hky.out.lt
                rw [hpl.nodup_iff, List.length_map, List.length_map, hVO.length_eq] at h1
                exact h1
              have hPl : (putAll E l).length = O.length := HSP.out.length_eq.symm
              have HPL := Lib.hid hPl
              have HMO := Lib.hid hMO
              have HBL := Lib.hid hbel
              have hxs3 := hbel.size
              clear hrng hperm hVO hMO hmp hky hOl hpl hPl hbel
              by_cases hnd : ((putAll E l).map (·.loc)).Nodup
              · have hge : ¬ LL.length < O.length := fun hl => hcnt.1 hl hnd
                have hge' : ¬ ((LL.length : Int) < (O.length : Int)) := by omega
                by_cases hbig : 1024 < O.length
                · have hbig' : (1024 : Int) < (O.length : Int) := by omega
                  have HRES : Hid (setI E l = 342) := by
                    show _ = _
                    unfold setI
                    rw [if_neg (by rw [HFB.out]; decide), if_neg (fun hh => hh hnd), if_pos (by rw [HPL.out]; exact hbig)]
                  clear hcnt hnd hge hbig
                  go_wp2_with fail
                  go_ret
                  exact .inl ⟨by rw [HRES.out]; decide, by rw [HRES.out]; rfl, HBL.out⟩
                · have hbig' : (O.length : Int) ≤ 1024 := by omega
                  have hres : setI E l = 0 := by
                    unfold setI
                    rw [if_neg (by rw [HFB.out]; decide), if_neg (fun hh => hh hnd), if_neg (by rw [HPL.out]; exact hbig)]
                  have hx4 : Ext (fun _ => False) g x ⟨fun k => if k = x.heap.size then 0 else g.F k, fun k => if k = x.heap.size then b else g.O k⟩ wr :=
                    (Ext.of_below _ g HBL.out).up (fun k hk => by dsimp only; rw [if_neg (by omega)]) (fun k hk => by dsimp only; rw [if_neg (by omega)])
                  have hch := change_any _ wr b d name ch E (putAll E l) x.heap.size D o0 o1 (HH.out.ext hx4 (fun h => h)) (HD.out.ext hx4 (fun h => h)) HS.out ⟨O, HMO.out, HSP.out⟩ (HH.out.ok.set hres) HNUM.out (by dsimp only; rw [if_pos rfl]) (by dsimp only; rw [if_pos rfl]) hbd
                  have HRES := Lib.hid hres
                  have HCHG := Lib.hid hch
                  have HX4 := Lib.hid hx4
                  clear hcnt hnd hge hbig hres hch hx4
                  go_wp2_with fail
                  refine HCHG.out.mono ?_
                  rintro e w9 ⟨rfl, g9, hx9, hD9, hcs⟩
                  go_wp2_with fail
                  go_ret
                  refine .inr ⟨HRES.out, rfl, g9, (HX4.out.imp (fun _ h => h.elim)).trans (hx9.imp (fun o h => ?_)), hD9, hcs⟩
                  rcases h with h | h | h
                  · exact .inl h
                  · exact .inr (.inl h)
                  · exact .inr (.inr (by omega))
              · have hlt3 := hcnt.2 hnd
                have hlt3' : (LL.length : Int) < (O.length : Int) := by omega
                have HRES : Hid (setI E l = 341) := by
                  show _ = _
                  unfold setI
                  rw [if_neg (by rw [HFB.out]; decide), if_pos hnd]
                clear hcnt hnd hlt3
                go_wp2_with fail
                go_ret
                exact .inl ⟨by rw [HRES.out]; decide, by rw [HRES.out]; rfl, HBL.out⟩
            · rw [HU2.out] at hy
              obtain ⟨⟨a, n, c9⟩, hh, rfl⟩ := encM_mem hy
              rw [encM_snoc] at hr'
              dsimp only [Hv.val] at hnx hen
              have hw3h : w3.heap = wr.heap := by rcases hw3 with rfl | rfl <;> rfl
              have hbw : Below x.heap.size x W := by
                have h1 : Below x.heap.size x w3 := by
                  rcases hw3 with rfl | rfl
                  · exact hbel
                  · exact hbel.drew
                exact h1.grown hg3 (by rw [hw3h]; exact hbel.size) (fun k hk => by injection hk; omega)
              have hmW : MapIs ml LL W := hmp.of_block ((hg3.block ml (by rw [hw3h]; exact hmp.lt) (fun h => by injection h; omega)).trans (by rw [hw3h]))
              have hleft : (leftOf es2 (seenOf (ml + 1) W)).size < (leftOf es2 (seenOf (ml + 1) wr)).size := by
                rw [hr'.left, hrng.left]
                simp only [encM, List.length_map, List.length_append, List.length_cons, List.length_nil] at hly ⊢
                omega
              have HKY := Lib.hid (hky.out.put c9 (.agg #[]))
              have HBW := Lib.hid hbw
              have HRW := Lib.hid hr'
              have HLF := Lib.hid hleft
              have HMW := Lib.hid (hmW.alloc (.cells #[.string a, .int .i64 n, .string c9] 32))
              have hvb : Blk W.heap.size 32 [.string a, .int .i64 n, .string c9] (W.alloc (.cells #[.string a, .int .i64 n, .string c9] 32)) := Blk.new W 32 [.string a, .int .i64 n, .string c9]
              have HB1 := Lib.hid (hbw.alloc hbw.size (.cells #[.string a, .int .i64 n, .string c9] 32))
              have v2 : (W.alloc (.cells #[.string a, .int .i64 n, .string c9] 32)).cell? ⟨W.heap.size, 2, none⟩ = some (.string c9) := hvb.cell 2
              have hWs := hbw.size
              have hrl := hr'.lt
              have hmb := block_lt hr'.mb
              have hml2 := hmW.lt
              clear hrng hbel hmp hky hw3 hg3 hy hw3h hbw hr' hly hh hleft hmW hvb
              go_wp2_with (with_reducible refine wpList_put rfl (.tmp 86) (.tmp 88) (.tmp 89) 77 rfl 9 78 Tryz.underlying77 Tryz.underlying9 ml LL rfl HMW.out c9 rfl (.agg #[]) rfl ?_; intro w6 hm6 hg6)
              go_frame
              go_round
              case rel =>
                have hk6 : ∀ b', b' < W.heap.size → b' ≠ ml → w6.heap[b']? = W.heap[b']? := fun b' h1 h2 =>
                  (hg6.block b' (by simp; omega) (fun h => h2 (by injection h))).trans (Below.heap_alloc W _ b' h1)
                refine ⟨V ++ [⟨a, n, c9⟩], put LL c9 (.agg #[]), HRW.out.of (hk6 _ hrl (by omega)) (hk6 _ hmb (by omega)), HB1.out.grown hg6 HB1.out.size (fun q hq => by injection hq with hq; omega), hm6, ?_⟩
                show KeysOf _ _
                rw [List.map_append]
                exact HKY.out
              case measure =>
                have e2 : seenOf (ml + 1) w6 = seenOf (ml + 1) W := by
                  unfold seenOf
                  rw [(hg6.block (ml + 1) (by simp; omega) (fun h => by injection h; omega)).trans (Below.heap_alloc W _ (ml + 1) hrl)]
                rw [e2]
                exact HLF.out
        · rw [HU.out] at hy
          obtain ⟨⟨a, n, c9⟩, hh, rfl⟩ := encM_mem hy
          rw [encM_snoc] at hr'
          dsimp only [Hv.val] at hnx hen
          have hw3h : w3.heap = wr.heap := by rcases hw3 with rfl | rfl <;> rfl
          have hbw : Below x.heap.size x W := by
            have h1 : Below x.heap.size x w3 := by
              rcases hw3 with rfl | rfl
              · exact hbel
              · exact hbel.drew
            exact h1.grown hg3 (by rw [hw3h]; exact hbel.size) (fun k hk => by injection hk; omega)
          have hmW : MapIs x.heap.size (encM (l ++ restOf l V)) W := hmp.of_block ((hg3.block x.heap.size (by rw [hw3h]; exact hmp.lt) (fun h => by injection h; omega)).trans (by rw [hw3h]))
          have hleft : (leftOf es (seenOf r W)).size < (leftOf es (seenOf r wr)).size := by
            rw [hr'.left, hrng.left]
            simp only [encM, List.length_map, List.length_append, List.length_cons, List.length_nil] at hly ⊢
            omega
          have hon := hr'.once HU.out HLO.out
          have HAR := Lib.hid (any_rest (l := l) hon)
          have HBW := Lib.hid hbw
          have HRW := Lib.hid hr'
          have HLF := Lib.hid hleft
          have HMW := Lib.hid (hmW.alloc (.cells #[.string a, .int .i64 n, .string c9] 32))
          have hWs := hbw.size
          have hrl := hr'.lt
          have hmb := block_lt hr'.mb
          clear hrng hbel hmp hw3 hg3 hy hw3h hbw hr' hly hh hleft hmW hon
          have hvb : Blk W.heap.size 32 [.string a, .int .i64 n, .string c9] (W.alloc (.cells #[.string a, .int .i64 n, .string c9] 32)) := Blk.new W 32 [.string a, .int .i64 n, .string c9]
          have hB1 := HBW.out.alloc HBW.out.size (.cells #[.string a, .int .i64 n, .string c9] 32)
          have HRS := Lib.hid (rest_snoc (l := l) (V := V) ⟨a, n, c9⟩)
          cases ha : anyP l a
          · have HLK := Lib.hid (lookM_none (HAR.out.trans ha))
            have HPU := Lib.hid (putM (h := ⟨a, n, c9⟩) (HAR.out.trans ha))
            have hrs : restOf l (V ++ [⟨a, n, c9⟩]) = restOf l V ++ [⟨a, n, c9⟩] := by
              have := HRS.out
              rw [ha] at this
              exact this
            have HRS2 := Lib.hid hrs
            have HM8 := Lib.hid (HMW.out.alloc (.cells #[.string ⟨#[]⟩, .int .i64 0, .string ⟨#[]⟩] 32))
            have hv8 := hvb.alloc (.cells #[.string ⟨#[]⟩, .int .i64 0, .string ⟨#[]⟩] 32)
            have HB8 := Lib.hid (hB1.alloc (by simp; omega) (.cells #[.string ⟨#[]⟩, .int .i64 0, .string ⟨#[]⟩] 32))
            have v0 : ((W.alloc (.cells #[.string a, .int .i64 n, .string c9] 32)).alloc (.cells #[.string ⟨#[]⟩, .int .i64 0, .string ⟨#[]⟩] 32)).cell? ⟨W.heap.size, 0, none⟩ = some (.string a) := hv8.cell 0
            have v1 : ((W.alloc (.cells #[.string a, .int .i64 n, .string c9] 32)).alloc (.cells #[.string ⟨#[]⟩, .int .i64 0, .string ⟨#[]⟩] 32)).cell? ⟨W.heap.size, 1, none⟩ = some (.int .i64 n) := hv8.cell 1
            have v2 : ((W.alloc (.cells #[.string a, .int .i64 n, .string c9] 32)).alloc (.cells #[.string ⟨#[]⟩, .int .i64 0, .string ⟨#[]⟩] 32)).cell? ⟨W.heap.size, 2, none⟩ = some (.string c9) := hv8.cell 2
            clear ha hrs hvb hv8 HAR HRS hB1
            go_wp2_with (first | (with_reducible refine wpList_look_none rfl (.tmp 67) (.tmp 68) 65 true rfl 9 32 Tryz.underlying65 Tryz.underlying9 x.heap.size (encM (l ++ restOf l V)) rfl HMW.out (.agg #[.string ⟨#[]⟩, .int .i64 0, .string ⟨#[]⟩]) (by kernel_rfl) a rfl HLK.out ?_) | (with_reducible refine wpList_put rfl (.tmp 74) (.tmp 75) (.tmp 76) 65 rfl 9 32 Tryz.underlying65 Tryz.underlying9 x.heap.size (encM (l ++ restOf l V)) rfl HM8.out a rfl (.agg #[.string a, .int .i64 n, .string c9]) rfl ?_; intro w6 hm6 hg6))
            go_round
            case rel =>
              have hk6 : ∀ b', b' < W.heap.size → b' ≠ x.heap.size → w6.heap[b']? = W.heap[b']? := fun b' h1 h2 =>
                (hg6.block b' (by simp; omega) (fun h => h2 (by injection h))).trans ((Below.heap_alloc _ _ b' (by simp; omega)).trans (Below.heap_alloc W _ b' h1))
              refine ⟨V ++ [⟨a, n, c9⟩], HRW.out.of (hk6 r hrl (by omega)) (hk6 m hmb (by omega)), HB8.out.grown hg6 HB8.out.size (fun q hq => by injection hq with hq; omega), ?_⟩
              have e6 : put (encM (l ++ restOf l V)) a (.agg #[.string a, .int .i64 n, .string c9]) = encM (l ++ restOf l (V ++ [⟨a, n, c9⟩])) := by
                rw [HRS2.out, ← List.append_assoc]
                exact HPU.out
              rw [e6] at hm6
              exact hm6
            case measure =>
              have e2 : seenOf r w6 = seenOf r W := by
                unfold seenOf
                rw [(hg6.block r (by simp; omega) (fun h => by injection h; omega)).trans ((Below.heap_alloc _ _ r (by simp; omega)).trans (Below.heap_alloc W _ r hrl))]
              rw [e2]
              exact HLF.out
          · obtain ⟨q, hq⟩ := lookM_some (HAR.out.trans ha)
            have HLK := Lib.hid hq
            have hrs : restOf l (V ++ [⟨a, n, c9⟩]) = restOf l V := by
              have := HRS.out
              rw [ha] at this
              exact this
            have HRS2 := Lib.hid hrs
            have HB1 := Lib.hid hB1
            clear ha hrs hq hvb HAR HRS hB1
            go_wp2_with (with_reducible refine wpList_look_some rfl (.tmp 67) (.tmp 68) 65 true rfl 9 32 Tryz.underlying65 Tryz.underlying9 x.heap.size (encM (l ++ restOf l V)) rfl HMW.out a rfl _ HLK.out ?_)
            go_round
            case rel =>
              have hk6 : ∀ b', b' < W.heap.size → ((W.alloc (.cells #[.string a, .int .i64 n, .string c9] 32)).alloc (.cells #[.string q.path, .int .i64 q.num, .string q.loc] 32)).heap[b']? = W.heap[b']? := fun b' h1 =>
                (Below.heap_alloc _ _ b' (by simp; omega)).trans (Below.heap_alloc W _ b' h1)
              refine ⟨V ++ [⟨a, n, c9⟩], HRW.out.of (hk6 r hrl) (hk6 m hmb), HB1.out.alloc (by simp; omega) _, ?_⟩
              rw [HRS2.out]
              exact HMW.out.alloc _
            case measure =>
              have e2 : seenOf r ((W.alloc (.cells #[.string a, .int .i64 n, .string c9] 32)).alloc (.cells #[.string q.path, .int .i64 q.num, .string q.loc] 32)) = seenOf r W := by
                unfold seenOf
                rw [(Below.heap_alloc _ _ r (by simp; omega)).trans (Below.heap_alloc W _ r hrl)]
              rw [e2]
              exact HLF.out

end Go.Proofs.YtjjdffafibonhaaGreatDoor
