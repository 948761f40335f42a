/-
  An open have-list in memory, and what its readers return.
-/
import Derived.Test.YtjjdffafibonhaaGreatDoorHvD
namespace Go.Proofs.YtjjdffafibonhaaGreatDoor
open Go.RowKit

/-- The entries of a list. -/
structure HvOk (E : List Hv) : Prop where
  srt : Srt E
  ok : ∀ h ∈ E, okH h = true
  locs : (E.map (·.loc)).Nodup
  len : E.length ≤ 1024
theorem HvOk.nil : HvOk [] := ⟨List.Pairwise.nil, (fun h hh => by cases hh), by simp, by simp⟩
def hvCs (d : Nat) (name : ByteArray) (ch : Int) (m : Nat) (dead : Bool) : List Value := [.pointer (some ⟨d, 0, none⟩), .string name, .int .i64 ch, .map (some m), .bool dead]
structure HvAt (g : Gh) (x : World) (b d : Nat) (name : ByteArray) (ch : Int) (E : List Hv) (dead : Bool) : Prop where
  ex : ∃ m, Blk b 67 (hvCs d name ch m dead) x ∧ HvMap m E x ∧ g.O m = b ∧ g.F m = 0
  O : g.O b = b
  F : g.F b = 0
  ok : HvOk E
theorem HvAt.lt {g : Gh} {x : World} {b d : Nat} {name : ByteArray} {ch : Int} {E : List Hv} {dead : Bool} (h : HvAt g x b d name ch E dead) : b < x.heap.size := by
  obtain ⟨m, hb, _⟩ := h.ex
  exact hb.lt
theorem HvAt.ext {g g' : Gh} {x x' : World} {b d : Nat} {name : ByteArray} {ch : Int} {E : List Hv} {dead : Bool} {M : Nat → Prop} (h : HvAt g x b d name ch E dead) (hx : Ext M g x g' x') (hm : ¬ M b) : HvAt g' x' b d name ch E dead := by
  obtain ⟨m, hb, hmp, hO, hF⟩ := h.ex
  exact ⟨⟨m, hb.ext hx (by rw [h.O]; exact hm), hmp.of (hx.keep m hmp.lt (by rw [hO]; exact hm)).1, (hx.own _ hmp.lt).trans hO, hx.zero _ hmp.lt hF⟩, (hx.own _ hb.lt).trans h.O, hx.zero _ hb.lt h.F, h.ok⟩

def getH (E : List Hv) (p : ByteArray) : Option Hv := E.find? fun h => h.path == p
def atH (E : List Hv) (p : ByteArray) : Option Hv := E.find? fun h => h.loc == p
def valO : Option Hv → Value
  | some h => h.val
  | none => .agg #[.string ⟨#[]⟩, .int .i64 0, .string ⟨#[]⟩]
theorem getH_none {E : List Hv} {p : ByteArray} : getH E p = none ↔ ∀ h ∈ E, h.path ≠ p := by
  unfold getH
  rw [List.find?_eq_none]
  exact ⟨fun h q hq e => h q hq ((ba_beq _ _).2 e), fun h q hq e => h q hq ((ba_beq _ _).1 e)⟩
theorem getH_some {E : List Hv} {p : ByteArray} {h : Hv} (hE : getH E p = some h) : h ∈ E ∧ h.path = p := by
  unfold getH at hE
  have h2 := List.find?_some hE
  exact ⟨List.mem_of_find?_eq_some hE, (ba_beq _ _).1 h2⟩
theorem getH_of {E : List Hv} (hE : Srt E) {h : Hv} (hh : h ∈ E) : getH E h.path = some h := by
  cases e : getH E h.path with
  | none => exact absurd rfl (getH_none.1 e h hh)
  | some q =>
    obtain ⟨h1, h2⟩ := getH_some e
    rw [hE.inj h1 hh h2]
theorem look_encM {L E : List Hv} (hp : L.Perm E) (hE : Srt E) (p : ByteArray) : look (encM L) p = (getH E p).map Hv.val := by
  cases e : getH E p with
  | none =>
    have h1 := getH_none.1 e
    unfold look encM
    rw [List.find?_map, Option.map_map]
    have : L.find? ((fun x : ByteArray × Value => p == x.1) ∘ fun h => (h.path, h.val)) = none := by
      rw [List.find?_eq_none]
      intro x hx hk
      exact h1 x (hp.mem_iff.1 hx) ((ba_beq _ _).1 hk).symm
    rw [this]
    rfl
  | some h =>
    obtain ⟨h1, h2⟩ := getH_some e
    unfold look encM
    rw [List.find?_map, Option.map_map]
    have : ∃ y, L.find? ((fun x : ByteArray × Value => p == x.1) ∘ fun h => (h.path, h.val)) = some y := by
      rw [← Option.isSome_iff_exists, List.find?_isSome]
      exact ⟨h, hp.mem_iff.2 h1, (ba_beq _ _).2 h2.symm⟩
    obtain ⟨y, hy⟩ := this
    have h3 := hp.mem_iff.1 (List.mem_of_find?_eq_some hy)
    have h6 := List.find?_some hy
    have h4 : p = y.path := (ba_beq _ _).1 h6
    have h5 : y = h := hE.inj h3 h1 (h4.symm.trans h2.symm)
    rw [hy, h5]
    rfl
theorem atH_of {E : List Hv} (hn : (E.map (·.loc)).Nodup) {h : Hv} (hh : h ∈ E) : atH E h.loc = some h := by
  induction E with
  | nil => cases hh
  | cons a t ih =>
    rw [List.map_cons, List.nodup_cons] at hn
    unfold atH
    rcases List.mem_cons.1 hh with e | hh
    · subst e
      rw [List.find?_cons_of_pos]
      exact ba_self _
    · have : ¬ (a.loc == h.loc) = true := fun e => hn.1 (List.mem_map.2 ⟨h, hh, ((ba_beq _ _).1 e).symm⟩)
      rw [List.find?_cons_of_neg]
      · exact ih hn.2 hh
      · exact this
theorem atH_none {E : List Hv} {p : ByteArray} : atH E p = none ↔ ∀ h ∈ E, h.loc ≠ p := by
  unfold atH
  rw [List.find?_eq_none]
  exact ⟨fun h q hq e => h q hq ((ba_beq _ _).2 e), fun h q hq e => h q hq ((ba_beq _ _).1 e)⟩

section
variable {g : Gh} {x : World} {b d : Nat} {name : ByteArray} {ch : Int} {E : List Hv} {dead : Bool} (h : HvAt g x b d name ch E dead)
include h
set_option maxRecDepth 100000 in
set_option maxHeartbeats 400000 in
theorem hdead_any : Calls Tryz.prog 34 #[.pointer (some ⟨b, 0, none⟩)] x fun e x' => e = .returned (.bool dead) ∧ x = x' := by
  obtain ⟨m, hb, _⟩ := h.ex
  have c4 : x.cell? ⟨b, 4, none⟩ = some (.bool dead) := hb.cell 4
  clear hb
  go_enter Tryz.func34, Tryz.ntmps34
  go_wp2_with fail
  go_ret
  exact ⟨rfl, rfl⟩
set_option maxRecDepth 100000 in
set_option maxHeartbeats 400000 in
theorem hall_any : Calls Tryz.prog 17 #[.pointer (some ⟨b, 0, none⟩)] x fun e x' => e = .returned (.slice (some ⟨x.heap.size, 0, none⟩) E.length E.length) ∧ Below x.heap.size x x' ∧ HvRow x.heap.size E x' := by
  obtain ⟨m, hb, hmp, _⟩ := h.ex
  have c3 : x.cell? ⟨b, 3, none⟩ = some (.map (some m)) := hb.cell 3
  have hs := hsorted_any m E x hmp h.ok.srt h.ok.ok (by have := h.ok.len; omega)
  have HS := Lib.hid hs
  clear hb hmp hs
  go_enter Tryz.func17, Tryz.ntmps17
  go_wp2_with fail
  refine HS.out.mono ?_
  rintro e x' ⟨rfl, h1, h2⟩
  go_wp2_with fail
  go_ret
  exact ⟨rfl, h1, h2⟩
set_option maxRecDepth 100000 in
set_option maxHeartbeats 800000 in
theorem hget_any (p : ByteArray) : Calls Tryz.prog 28 #[.pointer (some ⟨b, 0, none⟩), .string p] x fun e x' => e = .returned (.tuple #[valO (getH E p), .bool (getH E p).isSome]) ∧ Below x.heap.size x x' := by
  obtain ⟨m, hb, ⟨L, hL, hp⟩, _⟩ := h.ex
  have hl := look_encM hp h.ok.srt p
  have c3 : (x.alloc (.cells #[.string ⟨#[]⟩, .int .i64 0, .string ⟨#[]⟩] 32)).cell? ⟨b, 3, none⟩ = some (.map (some m)) := (hb.alloc _).cell 3
  have HM := Lib.hid (hL.alloc (.cells #[.string ⟨#[]⟩, .int .i64 0, .string ⟨#[]⟩] 32))
  have hlt := hb.lt
  clear hb hL
  cases hg : getH E p with
  | none =>
    rw [hg, Option.map_none] at hl
    have HLK := Lib.hid hl
    clear hl hg
    go_enter Tryz.func28, Tryz.ntmps28
    go_wp2_with (with_reducible refine wpList_look_none rfl (.tmp 12) (.tmp 13) 65 true rfl 9 32 Tryz.underlying65 Tryz.underlying9 m (encM L) rfl HM.out (.agg #[.string ⟨#[]⟩, .int .i64 0, .string ⟨#[]⟩]) (by kernel_rfl) p rfl HLK.out ?_)
    have hbk : Blk x.heap.size 32 [.string ⟨#[]⟩, .int .i64 0, .string ⟨#[]⟩] ((x.alloc (.cells #[.string ⟨#[]⟩, .int .i64 0, .string ⟨#[]⟩] 32)).alloc (.cells #[.string ⟨#[]⟩, .int .i64 0, .string ⟨#[]⟩] 32)) := (Blk.new x 32 [.string ⟨#[]⟩, .int .i64 0, .string ⟨#[]⟩]).alloc _
    have k0 := hbk.cell 0
    have k1 := hbk.cell 1
    have k2 := hbk.cell 2
    dsimp only [List.getElem?_cons_zero, List.getElem?_cons_succ] at k0 k1 k2
    refine bodyPost_ret (v := .tuple #[.agg #[.string ⟨#[]⟩, .int .i64 0, .string ⟨#[]⟩], .bool false]) (by simp [results, Tryz.results28, go_sem, k0, k1, k2]) rfl ⟨rfl, ?_⟩
    exact ((Below.refl _ _).alloc (Nat.le_refl _) _).alloc (by simp) _
  | some h2 =>
    rw [hg] at hl
    have HLK := Lib.hid hl
    clear hl hg
    obtain ⟨pa, n, lo⟩ := h2
    simp only [Option.map_some, Hv.val] at HLK
    go_enter Tryz.func28, Tryz.ntmps28
    go_wp2_with (with_reducible refine wpList_look_some rfl (.tmp 12) (.tmp 13) 65 true rfl 9 32 Tryz.underlying65 Tryz.underlying9 m (encM L) rfl HM.out p rfl _ HLK.out ?_)
    have hbk : Blk x.heap.size 32 [.string pa, .int .i64 n, .string lo] ((x.alloc (.cells #[.string pa, .int .i64 n, .string lo] 32)).alloc (.cells #[.string pa, .int .i64 n, .string lo] 32)) := (Blk.new x 32 [.string pa, .int .i64 n, .string lo]).alloc _
    have k0 := hbk.cell 0
    have k1 := hbk.cell 1
    have k2 := hbk.cell 2
    dsimp only [List.getElem?_cons_zero, List.getElem?_cons_succ] at k0 k1 k2
    refine bodyPost_ret (v := .tuple #[.agg #[.string pa, .int .i64 n, .string lo], .bool true]) (by simp [results, Tryz.results28, go_sem, k0, k1, k2]) rfl ⟨rfl, ?_⟩
    exact ((Below.refl _ _).alloc (Nat.le_refl _) _).alloc (by simp) _
set_option maxRecDepth 100000 in
set_option maxHeartbeats 1600000 in
theorem hat_any (lo : ByteArray) : Calls Tryz.prog 30 #[.pointer (some ⟨b, 0, none⟩), .string lo] x fun e x' => e = .returned (.tuple #[valO (atH E lo), .bool (atH E lo).isSome]) ∧ Below x.heap.size x x' := by
  obtain ⟨m, hb, ⟨L, hL, hp⟩, _⟩ := h.ex
  have hmlt := hL.lt
  have hblt := hb.lt
  have hW1 : Below x.heap.size x (x.alloc (.cells #[.string ⟨#[]⟩, .int .i64 0, .string ⟨#[]⟩] 32)) := (Below.refl _ _).alloc (Nat.le_refl _) _
  have c3 : (x.alloc (.cells #[.string ⟨#[]⟩, .int .i64 0, .string ⟨#[]⟩] 32)).cell? ⟨b, 3, none⟩ = some (.map (some m)) := (hb.alloc _).cell 3
  have hL1 := hL.alloc (.cells #[.string ⟨#[]⟩, .int .i64 0, .string ⟨#[]⟩] 32)
  obtain ⟨es, clock, hbm, he, hbn, hbc, hkn⟩ := hL1
  have hu := unk_list he
  have hk := unk_key he
  have hrg := run_range_map (P := Tryz.prog) (x.alloc (.cells #[.string ⟨#[]⟩, .int .i64 0, .string ⟨#[]⟩] 32)) 65 9 32 m es clock Tryz.underlying65 hbm
  have HBN := Lib.hid hbn
  have HBC := Lib.hid hbc
  have HK := Lib.hid hk
  have HU := Lib.hid hu
  have HP := Lib.hid hp
  have HB1 := Lib.hid hbm
  have HOK := Lib.hid h.ok
  have HW1 := Lib.hid hW1
  have HRB : Hid (Blk x.heap.size 32 [.string ⟨#[]⟩, .int .i64 0, .string ⟨#[]⟩] (x.alloc (.cells #[.string ⟨#[]⟩, .int .i64 0, .string ⟨#[]⟩] 32))) := Blk.new x 32 [.string ⟨#[]⟩, .int .i64 0, .string ⟨#[]⟩]
  clear he hbn hbc hkn hk hu hp hbm hb hL hW1
  go_enter Tryz.func30, Tryz.ntmps30
  go_wp2_with fail
  have hb2 : ((x.alloc (.cells #[.string ⟨#[]⟩, .int .i64 0, .string ⟨#[]⟩] 32)).alloc (.mapIter (some m) clock #[] clock)).heap[m]? = some (.map es clock) := (Below.heap_alloc _ _ m (by simp; omega)).trans HB1.out
  have hr2 : ((x.alloc (.cells #[.string ⟨#[]⟩, .int .i64 0, .string ⟨#[]⟩] 32)).alloc (.mapIter (some m) clock #[] clock)).heap[x.heap.size + 1]? = some (.mapIter (some m) clock #[] clock) := by
    have := heap_alloc_new (x.alloc (.cells #[.string ⟨#[]⟩, .int .i64 0, .string ⟨#[]⟩] 32)) (.mapIter (some m) clock #[] clock)
    simpa using this
  have HRNG := Lib.hid (Rng.start hr2 hb2)
  have HBEL : Hid (Below x.heap.size x ((x.alloc (.cells #[.string ⟨#[]⟩, .int .i64 0, .string ⟨#[]⟩] 32)).alloc (.mapIter (some m) clock #[] clock))) := HW1.out.alloc HW1.out.size _
  have HRB2 : Hid (Blk x.heap.size 32 [.string ⟨#[]⟩, .int .i64 0, .string ⟨#[]⟩] ((x.alloc (.cells #[.string ⟨#[]⟩, .int .i64 0, .string ⟨#[]⟩] 32)).alloc (.mapIter (some m) clock #[] clock))) := HRB.out.alloc _
  have hmr : m ≠ x.heap.size + 1 := by omega
  clear hb2 hr2 hrg HW1 HRB c3
  generalize (x.alloc (.cells #[.string ⟨#[]⟩, .int .i64 0, .string ⟨#[]⟩] 32)).alloc (.mapIter (some m) clock #[] clock) = w2 at *
  go_loopw [13] (fun _ wr => ∃ V : List Hv, Rng m (x.heap.size + 1) clock es (encM V) wr ∧ Below x.heap.size x wr ∧ Blk x.heap.size 32 [.string ⟨#[]⟩, .int .i64 0, .string ⟨#[]⟩] wr ∧ Hid (∀ q ∈ V, q.loc ≠ lo)) (fun _ wr => (leftOf es (seenOf (x.heap.size + 1) wr)).size)
  case atStart => exact ⟨[], HRNG.out, HBEL.out, HRB2.out, fun q hq => by cases hq⟩
  case round =>
    obtain ⟨V, hrng, hbel, hrb, hno⟩ := hrel
    clear HRNG HBEL HRB2
    rcases hrng.step (P := Tryz.prog) 0 HBN.out HBC.out HK.out hmr with ⟨hperm, hnx⟩ | ⟨y, W, hy, hlt, hnx, hen, hr', w3, hw3, hg3⟩
    · rw [HU.out] at hperm
      have hVP := (encM_inj hperm).trans HP.out
      have hnone : atH E lo = none := atH_none.2 (fun q hq => hno.out q (hVP.mem_iff.2 hq))
      have HNO := Lib.hid hnone
      have HBL := Lib.hid hbel
      have k0 : wr.cell? ⟨x.heap.size, 0, none⟩ = some (.string ⟨#[]⟩) := hrb.cell 0
      have k1 : wr.cell? ⟨x.heap.size, 1, none⟩ = some (.int .i64 0) := hrb.cell 1
      have k2 : wr.cell? ⟨x.heap.size, 2, none⟩ = some (.string ⟨#[]⟩) := hrb.cell 2
      have z := hrb.fz
      clear hrng hbel hVP hperm hnone
      have hrb2 : Blk x.heap.size 32 [.string ⟨#[]⟩, .int .i64 0, .string ⟨#[]⟩] (((wr.setCell ⟨x.heap.size, 0, none⟩ (.string ⟨#[]⟩)).setCell ⟨x.heap.size, 1, none⟩ (.int .i64 0)).setCell ⟨x.heap.size, 2, none⟩ (.string ⟨#[]⟩)) := by
        have := ((hrb.set 0 (.string ⟨#[]⟩)).set 1 (.int .i64 0)).set 2 (.string ⟨#[]⟩)
        simpa using this
      have q0 := hrb2.cell 0
      have q1 := hrb2.cell 1
      have q2 := hrb2.cell 2
      dsimp only [List.getElem?_cons_zero, List.getElem?_cons_succ] at q0 q1 q2
      have HQ := Lib.hid (And.intro q0 (And.intro q1 q2))
      clear q0 q1 q2 hrb2 hrb
      go_wp2_with fail
      obtain ⟨q0, q1, q2⟩ := HQ.out
      rw [HNO.out]
      refine bodyPost_ret (v := .tuple #[.agg #[.string ⟨#[]⟩, .int .i64 0, .string ⟨#[]⟩], .bool false]) (by simp only [results, Tryz.results30]; simp [go_sem, q0, q1, q2]) rfl ⟨rfl, ?_⟩
      exact ((HBL.out.setCell (p := ⟨x.heap.size, 0, none⟩) (Nat.le_refl _) _).setCell (p := ⟨x.heap.size, 1, none⟩) (Nat.le_refl _) _).setCell (p := ⟨x.heap.size, 2, none⟩) (Nat.le_refl _) _
    · rw [HU.out] at hy
      obtain ⟨⟨a, n, c⟩, hh, rfl⟩ := encM_mem hy
      rw [encM_snoc] at hr'
      dsimp only [Hv.val] at hnx hen
      have hw3h : w3.heap = wr.heap := by rcases hw3 with rfl | rfl <;> rfl
      have hbw : Below x.heap.size x W := by
        have h1 : Below x.heap.size x w3 := by
          rcases hw3 with rfl | rfl
          · exact hbel
          · exact hbel.drew
        exact h1.grown hg3 (by rw [hw3h]; exact hbel.size) (fun k hk => by injection hk; omega)
      have hrbW : Blk x.heap.size 32 [.string ⟨#[]⟩, .int .i64 0, .string ⟨#[]⟩] W := by
        have h1 : Blk x.heap.size 32 [.string ⟨#[]⟩, .int .i64 0, .string ⟨#[]⟩] w3 := hrb.of (by rw [hw3h])
        exact h1.of (hg3.block x.heap.size (by rw [hw3h]; exact hrb.lt) (fun h => by injection h; omega))
      have hleft : (leftOf es (seenOf (x.heap.size + 1) W)).size < (leftOf es (seenOf (x.heap.size + 1) wr)).size := by
        rw [hr'.left, hrng.left]
        simp only [encM, List.length_map, List.length_append, List.length_cons, List.length_nil] at hlt ⊢
        omega
      have hmem : (⟨a, n, c⟩ : Hv) ∈ E := HP.out.mem_iff.1 hh
      have HBW := Lib.hid hbw
      have HRW := Lib.hid hr'
      have HLF := Lib.hid hleft
      have HRBW := Lib.hid hrbW
      have HWS := hbw.size
      have hrl := hr'.lt
      clear hrng hbel hrb hw3 hg3 hy hw3h hbw hr' hlt hh hleft hrbW
      by_cases hc : c = lo
      · subst hc
        have e1 : (c.toList == c.toList) = true := by simp
        have hat : atH E c = some ⟨a, n, c⟩ := atH_of HOK.out.locs hmem
        have HAT := Lib.hid hat
        clear hat
        have hx7 := HRBW.out.alloc (.cells #[.string a, .int .i64 n, .string c] 32)
        have k0 : (W.alloc (.cells #[.string a, .int .i64 n, .string c] 32)).cell? ⟨x.heap.size, 0, none⟩ = some (.string ⟨#[]⟩) := hx7.cell 0
        have k1 : (W.alloc (.cells #[.string a, .int .i64 n, .string c] 32)).cell? ⟨x.heap.size, 1, none⟩ = some (.int .i64 0) := hx7.cell 1
        have k2 : (W.alloc (.cells #[.string a, .int .i64 n, .string c] 32)).cell? ⟨x.heap.size, 2, none⟩ = some (.string ⟨#[]⟩) := hx7.cell 2
        have z := hx7.fz
        have hrb2 : Blk x.heap.size 32 [.string a, .int .i64 n, .string c] ((((W.alloc (.cells #[.string a, .int .i64 n, .string c] 32)).setCell ⟨x.heap.size, 0, none⟩ (.string a)).setCell ⟨x.heap.size, 1, none⟩ (.int .i64 n)).setCell ⟨x.heap.size, 2, none⟩ (.string c)) := by
          have := ((hx7.set 0 (.string a)).set 1 (.int .i64 n)).set 2 (.string c)
          simpa using this
        have q0 := hrb2.cell 0
        have q1 := hrb2.cell 1
        have q2 := hrb2.cell 2
        dsimp only [List.getElem?_cons_zero, List.getElem?_cons_succ] at q0 q1 q2
        have HQ := Lib.hid (And.intro q0 (And.intro q1 q2))
        have HBX := Lib.hid (HBW.out.alloc HBW.out.size (.cells #[.string a, .int .i64 n, .string c] 32))
        have hne : x.heap.size ≠ W.heap.size := by have := HRBW.out.lt; omega
        clear q0 q1 q2 hrb2 hx7 HRW HLF
        go_wp2_with fail
        obtain ⟨q0, q1, q2⟩ := HQ.out
        rw [HAT.out]
        refine bodyPost_ret (v := .tuple #[.agg #[.string a, .int .i64 n, .string c], .bool true]) (by simp only [results, Tryz.results30]; simp [go_sem, q0, q1, q2]) rfl ⟨rfl, ?_⟩
        exact ((HBX.out.setCell (p := ⟨x.heap.size, 0, none⟩) (Nat.le_refl _) _).setCell (p := ⟨x.heap.size, 1, none⟩) (Nat.le_refl _) _).setCell (p := ⟨x.heap.size, 2, none⟩) (Nat.le_refl _) _
      · have e1 : (c.toList == lo.toList) = false := by
          rw [beq_eq_false_iff_ne]
          intro e
          exact hc (ba_data (by rw [← toList_eq, ← toList_eq]; exact e))
        go_wp2_with fail
        go_round
        case rel =>
          have hmb := block_lt HRW.out.mb
          refine ⟨V ++ [⟨a, n, c⟩], HRW.out.of (Below.heap_alloc W _ _ hrl) (Below.heap_alloc W _ _ hmb), HBW.out.alloc HBW.out.size _, HRBW.out.alloc _, fun q hq => ?_⟩
          rcases List.mem_append.1 hq with hq | hq
          · exact hno.out q hq
          · rw [List.mem_singleton] at hq
            subst hq
            exact hc
        case measure =>
          have e2 : seenOf (x.heap.size + 1) (W.alloc (.cells #[.string a, .int .i64 n, .string c] 32)) = seenOf (x.heap.size + 1) W := by
            unfold seenOf
            rw [Below.heap_alloc W _ _ hrl]
          rw [e2]
          exact HLF.out
end

end Go.Proofs.YtjjdffafibonhaaGreatDoor
