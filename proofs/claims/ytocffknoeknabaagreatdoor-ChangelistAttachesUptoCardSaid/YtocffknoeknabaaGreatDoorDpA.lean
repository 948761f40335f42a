/-
  The walk of the reference's Append.
-/
import Derived.Test.YtocffknoeknabaaGreatDoorCgG
import Derived.Test.YtocffknoeknabaaGreatDoorCgE
namespace Go.Proofs.YtocffknoeknabaaGreatDoor
open Go.RowKit

theorem Tryz.infoRec : (Tryz.prog.info? 55).map (fun i => (i.zero, i.size, i.bytes)) = some (some zeroRcd.val, 6, 64) := by kernel_rfl

/-- What Append returns: an error, or the depot with one more change. -/
def AppRet (d : Dep) (c : Chg) (w : World) (e : Ending) (w' : World) : Prop :=
  ∃ (n : Int) (A B : Option Addr) (la ca lb cb : Nat), e = .returned (.tuple #[.agg #[.slice A la ca, .slice B lb cb], .int .i64 n]) ∧ Below w.heap.size w w' ∧
    (n = 0 → ChkOk d.revs d.recs.length c ∧ (∀ x ∈ sortR (d.recs ++ c.recs), x ∈ d.recs ++ c.recs) ∧ (sortR (d.recs ++ c.recs)).length = (d.recs ++ c.recs).length ∧
      la = (appD d c).revs.length ∧ lb = (appD d c).recs.length ∧ revK.In A (appD d c).revs w' ∧ rcdK.In B (appD d c).recs w' ∧ (∀ b off, A = some ⟨b, off, none⟩ → w.heap.size ≤ b) ∧ ∀ b off, B = some ⟨b, off, none⟩ → w.heap.size ≤ b)

theorem Bs.grown : ∀ {L : List (Nat × TypeId × List Value)} {w w' : World} {row : Option Nat}, Bs L w → w.grownBy w' row → (∀ x ∈ L, row ≠ some x.1) → Bs L w'
  | [], _, _, _, _, _, _ => trivial
  | x :: L, _, _, _, h, hg, hne => ⟨h.1.grown hg (hne x (by simp)), h.2.grown hg (fun y hy => hne y (by simp [hy]))⟩
theorem Bs.far : ∀ {L : List (Nat × TypeId × List Value)} {w : World} {p : Addr}, Bs L w → (∀ x ∈ L, x.1 ≠ p.block) → ∀ v, Bs L (w.setCell p v)
  | [], _, _, _, _, _ => trivial
  | x :: L, _, _, h, hne, v => ⟨h.1.far (hne x (by simp)) v, h.2.far (fun y hy => hne y (by simp [hy])) v⟩
theorem Bs.drew {L : List (Nat × TypeId × List Value)} {w : World} (h : Bs L w) : Bs L w.drew := h.below (Below.refl _ _).drew

theorem ownsRow_slice {w : World} {base size n : Nat} {e : TypeId} {v : Value} {xs : List Value} (h : w.ownsRow base e size v n xs) : ∃ A c, v = .slice A n c := by
  rcases ownsRow_cases h with ⟨rfl, rfl⟩ | ⟨g, cp, rfl, _⟩
  · exact ⟨_, _, rfl⟩
  · exact ⟨_, _, rfl⟩

theorem grown_setC (w : World) (p : Addr) (u : Value) : w.grownBy (w.setCell p u) (some p.block) := ⟨rfl, rfl, rfl, by simp [World.setCell], fun k _ hk => Below.heap_setCell _ _ _ _ (fun e => hk (by rw [e]))⟩
theorem ownsRow_set {w : World} {base size n : Nat} {e : TypeId} {v : Value} {xs : List Value} (h : w.ownsRow base e size v n xs) {p : Addr} (hp : p.block < base) (u : Value) : (w.setCell p u).ownsRow base e size v n xs :=
  h.kept (grown_setC w p u) (.inr fun e => by have := (h.lt _ e).1; omega)
theorem own_ne {w : World} {base size n b : Nat} {e : TypeId} {v : Value} {xs : List Value} (h : w.ownsRow base e size v n xs) (hb : b < base) : v.ownBlock ≠ some b := fun e => by
  have := (h.lt _ e).1
  omega
theorem RowK.In.setC {α : Type} {R : RowK α} {A : Option Addr} {l : List α} {w : World} (h : R.In A l w) {p : Addr} (hp : ∀ b off, A = some ⟨b, off, none⟩ → b ≠ p.block) (v : Value) : R.In A l (w.setCell p v) := fun hl => by
  obtain ⟨b, off, e, h1, h2⟩ := h hl
  exact ⟨b, off, e, by simpa [World.setCell] using h1, h2.of_block (Below.heap_setCell _ _ _ _ (hp b off e))⟩
def AppS (tb eb gb : Nat) (D X C : List Value) (y : World) : Prop := Bs [(tb, 37, D), (eb, 44, X), (gb, 52, C)] y

set_option maxRecDepth 100000 in
set_option maxHeartbeats 6400000 in
theorem rappend_any (d : Dep) (A B : Option Addr) (ca cb : Nat) (c : Chg) (E R : Option Addr) (ec rc : Nat) (w : World)
    (hA : revK.In A d.revs w) (hB : rcdK.In B d.recs w) (hok : DepOk d) (hE : edtK.In E c.edits w) (hR : rcdK.In R c.recs w) (hz : c.edits.length ≤ 9000000000000000000) (hzr : c.recs.length ≤ 9000000000000000000)
    (hse : ∀ y ∈ c.edits, y.path.size < 4294967281 ∧ y.src.size < 4294967281) (hsr : ∀ y ∈ c.recs, y.src.size < 4294967281 ∧ y.dst.size < 4294967281) (hg : G0 w) :
    Calls Tryz.prog 23 #[.agg #[.slice A d.revs.length ca, .slice B d.recs.length cb], chgV c E ec R rc] w (AppRet d c w) := by
  have HI := Lib.hid hA
  have HIB := Lib.hid hB
  have HIE := Lib.hid hE
  have HIR := Lib.hid hR
  have HG := Lib.hid hg
  have HSR := Lib.hid hsr
  have HOK := Lib.hid hok
  have hfew := hok.few
  have hfewr := hok.fewr
  clear hA hB hE hR hg hsr hok
  have HCK := Lib.hid (fun w a b c' d' => rcheck_any d.revs A B ca d.recs.length cb c E R ec rc w a (by omega) (by omega) HOK.out.okR b c' hz hzr hse HSR.out d')
  have HMD := Lib.hid (fun x w => rmade_any c x E R ec rc w)
  clear hse
  obtain ⟨i0, hi0, hz0, hz1, hz2⟩ := info_parts Tryz.infoRev
  obtain ⟨j0, hj0, hy0, hy1, hy2⟩ := info_parts Tryz.infoRec
  unfold chgV at HCK HMD ⊢
  go_enter Tryz.func23, Tryz.ntmps23
  go_upto_region 1 with fail
  generalize hw1 : World.alloc _ (.cells #[.slice none 0 0, .slice none 0 0] 37) = w1
  have HM1 : Hid (Bs [(w.heap.size + 1 + 1, 37, [.slice none 0 0, .slice none 0 0]), (w.heap.size + 1, 52, [.int .i64 c.num, .string c.client, .string c.text, .slice E c.edits.length ec, .slice R c.recs.length rc]), (w.heap.size, 37, [.slice A d.revs.length ca, .slice B d.recs.length cb])] w1) := by
    show Bs _ _
    rw [← hw1]
    refine ⟨Blk.new2 _ _ _ _ _, ?_, ?_, trivial⟩
    · (repeat (first | (with_reducible exact Blk.new1 _ _ _ _) | (with_reducible refine Blk.alloc ?_ _) | (with_reducible refine Blk.drew ?_) | (with_reducible refine Blk.far ?_ ?_ _; rotate_left; focus (dsimp only; omega))))
    · (repeat (first | (with_reducible exact Blk.new _ _ _) | (with_reducible refine Blk.alloc ?_ _) | (with_reducible refine Blk.drew ?_) | (with_reducible refine Blk.far ?_ ?_ _; rotate_left; focus (dsimp only; omega))))
  have HB1 : Hid (Below w.heap.size w w1) := by
    show Below _ _ _
    rw [← hw1]
    (repeat (first | (with_reducible exact Below.refl _ _) | (with_reducible assumption) | (with_reducible refine Below.setCell ?_ ?_ _; rotate_left; focus (first | exact Nat.le_refl _ | (dsimp only; omega))) | (with_reducible refine Below.drew ?_) | (with_reducible refine below_drewN ?_ _) | (with_reducible refine Below.alloc ?_ ?_ _; rotate_left; focus (first | exact Nat.le_refl _ | (simp; done) | (simp; omega)))))
  clear hw1
  obtain ⟨g0, g1, g2, g3, g4⟩ := HM1.out.2.1.c5
  obtain ⟨d0, d1⟩ := HM1.out.2.2.1.c2
  have lg := HM1.out.2.1.lt
  have ld := HM1.out.2.2.1.lt
  go_wp2_with fail
  refine (HCK.out _ (HI.out.below HB1.out) (HIE.out.below HB1.out) (HIR.out.below HB1.out) (HG.out.below HB1.out)).mono ?_
  rintro e w2 ⟨n, rfl, hchk, hb2⟩
  have HCH := Lib.hid hchk
  have HM2 := Lib.hid (HM1.out.below hb2)
  have HB2 := Lib.hid (HB1.out.trans (hb2.mono HB1.out.size))
  clear hchk hb2 HM1 HB1 g0 g1 g2 g3 g4 d0 d1 lg ld
  by_cases h0 : n = 0
  case neg =>
    have hlb := HM2.out.1.lt
    obtain ⟨z0, z1⟩ := HM2.out.1.c2
    have f0 := HM2.out.1.fz 0
    have f1 := HM2.out.1.fz 1
    go_wp2_with fail
    refine bodyPost_ret (v := .tuple #[.agg #[.slice none 0 0, .slice none 0 0], .int .i64 n]) (by simp [results, Tryz.results23, go_sem, z0, z1]) rfl ?_
    refine ⟨n, none, none, 0, 0, 0, 0, rfl, ?_, fun h => absurd h h0⟩
    exact (HB2.out.setCell (by dsimp only; omega) _).setCell (by dsimp only; omega) _
  subst h0
  have HCH2 : Hid (ChkOk d.revs d.recs.length c) := HCH.out (by first | rfl | trivial)
  clear HCH
  go_upto_region 5 with fail
  have hts : w.heap.size + 1 + 1 < w2.heap.size := HM2.out.1.lt
  generalize hw3 : World.alloc w2 (.cells #[.slice none 0 0, .slice none 0 0] 37) = w3
  have HM3 : Hid (Bs [(w2.heap.size, 37, [.slice none 0 0, .slice none 0 0]), (w.heap.size + 1 + 1, 37, [.slice none 0 0, .slice none 0 0]), (w.heap.size + 1, 52, [.int .i64 c.num, .string c.client, .string c.text, .slice E c.edits.length ec, .slice R c.recs.length rc]), (w.heap.size, 37, [.slice A d.revs.length ca, .slice B d.recs.length cb])] w3) := by
    show Bs _ _
    rw [← hw3]
    exact Bs.cons (Blk.new _ _ _) (HM2.out.alloc _)
  have HB3 : Hid (Below w.heap.size w w3) := by
    show Below _ _ _
    rw [← hw3]
    exact HB2.out.alloc HB2.out.size _
  have hs3 : w2.heap.size + 1 ≤ w3.heap.size := by rw [← hw3]; simp
  clear hw3 HM2 HB2
  generalize w2.heap.size = tb at *
  obtain ⟨t0, t1⟩ := HM3.out.1.c2
  obtain ⟨d0, d1⟩ := HM3.out.2.2.2.1.c2
  have lt := HM3.out.1.lt
  have ld := HM3.out.2.2.2.1.lt
  have HN := Lib.hid (HI.out.below HB3.out).news
  go_upto_region 6 with (at_builtin; go_loud (refine wpList_append_any rfl _ _ 34 rfl (tb + 1) 74 i0 zeroRev.val 12 96 Tryz.underlying34 hi0 hz0 hz1 hz2 rfl (by decide) (.slice none 0 0) 0 [] rfl (World.ownsRow_nil _ _ _ _) A d.revs.length ca (revK.flat d.revs) rfl (revK.flat_len _) HN.out (revK.flat_ones _) (by unfold maxLen; omega) (by omega) (by omega) ?_); intro v2 w4 ho2 hg2; obtain ⟨A4, c4, rfl⟩ := ownsRow_slice ho2; have HM4 := Lib.hid (HM3.out.grown hg2 (fun x _ h => by cases h)); have f0 := HM4.out.1.fz 0; have lt4 := HM4.out.1.lt; obtain ⟨t0', t1'⟩ := HM4.out.1.c2)
  simp only [Nat.zero_add, List.nil_append] at ho2
  generalize hw5 : World.setCell w4 _ _ = w5
  have hv : (Value.slice A4 (0 + d.revs.length) c4) = .slice A4 d.revs.length c4 := by rw [Nat.zero_add]
  have HM5 : Hid (Bs [(tb, 37, [.slice A4 d.revs.length c4, .slice none 0 0]), (w.heap.size + 1 + 1, 37, [.slice none 0 0, .slice none 0 0]), (w.heap.size + 1, 52, [.int .i64 c.num, .string c.client, .string c.text, .slice E c.edits.length ec, .slice R c.recs.length rc]), (w.heap.size, 37, [.slice A d.revs.length ca, .slice B d.recs.length cb])] w5) := by
    show Bs _ _
    rw [← hw5]
    refine Bs.cons (HM4.out.1.set 0 _) (Bs.far HM4.out.2 ?_ _)
    intro x hx
    simp only [List.mem_cons, List.not_mem_nil, or_false] at hx
    rcases hx with rfl | rfl | rfl
    all_goals (dsimp only; omega)
  have HO5 : Hid (w5.ownsRow (tb + 1) 74 12 (.slice A4 d.revs.length c4) d.revs.length (revK.flat d.revs)) := by
    show World.ownsRow _ _ _ _ _ _ _
    rw [← hw5]
    exact ownsRow_set ho2 (by dsimp only; omega) _
  have hs5 : tb + 1 ≤ w5.heap.size := HM5.out.1.lt
  have HB5 : Hid (Below w.heap.size w w5) := by
    show Below _ _ _
    rw [← hw5]
    exact (HB3.out.grown hg2 (by omega) (fun j e => by cases e)).setCell (by dsimp only; omega) _
  clear hw5 hv HM3 HB3 HM4 f0 lt4 t0' t1' t0 t1 d0 d1 lt ld ho2 hg2 hs3
  obtain ⟨g0, g1, g2, g3, g4⟩ := HM5.out.2.2.1.c5
  have lg := HM5.out.2.2.1.lt
  go_wp2_with fail
  clear g0 g1 g2 g3 g4 lg
  have hel : c.edits.length ≤ 64 := HCH2.out.few
  go_loopw [26] (fun s wr => ∃ (k : Nat) (A5 : Option Addr) (c5 : Nat), s = .int .i64 k ∧ k ≤ c.edits.length ∧ Below w.heap.size w wr ∧ tb + 1 ≤ wr.heap.size ∧ Bs [(tb, 37, [.slice A5 (d.revs.length + k) c5, .slice none 0 0]), (w.heap.size + 1 + 1, 37, [.slice none 0 0, .slice none 0 0]), (w.heap.size + 1, 52, [.int .i64 c.num, .string c.client, .string c.text, .slice E c.edits.length ec, .slice R c.recs.length rc]), (w.heap.size, 37, [.slice A d.revs.length ca, .slice B d.recs.length cb])] wr ∧ wr.ownsRow (tb + 1) 74 12 (.slice A5 (d.revs.length + k) c5) (d.revs.length + k) (revK.flat (d.revs ++ (c.edits.take k).map (madeR c.num)))) (fun s _ => c.edits.length - (intOf s).toNat)
  case atStart => exact ⟨0, A4, c4, rfl, Nat.zero_le _, HB5.out, hs5, HM5.out, by simpa using HO5.out⟩
  case round =>
    obtain ⟨k, A5, q5, rfl, hk, hB, hsz, hM, hO⟩ := hrel
    have HB := Lib.hid hB
    have HM := Lib.hid hM
    have HO := Lib.hid hO
    clear hB hM hO HM5 HO5 HB5 hs5
    by_cases hlt : k < c.edits.length
    · skip
      obtain ⟨b, off, rfl, hbl, hat⟩ := HIE.out (by omega)
      have hat := hat.below HB.out hbl
      have hbw : b < wr.heap.size := Nat.lt_of_lt_of_le hbl HB.out.size
      have hg := List.getElem?_eq_getElem hlt
      have HT : Hid ((c.edits.take (k + 1)).map (madeR c.num) = (c.edits.take k).map (madeR c.num) ++ [madeR c.num c.edits[k]]) := by
        show _ = _
        rw [List.take_succ_eq_append_getElem hlt, List.map_append, List.map_singleton]
      have hbase : 0 ≤ c.edits[k].base ∧ c.edits[k].base ≤ 1000000 := by
        rw [(HCH2.out.edit k _ hg).base]
        exact lastN_bound HOK.out.okR _
      generalize hq : c.edits[k] = x at *
      have HMX := Lib.hid (fun w => HMD.out x w (by omega) (by omega))
      (have hcv := fun j (u : Value) (hj : (x).cells[j]? = some u) => ((hat).get hg hj); have c0 := hcv 0 _ rfl; have c1 := hcv 1 _ rfl; have c2 := hcv 2 _ rfl; have c3 := hcv 3 _ rfl; have c4 := hcv 4 _ rfl; have c5 := hcv 5 _ rfl; have c6 := hcv 6 _ rfl; have c7 := hcv 7 _ rfl; have c8 := hcv 8 _ rfl; have c9 := hcv 9 _ rfl; have c10 := hcv 10 _ rfl; have c11 := hcv 11 _ rfl; have e12 : edtK.n = 12 := rfl; simp only [e12, Nat.add_zero] at c0 c1 c2 c3 c4 c5 c6 c7 c8 c9 c10 c11; clear hcv e12)
      clear hat hg hq
      obtain ⟨xp, xa, ⟨tb1, tk, te, tx⟩, ⟨cs, cz⟩, xb, xs, xm, xf⟩ := x
      have HV : Hid (madeR c.num ⟨xp, xa, ⟨tb1, tk, te, tx⟩, ⟨cs, cz⟩, xb, xs, xm, xf⟩ = ⟨xp, xb + 1, c.num, xa, ⟨tb1, tk, te, tx⟩, ⟨cs, cz⟩, xs, xm⟩) := rfl
      have hbs : IntKind.i64.wrap (xb + 1) = xb + 1 := by
        dsimp only at hbase
        exact IntWalk.i64_in _ (by omega)
      clear hbs
      unfold Edt.val Edt.cells at HMX
      rw [HV.out] at HT
      unfold madeR Rev.val Rev.cells at HMX
      dsimp only at HMX hbase
      go_wp2_with fail
      have HKE := Lib.hid (Blk.new wr 44 [.string xp, .int .i64 xa, .int .i64 tb1, .bool tk, .bool te, .bool tx, .int .u64 cs, .int .i64 cz, .int .i64 xb, .string xs, .int .i64 xm, .int .i64 xf])
      have HM2 := Lib.hid (HM.out.alloc (.cells #[.string xp, .int .i64 xa, .int .i64 tb1, .bool tk, .bool te, .bool tx, .int .u64 cs, .int .i64 cz, .int .i64 xb, .string xs, .int .i64 xm, .int .i64 xf] 44))
      have HB2 := Lib.hid (HB.out.alloc HB.out.size (.cells #[.string xp, .int .i64 xa, .int .i64 tb1, .bool tk, .bool te, .bool tx, .int .u64 cs, .int .i64 cz, .int .i64 xb, .string xs, .int .i64 xm, .int .i64 xf] 44))
      have HO2 := Lib.hid (HO.out.alloc (.cells #[.string xp, .int .i64 xa, .int .i64 tb1, .bool tk, .bool te, .bool tx, .int .u64 cs, .int .i64 cz, .int .i64 xb, .string xs, .int .i64 xm, .int .i64 xf] 44))
      generalize hw6 : World.alloc wr _ = w6 at *
      have hs6 : wr.heap.size < w6.heap.size := HKE.out.lt
      have hebt : tb + 1 ≤ wr.heap.size := hsz
      have HOL : Hid (∀ g, (Value.slice A5 (d.revs.length + k) q5).ownBlock = some g → g < wr.heap.size) := fun g e => (HO.out.lt g e).2
      clear hw6 HM HB HO HIE hbw c0 c1 c2 c3 c4 c5 c6 c7 c8 c9 c10 c11
      generalize wr.heap.size = eb at *
      have HS0 : Hid (AppS tb eb (w.heap.size + 1) [.slice A5 (d.revs.length + k) q5, .slice none 0 0] [.string xp, .int .i64 xa, .int .i64 tb1, .bool tk, .bool te, .bool tx, .int .u64 cs, .int .i64 cz, .int .i64 xb, .string xs, .int .i64 xm, .int .i64 xf] [.int .i64 c.num, .string c.client, .string c.text, .slice (some ⟨b, off, none⟩) c.edits.length ec, .slice R c.recs.length rc] w6) := ⟨HM2.out.1, HKE.out, HM2.out.2.2.1, trivial⟩
      have hS : AppS tb eb (w.heap.size + 1) [.slice A5 (d.revs.length + k) q5, .slice none 0 0] [.string xp, .int .i64 xa, .int .i64 tb1, .bool tk, .bool te, .bool tx, .int .u64 cs, .int .i64 cz, .int .i64 xb, .string xs, .int .i64 xm, .int .i64 xf] [.int .i64 c.num, .string c.client, .string c.text, .slice (some ⟨b, off, none⟩) c.edits.length ec, .slice R c.recs.length rc] w6.drew := Bs.drew HS0.out
      have HL := Lib.hid (fun w => RowK.lit revK w (madeR c.num ⟨xp, xa, ⟨tb1, tk, te, tx⟩, ⟨cs, cz⟩, xb, xs, xm, xf⟩) 74)
      rw [HV.out] at HL
      (refine wp_region_mixz (S := AppS tb eb (w.heap.size + 1) [.slice A5 (d.revs.length + k) q5, .slice none 0 0] [.string xp, .int .i64 xa, .int .i64 tb1, .bool tk, .bool te, .bool tx, .int .u64 cs, .int .i64 cz, .int .i64 xb, .string xs, .int .i64 xm, .int .i64 xf] [.int .i64 c.num, .string c.client, .string c.text, .slice (some ⟨b, off, none⟩) c.edits.length ec, .slice R c.recs.length rc]) [7] 8 [([0, 1, 2, 3], 4), ([], 5), ([], 6)] (by kernel_rfl) (by kernel_rfl) (by intro c a d v w h; cases d <;> exact h) hS ?_; have hN : Nonempty (Held (AppS tb eb (w.heap.size + 1) [.slice A5 (d.revs.length + k) q5, .slice none 0 0] [.string xp, .int .i64 xa, .int .i64 tb1, .bool tk, .bool te, .bool tx, .int .u64 cs, .int .i64 cz, .int .i64 xb, .string xs, .int .i64 xm, .int .i64 xf] [.int .i64 c.num, .string c.client, .string c.text, .slice (some ⟨b, off, none⟩) c.edits.length ec, .slice R c.recs.length rc])) := ⟨⟨_, hS⟩⟩)
      obtain ⟨t0, t1⟩ := fun_and2 (fun y : Held (AppS tb eb (w.heap.size + 1) [.slice A5 (d.revs.length + k) q5, .slice none 0 0] [.string xp, .int .i64 xa, .int .i64 tb1, .bool tk, .bool te, .bool tx, .int .u64 cs, .int .i64 cz, .int .i64 xb, .string xs, .int .i64 xm, .int .i64 xf] [.int .i64 c.num, .string c.client, .string c.text, .slice (some ⟨b, off, none⟩) c.edits.length ec, .slice R c.recs.length rc]) => y.ok.1.c2)
      obtain ⟨e0, e1, e2, e3, e4, e5, e6, e7, e8, e9, e10, e11⟩ := fun_and12 (fun y : Held (AppS tb eb (w.heap.size + 1) [.slice A5 (d.revs.length + k) q5, .slice none 0 0] [.string xp, .int .i64 xa, .int .i64 tb1, .bool tk, .bool te, .bool tx, .int .u64 cs, .int .i64 cz, .int .i64 xb, .string xs, .int .i64 xm, .int .i64 xf] [.int .i64 c.num, .string c.client, .string c.text, .slice (some ⟨b, off, none⟩) c.edits.length ec, .slice R c.recs.length rc]) => y.ok.2.1.c12)
      obtain ⟨g0, g1, g2, g3, g4⟩ := fun_and5 (fun y : Held (AppS tb eb (w.heap.size + 1) [.slice A5 (d.revs.length + k) q5, .slice none 0 0] [.string xp, .int .i64 xa, .int .i64 tb1, .bool tk, .bool te, .bool tx, .int .u64 cs, .int .i64 cz, .int .i64 xb, .string xs, .int .i64 xm, .int .i64 xf] [.int .i64 c.num, .string c.client, .string c.text, .slice (some ⟨b, off, none⟩) c.edits.length ec, .slice R c.recs.length rc]) => y.ok.2.2.1.c5)
      have l0 := fun y : Held (AppS tb eb (w.heap.size + 1) [.slice A5 (d.revs.length + k) q5, .slice none 0 0] [.string xp, .int .i64 xa, .int .i64 tb1, .bool tk, .bool te, .bool tx, .int .u64 cs, .int .i64 cz, .int .i64 xb, .string xs, .int .i64 xm, .int .i64 xf] [.int .i64 c.num, .string c.client, .string c.text, .slice (some ⟨b, off, none⟩) c.edits.length ec, .slice R c.recs.length rc]) => y.ok.1.lt
      (unfold wpMixZ wpRd; (repeat (first | simp only [List.filterMap_cons] | simp only [List.filterMap_nil] | simp only [List.getElem?_toArray] | simp only [List.getElem?_cons_zero] | simp only [List.getElem?_cons_succ])); (try dsimp only); change wpQuiet _ _ _ _ (_ :: _ :: _ :: _ :: []) _; (repeat (go_big_quiet_step (fail))); refine wpQuiet_nil ?_; (try dsimp only))
      clear t0 t1 e0 e1 e2 e3 e4 e5 e6 e7 e8 e9 e10 e11 g0 g1 g2 g3 g4 l0
      go_wp2_with fail
      refine (HMX.out _).mono ?_
      rintro e w7 ⟨rfl, hb7⟩
      have HO7 := Lib.hid (ownsRow_below HO2.out.drew hb7)
      have HM7 := Lib.hid (HM2.out.drew.below hb7)
      have HS7 := Lib.hid (Bs.below (show Bs _ _ from hS) hb7)
      have HB7 := Lib.hid (HB2.out.drew.trans (hb7.mono HB2.out.drew.size))
      have hs7 : eb < w7.heap.size := Nat.lt_of_lt_of_le hs6 hb7.size
      clear hb7 hS
      go_wp2_with fail
      refine ⟨HS7.out, ?_⟩
      (unfold wpMixZ wpRd; (repeat (first | simp only [List.filterMap_cons] | simp only [List.filterMap_nil] | simp only [List.getElem?_toArray] | simp only [List.getElem?_cons_zero] | simp only [List.getElem?_cons_succ])); (try dsimp only); change wpQuiet _ _ _ _ ([]) _; (repeat (go_big_quiet_step (fail))); refine wpQuiet_nil ?_; (try dsimp only))
      go_wp2_with fail
      have HL7 := Lib.hid (HL.out w7)
      have HO8 := Lib.hid (HO7.out.alloc (.cells #[.string xp, .int .i64 (xb + 1), .int .i64 c.num, .int .i64 xa, .int .i64 tb1, .bool tk, .bool te, .bool tx, .int .u64 cs, .int .i64 cz, .string xs, .int .i64 xm] 74))
      have HM8 := Lib.hid (HM7.out.alloc (.cells #[.string xp, .int .i64 (xb + 1), .int .i64 c.num, .int .i64 xa, .int .i64 tb1, .bool tk, .bool te, .bool tx, .int .u64 cs, .int .i64 cz, .string xs, .int .i64 xm] 74))
      have HS8 := Lib.hid (Bs.alloc HS7.out (.cells #[.string xp, .int .i64 (xb + 1), .int .i64 c.num, .int .i64 xa, .int .i64 tb1, .bool tk, .bool te, .bool tx, .int .u64 cs, .int .i64 cz, .string xs, .int .i64 xm] 74))
      have HB8 := Lib.hid (HB7.out.alloc HB7.out.size (.cells #[.string xp, .int .i64 (xb + 1), .int .i64 c.num, .int .i64 xa, .int .i64 tb1, .bool tk, .bool te, .bool tx, .int .u64 cs, .int .i64 cz, .string xs, .int .i64 xm] 74))
      refine ⟨HS8.out, ?_⟩
      (unfold wpMixZ wpRd; (repeat (first | simp only [List.filterMap_cons] | simp only [List.filterMap_nil] | simp only [List.getElem?_toArray] | simp only [List.getElem?_cons_zero] | simp only [List.getElem?_cons_succ])); (try dsimp only); change wpQuiet _ _ _ _ ([]) _; (repeat (go_big_quiet_step (fail))); refine wpQuiet_nil ?_; (try dsimp only))
      go_wp2_with (at_builtin; go_loud (refine wpList_append_own _ rfl _ _ 34 rfl (tb + 1) 74 i0 zeroRev.val 12 96 Tryz.underlying34 hi0 hz0 hz1 hz2 rfl (by decide) _ _ _ rfl HO8.out ⟨w7.heap.size, 0, none⟩ 1 1 (revK.cells ⟨xp, xb + 1, c.num, xa, ⟨tb1, tk, te, tx⟩, ⟨cs, cz⟩, xs, xm⟩) rfl rfl HL7.out.1 HL7.out.2 (by unfold maxLen; omega) (by omega) (by simp; omega) ?_); intro v2 w9 ho9 hg9 _)
      obtain ⟨A9, c9, rfl⟩ := ownsRow_slice ho9
      have hne9 : ∀ g, g < tb + 1 → (Value.slice A5 (d.revs.length + k) q5).ownBlock ≠ some g := fun g hg => own_ne HO8.out hg
      have HM9 := Lib.hid (HM8.out.grown hg9 (fun x hx => hne9 _ (by
        simp only [List.mem_cons, List.not_mem_nil, or_false] at hx
        rcases hx with rfl | rfl | rfl | rfl
        all_goals (dsimp only; omega))))
      have HS9 := Lib.hid (HS8.out.grown hg9 (fun x hx => by
        simp only [List.mem_cons, List.not_mem_nil, or_false] at hx
        rcases hx with rfl | rfl | rfl
        · exact hne9 _ (by dsimp only; omega)
        · intro e
          exact absurd (HOL.out _ e) (by dsimp only; omega)
        · exact hne9 _ (by dsimp only; omega)))
      have HB9 := Lib.hid (HB8.out.grown hg9 (by simp; omega) (fun j e => by have := (HO8.out.lt j e).1; omega))
      have hs9 : tb + 1 ≤ w9.heap.size := HM9.out.1.lt
      have HO9 : Hid (w9.ownsRow (tb + 1) 74 12 (.slice A9 (d.revs.length + (k + 1)) c9) (d.revs.length + (k + 1)) (revK.flat (d.revs ++ (c.edits.take (k + 1)).map (madeR c.num)))) := by
        rw [RowK.flat_snoc] at ho9
        rw [HT.out, ← List.append_assoc]
        exact ho9
      have HS9' : Hid (AppS tb eb (w.heap.size + 1) [.slice A5 (d.revs.length + k) q5, .slice none 0 0] [.string xp, .int .i64 xa, .int .i64 tb1, .bool tk, .bool te, .bool tx, .int .u64 cs, .int .i64 cz, .int .i64 xb, .string xs, .int .i64 xm, .int .i64 xf] [.int .i64 c.num, .string c.client, .string c.text, .slice (some ⟨b, off, none⟩) c.edits.length ec, .slice R c.recs.length rc] w9) := HS9.out
      clear hne9 ho9 hg9
      refine ⟨HS9'.out, ?_⟩
      simp only [Act.put, List.setIfInBounds_toArray, List.set_cons_succ, List.set_cons_zero]
      (unfold wpMixZ wpRd; (repeat (first | simp only [List.filterMap_cons] | simp only [List.filterMap_nil] | simp only [List.getElem?_toArray] | simp only [List.getElem?_cons_zero] | simp only [List.getElem?_cons_succ])); (try dsimp only); change wpQuiet _ _ _ _ (_ :: []) _; (repeat (go_big_quiet_step (fail))); refine wpQuiet_nil ?_; (try dsimp only))
      clear hN
      obtain ⟨t0, t1⟩ := HM9.out.1.c2
      have f0 := HM9.out.1.fz 0
      have lt := HM9.out.1.lt
      go_wp2_with fail
      go_roundw
      case rel =>
        refine ⟨k + 1, A9, c9, by go_num, by omega, HB9.out.setCell (by first | omega | (dsimp only; omega)) _, by simpa [World.setCell] using hs9, Bs.cons (HM9.out.1.set 0 _) (Bs.far HM9.out.2 ?_ _), ownsRow_set HO9.out (by dsimp only; omega) _⟩
        intro x hx
        simp only [List.mem_cons, List.not_mem_nil, or_false] at hx
        rcases hx with rfl | rfl | rfl
        all_goals (dsimp only; omega)
      case measure => simp [intOf]; omega
    · obtain rfl : k = c.edits.length := by omega
      go_wp2_with fail
      have HO' : Hid (wr.ownsRow (tb + 1) 74 12 (.slice A5 (d.revs.length + c.edits.length) q5) (d.revs.length + c.edits.length) (revK.flat (appD d c).revs)) := by
        have h := HO.out
        rw [List.take_length] at h
        exact h
      clear HO
      have hS : Below wr.heap.size wr wr.drew := (Below.refl _ _).drew
      have hrl : c.recs.length ≤ 64 := HCH2.out.fewr
      have HN1 := Lib.hid (HIB.out.below HB.out.drew).news
      have HN2 : Hid (∀ x, Below wr.heap.size wr x → 0 < c.recs.length → ∃ ad, R = some ad ∧ ∀ j u, (rcdK.flat c.recs)[j]? = some u → x.cell? (ad.add j) = some u) := fun x hx => (HIR.out.below (HB.out.trans (hx.mono HB.out.size))).news
      have HSORT : Hid (∀ (A : Option Addr) (cp : Nat) (x : World), x.ownsRow wr.heap.size 55 6 (.slice A (d.recs.length + c.recs.length) cp) (d.recs.length + c.recs.length) (rcdK.flat (d.recs ++ c.recs)) → Below wr.heap.size wr x →
          Calls Tryz.prog 38 #[.slice A (d.recs.length + c.recs.length) cp] x fun e w' => e = .returned (.slice A (d.recs.length + c.recs.length) cp) ∧ (sortR (d.recs ++ c.recs)).length = d.recs.length + c.recs.length ∧ (∀ y ∈ sortR (d.recs ++ c.recs), y ∈ d.recs ++ c.recs) ∧ rcdK.In A (sortR (d.recs ++ c.recs)) w' ∧ Below wr.heap.size x w') := by
        intro A cp x ho hx
        have hlen : (d.recs ++ c.recs).length = d.recs.length + c.recs.length := List.length_append
        have := rsorted_any (d.recs ++ c.recs) A cp wr.heap.size x (by rw [hlen]; exact ho) hx.size (fun y hy => by
          rcases List.mem_append.1 hy with h | h
          · have := HOK.out.recs y h
            omega
          · exact HSR.out y h) (by omega) (HG.out.below (HB.out.trans (hx.mono HB.out.size))) (fun z hz => HG.out.below (HB.out.trans ((hx.trans hz).mono HB.out.size)))
        rw [hlen] at this
        exact this
      clear hlt
      (refine wp_region_mixz (S := Below wr.heap.size wr) [9] 10 [([0, 1, 2, 3, 5, 6], 4), ([], 7), ([], 8)] (by kernel_rfl) (by kernel_rfl) (by intro c a d v w h; cases d <;> exact h) hS ?_; have hN : Nonempty (Held (Below wr.heap.size wr)) := ⟨⟨_, hS⟩⟩)
      obtain ⟨t0, t1⟩ := fun_and2 (fun y : Held (Below wr.heap.size wr) => (HM.out.below y.ok).1.c2)
      obtain ⟨g0, g1, g2, g3, g4⟩ := fun_and5 (fun y : Held (Below wr.heap.size wr) => (HM.out.below y.ok).2.2.1.c5)
      obtain ⟨d0, d1⟩ := fun_and2 (fun y : Held (Below wr.heap.size wr) => (HM.out.below y.ok).2.2.2.1.c2)
      have l0 := fun y : Held (Below wr.heap.size wr) => (HM.out.below y.ok).1.lt
      (unfold wpMixZ wpRd; (repeat (first | simp only [List.filterMap_cons] | simp only [List.filterMap_nil] | simp only [List.getElem?_toArray] | simp only [List.getElem?_cons_zero] | simp only [List.getElem?_cons_succ])); (try dsimp only); change wpQuiet _ _ _ _ (_ :: _ :: _ :: _ :: _ :: _ :: []) _; (repeat (go_big_quiet_step (fail))); refine wpQuiet_nil ?_; (try dsimp only))
      clear t0 t1 d0 d1 g0 g1 g2 g3 g4 l0
      go_wp2_with (at_builtin; go_loud (refine wpList_append_any rfl _ _ 35 rfl wr.heap.size 55 j0 zeroRcd.val 6 64 Tryz.underlying35 hj0 hy0 hy1 hy2 rfl (by decide) (.slice none 0 0) 0 [] rfl (World.ownsRow_nil _ _ _ _) B d.recs.length cb (rcdK.flat d.recs) rfl (rcdK.flat_len _) HN1.out (rcdK.flat_ones _) (by unfold maxLen; omega) (by omega) (Nat.le_refl _) ?_); intro v2 w2 ho2 hg2)
      simp only [Nat.zero_add, List.nil_append] at ho2
      obtain ⟨A2, q2, rfl⟩ := ownsRow_slice ho2
      have HO2 := Lib.hid ho2
      have hS2 : Below wr.heap.size wr w2 := hS.grown hg2 (Nat.le_refl _) (fun j e => by cases e)
      have HS2 := Lib.hid hS2
      clear ho2 hg2 hS
      refine ⟨hS2, ?_⟩
      clear hS2
      simp only [Act.put, List.setIfInBounds_toArray, List.set_cons_succ, List.set_cons_zero]
      (unfold wpMixZ wpRd; (repeat (first | simp only [List.filterMap_cons] | simp only [List.filterMap_nil] | simp only [List.getElem?_toArray] | simp only [List.getElem?_cons_zero] | simp only [List.getElem?_cons_succ])); (try dsimp only); change wpQuiet _ _ _ _ ([]) _; (repeat (go_big_quiet_step (fail))); refine wpQuiet_nil ?_; (try dsimp only))
      go_wp2_with (at_builtin; go_loud (refine wpList_append_any rfl _ _ 35 rfl wr.heap.size 55 j0 zeroRcd.val 6 64 Tryz.underlying35 hj0 hy0 hy1 hy2 rfl (by decide) (.slice A2 d.recs.length q2) d.recs.length (rcdK.flat d.recs) rfl HO2.out R c.recs.length rc (rcdK.flat c.recs) rfl (rcdK.flat_len _) (HN2.out _ HS2.out) (rcdK.flat_ones _) (by unfold maxLen; omega) (by omega) HS2.out.size ?_); intro v3 w3 ho3 hg3)
      obtain ⟨A3, q3, rfl⟩ := ownsRow_slice ho3
      rw [← RowK.flat_append] at ho3
      have HO3 := Lib.hid ho3
      have hS3 : Below wr.heap.size wr w3 := HS2.out.grown hg3 HS2.out.size (fun j e => (HO2.out.lt j e).1)
      have HS3 := Lib.hid hS3
      clear ho3 hg3 HS2 HO2
      refine ⟨hS3, ?_⟩
      clear hS3
      simp only [Act.put, List.setIfInBounds_toArray, List.set_cons_succ, List.set_cons_zero]
      (unfold wpMixZ wpRd; (repeat (first | simp only [List.filterMap_cons] | simp only [List.filterMap_nil] | simp only [List.getElem?_toArray] | simp only [List.getElem?_cons_zero] | simp only [List.getElem?_cons_succ])); (try dsimp only); change wpQuiet _ _ _ _ ([]) _; (repeat (go_big_quiet_step (fail))); refine wpQuiet_nil ?_; (try dsimp only))
      go_wp2_with fail
      refine (HSORT.out A3 q3 w3 HO3.out HS3.out).mono ?_
      rintro e w4 ⟨rfl, hl4, hm4, hI4, hb4⟩
      have HL4 := Lib.hid hl4
      have HM4' := Lib.hid hm4
      have HI4 := Lib.hid hI4
      have HS4 := Lib.hid (HS3.out.trans hb4)
      have HA3 : Hid (∀ b off, A3 = some ⟨b, off, none⟩ → wr.heap.size ≤ b) := fun b off e => (HO3.out.lt b (by rw [e]; rfl)).1
      clear hl4 hm4 hI4 hb4 HS3 HO3
      go_wp2_with fail
      refine ⟨HS4.out, ?_⟩
      (unfold wpMixZ wpRd; (repeat (first | simp only [List.filterMap_cons] | simp only [List.filterMap_nil] | simp only [List.getElem?_toArray] | simp only [List.getElem?_cons_zero] | simp only [List.getElem?_cons_succ])); (try dsimp only); change wpQuiet _ _ _ _ (_ :: []) _; (repeat (go_big_quiet_step (fail))); refine wpQuiet_nil ?_; (try dsimp only))
      clear hN
      have HM5 := Lib.hid (HM.out.below HS4.out)
      have HB5 := Lib.hid (HB.out.trans (HS4.out.mono HB.out.size))
      have HOV := Lib.hid (ownsRow_below HO'.out HS4.out)
      clear HM HB HO'
      obtain ⟨t0, t1⟩ := HM5.out.1.c2
      have f1 := HM5.out.1.fz 1
      have lt := HM5.out.1.lt
      obtain ⟨z0, z1⟩ := HM5.out.2.1.c2
      have f2 := HM5.out.2.1.fz 0
      have f3 := HM5.out.2.1.fz 1
      have lz := HM5.out.2.1.lt
      have hne : tb ≠ w.heap.size + 1 + 1 := by omega
      go_wp2_with fail
      have KZ := Lib.hid (((HM5.out.2.1.far (p := ⟨tb, 1, none⟩) (Ne.symm hne) (.slice A3 (d.recs.length + c.recs.length) q3)).set 0 (.slice A5 (d.revs.length + c.edits.length) q5)).set 1 (.slice A3 (d.recs.length + c.recs.length) q3))
      have HBZ := Lib.hid (((HB5.out.setCell (p := ⟨tb, 1, none⟩) (by dsimp only; omega) (.slice A3 (d.recs.length + c.recs.length) q3)).setCell (p := ⟨w.heap.size + 1 + 1, 0, none⟩) (by dsimp only; omega) (.slice A5 (d.revs.length + c.edits.length) q5)).setCell (p := ⟨w.heap.size + 1 + 1, 1, none⟩) (by dsimp only; omega) (.slice A3 (d.recs.length + c.recs.length) q3))
      have HOZ := Lib.hid (ownsRow_set (ownsRow_set (ownsRow_set HOV.out (p := ⟨tb, 1, none⟩) (by dsimp only; omega) (.slice A3 (d.recs.length + c.recs.length) q3)) (p := ⟨w.heap.size + 1 + 1, 0, none⟩) (by dsimp only; omega) (.slice A5 (d.revs.length + c.edits.length) q5)) (p := ⟨w.heap.size + 1 + 1, 1, none⟩) (by dsimp only; omega) (.slice A3 (d.recs.length + c.recs.length) q3))
      have HIZ := Lib.hid (((HI4.out.setC (p := ⟨tb, 1, none⟩) (fun b off e => by have := HA3.out b off e; dsimp only; omega) (.slice A3 (d.recs.length + c.recs.length) q3)).setC (p := ⟨w.heap.size + 1 + 1, 0, none⟩) (fun b off e => by have := HA3.out b off e; dsimp only; omega) (.slice A5 (d.revs.length + c.edits.length) q5)).setC (p := ⟨w.heap.size + 1 + 1, 1, none⟩) (fun b off e => by have := HA3.out b off e; dsimp only; omega) (.slice A3 (d.recs.length + c.recs.length) q3))
      have hfA : ∀ b off, A5 = some ⟨b, off, none⟩ → w.heap.size ≤ b := fun b off e => by
        have := (HOZ.out.lt b (by rw [e]; rfl)).1
        omega
      have hfB : ∀ b off, A3 = some ⟨b, off, none⟩ → w.heap.size ≤ b := fun b off e => by
        have := HA3.out b off e
        have := HB5.out.size
        omega
      have HFA := Lib.hid hfA
      have HFB := Lib.hid hfB
      clear t0 t1 f1 lt z0 z1 f2 f3 lz hne hfA hfB
      generalize World.setCell (World.setCell (World.setCell w4 _ _) _ _) _ _ = wz at *
      obtain ⟨z0, z1⟩ := KZ.out.c2
      have f2 := KZ.out.fz 0
      have f3 := KZ.out.fz 1
      have lz := KZ.out.lt
      refine bodyPost_ret (v := .tuple #[.agg #[.slice A5 (d.revs.length + c.edits.length) q5, .slice A3 (d.recs.length + c.recs.length) q3], .int .i64 0]) (by simp [results, Tryz.results23, go_sem, z0, z1]) rfl ?_
      refine ⟨0, A5, A3, _, _, _, _, rfl, HBZ.out, fun _ => ⟨HCH2.out, HM4'.out, by rw [HL4.out, List.length_append], by simp [appD], by show _ = (sortR _).length; rw [HL4.out], RowK.In.of_row (show wz.ownsRow (tb + 1) 74 revK.n _ _ _ from HOZ.out), HIZ.out, HFA.out, HFB.out⟩⟩
end Go.Proofs.YtocffknoeknabaaGreatDoor
