/-
  The program's Load.
-/
import Derived.Test.YtphoodnclmplhaaDoorTAl2
import Derived.Test.YtphoodnclmplhaaDoorPtm
import Derived.IntWalk
namespace Go.Proofs.YtphoodnclmplhaaDoor
open Go.RowKit

def possB (x : Lease) (clk : Int) : Bool := isPathB x.path && isNameB x.holder && decide (1 ≤ x.fence) && decide (x.fence ≤ 1073741824) && decide (0 ≤ x.since) && decide (x.since ≤ clk) && decide (x.since ≤ x.til) && decide (x.til ≤ clk + 1048576)

set_option maxRecDepth 100000 in
set_option maxHeartbeats 1600000 in
theorem possible_any (x : Lease) (clk : Int) (w : World) (h0 : 0 ≤ clk) (h1 : clk ≤ 1099511627776) :
    Calls Tryd.prog 47 #[x.val, .int .i64 clk] w fun e w' => e = .returned (.bool (possB x clk)) ∧ Below w.heap.size w w' := by
  obtain ⟨lp, lh, lf, ls, lu⟩ := x
  unfold Lease.val possB
  dsimp only
  cases hp : isPathB lp
  · go_enter Tryd.func47, Tryd.ntmps47
    go_wp2_with (go_at_call 39; refine (isPath_any _ _).mono ?_; rw [hp]; rintro e w1 ⟨rfl, rfl⟩)
    go_ret
    exact ⟨ret_bool (by simp), below_alloc1 _ _⟩
  cases hm : isNameB lh
  · go_enter Tryd.func47, Tryd.ntmps47
    go_wp2_with (first | (go_at_call 39; refine (isPath_any _ _).mono ?_; rw [hp]; rintro e w1 ⟨rfl, rfl⟩) | (go_at_call 40; refine (isName_any _ _).mono ?_; rw [hm]; rintro e w1 ⟨rfl, rfl⟩))
    go_ret
    exact ⟨ret_bool (by simp), below_alloc1 _ _⟩
  go_enter Tryd.func47, Tryd.ntmps47
  go_wp2_with (first | (go_at_call 39; refine (isPath_any _ _).mono ?_; rw [hp]; rintro e w1 ⟨rfl, rfl⟩) | (go_at_call 40; refine (isName_any _ _).mono ?_; rw [hm]; rintro e w1 ⟨rfl, rfl⟩))
  all_goals
    go_ret
    exact ⟨ret_bool (by rw [Bool.eq_iff_iff]; simp; first | omega | (intros; omega) | skip), below_alloc1 _ _⟩

/-- How far a list may be loaded. -/
def ldOk (clk : Int) : List Lease → Bool
  | [] => true
  | [x] => possB x clk
  | x :: y :: r => possB x clk && decide (pcmp x.path.data.toList y.path.data.toList < 0) && ldOk clk (y :: r)
def loadB (clk : Int) (l : List Lease) : Bool := decide (0 ≤ clk) && decide (clk ≤ 1099511627776) && decide (l.length ≤ 64) && ldOk clk l
def tabOf (clk : Int) (l : List Lease) : Tab := ⟨clk, l.map fun x => (x.path, x)⟩
theorem possB_path {x : Lease} {clk : Int} (h : possB x clk = true) : okP x = true := by
  unfold possB at h
  simp only [Bool.and_eq_true] at h
  exact h.1.1.1.1.1.1.1
theorem ldOk_snoc (clk : Int) : ∀ (l : List Lease) (x : Lease), ldOk clk (l ++ [x]) = (ldOk clk l && possB x clk && match l.getLast? with | none => true | some y => decide (pcmp y.path.data.toList x.path.data.toList < 0))
  | [], x => by simp [ldOk]
  | [y], x => by
    simp only [List.singleton_append, ldOk, List.getLast?_singleton]
    cases possB y clk <;> cases possB x clk <;> simp
  | y :: z :: r, x => by
    have ih := ldOk_snoc clk (z :: r) x
    have e : (y :: z :: r).getLast? = (z :: r).getLast? := by simp
    rw [e]
    show (possB y clk && _ && ldOk clk (z :: r ++ [x])) = _
    rw [ih]
    simp only [ldOk, Bool.and_assoc]
theorem ldOk_pre {clk : Int} : ∀ {l r : List Lease}, ldOk clk (l ++ r) = true → ldOk clk l = true := by
  intro l r
  induction r generalizing l with
  | nil => intro h; rwa [List.append_nil] at h
  | cons x r ih =>
    intro h
    have h2 : ldOk clk (l ++ [x] ++ r) = true := by rwa [List.append_assoc]
    have := ih h2
    rw [ldOk_snoc] at this
    simp only [Bool.and_eq_true] at this
    exact this.1.1
theorem ldOk_all {clk : Int} : ∀ {l : List Lease}, ldOk clk l = true → (∀ x ∈ l, possB x clk = true) ∧ l.Pairwise (fun a b => pcmp a.path.data.toList b.path.data.toList < 0)
  | [], _ => ⟨fun _ h => (by cases h), List.Pairwise.nil⟩
  | [x], h => ⟨fun y hy => (by rw [List.mem_singleton] at hy; subst hy; exact h), List.pairwise_singleton _ _⟩
  | x :: y :: r, h => by
    simp only [ldOk, Bool.and_eq_true, decide_eq_true_eq] at h
    obtain ⟨h1, h2⟩ := ldOk_all h.2
    refine ⟨fun z hz => ?_, List.pairwise_cons.2 ⟨fun z hz => ?_, h2⟩⟩
    · rcases List.mem_cons.1 hz with rfl | hz
      · exact h.1.1
      · exact h1 z hz
    · rcases List.mem_cons.1 hz with rfl | hz
      · exact h.1.2
      · exact pcmp_trans h.1.2 ((List.pairwise_cons.1 h2).1 z hz)
theorem pt_fresh {m : List (ByteArray × Lease)} {p : ByteArray} {l : Lease} (h : p ∉ m.map (·.1)) : pt m p l = m ++ [(p, l)] := by
  induction m with
  | nil => rfl
  | cons y r ih =>
    rw [List.map_cons, List.mem_cons, not_or] at h
    unfold pt
    rw [if_neg (fun e => h.1 ((ba_beq _ _).1 e)), ih h.2]
    rfl
theorem pt_load {clk : Int} {l : List Lease} {x : Lease} (h : ldOk clk (l ++ [x]) = true) : pt (tabOf clk l).m x.path x = (tabOf clk (l ++ [x])).m := by
  have hp := (ldOk_all h).2
  rw [pt_fresh]
  · simp [tabOf]
  · intro hm
    obtain ⟨y, hy, he⟩ := List.mem_map.1 hm
    obtain ⟨z, hz, rfl⟩ := List.mem_map.1 hy
    have := (List.pairwise_append.1 hp).2.2 z hz x (by simp)
    dsimp only at he
    rw [he, pcmp_self] at this
    omega

/-- How Load ends. -/
def LoadP (clk : Int) (l : List Lease) (w : World) (e : Ending) (w' : World) : Prop :=
  Below w.heap.size w w' ∧ ((loadB clk l = false ∧ e = .returned (.tuple #[.pointer none, .int .i64 197])) ∨ (loadB clk l = true ∧ ∃ b m, w.heap.size ≤ b ∧ w.heap.size ≤ m ∧ e = .returned (.tuple #[.pointer (some ⟨b, 0, none⟩), .int .i64 0]) ∧ TabT b m (tabOf clk l) w'))

set_option maxRecDepth 100000 in
set_option maxHeartbeats 800000 in
theorem load_lim (clk : Int) (A : Option Addr) (c : Nat) (l : List Lease) (w : World) (h : clk < 0 ∨ 1099511627776 < clk ∨ 64 < l.length) :
    Calls Tryd.prog 23 #[.int .i64 clk, .slice A l.length c] w (LoadP clk l w) := by
  have hb : loadB clk l = false := by
    unfold loadB
    rcases h with h | h | h
    · rw [decide_eq_false (by omega : ¬ 0 ≤ clk)]; rfl
    · rw [decide_eq_false (by omega : ¬ clk ≤ 1099511627776), Bool.and_false]; rfl
    · rw [decide_eq_false (by omega : ¬ l.length ≤ 64), Bool.and_false]; rfl
  have HB := Lib.hid hb
  clear hb
  by_cases h1 : clk < 0
  · clear h
    go_enter Tryd.func23, Tryd.ntmps23
    go_wp2_with fail
    go_ret2
    exact ⟨Below.refl _ _, .inl ⟨HB.out, rfl⟩⟩
  by_cases h2 : 1099511627776 < clk
  · clear h
    go_enter Tryd.func23, Tryd.ntmps23
    go_wp2_with fail
    go_ret2
    exact ⟨Below.refl _ _, .inl ⟨HB.out, rfl⟩⟩
  have h3 : (64 : Int) < (l.length : Int) := by omega
  clear h
  go_enter Tryd.func23, Tryd.ntmps23
  go_wp2_with fail
  go_ret2
  exact ⟨Below.refl _ _, .inl ⟨HB.out, rfl⟩⟩

theorem grow_below (W : World) (q : Nat) (os : Array Obj) : Below W.heap.size W (Sort.grow (W.drewN q) os) := by
  refine ⟨rfl, rfl, rfl, ?_, fun b hb => ?_⟩
  · show _ ≤ (W.heap ++ os).size
    simp
  · show (W.heap ++ os)[b]? = _
    rw [Array.getElem?_append_left hb]

set_option maxRecDepth 100000 in
set_option maxHeartbeats 3200000 in
theorem load_in (clk : Int) (A : Option Addr) (c : Nat) (l : List Lease) (w : World) (hA : LsIn A l w) (h0 : 0 ≤ clk) (h1 : clk ≤ 1099511627776) (h2 : l.length ≤ 64) :
    Calls Tryd.prog 23 #[.int .i64 clk, .slice A l.length c] w (LoadP clk l w) := by
  have HLB : Hid (loadB clk l = ldOk clk l) := by
    show _ = _
    unfold loadB
    rw [decide_eq_true h0, decide_eq_true h1, decide_eq_true h2]
    rfl
  have z1 : ¬ (64 : Int) < (l.length : Int) := by omega
  have HA := Lib.hid hA
  clear hA
  go_enter Tryd.func23, Tryd.ntmps23
  go_wp2_with fail
  refine (new_any _).mono ?_
  rintro e w1 ⟨rfl, hT1, hB1⟩
  have hT1' := hT1
  obtain ⟨c0, c1, f0, f1, mp, lt, ne⟩ := hT1'
  have HT2 := Lib.hid (hT1.clock clk)
  have HB2 := Lib.hid (hB1.setCell (p := ⟨w.heap.size + 1, 0, none⟩) (by dsimp only; omega) (.int .i64 clk))
  clear hT1 hB1 mp
  go_wp2_with fail
  generalize w1.setCell ⟨w.heap.size + 1, 0, none⟩ (.int .i64 clk) = w2 at *
  clear c0 c1 f0 f1 lt ne
  go_loopw [27] (fun i wr => ∃ k : Nat, k ≤ l.length ∧ i = .int .i64 k ∧ TabT (w.heap.size + 1) w.heap.size (tabOf clk (l.take k)) wr ∧ Below w.heap.size w wr ∧ Hid (ldOk clk (l.take k) = true)) (fun i _ => l.length - (intOf i).toNat)
  case atStart => exact ⟨0, Nat.zero_le _, rfl, HT2.out, HB2.out, rfl⟩
  case round =>
    clear HT2 HB2
    obtain ⟨k, hk, rfl, hT, hB, hL⟩ := hrel
    have HT := Lib.hid hT
    have HB := Lib.hid hB
    have hwr := hB.size
    by_cases hlt : k < l.length
    · obtain ⟨b, off, rfl, hbl, hat⟩ := HA.out (by omega)
      obtain ⟨g0, g1, g2, g3, g4⟩ := (hat.below hB hbl) k l[k] (List.getElem?_eq_getElem hlt)
      have HAT := Lib.hid hat
      have HS : Hid (ldOk clk (l.take (k + 1)) = (possB l[k] clk && match (l.take k).getLast? with | none => true | some y => decide (pcmp y.path.data.toList l[k].path.data.toList < 0))) := by
        show _ = _
        rw [List.take_succ_eq_append_getElem hlt, ldOk_snoc, hL.out, Bool.true_and]
      have HTK : Hid (l.take (k + 1) = l.take k ++ [l[k]]) := List.take_succ_eq_append_getElem hlt
      have HTD : Hid (l = l.take (k + 1) ++ l.drop (k + 1)) := (List.take_append_drop _ _).symm
      have HPO := Lib.hid (fun (W : World) => possible_any l[k] clk W h0 h1)
      have hTr : TabAt (w.heap.size + 1) w.heap.size clk (encL (tabOf clk (l.take k)).m) wr := hT
      have hlb := hTr.lt
      have hlm := hTr.mp.lt
      clear hat hT hB hTr
      have HGK : Hid (∀ hk0 : 0 < k, (l.take k).getLast? = some (l[k - 1]'(by omega))) := fun hk0 => by
        rw [List.getLast?_eq_getElem?, List.length_take_of_le (by omega), List.getElem?_take_of_lt (by omega), List.getElem?_eq_getElem (by omega)]
      generalize hx : l[k] = x at *
      have HX := Lib.hid hx
      obtain ⟨lp, lh, lf, ls, lu⟩ := x
      dsimp only at g0 g1 g2 g3 g4
      unfold Lease.val at HPO
      dsimp only at HPO
      have hb3 := below_alloc1 wr (.cells #[.string lp, .string lh, .int .i64 lf, .int .i64 ls, .int .i64 lu] 34)
      have k3 := (Box5.new wr (.string lp) (.string lh) (.int .i64 lf) (.int .i64 ls) (.int .i64 lu) 34).cell5
      clear hx
      go_wp2_with fail
      generalize hw3e : wr.alloc (.cells #[.string lp, .string lh, .int .i64 lf, .int .i64 ls, .int .i64 lu] 34) = w3 at *
      have hw3 : wr.heap.size < w3.heap.size := by rw [← hw3e]; simp
      have HT3 : Hid (TabAt (w.heap.size + 1) w.heap.size clk (encL (tabOf clk (l.take k)).m) w3) := TabAt.after HT.out hb3
      have HB3 := Lib.hid (HB.out.trans (hb3.mono HB.out.size))
      have hS : Below w3.heap.size w3 w3.drew := (Below.refl _ _).drew
      have hk3 := k3
      (have hk3' := hk3; obtain ⟨d0, d1, d2, d3, d4, lt_hk3, fz_hk3⟩ := hk3')
      have HK3 : Hid ((∀ y : Held (Below w3.heap.size w3), y.w.cell? ⟨wr.heap.size, 0, none⟩ = some (.string lp)) ∧ (∀ y : Held (Below w3.heap.size w3), y.w.cell? ⟨wr.heap.size, 1, none⟩ = some (.string lh)) ∧ (∀ y : Held (Below w3.heap.size w3), y.w.cell? ⟨wr.heap.size, 2, none⟩ = some (.int .i64 lf)) ∧ (∀ y : Held (Below w3.heap.size w3), y.w.cell? ⟨wr.heap.size, 3, none⟩ = some (.int .i64 ls)) ∧ (∀ y : Held (Below w3.heap.size w3), y.w.cell? ⟨wr.heap.size, 4, none⟩ = some (.int .i64 lu))) :=
        ⟨fun y => (y.ok.cell (p := ⟨_, _, none⟩) lt_hk3).trans d0, fun y => (y.ok.cell (p := ⟨_, _, none⟩) lt_hk3).trans d1, fun y => (y.ok.cell (p := ⟨_, _, none⟩) lt_hk3).trans d2, fun y => (y.ok.cell (p := ⟨_, _, none⟩) lt_hk3).trans d3, fun y => (y.ok.cell (p := ⟨_, _, none⟩) lt_hk3).trans d4⟩
      clear d0 d1 d2 d3 d4 lt_hk3 fz_hk3 hb3 hw3e g0 g1 g2 g3 g4
      have HFL : Hid (ldOk clk (l.take (k + 1)) = false → loadB clk l = false) := fun hf => by
        rw [HLB.out]
        cases hv : ldOk clk l
        · rfl
        · rw [HTD.out] at hv
          rw [ldOk_pre hv] at hf
          cases hf
      cases hp : possB ⟨lp, lh, lf, ls, lu⟩ clk
      · have HF : Hid (loadB clk l = false) := HFL.out (by rw [HS.out, hp]; rfl)
        rw [hp] at HPO
        go_wp2_with fail
        (refine wp_region_s (S := Below w3.heap.size w3) (by kernel_rfl) (by kernel_rfl) hS ?_; have hN : Nonempty (Held (Below w3.heap.size w3)) := ⟨⟨_, hS⟩⟩; (have p0 := HK3.out.1; have p1 := HK3.out.2.1; have p2 := HK3.out.2.2.1; have p3 := HK3.out.2.2.2.1; have p4 := HK3.out.2.2.2.2); (repeat (go_big_quiet_step ((go_at_call 47; exact held_keep (HPO.out _))))); refine wpQuiet_nil ?_; rintro x ⟨⟨_, hx⟩, rfl⟩; clear hN)
        clear p0 p1 p2 p3 p4
        go_wp2_with fail
        go_ret2
        exact ⟨HB3.out.trans (hx.mono HB3.out.size), .inl ⟨HF.out, rfl⟩⟩
      · rw [hp] at HPO HS
        by_cases hk0 : 0 < k
        · obtain ⟨j, rfl⟩ : ∃ j, k = j + 1 := ⟨k - 1, by omega⟩
          have hjl : j < l.length := by omega
          have hlast := HGK.out hk0
          simp only [Nat.add_sub_cancel] at hlast
          have hat3 := fun y : Held (Below w3.heap.size w3) => (HAT.out.below (HB3.out.trans (y.ok.mono HB3.out.size)) hbl) j l[j] (List.getElem?_eq_getElem hjl)
          have hoj : okP l[j] = true := possB_path ((ldOk_all hL.out).1 l[j] (List.mem_iff_getElem?.2 ⟨j, by rw [List.getElem?_take_of_lt (by omega), List.getElem?_eq_getElem hjl]⟩))
          rw [hlast] at HS
          have hox := possB_path hp
          have hcm := fun W => lcompare_any l[j] ⟨lp, lh, lf, ls, lu⟩ hoj hox W
          generalize l[j] = z at hat3 hoj HS hcm
          obtain ⟨zp, zh, zf, zs, zu⟩ := z
          unfold Lease.val at hcm
          dsimp only at hat3 HS hcm
          have HCM : Hid (∀ y : Held (Below w3.heap.size w3), Calls Tryd.prog 45 #[.agg #[.string zp, .string zh, .int .i64 zf, .int .i64 zs, .int .i64 zu], .agg #[.string lp, .string lh, .int .i64 lf, .int .i64 ls, .int .i64 lu]] y.w fun e w' => e = .returned (.int .i64 (pcmp zp.data.toList lp.data.toList)) ∧ Below y.w.heap.size y.w w') := fun y =>
            (hcm y.w).mono fun e w' hh => ⟨hh.1, (by obtain ⟨_, q, os, rfl⟩ := hh; exact grow_below _ _ _)⟩
          have HKJ := Lib.hid (And.intro (fun y => (hat3 y).1) (And.intro (fun y => (hat3 y).2.1) (And.intro (fun y => (hat3 y).2.2.1) (And.intro (fun y => (hat3 y).2.2.2.1) (fun y => (hat3 y).2.2.2.2)))))
          clear hat3 hoj hox hcm hlast
          by_cases hv : pcmp zp.data.toList lp.data.toList < 0
          · have HNX : Hid (ldOk clk (l.take (j + 1 + 1)) = true) := by
              show _ = _
              rw [HS.out]
              simp [hv]
            have hv2 : ¬ 0 ≤ pcmp zp.data.toList lp.data.toList := by omega
            go_wp2_with fail
            (refine wp_region_s (S := Below w3.heap.size w3) (by kernel_rfl) (by kernel_rfl) hS ?_; have hN : Nonempty (Held (Below w3.heap.size w3)) := ⟨⟨_, hS⟩⟩; (have p0 := HK3.out.1; have p1 := HK3.out.2.1; have p2 := HK3.out.2.2.1; have p3 := HK3.out.2.2.2.1; have p4 := HK3.out.2.2.2.2; have q0 := HKJ.out.1; have q1 := HKJ.out.2.1; have q2 := HKJ.out.2.2.1; have q3 := HKJ.out.2.2.2.1; have q4 := HKJ.out.2.2.2.2); (repeat (go_big_quiet_step ((first | (go_at_call 47; exact held_keep (HPO.out _)) | (go_at_call 45; exact held_keep (HCM.out _)))))); refine wpQuiet_nil ?_; rintro x ⟨⟨_, hx⟩, rfl⟩; clear hN)
            clear p0 p1 p2 p3 p4 q0 q1 q2 q3 q4
            go_wp2_with fail
            have hTx := HT3.out.below hx (by omega) (by omega)
            have hTx' : TabAt (w.heap.size + 1) w.heap.size clk (encL (tabOf clk (l.take (j + 1))).m) x := hTx
            have HBX := Lib.hid (HB3.out.trans (hx.mono HB3.out.size))
            have hkx := k3.below hx
            have hxs := hx.size
            (have hkx' := hkx; obtain ⟨d0, d1, d2, d3, d4, lt_hkx, fz_hkx⟩ := hkx')
            obtain ⟨c0, c1, f0, f1, mp, lt, ne⟩ := hTx'
            clear hx
            go_wp2_with fail
            (refine wp_region_tail 7 (by kernel_rfl) (by kernel_rfl) ?_; simp only [List.take_succ_cons, List.take_zero, List.drop_succ_cons, List.drop_zero]; (repeat still_step); refine wpStill_nil ?_)
            refine wpList_put rfl _ _ _ 53 rfl 9 34 Tryd.underlying53 Tryd.underlying9 w.heap.size (encL (tabOf clk (l.take (j + 1))).m) rfl mp.drew lp rfl (.agg #[.string lp, .string lh, .int .i64 lf, .int .i64 ls, .int .i64 lu]) rfl ?_
            intro w5 hm5 hg5
            have hT5 := (TabAt.drew hTx).grown hg5 hm5
            have HT5 : Hid (TabT (w.heap.size + 1) w.heap.size (tabOf clk (l.take (j + 1 + 1))) w5) := by
              show TabT _ _ _ _
              have e1 := put_enc (tabOf clk (l.take (j + 1))).m lp ⟨lp, lh, lf, ls, lu⟩
              have e2 := pt_load (x := ⟨lp, lh, lf, ls, lu⟩) (HTK.out ▸ HNX.out)
              rw [HTK.out]
              show TabAt _ _ clk (encL (tabOf clk (l.take (j + 1) ++ [⟨lp, lh, lf, ls, lu⟩])).m) w5
              rw [← e2, ← e1]
              exact hT5
            have HB5 := Lib.hid (HBX.out.drew.grown hg5 (by have := HBX.out.size; exact this) (fun j e => by injection e with e; omega))
            clear hT5 hTx mp c0 c1 f0 f1 lt ne d0 d1 d2 d3 d4 lt_hkx fz_hkx hm5 hg5 hkx
            go_wp2_with fail
            go_roundw
            case rel => exact ⟨j + 1 + 1, by omega, by go_num, HT5.out, HB5.out, HNX.out⟩
            case measure => simp [intOf]; omega
          · have HF : Hid (loadB clk l = false) := HFL.out (by rw [HS.out]; simp; omega)
            have hv2 : 0 ≤ pcmp zp.data.toList lp.data.toList := by omega
            go_wp2_with fail
            (refine wp_region_s (S := Below w3.heap.size w3) (by kernel_rfl) (by kernel_rfl) hS ?_; have hN : Nonempty (Held (Below w3.heap.size w3)) := ⟨⟨_, hS⟩⟩; (have p0 := HK3.out.1; have p1 := HK3.out.2.1; have p2 := HK3.out.2.2.1; have p3 := HK3.out.2.2.2.1; have p4 := HK3.out.2.2.2.2; have q0 := HKJ.out.1; have q1 := HKJ.out.2.1; have q2 := HKJ.out.2.2.1; have q3 := HKJ.out.2.2.2.1; have q4 := HKJ.out.2.2.2.2); (repeat (go_big_quiet_step ((first | (go_at_call 47; exact held_keep (HPO.out _)) | (go_at_call 45; exact held_keep (HCM.out _)))))); refine wpQuiet_nil ?_; rintro x ⟨⟨_, hx⟩, rfl⟩; clear hN)
            clear p0 p1 p2 p3 p4 q0 q1 q2 q3 q4
            go_wp2_with fail
            go_ret2
            exact ⟨HB3.out.trans (hx.mono HB3.out.size), .inl ⟨HF.out, rfl⟩⟩
        · obtain rfl : k = 0 := by omega
          have HNX : Hid (ldOk clk (l.take (0 + 1)) = true) := by
            show _ = _
            rw [HS.out]
            rfl
          go_wp2_with fail
          (refine wp_region_s (S := Below w3.heap.size w3) (by kernel_rfl) (by kernel_rfl) hS ?_; have hN : Nonempty (Held (Below w3.heap.size w3)) := ⟨⟨_, hS⟩⟩; (have p0 := HK3.out.1; have p1 := HK3.out.2.1; have p2 := HK3.out.2.2.1; have p3 := HK3.out.2.2.2.1; have p4 := HK3.out.2.2.2.2); (repeat (go_big_quiet_step ((go_at_call 47; exact held_keep (HPO.out _))))); refine wpQuiet_nil ?_; rintro x ⟨⟨_, hx⟩, rfl⟩; clear hN)
          clear p0 p1 p2 p3 p4
          go_wp2_with fail
          have hTx := HT3.out.below hx (by omega) (by omega)
          have hTx' : TabAt (w.heap.size + 1) w.heap.size clk (encL (tabOf clk (l.take 0)).m) x := hTx
          have HBX := Lib.hid (HB3.out.trans (hx.mono HB3.out.size))
          have hkx := k3.below hx
          have hxs := hx.size
          (have hkx' := hkx; obtain ⟨d0, d1, d2, d3, d4, lt_hkx, fz_hkx⟩ := hkx')
          obtain ⟨c0, c1, f0, f1, mp, lt, ne⟩ := hTx'
          clear hx
          go_wp2_with fail
          (refine wp_region_tail 7 (by kernel_rfl) (by kernel_rfl) ?_; simp only [List.take_succ_cons, List.take_zero, List.drop_succ_cons, List.drop_zero]; (repeat still_step); refine wpStill_nil ?_)
          refine wpList_put rfl _ _ _ 53 rfl 9 34 Tryd.underlying53 Tryd.underlying9 w.heap.size (encL (tabOf clk (l.take 0)).m) rfl mp.drew lp rfl (.agg #[.string lp, .string lh, .int .i64 lf, .int .i64 ls, .int .i64 lu]) rfl ?_
          intro w5 hm5 hg5
          have hT5 := (TabAt.drew hTx).grown hg5 hm5
          have HT5 : Hid (TabT (w.heap.size + 1) w.heap.size (tabOf clk (l.take (0 + 1))) w5) := by
            show TabT _ _ _ _
            have e1 := put_enc (tabOf clk (l.take 0)).m lp ⟨lp, lh, lf, ls, lu⟩
            have e2 := pt_load (x := ⟨lp, lh, lf, ls, lu⟩) (HTK.out ▸ HNX.out)
            rw [HTK.out]
            show TabAt _ _ clk (encL (tabOf clk (l.take 0 ++ [⟨lp, lh, lf, ls, lu⟩])).m) w5
            rw [← e2, ← e1]
            exact hT5
          have HB5 := Lib.hid (HBX.out.drew.grown hg5 (by have := HBX.out.size; exact this) (fun j e => by injection e with e; omega))
          clear hT5 hTx mp c0 c1 f0 f1 lt ne d0 d1 d2 d3 d4 lt_hkx fz_hkx hm5 hg5 hkx
          go_wp2_with fail
          go_roundw
          case rel => exact ⟨0 + 1, by omega, by go_num, HT5.out, HB5.out, HNX.out⟩
          case measure => simp [intOf]; omega
    · obtain rfl : k = l.length := by omega
      clear hlt hT hB
      go_wp2_with fail
      go_ret2
      refine ⟨HB.out, .inr ⟨?_, w.heap.size + 1, w.heap.size, by omega, Nat.le_refl _, rfl, ?_⟩⟩
      · have := hL.out
        rw [List.take_length] at this
        rw [HLB.out]
        exact this
      · have := HT.out
        rw [List.take_length] at this
        exact this
theorem load_any (clk : Int) (A : Option Addr) (c : Nat) (l : List Lease) (w : World) (hA : LsIn A l w) :
    Calls Tryd.prog 23 #[.int .i64 clk, .slice A l.length c] w (LoadP clk l w) := by
  by_cases h : clk < 0 ∨ 1099511627776 < clk ∨ 64 < l.length
  · exact load_lim clk A c l w h
  · exact load_in clk A c l w hA (by omega) (by omega) (by omega)

end Go.Proofs.YtphoodnclmplhaaDoor
