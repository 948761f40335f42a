/-
  The walk of HaveFull.
-/
import Derived.Test.YtjjdffafibonhaaGreatDoorHvF
namespace Go.Proofs.YtjjdffafibonhaaGreatDoor
open Go.RowKit

set_option maxRecDepth 100000 in
set_option maxHeartbeats 800000 in
/-- A new device; its number is told. -/
theorem gnewN (g : Gh) (w : World) : Calls Tryz.prog 11 #[] w fun e w' => ∃ d g', e = .returned (.pointer (some ⟨d, 0, none⟩)) ∧ d = w.heap.size + 2 ∧ Ext (fun _ => False) g w g' w' ∧ DevAt g' w' d dev0 := by
  have hmm := @run_makeMap Tryz.prog
  have h := (new_any g w)
  go_enter Tryz.func11, Tryz.ntmps11
  go_wp2_with fail
  go_ret
  have hb2 : Blk (w.heap.size + 1 + 1) 73 (devCs w.heap.size (w.heap.size + 1) none 0 dev0) (((w.alloc (.map #[] 0)).alloc (.map #[] 0)).alloc (.cells #[.map (some w.heap.size), .map (some (w.heap.size + 1)), .slice none 0 0, .bool false, .int .i64 0] 73)) := by
    have := Blk.new ((w.alloc (.map #[] 0)).alloc (.map #[] 0)) 73 (devCs w.heap.size (w.heap.size + 1) none 0 dev0)
    simpa [devCs, dev0] using this
  have hm1 : MapIs w.heap.size [] (((w.alloc (.map #[] 0)).alloc (.map #[] 0)).alloc (.cells #[.map (some w.heap.size), .map (some (w.heap.size + 1)), .slice none 0 0, .bool false, .int .i64 0] 73)) := ((MapIs.new w).alloc _).alloc _
  have hm2 : MapIs (w.heap.size + 1) [] (((w.alloc (.map #[] 0)).alloc (.map #[] 0)).alloc (.cells #[.map (some w.heap.size), .map (some (w.heap.size + 1)), .slice none 0 0, .bool false, .int .i64 0] 73)) := by
    have := (MapIs.new (w.alloc (.map #[] 0))).alloc (.cells #[.map (some w.heap.size), .map (some (w.heap.size + 1)), .slice none 0 0, .bool false, .int .i64 0] 73)
    simpa using this
  have hbl : Below w.heap.size w (((w.alloc (.map #[] 0)).alloc (.map #[] 0)).alloc (.cells #[.map (some w.heap.size), .map (some (w.heap.size + 1)), .slice none 0 0, .bool false, .int .i64 0] 73)) := (((Below.refl _ _).alloc (Nat.le_refl _) _).alloc (by simp) _).alloc (by simp; omega) _
  refine ⟨w.heap.size + 1 + 1, ⟨fun b => if b < w.heap.size then g.F b else 0, fun b => if b < w.heap.size then g.O b else w.heap.size + 1 + 1⟩, rfl, rfl, (Ext.of_below (fun _ => False) g hbl).up (fun b hb => by simp [hb]) (fun b hb => by simp [hb]), w.heap.size, w.heap.size + 1, none, 0, [], hb2, ?_⟩
  refine ⟨by omega, by simp, by simp, ⟨[], hm1, rfl, fun _ _ => rfl, fun k v h => by simp [look] at h⟩, ⟨⟨[], hm2, rfl, fun _ _ => rfl, fun k v h => by simp [look] at h, fun k k' A n c A' n' c' h => by simp [look] at h⟩, (by dsimp only; rw [if_neg (by omega)]), (by dsimp only; rw [if_neg (by omega)])⟩, App.nil _ _ _ _ _, trivial, ?_, ?_, by simp [dev0], by simp [dev0]⟩
  · dsimp only; rw [if_neg (by omega)]
  · dsimp only; rw [if_neg (by omega)]

theorem src_hv (x : World) (p q r : Value) (hp : p.oneCell' = true) (hq : q.oneCell' = true) (hr : r.oneCell' = true) : Src Tryz.prog 3 29 (.slice (some ⟨x.heap.size, 0, none⟩) 1 1) 1 [p, q, r] (x.alloc (.cells #[p, q, r] 32)) :=
  Src.ofSlice _ Tryz.underlying29 _ 1 1 _ rfl (fun j u hu => by
    have hh : (x.alloc (.cells #[p, q, r] 32)).heap[x.heap.size]? = some (.cells #[p, q, r] 32 (0, 0)) := heap_alloc_new x _
    rw [add_lit, Nat.zero_add, cell_at hh]
    simpa using hu) (by simp [hp, hq, hr])

section
variable {P : Program} {w : World} {ops : Array Oper} {rest : List Oper} {op : Oper} {a : Act} {Q : Exit → Act → World → Prop} {K : Act → World → Prop}
/-- append behind a guard that holds. -/
theorem wpList_append_app_g (hgd : Region.wanted op (yielded ops a.tmps) = true) (s x : Operand) (t tx : TypeId) (hop : op.op = .call { callee := .builtin .append, args := #[s, x], argTypes := #[t, tx] })
    (e : TypeId) (i : TypeInfo) (z : Value) (sz bytes : Nat) (ht : P.underlying t = some (.slice e)) (hi : P.info? e = some i) (hz : i.zero = some z) (hsize : i.size = sz) (hby : i.bytes = bytes) (hzs : z.cells.size = sz) (hsz : 0 < sz)
    {o : Nat} {g : Gh} {A : Option Addr} {n cap : Nat} {xs : List Value} (hse : a.eval s = .slice A n cap) (ha : App e sz o g w A n cap xs)
    {v : Value} {m : Nat} {news : List Value} (hxe : a.eval x = v) (hs : Src P sz tx v m news w) (h63 : n + m ≤ maxLen) (hbytes : (n + m) * bytes ≤ 140737488355328)
    (h : ∀ A' cap' w' g', Ext (· = o) g w g' w' → App e sz o g' w' A' (n + m) cap' (xs ++ news) → Lies g w A n cap g' w' A' cap' → wpList P ops Q rest (a.put op.dst (.slice A' (n + m) cap')) w') : wpList P ops Q (op :: rest) a w :=
  wpList_step fun _ hK => by
    rw [if_pos hgd]
    exact wp_append_app s x t tx hop e i z sz bytes ht hi hz hsize hby hzs hsz hse ha hxe hs h63 hbytes fun A' cap' w' g' h1 h2 h3 => hK _ _ (h A' cap' w' g' h1 h2 h3)
end
def fS (k : Nat) : ByteArray := ⟨#[.ofNat (97 + k / 256), .ofNat (97 + k / 16 % 16), .ofNat (97 + k % 16)]⟩
theorem fS_add (c : UInt8) (k : Nat) : (⟨#[47, 47, c, 47]⟩ : ByteArray) ++ fS k = fP c k := by
  apply ba_data
  simp [fS, fP, ByteArray.data_append]
theorem fS_run (k : Nat) (hk : k < 1024) (x : World) : (convert 30 9 (.slice (some ⟨x.heap.size, 0, none⟩) 3 3)).run Tryz.prog (x.alloc (.cells #[.int .u8 (97 + (k : Int) / 256), .int .u8 (97 + (k : Int) / 16 % 16), .int .u8 (97 + (k : Int) % 16)] 5)) = .ok (.string (fS k)) (x.alloc (.cells #[.int .u8 (97 + (k : Int) / 256), .int .u8 (97 + (k : Int) / 16 % 16), .int .u8 (97 + (k : Int) % 16)] 5)) := by
  have h := (BytesAt.lit (⟨fun _ => 0, fun _ => 0⟩ : Gh) x [.ofNat (97 + k / 256), .ofNat (97 + k / 16 % 16), .ofNat (97 + k % 16)] (0, 0) (by simp)).str
  have e : (bv [.ofNat (97 + k / 256), .ofNat (97 + k / 16 % 16), .ofNat (97 + k % 16)]).toArray = #[Value.int .u8 (97 + (k : Int) / 256), .int .u8 (97 + (k : Int) / 16 % 16), .int .u8 (97 + (k : Int) % 16)] := by
    have e1 : (((97 + k / 256) % 256 : Nat) : Int) = 97 + (k : Int) / 256 := by omega
    have e2 : (((97 + k / 16 % 16) % 256 : Nat) : Int) = 97 + (k : Int) / 16 % 16 := by omega
    have e3 : (((97 + k % 16) % 256 : Nat) : Int) = 97 + (k : Int) % 16 := by omega
    simp only [bv, u8v, List.map_cons, List.map_nil, UInt8.toNat_ofNat', Nat.reducePow]
    rw [e1, e2, e3]
  rw [e] at h
  exact h
theorem fL_succ (k : Nat) : celH ((List.range (k + 1)).map fH) = celH ((List.range k).map fH) ++ [.string (fP 100 k), .int .i64 1, .string (fP 99 k)] := by
  rw [List.range_succ, List.map_append, celH_append]
  rfl

set_option maxRecDepth 100000 in
set_option maxHeartbeats 6400000 in
theorem full_any (g : Gh) (w : World) (n : Int) (hn1 : -9223372036854775808 ≤ n) (hn2 : n ≤ 9223372036854775807) : Calls Tryz.prog 3 #[.int .i64 n] w fun e w' => e = .returned (.bool true) ∧ ∃ g', Ext (fun o => w.heap.size ≤ o) g w g' w' := by
  go_enter Tryz.func3, Tryz.ntmps3
  go_wp2_with fail
  refine (gnewN g w).mono ?_
  rintro e w1 ⟨d, g1, rfl, hd, hx1, hD1⟩
  have HX1 : Hid (Ext (fun o => w.heap.size ≤ o) g w g1 w1) := hx1.imp (fun _ h => h.elim)
  have HD1 := Lib.hid hD1
  have HDE := Lib.hid hd
  have hd0 : w.heap.size + 1 < d := by omega
  have hdl := hD1.lt
  clear hx1 hD1 hd
  go_wp2_with fail
  refine (qopen_new d g1 w1 HD1.out ⟨#[104]⟩ hN_ok).mono ?_
  rintro e w2 ⟨b, hb, rfl, g2, hx2, hS2⟩
  have hsz1 := HX1.out.size
  have hsz2 := hx2.size
  have HX2 := Lib.hid (HX1.out.trans (hx2.imp (fun o h => show w.heap.size ≤ o by omega)))
  have HS2 := Lib.hid hS2
  have hbl : b < w2.heap.size := by
    obtain ⟨k, D, o0, o1, _, hQ⟩ := hS2
    exact hQ.hv.lt
  clear hx2 hS2 HX1 HD1
  go_wp2_with fail
  refine (known_any g2 w2).mono ?_
  rintro e w3 ⟨rfl, g3, hx3⟩
  have hsz3 := hx3.size
  have HX3 := Lib.hid (HX2.out.trans (hx3.imp (fun o h => show w.heap.size ≤ o by omega)))
  have HS3 := Lib.hid (HS2.out.ext hx3 (by omega) (by omega))
  clear hx3 HX2 HS2
  go_wp2_with fail
  have HA3 : Hid (App 32 3 (w.heap.size + 1) g3 w3 none 0 0 (celH ((List.range 0).map fH))) := App.nil _ _ _ _ _
  go_loopw [5, 6] (fun s5 i wr => ∃ (k : Nat) (A : Option Addr) (c : Nat) (gx : Gh), s5 = .slice A k c ∧ i = .int .i64 k ∧ k ≤ 1024 ∧ Ext (fun o => w.heap.size ≤ o) g w gx wr ∧ w3.heap.size ≤ wr.heap.size ∧ HvS gx wr b d ⟨#[104]⟩ 0 [] ∧ App 32 3 (w.heap.size + 1) gx wr A k c (celH ((List.range k).map fH))) (fun _ i _ => 1024 - (intOf i).toNat)
  case atStart => exact ⟨0, none, 0, g3, rfl, rfl, Nat.zero_le _, HX3.out, Nat.le_refl _, HS3.out, HA3.out⟩
  case round =>
    obtain ⟨k, A, c, gx, rfl, rfl, hk, hxr, hsr, hsv, hap⟩ := hrel
    have HXR := Lib.hid hxr
    have HSV := Lib.hid hsv
    have HAP := Lib.hid hap
    clear HX3 HS3 HA3 hxr hsv hap
    by_cases hlt : k < 1024
    · have hlt' : (k : Int) < 1024 := by omega
      have hsr2 := fS_run k hlt wr
      have hwl : wr.heap.size ≤ (wr.alloc (.cells #[.int .u8 (97 + (k : Int) / 256), .int .u8 (97 + (k : Int) / 16 % 16), .int .u8 (97 + (k : Int) % 16)] 5)).heap.size := by simp
      have hyr := (Ext.refl (fun _ => False) gx wr).alloc (.cells #[.int .u8 (97 + (k : Int) / 256), .int .u8 (97 + (k : Int) / 16 % 16), .int .u8 (97 + (k : Int) % 16)] 5)
      generalize hyw : wr.alloc (.cells #[.int .u8 (97 + (k : Int) / 256), .int .u8 (97 + (k : Int) / 16 % 16), .int .u8 (97 + (k : Int) % 16)] 5) = y at *
      have hzr := hyr.alloc (.cells #[.string (fP 100 k), .int .i64 1, .string (fP 99 k)] 32)
      have hs0 := src_hv y (.string (fP 100 k)) (.int .i64 1) (.string (fP 99 k)) rfl rfl rfl
      rw [show y.heap.size = wr.heap.size + 1 by rw [← hyw]; simp] at hs0
      have HS := Lib.hid hs0
      have HA := Lib.hid (HAP.out.ext hzr (fun h => h))
      have HV := Lib.hid (HSV.out.ext hzr (fun h => h) (fun h => h))
      have HX := Lib.hid (HXR.out.trans (hzr.imp (fun o (h : False) => (h.elim : w.heap.size ≤ o))))
      have hzs : y.heap.size < (y.alloc (.cells #[.string (fP 100 k), .int .i64 1, .string (fP 99 k)] 32)).heap.size := by simp
      have f1 := fS_add 100 k
      have f2 := fS_add 99 k
      obtain ⟨i0, hi, hz0, hz1, hz2⟩ := info_parts Tryz.infoHave
      subst hyw
      clear hyr hzr hs0
      go_wp2_with (at_builtin; go_loud (refine wpList_append_app rfl _ _ _ _ rfl 32 i0 (.agg #[.string ⟨#[]⟩, .int .i64 0, .string ⟨#[]⟩]) 3 40 Tryz.underlying29 hi hz0 hz1 hz2 rfl (by decide) rfl HA.out rfl HS.out (by unfold maxLen; omega) (by omega) ?_); intro A' cap' w7 g7 hx7 ha7 hl7)
      have hsz7 := hx7.size
      have HX7 := Lib.hid (HX.out.trans (hx7.imp (fun o h => show w.heap.size ≤ o by omega)))
      have HV7 := Lib.hid (HV.out.ext hx7 (by omega) (by omega))
      rw [← fL_succ] at ha7
      have HA7 := Lib.hid ha7
      clear hx7 ha7 hl7
      go_wp2_with fail
      go_round
      case rel => exact ⟨k + 1, A', cap', g7, rfl, by go_num, by omega, HX7.out, by omega, HV7.out, HA7.out⟩
      case measure => simp [intOf]; omega
    · obtain rfl : k = 1024 := by omega
      have hxr0 := HXR.out
      obtain ⟨m, hm⟩ : ∃ m : Nat, foldI n 1024 = (m : Int) := ⟨(foldI n 1024).toNat, by have := (foldI_lt (v := n) (n := 1024) (by decide)).1; omega⟩
      have hm2 : m < 1024 := by have := (foldI_lt (v := n) (n := 1024) (by decide)).2; omega
      have HST := Lib.hid (full_steps m hm2)
      have hlL : fL.length = 1024 := by simp [fL]
      have HLL := Lib.hid hlL
      have HMI := Lib.hid hm
      have HR0 := Lib.hid HAP.out.rd
      clear hxr0 hm hlL
      go_wp2_with fail
      refine (fold_any n 1024 wr hn1 hn2 (by omega)).mono ?_
      rintro e w4 ⟨rfl, rfl⟩
      rw [HMI.out]
      have hx5 := Ext.lit (fun _ => False) gx wr (.cells (celH [fZ]).toArray 32) (1 * 3)
      have HX5 := Lib.hid (HXR.out.trans (hx5.imp (fun o (h : False) => (h.elim : w.heap.size ≤ o))))
      have HV5 := Lib.hid (HSV.out.ext hx5 (fun h => h) (fun h => h))
      have HA5 := Lib.hid (HAP.out.ext hx5 (fun h => h))
      have HZ5 := Lib.hid (Rd.lit 3 gx wr (celH [fZ]) 32 (0, 0) 1 rfl)
      have hsz5 := hx5.size
      have HW5 : Hid (wr.alloc (.cells #[.string fZ.path, .int .i64 1, .string fZ.loc] 32) = wr.alloc (.cells (celH [fZ]).toArray 32)) := rfl
      generalize gx.lit wr.heap.size (1 * 3) = g5 at *
      have HRP := Lib.hid (qreplace g5 _ b d _ 0 [] HV5.out (by omega) A c fL (by rw [HLL.out]; exact HA5.out.rd) (by rw [HLL.out]; omega) (fun h hh => by obtain ⟨i, _, rfl⟩ := List.mem_map.1 hh; show 1 < _; decide))
      have hrp := HRP.out
      rw [HLL.out] at hrp
      have HRP2 := Lib.hid hrp
      clear hx5 hrp HRP
      go_wp2_with fail
      refine HRP2.out.mono ?_
      rintro e w6 ⟨rfl, g6, hx6, hv6⟩
      have e6 : repE [] fL = fL := if_pos HST.out.1
      rw [e6] at hv6
      rw [HST.out.1]
      have hsz6 := hx6.size
      have HX6 := Lib.hid (HX5.out.trans (hx6.imp (fun o h => show w.heap.size ≤ o by omega)))
      have HV6 := Lib.hid hv6
      have HA6 := Lib.hid (HA5.out.ext hx6 (by omega))
      have HZ6 := Lib.hid (HZ5.out.ext hx6)
      clear hx6 hv6 e6 HX5 HV5 HA5 HZ5 HRP2
      go_wp2_with fail
      refine (qset g6 w6 b d _ 1 fL HV6.out (by omega) _ 1 [fZ] HZ6.out (by decide) (by decide)).mono ?_
      rintro e w7 ⟨rfl, g7, hx7, hv7⟩
      have e7 : setE fL [fZ] = fL := if_neg (by rw [HST.out.2.1]; decide)
      rw [e7] at hv7
      rw [HST.out.2.1]
      have hsz7 := hx7.size
      have HX7 := Lib.hid (HX6.out.trans (hx7.imp (fun o h => show w.heap.size ≤ o by omega)))
      have HV7 := Lib.hid hv7
      have HA7 := Lib.hid (HA6.out.ext hx7 (by omega))
      have HZ7 := Lib.hid (HZ6.out.ext hx7)
      clear hx7 hv7 e7 HX6 HV6 HA6 HZ6
      obtain ⟨b0, off, hA, _, hbx, hc⟩ := HA7.out.rd.at_ (by omega)
      subst hA
      have hg : fL[m]? = some (fH m) := by simp [fL, hm2]
      have c0 := hc _ _ (celH_get fL m 0 (fH m) hg (by omega))
      simp only [Nat.add_zero] at c0
      have hm3 : (m : Int) < 1024 := by omega
      clear hc hg
      go_wp2_with fail
      refine (qdrop_lit g7 w7 b d _ _ fL HV7.out (by omega) [(fH m).path] _ (by simp) 0 HST.out.2.2.1 (dropE fL [(fH m).path]) (if_pos HST.out.2.2.1)).mono ?_
      rintro e w8 ⟨rfl, g8, hx8, hv8⟩
      have hsz8 := hx8.size
      have HX8 := Lib.hid (HX7.out.trans (hx8.imp (fun o h => show w.heap.size ≤ o by omega)))
      have HV8 := Lib.hid hv8
      have HA8 := Lib.hid (HA7.out.ext hx8 (by omega))
      have HZ8 := Lib.hid (HZ7.out.ext hx8)
      clear hx8 hv8 HX7 HV7 HA7 HZ7 c0
      obtain ⟨E8, hE8⟩ : ∃ E8, dropE fL [(fH m).path] = E8 := ⟨_, rfl⟩
      have HST2 := HST
      rw [hE8] at HV8 HST2
      have HST3 := Lib.hid HST2.out.2.2.2
      clear HST2 hE8
      go_wp2_with fail
      refine (qset g8 w8 b d _ 3 E8 HV8.out (by omega) _ 1 [fZ] HZ8.out (by decide) (by decide)).mono ?_
      rintro e w9 ⟨rfl, g9, hx9, hv9⟩
      have e9 : setE E8 [fZ] = putAll E8 [fZ] := if_pos HST3.out.1
      rw [e9] at hv9
      rw [HST3.out.1]
      have hsz9 := hx9.size
      have HX9 := Lib.hid (HX8.out.trans (hx9.imp (fun o h => show w.heap.size ≤ o by omega)))
      have HV9 := Lib.hid hv9
      have HA9 := Lib.hid (HA8.out.ext hx9 (by omega))
      have HZ9 := Lib.hid (HZ8.out.ext hx9)
      clear hx9 hv9 e9 HX8 HV8 HA8 HZ8
      have hcle := HA9.out.le
      have hcmx := HA9.out.mx
      have HS1 : Hid (Rd 3 g9 w9 (some ⟨b0, off + m * 3, none⟩) 1 (celH [fH m])) := by
        refine ⟨rfl, fun _ => ?_⟩
        obtain ⟨b1, off1, hA, hF, hbl1, hc⟩ := HA9.out.rd.at_ (by omega)
        injection hA with hA
        injection hA with hA1 hA2
        subst hA1 hA2
        refine ⟨b0, off + m * 3, rfl, by omega, hbl1, fun j u hu => ?_⟩
        have hj : j < 3 := by
          have := (List.getElem?_eq_some_iff.1 hu).1
          simpa [celH_len] using this
        have hg : fL[m]? = some (fH m) := by simp [fL, hm2]
        have h1 := celH_get fL m j (fH m) hg hj
        have h2 := celH_get [fH m] 0 j (fH m) rfl hj
        rw [Nat.zero_mul, Nat.zero_add] at h2
        rw [h2] at hu
        rw [← h1] at hu
        have := hc (m * 3 + j) u hu
        rwa [← Nat.add_assoc] at this
      have hm4 : (m : Int) + 1 ≤ c := by unfold maxLen at hcmx; omega
      unfold maxLen at hcmx
      go_wp2_with fail
      refine (qset g9 w9 b d _ 4 (putAll E8 [fZ]) HV9.out (by omega) _ _ [fH m] HS1.out (by simp) (fun h hh => by rw [List.mem_singleton] at hh; subst hh; show 1 < _; decide)).mono ?_
      rintro e w10 ⟨rfl, g10, hx10, hv10⟩
      have e10 : setE (putAll E8 [fZ]) [fH m] = putAll E8 [fZ] := if_neg (by rw [HST3.out.2.1]; decide)
      rw [e10] at hv10
      rw [HST3.out.2.1]
      have hsz10 := hx10.size
      have HX10 := Lib.hid (HX9.out.trans (hx10.imp (fun o h => show w.heap.size ≤ o by omega)))
      have HA10 := Lib.hid (HA9.out.ext hx10 (by omega))
      have HZ10 := Lib.hid (HZ9.out.ext hx10)
      obtain ⟨k, D, o0, o1, hk, hQ⟩ := hv10
      have HQ := Lib.hid hQ
      clear hx10 e10 HX9 HV9 HA9 HZ9 HS1 hQ
      go_wp2_with fail
      refine (hall_any HQ.out.hv).mono ?_
      rintro e w11 ⟨rfl, hb11, _⟩
      rw [HST3.out.2.2]
      have hx11 := Ext.of_below (fun _ => False) g10 hb11
      have hsz11 := hb11.size
      have HX11 := Lib.hid (HX10.out.trans (hx11.imp (fun o (h : False) => (h.elim : w.heap.size ≤ o))))
      have HA11 := Lib.hid (HA10.out.ext hx11 (fun h => h))
      have HZ11 := Lib.hid ((HZ10.out.ext hx11).src (P := Tryz.prog) Tryz.underlying29 1 (fun u hu => by
        simp only [celH, List.flatMap_cons, List.flatMap_nil, List.append_nil, Hv.cells, List.mem_cons, List.not_mem_nil, or_false] at hu
        rcases hu with rfl | rfl | rfl <;> rfl) (fun e => by cases e))
      obtain ⟨i0, hi, hz0, hz1, hz2⟩ := info_parts Tryz.infoHave
      clear hb11 hx11 HX10 HA10 HZ10 HQ
      go_wp2_with (at_builtin; go_loud (refine wpList_append_app_g (by first | rfl | simp [Region.wanted, yielded, go_sem]) _ _ _ _ rfl 32 i0 (.agg #[.string ⟨#[]⟩, .int .i64 0, .string ⟨#[]⟩]) 3 40 Tryz.underlying29 hi hz0 hz1 hz2 rfl (by decide) rfl HA11.out rfl HZ11.out (by unfold maxLen; omega) (by omega) ?_); intro A' cap' w12 g12 hx12 ha12 hl12)
      have HX12 := Lib.hid (HX11.out.trans (hx12.imp (fun o h => show w.heap.size ≤ o by omega)))
      have hrd : Rd 3 g12 w12 A' (fL ++ [fZ]).length (celH (fL ++ [fZ])) := by
        rw [celH_append, List.length_append, HLL.out]
        exact ha12.rd
      have hck := hcheck_any g12 w12 A' cap' (fL ++ [fZ]) hrd (by rw [List.length_append, HLL.out]; decide)
      have hc1 : checkH (fL ++ [fZ]) = 342 := by
        unfold checkH
        rw [if_pos (by rw [List.length_append, HLL.out]; decide)]
      rw [hc1, show (fL ++ [fZ]).length = 1025 by rw [List.length_append, HLL.out]; rfl] at hck
      have HCK := Lib.hid hck
      clear hx12 ha12 hl12 hrd hck hc1 HX11 HA11 HZ11
      go_wp2_with fail
      refine HCK.out.mono ?_
      rintro e w13 ⟨rfl, hb13⟩
      have HX13 := Lib.hid (HX12.out.trans ((Ext.of_below (fun _ => False) g12 hb13).imp (fun o (h : False) => (h.elim : w.heap.size ≤ o))))
      clear hb13
      go_wp2_with fail
      go_ret
      exact ⟨rfl, g12, HX13.out⟩

end Go.Proofs.YtjjdffafibonhaaGreatDoor
