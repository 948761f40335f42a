/-
  The program's All: the leases of the table's map, in order.
-/
import Derived.Test.YtphoodnclmplhaaDoorTAll
import Derived.Test.YtphoodnclmplhaaDoorShelf
namespace Go.Proofs.YtphoodnclmplhaaDoor
open Go.RowKit

set_option maxHeartbeats 1000000 in
theorem insNone (p : Option Addr) (cap : Nat) (fv : Value) (w : World) : Calls Tryd.prog 72 #[.slice p 0 cap, .int .i64 0, .int .i64 0, fv] w fun e w' => e = .returned (.tuple #[]) ∧ w' = w := by
  go_enter Tryd.func72, Tryd.ntmps72
  go_wp2
  refine wp_loop_rounds 1 ?_
  rw [rounds_succ]
  go_wp2
  go_end0
  exact ⟨rfl, rfl⟩
set_option maxHeartbeats 1000000 in
theorem pdqNone (p : Option Addr) (cap : Nat) (lim : Int) (fv : Value) (w : World) : Calls Tryd.prog 64 #[.slice p 0 cap, .int .i64 0, .int .i64 0, .int .i64 lim, fv] w fun e w' => e = .returned (.tuple #[]) ∧ w' = w := by
  go_enter Tryd.func64, Tryd.ntmps64
  go_wp2
  refine wp_loop_rounds 1 ?_
  rw [rounds_succ]
  go_wp2_with (go_at_call 72; refine (insNone _ _ _ _).mono ?_; rintro e w' ⟨rfl, rfl⟩)
  (try simp only [Exit.inBlock, Exit.then]); refine bodyPost_ret (results_none rfl _ _ _) rfl ?_
  exact ⟨rfl, rfl⟩
set_option maxHeartbeats 1000000 in
theorem sortNone (cap : Nat) (fv : Value) (w : World) : Calls Tryd.prog 54 #[.slice none 0 cap, fv] w fun e w' => e = .returned (.tuple #[]) ∧ w' = w := by
  go_enter Tryd.func54, Tryd.ntmps54
  go_wp2_with (first
    | (go_at_call 65; refine (Tryd.bits_Len 0 _ (by omega) (by omega)).mono ?_; rintro e w' ⟨rfl, rfl⟩)
    | (go_at_call 64; refine (pdqNone _ _ _ _ _).mono ?_; rintro e w' ⟨rfl, rfl⟩))
  go_end0
  exact ⟨rfl, rfl⟩

/-- What the table says of its leases. -/
structure TOk (T : Tab) : Prop where
  path : ∀ x ∈ T.m, x.2.path = x.1
  isP : ∀ x ∈ T.m, isPathB x.1 = true
  once : (T.m.map (·.1)).Nodup
theorem TOk.okP {T : Tab} (h : TOk T) : ∀ x ∈ T.m.map (·.2), okP x = true := fun x hx => by
  obtain ⟨y, hy, rfl⟩ := List.mem_map.1 hx
  unfold Go.Proofs.YtphoodnclmplhaaDoor.okP
  rw [h.path y hy]
  exact h.isP y hy
theorem TOk.nodup {T : Tab} (h : TOk T) : ((T.m.map (·.2)).map (·.path)).Nodup := by
  have e : T.m.map ((fun l : Lease => l.path) ∘ fun x => x.2) = T.m.map (·.1) := List.map_congr_left fun x hx => h.path x hx
  rw [List.map_map, e]
  exact h.once
theorem TabInv.tok {k : Nat} {T : Tab} (h : TabInv k T) (ho : (T.m.map (·.1)).Nodup) : TOk T := ⟨fun x hx => (h.all x hx).path, fun x hx => (h.all x hx).isP, ho⟩
/-- All's result: a new slice of leases in order. -/
def TAllP (T : Tab) (w : World) (e : Ending) (w' : World) : Prop := AllP (T.m.map (·.2)) w e w'

set_option maxRecDepth 100000 in
set_option maxHeartbeats 1600000 in
theorem sorted_any (Bm b : Nat) (T : Tab) (hL : T.m.length ≤ 1000000) (w : World) (hBm : Bm < w.heap.size) (hm : w.cell? ⟨Bm, 0, none⟩ = some (.map (some b))) (hmap : MapIs b (encL T.m) w) (hok : TOk T) :
    Calls Tryd.prog 43 #[.func (.func 55) #[] #[.pointer (some ⟨Bm, 0, none⟩)], .func (.func 45) #[] #[]] w (TAllP T w) := by
  have HC := Lib.hid (collect_any Bm b T.m hL w hBm hm hmap)
  have HOK := Lib.hid hok
  clear hm hmap hok
  go_enter Tryd.func43, Tryd.ntmps43
  go_wp2_with fail
  refine HC.out.mono ?_
  rintro e w1 ⟨v, xs, rfl, hp, ho, hb⟩
  have hxl : xs.length = T.m.length := by have := hp.length_eq; simpa using this
  have hxn : ((xs.map (·.path))).Nodup := (hp.map (·.path)).nodup_iff.2 HOK.out.nodup
  have hxo : ∀ x ∈ xs, okP x = true := fun x hx => HOK.out.okP x (hp.mem_iff.1 hx)
  rcases ownsRow_cases ho with ⟨rfl, h0⟩ | ⟨g, cap, rfl, hgb, hgl, _, _⟩
  · have hx0 : xs = [] := List.eq_nil_of_length_eq_zero h0
    subst hx0
    have HB := Lib.hid hb
    have HP := Lib.hid hp
    clear ho hb hxl hxn hxo HC hp
    go_wp2_with fail
    refine (sortNone 0 _ w1).mono ?_
    rintro e w2 ⟨rfl, rfl⟩
    go_wp2_with fail
    go_ret
    exact ⟨[], none, 0, rfl, HP.out, List.Pairwise.nil, fun h => by simp at h, HB.out⟩
  · have HS := Lib.hid (callsSortL xs xs.length g cap w1 hxo hxn rfl (by omega) _ ho)
    have HB := Lib.hid hb
    have HP := Lib.hid hp
    clear ho hb hxl hxn hxo HC hp
    go_wp2_with fail
    refine HS.out.mono ?_
    rintro e w2 ⟨rfl, S, hp2, hs2, hat, hgl2, d', m, os, rfl⟩
    have hlen : xs.length = S.length := hp2.length_eq.symm
    have HL := Lib.hid hlen
    have HA := Lib.hid hat
    have HP2 := Lib.hid (hp2.trans HP.out)
    have HS2 := Lib.hid hs2
    have HB2 := Lib.hid (below_sortL encLA 5 HB.out g 0 m d' os hgb HB.out.size)
    generalize sortWorldK encLA 5 w1 g 0 m d' os = w2 at *
    clear hat hp2 hs2 HS hlen
    go_wp2_with fail
    go_ret
    exact ⟨S, some ⟨g, 0, none⟩, cap, by rw [HL.out]; rfl, HP2.out, HS2.out, fun _ => ⟨g, 0, rfl, hgl2, HA.out⟩, HB2.out⟩

set_option maxRecDepth 100000 in
set_option maxHeartbeats 1600000 in
theorem tall_any (b m : Nat) (T : Tab) (hL : T.m.length ≤ 1000000) (w : World) (hT : TabT b m T w) (hok : TOk T) :
    Calls Tryd.prog 19 #[.pointer (some ⟨b, 0, none⟩)] w (TAllP T w) := by
  have hT' : TabAt b m T.clk (encL T.m) w := hT
  obtain ⟨c0, c1, f0, f1, mp, lt, ne⟩ := hT'
  have hb0 := below_alloc1 w (.cells #[.map (some m)] 53)
  have HS := Lib.hid (sorted_any w.heap.size m T hL (w.alloc (.cells #[.map (some m)] 53)) (by simp) (Boxed.new w 53 (.map (some m))).cell (mp.alloc _) hok)
  have HV := Lib.hid ((callsIn_wide (n := 3)).1 (values_in Fence.wide 3 trivial rfl (some m) w))
  have HB0 := Lib.hid hb0
  clear hb0 mp
  go_enter Tryd.func19, Tryd.ntmps19
  go_wp2_with fail
  refine HV.out.mono ?_
  rintro e w1 ⟨rfl, rfl⟩
  go_wp2_with fail
  refine HS.out.mono ?_
  rintro e w2 ⟨S, A, cap, rfl, hp, hs, hl, hb⟩
  have HP := Lib.hid hp
  have HSS := Lib.hid hs
  have HL := Lib.hid hl
  have HB := Lib.hid (HB0.out.trans (hb.mono HB0.out.size))
  clear hp hs hl hb
  go_wp2_with fail
  go_ret
  exact ⟨S, A, cap, rfl, HP.out, HSS.out, HL.out, HB.out⟩

end Go.Proofs.YtphoodnclmplhaaDoor
