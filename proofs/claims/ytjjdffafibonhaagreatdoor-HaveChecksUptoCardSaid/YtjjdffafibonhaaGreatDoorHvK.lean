/-
  The chapter's example.
-/
import Derived.Test.YtjjdffafibonhaaGreatDoorHvY
namespace Go.Proofs.YtjjdffafibonhaaGreatDoor
open Go.RowKit

/-- The name of the list. -/
theorem hN_ok : nmB false 40 ⟨#[104]⟩ = true := by decide
theorem qopen_new (d : Nat) (g : Gh) (w : World) (hD : DevAt g w d dev0) (name : ByteArray) (h : nmB false 40 name = true) :
    Calls Tryz.prog 10 #[.pointer (some ⟨d, 0, none⟩), .string name] w fun e w' => ∃ b, w.heap.size ≤ b ∧ e = .returned (.tuple #[.pointer (some ⟨b, 0, none⟩), .int .i64 0]) ∧ ∃ g', Ext (fun o => w.heap.size ≤ o) g w g' w' ∧ HvS g' w' b d name 0 [] := by
  have hdl := hD.lt
  refine (hopen_any d g w dev0 hD rfl name h none none (SlotIs.zero rfl) (SlotIs.zero rfl) [] rfl HvOk.nil (fun h hh => by cases hh) rfl).mono ?_
  rintro e w' ⟨b, hb, rfl, g', hx, hv⟩
  exact ⟨b, hb, rfl, g', hx, 0, dev0, none, none, Nat.le_refl _, hv, hD.ext hx (by omega), Quiet.dev0, h, SlotIs.zero rfl, SlotIs.zero rfl, rfl, rfl, rfl, by omega, fun h hh => by cases hh⟩

theorem Rd.lit (sz : Nat) (g : Gh) (w : World) (cs : List Value) (T : TypeId) (fr : Nat × Nat) (n : Nat) (h : cs.length = n * sz) : Rd sz (g.lit w.heap.size (n * sz)) (w.alloc (.cells cs.toArray T fr)) (some ⟨w.heap.size, 0, none⟩) n cs := by
  refine ⟨h, fun _ => ⟨w.heap.size, 0, rfl, ?_, by simp, fun j u hu => ?_⟩⟩
  · simp [Gh.lit]
  · rw [Nat.zero_add, cell_at (heap_alloc_new w _)]
    simpa using hu

set_option maxRecDepth 100000 in
theorem qset_lit (g : Gh) (w : World) (b d : Nat) (name : ByteArray) (n : Nat) (E : List Hv) (h : HvS g w b d name n E) (hn : n ≤ 250) (l : List Hv) (fr : Nat × Nat) (hl : l.length ≤ 100000) (hnum : ∀ h ∈ l, h.num < 4611686018427387904) (i : Int) (hi : setI E l = i) (E' : List Hv) (hE : setE E l = E') :
    Calls Tryz.prog 15 #[.pointer (some ⟨b, 0, none⟩), .slice (some ⟨w.heap.size, 0, none⟩) l.length l.length] (w.alloc (.cells (celH l).toArray 32 fr)) fun e x' => e = .returned (.int .i64 i) ∧ ∃ g', Ext (fun o => o = d ∨ o = b ∨ w.heap.size ≤ o) g w g' x' ∧ HvS g' x' b d name (n + 1) E' := by
  have hx := Ext.lit (fun _ => False) g w (.cells (celH l).toArray 32 fr) (l.length * 3)
  have hsz : w.heap.size ≤ (w.alloc (.cells (celH l).toArray 32 fr)).heap.size := by simp
  subst hi hE
  refine (qset _ _ b d name n E (h.ext hx (fun h => h) (fun h => h)) hn _ l.length l (Rd.lit 3 g w (celH l) 32 fr l.length (celH_len l)) hl hnum).mono ?_
  rintro e x' ⟨he, g', hx', hs⟩
  exact ⟨he, g', (hx.imp (fun o (h : False) => h.elim)).trans (hx'.imp (fun o h => h.elim .inl (fun h => .inr (h.elim .inl (fun h => .inr (Nat.le_trans hsz h)))))), hs⟩
set_option maxRecDepth 100000 in
theorem qdrop_lit (g : Gh) (w : World) (b d : Nat) (name : ByteArray) (n : Nat) (E : List Hv) (h : HvS g w b d name n E) (hn : n ≤ 250) (l : List ByteArray) (fr : Nat × Nat) (hl : l.length ≤ 100000) (i : Int) (hi : dropI E l = i) (E' : List Hv) (hE : drpE E l = E') :
    Calls Tryz.prog 16 #[.pointer (some ⟨b, 0, none⟩), .slice (some ⟨w.heap.size, 0, none⟩) l.length l.length] (w.alloc (.cells (l.map Value.string).toArray 9 fr)) fun e x' => e = .returned (.int .i64 i) ∧ ∃ g', Ext (fun o => o = d ∨ o = b ∨ w.heap.size ≤ o) g w g' x' ∧ HvS g' x' b d name (n + 1) E' := by
  have hx := Ext.lit (fun _ => False) g w (.cells (l.map Value.string).toArray 9 fr) (l.length * 1)
  have hsz : w.heap.size ≤ (w.alloc (.cells (l.map Value.string).toArray 9 fr)).heap.size := by simp
  subst hi hE
  refine (qdrop _ _ b d name n E (h.ext hx (fun h => h) (fun h => h)) hn _ l.length l (Rd.lit 1 g w (l.map Value.string) 9 fr l.length (by simp)) hl).mono ?_
  rintro e x' ⟨he, g', hx', hs⟩
  exact ⟨he, g', (hx.imp (fun o (h : False) => h.elim)).trans (hx'.imp (fun o h => h.elim .inl (fun h => .inr (h.elim .inl (fun h => .inr (Nat.le_trans hsz h)))))), hs⟩

def kA : List Hv := [⟨⟨#[47, 47, 100, 47, 97]⟩, 1, ⟨#[47, 47, 99, 47, 97]⟩⟩, ⟨⟨#[47, 47, 100, 47, 98]⟩, 2, ⟨#[47, 47, 99, 47, 98]⟩⟩]
def kB : List Hv := [⟨⟨#[47, 47, 100, 47, 97]⟩, 1, ⟨#[47, 47, 99, 47, 98]⟩⟩, ⟨⟨#[47, 47, 100, 47, 98]⟩, 2, ⟨#[47, 47, 99, 47, 97]⟩⟩]
def kC : List Hv := [⟨⟨#[47, 47, 100, 47, 99]⟩, 1, ⟨#[47, 47, 99, 47, 97]⟩⟩]
theorem pA : putAll [] kA = kA := by kernel_rfl
theorem pB : putAll kA kB = kB := by kernel_rfl
theorem pC : (putAll kB kC).map (·.loc) = [⟨#[47, 47, 99, 47, 98]⟩, ⟨#[47, 47, 99, 47, 97]⟩, ⟨#[47, 47, 99, 47, 97]⟩] := by kernel_rfl
theorem sA : setI [] kA = 0 := by
  unfold setI
  rw [if_neg (by decide +kernel), if_neg (fun h => h (by rw [pA]; decide +kernel)), if_neg (by rw [pA]; decide +kernel)]
theorem sB : setI kA kB = 0 := by
  unfold setI
  rw [if_neg (by decide +kernel), if_neg (fun h => h (by rw [pB]; decide +kernel)), if_neg (by rw [pB]; decide +kernel)]
theorem sC : setI kB kC = 341 := by
  unfold setI
  rw [if_neg (by decide +kernel), if_pos (by rw [pC]; decide +kernel)]
theorem sD : dropI kB [⟨#[47, 47, 100, 47, 99]⟩] = 343 := by kernel_rfl

theorem kA_nu : ∀ h ∈ kA, h.num < 4611686018427387904 := by decide
theorem kB_nu : ∀ h ∈ kB, h.num < 4611686018427387904 := by decide
theorem kC_nu : ∀ h ∈ kC, h.num < 4611686018427387904 := by decide

set_option maxRecDepth 100000 in
set_option maxHeartbeats 6400000 in
theorem known_any (g : Gh) (w : World) : Calls Tryz.prog 12 #[] w fun e w' => e = .returned (.bool true) ∧ ∃ g', Ext (fun o => w.heap.size ≤ o) g w g' w' := by
  go_enter Tryz.func12, Tryz.ntmps12
  go_wp2_with fail
  refine (gnew g w).mono ?_
  rintro e w1 ⟨d, g1, rfl, hd, hx1, hD1⟩
  have HX1 : Hid (Ext (fun o => w.heap.size ≤ o) g w g1 w1) := hx1.imp (fun _ h => h.elim)
  have HD1 := Lib.hid hD1
  clear hx1 hD1
  go_wp2_with fail
  refine (qopen_new d g1 w1 HD1.out ⟨#[104]⟩ hN_ok).mono ?_
  rintro e w2 ⟨b, hb, rfl, g2, hx2, hS2⟩
  have hsz1 := HX1.out.size
  have HX2 := Lib.hid (HX1.out.trans (hx2.imp (fun o h => show w.heap.size ≤ o by omega)))
  have HS2 := Lib.hid hS2
  clear hx2 hS2 HX1 HD1
  go_wp2_with fail
  refine (qset_lit g2 w2 b d _ 0 [] HS2.out (by omega) kA _ (by decide) kA_nu 0 sA kA (by rw [setE, if_pos sA, pA])).mono ?_
  rintro e w3 ⟨rfl, g3, hx3, hS3⟩
  have hsz2 := HX2.out.size
  have HX3 := Lib.hid (HX2.out.trans (hx3.imp (fun o h => show w.heap.size ≤ o from h.elim (fun h => by omega) (fun h => h.elim (fun h => by omega) (fun h => by omega)))))
  have HS3 := Lib.hid hS3
  clear hx3 hS3 HX2 HS2
  go_wp2_with fail
  refine (qset_lit g3 w3 b d _ _ kA HS3.out (by omega) kB _ (by decide) kB_nu 0 sB kB (by rw [setE, if_pos sB, pB])).mono ?_
  rintro e w4 ⟨rfl, g4, hx4, hS4⟩
  have hsz3 := HX3.out.size
  have HX4 := Lib.hid (HX3.out.trans (hx4.imp (fun o h => show w.heap.size ≤ o from h.elim (fun h => by omega) (fun h => h.elim (fun h => by omega) (fun h => by omega)))))
  have HS4 := Lib.hid hS4
  clear hx4 hS4 HX3 HS3
  go_wp2_with fail
  refine (qset_lit g4 w4 b d _ _ kB HS4.out (by omega) kC _ (by decide) kC_nu 341 sC kB (by rw [setE, if_neg (by rw [sC]; decide)])).mono ?_
  rintro e w5 ⟨rfl, g5, hx5, hS5⟩
  have hsz4 := HX4.out.size
  have HX5 := Lib.hid (HX4.out.trans (hx5.imp (fun o h => show w.heap.size ≤ o from h.elim (fun h => by omega) (fun h => h.elim (fun h => by omega) (fun h => by omega)))))
  have HS5 := Lib.hid hS5
  clear hx5 hS5 HX4 HS4
  go_wp2_with fail
  refine (qdrop_lit g5 w5 b d _ _ kB HS5.out (by omega) [⟨#[47, 47, 100, 47, 99]⟩] _ (by decide) 343 sD kB (by rw [drpE, if_neg (by rw [sD]; decide)])).mono ?_
  rintro e w6 ⟨rfl, g6, hx6, hS6⟩
  have hsz5 := HX5.out.size
  have HX6 := Lib.hid (HX5.out.trans (hx6.imp (fun o h => show w.heap.size ≤ o from h.elim (fun h => by omega) (fun h => h.elim (fun h => by omega) (fun h => by omega)))))
  have HS6 := Lib.hid hS6
  clear hx6 hS6 HX5 HS5
  go_wp2_with fail
  obtain ⟨k, D, o0, o1, hk, hQ⟩ := HS6.out
  refine (hall_any hQ.hv).mono ?_
  rintro e w7 ⟨rfl, hb7, _⟩
  have HX7 := Lib.hid (HX6.out.trans ((Ext.of_below (fun _ => False) g6 hb7).imp (fun o (h : False) => (h.elim : w.heap.size ≤ o))))
  clear hb7 hQ HX6
  go_wp2_with fail
  go_ret
  exact ⟨rfl, g6, HX7.out⟩

end Go.Proofs.YtjjdffafibonhaaGreatDoor
