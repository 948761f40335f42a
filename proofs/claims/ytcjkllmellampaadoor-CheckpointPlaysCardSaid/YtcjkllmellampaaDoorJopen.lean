/-
  Open, where no file has the journal's name, and where it is refused.
-/
import Derived.Test.YtcjkllmellampaaDoorCut
namespace Go.Proofs.YtcjkllmellampaaDoor
open Go.RowKit

def jrn0 (name : ByteArray) : Jrn := ⟨name, 0, [], [], 0, false, false⟩
theorem namesOk_of (name : ByteArray) (sfx : List UInt8) (h : nmB false 40 name = true) (hs : sfx.length ≤ 10) (ho : sfx.all (okc true) = true) : nmB true 64 (name ++ ⟨sfx.toArray⟩) = true := by
  unfold nmB at h ⊢
  simp only [Bool.and_eq_true, decide_eq_true_eq] at h ⊢
  obtain ⟨⟨h1, h2⟩, h3⟩ := h
  have hz : (name ++ (⟨sfx.toArray⟩ : ByteArray)).size = name.size + sfx.length := by
    rw [ByteArray.size_append]; rfl
  refine ⟨⟨by omega, by omega⟩, ?_⟩
  have hd : (name ++ (⟨sfx.toArray⟩ : ByteArray)).data.toList = name.data.toList ++ sfx := by
    rw [ByteArray.data_append]; simp
  rw [hd, List.all_append, ho, Bool.and_true, List.all_eq_true]
  intro c hc
  have := (List.all_eq_true.1 h3) c hc
  unfold okc at this ⊢
  simp only [Bool.false_and, Bool.or_false, Bool.true_and] at this ⊢
  rw [this]; rfl
theorem JOk.names {name : ByteArray} (h : nmB false 40 name = true) {J : Jrn} (hn : J.name = name) : J.name.size ≤ 40 ∧ namesOk [J.file] = true ∧ namesOk [J.fresh] = true ∧ namesOk [J.fresh, J.file] = true := by
  subst hn
  have h1 := namesOk_of J.name [46, 108, 111, 103] h (by decide) (by decide)
  have h2 := namesOk_of J.name [46, 110, 101, 119] h (by decide) (by decide)
  refine ⟨?_, ?_, ?_, ?_⟩
  · unfold nmB at h
    simp only [Bool.and_eq_true, decide_eq_true_eq] at h
    exact h.1.2
  · simp only [namesOk, Jrn.file, List.all_cons, List.all_nil, Bool.and_true]; exact h1
  · simp only [namesOk, Jrn.fresh, List.all_cons, List.all_nil, Bool.and_true]; exact h2
  · simp only [namesOk, Jrn.file, Jrn.fresh, List.all_cons, List.all_nil, Bool.and_true, Bool.and_eq_true]; exact ⟨h2, h1⟩
/-- A journal that has just been made. -/
theorem JAt.new (g : Gh) (w : World) (d : Nat) (name : ByteArray) : JAt (g.box w.heap.size) (w.alloc (.cells #[.pointer (some ⟨d, 0, none⟩), .string name, .int .i64 0, .slice none 0 0, .slice none 0 0, .int .i64 0, .bool false, .bool false] 89)) w.heap.size d (jrn0 name) :=
  ⟨none, 0, [], none, 0, [], Blk.new w 89 (jCs d none 0 none 0 (jrn0 name)), App.nil _ _ _ _ _, trivial, App.nil _ _ _ _ _, trivial, fun h => absurd h (Nat.lt_irrefl _), g.box_O _, g.box_F _⟩

set_option maxRecDepth 100000 in
theorem open_bad (d : Nat) (w : World) (name : ByteArray) (hs : name.size ≤ 9223372036854775807) (h : nmB false 40 name = false) :
    Calls Tryd.prog 31 #[.pointer (some ⟨d, 0, none⟩), .string name] w fun e w' => e = .returned (.tuple #[.pointer none, .int .i64 314]) ∧ w = w' := by
  go_enter Tryd.func31, Tryd.ntmps31
  go_wp2_with fail
  refine (jname_any name w hs).mono ?_
  rw [h]
  rintro e w' ⟨rfl, rfl⟩
  go_wp2_with fail
  go_ret2
  exact ⟨rfl, rfl⟩

/-- What Open leaves: a new journal. -/
def OpenP (d : Nat) (g : Gh) (w : World) (J : Jrn) (e : Ending) (w' : World) : Prop := ∃ j g', e = .returned (.tuple #[.pointer (some ⟨j, 0, none⟩), .int .i64 0]) ∧ w.heap.size ≤ j ∧ Ext (fun _ => False) g w g' w' ∧ JAt g' w' j d J

set_option maxRecDepth 100000 in
theorem open_none (d : Nat) (g : Gh) (w : World) (D : Dev) (hD : DevAt g w d D) (name : ByteArray) (h : nmB false 40 name = true) (hdn : D.down = false) (hm : D.now.m (jrn0 name).file = none) :
    Calls Tryd.prog 31 #[.pointer (some ⟨d, 0, none⟩), .string name] w (OpenP d g w (jrn0 name)) := by
  obtain ⟨n0, n1, n2, n3⟩ := JOk.names h (J := jrn0 name) rfl
  have hx := Ext.box (fun _ => False) g w (.cells #[.pointer (some ⟨d, 0, none⟩), .string name, .int .i64 0, .slice none 0 0, .slice none 0 0, .int .i64 0, .bool false, .bool false] 89)
  have hJ := JAt.new g w d name
  have HX := Lib.hid hx
  have HJ := Lib.hid hJ
  have HD := Lib.hid (hD.ext hx (fun h => h))
  clear hx hJ hD
  go_enter Tryd.func31, Tryd.ntmps31
  go_wp2_with fail
  refine (jname_any name w (by have : name.size ≤ 40 := n0; omega)).mono ?_
  rw [h]
  rintro e w' ⟨rfl, rfl⟩
  go_wp2_with fail
  refine (jfile_any w.heap.size d _ _ (jrn0 name) HJ.out n0).mono ?_
  rintro e w' ⟨rfl, rfl⟩
  go_wp2_with fail
  refine (dread_any d 0 _ _ D HD.out (jrn0 name).file n1).mono ?_
  rintro e w2 ⟨A, cap, g2, hx2, rfl, _⟩
  have HX2 := Lib.hid hx2
  clear hx2
  rw [hdn, hm]
  go_wp2_with fail
  go_ret2
  exact ⟨w.heap.size, g2, rfl, Nat.le_refl _, HX.out.trans HX2.out, HJ.out.ext HX2.out (fun h => h)⟩

end Go.Proofs.YtcjkllmellampaaDoor
