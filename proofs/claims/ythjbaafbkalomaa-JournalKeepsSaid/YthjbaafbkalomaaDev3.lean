/-
  The calls of the device on files with valid names.
-/
import Derived.Test.YthjbaafbkalomaaDev2
namespace Go.Proofs.Ythjbaafbkalomaa
open Go.RowKit

theorem DevAt.files {g : Gh} {w : World} {d : Nat} {D : Dev} (h : DevAt g w d D) : ∃ nm L, w.cell? ⟨d, 1, none⟩ = some (.map (some nm)) ∧ MapIs nm L w ∧ L.length = D.now.n ∧ ∀ k, (look L k = none ∧ D.now.m k = none) ∨ (∃ l A cap, look L k = some (.slice A l.length cap) ∧ D.now.m k = some l ∧ l.length ≤ 8388608 ∧ BytesAt g w (.slice A l.length cap) l) := by
  obtain ⟨km, nm, A, cap, xs, hb, hi⟩ := h
  obtain ⟨L, hL, hn, _⟩ := hi.now.ex
  refine ⟨nm, L, hb.cell 1, hL, hn, fun k => ?_⟩
  rcases hi.now.found hL k with h | ⟨l, A, cap, h1, h2, h3, h4⟩
  · exact .inl h
  · exact .inr ⟨l, A, cap, h1, h2, h3, A, cap, rfl, h4.le, h4.mx, fun hA => (h4.nz hA).1, h4.rd⟩
theorem check_valid {D : Dev} {file : ByteArray} {names : List ByteArray} (hd : D.down = false) (hn : namesOk names = true) : checkI D file names = if (D.now.m file).isNone then 301 else 0 := by
  unfold checkI
  rw [hd, hn]
  rfl
theorem check_down {D : Dev} {file : ByteArray} {names : List ByteArray} (hd : D.down = true) : checkI D file names = 303 := by
  unfold checkI
  rw [hd]
  rfl
theorem DevP.pre {d : Nat} {g g1 : Gh} {w w1 w' : World} {D : Dev} (hx : Ext (· = d) g w g1 w1) (h : DevP d g1 w1 D w') : DevP d g w D w' := by
  obtain ⟨g', h1, h2⟩ := h
  exact ⟨g', hx.trans h1, h2⟩
theorem BytesAt.of_new {g : Gh} {w : World} {A : Option Addr} {cap o : Nat} {l : List UInt8} {e : TypeId} (h : App e 1 o g w A l.length cap (bv l)) : BytesAt g w (.slice A l.length cap) l := ⟨A, cap, rfl, h.le, h.mx, fun hA => (h.nz hA).1, h.rd⟩

/-- What a call that is refused while the device is down, and else carries out an operation, leaves. -/
def actI (D : Dev) : Int := if D.down then 303 else doI D
def actD (D : Dev) (o : POp) : Dev := if D.down then D else doD D o

set_option maxRecDepth 100000 in
set_option maxHeartbeats 1600000 in
theorem dcreate_any (d : Nat) (g : Gh) (w : World) (D : Dev) (hD : DevAt g w d D) (k : ByteArray) (A : Option Addr) (c : Nat) (l : List UInt8) (hr : BytesAt g w (.slice A l.length c) l) (hnm : namesOk [k] = true) (hl : l.length ≤ 4194304) (hn : D.now.n < 256) (hpl : D.pend.length ≤ 1000000) :
    Calls Try.prog 51 #[.pointer (some ⟨d, 0, none⟩), .string k, .slice A l.length c] w fun e w' => e = .returned (.int .i64 (actI D)) ∧ DevP d g w (actD D ⟨0, k, ⟨#[]⟩, l, true⟩) w' := by
  have hx0 := Ext.box (· = d) g w (.cells ([k].map Value.string).toArray 9)
  have hx00 := Ext.box (fun _ => False) g w (.cells ([k].map Value.string).toArray 9)
  have hD1 := hD.ext hx00 (fun h => h)
  have HBK : Hid (Blk w.heap.size 9 ([k].map Value.string) (w.alloc (.cells ([k].map Value.string).toArray 9))) := Blk.new w _ _
  have HSZ : Hid (∀ s ∈ [k], s.size ≤ 9223372036854775807) := by
    intro s hs
    have h1 := List.all_eq_true.1 hnm s hs
    simp only [nmB, Bool.and_eq_true, decide_eq_true_eq] at h1
    omega
  have hr1 := hr.ext hx00
  generalize g.box w.heap.size = g1 at *
  have HX0 := Lib.hid hx0
  have HR := Lib.hid hr1
  clear hx0 hx00 hD hr hr1
  simp only [List.map_cons, List.map_nil] at HX0 HBK hD1 HR
  cases hdn : D.down
  rotate_left
  · have HI : Hid (actI D = 303) := by simp [Hid, actI, hdn]
    have HC : Hid (checkI D k [k] = 303) := check_down hdn
    have HDD : Hid (actD D ⟨0, k, ⟨#[]⟩, l, true⟩ = D) := by simp [Hid, actD, hdn]
    clear hdn
    go_enter Try.func51, Try.ntmps51
    go_wp2_with fail
    refine (check_any d g1 _ D hD1 k [k] w.heap.size _ HBK.out HSZ.out (by simp) (by simp)).mono ?_
    rw [HC.out]
    rintro e w1 ⟨rfl, rfl⟩
    go_wp2_with fail
    go_ret
    exact ⟨ret_int HI.out.symm, g1, HX0.out, by rw [HDD.out]; exact hD1⟩
  · have HI : Hid (actI D = doI D) := by simp [Hid, actI, hdn]
    have HDD : Hid (actD D ⟨0, k, ⟨#[]⟩, l, true⟩ = doD D ⟨0, k, ⟨#[]⟩, l, true⟩) := by simp [Hid, actD, hdn]
    have hcv := check_valid (file := k) hdn hnm
    clear hdn
    obtain ⟨nm, L, cnm, hL, hLn, hfind⟩ := hD1.files
    have hln := fun ty => hL.run_len (P := Try.prog) Try.underlying60 ty
    have hLb : L.length < 256 := by omega
    clear hL hLn hfind
    have HL := Lib.hid (show True from trivial)
    have HCV := Lib.hid hcv
    clear hcv
    obtain ⟨_, hrz, hrr⟩ := HR.out.rd
    have HRR := Lib.hid hrr
    have HRZ := Lib.hid hrz
    clear hrr hrz
    cases hno : (D.now.m k).isNone
    all_goals
      rw [hno] at HCV
      have HCV2 := Lib.hid HCV.out
      clear hno HCV
      go_enter Try.func51, Try.ntmps51
      go_wp2_with fail
      refine (check_any d g1 _ D hD1 k [k] w.heap.size _ HBK.out HSZ.out (by simp) (by simp)).mono ?_
      rw [HCV2.out]
      rintro e w1 ⟨rfl, rfl⟩
      simp only [Bool.false_eq_true, if_false, if_true]
      go_wp2_with fail
      refine (cloneB_any d g1 A l.length c (bv l) _ HRR.out HRZ.out (bv_one l) (by omega)).mono ?_
      rintro e w2 ⟨A', cap', g2, rfl, hb2, hF2, hO2, ha2, _, _⟩
      have hx2 : Ext (fun _ => False) g1 _ g2 w2 := (Ext.of_below (fun _ => False) g1 hb2).up hF2 hO2
      have hD2 := hD1.ext hx2 (fun h => h)
      have hbat := BytesAt.of_new ha2
      have HX2 := Lib.hid (HX0.out.trans (hx2.imp (fun _ h => h.elim)))
      clear hx2 hF2 hO2 ha2 hb2 cnm hln
      go_wp2_with fail
      refine (do_create d g2 _ D hD2 ⟨0, k, ⟨#[]⟩, l, true⟩ rfl A' cap' hbat (by show l.length ≤ _; omega) hpl).mono ?_
      rintro e w3 ⟨rfl, hP⟩
      go_wp2_with fail
      go_ret
      exact ⟨ret_int HI.out.symm, by rw [HDD.out]; exact hP.pre HX2.out⟩

set_option maxRecDepth 100000 in
set_option maxHeartbeats 1600000 in
theorem dappend_any (d : Nat) (g : Gh) (w : World) (D : Dev) (hD : DevAt g w d D) (k : ByteArray) (A : Option Addr) (c : Nat) (l l0 : List UInt8) (hr : BytesAt g w (.slice A l.length c) l) (hnm : namesOk [k] = true) (hl0 : D.now.m k = some l0) (hl : l0.length + l.length ≤ 4194304) (hpl : D.pend.length ≤ 1000000) :
    Calls Try.prog 56 #[.pointer (some ⟨d, 0, none⟩), .string k, .slice A l.length c] w fun e w' => e = .returned (.int .i64 (actI D)) ∧ DevP d g w (actD D ⟨1, k, ⟨#[]⟩, l, true⟩) w' := by
  have hx0 := Ext.box (· = d) g w (.cells ([k].map Value.string).toArray 9)
  have hx00 := Ext.box (fun _ => False) g w (.cells ([k].map Value.string).toArray 9)
  have hD1 := hD.ext hx00 (fun h => h)
  have HBK : Hid (Blk w.heap.size 9 ([k].map Value.string) (w.alloc (.cells ([k].map Value.string).toArray 9))) := Blk.new w _ _
  have HSZ : Hid (∀ s ∈ [k], s.size ≤ 9223372036854775807) := by
    intro s hs
    have h1 := List.all_eq_true.1 hnm s hs
    simp only [nmB, Bool.and_eq_true, decide_eq_true_eq] at h1
    omega
  have hr1 := hr.ext hx00
  generalize g.box w.heap.size = g1 at *
  have HX0 := Lib.hid hx0
  have HR := Lib.hid hr1
  clear hx0 hx00 hD hr hr1
  simp only [List.map_cons, List.map_nil] at HX0 HBK hD1 HR
  cases hdn : D.down
  rotate_left
  · have HI : Hid (actI D = 303) := by simp [Hid, actI, hdn]
    have HC : Hid (checkI D k [k] = 303) := check_down hdn
    have HDD : Hid (actD D ⟨1, k, ⟨#[]⟩, l, true⟩ = D) := by simp [Hid, actD, hdn]
    clear hdn
    go_enter Try.func56, Try.ntmps56
    go_wp2_with fail
    refine (check_any d g1 _ D hD1 k [k] w.heap.size _ HBK.out HSZ.out (by simp) (by simp)).mono ?_
    rw [HC.out]
    rintro e w1 ⟨rfl, rfl⟩
    go_wp2_with fail
    go_ret
    exact ⟨ret_int HI.out.symm, g1, HX0.out, by rw [HDD.out]; exact hD1⟩
  · have HI : Hid (actI D = doI D) := by simp [Hid, actI, hdn]
    have HDD : Hid (actD D ⟨1, k, ⟨#[]⟩, l, true⟩ = doD D ⟨1, k, ⟨#[]⟩, l, true⟩) := by simp [Hid, actD, hdn]
    have hcv := check_valid (file := k) hdn hnm
    rw [hl0] at hcv
    have HCV : Hid (checkI D k [k] = 0) := hcv
    clear hdn hcv
    obtain ⟨nm, L, cnm, hL, hLn, hfind⟩ := hD1.files
    have HFD : Hid (∃ A0 c0, look L k = some (.slice A0 l0.length c0)) := by
      rcases hfind k with ⟨_, h⟩ | ⟨l1, A0, c0, h1, h2, _⟩
      · rw [hl0] at h; cases h
      · rw [hl0] at h2; injection h2 with h2; subst h2; exact ⟨A0, c0, h1⟩
    obtain ⟨A0, c0, hlk⟩ := HFD.out
    have HLK := Lib.hid hlk
    have HL := Lib.hid hL
    clear hL hLn hfind hlk
    have HLEN : Hid ((D.now.get k ++ l).length ≤ 8388608) := by
      show _ ≤ _
      unfold Fl.get
      rw [hl0, List.length_append]
      show l0.length + l.length ≤ _
      omega
    clear hl0
    obtain ⟨_, hrz, hrr⟩ := HR.out.rd
    have HRR := Lib.hid hrr
    have HRZ := Lib.hid hrz
    clear hrr hrz
    go_enter Try.func56, Try.ntmps56
    go_wp2_with fail
    refine (check_any d g1 _ D hD1 k [k] w.heap.size _ HBK.out HSZ.out (by simp) (by simp)).mono ?_
    rw [HCV.out]
    rintro e w1 ⟨rfl, rfl⟩
    go_wp2_with (with_reducible refine wpList_look_some rfl (.tmp 19) (.tmp 20) 60 false rfl 9 37 Try.underlying60 Try.underlying9 nm L rfl HL.out k rfl _ HLK.out ?_)
    refine (cloneB_any d g1 A l.length c (bv l) _ HRR.out HRZ.out (bv_one l) (by omega)).mono ?_
    rintro e w2 ⟨A', cap', g2, rfl, hb2, hF2, hO2, ha2, _, _⟩
    have hx2 : Ext (fun _ => False) g1 _ g2 w2 := (Ext.of_below (fun _ => False) g1 hb2).up hF2 hO2
    have hD2 := hD1.ext hx2 (fun h => h)
    have hbat := BytesAt.of_new ha2
    have HX2 := Lib.hid (HX0.out.trans (hx2.imp (fun _ h => h.elim)))
    clear hx2 hF2 hO2 ha2 hb2 cnm
    go_wp2_with fail
    refine (do_add d g2 _ D hD2 ⟨1, k, ⟨#[]⟩, l, true⟩ rfl A' cap' hbat HLEN.out hpl).mono ?_
    rintro e w3 ⟨rfl, hP⟩
    go_wp2_with fail
    go_ret
    exact ⟨ret_int HI.out.symm, by rw [HDD.out]; exact hP.pre HX2.out⟩

set_option maxRecDepth 100000 in
set_option maxHeartbeats 1600000 in
theorem drename_any (d : Nat) (g : Gh) (w : World) (D : Dev) (hD : DevAt g w d D) (k to : ByteArray) (hnm : namesOk [k, to] = true) (hl0 : (D.now.m k).isSome = true) (hpl : D.pend.length ≤ 1000000) :
    Calls Try.prog 53 #[.pointer (some ⟨d, 0, none⟩), .string k, .string to] w fun e w' => e = .returned (.int .i64 (actI D)) ∧ DevP d g w (actD D ⟨2, k, to, [], false⟩) w' := by
  have hx0 := Ext.box (· = d) g w (.cells ([k, to].map Value.string).toArray 9)
  have hx00 := Ext.box (fun _ => False) g w (.cells ([k, to].map Value.string).toArray 9)
  have hD1 := hD.ext hx00 (fun h => h)
  have HBK : Hid (Blk w.heap.size 9 ([k, to].map Value.string) (w.alloc (.cells ([k, to].map Value.string).toArray 9))) := Blk.new w _ _
  have HSZ : Hid (∀ s ∈ [k, to], s.size ≤ 9223372036854775807) := by
    intro s hs
    have h1 := List.all_eq_true.1 hnm s hs
    simp only [nmB, Bool.and_eq_true, decide_eq_true_eq] at h1
    omega
  generalize g.box w.heap.size = g1 at *
  have HX0 := Lib.hid hx0
  clear hx0 hx00 hD
  simp only [List.map_cons, List.map_nil] at HX0 HBK hD1
  cases hdn : D.down
  rotate_left
  · have HI : Hid (actI D = 303) := by simp [Hid, actI, hdn]
    have HC : Hid (checkI D k [k, to] = 303) := check_down hdn
    have HDD : Hid (actD D ⟨2, k, to, [], false⟩ = D) := by simp [Hid, actD, hdn]
    clear hdn
    go_enter Try.func53, Try.ntmps53
    go_wp2_with fail
    refine (check_any d g1 _ D hD1 k [k, to] w.heap.size _ HBK.out HSZ.out (by simp) (by simp)).mono ?_
    rw [HC.out]
    rintro e w1 ⟨rfl, rfl⟩
    go_wp2_with fail
    go_ret
    exact ⟨ret_int HI.out.symm, g1, HX0.out, by rw [HDD.out]; exact hD1⟩
  · have HI : Hid (actI D = doI D) := by simp [Hid, actI, hdn]
    have HDD : Hid (actD D ⟨2, k, to, [], false⟩ = doD D ⟨2, k, to, [], false⟩) := by simp [Hid, actD, hdn]
    have hcv := check_valid (file := k) hdn hnm
    rw [if_neg (by intro h; rw [Option.isNone_iff_eq_none] at h; rw [h] at hl0; cases hl0)] at hcv
    have HCV : Hid (checkI D k [k, to] = 0) := hcv
    clear hdn hcv hl0
    have hbat : BytesAt g1 (w.alloc (.cells #[.string k, .string to] 9)) (.slice none ([] : List UInt8).length 0) [] := ⟨none, 0, rfl, Nat.le_refl _, Nat.zero_le _, fun _ => rfl, Rd.nil _ _ _ _⟩
    have HB := Lib.hid hbat
    clear hbat
    go_enter Try.func53, Try.ntmps53
    go_wp2_with fail
    refine (check_any d g1 _ D hD1 k [k, to] w.heap.size _ HBK.out HSZ.out (by simp) (by simp)).mono ?_
    rw [HCV.out]
    rintro e w1 ⟨rfl, rfl⟩
    go_wp2_with fail
    refine (do_rename d g1 _ D hD1 ⟨2, k, to, [], false⟩ rfl none 0 HB.out hpl).mono ?_
    rintro e w3 ⟨rfl, hP⟩
    go_wp2_with fail
    go_ret
    exact ⟨ret_int HI.out.symm, by rw [HDD.out]; exact hP.pre HX0.out⟩

/-- What Read returns: an error, or a copy of the bytes. -/
def ReadP (_d _o : Nat) (g : Gh) (w : World) (D : Dev) (k : ByteArray) (e : Ending) (w' : World) : Prop :=
  ∃ A cap g', Ext (fun _ => False) g w g' w' ∧ e = .returned (.tuple #[.slice A (if D.down then 0 else (D.now.get k).length) cap, .int .i64 (if D.down then 303 else if (D.now.m k).isNone then 301 else 0)]) ∧ (D.down = false → BytesAt g' w' (.slice A (D.now.get k).length cap) (D.now.get k))
set_option maxRecDepth 100000 in
set_option maxHeartbeats 1600000 in
theorem dread_any (d o : Nat) (g : Gh) (w : World) (D : Dev) (hD : DevAt g w d D) (k : ByteArray) (hnm : namesOk [k] = true) :
    Calls Try.prog 25 #[.pointer (some ⟨d, 0, none⟩), .string k] w (ReadP d o g w D k) := by
  have hx0 := Ext.box (· = d) g w (.cells ([k].map Value.string).toArray 9)
  have hx00 := Ext.box (fun _ => False) g w (.cells ([k].map Value.string).toArray 9)
  have hD1 := hD.ext hx00 (fun h => h)
  have HBK : Hid (Blk w.heap.size 9 ([k].map Value.string) (w.alloc (.cells ([k].map Value.string).toArray 9))) := Blk.new w _ _
  have HSZ : Hid (∀ s ∈ [k], s.size ≤ 9223372036854775807) := by
    intro s hs
    have h1 := List.all_eq_true.1 hnm s hs
    simp only [nmB, Bool.and_eq_true, decide_eq_true_eq] at h1
    omega
  generalize g.box w.heap.size = g1 at *
  have HX0 := Lib.hid hx00
  clear hx0 hx00 hD
  simp only [List.map_cons, List.map_nil] at HX0 HBK hD1
  cases hdn : D.down
  · have HCV := Lib.hid (check_valid (file := k) hdn hnm)
    have HDN := Lib.hid hdn
    clear hdn
    obtain ⟨nm, L, cnm, hL, hLn, hfind⟩ := hD1.files
    rcases hfind k with ⟨h1, h2⟩ | ⟨l, A0, c0, h1, h2, h3, h4⟩
    · have HC : Hid (checkI D k [k] = 301) := by show _ = _; rw [HCV.out, h2]; rfl
      have HFIN : Hid (ReadP d o g w D k (.returned (.tuple #[.slice none 0 0, .int .i64 301])) (w.alloc (.cells #[.string k] 9))) := by
        have hg : D.now.get k = [] := by unfold Fl.get; rw [h2]; rfl
        refine ⟨none, 0, g1, HX0.out, ?_, fun _ => ?_⟩
        · rw [HDN.out, h2, hg]; rfl
        · rw [hg]; exact ⟨none, 0, rfl, Nat.le_refl _, Nat.zero_le _, fun _ => rfl, Rd.nil _ _ _ _⟩
      clear hL hLn hfind h1 h2 HCV cnm
      go_enter Try.func25, Try.ntmps25
      go_wp2_with fail
      refine (check_any d g1 _ D hD1 k [k] w.heap.size _ HBK.out HSZ.out (by simp) (by simp)).mono ?_
      rw [HC.out]
      rintro e w1 ⟨rfl, rfl⟩
      go_wp2_with fail
      go_ret2
      exact HFIN.out
    · have HC : Hid (checkI D k [k] = 0) := by show _ = _; rw [HCV.out, h2]; rfl
      have HFIN : Hid (∀ A' cap' g2 w2, Ext (fun _ => False) g w g2 w2 → App 5 1 o g2 w2 A' l.length cap' (bv l) → ReadP d o g w D k (.returned (.tuple #[.slice A' l.length cap', .int .i64 0])) w2) := by
        intro A' cap' g2 w2 hx ha
        have hg : D.now.get k = l := by unfold Fl.get; rw [h2]; rfl
        refine ⟨A', cap', g2, hx, ?_, fun _ => ?_⟩
        · rw [HDN.out, h2, hg]; rfl
        · rw [hg]; exact BytesAt.of_new ha
      obtain ⟨_, hrz, hrr⟩ := h4.rd
      have HRR := Lib.hid hrr
      have HRZ := Lib.hid hrz
      have HLK := Lib.hid h1
      have HL := Lib.hid hL
      clear hL hLn hfind h1 h2 HCV hrr hrz h4
      go_enter Try.func25, Try.ntmps25
      go_wp2_with fail
      refine (check_any d g1 _ D hD1 k [k] w.heap.size _ HBK.out HSZ.out (by simp) (by simp)).mono ?_
      rw [HC.out]
      rintro e w1 ⟨rfl, rfl⟩
      go_wp2_with (with_reducible refine wpList_look_some rfl (.tmp 18) (.tmp 19) 60 false rfl 9 37 Try.underlying60 Try.underlying9 nm L rfl HL.out k rfl _ HLK.out ?_)
      refine (cloneB_any o g1 A0 l.length c0 (bv l) _ HRR.out HRZ.out (bv_one l) (by omega)).mono ?_
      rintro e w2 ⟨A', cap', g2, rfl, hb2, hF2, hO2, ha2, _, _⟩
      have hx2 : Ext (fun _ => False) g1 _ g2 w2 := (Ext.of_below (fun _ => False) g1 hb2).up hF2 hO2
      have HR2 := Lib.hid (HFIN.out A' cap' g2 w2 (HX0.out.trans hx2) ha2)
      clear hx2 hF2 hO2 ha2 hb2 cnm HFIN
      go_wp2_with fail
      go_ret2
      exact HR2.out
  · have HC : Hid (checkI D k [k] = 303) := check_down hdn
    have HFIN : Hid (ReadP d o g w D k (.returned (.tuple #[.slice none 0 0, .int .i64 303])) (w.alloc (.cells #[.string k] 9))) := by
      refine ⟨none, 0, g1, HX0.out, ?_, fun h => by rw [hdn] at h; cases h⟩
      rw [hdn]; rfl
    clear hdn
    go_enter Try.func25, Try.ntmps25
    go_wp2_with fail
    refine (check_any d g1 _ D hD1 k [k] w.heap.size _ HBK.out HSZ.out (by simp) (by simp)).mono ?_
    rw [HC.out]
    rintro e w1 ⟨rfl, rfl⟩
    go_wp2_with fail
    go_ret2
    exact HFIN.out

end Go.Proofs.Ythjbaafbkalomaa
