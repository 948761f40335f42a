/-
  What Replace and Drop make of a have-list.
-/
import Derived.Test.YtjjdffafibonhaaGreatDoorHvT
namespace Go.Proofs.YtjjdffafibonhaaGreatDoor
open Go.RowKit

/-- What a change leaves: the new entries and the next number, or a dead list. -/
def ChgP (g : Gh) (x : World) (b d : Nat) (name : ByteArray) (ch : Int) (E E' : List Hv) (D : Dev) (o0 o1 : Option Ck) (e : Ending) (x' : World) : Prop :=
  e = .returned (.int .i64 (svI D (hvOp name ch o0 o1 E'))) ∧ ∃ g', Ext (fun o => o = d ∨ o = b ∨ x.heap.size ≤ o) g x g' x' ∧ DevAt g' x' d (svD D (hvOp name ch o0 o1 E')) ∧
      ((svI D (hvOp name ch o0 o1 E') = 0 ∧ HvAt g' x' b d name (ch + 1) E' false) ∨ (svI D (hvOp name ch o0 o1 E') = 303 ∧ HvAt g' x' b d name ch E true))
theorem ChgP.from {g : Gh} {x : World} {b d : Nat} {name : ByteArray} {ch : Int} {E E' : List Hv} {D : Dev} {o0 o1 : Option Ck} (h : HvAt g x b d name ch E false) (hD : DevAt g x d D) (hs : SvOk D name ch o0 o1) (hE : HvOk E') (hnum : ∀ h ∈ E', h.num < 4611686018427387904) (hbd : b ≠ d) {O : List Hv} {wr : World} (hbel : Below x.heap.size x wr) (hm : MapIs x.heap.size (encM O) wr) (hp : O.Perm E') :
    Calls Tryz.prog 39 #[.pointer (some ⟨b, 0, none⟩), .map (some x.heap.size)] wr (ChgP g x b d name ch E E' D o0 o1) := by
  have hx4 : Ext (fun _ => False) g x ⟨fun k => if k = x.heap.size then 0 else g.F k, fun k => if k = x.heap.size then b else g.O k⟩ wr :=
    (Ext.of_below _ g hbel).up (fun k hk => by dsimp only; rw [if_neg (by omega)]) (fun k hk => by dsimp only; rw [if_neg (by omega)])
  have hxs := hbel.size
  refine (change_any _ wr b d name ch E E' x.heap.size D o0 o1 (h.ext hx4 (fun h => h)) (hD.ext hx4 (fun h => h)) hs ⟨O, hm, hp⟩ hE hnum (by dsimp only; rw [if_pos rfl]) (by dsimp only; rw [if_pos rfl]) hbd).mono ?_
  rintro e w9 ⟨rfl, g9, hx9, hD9, hcs⟩
  refine ⟨rfl, g9, (hx4.imp (fun _ h => h.elim)).trans (hx9.imp (fun o h => ?_)), hD9, hcs⟩
  rcases h with h | h | h
  · exact .inl h
  · exact .inr (.inl h)
  · exact .inr (.inr (by omega))

set_option maxRecDepth 100000 in
set_option maxHeartbeats 3200000 in
theorem hreplace_any (g : Gh) (x : World) (b d : Nat) (name : ByteArray) (ch : Int) (E : List Hv) (D : Dev) (o0 o1 : Option Ck) (h : HvAt g x b d name ch E false) (hD : DevAt g x d D) (hs : SvOk D name ch o0 o1) (A : Option Addr) (c : Nat) (l : List Hv) (hr : Rd 3 g x A l.length (celH l)) (hl : l.length ≤ 100000) (hnum : ∀ h ∈ l, h.num < 4611686018427387904) (hbd : b ≠ d) :
    Calls Tryz.prog 14 #[.pointer (some ⟨b, 0, none⟩), .slice A l.length c] x fun e x' => (checkH l ≠ 0 ∧ e = .returned (.int .i64 (checkH l)) ∧ Below x.heap.size x x') ∨ (checkH l = 0 ∧ ∃ y, Below x.heap.size x y ∧ ChgP g y b d name ch E l D o0 o1 e x') := by
  have hmk := fun (n : Int) (W : World) => run_makeMap_hint (P := Tryz.prog) 65 9 32 .i64 n Tryz.underlying65 W
  have HRD := Lib.hid (ready_up h D hD hs.dn)
  have HCK := Lib.hid (hcheck_any g x A c l hr (by omega))
  have HH := Lib.hid h
  have HD := Lib.hid hD
  have HS := Lib.hid hs
  have HR := Lib.hid hr
  have HNUM := Lib.hid hnum
  obtain ⟨ck, hck⟩ : ∃ ck, checkH l = ck := ⟨_, rfl⟩
  have HE : Hid (ck = 0 → HvOk l) := fun e => HvOk.of_check (hck.trans e)
  rw [hck] at HCK ⊢
  clear h hD hs hr hnum hck
  go_enter Tryz.func14, Tryz.ntmps14
  go_wp2_with fail
  refine HRD.out.mono ?_
  rintro e x' ⟨rfl, rfl⟩
  go_wp2_with fail
  refine HCK.out.mono ?_
  rintro e y ⟨rfl, hby⟩
  by_cases hc0 : ck = 0
  · subst hc0
    have hEO := HE.out rfl
    have HEO := Lib.hid hEO
    have hxy := Ext.of_below (fun _ => False) g hby
    have HH2 := Lib.hid (HH.out.ext hxy (fun h => h))
    have HD2 := Lib.hid (HD.out.ext hxy (fun h => h))
    have HR2 := Lib.hid (HR.out.ext hxy)
    have HBY := Lib.hid hby
    have HM1 : Hid (MapIs y.heap.size (encM []) (y.alloc (.map #[] 0))) := MapIs.new y
    have HB1 : Hid (Below y.heap.size y (y.alloc (.map #[] 0))) := (Below.refl _ _).alloc (Nat.le_refl _) _
    have HON := Lib.hid hEO.srt.once
    clear hby hxy HH HD HR HCK HRD HE hEO
    go_wp2_with fail
    clear hmk
    generalize y.alloc (.map #[] 0) = y1 at *
    go_loopw [25] (fun i wr => ∃ k : Nat, i = .int .i64 k ∧ k ≤ l.length ∧ Below y.heap.size y wr ∧ MapIs y.heap.size (encM (l.take k)) wr) (fun i _ => l.length - (intOf i).toNat)
    case atStart => exact ⟨0, rfl, Nat.zero_le _, HB1.out, HM1.out⟩
    case round =>
      obtain ⟨k, rfl, hk, hbel, hmp⟩ := hrel
      clear HM1 HB1
      by_cases hlt : k < l.length
      · have hlt' : (k : Int) < (l.length : Int) := by omega
        obtain ⟨b0, off, hA, _, hbx, hc⟩ := (HR2.out.ext (Ext.of_below (fun _ => False) g hbel)).at_ (by omega)
        subst hA
        obtain ⟨h, hh⟩ : ∃ h, l[k] = h := ⟨_, rfl⟩
        have hg := List.getElem?_eq_getElem hlt
        rw [hh] at hg
        have c0 := hc _ _ (celH_get l k 0 h hg (by omega))
        have c1 := hc _ _ (celH_get l k 1 h hg (by omega))
        have c2 := hc _ _ (celH_get l k 2 h hg (by omega))
        simp only [Nat.add_zero, ← Nat.add_assoc] at c0 c1 c2
        have hts : l.take (k + 1) = l.take k ++ [h] := by rw [List.take_add_one, hg]; rfl
        have hno : anyP (l.take k) h.path = false := by
          rw [anyP_false]
          have h1 : Once (l.take (k + 1)) := HON.out.sublist (List.take_sublist _ _)
          rw [hts] at h1
          exact fun q hq => (List.pairwise_append.1 h1).2.2 q hq h (List.mem_singleton.2 rfl)
        have hput := putM hno
        rw [← hts] at hput
        have HPU := Lib.hid hput
        have HBL := Lib.hid hbel
        clear hts hc hh hg hno hput
        obtain ⟨p, n, lo⟩ := h
        dsimp only at c0 c1 c2
        have hvb : Blk wr.heap.size 32 [.string p, .int .i64 n, .string lo] (wr.alloc (.cells #[.string p, .int .i64 n, .string lo] 32)) := Blk.new wr 32 [.string p, .int .i64 n, .string lo]
        have v0 : (wr.alloc (.cells #[.string p, .int .i64 n, .string lo] 32)).cell? ⟨wr.heap.size, 0, none⟩ = some (.string p) := hvb.cell 0
        have v1 : (wr.alloc (.cells #[.string p, .int .i64 n, .string lo] 32)).cell? ⟨wr.heap.size, 1, none⟩ = some (.int .i64 n) := hvb.cell 1
        have v2 : (wr.alloc (.cells #[.string p, .int .i64 n, .string lo] 32)).cell? ⟨wr.heap.size, 2, none⟩ = some (.string lo) := hvb.cell 2
        have HM2 := Lib.hid (hmp.alloc (.cells #[.string p, .int .i64 n, .string lo] 32))
        have HB2 := Lib.hid (hbel.alloc hbel.size (.cells #[.string p, .int .i64 n, .string lo] 32))
        clear hmp hbel hvb
        go_wp2_with (with_reducible refine wpList_put rfl (.tmp 29) (.tmp 31) (.tmp 32) 65 rfl 9 32 Tryz.underlying65 Tryz.underlying9 y.heap.size (encM (l.take k)) rfl HM2.out p rfl (.agg #[.string p, .int .i64 n, .string lo]) rfl ?_; intro w6 hm6 hg6)
        go_round
        case rel =>
          have e6 : put (encM (l.take k)) p (.agg #[.string p, .int .i64 n, .string lo]) = encM (l.take (k + 1)) := HPU.out
          rw [e6] at hm6
          exact ⟨k + 1, by go_num, by omega, HB2.out.grown hg6 HB2.out.size (fun q hq => by injection hq with hq; omega), hm6⟩
        case measure => simp [intOf]; omega
      · obtain rfl : k = l.length := by omega
        rw [List.take_length] at hmp
        have HCH := Lib.hid (ChgP.from HH2.out HD2.out HS.out HEO.out HNUM.out hbd hbel hmp (List.Perm.refl _))
        clear hmp hbel
        go_wp2_with fail
        refine HCH.out.mono ?_
        rintro e x9 hP
        obtain ⟨rfl, hP2⟩ := hP
        have HP2 := Lib.hid hP2
        clear hP2
        go_wp2_with fail
        go_ret
        exact ⟨y, HBY.out, rfl, HP2.out⟩
  · have hne : (ck == 0) = false := by simpa using hc0
    have HC0 := Lib.hid hc0
    clear hc0 HE
    go_wp2_with fail
    go_ret
    exact .inl ⟨HC0.out, rfl, hby⟩

end Go.Proofs.YtjjdffafibonhaaGreatDoor
