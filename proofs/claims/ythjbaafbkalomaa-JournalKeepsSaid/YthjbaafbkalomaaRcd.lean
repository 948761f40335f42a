/-
  A record of the tape.
-/
import Derived.Test.YthjbaafbkalomaaTape
namespace Go.Proofs.Ythjbaafbkalomaa
open Go.RowKit

set_option maxRecDepth 100000 in
theorem record_any (t m : Nat) (g : Gh) (w : World) (ht : TapeAt g w t m) (hm : m ≤ 90000) :
    Calls Try.prog 8 #[.pointer (some ⟨t, 0, none⟩)] w fun e w' => ∃ A c l g', e = .returned (.slice A l.length c) ∧ l.length ≤ 6 ∧ BytesAt g' w' (.slice A l.length c) l ∧ Ext (· = t) g w g' w' ∧ TapeAt g' w' t (m + 8) := by
  have HT := Lib.hid ht
  clear ht
  go_enter Try.func8, Try.ntmps8
  go_wp2_with fail
  refine (next_any t m g w HT.out (by omega) 7 (by omega)).mono ?_
  rintro e w1 ⟨v, rfl, hv0, hv1, hx1, ht1⟩
  obtain ⟨vn, rfl⟩ : ∃ vn : Nat, v = vn := ⟨v.toNat, by omega⟩
  have hvn : vn ≤ 6 := by omega
  have HX1 := Lib.hid hx1
  have HT1 := Lib.hid ht1
  clear hx1 ht1 hv0 hv1 HT
  go_wp2_with fail
  refine (next_any t (m + 1) g w1 HT1.out (by omega) 5 (by omega)).mono ?_
  rintro e w2 ⟨v, rfl, hv0, hv1, hx2, ht2⟩
  obtain ⟨kn, hkn⟩ : ∃ kn : Nat, 1 + v = kn := ⟨(1 + v).toNat, by omega⟩
  have hk : kn ≤ 5 := by omega
  have HX2 := Lib.hid (HX1.out.trans hx2)
  have HT2 := Lib.hid ht2
  have hv0' : 0 ≤ v := hv0
  have hv1' : v < 5 := by omega
  clear hx2 ht2 HX1 HT1 hv1 hv0
  go_wp2_with fail
  refine (tbytes_any t (m + 1 + 1) g w2 HT2.out vn kn (by omega) (by omega) (by omega)).mono ?_
  rintro e w3 ⟨A, c, l, g3, rfl, hl, hb3, hx3, ht3⟩
  have HX3 := Lib.hid (HX2.out.trans hx3)
  have HT3 := Lib.hid ht3
  have HB3 := Lib.hid hb3
  clear hx3 ht3 hb3
  go_wp2_with fail
  go_ret
  exact ⟨A, c, l, g3, by rw [hl]; rfl, by omega, HB3.out, HX3.out, HT3.out.more (by omega)⟩

end Go.Proofs.Ythjbaafbkalomaa
