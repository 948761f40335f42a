/-
  OfflineRenews returns true for every claim and numbers; what was in memory before the call stays as it was.
-/
import Derived.Test.YtnehjnaecgpkmaaDoorRef20
namespace Go.Proofs.YtnehjnaecgpkmaaDoor
open Go.RowKit

set_option maxHeartbeats 400000 in
theorem renews_out (p : ByteArray) (f s t d sent term : Int) (w : World) (h : 400 < p.size) :
    Calls Tryd.prog 4 #[.agg #[.string p, .int .i64 f, .int .i64 s, .int .i64 t, .int .i64 d], .int .i64 sent, .int .i64 term] w fun e w' => e = .returned (.bool true) ∧ Below w.heap.size w w' := by
  go_enter Tryd.func4, Tryd.ntmps4
  go_wp2_with (go_at_call 8; refine (awake20_any _).mono ?_; rintro e w' ⟨rfl, HB⟩)
  all_goals (go_ret; exact ⟨rfl, (Box5.new w (.string p) (.int .i64 f) (.int .i64 s) (.int .i64 t) (.int .i64 d) 23 |>.below HB).old⟩)

set_option maxHeartbeats 1600000 in
theorem renews_in (p : ByteArray) (f s t d sent term : Int) (w : World) (h : p.size ≤ 400) (hg : G0 w) (q : ByteArray) (g a b c er : Int)
    (H1 : Hid (∀ W, Calls Tryd.prog 15 #[.agg #[.string p, .int .i64 f, .int .i64 s, .int .i64 t, .int .i64 d], .int .i64 sent, .int .i64 term] W fun e w' => e = .returned (.tuple #[.agg #[.string q, .int .i64 g, .int .i64 a, .int .i64 b, .int .i64 c], .int .i64 er]) ∧ Below W.heap.size W w'))
    (H2 : Hid (∀ W, G0 W → Calls Tryd.prog 16 #[.agg #[.string p, .int .i64 f, .int .i64 s, .int .i64 t, .int .i64 d], .int .i64 sent, .int .i64 term] W fun e w' => e = .returned (.tuple #[.agg #[.string q, .int .i64 g, .int .i64 a, .int .i64 b, .int .i64 c], .int .i64 er]) ∧ Below W.heap.size W w')) :
    Calls Tryd.prog 4 #[.agg #[.string p, .int .i64 f, .int .i64 s, .int .i64 t, .int .i64 d], .int .i64 sent, .int .i64 term] w fun e w' => e = .returned (.bool true) ∧ Below w.heap.size w w' := by
  go_enter Tryd.func4, Tryd.ntmps4
  go_wp2_with fail
  refine (H1.out _).mono ?_
  rintro e w1 ⟨rfl, HB⟩
  have k := (Box5.new w (.string p) (.int .i64 f) (.int .i64 s) (.int .i64 t) (.int .i64 d) 23).below HB
  (have k' := k; obtain ⟨c0, c1, c2, c3, c4, lt_k, _, fz_k⟩ := k')
  go_wp2_with fail
  refine (H2.out _ (hg.below (k.alloc _).old)).mono ?_
  rintro e w2 ⟨rfl, HB2⟩
  have k2 := (k.alloc _).below HB2
  have j2 := (Box5.new w1 (.string q) (.int .i64 g) (.int .i64 a) (.int .i64 b) (.int .i64 c) 23).below HB2
  clear c0 c1 c2 c3 c4
  (have k2' := k2; obtain ⟨c0, c1, c2, c3, c4, lt_k2, _, fz_k2⟩ := k2')
  (have j2' := j2; obtain ⟨e0, e1, e2, e3, e4, lt_j2, _, fz_j2⟩ := j2')
  go_wp2_with fail
  refine (awake20_any _).mono ?_
  rintro e w9 ⟨rfl, HB9⟩
  go_wp2_with fail
  go_ret
  exact ⟨rfl, ((k2.alloc _).below HB9).old⟩

theorem renews_any (p : ByteArray) (f s t d sent term : Int) (w : World) (hg : G0 w) :
    Calls Tryd.prog 4 #[.agg #[.string p, .int .i64 f, .int .i64 s, .int .i64 t, .int .i64 d], .int .i64 sent, .int .i64 term] w fun e w' => e = .returned (.bool true) ∧ Below w.heap.size w w' := by
  by_cases h : p.size ≤ 400
  · have hs : p.size < 4294967281 := by omega
    cases hb : soundB ⟨p, f, s, t, d⟩
    · exact renews_in p f s t d sent term w h hg _ _ _ _ _ _ (fun W => renewed_no1 p f s t d sent term W hb) (fun W hW => rrenewed_no1 p f s t d sent term W hs hW hb)
    · by_cases hlt : s ≤ sent
      · cases hb2 : soundB ⟨p, f, sent, term, d⟩
        · exact renews_in p f s t d sent term w h hg _ _ _ _ _ _ (fun W => renewed_no3 p f s t d sent term W hb hlt hb2) (fun W hW => rrenewed_no3 p f s t d sent term W hs hW hb hlt hb2)
        · by_cases hge : endI ⟨p, f, s, t, d⟩ ≤ endI ⟨p, f, sent, term, d⟩
          · exact renews_in p f s t d sent term w h hg _ _ _ _ _ _ (fun W => renewed_new p f s t d sent term W hb hlt hb2 hge) (fun W hW => rrenewed_new p f s t d sent term W hs hW hb hlt hb2 hge)
          · exact renews_in p f s t d sent term w h hg _ _ _ _ _ _ (fun W => renewed_old p f s t d sent term W hb hlt hb2 (by omega)) (fun W hW => rrenewed_old p f s t d sent term W hs hW hb hlt hb2 (by omega))
      · exact renews_in p f s t d sent term w h hg _ _ _ _ _ _ (fun W => renewed_no2 p f s t d sent term W hb (by omega)) (fun W hW => rrenewed_no2 p f s t d sent term W hs hW hb (by omega))
  · exact renews_out p f s t d sent term w (by omega)

end Go.Proofs.YtnehjnaecgpkmaaDoor
