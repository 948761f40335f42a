/-
  JournalEvery for arguments as they come in.
-/
import Derived.Test.YtopggjpaplhboaaJEvr
namespace Go.Proofs.Ytopggjpaplhboaa
open Go.RowKit

theorem lawEvery_nums (w : World) (Aa : Option Addr) (ca : Nat) (za : List Int) (a1 : za.length ≤ ca) (a2 : ca ≤ maxLen) (a3 : Aa = none → za.length = 0) (a4 : Rd 1 (ghW w) w Aa za.length (za.map (Value.int .u8))) (a5 : ∀ n ∈ za, (Lit.int .u8 n).wf = true) (Ab : Option Addr) (cb : Nat) (zb : List Int) (b1 : zb.length ≤ cb) (b2 : cb ≤ maxLen) (b3 : Ab = none → zb.length = 0) (b4 : Rd 1 (ghW w) w Ab zb.length (zb.map (Value.int .u8))) (b5 : ∀ n ∈ zb, (Lit.int .u8 n).wf = true)
    (fu kp tn : Int) (hf : (Lit.int .i64 fu).wf = true) (hk : (Lit.int .i64 kp).wf = true) (ht : (Lit.int .i64 tn).wf = true) :
    Calls Try.prog 10 #[.slice Aa za.length ca, .slice Ab zb.length cb, .int .i64 fu, .int .i64 kp, .int .i64 tn] w fun e w' => e = .returned (.bool true) ∧ Below w.heap.size w w' := by
  obtain ⟨a, ha, hA⟩ := BytesAt.ofNums a1 a2 a3 a4 a5
  obtain ⟨b, hb, hB⟩ := BytesAt.ofNums b1 b2 b3 b4 b5
  exact lawEvery_any w Aa Ab _ ca _ cb a b hA hB ha hb fu kp tn (wf_i64 hf).1 (wf_i64 hf).2 (wf_i64 hk).1 (wf_i64 hk).2 (wf_i64 ht).1 (wf_i64 ht).2

end Go.Proofs.Ytopggjpaplhboaa
