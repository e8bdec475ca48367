/- The walk of TrieTells, joined. -/
import Derived.Test.YtdeeeechdlcdbaaTtW
import Derived.Test.YtdeeeechdlcdbaaTnX
namespace Go.Proofs.Ytdeeeechdlcdbaa.TtX
open Go Go.RowKit Go.Proofs.Ytdeeeechdlcdbaa.DiA
theorem tells_walk (A : Option Addr) (n cap : Nat) (zs : List ByteArray) (nd c : Int) (w : World) (h : Args.StrsIn w A n cap zs) (_hn : (Lit.int .i64 nd).wf = true) (hc : (Lit.int .u8 c).wf = true) :
    Calls Try.prog 7 #[.slice A n cap, .int .i64 nd, .int .u8 c] w fun e w' => e = .returned (.bool true) ∧ Below w.heap.size w w' := by
  have hat := strsAt_of h
  have hf := few_any A n cap zs w h.len.symm hat h.each h.size
  cases hb : fewB zs with
  | false => rw [hb] at hf; exact TtW.tells_few A n cap nd c w hf
  | true =>
    rw [hb] at hf
    unfold fewB at hb
    rw [Bool.and_eq_true, decide_eq_true_eq, decide_eq_true_eq] at hb
    have h1 : n ≤ 110 := by rw [← h.len]; exact hb.1
    exact TtW.tells_in A n cap zs nd c (TnX.u8_range hc) w hf h.len.symm hat h1 hb.2
end Go.Proofs.Ytdeeeechdlcdbaa.TtX
