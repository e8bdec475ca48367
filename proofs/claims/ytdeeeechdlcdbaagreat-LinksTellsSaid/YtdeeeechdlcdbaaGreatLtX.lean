/- The walk of LinksTells, joined. -/
import Derived.Test.YtdeeeechdlcdbaaGreatLtW
namespace Go.Proofs.YtdeeeechdlcdbaaGreat.LtX
open Go Go.RowKit Go.Proofs.YtdeeeechdlcdbaaGreat.DiA
theorem walk (A : Option Addr) (n cap : Nat) (zs : List ByteArray) (k0 : Int) (w : World) (h : Args.StrsIn w A n cap zs) (_hk : (Lit.int .i64 k0).wf = true) :
    Calls Tryz.prog 3 #[.slice A n cap, .int .i64 k0] w fun e w' => e = .returned (.bool true) ∧ Below w.heap.size w w' := by
  have hat := strsAt_of h
  have hf := few_any A n cap zs w h.len.symm hat h.each h.size
  cases hb : fewB zs with
  | false => rw [hb] at hf; exact LtW.law_few A n cap k0 w hf
  | true =>
    rw [hb] at hf
    unfold fewB at hb
    rw [Bool.and_eq_true, decide_eq_true_eq, decide_eq_true_eq] at hb
    have h1 : n ≤ 110 := by rw [← h.len]; exact hb.1
    exact LtW.law_in A n cap zs k0 w hf h.len.symm hat h1 hb.2
end Go.Proofs.YtdeeeechdlcdbaaGreat.LtX
