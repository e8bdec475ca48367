/- The walk of ScanSteps, joined. -/
import Derived.Test.YtdeeeechdlcdbaaSsW
namespace Go.Proofs.Ytdeeeechdlcdbaa.SsX
open Go Go.RowKit Go.Proofs.Ytdeeeechdlcdbaa.DiA
theorem walk (A : Option Addr) (n cap : Nat) (zs : List ByteArray) (k0 : Int) (b : ByteArray) (w : World) (h : Args.StrsIn w A n cap zs) (_hk : (Lit.int .i64 k0).wf = true) (_hb : b.size ≤ 140737488351232) :
    Calls Try.prog 15 #[.slice A n cap, .int .i64 k0, .string b] w fun e w' => e = .returned (.bool true) ∧ Below w.heap.size w w' := by
  have hat := strsAt_of h
  have hf := few_any A n cap zs w h.len.symm hat h.each h.size
  cases hb : fewB zs with
  | false => rw [hb] at hf; exact SsW.law_few A n cap k0 b w hf
  | true =>
    rw [hb] at hf
    unfold fewB at hb
    rw [Bool.and_eq_true, decide_eq_true_eq, decide_eq_true_eq] at hb
    have h1 : n ≤ 110 := by rw [← h.len]; exact hb.1
    by_cases g0 : (b.size : Int) > 40
    · exact SsW.law_out0 A n cap k0 b w hf (decide_eq_true g0)
    exact SsW.law_in A n cap zs k0 b w hf h.len.symm hat h1 hb.2 (decide_eq_false g0)
end Go.Proofs.Ytdeeeechdlcdbaa.SsX
