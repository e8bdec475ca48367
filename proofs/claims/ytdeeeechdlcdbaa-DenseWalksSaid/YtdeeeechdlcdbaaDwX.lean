/- The walk of DenseWalks, joined. -/
import Derived.Test.YtdeeeechdlcdbaaDwW
namespace Go.Proofs.Ytdeeeechdlcdbaa.DwX
open Go Go.RowKit Go.Proofs Go.Proofs.Ytdeeeechdlcdbaa.DiA
theorem walk (A : Option Addr) (n cap : Nat) (zs : List ByteArray) (b : ByteArray) (w : World) (h : Args.StrsIn w A n cap zs) (_hb : b.size ≤ 140737488351232) :
    Calls Try.prog 21 #[.slice A n cap, .string b] w fun e w' => e = .returned (.bool true) ∧ Below w.heap.size w w' := by
  have hat := strsAt_of h
  have hf := few_any A n cap zs w h.len.symm hat h.each h.size
  cases hb : fewB zs with
  | false => rw [hb] at hf; exact DwW.law_few A n cap b w hf
  | true =>
    rw [hb] at hf
    unfold fewB at hb
    rw [Bool.and_eq_true, decide_eq_true_eq, decide_eq_true_eq] at hb
    have h1 : n ≤ 110 := by rw [← h.len]; exact hb.1
    by_cases g0 : (n : Int) > 30
    · exact DwW.law_out0 A n cap b w hf (decide_eq_true g0)
    by_cases g1 : (b.size : Int) > 200
    · exact DwW.law_out1 A n cap b w hf (decide_eq_false g0) (decide_eq_true g1)
    exact DwW.law_in A n cap zs b w hf h.len.symm hat h1 hb.2 (decide_eq_false g0) (decide_eq_false g1)
end Go.Proofs.Ytdeeeechdlcdbaa.DwX
