/- The walk of DenseTells, joined. -/
import Derived.Test.YtdeeeechdlcdbaaGreatDtW
namespace Go.Proofs.YtdeeeechdlcdbaaGreat.DtX
open Go Go.RowKit Go.Proofs.YtdeeeechdlcdbaaGreat.DiA
theorem walk (A : Option Addr) (n cap : Nat) (zs : List ByteArray) (b : ByteArray) (k0 : Int) (w : World) (h : Args.StrsIn w A n cap zs) (_hb : b.size ≤ 140737488351232) (_hk : (Lit.int .i64 k0).wf = true) :
    Calls Tryz.prog 5 #[.slice A n cap, .string b, .int .i64 k0] w fun e w' => e = .returned (.bool true) ∧ Below w.heap.size w w' := by
  have hat := strsAt_of h
  have hf := few_any A n cap zs w h.len.symm hat h.each h.size
  cases hb : fewB zs with
  | false => rw [hb] at hf; exact DtW.law_few A n cap b k0 w hf
  | true =>
    rw [hb] at hf
    unfold fewB at hb
    rw [Bool.and_eq_true, decide_eq_true_eq, decide_eq_true_eq] at hb
    have h1 : n ≤ 110 := by rw [← h.len]; exact hb.1
    by_cases g0 : (n : Int) > 30
    · exact DtW.law_out0 A n cap b k0 w hf (decide_eq_true g0)
    by_cases g1 : (b.size : Int) > 100
    · exact DtW.law_out1 A n cap b k0 w hf (decide_eq_false g0) (decide_eq_true g1)
    exact DtW.law_in A n cap b k0 zs w hf h.len.symm hat h1 hb.2 (decide_eq_false g0) (decide_eq_false g1)
end Go.Proofs.YtdeeeechdlcdbaaGreat.DtX
