/- The walk of ScanTwo, joined. -/
import Derived.Test.YtdeeeechdlcdbaaSwW
namespace Go.Proofs.Ytdeeeechdlcdbaa.SwX
open Go Go.RowKit Go.Proofs Go.Proofs.Ytdeeeechdlcdbaa.DiA
theorem walk (A : Option Addr) (n cap : Nat) (zs : List ByteArray) (a : ByteArray) (b : ByteArray) (w : World) (h : Args.StrsIn w A n cap zs) (_ha : a.size ≤ 140737488351232) (_hb : b.size ≤ 140737488351232) :
    Calls Try.prog 19 #[.slice A n cap, .string a, .string b] w fun e w' => e = .returned (.bool true) ∧ Below w.heap.size w w' := by
  have hat := strsAt_of h
  have hf := few_any A n cap zs w h.len.symm hat h.each h.size
  cases hb : fewB zs with
  | false => rw [hb] at hf; exact SwW.law_few A n cap a b w hf
  | true =>
    rw [hb] at hf
    unfold fewB at hb
    rw [Bool.and_eq_true, decide_eq_true_eq, decide_eq_true_eq] at hb
    have h1 : n ≤ 110 := by rw [← h.len]; exact hb.1
    by_cases g0 : (a.size : Int) + (b.size : Int) > 200
    · exact SwW.law_out0 A n cap a b w hf (by rw [IntKind.wrap_i64]; omega) (decide_eq_true g0)
    exact SwW.law_in A n cap zs a b w hf h.len.symm hat h1 hb.2 (by rw [IntKind.wrap_i64]; omega) (decide_eq_false g0)
end Go.Proofs.Ytdeeeechdlcdbaa.SwX
