/- The walk of ScanNode, joined. -/
import Derived.Test.YtdeeeechdlcdbaaSoW
namespace Go.Proofs.Ytdeeeechdlcdbaa.SoX
open Go Go.RowKit Go.Proofs.Ytdeeeechdlcdbaa.DiA
theorem walk (A : Option Addr) (n cap : Nat) (zs : List ByteArray) (a : ByteArray) (b : ByteArray) (w : World) (h : Args.StrsIn w A n cap zs) (_ha : a.size ≤ 140737488351232) (_hb : b.size ≤ 140737488351232) :
    Calls Try.prog 16 #[.slice A n cap, .string a, .string b] w fun e w' => e = .returned (.bool true) ∧ Below w.heap.size w w' := by
  have hat := strsAt_of h
  have hf := few_any A n cap zs w h.len.symm hat h.each h.size
  cases hb : fewB zs with
  | false => rw [hb] at hf; exact SoW.law_few A n cap a b w hf
  | true =>
    rw [hb] at hf
    unfold fewB at hb
    rw [Bool.and_eq_true, decide_eq_true_eq, decide_eq_true_eq] at hb
    have h1 : n ≤ 110 := by rw [← h.len]; exact hb.1
    by_cases g0 : (a.size : Int) > 100
    · exact SoW.law_out0 A n cap a b w hf (decide_eq_true g0)
    by_cases g1 : (b.size : Int) < 40
    · exact SoW.law_out1 A n cap a b w hf (decide_eq_false g0) (decide_eq_true g1)
    by_cases g2 : (b.size : Int) > 200
    · exact SoW.law_out2 A n cap a b w hf (decide_eq_false g0) (decide_eq_false g1) (decide_eq_true g2)
    exact SoW.law_in A n cap zs a b w hf h.len.symm hat h1 hb.2 (decide_eq_false g0) (decide_eq_false g1) (decide_eq_false g2)
end Go.Proofs.Ytdeeeechdlcdbaa.SoX
