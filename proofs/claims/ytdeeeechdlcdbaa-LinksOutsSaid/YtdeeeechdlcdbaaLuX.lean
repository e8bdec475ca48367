/- The walk of LinksOuts, joined. -/
import Derived.Test.YtdeeeechdlcdbaaLuW
namespace Go.Proofs.Ytdeeeechdlcdbaa.LuX
open Go Go.RowKit Go.Proofs.Ytdeeeechdlcdbaa.DiA
theorem walk (A : Option Addr) (n cap : Nat) (zs : List ByteArray) (w : World) (h : Args.StrsIn w A n cap zs) :
    Calls Try.prog 12 #[.slice A n cap] w fun e w' => e = .returned (.bool true) ∧ Below w.heap.size w w' := by
  have hat := strsAt_of h
  have hf := few_any A n cap zs w h.len.symm hat h.each h.size
  cases hb : fewB zs with
  | false => rw [hb] at hf; exact LuW.law_few A n cap w hf
  | true =>
    rw [hb] at hf
    unfold fewB at hb
    rw [Bool.and_eq_true, decide_eq_true_eq, decide_eq_true_eq] at hb
    have h1 : n ≤ 110 := by rw [← h.len]; exact hb.1
    exact LuW.law_in A n cap zs w hf h.len.symm hat h1 hb.2
end Go.Proofs.Ytdeeeechdlcdbaa.LuX
