/- The walk of LinksOrder, joined. -/
import Derived.Test.YtdeeeechdlcdbaaLoW
namespace Go.Proofs.Ytdeeeechdlcdbaa.LoX
open Go Go.RowKit Go.Proofs.Ytdeeeechdlcdbaa.DiA
theorem walk (A : Option Addr) (n cap : Nat) (zs : List ByteArray) (w : World) (h : Args.StrsIn w A n cap zs) :
    Calls Try.prog 11 #[.slice A n cap] w fun e w' => e = .returned (.bool true) ∧ Below w.heap.size w w' := by
  have hat := strsAt_of h
  have hf := few_any A n cap zs w h.len.symm hat h.each h.size
  cases hb : fewB zs with
  | false => rw [hb] at hf; exact LoW.law_few A n cap w hf
  | true =>
    rw [hb] at hf
    unfold fewB at hb
    rw [Bool.and_eq_true, decide_eq_true_eq, decide_eq_true_eq] at hb
    have h1 : n ≤ 110 := by rw [← h.len]; exact hb.1
    exact LoW.law_in A n cap zs w hf h.len.symm hat h1 hb.2
end Go.Proofs.Ytdeeeechdlcdbaa.LoX
