/- The walk of TrieNext, joined. -/
import Derived.Test.YtdeeeechdlcdbaaTnW
namespace Go.Proofs.Ytdeeeechdlcdbaa.TnX
open Go Go.RowKit Go.Proofs.Ytdeeeechdlcdbaa.DiA
theorem u8_range {a : Int} (h : (Lit.int .u8 a).wf = true) : 0 ≤ a ∧ a ≤ 255 := by
  simp [Lit.wf, IntKind.min, IntKind.max, IntKind.signed, IntKind.bits] at h
  omega
theorem next_walk (A : Option Addr) (n cap : Nat) (zs : List ByteArray) (c : Int) (w : World) (h : Args.StrsIn w A n cap zs) (hc : (Lit.int .u8 c).wf = true) :
    Calls Try.prog 6 #[.slice A n cap, .int .u8 c] w fun e w' => e = .returned (.bool true) ∧ Below w.heap.size w w' := by
  have hat := strsAt_of h
  have hf := few_any A n cap zs w h.len.symm hat h.each h.size
  cases hb : fewB zs with
  | false => rw [hb] at hf; exact TnW.next_few A n cap c w hf
  | true =>
    rw [hb] at hf
    unfold fewB at hb
    rw [Bool.and_eq_true, decide_eq_true_eq, decide_eq_true_eq] at hb
    have h1 : n ≤ 110 := by rw [← h.len]; exact hb.1
    exact TnW.next_in A n cap zs c (u8_range hc) w hf h.len.symm hat h1 hb.2
end Go.Proofs.Ytdeeeechdlcdbaa.TnX
