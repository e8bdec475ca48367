/- The walk of HitsAny, joined. -/
import Derived.Test.YtdeeeechdlcdbaaHaW
namespace Go.Proofs.Ytdeeeechdlcdbaa.HaX
open Go Go.RowKit Go.Proofs Go.Proofs.Ytdeeeechdlcdbaa.DiA
theorem walk (A : Option Addr) (n cap : Nat) (zs : List ByteArray) (n0 : Int) (V : Option Addr) (mh ch : Nat) (H : List (Int × Int)) (w : World) (h : Args.StrsIn w A n cap zs) (_wn : (Lit.int .i64 n0).wf = true) (hh : Args.HitsIn w V mh ch H) :
    Calls Try.prog 3 #[.slice A n cap, .int .i64 n0, .slice V mh ch] w fun e w' => e = .returned (.bool true) ∧ Below w.heap.size w w' := by
  have hat := strsAt_of h
  have hf := few_any A n cap zs w h.len.symm hat h.each h.size
  cases hb : fewB zs with
  | false => rw [hb] at hf; exact HaU.law_few A n cap n0 V mh ch w hf
  | true =>
    rw [hb] at hf
    unfold fewB at hb
    rw [Bool.and_eq_true, decide_eq_true_eq, decide_eq_true_eq] at hb
    have h1 : n ≤ 110 := by rw [← h.len]; exact hb.1
    by_cases g0 : (mh : Int) > 100
    · exact HaU.law_out0 A n cap n0 V mh ch w hf (decide_eq_true g0)
    by_cases g1 : n0 ≤ 1024
    · exact HaW.law_in A n cap zs n0 V mh ch w hf h.len.symm hat h1 hb.2 H hh.len.symm (Args.hIn_of hh) hh.wf (decide_eq_false g0) g1
    · exact HaU.law_big_in A n cap zs n0 V mh ch w hf h.len.symm hat h1 hb.2 H hh.len.symm (Args.hIn_of hh) hh.wf (decide_eq_false g0) (by omega)
end Go.Proofs.Ytdeeeechdlcdbaa.HaX
