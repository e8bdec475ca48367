/- The walk of ScanPieces, joined. -/
import Derived.Test.YtdeeeechdlcdbaaSpW
namespace Go.Proofs.Ytdeeeechdlcdbaa.SpX
open Go Go.RowKit Go.Proofs Go.Proofs.Ytdeeeechdlcdbaa.DiA
theorem walk (A : Option Addr) (n cap : Nat) (zs : List ByteArray) (b : ByteArray) (C : Option Addr) (nc cc : Nat) (cz : List Int) (w : World) (h : Args.StrsIn w A n cap zs) (_hb : b.size ≤ 140737488351232) (hC : Args.IntsIn .i64 w C nc cc cz) :
    Calls Try.prog 17 #[.slice A n cap, .string b, .slice C nc cc] w fun e w' => e = .returned (.bool true) ∧ Below w.heap.size w w' := by
  have hat := strsAt_of h
  have hf := few_any A n cap zs w h.len.symm hat h.each h.size
  cases hb : fewB zs with
  | false => rw [hb] at hf; exact SpW.law_few A n cap b C nc cc cz w hf
  | true =>
    rw [hb] at hf
    unfold fewB at hb
    rw [Bool.and_eq_true, decide_eq_true_eq, decide_eq_true_eq] at hb
    have h1 : n ≤ 110 := by rw [← h.len]; exact hb.1
    by_cases g0 : (b.size : Int) > 300
    · exact SpW.law_out0 A n cap b C nc cc cz w hf (fun W bel => (ScA.intsAt_of hC).below bel) (Lib.hid hC.len.symm) (decide_eq_true g0)
    by_cases g1 : (nc : Int) > 100
    · exact SpW.law_out1 A n cap b C nc cc cz w hf (fun W bel => (ScA.intsAt_of hC).below bel) (Lib.hid hC.len.symm) (decide_eq_false g0) (decide_eq_true g1)
    exact SpW.law_in A n cap zs b C nc cc cz w hf h.len.symm hat h1 hb.2 (fun W bel => (ScA.intsAt_of hC).below bel) (Lib.hid hC.len.symm) (decide_eq_false g0) (decide_eq_false g1)
end Go.Proofs.Ytdeeeechdlcdbaa.SpX
