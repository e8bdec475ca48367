/- The walk of ScanResets, joined. -/
import Derived.Test.YtdeeeechdlcdbaaSzW
namespace Go.Proofs.Ytdeeeechdlcdbaa.SzX
open Go Go.RowKit Go.Proofs.Ytdeeeechdlcdbaa.DiA
theorem walk (A : Option Addr) (n cap : Nat) (zs : List ByteArray) (a : ByteArray) (b : ByteArray) (w : World) (h : Args.StrsIn w A n cap zs) (_ha : a.size ≤ 140737488351232) (_hb : b.size ≤ 140737488351232) :
    Calls Try.prog 20 #[.slice A n cap, .string a, .string b] w fun e w' => e = .returned (.bool true) ∧ Below w.heap.size w w' := by
  have hat := strsAt_of h
  have hf := few_any A n cap zs w h.len.symm hat h.each h.size
  cases hb : fewB zs with
  | false => rw [hb] at hf; exact SzW.law_few A n cap a b w hf
  | true =>
    rw [hb] at hf
    unfold fewB at hb
    rw [Bool.and_eq_true, decide_eq_true_eq, decide_eq_true_eq] at hb
    have h1 : n ≤ 110 := by rw [← h.len]; exact hb.1
    by_cases g0 : (a.size : Int) + (b.size : Int) > 200
    · exact SzW.law_out0 A n cap a b w hf _ha _hb (by rw [IntKind.wrap_i64]; omega) (decide_eq_true g0)
    exact SzW.law_in A n cap zs a b w hf h.len.symm hat h1 hb.2 _ha _hb (by rw [IntKind.wrap_i64]; omega) (decide_eq_false g0)
end Go.Proofs.Ytdeeeechdlcdbaa.SzX
