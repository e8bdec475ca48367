/- The walk of TrieGrows, joined. -/
import Derived.Test.YtdmmalkppfmkpaaTgW
namespace Go.Proofs.Ytdmmalkppfmkpaa.TgX
open Go Go.RowKit Go.Proofs.Ytdmmalkppfmkpaa.DiA Go.Proofs.Ytdmmalkppfmkpaa.TgW
theorem grows_walk (A : Option Addr) (n cap : Nat) (zs : List ByteArray) (s : ByteArray) (w : World) (h : Args.StrsIn w A n cap zs) (_hs : s.size ≤ 140737488351232) :
    Calls Try.prog 3 #[.slice A n cap, .string s] w fun e w' => e = .returned (.bool true) ∧ Below w.heap.size w w' := by
  have hat := strsAt_of h
  have hf := few_any A n cap zs w h.len.symm hat h.each h.size
  cases hb : fewB zs with
  | false => rw [hb] at hf; exact grows_few A n cap zs s w hf
  | true =>
    rw [hb] at hf
    rcases Nat.lt_or_ge 40 s.size with h40 | h40
    · exact grows_long A n cap zs s w hf h40
    · unfold fewB at hb
      rw [Bool.and_eq_true, decide_eq_true_eq, decide_eq_true_eq] at hb
      exact grows_in A n cap zs s w hf h40 h.len.symm hat h.nil (by rw [← h.len]; exact hb.1) hb.2
end Go.Proofs.Ytdmmalkppfmkpaa.TgX
