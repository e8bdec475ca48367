/- The walk of TrieWalks, joined. -/
import Derived.Test.YtdmmalkppfmkpaaTwW
import Derived.Test.YtdmmalkppfmkpaaTwV
namespace Go.Proofs.Ytdmmalkppfmkpaa.TwX
open Go Go.RowKit Go.Proofs.Ytdmmalkppfmkpaa.DiA
theorem walks_walk (A : Option Addr) (n cap : Nat) (zs : List ByteArray) (b : ByteArray) (w : World) (h : Args.StrsIn w A n cap zs) (_hs : b.size ≤ 140737488351232) :
    Calls Try.prog 4 #[.slice A n cap, .string b] w fun e w' => e = .returned (.bool true) ∧ Below w.heap.size w w' := by
  have hat := strsAt_of h
  have hf := few_any A n cap zs w h.len.symm hat h.each h.size
  cases hb : fewB zs with
  | false => rw [hb] at hf; exact TwW.walks_few A n cap b w hf
  | true =>
    rw [hb] at hf
    rcases Nat.lt_or_ge 60 b.size with h60 | h60
    · exact TwW.walks_long A n cap b w hf h60
    · unfold fewB at hb
      rw [Bool.and_eq_true, decide_eq_true_eq, decide_eq_true_eq] at hb
      have h1 : n ≤ 110 := by rw [← h.len]; exact hb.1
      rcases A with _ | ad
      · exact TwV.walks_none n cap zs b w hf h60 h.len.symm hat (h.nil rfl) h1 hb.2
      · exact TwW.walks_some ad n cap zs b w hf h60 h.len.symm hat h1 hb.2
end Go.Proofs.Ytdmmalkppfmkpaa.TwX
