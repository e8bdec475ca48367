/- The walk of TrieShared, joined. -/
import Derived.Test.YtdeeeechdlcdbaaTsW
namespace Go.Proofs.Ytdeeeechdlcdbaa.TsX
open Go Go.RowKit Go.Proofs.Ytdeeeechdlcdbaa.TsW
theorem shared_walk (a b c : ByteArray) (w : World) (_h1 : a.size ≤ 140737488351232) (_h2 : b.size ≤ 140737488351232) (_h3 : c.size ≤ 140737488351232) :
    Calls Try.prog 5 #[.string a, .string b, .string c] w fun e w' => e = .returned (.bool true) ∧ Below w.heap.size w w' := by
  by_cases h0 : 13 < a.size
  · exact out0 a b c w h0
  by_cases h1 : 13 < b.size
  · exact out1 a b c w h0 h1
  by_cases h2 : 13 < c.size
  · exact out2 a b c w h0 h1 h2
  by_cases h3 : a.size = 0
  · exact out3 a b c w h0 h1 h2 h3
  by_cases h4 : b.size = 0
  · exact out4 a b c w h0 h1 h2 h3 h4
  by_cases h5 : c.size = 0
  · exact out5 a b c w h0 h1 h2 h3 h4 h5
  by_cases h6 : TrP.byteOf b 0 = TrP.byteOf c 0
  · exact out6 a b c w h0 h1 h2 h3 h4 h5 h6
  exact shared_in a b c w h0 h1 h2 h3 h4 h5 h6
end Go.Proofs.Ytdeeeechdlcdbaa.TsX
