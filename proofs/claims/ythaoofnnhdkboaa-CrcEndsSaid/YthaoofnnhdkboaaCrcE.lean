/- The walk of CrcEnds: it returns true for every two strings. -/
import Derived.Test.YthaoofnnhdkboaaCrcT
set_option linter.unusedSimpArgs false
set_option linter.unusedVariables false
namespace Go.Proofs.Ythaoofnnhdkboaa.CrcE
open Go.RowKit Go.Proofs.Ythaoofnnhdkboaa.CrcP Go.Proofs.Ythaoofnnhdkboaa.CrcW Go.Proofs.Ythaoofnnhdkboaa.CrcQ Go.Proofs.Ythaoofnnhdkboaa.CrcL

def endI (x : Int) : List Int := [x % 256, x / 256 % 256, x / 65536 % 256, x / 16777216]
theorem conv4 (w : World) (b : Nat) (x0 x1 x2 x3 : Int) (h0 : w.cell? ⟨b, 0, none⟩ = some (.int .u8 x0)) (h1 : w.cell? ⟨b, 1, none⟩ = some (.int .u8 x1)) (h2 : w.cell? ⟨b, 2, none⟩ = some (.int .u8 x2)) (h3 : w.cell? ⟨b, 3, none⟩ = some (.int .u8 x3)) :
    (convert 32 9 (.slice (some ⟨b, 0, none⟩) 4 4)).run Try.prog w = .ok (.string (strOfNums [x0, x1, x2, x3])) w := by
  refine run_convert_bytes_arg w 32 5 Try.underlying32 Try.underlying5 b 0 4 4 [x0, x1, x2, x3] rfl ?_ 9 Try.underlying9
  intro i hi
  match i, hi with
  | 0, _ => exact h0
  | 1, _ => exact h1
  | 2, _ => exact h2
  | 3, _ => exact h3
theorem size4 (x0 x1 x2 x3 : Int) : (strOfNums [x0, x1, x2, x3]).size = 4 := rfl
set_option maxHeartbeats 1000000 in
theorem end_any (s : ByteArray) (w : World) (hs : s.size ≤ 1000) :
    Calls Try.prog 30 #[.string s] w fun e w' => e = .returned (.string (s ++ strOfNums (endI (sumS s)))) ∧ Below w.heap.size w w' := by
  have hx0 : 0 ≤ sumS s := by unfold sumS cellI; omega
  have hx1 : sumS s < 4294967296 := by unfold sumS cellI; have := (ones ^^^ foldS s ones).isLt; omega
  have hcv := conv4
  have hs4 := size4
  go_enter Try.func30, Try.ntmps30
  go_wp2_with fail
  refine (of_any s _ (by unfold maxLen; omega)).mono ?_
  rintro e w1 ⟨rfl, hb1⟩
  generalize hx : sumS s = x at *
  have HX := Lib.hid hx
  clear hx
  go_wp2_with fail
  go_ret
  exact ⟨by rw [HX.out]; rfl, balloc hb1 _⟩

theorem lo_of (w : BitVec 32) (n : Nat) (h : n % 256 = w.toNat % 256) : UInt8.ofNat n = lo w := by
  apply UInt8.toNat_inj.1
  unfold lo
  rw [UInt8.toNat_ofNat']
  show n % 2 ^ 8 = (w.setWidth 8).toNat
  rw [BitVec.toNat_setWidth]
  exact h
theorem end_data (w : BitVec 32) : (strOfNums (endI (w.toNat : Int))).data.toList = [lo w, lo (w >>> 8), lo (w >>> 16), lo (w >>> 24)] := by
  rw [strOfNums_data]
  unfold endI
  have hw := w.isLt
  simp only [List.map_cons, List.map_nil]
  rw [lo_of w _ (by omega), lo_of (w >>> 8) _ (by rw [BitVec.toNat_ushiftRight, Nat.shiftRight_eq_div_pow]; omega), lo_of (w >>> 16) _ (by rw [BitVec.toNat_ushiftRight, Nat.shiftRight_eq_div_pow]; omega), lo_of (w >>> 24) _ (by rw [BitVec.toNat_ushiftRight, Nat.shiftRight_eq_div_pow]; omega)]
def endS (s : ByteArray) : ByteArray := s ++ strOfNums (endI (sumS s))
theorem end_law (s : ByteArray) : sumS (endS s) = cellI (rounds 8 (rounds 8 (rounds 8 (rounds 8 ones)))) := by
  unfold endS
  have e : sumS s = (((ones ^^^ foldS s ones) : BitVec 32).toNat : Int) := rfl
  rw [e]
  show cellI (fold (s ++ strOfNums (endI _)).data.toList ones) = _
  rw [ByteArray.data_append, Array.toList_append, fold_append, end_data, fold_ends]
  congr 5
  show foldS s ones ^^^ (ones ^^^ foldS s ones) = ones
  rw [BitVec.xor_comm ones, ← BitVec.xor_assoc, BitVec.xor_self, BitVec.zero_xor]
theorem end_size (s : ByteArray) (h : s.size ≤ 1000) : (endS s).size ≤ maxLen := by
  unfold endS
  rw [ByteArray.size_append]
  have : (strOfNums (endI (sumS s))).size = 4 := rfl
  unfold maxLen
  omega
theorem end_call (s : ByteArray) (w : World) (hs : s.size ≤ 1000) :
    Calls Try.prog 30 #[.string s] w fun e w' => e = .returned (.string (endS s)) ∧ Below w.heap.size w w' := end_any s w hs

set_option maxHeartbeats 1000000 in
theorem ends_in (a0 a1 : ByteArray) (w : World) (h0 : a0.size ≤ 1000) (h1 : a1.size ≤ 1000) (hg : decide ((a0.size : Int) + (a1.size : Int) > 1000) = false) :
    Calls Try.prog 9 #[.string a0, .string a1] w fun e w' => e = .returned (.bool true) ∧ Below w.heap.size w w' := by
  have HL := Lib.hid (show (sumS (endS a0) == sumS (endS a1)) = true by rw [end_law, end_law]; simp)
  go_enter Try.func9, Try.ntmps9
  go_wp2_with fail
  refine (alive_true _).mono ?_
  rintro e w1 ⟨rfl, hb1⟩
  go_wp2_with fail
  refine (end_call a0 _ h0).mono ?_
  rintro e w2 ⟨rfl, hb2⟩
  go_wp2_with fail
  refine (of_any _ _ (end_size a0 h0)).mono ?_
  rintro e w3 ⟨rfl, hb3⟩
  go_wp2_with fail
  refine (end_call a1 _ h1).mono ?_
  rintro e w4 ⟨rfl, hb4⟩
  go_wp2_with fail
  refine (of_any _ _ (end_size a1 h1)).mono ?_
  rintro e w5 ⟨rfl, hb5⟩
  go_wp2_with fail
  go_ret
  exact ⟨ret_bool HL.out, bstep (bstep (bstep (bstep hb1 hb2) hb3) hb4) hb5⟩
set_option maxHeartbeats 400000 in
theorem ends_out (a0 a1 : ByteArray) (w : World) (h0 : a0.size ≤ 140737488351232) (h1 : a1.size ≤ 140737488351232) (hg : decide ((a0.size : Int) + (a1.size : Int) > 1000) = true) :
    Calls Try.prog 9 #[.string a0, .string a1] w fun e w' => e = .returned (.bool true) ∧ Below w.heap.size w w' := by
  go_enter Try.func9, Try.ntmps9
  go_wp2_with fail
  refine (alive_true _).mono ?_
  rintro e w1 ⟨rfl, hb1⟩
  go_wp2_with fail
  go_ret
  exact ⟨rfl, hb1⟩
theorem ends_walk (a0 a1 : ByteArray) (w : World) (h0 : a0.size ≤ 140737488351232) (h1 : a1.size ≤ 140737488351232) :
    Calls Try.prog 9 #[.string a0, .string a1] w fun e w' => e = .returned (.bool true) ∧ Below w.heap.size w w' := by
  by_cases c : (a0.size : Int) + (a1.size : Int) > 1000
  · exact ends_out a0 a1 w h0 h1 (by simpa using c)
  · exact ends_in a0 a1 w (by omega) (by omega) (by simpa using c)

end Go.Proofs.Ythaoofnnhdkboaa.CrcE
