/- frame.Get at all bytes; plain facts on frames as bytes. -/
import Derived.Test.YthaoofnnhdkboaaFrB
set_option linter.unusedSimpArgs false
set_option linter.unusedVariables false
namespace Go.Proofs.Ythaoofnnhdkboaa.FrD
open Go.RowKit Go.Proofs.Ythaoofnnhdkboaa.CrcL Go.Proofs.Ythaoofnnhdkboaa.FrW Go.Proofs.Ythaoofnnhdkboaa.FrH Go.Proofs.Ythaoofnnhdkboaa.FrU Go.Proofs.Ythaoofnnhdkboaa.FrL Go.Proofs.Ythaoofnnhdkboaa.FrQ Go.Proofs.Ythaoofnnhdkboaa.FrR Go.Proofs.Ythaoofnnhdkboaa.FrB
open Go.Proofs.Ythaoofnnhdkboaa.FrG (b8)
theorem empty_size {b : ByteArray} (h : b.size = 0) : b = ⟨#[]⟩ := ByteArray.ext (Array.eq_empty_of_size_eq_zero h)
theorem fget_any (b : ByteArray) (m : Int) (w : World) (hs : b.size ≤ 140737488351232) :
    Calls Try.prog 42 #[.string b, .int .i64 m] w fun e w' => e = getOut b m ∧ Below w.heap.size w w' := by
  have hn := b8_nonneg b 0
  rcases Nat.eq_zero_or_pos b.size with h | h
  · rw [empty_size h]; exact get_empty m w
  · rcases (show 2 < b8 b 0 ∨ b8 b 0 = 0 ∨ (b8 b 0 = 1 ∨ b8 b 0 = 2) by omega) with h2 | h2 | h2
    · exact get_kind b m w hs h h2
    · rcases Nat.lt_or_ge b.size 5 with h3 | h3
      · exact get_end0 b m w hs h h2 h3
      · exact get_end b m w hs h3 h2
    · rcases Nat.lt_or_ge b.size 9 with h3 | h3
      · exact get_few b m w hs h h2 h3
      · exact get_block b m w hs h3 h2
/-! ### Frames as lists of bytes -/
theorem size_list (b : ByteArray) : b.size = b.data.toList.length := by rw [Array.length_toList]; rfl
theorem b8_list (b : ByteArray) (i : Nat) : b8 b i = ((b.data.toList.getD i 0).toNat : Int) := rfl
theorem ends_list (x : Int) : (bigS 0 1 ++ bigS x.toNat 4).data.toList = 0 :: bL x.toNat 4 4 := by
  rw [app_list, bigS_list, bigS_list]; rfl
theorem nb (n k : Nat) (h : n < 2 ^ (8 * k)) : (numN (bL n k k) : Int) = n := by rw [numN_bL _ _ _ (Nat.le_refl _) h]; simp
/-- The end's frame comes back, whatever stands behind it. -/
theorem getF_end (x m : Int) (r : ByteArray) (hx : 0 ≤ x ∧ x ≤ 4294967295) : getF (bigS 0 1 ++ bigS x.toNat 4 ++ r) m = ((0, x, 0, ⟨#[]⟩), 5, 0) := by
  have hl : (bigS 0 1 ++ bigS x.toNat 4 ++ r).data.toList = 0 :: (bL x.toNat 4 4 ++ r.data.toList) := by rw [app_list, ends_list]; rfl
  have hlen := bL_length x.toNat 4 4
  have hsz : (bigS 0 1 ++ bigS x.toNat 4 ++ r).size = 5 + r.size := by simp only [ByteArray.size_append, bigS_size]
  have e0 : b8 (bigS 0 1 ++ bigS x.toNat 4 ++ r) 0 = 0 := by rw [b8_list, hl]; rfl
  have e1 : numS ((bigS 0 1 ++ bigS x.toNat 4 ++ r).extract 1 5) = x := by
    rw [numS_ext, hl]
    show (numN ((bL x.toNat 4 4 ++ r.data.toList).take 4) : Int) = x
    rw [List.take_left' hlen, nb _ _ (by have : (2 : Nat) ^ (8 * 4) = 4294967296 := by decide
                                         omega)]
    omega
  unfold getF
  rw [if_neg (by omega), e0, e1, if_neg (by omega), if_pos rfl, if_neg (by omega)]
/-- A block's frame, as a list. -/
theorem frameS_list (k x s : Int) (t : ByteArray) : (frameS k x s t).data.toList = UInt8.ofNat (k.toNat % 256) :: (bL x.toNat 2 2 ++ (bL t.size 2 2 ++ (bL s.toNat 4 4 ++ t.data.toList))) := by
  unfold frameS
  rw [app_list, app_list, app_list, app_list, bigS_list, bigS_list, bigS_list, bigS_list]
  have h2 : bL k.toNat 1 1 = [UInt8.ofNat (k.toNat % 256)] := by
    show [UInt8.ofNat (byteAt k.toNat 1 0).toNat] = _
    rw [byteAt_nat]; simp
  rw [h2]
  simp
theorem frameS_size (k x s : Int) (t : ByteArray) : (frameS k x s t).size = 9 + t.size := by
  unfold frameS
  simp only [ByteArray.size_append, bigS_size]
/-- What Get reads out of bytes that are given as a list. -/
theorem getF_list {b : ByteArray} {c : UInt8} {x n y r : List UInt8} (m : Int) (hb : b.data.toList = c :: (x ++ (n ++ (y ++ r)))) (hx : x.length = 2) (hn : n.length = 2) (hy : y.length = 4) (hc : (c.toNat : Int) = 1 ∨ (c.toNat : Int) = 2) :
    getF b m = if m < (numN x : Int) ∨ fitsB c.toNat (numN x) (numN n) 1024 = false then ((0, 0, 0, (⟨#[]⟩ : ByteArray)), 0, 10) else
      if r.length < numN n then ((0, 0, 0, (⟨#[]⟩ : ByteArray)), 0, 2) else (((c.toNat : Int), (numN x : Int), (numN y : Int), (⟨(r.take (numN n)).toArray⟩ : ByteArray)), 9 + (numN n : Int), 0) := by
  have hsz : b.size = 9 + r.length := by rw [size_list, hb]; simp; omega
  have d1 : b.data.toList.drop 1 = x ++ (n ++ (y ++ r)) := by rw [hb]; rfl
  have d3 : b.data.toList.drop 3 = n ++ (y ++ r) := by
    rw [show (3 : Nat) = 1 + 2 by rfl, ← List.drop_drop, d1]; exact List.drop_left' hx
  have d5 : b.data.toList.drop 5 = y ++ r := by
    rw [show (5 : Nat) = 3 + 2 by rfl, ← List.drop_drop, d3]; exact List.drop_left' hn
  have d9 : b.data.toList.drop 9 = r := by
    rw [show (9 : Nat) = 5 + 4 by rfl, ← List.drop_drop, d5]; exact List.drop_left' hy
  have e0 : b8 b 0 = c.toNat := by rw [b8_list, hb]; rfl
  have ex : numS (b.extract 1 3) = numN x := by rw [numS_ext, d1, List.take_left' (by omega)]
  have en : numS (b.extract 3 5) = numN n := by rw [numS_ext, d3, List.take_left' (by omega)]
  have ey : numS (b.extract 5 9) = numN y := by rw [numS_ext, d5, List.take_left' (by omega)]
  have et : b.extract 9 (9 + numN n) = ⟨(r.take (numN n)).toArray⟩ := by
    apply data_inj
    rw [ext_list, d9]
    simp
  unfold getF
  rw [if_neg (by omega), e0, ex, en, ey, if_neg (by omega), if_neg (by omega), if_neg (by omega), Int.toNat_natCast, et]
  have hlt : ((b.size : Int) < 9 + (numN n : Int)) ↔ r.length < numN n := by omega
  simp only [hlt]
/-- A block's frame comes back, whatever stands behind it. -/
theorem getF_frame (k x s m : Int) (t r : ByteArray) (hk : k = 1 ∨ k = 2) (hx : 1 ≤ x ∧ x ≤ 1024) (hs : 0 ≤ s ∧ s < 4294967296) (hm : x ≤ m) (hfit : fitsB k x t.size 1024 = true) :
    getF (frameS k x s t ++ r) m = ((k, x, s, t), 9 + (t.size : Int), 0) := by
  have hp := fits_parts hfit
  have hl : (frameS k x s t ++ r).data.toList = UInt8.ofNat (k.toNat % 256) :: (bL x.toNat 2 2 ++ (bL t.size 2 2 ++ (bL s.toNat 4 4 ++ (t.data.toList ++ r.data.toList)))) := by
    rw [app_list, frameS_list]; simp
  have e2 : (2 : Nat) ^ (8 * 2) = 65536 := by decide
  have e4 : (2 : Nat) ^ (8 * 4) = 4294967296 := by decide
  have hc : ((UInt8.ofNat (k.toNat % 256)).toNat : Int) = k := by
    have : (UInt8.ofNat (k.toNat % 256)).toNat = k.toNat % 256 := by simp
    rw [this]; omega
  have n1 : (numN (bL x.toNat 2 2) : Int) = x := by rw [nb _ _ (by omega)]; omega
  have n2 : numN (bL t.size 2 2) = t.size := by have := nb t.size 2 (by omega); omega
  have n3 : (numN (bL s.toNat 4 4) : Int) = s := by rw [nb _ _ (by omega)]; omega
  rw [getF_list m hl (bL_length _ _ _) (bL_length _ _ _) (bL_length _ _ _) (by rw [hc]; exact hk), hc, n1, n2, n3, if_neg (no_or (by omega) hfit), if_neg (by rw [List.length_append, ← size_list]; omega)]
  have e : (⟨((t.data.toList ++ r.data.toList).take t.size).toArray⟩ : ByteArray) = t := by
    apply data_inj
    rw [List.take_left' (size_list t).symm]
  rw [e]
theorem getF_empty (m : Int) : getF ⟨#[]⟩ m = ((0, 0, 0, ⟨#[]⟩), 0, 2) := by unfold getF; rw [if_pos (show (⟨#[]⟩ : ByteArray).size = 0 from rfl)]
theorem getF_kind {b : ByteArray} (m : Int) (h : 1 ≤ b.size) (h2 : 2 < b8 b 0) : getF b m = ((0, 0, 0, ⟨#[]⟩), 0, 3) := by unfold getF; rw [if_neg (by omega), if_pos h2]
theorem getF_err3 {b : ByteArray} (m : Int) (h2 : ¬ 2 < b8 b 0) : (getF b m).2.2 ≠ 3 := by
  unfold getF
  rw [if_neg h2]
  repeat' split
  all_goals (intro e; cases e)
theorem one_first (c : Int) (r : ByteArray) (hc : 0 ≤ c ∧ c ≤ 255) : b8 (strOfNums [c] ++ r) 0 = c ∧ (strOfNums [c] ++ r).size = 1 + r.size := by
  constructor
  · rw [b8_list, app_list]
    show ((UInt8.ofNat c.toNat).toNat : Int) = c
    have : (UInt8.ofNat c.toNat).toNat = c.toNat % 256 := by simp
    rw [this]; omega
  · rw [ByteArray.size_append]; rfl
end Go.Proofs.Ythaoofnnhdkboaa.FrD
