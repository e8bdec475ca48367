/- Plain facts on heads as bytes, with no program in sight. -/
import Derived.Test.YthaoofnnhdkboaaFrU
set_option linter.unusedSimpArgs false
set_option linter.unusedVariables false
namespace Go.Proofs.Ythaoofnnhdkboaa.FrL
open Go.RowKit Go.Proofs.Ythaoofnnhdkboaa.CrcL Go.Proofs.Ythaoofnnhdkboaa.FrW Go.Proofs.Ythaoofnnhdkboaa.FrH Go.Proofs.Ythaoofnnhdkboaa.FrG

/-- The bytes of a number, as a list. -/
def bL (n k i : Nat) : List UInt8 := (bytesI n k i).map fun x => UInt8.ofNat x.toNat
theorem bL_length (n k i : Nat) : (bL n k i).length = i := by unfold bL; rw [List.length_map, bytesI_length]
theorem bigS_list (n k : Nat) : (bigS n k).data.toList = bL n k k := rfl
theorem byteAt_nat (n k i : Nat) : (byteAt n k i).toNat = n / 2 ^ (8 * (k - 1 - i)) % 256 := by
  unfold byteAt
  have : ((n : Int) / 2 ^ (8 * (k - 1 - i)) % 256) = ((n / 2 ^ (8 * (k - 1 - i)) % 256 : Nat) : Int) := by simp
  rw [this, Int.toNat_natCast]
theorem numN_bL (n k i : Nat) (hi : i ≤ k) (hn : n < 2 ^ (8 * k)) : numN (bL n k i) = n / 2 ^ (8 * (k - i)) := by
  induction i with
  | zero => rw [Nat.div_eq_of_lt (by simpa using hn)]; rfl
  | succ i ih =>
    have e : bL n k (i + 1) = bL n k i ++ [UInt8.ofNat (byteAt n k i).toNat] := by unfold bL; rw [bytesI_snoc, List.map_append]; rfl
    rw [e, numN_snoc, ih (by omega), byteAt_nat]
    have h1 : k - i = (k - 1 - i) + 1 := by omega
    have h2 : k - (i + 1) = k - 1 - i := by omega
    rw [h1, h2, show 8 * (k - 1 - i + 1) = 8 * (k - 1 - i) + 8 by omega, Nat.pow_add, ← Nat.div_div_eq_div_mul]
    generalize n / 2 ^ (8 * (k - 1 - i)) = m
    have h3 : (UInt8.ofNat (m % 256)).toNat = m % 256 := by simp
    rw [h3]
    omega
/-- A piece, as a list. -/
theorem ext_list (b : ByteArray) (i j : Nat) : (b.extract i j).data.toList = (b.data.toList.drop i).take (j - i) := by
  rw [ByteArray.data_extract, Array.toList_extract]
theorem numS_ext (b : ByteArray) (i j : Nat) : numS (b.extract i j) = (numN ((b.data.toList.drop i).take (j - i)) : Int) := by
  unfold numS; rw [ext_list]
theorem data_inj {a b : ByteArray} (h : a.data.toList = b.data.toList) : a = b := ByteArray.ext (Array.toList_inj.1 h)
theorem ext_magic (b : ByteArray) : b.extract 0 4 = magic ↔ b.data.toList.take 4 = [76, 88, 80, 72] := by
  constructor
  · intro h
    have := ext_list b 0 4
    rw [h] at this
    exact this.symm
  · intro h
    apply data_inj
    rw [ext_list]
    exact h
theorem app_list (a b : ByteArray) : (a ++ b).data.toList = a.data.toList ++ b.data.toList := by simp
/-- A head's bytes, as a list. -/
theorem headS_list (c b id : Int) : (headS c b id).data.toList = [76, 88, 80, 72, 1, UInt8.ofNat (c.toNat % 256)] ++ (bL b.toNat 3 3 ++ bL id.toNat 8 8) := by
  unfold headS
  rw [app_list, app_list, app_list, app_list, bigS_list, bigS_list, bigS_list, bigS_list]
  have h1 : bL 1 1 1 = [1] := rfl
  have h2 : bL c.toNat 1 1 = [UInt8.ofNat (c.toNat % 256)] := by
    show [UInt8.ofNat (byteAt c.toNat 1 0).toNat] = _
    rw [byteAt_nat]; simp
  have h3 : magic.data.toList = [76, 88, 80, 72] := rfl
  rw [h1, h2, h3]
  simp
theorem headS_size (c b id : Int) : (headS c b id).size = 17 := by
  unfold headS
  simp only [ByteArray.size_append, bigS_size, magic_size]
/-- What GetHead says of bytes that are given as a list. -/
theorem getH_list {b : ByteArray} {m : List UInt8} {v c : UInt8} {x y r : List UInt8} (hb : b.data.toList = m ++ (v :: c :: (x ++ (y ++ r)))) (hm : m.length = 4) (hx : x.length = 3) (hy : y.length = 8) :
    getH b = if m ≠ [76, 88, 80, 72] ∨ (v.toNat : Int) ≠ 1 then ((0, 0, 0), 3) else
      if ¬ ((c.toNat : Int) = 0 ∨ (c.toNat : Int) = 1) then ((0, 0, 0), 8) else
      if ¬ (1 ≤ (numN x : Int) ∧ (numN x : Int) ≤ 1024) then ((0, 0, 0), 4) else (((c.toNat : Int), (numN x : Int), (numN y : Int)), 0) := by
  have hsz : 17 ≤ b.size := by
    have : b.size = b.data.toList.length := by simp
    rw [this, hb]; simp; omega
  have d4 : b.data.toList.drop 4 = v :: c :: (x ++ (y ++ r)) := by rw [hb]; exact List.drop_left' hm
  have d6 : b.data.toList.drop 6 = x ++ (y ++ r) := by
    rw [show (6 : Nat) = 4 + 2 by rfl, ← List.drop_drop, d4]; rfl
  have d9 : b.data.toList.drop 9 = y ++ r := by
    rw [show (9 : Nat) = 6 + 3 by rfl, ← List.drop_drop, d6]; exact List.drop_left' hx
  have e4 : b8 b 4 = v.toNat := by
    unfold b8
    rw [List.getD_eq_getElem?_getD, show (4 : Nat) = 4 + 0 by rfl, ← List.getElem?_drop, d4]; rfl
  have e5 : b8 b 5 = c.toNat := by
    unfold b8
    rw [List.getD_eq_getElem?_getD, show (5 : Nat) = 4 + 1 by rfl, ← List.getElem?_drop, d4]; rfl
  have ex : numS (b.extract 6 9) = (numN x : Int) := by rw [numS_ext, d6, List.take_left' (by omega)]
  have ey : numS (b.extract 9 17) = (numN y : Int) := by rw [numS_ext, d9, List.take_left' (by omega)]
  have em : b.extract 0 4 = magic ↔ m = [76, 88, 80, 72] := by rw [ext_magic, hb, List.take_left' hm]
  unfold getH
  rw [if_neg (by omega), e4, e5, ex, ey]
  simp only [ne_eq, em]
/-- A head comes back, whatever stands behind it. -/
theorem getH_head (c b id : Int) (t : ByteArray) (hc : 0 ≤ c ∧ c ≤ 1) (hb : 1 ≤ b ∧ b ≤ 1024) (hid : 0 ≤ id ∧ id < 18446744073709551616) :
    getH (headS c b id ++ t) = ((c, b, id), 0) := by
  have hl : (headS c b id ++ t).data.toList = [76, 88, 80, 72] ++ (1 :: UInt8.ofNat (c.toNat % 256) :: (bL b.toNat 3 3 ++ (bL id.toNat 8 8 ++ t.data.toList))) := by
    rw [app_list, headS_list]; simp
  have nb : (numN (bL b.toNat 3 3) : Int) = b := by
    rw [numN_bL _ _ _ (Nat.le_refl _) (by have : (2 : Nat) ^ (8 * 3) = 16777216 := by decide
                                          omega)]
    simp; omega
  have ni : (numN (bL id.toNat 8 8) : Int) = id := by
    rw [numN_bL _ _ _ (Nat.le_refl _) (by have : (2 : Nat) ^ (8 * 8) = 18446744073709551616 := by decide
                                          omega)]
    simp; omega
  have nc : ((UInt8.ofNat (c.toNat % 256)).toNat : Int) = c := by
    have : (UInt8.ofNat (c.toNat % 256)).toNat = c.toNat % 256 := by simp
    rw [this]; omega
  rw [getH_list hl rfl (bL_length _ _ _) (bL_length _ _ _), nb, ni, nc]
  have h1 : ((1 : UInt8).toNat : Int) = 1 := rfl
  rw [h1, if_neg (by simp), if_neg (by omega), if_neg (by omega)]
end Go.Proofs.Ythaoofnnhdkboaa.FrL
