/- Plain facts on the sums of bytes: the register as 32 bits, a round, a byte, bytes; each is linear, and one to one. No program is in sight. -/
import Derived.WalkKit
namespace Go.Proofs.Ythaoofnnhdkboaa.CrcP
open Go

theorem wrap32_nat (n : Nat) (h : n < 2 ^ 32) : IntKind.u32.wrap (n : Int) = (n : Int) := by rw [IntKind.wrap_u32]; omega
theorem xor32 (a b : BitVec 32) : Go.bits .xor .u32 (a.toNat : Int) (b.toNat : Int) = ((a ^^^ b).toNat : Int) := by
  have h : Go.bits .xor .u32 (a.toNat : Int) (b.toNat : Int) = IntKind.u32.wrap (((BitVec.ofInt 32 (a.toNat : Int)) ^^^ (BitVec.ofInt 32 (b.toNat : Int))).toNat : Int) := rfl
  rw [h, BitVec.ofInt_natCast, BitVec.ofInt_natCast, BitVec.ofNat_toNat, BitVec.ofNat_toNat, BitVec.setWidth_eq, BitVec.setWidth_eq]
  exact wrap32_nat _ (a ^^^ b).isLt
theorem and32 (a b : BitVec 32) : Go.bits .and .u32 (a.toNat : Int) (b.toNat : Int) = ((a &&& b).toNat : Int) := by
  have h : Go.bits .and .u32 (a.toNat : Int) (b.toNat : Int) = IntKind.u32.wrap (((BitVec.ofInt 32 (a.toNat : Int)) &&& (BitVec.ofInt 32 (b.toNat : Int))).toNat : Int) := rfl
  rw [h, BitVec.ofInt_natCast, BitVec.ofInt_natCast, BitVec.ofNat_toNat, BitVec.ofNat_toNat, BitVec.setWidth_eq, BitVec.setWidth_eq]
  exact wrap32_nat _ (a &&& b).isLt
def turn : BitVec 32 := 3988292384#32
def ones : BitVec 32 := 4294967295#32
/-- One bit's round. -/
def round (y : BitVec 32) : BitVec 32 := if y.getLsbD 0 = true then (y >>> 1) ^^^ turn else y >>> 1
def rounds : Nat → BitVec 32 → BitVec 32
  | 0, y => y
  | n + 1, y => round (rounds n y)
/-- One byte's byteStep. -/
def byteStep (v : BitVec 32) (c : UInt8) : BitVec 32 := rounds 8 (v ^^^ c.toBitVec.setWidth 32)
def fold (l : List UInt8) (v : BitVec 32) : BitVec 32 := l.foldl byteStep v
theorem fold_snoc (l : List UInt8) (c : UInt8) (v : BitVec 32) : fold (l ++ [c]) v = byteStep (fold l v) c := by simp [fold]
theorem fold_append (a b : List UInt8) (v : BitVec 32) : fold (a ++ b) v = fold b (fold a v) := by simp [fold]
theorem fold_cons (c : UInt8) (l : List UInt8) (v : BitVec 32) : fold (c :: l) v = fold l (byteStep v c) := by unfold fold; rw [List.foldl_cons]
theorem one_bit (y : BitVec 32) : (Go.bits .and .u32 (y.toNat : Int) 1 == 1) = y.getLsbD 0 := by
  rw [show (1 : Int) = ((1#32 : BitVec 32).toNat : Int) from rfl, and32]
  rw [BitVec.and_one_eq_setWidth_ofBool_getLsbD]
  cases y.getLsbD 0 <;> rfl
theorem half_B (y : BitVec 32) : (y.toNat : Int) / (2 : Int) = ((y >>> 1).toNat : Int) := by
  rw [BitVec.toNat_ushiftRight, Nat.shiftRight_eq_div_pow]
  omega
theorem arm_one (y : BitVec 32) (h : (Go.bits .and .u32 (y.toNat : Int) 1 == 1) = true) : Go.bits .xor .u32 ((y.toNat : Int) / 2) 3988292384 = ((round y).toNat : Int) := by
  rw [one_bit] at h
  rw [half_B, show (3988292384 : Int) = (turn.toNat : Int) from rfl, xor32]
  unfold round
  rw [if_pos h]
theorem arm_none (y : BitVec 32) (h : (Go.bits .and .u32 (y.toNat : Int) 1 == 1) = false) : (y.toNat : Int) / (2 : Int) = ((round y).toNat : Int) := by
  rw [one_bit] at h
  rw [half_B]
  unfold round
  rw [if_neg (by rw [h]; decide)]
theorem byte_B (c : UInt8) : ((c.toNat : Int) % 4294967296) = ((c.toBitVec.setWidth 32).toNat : Int) := by
  have h := c.toNat_lt
  rw [BitVec.toNat_setWidth]
  have e : c.toBitVec.toNat = c.toNat := rfl
  rw [e, Nat.mod_eq_of_lt (by omega)]
  omega
theorem byte_xor (v : BitVec 32) (c : UInt8) : Go.bits .xor .u32 (v.toNat : Int) ((c.toNat : Int) % 4294967296) = ((v ^^^ c.toBitVec.setWidth 32).toNat : Int) := by rw [byte_B, xor32]
theorem not_B (v : BitVec 32) : Go.bits .xor .u32 IntKind.u32.max (v.toNat : Int) = ((ones ^^^ v).toNat : Int) := by
  rw [show IntKind.u32.max = (ones.toNat : Int) from rfl, xor32]

/-! linear -/
theorem round_xor (x y : BitVec 32) : round (x ^^^ y) = round x ^^^ round y := by
  unfold round
  rw [BitVec.getLsbD_xor, BitVec.ushiftRight_xor_distrib]
  cases x.getLsbD 0 <;> cases y.getLsbD 0 <;> simp
  · rw [BitVec.xor_assoc]
  · rw [BitVec.xor_assoc, BitVec.xor_assoc]; congr 1; rw [BitVec.xor_comm]
  · have : x >>> 1 ^^^ turn ^^^ (y >>> 1 ^^^ turn) = x >>> 1 ^^^ y >>> 1 ^^^ (turn ^^^ turn) := by
      rw [BitVec.xor_assoc, ← BitVec.xor_assoc turn, BitVec.xor_comm turn (y >>> 1), BitVec.xor_assoc (y >>> 1), BitVec.xor_assoc (x >>> 1)]
    rw [this, BitVec.xor_self, BitVec.xor_zero]
theorem rounds_xor (n : Nat) (x y : BitVec 32) : rounds n (x ^^^ y) = rounds n x ^^^ rounds n y := by
  induction n with
  | zero => rfl
  | succ n ih => show round _ = round _ ^^^ round _; rw [ih, round_xor]

end Go.Proofs.Ythaoofnnhdkboaa.CrcP
