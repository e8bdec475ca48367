/- Plain facts on the names of bytes: xor twice is nothing; a step is one to one in the byte; pieces join. No program is in sight. -/
import Derived.Test.YthaoofnnhdkboaaFnvW
namespace Go.Proofs.Ythaoofnnhdkboaa.FnvP
open Go.Proofs.Ythaoofnnhdkboaa.FnvW

theorem wrap64_nat (n : Nat) (h : n < 2 ^ 64) : IntKind.u64.wrap (n : Int) = (n : Int) := by
  simp only [IntKind.wrap, IntKind.bits, IntKind.signed]
  simp
  omega
theorem xor64 (a b : BitVec 64) : Go.bits .xor .u64 (a.toNat : Int) (b.toNat : Int) = ((a ^^^ b).toNat : Int) := by
  have h : Go.bits .xor .u64 (a.toNat : Int) (b.toNat : Int) = IntKind.u64.wrap (((BitVec.ofInt 64 (a.toNat : Int)) ^^^ (BitVec.ofInt 64 (b.toNat : Int))).toNat : Int) := rfl
  rw [h, BitVec.ofInt_natCast, BitVec.ofInt_natCast, BitVec.ofNat_toNat, BitVec.ofNat_toNat, BitVec.setWidth_eq, BitVec.setWidth_eq]
  exact wrap64_nat _ (a ^^^ b).isLt
def F : BitVec 64 := 14695981039346656037#64
def P : BitVec 64 := 1099511628211#64
def Q : BitVec 64 := 14886173955864302971#64
def stepB (v : BitVec 64) (c : UInt8) : BitVec 64 := (v ^^^ c.toBitVec.setWidth 64) * P
def foldB (l : List UInt8) (v : BitVec 64) : BitVec 64 := l.foldl stepB v
theorem first_F : first = (F.toNat : Int) := by decide +kernel
theorem FH_B (v : BitVec 64) : FH (v.toNat : Int) = ((v ^^^ F).toNat : Int) := by
  unfold FH
  rw [show (14695981039346656037 : Int) = (F.toNat : Int) from first_F, xor64]
theorem byte_B (c : UInt8) : IntKind.u64.wrap (c.toNat : Int) = ((c.toBitVec.setWidth 64).toNat : Int) := by
  have h := c.toNat_lt
  rw [wrap64_nat _ (by omega)]
  rw [BitVec.toNat_setWidth]
  have : c.toBitVec.toNat = c.toNat := rfl
  rw [Nat.mod_eq_of_lt (by omega)]; exact congrArg Int.ofNat this.symm
theorem step_B (v : BitVec 64) (c : UInt8) : stepI (v.toNat : Int) (c.toNat : Int) = ((stepB v c).toNat : Int) := by
  unfold stepI stepB
  rw [byte_B, xor64]
  generalize v ^^^ c.toBitVec.setWidth 64 = x
  rw [BitVec.toNat_mul]
  have hp : P.toNat = 1099511628211 := by decide +kernel
  rw [hp]
  simp only [IntKind.wrap, IntKind.bits, IntKind.signed]
  simp
theorem foldI_cons (c : UInt8) (l : List UInt8) (v : Int) : foldI (c :: l) v = foldI l (stepI v (c.toNat : Int)) := by unfold foldI; rw [List.foldl_cons]
theorem foldB_cons (c : UInt8) (l : List UInt8) (v : BitVec 64) : foldB (c :: l) v = foldB l (stepB v c) := by unfold foldB; rw [List.foldl_cons]
theorem fold_B (l : List UInt8) : ∀ v : BitVec 64, foldI l (v.toNat : Int) = ((foldB l v).toNat : Int) := by
  induction l with
  | nil => intro v; rfl
  | cons c l ih => intro v; rw [foldI_cons, foldB_cons, step_B, ih]
theorem foldI_append (a b : List UInt8) (v : Int) : foldI (a ++ b) v = foldI b (foldI a v) := by simp [foldI]
theorem FH_FH (v : BitVec 64) : FH (FH (v.toNat : Int)) = (v.toNat : Int) := by rw [FH_B, FH_B, BitVec.xor_assoc, BitVec.xor_self, BitVec.xor_zero]
/-- The cell's content for the bytes so far. -/
def held (l : List UInt8) : Int := FH (foldI l first)
theorem FH_held (l : List UInt8) : FH (held l) = foldI l first := by unfold held; rw [first_F, fold_B, FH_FH]
theorem held_nil : held [] = 0 := by decide +kernel
theorem held_step (a b : List UInt8) : FH (foldI b (FH (held a))) = held (a ++ b) := by rw [FH_held, ← foldI_append]; rfl
theorem name_first (l : List UInt8) : nameI l = foldI l first := by
  unfold nameI
  have h := held_step [] l
  rw [held_nil] at h
  rw [h, List.nil_append, FH_held]
theorem stepB_inj (v : BitVec 64) (c d : UInt8) (h : stepB v c = stepB v d) : c = d := by
  unfold stepB at h
  have h2 : (v ^^^ c.toBitVec.setWidth 64) * P * Q = (v ^^^ d.toBitVec.setWidth 64) * P * Q := by rw [h]
  rw [BitVec.mul_assoc, BitVec.mul_assoc, show P * Q = 1#64 from by decide +kernel, BitVec.mul_one, BitVec.mul_one] at h2
  have h3 : v ^^^ (v ^^^ c.toBitVec.setWidth 64) = v ^^^ (v ^^^ d.toBitVec.setWidth 64) := by rw [h2]
  rw [← BitVec.xor_assoc, ← BitVec.xor_assoc, BitVec.xor_self, BitVec.zero_xor, BitVec.zero_xor] at h3
  have h4 := congrArg BitVec.toNat h3
  rw [BitVec.toNat_setWidth, BitVec.toNat_setWidth] at h4
  have e1 : c.toBitVec.toNat = c.toNat := rfl
  have e2 : d.toBitVec.toNat = d.toNat := rfl
  have b1 := c.toNat_lt
  have b2 := d.toNat_lt
  apply UInt8.toNat_inj.1
  omega
theorem turned (l : List UInt8) (c d : UInt8) (h : c ≠ d) : nameI (l ++ [c]) ≠ nameI (l ++ [d]) := by
  intro e
  rw [name_first, name_first, foldI_snoc, foldI_snoc, first_F, fold_B, step_B, step_B] at e
  have e' := BitVec.eq_of_toNat_eq (Int.ofNat_inj.1 e)
  exact h (stepB_inj _ _ _ e')
theorem name_empty : nameI [] = 14695981039346656037 := by decide +kernel
theorem name_a : nameI [97] = 12638187200555641996 := by decide +kernel
theorem name_step (l : List UInt8) (c : UInt8) : nameI (l ++ [c]) = stepI (nameI l) (c.toNat : Int) := by rw [name_first, name_first, foldI_snoc]

end Go.Proofs.Ythaoofnnhdkboaa.FnvP
