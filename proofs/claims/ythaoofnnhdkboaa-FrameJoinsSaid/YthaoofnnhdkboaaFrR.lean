/- frame.Get: where no block's frame stands first. -/
import Derived.Test.YthaoofnnhdkboaaFrQ
import Derived.Test.YthaoofnnhdkboaaFrN
import Derived.WalkSpells
set_option linter.unusedSimpArgs false
set_option linter.unusedVariables false
namespace Go.Proofs.Ythaoofnnhdkboaa.FrR
open Go.RowKit Go.Proofs.Ythaoofnnhdkboaa.CrcL Go.Proofs.Ythaoofnnhdkboaa.FrW Go.Proofs.Ythaoofnnhdkboaa.FrH Go.Proofs.Ythaoofnnhdkboaa.FrG Go.Proofs.Ythaoofnnhdkboaa.FrU Go.Proofs.Ythaoofnnhdkboaa.FrL Go.Proofs.Ythaoofnnhdkboaa.FrP Go.Proofs.Ythaoofnnhdkboaa.FrE Go.Proofs.Ythaoofnnhdkboaa.FrA Go.Proofs.Ythaoofnnhdkboaa.FrN Go.Proofs.Ythaoofnnhdkboaa.FrQ

/-- The frame that stands first, how many bytes it takes, the error. -/
def getF (b : ByteArray) (m : Int) : (Int × Int × Int × ByteArray) × Int × Int :=
  if b.size = 0 then ((0, 0, 0, ⟨#[]⟩), 0, 2) else
  if 2 < b8 b 0 then ((0, 0, 0, ⟨#[]⟩), 0, 3) else
  if b8 b 0 = 0 then (if b.size < 5 then ((0, 0, 0, ⟨#[]⟩), 0, 2) else ((0, numS (b.extract 1 5), 0, ⟨#[]⟩), 5, 0)) else
  if b.size < 9 then ((0, 0, 0, ⟨#[]⟩), 0, 2) else
  if m < numS (b.extract 1 3) ∨ fitsB (b8 b 0) (numS (b.extract 1 3)) (numS (b.extract 3 5)) 1024 = false then ((0, 0, 0, ⟨#[]⟩), 0, 10) else
  if (b.size : Int) < 9 + numS (b.extract 3 5) then ((0, 0, 0, ⟨#[]⟩), 0, 2) else
  ((b8 b 0, numS (b.extract 1 3), numS (b.extract 5 9), b.extract 9 (9 + (numS (b.extract 3 5)).toNat)), 9 + numS (b.extract 3 5), 0)
def frameAgg (x : (Int × Int × Int × ByteArray) × Int × Int) : Value := .agg #[.int .i64 x.1.1, .int .i64 x.1.2.1, .int .u32 x.1.2.2.1, .string x.1.2.2.2]
def getOut (b : ByteArray) (m : Int) : Ending := .returned (.tuple #[frameAgg (getF b m), .int .i64 (getF b m).2.1, .int .i64 (getF b m).2.2])
theorem nonempty_of {b : ByteArray} (h : 1 ≤ b.size) : b.toList.isEmpty = false := by
  rw [ByteArray.toList_eq]
  cases hb : b.data.toList with
  | nil =>
    have e : ([] : List UInt8).length = b.data.size := by rw [← hb]; exact Array.length_toList
    have e1 : (0 : Nat) = b.data.size := e
    have e2 : b.size = b.data.size := rfl
    omega
  | cons a l => rfl
theorem num_small4 (b : ByteArray) (i j : Nat) (h : j ≤ i + 4) : 0 ≤ numS (b.extract i j) ∧ numS (b.extract i j) < 4294967296 := by
  have h1 := numN_lt (b.extract i j).data.toList
  have hl : (b.extract i j).data.toList.length ≤ 4 := by
    have : (b.extract i j).data.toList.length = (b.extract i j).size := by rw [Array.length_toList]; rfl
    rw [this, ByteArray.size_extract]; omega
  have hp := Nat.pow_le_pow_right (show 0 < 256 by omega) hl
  have e : (256 : Nat) ^ 4 = 4294967296 := by decide
  unfold numS
  omega
theorem wrap_small4 (b : ByteArray) (i j : Nat) (h : j ≤ i + 4) : IntKind.i64.wrap (numS (b.extract i j)) = numS (b.extract i j) := by
  have := num_small4 b i j h
  rw [IntKind.wrap_i64]; omega
theorem wrap_u32 (b : ByteArray) (i j : Nat) (h : j ≤ i + 4) : IntKind.u32.wrap (numS (b.extract i j)) = numS (b.extract i j) := by
  have := num_small4 b i j h
  simp only [IntKind.wrap, IntKind.bits, IntKind.signed]
  simp
  omega
set_option maxHeartbeats 1000000 in
theorem get_empty (m : Int) (w : World) :
    Calls Try.prog 42 #[.string ⟨#[]⟩, .int .i64 m] w fun e w' => e = getOut ⟨#[]⟩ m ∧ Below w.heap.size w w' := by
  have hx : getF ⟨#[]⟩ m = ((0, 0, 0, ⟨#[]⟩), 0, 2) := by unfold getF; rw [if_pos (show (⟨#[]⟩ : ByteArray).size = 0 from rfl)]
  unfold getOut
  go_enter Try.func42, Try.ntmps42
  go_wp2_with fail
  refine bodyPost_ret (v := .tuple #[frameAgg (getF ⟨#[]⟩ m), .int .i64 (getF ⟨#[]⟩ m).2.1, .int .i64 (getF ⟨#[]⟩ m).2.2]) ?_ rfl ⟨rfl, ?_⟩
  · rw [hx]; simp [results, Try.results42, go_sem, frameAgg]
  · exact balloc (Below.refl _ _) _
set_option maxHeartbeats 1000000 in
theorem get_kind (b : ByteArray) (m : Int) (w : World) (hs : b.size ≤ 140737488351232) (h1 : 1 ≤ b.size) (h2 : 2 < b8 b 0) :
    Calls Try.prog 42 #[.string b, .int .i64 m] w fun e w' => e = getOut b m ∧ Below w.heap.size w w' := by
  have hne := nonempty_of h1
  have hb0 := b8_get b 0 (by omega)
  have hnn := b8_nonneg b 0
  have h0 : ¬ b.size = 0 := by omega
  unfold getOut
  go_enter Try.func42, Try.ntmps42
  go_wp2_with fail
  have hx : getF b m = ((0, 0, 0, ⟨#[]⟩), 0, 3) := by unfold getF; simp [*] <;> omega
  refine bodyPost_ret (v := .tuple #[frameAgg (getF b m), .int .i64 (getF b m).2.1, .int .i64 (getF b m).2.2]) ?_ rfl ⟨rfl, ?_⟩
  · rw [hx]; simp [results, Try.results42, go_sem, frameAgg]
  · exact balloc (Below.refl _ _) _
set_option maxHeartbeats 1000000 in
theorem get_end0 (b : ByteArray) (m : Int) (w : World) (hs : b.size ≤ 140737488351232) (h1 : 1 ≤ b.size) (h2 : b8 b 0 = 0) (h3 : b.size < 5) :
    Calls Try.prog 42 #[.string b, .int .i64 m] w fun e w' => e = getOut b m ∧ Below w.heap.size w w' := by
  have hne := nonempty_of h1
  have hb0 := b8_get b 0 (by omega)
  have h0 : ¬ b.size = 0 := by omega
  have hl : decide ((b.size : Int) < 5) = true := by simp; omega
  unfold getOut
  go_enter Try.func42, Try.ntmps42
  go_wp2_with fail
  have hx : getF b m = ((0, 0, 0, ⟨#[]⟩), 0, 2) := by unfold getF; simp [*] <;> omega
  refine bodyPost_ret (v := .tuple #[frameAgg (getF b m), .int .i64 (getF b m).2.1, .int .i64 (getF b m).2.2]) ?_ rfl ⟨rfl, ?_⟩
  · rw [hx]; simp [results, Try.results42, go_sem, frameAgg]
  · exact balloc (Below.refl _ _) _
set_option maxHeartbeats 1000000 in
theorem get_few (b : ByteArray) (m : Int) (w : World) (hs : b.size ≤ 140737488351232) (h1 : 1 ≤ b.size) (h2 : b8 b 0 = 1 ∨ b8 b 0 = 2) (h3 : b.size < 9) :
    Calls Try.prog 42 #[.string b, .int .i64 m] w fun e w' => e = getOut b m ∧ Below w.heap.size w w' := by
  have hne := nonempty_of h1
  have hb0 := b8_get b 0 (by omega)
  have h0 : ¬ b.size = 0 := by omega
  have h4 : ¬ b8 b 0 = 0 := by omega
  have h5 : ¬ 2 < b8 b 0 := by omega
  have hl : decide ((b.size : Int) < 9) = true := by simp; omega
  unfold getOut
  go_enter Try.func42, Try.ntmps42
  go_wp2_with fail
  have hx : getF b m = ((0, 0, 0, ⟨#[]⟩), 0, 2) := by unfold getF; simp [*] <;> omega
  refine bodyPost_ret (v := .tuple #[frameAgg (getF b m), .int .i64 (getF b m).2.1, .int .i64 (getF b m).2.2]) ?_ rfl ⟨rfl, ?_⟩
  · rw [hx]; simp [results, Try.results42, go_sem, frameAgg]
  · exact balloc (Below.refl _ _) _
set_option maxHeartbeats 1000000 in
theorem get_end (b : ByteArray) (m : Int) (w : World) (hs : b.size ≤ 140737488351232) (h1 : 5 ≤ b.size) (h2 : b8 b 0 = 0) :
    Calls Try.prog 42 #[.string b, .int .i64 m] w fun e w' => e = getOut b m ∧ Below w.heap.size w w' := by
  have hne := nonempty_of (show 1 ≤ b.size by omega)
  have hb0 := b8_get b 0 (by omega)
  have h0 : ¬ b.size = 0 := by omega
  have h3 : ¬ b.size < 5 := by omega
  have hl : decide ((b.size : Int) < 5) = false := by simp; omega
  have hw := wrap_small4 b 1 5 (by omega)
  unfold getOut
  go_enter Try.func42, Try.ntmps42
  go_wp2_with fail
  refine (num_any _ _ (ext_size b 1 5 (by omega))).mono ?_
  rintro e w1 ⟨rfl, rfl⟩
  go_wp2_with fail
  have hx : getF b m = ((0, numS (b.extract 1 5), 0, ⟨#[]⟩), 5, 0) := by unfold getF; simp [*] <;> omega
  refine bodyPost_ret (v := .tuple #[frameAgg (getF b m), .int .i64 (getF b m).2.1, .int .i64 (getF b m).2.2]) ?_ rfl ⟨rfl, ?_⟩
  · rw [hx]; simp [results, Try.results42, go_sem, frameAgg]
  · exact balloc (Below.refl _ _) _

end Go.Proofs.Ythaoofnnhdkboaa.FrR
