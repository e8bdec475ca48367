/- The walks of the functions of the package crc and of the reference's Crc: what each call computes, for every string and every state. -/
import Derived.Test.YthaoofnnhdkboaaRows
import Derived.Test.YthaoofnnhdkboaaCrcP
import Derived.Below
import Derived.Handy
import Derived.Lib.Hide
namespace Go.Proofs.Ythaoofnnhdkboaa.CrcW
open Go.RowKit Go.Proofs.Ythaoofnnhdkboaa.CrcP

theorem ret_int {k : IntKind} {a b : Int} (h : a = b) : Ending.returned (.int k a) = .returned (.int k b) := by rw [h]
theorem int_eq {k : IntKind} {a b : Int} (h : a = b) : Value.int k a = .int k b := by rw [h]
theorem take_snoc (s : ByteArray) (k : Nat) (h : k < s.size) : s.data.toList.take (k + 1) = s.data.toList.take k ++ [s[k]] := by
  rw [List.take_succ_eq_append_getElem (by simpa using h)]; rfl
theorem take_all (s : ByteArray) (k : Nat) (h : ¬ k < s.size) : s.data.toList.take k = s.data.toList := List.take_of_length_le (by simp; omega)
/-- The register behind k bytes; behind j rounds of the next one. -/
def regK (s : ByteArray) (x : BitVec 32) (k : Nat) : BitVec 32 := fold (s.data.toList.take k) x
def regJ (s : ByteArray) (x : BitVec 32) (k : Nat) (c : UInt8) (j : Nat) : BitVec 32 := rounds j (regK s x k ^^^ c.toBitVec.setWidth 32)
theorem regJ_end (s : ByteArray) (x : BitVec 32) (k j : Nat) (h : k < s.size) (hj : j ≤ 8) (hn : ¬ j < 8) : regJ s x k s[k] j = regK s x (k + 1) := by
  obtain rfl : j = 8 := by omega
  unfold regJ regK
  rw [take_snoc s k h, fold_snoc]
  rfl
theorem reg0 (y : BitVec 32) : 0 ≤ (y.toNat : Int) := by omega
theorem reg1 (y : BitVec 32) : (y.toNat : Int) < 4294967296 := by have := y.isLt; omega
theorem arm_one' {s : ByteArray} {x : BitVec 32} {k j : Nat} {c : UInt8} {z : Int} (hz : z = ((regJ s x k c j).toNat : Int)) (h : (Go.bits .and .u32 z 1 == 1) = true) : Go.bits .xor .u32 (z / 2) 3988292384 = ((regJ s x k c (j + 1)).toNat : Int) := by
  subst hz; exact arm_one _ h
theorem arm_none' {s : ByteArray} {x : BitVec 32} {k j : Nat} {c : UInt8} {z : Int} (hz : z = ((regJ s x k c j).toNat : Int)) (h : (Go.bits .and .u32 z 1 == 1) = false) : z / 2 = ((regJ s x k c (j + 1)).toNat : Int) := by
  subst hz; exact arm_none _ h
def foldS (s : ByteArray) (x : BitVec 32) : BitVec 32 := fold s.data.toList x
theorem regK_all (s : ByteArray) (x : BitVec 32) (k : Nat) (h : ¬ k < s.size) : regK s x k = foldS s x := by unfold regK foldS; rw [take_all s k h]
/-- The sum of which the register is x, as the cell holds it. -/
def cellI (x : BitVec 32) : Int := (((ones ^^^ x) : BitVec 32).toNat : Int)
theorem cell_reg (x : BitVec 32) : Go.bits .xor .u32 IntKind.u32.max (cellI x) = (x.toNat : Int) := by
  unfold cellI
  rw [not_B, ← BitVec.xor_assoc, BitVec.xor_self, BitVec.zero_xor]
theorem reg_cell (x : BitVec 32) : Go.bits .xor .u32 IntKind.u32.max (x.toNat : Int) = cellI x := not_B x

set_option maxHeartbeats 400000 in
theorem add_any (b : Nat) (x : BitVec 32) (s : ByteArray) (w : World) (hs : s.size ≤ maxLen) (hc : w.cell? ⟨b, 0, none⟩ = some (.int .u32 (cellI x))) (hf : w.frozen? ⟨b, 0, none⟩ = false) :
    Calls Try.prog 31 #[.pointer (some ⟨b, 0, none⟩), .string s] w fun e w' => e = .returned (.tuple #[]) ∧ w' = w.setCell ⟨b, 0, none⟩ (.int .u32 (cellI (foldS s x))) := by
  unfold maxLen at hs
  go_enter Try.func31, Try.ntmps31
  go_wp2
  go_loop [4, 16] (fun v i => ∃ k : Nat, k ≤ s.size ∧ i = .int .i64 k ∧ v = .int .u32 ((regK s x k).toNat : Int)) (fun _ i => s.size - (intOf i).toNat)
  case atStart => exact ⟨0, Nat.zero_le _, rfl, int_eq (cell_reg x)⟩
  case round =>
    obtain ⟨k, hk, rfl, rfl⟩ := hrel
    by_cases hlt : k < s.size
    · go_wp2
      go_loop [4, 25] (fun v i => ∃ (j : Nat) (z : Int), 0 ≤ z ∧ z < 4294967296 ∧ j ≤ 8 ∧ i = .int .i64 j ∧ v = .int .u32 z ∧ Hid (z = ((regJ s x k s[k] j).toNat : Int))) (fun _ i => 8 - (intOf i).toNat)
      case atStart => exact ⟨0, _, reg0 _, reg1 _, by omega, rfl, int_eq (byte_xor _ _), Lib.hid rfl⟩
      case round =>
        obtain ⟨j, z, hz0, hz1, hj, rfl, rfl, hz⟩ := hrel
        by_cases hj2 : j < 8
        · go_wp2
          · go_round
            case rel => exact ⟨j + 1, _, reg0 _, reg1 _, by omega, by go_num, int_eq (arm_one' hz.out (by assumption)), Lib.hid rfl⟩
            case measure => simp [intOf]; omega
          · go_round
            case rel => exact ⟨j + 1, _, reg0 _, reg1 _, by omega, by go_num, int_eq (arm_none' hz.out (by assumption)), Lib.hid rfl⟩
            case measure => simp [intOf]; omega
        · have H := Lib.hid (regJ_end s x k j hlt hj hj2)
          go_wp2
          go_round
          case rel => exact ⟨k + 1, by omega, by go_num, by rw [hz.out, H.out]⟩
          case measure => simp [intOf]; omega
    · have H := Lib.hid (regK_all s x k hlt)
      go_wp2
      go_end0
      refine ⟨rfl, ?_⟩
      rw [reg_cell, H.out]

theorem add_nil (s : ByteArray) (w : World) :
    Calls Try.prog 31 #[.pointer none, .string s] w fun e w' => e = .returned (.tuple #[]) ∧ w' = w := by
  go_enter Try.func31, Try.ntmps31
  go_wp2
  go_returns
  exact ⟨rfl, rfl⟩
theorem now_any (b : Nat) (c : Int) (w : World) (hc : w.cell? ⟨b, 0, none⟩ = some (.int .u32 c)) :
    Calls Try.prog 32 #[.pointer (some ⟨b, 0, none⟩)] w fun e w' => e = .returned (.int .u32 c) ∧ w' = w := by
  go_enter Try.func32, Try.ntmps32
  go_wp2
  go_ret
  exact ⟨rfl, rfl⟩
theorem now_nil (w : World) :
    Calls Try.prog 32 #[.pointer none] w fun e w' => e = .returned (.int .u32 0) ∧ w' = w := by
  go_enter Try.func32, Try.ntmps32
  go_wp2
  go_ret
  exact ⟨rfl, rfl⟩
theorem reset_any (b : Nat) (c : Value) (w : World) (hc : w.cell? ⟨b, 0, none⟩ = some c) (hf : w.frozen? ⟨b, 0, none⟩ = false) :
    Calls Try.prog 34 #[.pointer (some ⟨b, 0, none⟩)] w fun e w' => e = .returned (.tuple #[]) ∧ w' = w.setCell ⟨b, 0, none⟩ (.int .u32 0) := by
  go_enter Try.func34, Try.ntmps34
  go_wp2
  go_end0
  exact ⟨rfl, rfl⟩
theorem reset_nil (w : World) :
    Calls Try.prog 34 #[.pointer none] w fun e w' => e = .returned (.tuple #[]) ∧ w' = w := by
  go_enter Try.func34, Try.ntmps34
  go_wp2
  go_end0
  exact ⟨rfl, rfl⟩
/-- The sum of a string. -/
def sumS (s : ByteArray) : Int := cellI (foldS s ones)
theorem cell_zero : cellI ones = 0 := by decide +kernel

set_option maxHeartbeats 400000 in
theorem of_any (s : ByteArray) (w : World) (hs : s.size ≤ maxLen) :
    Calls Try.prog 29 #[.string s] w fun e w' => e = .returned (.int .u32 (sumS s)) ∧ Below w.heap.size w w' := by
  go_enter Try.func29, Try.ntmps29
  go_wp2_with fail
  refine (add_any w.heap.size ones s _ hs ?_ ?_).mono ?_
  · rw [cell_zero]; simp
  · simp
  rintro e w' ⟨rfl, rfl⟩
  go_wp2_with fail
  refine (now_any w.heap.size (cellI (foldS s ones)) _ ?_).mono ?_
  · simp [go_sem]
  rintro e w' ⟨rfl, rfl⟩
  go_wp2_with fail
  go_ret
  refine ⟨rfl, ?_⟩
  go_grown

set_option maxHeartbeats 400000 in
theorem ref_any (s : ByteArray) (w : World) (hs : s.size ≤ maxLen) :
    Calls Try.prog 33 #[.string s] w fun e w' => e = .returned (.int .u32 (sumS s)) ∧ w' = w := by
  unfold maxLen at hs
  go_enter Try.func33, Try.ntmps33
  go_wp2
  go_loop [3, 4] (fun v i => ∃ k : Nat, k ≤ s.size ∧ i = .int .i64 k ∧ v = .int .u32 ((regK s ones k).toNat : Int)) (fun _ i => s.size - (intOf i).toNat)
  case atStart => exact ⟨0, Nat.zero_le _, rfl, rfl⟩
  case round =>
    obtain ⟨k, hk, rfl, rfl⟩ := hrel
    by_cases hlt : k < s.size
    · go_wp2
      go_loop [3, 5] (fun v i => ∃ (j : Nat) (z : Int), 0 ≤ z ∧ z < 4294967296 ∧ j ≤ 8 ∧ i = .int .i64 j ∧ v = .int .u32 z ∧ Hid (z = ((regJ s ones k s[k] j).toNat : Int))) (fun _ i => 8 - (intOf i).toNat)
      case atStart => exact ⟨0, _, reg0 _, reg1 _, by omega, rfl, int_eq (byte_xor _ _), Lib.hid rfl⟩
      case round =>
        obtain ⟨j, z, hz0, hz1, hj, rfl, rfl, hz⟩ := hrel
        by_cases hj2 : j < 8
        · go_wp2
          · go_round
            case rel => exact ⟨j + 1, _, reg0 _, reg1 _, by omega, by go_num, int_eq (arm_one' hz.out (by assumption)), Lib.hid rfl⟩
            case measure => simp [intOf]; omega
          · go_round
            case rel => exact ⟨j + 1, _, reg0 _, reg1 _, by omega, by go_num, int_eq (arm_none' hz.out (by assumption)), Lib.hid rfl⟩
            case measure => simp [intOf]; omega
        · have H := Lib.hid (regJ_end s ones k j hlt hj hj2)
          go_wp2
          go_round
          case rel => exact ⟨k + 1, by omega, by go_num, by rw [hz.out, H.out]⟩
          case measure => simp [intOf]; omega
    · have H := Lib.hid (regK_all s ones k hlt)
      go_wp2
      go_ret
      refine ⟨ret_int ?_, rfl⟩
      rw [reg_cell, H.out]; rfl

end Go.Proofs.Ythaoofnnhdkboaa.CrcW
