/- Plain facts on the sums of bytes, the laws' own: one to one, linear, what four bytes of the sum make of the register, bytes of 0. No program is in sight. -/
import Derived.Test.YthaoofnnhdkboaaCrcP
namespace Go.Proofs.Ythaoofnnhdkboaa.CrcQ
open Go Go.Proofs.Ythaoofnnhdkboaa.CrcP

theorem round_zero (z : BitVec 32) (h : round z = 0#32) : z = 0#32 := by
  unfold round at h
  by_cases hz : z.getLsbD 0 = true
  · rw [if_pos hz] at h
    have h31 := congrArg (fun v : BitVec 32 => v.getLsbD 31) h
    simp only [BitVec.getLsbD_xor, BitVec.getLsbD_ushiftRight] at h31
    rw [show turn.getLsbD 31 = true from rfl, BitVec.getLsbD_of_ge z (1 + 31) (by omega)] at h31
    simp at h31
  · rw [if_neg hz] at h
    have hn := congrArg BitVec.toNat h
    rw [BitVec.toNat_ushiftRight, Nat.shiftRight_eq_div_pow] at hn
    have h2 : z.toNat % 2 = 0 := by
      have : z.getLsbD 0 = z.toNat.testBit 0 := rfl
      rw [this, Nat.testBit_zero] at hz
      simp at hz
      exact hz
    apply BitVec.eq_of_toNat_eq
    simp at hn ⊢
    omega
theorem round_inj {x y : BitVec 32} (h : round x = round y) : x = y := by
  have : round (x ^^^ y) = 0#32 := by rw [round_xor, h, BitVec.xor_self]
  have := round_zero _ this
  have e : x ^^^ y ^^^ y = 0#32 ^^^ y := by rw [this]
  rwa [BitVec.xor_assoc, BitVec.xor_self, BitVec.xor_zero, BitVec.zero_xor] at e
theorem rounds_inj (n : Nat) {x y : BitVec 32} (h : rounds n x = rounds n y) : x = y := by
  induction n with
  | zero => exact h
  | succ n ih => exact ih (round_inj h)
theorem xor_cancel_left {a x y : BitVec 32} (h : a ^^^ x = a ^^^ y) : x = y := by
  have := congrArg (fun v => a ^^^ v) h
  simp only [← BitVec.xor_assoc, BitVec.xor_self, BitVec.zero_xor] at this
  exact this
theorem xor_cancel_right {a x y : BitVec 32} (h : x ^^^ a = y ^^^ a) : x = y := by
  rw [BitVec.xor_comm x, BitVec.xor_comm y] at h
  exact xor_cancel_left h
theorem step_inj {x y : BitVec 32} {c : UInt8} (h : byteStep x c = byteStep y c) : x = y := xor_cancel_right (rounds_inj 8 h)
theorem fold_inj (l : List UInt8) : ∀ {x y : BitVec 32}, fold l x = fold l y → x = y := by
  induction l with
  | nil => intro x y h; exact h
  | cons c l ih => intro x y h; rw [fold_cons, fold_cons] at h; exact step_inj (ih h)
theorem byte_inj {c d : UInt8} (h : c.toBitVec.setWidth 32 = d.toBitVec.setWidth 32) : c = d := by
  have h4 := congrArg BitVec.toNat h
  rw [BitVec.toNat_setWidth, BitVec.toNat_setWidth] at h4
  have e1 : c.toBitVec.toNat = c.toNat := rfl
  have e2 : d.toBitVec.toNat = d.toNat := rfl
  have b1 := c.toNat_lt
  have b2 := d.toNat_lt
  apply UInt8.toNat_inj.1
  omega
theorem turned (p q : List UInt8) (c d : UInt8) (x : BitVec 32) (h : c ≠ d) : fold (p ++ c :: q) x ≠ fold (p ++ d :: q) x := by
  intro e
  rw [fold_append, fold_append, fold_cons, fold_cons] at e
  exact h (byte_inj (xor_cancel_left (rounds_inj 8 (fold_inj q e))))

/-! linear in the bytes -/
theorem byte_xor3 (a b c : UInt8) : (a ^^^ b ^^^ c).toBitVec.setWidth 32 = a.toBitVec.setWidth 32 ^^^ b.toBitVec.setWidth 32 ^^^ c.toBitVec.setWidth 32 := by
  rw [UInt8.toBitVec_xor, UInt8.toBitVec_xor]
  ext i hi
  simp [BitVec.getElem_setWidth]
theorem step_xor3 (x y z : BitVec 32) (a b c : UInt8) : byteStep (x ^^^ y ^^^ z) (a ^^^ b ^^^ c) = byteStep x a ^^^ byteStep y b ^^^ byteStep z c := by
  unfold byteStep
  rw [byte_xor3, ← rounds_xor, ← rounds_xor]
  congr 1
  ext i hi
  simp
  generalize x[i] = p1; generalize y[i] = p2; generalize z[i] = p3
  generalize a.toBitVec.getLsbD i = q1; generalize b.toBitVec.getLsbD i = q2; generalize c.toBitVec.getLsbD i = q3
  revert p1 p2 p3 q1 q2 q3
  decide
def xor3 : List UInt8 → List UInt8 → List UInt8 → List UInt8
  | a :: as, b :: bs, c :: cs => (a ^^^ b ^^^ c) :: xor3 as bs cs
  | _, _, _ => []
theorem fold_xor3 : ∀ (a b c : List UInt8) (x y z : BitVec 32), a.length = b.length → b.length = c.length → fold (xor3 a b c) (x ^^^ y ^^^ z) = fold a x ^^^ fold b y ^^^ fold c z
  | [], [], [], x, y, z, _, _ => rfl
  | a :: as, b :: bs, c :: cs, x, y, z, h1, h2 => by
    simp only [xor3]
    rw [fold_cons, fold_cons, fold_cons, fold_cons, step_xor3]
    exact fold_xor3 as bs cs _ _ _ (by simpa using h1) (by simpa using h2)
  | [], _ :: _, _, _, _, _, h, _ => by simp at h
  | _ :: _, [], _, _, _, _, h, _ => by simp at h
  | [], [], _ :: _, _, _, _, _, h => by simp at h
  | _ :: _, _ :: _, [], _, _, _, _, h => by simp at h

/-! the sum behind the bytes -/
theorem rounds_low (v : BitVec 32) : ∀ n, (∀ i, i < n → v.getLsbD i = false) → rounds n v = v >>> n := by
  intro n
  induction n with
  | zero => intro _; simp [rounds]
  | succ n ih =>
    intro h
    show round (rounds n v) = _
    rw [ih fun i hi => h i (by omega)]
    unfold round
    have hb : (v >>> n).getLsbD 0 = false := by rw [BitVec.getLsbD_ushiftRight]; exact h n (by omega)
    rw [if_neg (by rw [hb]; decide), ← BitVec.shiftRight_add]
/-- The lowest byte. -/
def lo (w : BitVec 32) : UInt8 := UInt8.ofBitVec (w.setWidth 8)
theorem step_lo (x w : BitVec 32) : byteStep x (lo w) = rounds 8 (x ^^^ w) ^^^ (w >>> 8) := by
  have e : x ^^^ w = (x ^^^ (lo w).toBitVec.setWidth 32) ^^^ (w ^^^ (lo w).toBitVec.setWidth 32) := by
    ext i hi
    simp
    generalize x[i] = p; generalize w[i] = q; generalize (lo w).toBitVec.getLsbD i = r
    revert p q r; decide
  have hl : rounds 8 (w ^^^ (lo w).toBitVec.setWidth 32) = (w ^^^ (lo w).toBitVec.setWidth 32) >>> 8 := by
    refine rounds_low _ 8 fun i hi => ?_
    have a1 : i < 32 := by omega
    simp [lo, a1, hi]
  have hs : (w ^^^ (lo w).toBitVec.setWidth 32) >>> 8 = w >>> 8 := by
    ext i hi
    simp [lo, BitVec.getLsbD_setWidth]
  rw [e, rounds_xor, hl, hs, BitVec.xor_assoc, BitVec.xor_self, BitVec.xor_zero]
  rfl
theorem fold_ends (x w : BitVec 32) : fold [lo w, lo (w >>> 8), lo (w >>> 16), lo (w >>> 24)] x = rounds 8 (rounds 8 (rounds 8 (rounds 8 (x ^^^ w)))) := by
  have h1 : ∀ (y v : BitVec 32), byteStep (rounds 8 y ^^^ v) (lo v) = rounds 8 (rounds 8 y) ^^^ (v >>> 8) := by
    intro y v
    rw [step_lo, BitVec.xor_assoc, BitVec.xor_self, BitVec.xor_zero]
  rw [fold_cons, fold_cons, fold_cons, fold_cons, step_lo x w, h1]
  rw [show w >>> 24 = w >>> 8 >>> 8 >>> 8 from by rw [← BitVec.shiftRight_add, ← BitVec.shiftRight_add], show w >>> 16 = w >>> 8 >>> 8 from by rw [← BitVec.shiftRight_add], h1, h1]
  have hz : w >>> 8 >>> 8 >>> 8 >>> 8 = 0#32 := by
    rw [← BitVec.shiftRight_add, ← BitVec.shiftRight_add, ← BitVec.shiftRight_add]
    apply BitVec.eq_of_toNat_eq
    rw [BitVec.toNat_ushiftRight, Nat.shiftRight_eq_div_pow]
    have := w.isLt
    simp
    omega
  rw [hz, BitVec.xor_zero]
  rfl

/-! bytes of 0 -/
def roundN (y : Nat) : Nat := if y % 2 = 1 then Nat.xor (y / 2) 3988292384 else y / 2
def rounds8N (y : Nat) : Nat := roundN (roundN (roundN (roundN (roundN (roundN (roundN (roundN y)))))))
def apart : Nat → Nat → Bool
  | 0, _ => true
  | n + 1, y => match rounds8N y with
    | 0 => false
    | k + 1 => (!Nat.beq (k + 1) 4294967295) && apart n (k + 1)
theorem round_N (y : BitVec 32) : (round y).toNat = roundN y.toNat := by
  unfold round roundN
  have hb : y.getLsbD 0 = decide (y.toNat % 2 = 1) := by
    have : y.getLsbD 0 = y.toNat.testBit 0 := rfl
    rw [this, Nat.testBit_zero]
  rw [hb]
  by_cases h : y.toNat % 2 = 1
  · rw [if_pos (by simpa using h), if_pos h, BitVec.toNat_xor, BitVec.toNat_ushiftRight, Nat.shiftRight_eq_div_pow]
    rfl
  · rw [if_neg (by simpa using h), if_neg h, BitVec.toNat_ushiftRight, Nat.shiftRight_eq_div_pow]
theorem rounds8_N (y : BitVec 32) : (rounds 8 y).toNat = rounds8N y.toNat := by
  unfold rounds8N
  rw [← round_N, ← round_N, ← round_N, ← round_N, ← round_N, ← round_N, ← round_N, ← round_N]
  rfl
def zeros : Nat → BitVec 32 → BitVec 32
  | 0, y => y
  | n + 1, y => zeros n (rounds 8 y)
theorem apart_at : ∀ (n : Nat) (y : BitVec 32), apart n y.toNat = true → ∀ k, 1 ≤ k → k ≤ n → zeros k y ≠ ones
  | 0, y, _, k, h1, h2 => by omega
  | n + 1, y, h, k, h1, h2 => by
    unfold apart at h
    rw [← rounds8_N] at h
    split at h
    · cases h
    · rename_i j hj
      rw [show j + 1 = (rounds 8 y).toNat from hj.symm] at h
      simp only [Bool.and_eq_true, Bool.not_eq_true'] at h
      obtain ⟨k, rfl⟩ : ∃ m, k = m + 1 := ⟨k - 1, by omega⟩
      show zeros k (rounds 8 y) ≠ ones
      cases k with
      | zero =>
        intro e
        have e' : rounds 8 y = ones := e
        rw [e'] at h
        exact absurd h.1 (by decide)
      | succ k => exact apart_at n (rounds 8 y) h.2 (k + 1) (by omega) (by omega)
theorem zeros_succ : ∀ (n : Nat) (y : BitVec 32), zeros (n + 1) y = rounds 8 (zeros n y)
  | 0, y => rfl
  | n + 1, y => by show zeros (n + 1) (rounds 8 y) = _; rw [zeros_succ n]; rfl
theorem fold_zeros (n : Nat) : ∀ (y : BitVec 32), fold (List.replicate n 0) y = zeros n y := by
  induction n with
  | zero => intro y; rfl
  | succ n ih =>
    intro y
    rw [List.replicate_succ, fold_cons, ih]
    show zeros n (byteStep y 0) = zeros n (rounds 8 y)
    congr 1
    unfold byteStep
    congr 1
    rw [show (0 : UInt8).toBitVec.setWidth 32 = 0#32 from rfl, BitVec.xor_zero]
theorem zeros_cancel : ∀ (n k : Nat) (y : BitVec 32), zeros (n + k) y = zeros n y → zeros k y = y
  | 0, k, y, h => by rw [Nat.zero_add] at h; exact h
  | n + 1, k, y, h => by
    rw [show n + 1 + k = (n + k) + 1 by omega, zeros_succ, zeros_succ] at h
    exact zeros_cancel n k y (rounds_inj 8 h)
theorem apart_all : apart 2000 4294967295 = true := by decide +kernel

theorem zeros_apart {n m : Nat} (hn : n ≤ 2000) (hm : m ≤ 2000) (h : n ≠ m) : fold (List.replicate n 0) ones ≠ fold (List.replicate m 0) ones := by
  rw [fold_zeros, fold_zeros]
  have key : ∀ a b, a < b → b ≤ 2000 → zeros b ones ≠ zeros a ones := by
    intro a b hab hb e
    obtain ⟨k, rfl⟩ : ∃ k, b = a + k := ⟨b - a, by omega⟩
    exact apart_at 2000 ones apart_all k (by omega) (by omega) (zeros_cancel a k ones e)
  rcases Nat.lt_or_gt_of_ne h with h | h
  · exact (key n m h hm).symm
  · exact key m n h hn

end Go.Proofs.Ythaoofnnhdkboaa.CrcQ
