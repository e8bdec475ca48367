/- The walks of CrcTells and CrcZeros: each returns true for every input. -/
import Derived.Test.YthaoofnnhdkboaaCrcL
set_option linter.unusedSimpArgs false
set_option linter.unusedVariables false
namespace Go.Proofs.Ythaoofnnhdkboaa.CrcM
open Go.RowKit Go.Proofs.Ythaoofnnhdkboaa.CrcP Go.Proofs.Ythaoofnnhdkboaa.CrcW Go.Proofs.Ythaoofnnhdkboaa.CrcQ Go.Proofs.Ythaoofnnhdkboaa.CrcL

set_option maxHeartbeats 400000 in
theorem tells_out (A : Option Addr) (n cap : Nat) (w : World) (hn : 40 < n) :
    Calls Try.prog 11 #[.slice A n cap] w fun e w' => e = .returned (.bool true) ∧ Below w.heap.size w w' := by
  have g0 : decide ((n : Int) > 40) = true := by simp; omega
  go_enter Try.func11, Try.ntmps11
  go_wp2_with fail
  refine (alive_true _).mono ?_
  rintro e w1 ⟨rfl, hb1⟩
  go_wp2_with fail
  go_ret
  exact ⟨rfl, hb1⟩

/-- What the loop of CrcTells keeps. -/
def TRel (w w1 : World) (n : Nat) (r i : Value) (wr : World) : Prop :=
  ∃ (k : Nat) (l : ByteArray), k ≤ n ∧ i = .int .i64 k ∧ r = .string l ∧ l.size ≤ k * 600 ∧ At w1 w1.heap.size l w wr

theorem sum_empty : sumS ⟨#[]⟩ = 0 := by decide +kernel

set_option maxHeartbeats 1000000 in
theorem tells_in (A : Option Addr) (n cap : Nat) (zs : List ByteArray) (w : World) (hn : n ≤ 40) (hA : 0 < n → ∃ ad : Addr, A = some ad ∧ ∀ j, j < n → w.cell? (ad.add j) = some (.string (zs.getD j ByteArray.empty))) :
    Calls Try.prog 11 #[.slice A n cap] w fun e w' => e = .returned (.bool true) ∧ Below w.heap.size w w' := by
  have g0 : decide ((n : Int) > 40) = false := by simp; omega
  go_enter Try.func11, Try.ntmps11
  go_wp2_with fail
  refine (alive_true _).mono ?_
  rintro e w1 ⟨rfl, hb1⟩
  go_wp2_with fail
  go_loopw [4, 21] (TRel w w1 n) (fun _ i _ => n - (intOf i).toNat)
  case atStart => exact ⟨0, ⟨#[]⟩, Nat.zero_le _, rfl, rfl, by decide, ⟨balloc hb1 _, by simp, hb1.size, by rw [held_empty]; simp, by simp⟩⟩
  case round =>
    obtain ⟨k, l, hk, rfl, rfl, hl, hat⟩ := hrel
    by_cases hlt : k < n
    · obtain ⟨ad, rfl, hcs⟩ := hA (by omega)
      have hcell := pw_cell_below hat.below (hcs k hlt)
      obtain ⟨c, hcc⟩ : ∃ c, zs.getD k ByteArray.empty = c := ⟨_, rfl⟩
      rw [hcc] at hcell
      clear hcs hA hcc
      by_cases hcz : (c.size : Int) > 600
      · go_wp2_with fail
        go_ret
        exact ⟨rfl, hat.below⟩
      · have hl2 : l.size ≤ 24000 := by omega
        have hs3 : (l ++ c).size ≤ (k + 1) * 600 := by rw [ByteArray.size_append]; omega
        go_wp2_with fail
        refine (addA hat c (by unfold maxLen; omega)).mono ?_
        rintro e w2 ⟨rfl, hat2⟩
        clear hat hcell
        go_wp2_with fail
        refine (nowB w1.heap.size (l ++ c) _ hat2.cell).mono ?_
        rintro e w4 ⟨rfl, rfl⟩
        go_wp2_with fail
        refine (ref_any (l ++ c) _ (by unfold maxLen; omega)).mono ?_
        rintro e w4 ⟨rfl, rfl⟩
        go_wp2_with fail
        refine (of_any c _ (by unfold maxLen; omega)).mono ?_
        rintro e w5 ⟨rfl, hb5⟩
        go_wp2_with fail
        refine (ref_any c _ (by unfold maxLen; omega)).mono ?_
        rintro e w6 ⟨rfl, rfl⟩
        go_wp2_with fail
        go_roundw
        case rel => exact ⟨k + 1, l ++ c, by omega, by go_num, rfl, hs3, hat2.step hb5⟩
        case measure => simp [intOf]; omega
    · clear hA
      go_wp2_with fail
      refine (resetA hat).mono ?_
      rintro e w2 ⟨rfl, a2⟩
      clear hat
      go_wp2_with fail
      refine (now_any _ 0 _ (by have h := a2.cell; rw [held_empty] at h; exact h)).mono ?_
      rintro e w3 ⟨rfl, rfl⟩
      go_wp2_with fail
      refine (addA a2 l (by unfold maxLen; omega)).mono ?_
      rintro e w4 ⟨rfl, a4⟩
      clear a2
      rw [empty_append] at a4
      go_wp2_with fail
      refine (add_nil l _).mono ?_
      rintro e w5 ⟨rfl, rfl⟩
      go_wp2_with fail
      refine (reset_nil _).mono ?_
      rintro e w5 ⟨rfl, rfl⟩
      go_wp2_with fail
      refine (nowB w1.heap.size l _ a4.cell).mono ?_
      rintro e w6 ⟨rfl, rfl⟩
      go_wp2_with fail
      refine (of_any l _ (by unfold maxLen; omega)).mono ?_
      rintro e w7 ⟨rfl, hb7⟩
      go_wp2_with fail
      refine (now_nil _).mono ?_
      rintro e w8 ⟨rfl, rfl⟩
      go_wp2_with fail
      go_ret
      exact ⟨rfl, bstep a4.below hb7⟩
theorem tells_walk (A : Option Addr) (n cap : Nat) (zs : List ByteArray) (w : World) (h : Args.StrsIn w A n cap zs) :
    Calls Try.prog 11 #[.slice A n cap] w fun e w' => e = .returned (.bool true) ∧ Below w.heap.size w w' := by
  by_cases hn : n ≤ 40
  · exact tells_in A n cap zs w hn h.at_
  · exact tells_out A n cap w (by omega)

end Go.Proofs.Ythaoofnnhdkboaa.CrcM
