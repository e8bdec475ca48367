/- The reference's Unframe: where no block stands first. -/
import Derived.Test.YthaoofnnhdkboaaFrD
import Derived.WalkSpells
set_option linter.unusedSimpArgs false
set_option linter.unusedVariables false
namespace Go.Proofs.Ythaoofnnhdkboaa.UnfA
open Go.RowKit Go.Proofs.Ythaoofnnhdkboaa.CrcL Go.Proofs.Ythaoofnnhdkboaa.FrW Go.Proofs.Ythaoofnnhdkboaa.FrH Go.Proofs.Ythaoofnnhdkboaa.FrG Go.Proofs.Ythaoofnnhdkboaa.FrU Go.Proofs.Ythaoofnnhdkboaa.FrL Go.Proofs.Ythaoofnnhdkboaa.FrP Go.Proofs.Ythaoofnnhdkboaa.FrE Go.Proofs.Ythaoofnnhdkboaa.FrA Go.Proofs.Ythaoofnnhdkboaa.FrN Go.Proofs.Ythaoofnnhdkboaa.FrQ Go.Proofs.Ythaoofnnhdkboaa.FrR Go.Proofs.Ythaoofnnhdkboaa.FrB Go.Proofs.Ythaoofnnhdkboaa.FrD
open Go.Proofs.Ythaoofnnhdkboaa.FrG (b8 b8_get b8_wrap heap_new ext_size heap_below)
set_option maxHeartbeats 1000000 in
theorem get_empty (m : Int) (w : World) :
    Calls Try.prog 43 #[.string ⟨#[]⟩, .int .i64 m] w fun e w' => e = getOut ⟨#[]⟩ m ∧ Below w.heap.size w w' := by
  have hx : getF ⟨#[]⟩ m = ((0, 0, 0, ⟨#[]⟩), 0, 2) := by unfold getF; rw [if_pos (show (⟨#[]⟩ : ByteArray).size = 0 from rfl)]
  unfold getOut
  go_enter Try.func43, Try.ntmps43
  go_wp2_with fail
  refine bodyPost_ret (v := .tuple #[frameAgg (getF ⟨#[]⟩ m), .int .i64 (getF ⟨#[]⟩ m).2.1, .int .i64 (getF ⟨#[]⟩ m).2.2]) ?_ rfl ⟨rfl, ?_⟩
  · rw [hx]; simp [results, Try.results43, go_sem, frameAgg]
  · exact balloc (Below.refl _ _) _
set_option maxHeartbeats 1000000 in
theorem get_kind (b : ByteArray) (m : Int) (w : World) (hs : b.size ≤ 140737488351232) (h1 : 1 ≤ b.size) (h2 : 2 < b8 b 0) :
    Calls Try.prog 43 #[.string b, .int .i64 m] w fun e w' => e = getOut b m ∧ Below w.heap.size w w' := by
  have hne := nonempty_of h1
  have hb0 := b8_get b 0 (by omega)
  have hwb := b8_wrap b 0
  have hnn := b8_nonneg b 0
  have h0 : ¬ b.size = 0 := by omega
  unfold getOut
  go_enter Try.func43, Try.ntmps43
  go_wp2_with fail
  have hx : getF b m = ((0, 0, 0, ⟨#[]⟩), 0, 3) := by unfold getF; simp [*] <;> omega
  refine bodyPost_ret (v := .tuple #[frameAgg (getF b m), .int .i64 (getF b m).2.1, .int .i64 (getF b m).2.2]) ?_ rfl ⟨rfl, ?_⟩
  · rw [hx]; simp [results, Try.results43, go_sem, frameAgg]
  · exact balloc (Below.refl _ _) _
set_option maxHeartbeats 1000000 in
theorem get_end0 (b : ByteArray) (m : Int) (w : World) (hs : b.size ≤ 140737488351232) (h1 : 1 ≤ b.size) (h2 : b8 b 0 = 0) (h3 : b.size < 5) :
    Calls Try.prog 43 #[.string b, .int .i64 m] w fun e w' => e = getOut b m ∧ Below w.heap.size w w' := by
  have hne := nonempty_of h1
  have hb0 := b8_get b 0 (by omega)
  have hwb := b8_wrap b 0
  have h0 : ¬ b.size = 0 := by omega
  have hl : decide ((b.size : Int) < 5) = true := by simp; omega
  unfold getOut
  go_enter Try.func43, Try.ntmps43
  go_wp2_with fail
  have hx : getF b m = ((0, 0, 0, ⟨#[]⟩), 0, 2) := by unfold getF; simp [*] <;> omega
  refine bodyPost_ret (v := .tuple #[frameAgg (getF b m), .int .i64 (getF b m).2.1, .int .i64 (getF b m).2.2]) ?_ rfl ⟨rfl, ?_⟩
  · rw [hx]; simp [results, Try.results43, go_sem, frameAgg]
  · exact balloc (Below.refl _ _) _
set_option maxHeartbeats 1000000 in
theorem get_few (b : ByteArray) (m : Int) (w : World) (hs : b.size ≤ 140737488351232) (h1 : 1 ≤ b.size) (h2 : b8 b 0 = 1 ∨ b8 b 0 = 2) (h3 : b.size < 9) :
    Calls Try.prog 43 #[.string b, .int .i64 m] w fun e w' => e = getOut b m ∧ Below w.heap.size w w' := by
  have hne := nonempty_of h1
  have hb0 := b8_get b 0 (by omega)
  have hwb := b8_wrap b 0
  have h4 : ¬ b8 b 0 = 0 := by omega
  have h5 : ¬ 2 < b8 b 0 := by omega
  have h0 : ¬ b.size = 0 := by omega
  have hl : decide ((b.size : Int) < 9) = true := by simp; omega
  unfold getOut
  go_enter Try.func43, Try.ntmps43
  go_wp2_with fail
  have hx : getF b m = ((0, 0, 0, ⟨#[]⟩), 0, 2) := by unfold getF; simp [*] <;> omega
  refine bodyPost_ret (v := .tuple #[frameAgg (getF b m), .int .i64 (getF b m).2.1, .int .i64 (getF b m).2.2]) ?_ rfl ⟨rfl, ?_⟩
  · rw [hx]; simp [results, Try.results43, go_sem, frameAgg]
  · exact balloc (Below.refl _ _) _
set_option maxHeartbeats 1000000 in
theorem get_end (b : ByteArray) (m : Int) (w : World) (hs : b.size ≤ 140737488351232) (h1 : 5 ≤ b.size) (h2 : b8 b 0 = 0) :
    Calls Try.prog 43 #[.string b, .int .i64 m] w fun e w' => e = getOut b m ∧ Below w.heap.size w w' := by
  have hne := nonempty_of (show 1 ≤ b.size by omega)
  have hb0 := b8_get b 0 (by omega)
  have hwb := b8_wrap b 0
  have h0 : ¬ b.size = 0 := by omega
  have h3 : ¬ b.size < 5 := by omega
  have hl : decide ((b.size : Int) < 5) = false := by simp; omega
  have hw := wrap_small4 b 1 5 (by omega)
  unfold getOut
  go_enter Try.func43, Try.ntmps43
  go_wp2_with fail
  refine (refOf_any _ _ (ext_size b 1 5 (by omega))).mono ?_
  rintro e w1 ⟨rfl, rfl⟩
  go_wp2_with fail
  have hx : getF b m = ((0, numS (b.extract 1 5), 0, ⟨#[]⟩), 5, 0) := by unfold getF; simp [*] <;> omega
  refine bodyPost_ret (v := .tuple #[frameAgg (getF b m), .int .i64 (getF b m).2.1, .int .i64 (getF b m).2.2]) ?_ rfl ⟨rfl, ?_⟩
  · rw [hx]; simp [results, Try.results43, go_sem, frameAgg]
  · exact balloc (Below.refl _ _) _
end Go.Proofs.Ythaoofnnhdkboaa.UnfA
