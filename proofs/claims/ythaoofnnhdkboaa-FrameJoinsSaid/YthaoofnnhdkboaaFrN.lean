/- PutHead and Head where they answer no; both at every head. -/
import Derived.Test.YthaoofnnhdkboaaFrA
set_option linter.unusedSimpArgs false
set_option linter.unusedVariables false
namespace Go.Proofs.Ythaoofnnhdkboaa.FrN
open Go.RowKit Go.Proofs.Ythaoofnnhdkboaa.CrcL Go.Proofs.Ythaoofnnhdkboaa.FrW Go.Proofs.Ythaoofnnhdkboaa.FrH Go.Proofs.Ythaoofnnhdkboaa.FrG Go.Proofs.Ythaoofnnhdkboaa.FrU Go.Proofs.Ythaoofnnhdkboaa.FrL Go.Proofs.Ythaoofnnhdkboaa.FrP Go.Proofs.Ythaoofnnhdkboaa.FrE

set_option maxHeartbeats 1000000 in
theorem put_noC (c b id : Int) (w : World) (h0 : (c != 0) = true) (h1 : (c != 1) = true) :
    Calls Try.prog 36 #[.agg #[.int .i64 c, .int .i64 b, .int .u64 id]] w fun e w' => e = .returned (.tuple #[.string ⟨#[]⟩, .bool false]) ∧ Below w.heap.size w w' := by
  go_enter Try.func36, Try.ntmps36
  go_wp2_with fail
  go_ret2
  exact ⟨rfl, balloc (Below.refl _ _) _⟩
set_option maxHeartbeats 1000000 in
theorem put_noB (c b id : Int) (w : World) (h : (c != 0) = false ∨ ((c != 0) = true ∧ (c != 1) = false)) (hbok : (decide (1 ≤ b) && decide (b ≤ 1024)) = false) :
    Calls Try.prog 36 #[.agg #[.int .i64 c, .int .i64 b, .int .u64 id]] w fun e w' => e = .returned (.tuple #[.string ⟨#[]⟩, .bool false]) ∧ Below w.heap.size w w' := by
  rcases h with hA | ⟨hA, hB⟩
  all_goals
    go_enter Try.func36, Try.ntmps36
    go_wp2_with fail
    refine (size_any b _).mono ?_
    rintro e w1 ⟨rfl, rfl⟩
    rw [hbok]
    go_wp2_with fail
    go_ret2
    exact ⟨rfl, balloc (Below.refl _ _) _⟩
set_option maxHeartbeats 1000000 in
theorem head_no (c b id : Int) (w : World) (h : ¬ (0 ≤ c ∧ c ≤ 1) ∨ ¬ (1 ≤ b ∧ b ≤ 1024)) :
    Calls Try.prog 37 #[.agg #[.int .i64 c, .int .i64 b, .int .u64 id]] w fun e w' => e = .returned (.tuple #[.string ⟨#[]⟩, .bool false]) ∧ Below w.heap.size w w' := by
  go_enter Try.func37, Try.ntmps37
  go_wp2_with fail
  go_ways
  all_goals first
    | (exfalso; omega)
    | (go_ret2; exact ⟨rfl, balloc (Below.refl _ _) _⟩)
/-- May it be a head? -/
def okH (c b : Int) : Prop := (0 ≤ c ∧ c ≤ 1) ∧ 1 ≤ b ∧ b ≤ 1024
instance (c b : Int) : Decidable (okH c b) := by unfold okH; exact inferInstance
/-- A head as bytes, or nothing. -/
def putS (c b id : Int) : ByteArray := if okH c b then headS c b id else ⟨#[]⟩
theorem put_any (c b id : Int) (w : World) (hid : 0 ≤ id ∧ id < 18446744073709551616) :
    Calls Try.prog 36 #[.agg #[.int .i64 c, .int .i64 b, .int .u64 id]] w fun e w' => e = .returned (.tuple #[.string (putS c b id), .bool (decide (okH c b))]) ∧ Below w.heap.size w w' := by
  by_cases h : okH c b
  · unfold putS; rw [if_pos h, decide_eq_true h]; exact put_yes c b id w h.1 h.2 hid
  · unfold putS; rw [if_neg h, decide_eq_false h]
    by_cases hc : 0 ≤ c ∧ c ≤ 1
    · have hb : ¬ (1 ≤ b ∧ b ≤ 1024) := fun hb => h ⟨hc, hb⟩
      refine put_noB c b id w ?_ (by simp; omega)
      rcases (show c = 0 ∨ c = 1 by omega) with rfl | rfl
      · exact .inl (by decide)
      · exact .inr ⟨by decide, by decide⟩
    · exact put_noC c b id w (by simp; omega) (by simp; omega)
theorem head_any (c b id : Int) (w : World) (hid : 0 ≤ id ∧ id < 18446744073709551616) :
    Calls Try.prog 37 #[.agg #[.int .i64 c, .int .i64 b, .int .u64 id]] w fun e w' => e = .returned (.tuple #[.string (putS c b id), .bool (decide (okH c b))]) ∧ Below w.heap.size w w' := by
  by_cases h : okH c b
  · unfold putS; rw [if_pos h, decide_eq_true h]; exact head_yes c b id w h.1 h.2 hid
  · unfold putS; rw [if_neg h, decide_eq_false h]; exact head_no c b id w (by unfold okH at h; omega)
end Go.Proofs.Ythaoofnnhdkboaa.FrN
