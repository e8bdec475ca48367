/- The walks of FrameBounds, where it says nothing. -/
import Derived.Test.YthaoofnnhdkboaaFrK
import Derived.WalkSpells
set_option linter.unusedSimpArgs false
set_option linter.unusedVariables false
namespace Go.Proofs.Ythaoofnnhdkboaa.FrO
open Go.RowKit Go.Proofs.Ythaoofnnhdkboaa.CrcL Go.Proofs.Ythaoofnnhdkboaa.FrW Go.Proofs.Ythaoofnnhdkboaa.FrH Go.Proofs.Ythaoofnnhdkboaa.FrU Go.Proofs.Ythaoofnnhdkboaa.FrL Go.Proofs.Ythaoofnnhdkboaa.FrP Go.Proofs.Ythaoofnnhdkboaa.FrE Go.Proofs.Ythaoofnnhdkboaa.FrA Go.Proofs.Ythaoofnnhdkboaa.FrQ Go.Proofs.Ythaoofnnhdkboaa.FrR Go.Proofs.Ythaoofnnhdkboaa.FrD Go.Proofs.Ythaoofnnhdkboaa.FrK
open Go.Proofs.Ythaoofnnhdkboaa.FrG (b8)
attribute [local go_sem high] eqA49 eqA58

set_option maxRecDepth 20000 in
set_option maxHeartbeats 1000000 in
theorem bounds_o0 (kind raw n bs sum : Int) (w : World)  (h0 : raw < 0) :
    Calls Try.prog 18 #[.int .i64 kind, .int .i64 raw, .int .i64 n, .int .i64 bs, .int .u32 sum] w fun e w' => e = .returned (.bool true) ∧ Below w.heap.size w w' := by
  have x1 : decide (raw < 0) = true := by simp; omega
  have bel : Below w.heap.size w w := Below.refl _ _
  go_enter Try.func18, Try.ntmps18
  go_wp2_with fail
  refine (alive_call _).mono ?_
  rintro e w1 ⟨rfl, hb1⟩
  replace bel := bstep bel hb1
  go_wp2_with fail
  go_returns
  exact ⟨rfl, bel⟩
set_option maxRecDepth 20000 in
set_option maxHeartbeats 1000000 in
theorem bounds_o1 (kind raw n bs sum : Int) (w : World)  (h0 : ¬ raw < 0) (h1 : 65535 < raw) :
    Calls Try.prog 18 #[.int .i64 kind, .int .i64 raw, .int .i64 n, .int .i64 bs, .int .u32 sum] w fun e w' => e = .returned (.bool true) ∧ Below w.heap.size w w' := by
  have x1 : decide (raw < 0) = false := by simp; omega
  have x2 : decide (raw > 65535) = true := by simp; omega
  have bel : Below w.heap.size w w := Below.refl _ _
  go_enter Try.func18, Try.ntmps18
  go_wp2_with fail
  refine (alive_call _).mono ?_
  rintro e w1 ⟨rfl, hb1⟩
  replace bel := bstep bel hb1
  go_wp2_with fail
  go_returns
  exact ⟨rfl, bel⟩
set_option maxRecDepth 20000 in
set_option maxHeartbeats 1000000 in
theorem bounds_o2 (kind raw n bs sum : Int) (w : World)  (h0 : ¬ raw < 0) (h1 : ¬ 65535 < raw) (h2 : n < 0) :
    Calls Try.prog 18 #[.int .i64 kind, .int .i64 raw, .int .i64 n, .int .i64 bs, .int .u32 sum] w fun e w' => e = .returned (.bool true) ∧ Below w.heap.size w w' := by
  have x1 : decide (raw < 0) = false := by simp; omega
  have x2 : decide (raw > 65535) = false := by simp; omega
  have x3 : decide (n < 0) = true := by simp; omega
  have bel : Below w.heap.size w w := Below.refl _ _
  go_enter Try.func18, Try.ntmps18
  go_wp2_with fail
  refine (alive_call _).mono ?_
  rintro e w1 ⟨rfl, hb1⟩
  replace bel := bstep bel hb1
  go_wp2_with fail
  go_returns
  exact ⟨rfl, bel⟩
set_option maxRecDepth 20000 in
set_option maxHeartbeats 1000000 in
theorem bounds_o3 (kind raw n bs sum : Int) (w : World)  (h0 : ¬ raw < 0) (h1 : ¬ 65535 < raw) (h2 : ¬ n < 0) (h3 : 2000 < n) :
    Calls Try.prog 18 #[.int .i64 kind, .int .i64 raw, .int .i64 n, .int .i64 bs, .int .u32 sum] w fun e w' => e = .returned (.bool true) ∧ Below w.heap.size w w' := by
  have x1 : decide (raw < 0) = false := by simp; omega
  have x2 : decide (raw > 65535) = false := by simp; omega
  have x3 : decide (n < 0) = false := by simp; omega
  have x4 : decide (n > 2000) = true := by simp; omega
  have bel : Below w.heap.size w w := Below.refl _ _
  go_enter Try.func18, Try.ntmps18
  go_wp2_with fail
  refine (alive_call _).mono ?_
  rintro e w1 ⟨rfl, hb1⟩
  replace bel := bstep bel hb1
  go_wp2_with fail
  go_returns
  exact ⟨rfl, bel⟩
set_option maxRecDepth 20000 in
set_option maxHeartbeats 1000000 in
theorem bounds_o4 (kind raw n bs sum : Int) (w : World)  (h0 : ¬ raw < 0) (h1 : ¬ 65535 < raw) (h2 : ¬ n < 0) (h3 : ¬ 2000 < n) (h4 : bs < 1) :
    Calls Try.prog 18 #[.int .i64 kind, .int .i64 raw, .int .i64 n, .int .i64 bs, .int .u32 sum] w fun e w' => e = .returned (.bool true) ∧ Below w.heap.size w w' := by
  have x1 : decide (raw < 0) = false := by simp; omega
  have x2 : decide (raw > 65535) = false := by simp; omega
  have x3 : decide (n < 0) = false := by simp; omega
  have x4 : decide (n > 2000) = false := by simp; omega
  have x5 : decide (bs < 1) = true := by simp; omega
  have bel : Below w.heap.size w w := Below.refl _ _
  go_enter Try.func18, Try.ntmps18
  go_wp2_with fail
  refine (alive_call _).mono ?_
  rintro e w1 ⟨rfl, hb1⟩
  replace bel := bstep bel hb1
  go_wp2_with fail
  go_returns
  exact ⟨rfl, bel⟩
set_option maxRecDepth 20000 in
set_option maxHeartbeats 1000000 in
theorem bounds_o5 (kind raw n bs sum : Int) (w : World)  (h0 : ¬ raw < 0) (h1 : ¬ 65535 < raw) (h2 : ¬ n < 0) (h3 : ¬ 2000 < n) (h4 : ¬ bs < 1) (h5 : 2000 < bs) :
    Calls Try.prog 18 #[.int .i64 kind, .int .i64 raw, .int .i64 n, .int .i64 bs, .int .u32 sum] w fun e w' => e = .returned (.bool true) ∧ Below w.heap.size w w' := by
  have x1 : decide (raw < 0) = false := by simp; omega
  have x2 : decide (raw > 65535) = false := by simp; omega
  have x3 : decide (n < 0) = false := by simp; omega
  have x4 : decide (n > 2000) = false := by simp; omega
  have x5 : decide (bs < 1) = false := by simp; omega
  have x6 : decide (bs > 2000) = true := by simp; omega
  have bel : Below w.heap.size w w := Below.refl _ _
  go_enter Try.func18, Try.ntmps18
  go_wp2_with fail
  refine (alive_call _).mono ?_
  rintro e w1 ⟨rfl, hb1⟩
  replace bel := bstep bel hb1
  go_wp2_with fail
  go_returns
  exact ⟨rfl, bel⟩
set_option maxRecDepth 20000 in
set_option maxHeartbeats 1000000 in
theorem bounds_o6 (kind raw n bs sum : Int) (w : World)  (h0 : ¬ raw < 0) (h1 : ¬ 65535 < raw) (h2 : ¬ n < 0) (h3 : ¬ 2000 < n) (h4 : ¬ bs < 1) (h5 : ¬ 2000 < bs) (h6 : kind ≠ 1 ∧ kind ≠ 2) :
    Calls Try.prog 18 #[.int .i64 kind, .int .i64 raw, .int .i64 n, .int .i64 bs, .int .u32 sum] w fun e w' => e = .returned (.bool true) ∧ Below w.heap.size w w' := by
  have x1 : decide (raw < 0) = false := by simp; omega
  have x2 : decide (raw > 65535) = false := by simp; omega
  have x3 : decide (n < 0) = false := by simp; omega
  have x4 : decide (n > 2000) = false := by simp; omega
  have x5 : decide (bs < 1) = false := by simp; omega
  have x6 : decide (bs > 2000) = false := by simp; omega
  have x7 : (kind != 1) = true := by simp; omega
  have x8 : (kind != 2) = true := by simp; omega
  have bel : Below w.heap.size w w := Below.refl _ _
  go_enter Try.func18, Try.ntmps18
  go_wp2_with fail
  refine (alive_call _).mono ?_
  rintro e w1 ⟨rfl, hb1⟩
  replace bel := bstep bel hb1
  go_wp2_with fail
  go_returns
  exact ⟨rfl, bel⟩

end Go.Proofs.Ythaoofnnhdkboaa.FrO
