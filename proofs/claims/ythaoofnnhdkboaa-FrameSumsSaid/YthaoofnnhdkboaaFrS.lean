/- The walks of FrameSums. -/
import Derived.Test.YthaoofnnhdkboaaFrK
import Derived.WalkSpells
set_option linter.unusedSimpArgs false
set_option linter.unusedVariables false
namespace Go.Proofs.Ythaoofnnhdkboaa.FrS
open Go.RowKit Go.Proofs.Ythaoofnnhdkboaa.CrcL Go.Proofs.Ythaoofnnhdkboaa.FrW Go.Proofs.Ythaoofnnhdkboaa.FrH Go.Proofs.Ythaoofnnhdkboaa.FrU Go.Proofs.Ythaoofnnhdkboaa.FrL Go.Proofs.Ythaoofnnhdkboaa.FrP Go.Proofs.Ythaoofnnhdkboaa.FrE Go.Proofs.Ythaoofnnhdkboaa.FrA Go.Proofs.Ythaoofnnhdkboaa.FrQ Go.Proofs.Ythaoofnnhdkboaa.FrR Go.Proofs.Ythaoofnnhdkboaa.FrD Go.Proofs.Ythaoofnnhdkboaa.FrK
open Go.Proofs.Ythaoofnnhdkboaa.FrG (b8)
attribute [local go_sem high] eqA49 eqA58

open Go.Proofs.Ythaoofnnhdkboaa.FrQ renaming put_any → fput_any
set_option maxHeartbeats 1000000 in
theorem sums_e (sum more : Int) (w : World)  :
    Calls Try.prog 22 #[.int .u32 sum, .string ⟨#[]⟩, .int .i64 more] w fun e w' => e = .returned (.bool true) ∧ Below w.heap.size w w' := by
  have bel : Below w.heap.size w w := Below.refl _ _
  go_enter Try.func22, Try.ntmps22
  go_wp2_with fail
  refine (alive_call _).mono ?_
  rintro e w1 ⟨rfl, hb1⟩
  replace bel := bstep bel hb1
  go_wp2_with fail
  go_returns
  exact ⟨rfl, bel⟩
set_option maxHeartbeats 1000000 in
theorem sums_l (sum more : Int) (pay : ByteArray) (w : World) (h1 : 1 ≤ pay.size) (hl : 300 < pay.size) :
    Calls Try.prog 22 #[.int .u32 sum, .string pay, .int .i64 more] w fun e w' => e = .returned (.bool true) ∧ Below w.heap.size w w' := by
  have hne := nonempty_of h1
  have hL : decide ((pay.size : Int) > 300) = true := by simp; omega
  have bel : Below w.heap.size w w := Below.refl _ _
  go_enter Try.func22, Try.ntmps22
  go_wp2_with fail
  refine (alive_call _).mono ?_
  rintro e w1 ⟨rfl, hb1⟩
  replace bel := bstep bel hb1
  go_wp2_with fail
  go_returns
  exact ⟨rfl, bel⟩
set_option maxHeartbeats 1000000 in
theorem sums_n (sum more : Int) (pay : ByteArray) (w : World) (h1 : 1 ≤ pay.size) (hl : pay.size ≤ 300) (hm : more < 0) :
    Calls Try.prog 22 #[.int .u32 sum, .string pay, .int .i64 more] w fun e w' => e = .returned (.bool true) ∧ Below w.heap.size w w' := by
  have hne := nonempty_of h1
  have hL : decide ((pay.size : Int) > 300) = false := by simp; omega
  have m0 : decide (more < 0) = true := by simpa using hm
  have bel : Below w.heap.size w w := Below.refl _ _
  go_enter Try.func22, Try.ntmps22
  go_wp2_with fail
  refine (alive_call _).mono ?_
  rintro e w1 ⟨rfl, hb1⟩
  replace bel := bstep bel hb1
  go_wp2_with fail
  go_returns
  exact ⟨rfl, bel⟩
set_option maxHeartbeats 1000000 in
theorem sums_g (sum more : Int) (pay : ByteArray) (w : World) (h1 : 1 ≤ pay.size) (hl : pay.size ≤ 300) (hm : 300 < more) :
    Calls Try.prog 22 #[.int .u32 sum, .string pay, .int .i64 more] w fun e w' => e = .returned (.bool true) ∧ Below w.heap.size w w' := by
  have hne := nonempty_of h1
  have hL : decide ((pay.size : Int) > 300) = false := by simp; omega
  have m0 : decide (more < 0) = false := by simp; omega
  have m1 : decide (more > 300) = true := by simpa using hm
  have bel : Below w.heap.size w w := Below.refl _ _
  go_enter Try.func22, Try.ntmps22
  go_wp2_with fail
  refine (alive_call _).mono ?_
  rintro e w1 ⟨rfl, hb1⟩
  replace bel := bstep bel hb1
  go_wp2_with fail
  go_returns
  exact ⟨rfl, bel⟩
set_option maxHeartbeats 1000000 in
theorem sums_zero (sum : Int) (pay : ByteArray) (w : World) (h1 : 1 ≤ pay.size) (hl : pay.size ≤ 300) (hsu : 0 ≤ sum ∧ sum < 4294967296) :
    Calls Try.prog 22 #[.int .u32 sum, .string pay, .int .i64 0] w fun e w' => e = .returned (.bool true) ∧ Below w.heap.size w w' := by
  have hne := nonempty_of h1
  have hL : decide ((pay.size : Int) > 300) = false := by simp; omega
  have hwx : IntKind.i64.wrap (pay.size : Int) = (pay.size : Int) := by rw [IntKind.wrap_i64]; omega
  have hw9 : IntKind.i64.wrap (9 + (pay.size : Int)) = 9 + (pay.size : Int) := by rw [IntKind.wrap_i64]; omega
  have hfit : fitsB 1 (pay.size : Int) pay.size 1024 = true := by unfold fitsB; simp; omega
  have ok : okF 1 (pay.size : Int) sum pay := .inr ⟨by decide, hfit⟩
  have hp : putF 1 (pay.size : Int) sum pay = frameS 1 (pay.size : Int) sum pay := by unfold putF; rw [if_pos ok, if_neg (by decide)]
  have hz := frameS_size 1 (pay.size : Int) sum pay
  have hq := getF_frame 1 (pay.size : Int) sum 1024 pay ⟨#[]⟩ (by omega) (by omega) hsu (by omega) hfit
  have hap : frameS 1 (pay.size : Int) sum pay ++ ⟨#[]⟩ = frameS 1 (pay.size : Int) sum pay := by apply data_inj; rw [app_list]; simp
  rw [hap] at hq
  clear hap
  generalize frameS 1 (pay.size : Int) sum pay = q at hp hz hq
  have hzi : (q.size : Int) = 9 + (pay.size : Int) := by omega
  clear hz
  have bel : Below w.heap.size w w := Below.refl _ _
  go_enter Try.func22, Try.ntmps22
  go_wp2_with fail
  refine (alive_call _).mono ?_
  rintro e w1 ⟨rfl, hb1⟩
  replace bel := bstep bel hb1
  have s0 : (w1.alloc (.cells #[.int .i64 1, .int .i64 (pay.size : Int), .int .u32 sum, .string pay] 58)).cell? ⟨w1.heap.size, 0, none⟩ = some (.int .i64 1) := by simp
  have s1 : (w1.alloc (.cells #[.int .i64 1, .int .i64 (pay.size : Int), .int .u32 sum, .string pay] 58)).cell? ⟨w1.heap.size, 1, none⟩ = some (.int .i64 (pay.size : Int)) := by simp
  have s2 : (w1.alloc (.cells #[.int .i64 1, .int .i64 (pay.size : Int), .int .u32 sum, .string pay] 58)).cell? ⟨w1.heap.size, 2, none⟩ = some (.int .u32 sum) := by simp
  have s3 : (w1.alloc (.cells #[.int .i64 1, .int .i64 (pay.size : Int), .int .u32 sum, .string pay] 58)).cell? ⟨w1.heap.size, 3, none⟩ = some (.string pay) := by simp
  have beln := bstep bel (balloc (Below.refl w1.heap.size w1) (.cells #[.int .i64 1, .int .i64 (pay.size : Int), .int .u32 sum, .string pay] 58))
  go_wp2_with fail
  refine (fput_any 1 (pay.size : Int) sum pay _ hsu).mono ?_
  rintro e w2 ⟨rfl, hb2⟩
  replace s0 := pw_cell_below hb2 s0
  replace s1 := pw_cell_below hb2 s1
  replace s2 := pw_cell_below hb2 s2
  replace s3 := pw_cell_below hb2 s3
  replace bel := bstep beln hb2
  clear beln
  rw [decide_eq_true ok, hp]
  go_wp2_with fail
  refine (fget_any q 1024 _ (by omega)).mono ?_
  rintro e w3 ⟨rfl, hb3⟩
  replace s0 := pw_cell_below hb3 s0
  replace s1 := pw_cell_below hb3 s1
  replace s2 := pw_cell_below hb3 s2
  replace s3 := pw_cell_below hb3 s3
  replace bel := bstep bel hb3
  simp only [getOut, frameAgg, hq]
  have y0 : (w3.alloc (.cells #[.int .i64 1, .int .i64 (pay.size : Int), .int .u32 sum, .string pay] 58)).cell? ⟨w3.heap.size, 0, none⟩ = some (.int .i64 1) := by simp
  have y1 : (w3.alloc (.cells #[.int .i64 1, .int .i64 (pay.size : Int), .int .u32 sum, .string pay] 58)).cell? ⟨w3.heap.size, 1, none⟩ = some (.int .i64 (pay.size : Int)) := by simp
  have y2 : (w3.alloc (.cells #[.int .i64 1, .int .i64 (pay.size : Int), .int .u32 sum, .string pay] 58)).cell? ⟨w3.heap.size, 2, none⟩ = some (.int .u32 sum) := by simp
  have y3 : (w3.alloc (.cells #[.int .i64 1, .int .i64 (pay.size : Int), .int .u32 sum, .string pay] 58)).cell? ⟨w3.heap.size, 3, none⟩ = some (.string pay) := by simp
  have s0n := pw_cell_below (balloc (Below.refl w3.heap.size w3) (.cells #[.int .i64 1, .int .i64 (pay.size : Int), .int .u32 sum, .string pay] 58)) s0
  have s1n := pw_cell_below (balloc (Below.refl w3.heap.size w3) (.cells #[.int .i64 1, .int .i64 (pay.size : Int), .int .u32 sum, .string pay] 58)) s1
  have s2n := pw_cell_below (balloc (Below.refl w3.heap.size w3) (.cells #[.int .i64 1, .int .i64 (pay.size : Int), .int .u32 sum, .string pay] 58)) s2
  have s3n := pw_cell_below (balloc (Below.refl w3.heap.size w3) (.cells #[.int .i64 1, .int .i64 (pay.size : Int), .int .u32 sum, .string pay] 58)) s3
  have beln := bstep bel (balloc (Below.refl w3.heap.size w3) (.cells #[.int .i64 1, .int .i64 (pay.size : Int), .int .u32 sum, .string pay] 58))
  go_wp2_with fail
  go_returns
  exact ⟨rfl, beln⟩
set_option maxHeartbeats 1000000 in
theorem sums_more (sum more : Int) (pay : ByteArray) (w : World) (h1 : 1 ≤ pay.size) (hl : pay.size ≤ 300) (hsu : 0 ≤ sum ∧ sum < 4294967296) (hm : 1 ≤ more ∧ more ≤ 300) :
    Calls Try.prog 22 #[.int .u32 sum, .string pay, .int .i64 more] w fun e w' => e = .returned (.bool true) ∧ Below w.heap.size w w' := by
  have hne := nonempty_of h1
  have hL : decide ((pay.size : Int) > 300) = false := by simp; omega
  have m0 : decide (more < 0) = false := by simp; omega
  have m1 : decide (more > 300) = false := by simp; omega
  have mz : (more == 0) = false := by simp; omega
  have hwx : IntKind.i64.wrap ((pay.size : Int) + more) = (pay.size : Int) + more := by rw [IntKind.wrap_i64]; omega
  have hw9 : IntKind.i64.wrap (9 + (pay.size : Int)) = 9 + (pay.size : Int) := by rw [IntKind.wrap_i64]; omega
  have hfit : fitsB 2 ((pay.size : Int) + more) pay.size 1024 = true := by unfold fitsB; simp; omega
  have ok : okF 2 ((pay.size : Int) + more) sum pay := .inr ⟨by decide, hfit⟩
  have hp : putF 2 ((pay.size : Int) + more) sum pay = frameS 2 ((pay.size : Int) + more) sum pay := by unfold putF; rw [if_pos ok, if_neg (by decide)]
  have hz := frameS_size 2 ((pay.size : Int) + more) sum pay
  have hq := getF_frame 2 ((pay.size : Int) + more) sum 1024 pay ⟨#[]⟩ (by omega) (by omega) hsu (by omega) hfit
  have hap : frameS 2 ((pay.size : Int) + more) sum pay ++ ⟨#[]⟩ = frameS 2 ((pay.size : Int) + more) sum pay := by apply data_inj; rw [app_list]; simp
  rw [hap] at hq
  clear hap
  generalize frameS 2 ((pay.size : Int) + more) sum pay = q at hp hz hq
  have hzi : (q.size : Int) = 9 + (pay.size : Int) := by omega
  clear hz
  have bel : Below w.heap.size w w := Below.refl _ _
  go_enter Try.func22, Try.ntmps22
  go_wp2_with fail
  refine (alive_call _).mono ?_
  rintro e w1 ⟨rfl, hb1⟩
  replace bel := bstep bel hb1
  have s0 : (w1.alloc (.cells #[.int .i64 2, .int .i64 ((pay.size : Int) + more), .int .u32 sum, .string pay] 58)).cell? ⟨w1.heap.size, 0, none⟩ = some (.int .i64 2) := by simp
  have s1 : (w1.alloc (.cells #[.int .i64 2, .int .i64 ((pay.size : Int) + more), .int .u32 sum, .string pay] 58)).cell? ⟨w1.heap.size, 1, none⟩ = some (.int .i64 ((pay.size : Int) + more)) := by simp
  have s2 : (w1.alloc (.cells #[.int .i64 2, .int .i64 ((pay.size : Int) + more), .int .u32 sum, .string pay] 58)).cell? ⟨w1.heap.size, 2, none⟩ = some (.int .u32 sum) := by simp
  have s3 : (w1.alloc (.cells #[.int .i64 2, .int .i64 ((pay.size : Int) + more), .int .u32 sum, .string pay] 58)).cell? ⟨w1.heap.size, 3, none⟩ = some (.string pay) := by simp
  have beln := bstep bel (balloc (Below.refl w1.heap.size w1) (.cells #[.int .i64 2, .int .i64 ((pay.size : Int) + more), .int .u32 sum, .string pay] 58))
  go_wp2_with fail
  refine (fput_any 2 ((pay.size : Int) + more) sum pay _ hsu).mono ?_
  rintro e w2 ⟨rfl, hb2⟩
  replace s0 := pw_cell_below hb2 s0
  replace s1 := pw_cell_below hb2 s1
  replace s2 := pw_cell_below hb2 s2
  replace s3 := pw_cell_below hb2 s3
  replace bel := bstep beln hb2
  clear beln
  rw [decide_eq_true ok, hp]
  go_wp2_with fail
  refine (fget_any q 1024 _ (by omega)).mono ?_
  rintro e w3 ⟨rfl, hb3⟩
  replace s0 := pw_cell_below hb3 s0
  replace s1 := pw_cell_below hb3 s1
  replace s2 := pw_cell_below hb3 s2
  replace s3 := pw_cell_below hb3 s3
  replace bel := bstep bel hb3
  simp only [getOut, frameAgg, hq]
  have y0 : (w3.alloc (.cells #[.int .i64 2, .int .i64 ((pay.size : Int) + more), .int .u32 sum, .string pay] 58)).cell? ⟨w3.heap.size, 0, none⟩ = some (.int .i64 2) := by simp
  have y1 : (w3.alloc (.cells #[.int .i64 2, .int .i64 ((pay.size : Int) + more), .int .u32 sum, .string pay] 58)).cell? ⟨w3.heap.size, 1, none⟩ = some (.int .i64 ((pay.size : Int) + more)) := by simp
  have y2 : (w3.alloc (.cells #[.int .i64 2, .int .i64 ((pay.size : Int) + more), .int .u32 sum, .string pay] 58)).cell? ⟨w3.heap.size, 2, none⟩ = some (.int .u32 sum) := by simp
  have y3 : (w3.alloc (.cells #[.int .i64 2, .int .i64 ((pay.size : Int) + more), .int .u32 sum, .string pay] 58)).cell? ⟨w3.heap.size, 3, none⟩ = some (.string pay) := by simp
  have s0n := pw_cell_below (balloc (Below.refl w3.heap.size w3) (.cells #[.int .i64 2, .int .i64 ((pay.size : Int) + more), .int .u32 sum, .string pay] 58)) s0
  have s1n := pw_cell_below (balloc (Below.refl w3.heap.size w3) (.cells #[.int .i64 2, .int .i64 ((pay.size : Int) + more), .int .u32 sum, .string pay] 58)) s1
  have s2n := pw_cell_below (balloc (Below.refl w3.heap.size w3) (.cells #[.int .i64 2, .int .i64 ((pay.size : Int) + more), .int .u32 sum, .string pay] 58)) s2
  have s3n := pw_cell_below (balloc (Below.refl w3.heap.size w3) (.cells #[.int .i64 2, .int .i64 ((pay.size : Int) + more), .int .u32 sum, .string pay] 58)) s3
  have beln := bstep bel (balloc (Below.refl w3.heap.size w3) (.cells #[.int .i64 2, .int .i64 ((pay.size : Int) + more), .int .u32 sum, .string pay] 58))
  go_wp2_with fail
  go_returns
  exact ⟨rfl, beln⟩
theorem sums_walk (sum : Int) (pay : ByteArray) (more : Int) (w : World) (wk : (Lit.int .u32 sum).wf = true) (hs : pay.size ≤ 140737488351232) (wb : (Lit.int .i64 more).wf = true) :
    Calls Try.prog 22 #[.int .u32 sum, .string pay, .int .i64 more] w fun e w' => e = .returned (.bool true) ∧ Below w.heap.size w w' := by
  have hsu := u32_range wk
  rcases Nat.eq_zero_or_pos pay.size with h | h
  · rw [empty_size h]; exact sums_e sum more w
  · rcases Nat.lt_or_ge 300 pay.size with h2 | h2
    · exact sums_l sum more pay w h h2
    · rcases (show more < 0 ∨ 300 < more ∨ more = 0 ∨ (1 ≤ more ∧ more ≤ 300) by omega) with h3 | h3 | h3 | h3
      · exact sums_n sum more pay w h h2 h3
      · exact sums_g sum more pay w h h2 h3
      · subst h3; exact sums_zero sum pay w h h2 hsu
      · exact sums_more sum more pay w h h2 hsu h3
end Go.Proofs.Ythaoofnnhdkboaa.FrS
