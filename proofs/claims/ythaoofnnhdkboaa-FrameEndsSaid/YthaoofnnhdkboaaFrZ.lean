/- The walks of FrameEnds. -/
import Derived.Test.YthaoofnnhdkboaaFrK
import Derived.WalkSpells
set_option linter.unusedSimpArgs false
set_option linter.unusedVariables false
namespace Go.Proofs.Ythaoofnnhdkboaa.FrZ
open Go.RowKit Go.Proofs.Ythaoofnnhdkboaa.CrcL Go.Proofs.Ythaoofnnhdkboaa.FrW Go.Proofs.Ythaoofnnhdkboaa.FrH Go.Proofs.Ythaoofnnhdkboaa.FrU Go.Proofs.Ythaoofnnhdkboaa.FrL Go.Proofs.Ythaoofnnhdkboaa.FrP Go.Proofs.Ythaoofnnhdkboaa.FrE Go.Proofs.Ythaoofnnhdkboaa.FrA Go.Proofs.Ythaoofnnhdkboaa.FrQ Go.Proofs.Ythaoofnnhdkboaa.FrR Go.Proofs.Ythaoofnnhdkboaa.FrD Go.Proofs.Ythaoofnnhdkboaa.FrK
open Go.Proofs.Ythaoofnnhdkboaa.FrG (b8)
attribute [local go_sem high] eqA49 eqA58

theorem no_end {x s : Int} {t : ByteArray} (h : ¬ (0 ≤ x ∧ x ≤ 4294967295 ∧ s = 0 ∧ t = ⟨#[]⟩)) : ¬ okF 0 x s t := by
  rintro (⟨_, h1⟩ | ⟨h1, _⟩)
  · exact h h1
  · exact h1 rfl
set_option maxHeartbeats 1000000 in
theorem ends_long (raw sum : Int) (pay more : ByteArray) (w : World) (h1 : pay.size ≤ 140737488351232) (h2 : more.size ≤ 140737488351232) (hl : 300 < pay.size + more.size) :
    Calls Try.prog 20 #[.int .i64 raw, .int .u32 sum, .string pay, .string more] w fun e w' => e = .returned (.bool true) ∧ Below w.heap.size w w' := by
  have hwz : IntKind.i64.wrap ((pay.size : Int) + (more.size : Int)) = (pay.size : Int) + (more.size : Int) := by rw [IntKind.wrap_i64]; omega
  have hL : decide ((pay.size : Int) + (more.size : Int) > 300) = true := by simp; omega
  have bel : Below w.heap.size w w := Below.refl _ _
  go_enter Try.func20, Try.ntmps20
  go_wp2_with fail
  refine (alive_call _).mono ?_
  rintro e w1 ⟨rfl, hb1⟩
  replace bel := bstep bel hb1
  go_wp2_with fail
  go_returns
  exact ⟨rfl, bel⟩
set_option maxHeartbeats 1000000 in
theorem ends_neg (raw sum : Int) (pay more : ByteArray) (w : World) (hl : pay.size + more.size ≤ 300) (hsu : 0 ≤ sum ∧ sum < 4294967296) (hno : ¬ (0 ≤ raw ∧ raw ≤ 4294967295 ∧ sum = 0 ∧ pay = ⟨#[]⟩)) (h0 : raw < 0) :
    Calls Try.prog 20 #[.int .i64 raw, .int .u32 sum, .string pay, .string more] w fun e w' => e = .returned (.bool true) ∧ Below w.heap.size w w' := by
  have hwz : IntKind.i64.wrap ((pay.size : Int) + (more.size : Int)) = (pay.size : Int) + (more.size : Int) := by rw [IntKind.wrap_i64]; omega
  have hL : decide ((pay.size : Int) + (more.size : Int) > 300) = false := by simp; omega
  have ok : ¬ okF 0 raw sum pay := no_end hno
  have hp : putF 0 raw sum pay = ⟨#[]⟩ := by unfold putF; rw [if_neg ok]
  have d1 : decide (raw ≥ 0) = false := by simp; omega
  have bel : Below w.heap.size w w := Below.refl _ _
  go_enter Try.func20, Try.ntmps20
  go_wp2_with fail
  refine (alive_call _).mono ?_
  rintro e w1 ⟨rfl, hb1⟩
  replace bel := bstep bel hb1
  go_wp2_with fail
  refine (put_any 0 raw sum pay _ hsu).mono ?_
  rintro e w2 ⟨rfl, hb2⟩
  replace bel := bstep bel hb2
  rw [decide_eq_false ok, hp]
  go_wp2_with fail
  go_returns
  exact ⟨rfl, bel⟩
set_option maxHeartbeats 1000000 in
theorem ends_big (raw sum : Int) (pay more : ByteArray) (w : World) (hl : pay.size + more.size ≤ 300) (hsu : 0 ≤ sum ∧ sum < 4294967296) (hno : ¬ (0 ≤ raw ∧ raw ≤ 4294967295 ∧ sum = 0 ∧ pay = ⟨#[]⟩)) (h0 : 4294967295 < raw) :
    Calls Try.prog 20 #[.int .i64 raw, .int .u32 sum, .string pay, .string more] w fun e w' => e = .returned (.bool true) ∧ Below w.heap.size w w' := by
  have hwz : IntKind.i64.wrap ((pay.size : Int) + (more.size : Int)) = (pay.size : Int) + (more.size : Int) := by rw [IntKind.wrap_i64]; omega
  have hL : decide ((pay.size : Int) + (more.size : Int) > 300) = false := by simp; omega
  have ok : ¬ okF 0 raw sum pay := no_end hno
  have hp : putF 0 raw sum pay = ⟨#[]⟩ := by unfold putF; rw [if_neg ok]
  have d1 : decide (raw ≥ 0) = true := by simp; omega
  have d2 : decide (raw ≤ 4294967295) = false := by simp; omega
  have bel : Below w.heap.size w w := Below.refl _ _
  go_enter Try.func20, Try.ntmps20
  go_wp2_with fail
  refine (alive_call _).mono ?_
  rintro e w1 ⟨rfl, hb1⟩
  replace bel := bstep bel hb1
  go_wp2_with fail
  refine (put_any 0 raw sum pay _ hsu).mono ?_
  rintro e w2 ⟨rfl, hb2⟩
  replace bel := bstep bel hb2
  rw [decide_eq_false ok, hp]
  go_wp2_with fail
  go_returns
  exact ⟨rfl, bel⟩
set_option maxHeartbeats 1000000 in
theorem ends_sum (raw sum : Int) (pay more : ByteArray) (w : World) (hl : pay.size + more.size ≤ 300) (hsu : 0 ≤ sum ∧ sum < 4294967296) (hno : ¬ (0 ≤ raw ∧ raw ≤ 4294967295 ∧ sum = 0 ∧ pay = ⟨#[]⟩)) (hr : 0 ≤ raw ∧ raw ≤ 4294967295) (h0 : 1 ≤ sum) :
    Calls Try.prog 20 #[.int .i64 raw, .int .u32 sum, .string pay, .string more] w fun e w' => e = .returned (.bool true) ∧ Below w.heap.size w w' := by
  have hwz : IntKind.i64.wrap ((pay.size : Int) + (more.size : Int)) = (pay.size : Int) + (more.size : Int) := by rw [IntKind.wrap_i64]; omega
  have hL : decide ((pay.size : Int) + (more.size : Int) > 300) = false := by simp; omega
  have ok : ¬ okF 0 raw sum pay := no_end hno
  have hp : putF 0 raw sum pay = ⟨#[]⟩ := by unfold putF; rw [if_neg ok]
  have d1 : decide (raw ≥ 0) = true := by simp; omega
  have d2 : decide (raw ≤ 4294967295) = true := by simp; omega
  have d3 : (sum == 0) = false := by simp; omega
  have bel : Below w.heap.size w w := Below.refl _ _
  go_enter Try.func20, Try.ntmps20
  go_wp2_with fail
  refine (alive_call _).mono ?_
  rintro e w1 ⟨rfl, hb1⟩
  replace bel := bstep bel hb1
  go_wp2_with fail
  refine (put_any 0 raw sum pay _ hsu).mono ?_
  rintro e w2 ⟨rfl, hb2⟩
  replace bel := bstep bel hb2
  rw [decide_eq_false ok, hp]
  go_wp2_with fail
  go_returns
  exact ⟨rfl, bel⟩
set_option maxHeartbeats 1000000 in
theorem ends_pay (raw : Int) (pay more : ByteArray) (w : World) (hl : pay.size + more.size ≤ 300) (hsu : (0 : Int) ≤ 0 ∧ (0 : Int) < 4294967296) (hno : ¬ (0 ≤ raw ∧ raw ≤ 4294967295 ∧ (0 : Int) = 0 ∧ pay = ⟨#[]⟩)) (hr : 0 ≤ raw ∧ raw ≤ 4294967295) (h0 : 1 ≤ pay.size) :
    Calls Try.prog 20 #[.int .i64 raw, .int .u32 0, .string pay, .string more] w fun e w' => e = .returned (.bool true) ∧ Below w.heap.size w w' := by
  have hwz : IntKind.i64.wrap ((pay.size : Int) + (more.size : Int)) = (pay.size : Int) + (more.size : Int) := by rw [IntKind.wrap_i64]; omega
  have hL : decide ((pay.size : Int) + (more.size : Int) > 300) = false := by simp; omega
  have ok : ¬ okF 0 raw 0 pay := no_end hno
  have hp : putF 0 raw 0 pay = ⟨#[]⟩ := by unfold putF; rw [if_neg ok]
  have hne := nonempty_of h0
  have d1 : decide (raw ≥ 0) = true := by simp; omega
  have d2 : decide (raw ≤ 4294967295) = true := by simp; omega
  have bel : Below w.heap.size w w := Below.refl _ _
  go_enter Try.func20, Try.ntmps20
  go_wp2_with fail
  refine (alive_call _).mono ?_
  rintro e w1 ⟨rfl, hb1⟩
  replace bel := bstep bel hb1
  go_wp2_with fail
  refine (put_any 0 raw 0 pay _ hsu).mono ?_
  rintro e w2 ⟨rfl, hb2⟩
  replace bel := bstep bel hb2
  rw [decide_eq_false ok, hp]
  go_wp2_with fail
  go_returns
  exact ⟨rfl, bel⟩
set_option maxHeartbeats 1000000 in
theorem ends_yes (raw : Int) (more : ByteArray) (w : World) (hl : more.size ≤ 300) (hr : 0 ≤ raw ∧ raw ≤ 4294967295) :
    Calls Try.prog 20 #[.int .i64 raw, .int .u32 0, .string ⟨#[]⟩, .string more] w fun e w' => e = .returned (.bool true) ∧ Below w.heap.size w w' := by
  have hwz : IntKind.i64.wrap (more.size : Int) = (more.size : Int) := by rw [IntKind.wrap_i64]; omega
  have hL : decide ((more.size : Int) > 300) = false := by simp; omega
  have ok : okF 0 raw 0 ⟨#[]⟩ := .inl ⟨rfl, hr.1, hr.2, rfl, rfl⟩
  have hp : putF 0 raw 0 ⟨#[]⟩ = bigS 0 1 ++ bigS raw.toNat 4 := by unfold putF; rw [if_pos ok, if_pos rfl]
  have hq := getF_end raw 1 more hr
  have hz : (bigS 0 1 ++ bigS raw.toNat 4).size = 5 := by simp only [ByteArray.size_append, bigS_size]
  generalize bigS 0 1 ++ bigS raw.toNat 4 = q at hp hq hz
  have hla : q.size + more.size ≤ maxLen := by rw [hz]; unfold maxLen; omega
  have hla2 : 5 + more.size ≤ maxLen := by unfold maxLen; omega
  have d1 : decide (raw ≥ 0) = true := by simp; omega
  have d2 : decide (raw ≤ 4294967295) = true := by simp; omega
  have bel : Below w.heap.size w w := Below.refl _ _
  go_enter Try.func20, Try.ntmps20
  go_wp2_with fail
  refine (alive_call _).mono ?_
  rintro e w1 ⟨rfl, hb1⟩
  replace bel := bstep bel hb1
  go_wp2_with fail
  refine (put_any 0 raw 0 ⟨#[]⟩ _ (by omega)).mono ?_
  rintro e w2 ⟨rfl, hb2⟩
  replace bel := bstep bel hb2
  rw [decide_eq_true ok, hp]
  go_wp2_with fail
  refine (fget_any (q ++ more) 1 _ (by rw [ByteArray.size_append]; omega)).mono ?_
  rintro e w3 ⟨rfl, hb3⟩
  replace bel := bstep bel hb3
  simp only [getOut, frameAgg, hq]
  have y0 : (w3.alloc (.cells #[.int .i64 0, .int .i64 raw, .int .u32 0, .string ⟨#[]⟩] 58)).cell? ⟨w3.heap.size, 0, none⟩ = some (.int .i64 0) := by simp
  have y1 : (w3.alloc (.cells #[.int .i64 0, .int .i64 raw, .int .u32 0, .string ⟨#[]⟩] 58)).cell? ⟨w3.heap.size, 1, none⟩ = some (.int .i64 raw) := by simp
  have y2 : (w3.alloc (.cells #[.int .i64 0, .int .i64 raw, .int .u32 0, .string ⟨#[]⟩] 58)).cell? ⟨w3.heap.size, 2, none⟩ = some (.int .u32 0) := by simp
  have y3 : (w3.alloc (.cells #[.int .i64 0, .int .i64 raw, .int .u32 0, .string ⟨#[]⟩] 58)).cell? ⟨w3.heap.size, 3, none⟩ = some (.string ⟨#[]⟩) := by simp
  have beln := bstep bel (balloc (Below.refl w3.heap.size w3) (.cells #[.int .i64 0, .int .i64 raw, .int .u32 0, .string ⟨#[]⟩] 58))
  go_wp2_with fail
  go_returns
  exact ⟨rfl, beln⟩
theorem ends_walk (raw sum : Int) (pay more : ByteArray) (w : World) (wr : (Lit.int .i64 raw).wf = true) (ws : (Lit.int .u32 sum).wf = true) (h1 : pay.size ≤ 140737488351232) (h2 : more.size ≤ 140737488351232) :
    Calls Try.prog 20 #[.int .i64 raw, .int .u32 sum, .string pay, .string more] w fun e w' => e = .returned (.bool true) ∧ Below w.heap.size w w' := by
  have hsu := u32_range ws
  rcases Nat.lt_or_ge 300 (pay.size + more.size) with h | h
  · exact ends_long raw sum pay more w h1 h2 h
  · by_cases hr : 0 ≤ raw ∧ raw ≤ 4294967295
    · by_cases hz : sum = 0
      · subst hz
        by_cases h0 : pay.size = 0
        · rw [empty_size h0]; exact ends_yes raw more w (by omega) hr
        · exact ends_pay raw pay more w h hsu (fun hh => h0 (by rw [hh.2.2.2]; rfl)) hr (by omega)
      · exact ends_sum raw sum pay more w h hsu (fun hh => hz hh.2.2.1) hr (by omega)
    · rcases (show raw < 0 ∨ 4294967295 < raw by omega) with h0 | h0
      · exact ends_neg raw sum pay more w h hsu (fun hh => hr ⟨hh.1, hh.2.1⟩) h0
      · exact ends_big raw sum pay more w h hsu (fun hh => hr ⟨hh.1, hh.2.1⟩) h0
end Go.Proofs.Ythaoofnnhdkboaa.FrZ
