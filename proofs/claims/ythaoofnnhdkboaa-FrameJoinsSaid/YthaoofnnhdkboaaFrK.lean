/- The walks of FrameKinds. -/
import Derived.Test.YthaoofnnhdkboaaFrA
import Derived.Test.YthaoofnnhdkboaaFrD
import Derived.WalkSpells
set_option linter.unusedSimpArgs false
set_option linter.unusedVariables false
namespace Go.Proofs.Ythaoofnnhdkboaa.FrK
open Go.RowKit Go.Proofs.Ythaoofnnhdkboaa.CrcL Go.Proofs.Ythaoofnnhdkboaa.FrW Go.Proofs.Ythaoofnnhdkboaa.FrH Go.Proofs.Ythaoofnnhdkboaa.FrU Go.Proofs.Ythaoofnnhdkboaa.FrL Go.Proofs.Ythaoofnnhdkboaa.FrP Go.Proofs.Ythaoofnnhdkboaa.FrE Go.Proofs.Ythaoofnnhdkboaa.FrA Go.Proofs.Ythaoofnnhdkboaa.FrQ Go.Proofs.Ythaoofnnhdkboaa.FrR Go.Proofs.Ythaoofnnhdkboaa.FrD
open Go.Proofs.Ythaoofnnhdkboaa.FrG (b8)
attribute [local go_sem high] eqA49 eqA58

theorem conv1 (w : World) (b : Nat) (x : Int) (h : w.cell? ⟨b, 0, none⟩ = some (.int .u8 x)) : (convert 32 9 (.slice (some ⟨b, 0, none⟩) 1 1)).run Try.prog w = .ok (.string (strOfNums [x])) w := by
  refine run_convert_bytes_arg w 32 5 Try.underlying32 Try.underlying5 b 0 1 1 [x] rfl ?_ 9 Try.underlying9
  intro i hi
  obtain rfl : i = 0 := by omega
  exact h
theorem u8_range {a : Int} (h : (Lit.int .u8 a).wf = true) : 0 ≤ a ∧ a ≤ 255 := by
  simp [Lit.wf, IntKind.min, IntKind.max, IntKind.signed, IntKind.bits] at h
  omega
theorem u32_range {a : Int} (h : (Lit.int .u32 a).wf = true) : 0 ≤ a ∧ a < 4294967296 := by
  simp [Lit.wf, IntKind.min, IntKind.max, IntKind.signed, IntKind.bits] at h
  omega
theorem i64_range {a : Int} (h : (Lit.int .i64 a).wf = true) : -9223372036854775808 ≤ a ∧ a ≤ 9223372036854775807 := by
  simp [Lit.wf, IntKind.min, IntKind.max, IntKind.signed, IntKind.bits] at h
  omega
set_option maxHeartbeats 1000000 in
theorem kinds_long (kind bs : Int) (more : ByteArray) (w : World) (hl : 100 < more.size) :
    Calls Try.prog 19 #[.int .u8 kind, .string more, .int .i64 bs] w fun e w' => e = .returned (.bool true) ∧ Below w.heap.size w w' := by
  have hL : decide ((more.size : Int) > 100) = true := by simp; omega
  have bel : Below w.heap.size w w := Below.refl _ _
  go_enter Try.func19, Try.ntmps19
  go_wp2_with fail
  refine (alive_call _).mono ?_
  rintro e w1 ⟨rfl, hb1⟩
  replace bel := bstep bel hb1
  go_wp2_with fail
  go_returns
  exact ⟨rfl, bel⟩
set_option maxHeartbeats 1000000 in
theorem kinds_gt (kind bs : Int) (more : ByteArray) (w : World) (hl : more.size ≤ 100) (hk : 0 ≤ kind ∧ kind ≤ 255) (hg : 2 < kind) :
    Calls Try.prog 19 #[.int .u8 kind, .string more, .int .i64 bs] w fun e w' => e = .returned (.bool true) ∧ Below w.heap.size w w' := by
  have hL : decide ((more.size : Int) > 100) = false := by simp; omega
  obtain ⟨p, hp⟩ : ∃ p, p = strOfNums [kind] := ⟨_, rfl⟩
  obtain ⟨hb, hsz⟩ := one_first kind more hk
  rw [← hp] at hb hsz
  have hps : p.size = 1 := by rw [hp]; rfl
  have hcg : ∀ (W : World) (b : Nat), W.cell? ⟨b, 0, none⟩ = some (.int .u8 kind) → (convert 32 9 (.slice (some ⟨b, 0, none⟩) 1 1)).run Try.prog W = .ok (.string p) W := fun W b h => by rw [hp]; exact conv1 W b kind h
  clear hp
  have hla : p.size + more.size ≤ maxLen := by rw [hps]; unfold maxLen; omega
  have hq := getF_kind (b := p ++ more) bs (by omega) (by omega)
  have t2 : decide (2 < kind) = true := by simpa using hg
  have bel : Below w.heap.size w w := Below.refl _ _
  go_enter Try.func19, Try.ntmps19
  go_wp2_with fail
  refine (alive_call _).mono ?_
  rintro e w1 ⟨rfl, hb1⟩
  replace bel := bstep bel hb1
  have s0 : (w1.alloc (.cells #[.int .u8 kind] 5)).cell? ⟨w1.heap.size, 0, none⟩ = some (.int .u8 kind) := by simp
  have beln := bstep bel (balloc (Below.refl w1.heap.size w1) (.cells #[.int .u8 kind] 5))
  have hcv := hcg (w1.alloc (.cells #[.int .u8 kind] 5)) w1.heap.size (by simp)
  go_wp2_with fail
  refine (fget_any (p ++ more) bs _ (by omega)).mono ?_
  rintro e w2 ⟨rfl, hb2⟩
  replace s0 := pw_cell_below hb2 s0
  replace bel := bstep beln hb2
  clear beln
  simp only [getOut, frameAgg, hq]
  clear hcv
  have x0 : (w2.alloc (.cells #[.int .i64 0, .int .i64 0, .int .u32 0, .string ⟨#[]⟩] 58)).cell? ⟨w2.heap.size, 0, none⟩ = some (.int .i64 0) := by simp
  have x1 : (w2.alloc (.cells #[.int .i64 0, .int .i64 0, .int .u32 0, .string ⟨#[]⟩] 58)).cell? ⟨w2.heap.size, 1, none⟩ = some (.int .i64 0) := by simp
  have x2 : (w2.alloc (.cells #[.int .i64 0, .int .i64 0, .int .u32 0, .string ⟨#[]⟩] 58)).cell? ⟨w2.heap.size, 2, none⟩ = some (.int .u32 0) := by simp
  have x3 : (w2.alloc (.cells #[.int .i64 0, .int .i64 0, .int .u32 0, .string ⟨#[]⟩] 58)).cell? ⟨w2.heap.size, 3, none⟩ = some (.string ⟨#[]⟩) := by simp
  have s0n := pw_cell_below (balloc (Below.refl w2.heap.size w2) (.cells #[.int .i64 0, .int .i64 0, .int .u32 0, .string ⟨#[]⟩] 58)) s0
  have beln := bstep bel (balloc (Below.refl w2.heap.size w2) (.cells #[.int .i64 0, .int .i64 0, .int .u32 0, .string ⟨#[]⟩] 58))
  go_wp2_with fail
  refine (fget_any ⟨#[]⟩ bs _ (by decide)).mono ?_
  rintro e w3 ⟨rfl, hb3⟩
  replace s0 := pw_cell_below hb3 s0n
  clear s0n
  replace x0 := pw_cell_below hb3 x0
  replace x1 := pw_cell_below hb3 x1
  replace x2 := pw_cell_below hb3 x2
  replace x3 := pw_cell_below hb3 x3
  replace bel := bstep beln hb3
  clear beln
  simp only [getOut, frameAgg, getF_empty]
  have y0 : (w3.alloc (.cells #[.int .i64 0, .int .i64 0, .int .u32 0, .string ⟨#[]⟩] 58)).cell? ⟨w3.heap.size, 0, none⟩ = some (.int .i64 0) := by simp
  have y1 : (w3.alloc (.cells #[.int .i64 0, .int .i64 0, .int .u32 0, .string ⟨#[]⟩] 58)).cell? ⟨w3.heap.size, 1, none⟩ = some (.int .i64 0) := by simp
  have y2 : (w3.alloc (.cells #[.int .i64 0, .int .i64 0, .int .u32 0, .string ⟨#[]⟩] 58)).cell? ⟨w3.heap.size, 2, none⟩ = some (.int .u32 0) := by simp
  have y3 : (w3.alloc (.cells #[.int .i64 0, .int .i64 0, .int .u32 0, .string ⟨#[]⟩] 58)).cell? ⟨w3.heap.size, 3, none⟩ = some (.string ⟨#[]⟩) := by simp
  have s0n := pw_cell_below (balloc (Below.refl w3.heap.size w3) (.cells #[.int .i64 0, .int .i64 0, .int .u32 0, .string ⟨#[]⟩] 58)) s0
  have x0n := pw_cell_below (balloc (Below.refl w3.heap.size w3) (.cells #[.int .i64 0, .int .i64 0, .int .u32 0, .string ⟨#[]⟩] 58)) x0
  have x1n := pw_cell_below (balloc (Below.refl w3.heap.size w3) (.cells #[.int .i64 0, .int .i64 0, .int .u32 0, .string ⟨#[]⟩] 58)) x1
  have x2n := pw_cell_below (balloc (Below.refl w3.heap.size w3) (.cells #[.int .i64 0, .int .i64 0, .int .u32 0, .string ⟨#[]⟩] 58)) x2
  have x3n := pw_cell_below (balloc (Below.refl w3.heap.size w3) (.cells #[.int .i64 0, .int .i64 0, .int .u32 0, .string ⟨#[]⟩] 58)) x3
  have beln := bstep bel (balloc (Below.refl w3.heap.size w3) (.cells #[.int .i64 0, .int .i64 0, .int .u32 0, .string ⟨#[]⟩] 58))
  go_wp2_with fail
  go_returns
  exact ⟨rfl, beln⟩
set_option maxHeartbeats 1000000 in
theorem kinds_le (kind bs : Int) (more : ByteArray) (w : World) (hl : more.size ≤ 100) (hk : 0 ≤ kind ∧ kind ≤ 255) (hg : ¬ 2 < kind) :
    Calls Try.prog 19 #[.int .u8 kind, .string more, .int .i64 bs] w fun e w' => e = .returned (.bool true) ∧ Below w.heap.size w w' := by
  have hL : decide ((more.size : Int) > 100) = false := by simp; omega
  obtain ⟨p, hp⟩ : ∃ p, p = strOfNums [kind] := ⟨_, rfl⟩
  obtain ⟨hb, hsz⟩ := one_first kind more hk
  rw [← hp] at hb hsz
  have hps : p.size = 1 := by rw [hp]; rfl
  have hcg : ∀ (W : World) (b : Nat), W.cell? ⟨b, 0, none⟩ = some (.int .u8 kind) → (convert 32 9 (.slice (some ⟨b, 0, none⟩) 1 1)).run Try.prog W = .ok (.string p) W := fun W b h => by rw [hp]; exact conv1 W b kind h
  clear hp
  have hla : p.size + more.size ≤ maxLen := by rw [hps]; unfold maxLen; omega
  have hq3 := getF_err3 (b := p ++ more) bs (by omega)
  have t2 : decide (2 < kind) = false := by simpa using hg
  generalize hq : getF (p ++ more) bs = q at hq3
  have hn3 : (q.2.2 != 3) = true := by simpa using hq3
  have bel : Below w.heap.size w w := Below.refl _ _
  go_enter Try.func19, Try.ntmps19
  go_wp2_with fail
  refine (alive_call _).mono ?_
  rintro e w1 ⟨rfl, hb1⟩
  replace bel := bstep bel hb1
  have s0 : (w1.alloc (.cells #[.int .u8 kind] 5)).cell? ⟨w1.heap.size, 0, none⟩ = some (.int .u8 kind) := by simp
  have beln := bstep bel (balloc (Below.refl w1.heap.size w1) (.cells #[.int .u8 kind] 5))
  have hcv := hcg (w1.alloc (.cells #[.int .u8 kind] 5)) w1.heap.size (by simp)
  go_wp2_with fail
  refine (fget_any (p ++ more) bs _ (by omega)).mono ?_
  rintro e w2 ⟨rfl, hb2⟩
  replace s0 := pw_cell_below hb2 s0
  replace bel := bstep beln hb2
  clear beln
  simp only [getOut, frameAgg, hq]
  clear hcv
  have x0 : (w2.alloc (.cells #[.int .i64 q.1.1, .int .i64 q.1.2.1, .int .u32 q.1.2.2.1, .string q.1.2.2.2] 58)).cell? ⟨w2.heap.size, 0, none⟩ = some (.int .i64 q.1.1) := by simp
  have x1 : (w2.alloc (.cells #[.int .i64 q.1.1, .int .i64 q.1.2.1, .int .u32 q.1.2.2.1, .string q.1.2.2.2] 58)).cell? ⟨w2.heap.size, 1, none⟩ = some (.int .i64 q.1.2.1) := by simp
  have x2 : (w2.alloc (.cells #[.int .i64 q.1.1, .int .i64 q.1.2.1, .int .u32 q.1.2.2.1, .string q.1.2.2.2] 58)).cell? ⟨w2.heap.size, 2, none⟩ = some (.int .u32 q.1.2.2.1) := by simp
  have x3 : (w2.alloc (.cells #[.int .i64 q.1.1, .int .i64 q.1.2.1, .int .u32 q.1.2.2.1, .string q.1.2.2.2] 58)).cell? ⟨w2.heap.size, 3, none⟩ = some (.string q.1.2.2.2) := by simp
  have s0n := pw_cell_below (balloc (Below.refl w2.heap.size w2) (.cells #[.int .i64 q.1.1, .int .i64 q.1.2.1, .int .u32 q.1.2.2.1, .string q.1.2.2.2] 58)) s0
  have beln := bstep bel (balloc (Below.refl w2.heap.size w2) (.cells #[.int .i64 q.1.1, .int .i64 q.1.2.1, .int .u32 q.1.2.2.1, .string q.1.2.2.2] 58))
  go_wp2_with fail
  refine (fget_any ⟨#[]⟩ bs _ (by decide)).mono ?_
  rintro e w3 ⟨rfl, hb3⟩
  replace s0 := pw_cell_below hb3 s0n
  clear s0n
  replace x0 := pw_cell_below hb3 x0
  replace x1 := pw_cell_below hb3 x1
  replace x2 := pw_cell_below hb3 x2
  replace x3 := pw_cell_below hb3 x3
  replace bel := bstep beln hb3
  clear beln
  simp only [getOut, frameAgg, getF_empty]
  have y0 : (w3.alloc (.cells #[.int .i64 0, .int .i64 0, .int .u32 0, .string ⟨#[]⟩] 58)).cell? ⟨w3.heap.size, 0, none⟩ = some (.int .i64 0) := by simp
  have y1 : (w3.alloc (.cells #[.int .i64 0, .int .i64 0, .int .u32 0, .string ⟨#[]⟩] 58)).cell? ⟨w3.heap.size, 1, none⟩ = some (.int .i64 0) := by simp
  have y2 : (w3.alloc (.cells #[.int .i64 0, .int .i64 0, .int .u32 0, .string ⟨#[]⟩] 58)).cell? ⟨w3.heap.size, 2, none⟩ = some (.int .u32 0) := by simp
  have y3 : (w3.alloc (.cells #[.int .i64 0, .int .i64 0, .int .u32 0, .string ⟨#[]⟩] 58)).cell? ⟨w3.heap.size, 3, none⟩ = some (.string ⟨#[]⟩) := by simp
  have s0n := pw_cell_below (balloc (Below.refl w3.heap.size w3) (.cells #[.int .i64 0, .int .i64 0, .int .u32 0, .string ⟨#[]⟩] 58)) s0
  have x0n := pw_cell_below (balloc (Below.refl w3.heap.size w3) (.cells #[.int .i64 0, .int .i64 0, .int .u32 0, .string ⟨#[]⟩] 58)) x0
  have x1n := pw_cell_below (balloc (Below.refl w3.heap.size w3) (.cells #[.int .i64 0, .int .i64 0, .int .u32 0, .string ⟨#[]⟩] 58)) x1
  have x2n := pw_cell_below (balloc (Below.refl w3.heap.size w3) (.cells #[.int .i64 0, .int .i64 0, .int .u32 0, .string ⟨#[]⟩] 58)) x2
  have x3n := pw_cell_below (balloc (Below.refl w3.heap.size w3) (.cells #[.int .i64 0, .int .i64 0, .int .u32 0, .string ⟨#[]⟩] 58)) x3
  have beln := bstep bel (balloc (Below.refl w3.heap.size w3) (.cells #[.int .i64 0, .int .i64 0, .int .u32 0, .string ⟨#[]⟩] 58))
  go_wp2_with fail
  go_returns
  exact ⟨rfl, beln⟩
theorem kinds_walk (kind : Int) (more : ByteArray) (bs : Int) (w : World) (wk : (Lit.int .u8 kind).wf = true) (hs : more.size ≤ 140737488351232) (wb : (Lit.int .i64 bs).wf = true) :
    Calls Try.prog 19 #[.int .u8 kind, .string more, .int .i64 bs] w fun e w' => e = .returned (.bool true) ∧ Below w.heap.size w w' := by
  rcases Nat.lt_or_ge 100 more.size with h | h
  · exact kinds_long kind bs more w h
  · by_cases hg : 2 < kind
    · exact kinds_gt kind bs more w h (u8_range wk) hg
    · exact kinds_le kind bs more w h (u8_range wk) hg
end Go.Proofs.Ythaoofnnhdkboaa.FrK
