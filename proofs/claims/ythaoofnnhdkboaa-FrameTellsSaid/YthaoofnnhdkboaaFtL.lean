/- The walks of FrameTells. -/
import Derived.Test.YthaoofnnhdkboaaFrK
import Derived.Test.YthaoofnnhdkboaaUnfB
import Derived.WalkSpells
set_option linter.unusedSimpArgs false
set_option linter.unusedVariables false
namespace Go.Proofs.Ythaoofnnhdkboaa.FtL
open Go.RowKit Go.Proofs.Ythaoofnnhdkboaa.CrcL Go.Proofs.Ythaoofnnhdkboaa.FrW Go.Proofs.Ythaoofnnhdkboaa.FrH Go.Proofs.Ythaoofnnhdkboaa.FrU Go.Proofs.Ythaoofnnhdkboaa.FrL Go.Proofs.Ythaoofnnhdkboaa.FrP Go.Proofs.Ythaoofnnhdkboaa.FrE Go.Proofs.Ythaoofnnhdkboaa.FrA Go.Proofs.Ythaoofnnhdkboaa.FrQ Go.Proofs.Ythaoofnnhdkboaa.FrR Go.Proofs.Ythaoofnnhdkboaa.FrD Go.Proofs.Ythaoofnnhdkboaa.FrK
open Go.Proofs.Ythaoofnnhdkboaa.FrG (b8)
attribute [local go_sem high] eqA49 eqA58

open Go.Proofs.Ythaoofnnhdkboaa.FrQ renaming put_any → fput_any
open Go.Proofs.Ythaoofnnhdkboaa
/-- Unframe at all bytes. -/
theorem unf_any (b : ByteArray) (m : Int) (w : World) (hs : b.size ≤ 140737488351232) :
    Calls Try.prog 43 #[.string b, .int .i64 m] w fun e w' => e = getOut b m ∧ Below w.heap.size w w' := by
  have hn := FrU.b8_nonneg b 0
  rcases Nat.eq_zero_or_pos b.size with h | h
  · rw [empty_size h]; exact UnfA.get_empty m w
  · rcases (show 2 < b8 b 0 ∨ b8 b 0 = 0 ∨ (b8 b 0 = 1 ∨ b8 b 0 = 2) by omega) with h2 | h2 | h2
    · exact UnfA.get_kind b m w hs h h2
    · rcases Nat.lt_or_ge b.size 5 with h3 | h3
      · exact UnfA.get_end0 b m w hs h h2 h3
      · exact UnfA.get_end b m w hs h3 h2
    · rcases Nat.lt_or_ge b.size 9 with h3 | h3
      · exact UnfA.get_few b m w hs h h2 h3
      · rcases (show m ≤ 1024 ∨ 1024 < m by omega) with h4 | h4
        · exact UnfB.get_blk_le b m w hs h3 h2 h4
        · exact UnfB.get_blk_gt b m w hs h3 h2 h4
set_option maxHeartbeats 1000000 in
theorem tells_l (k x s : Int) (t b : ByteArray) (m : Int) (w : World) (hl : 1200 < t.size) :
    Calls Try.prog 16 #[.agg #[.int .i64 k, .int .i64 x, .int .u32 s, .string t], .string b, .int .i64 m] w fun e w' => e = .returned (.bool true) ∧ Below w.heap.size w w' := by
  have hL : decide ((t.size : Int) > 1200) = true := by simp; omega
  have c0 : (w.alloc (.cells #[.int .i64 k, .int .i64 x, .int .u32 s, .string t] 58)).cell? ⟨w.heap.size, 0, none⟩ = some (.int .i64 k) := by simp
  have c1 : (w.alloc (.cells #[.int .i64 k, .int .i64 x, .int .u32 s, .string t] 58)).cell? ⟨w.heap.size, 1, none⟩ = some (.int .i64 x) := by simp
  have c2 : (w.alloc (.cells #[.int .i64 k, .int .i64 x, .int .u32 s, .string t] 58)).cell? ⟨w.heap.size, 2, none⟩ = some (.int .u32 s) := by simp
  have c3 : (w.alloc (.cells #[.int .i64 k, .int .i64 x, .int .u32 s, .string t] 58)).cell? ⟨w.heap.size, 3, none⟩ = some (.string t) := by simp
  have bel : Below w.heap.size w (w.alloc (.cells #[.int .i64 k, .int .i64 x, .int .u32 s, .string t] 58)) := balloc (Below.refl _ _) _
  go_enter Try.func16, Try.ntmps16
  go_wp2_with fail
  refine (alive_call _).mono ?_
  rintro e w1 ⟨rfl, hb1⟩
  replace c0 := pw_cell_below hb1 c0
  replace c1 := pw_cell_below hb1 c1
  replace c2 := pw_cell_below hb1 c2
  replace c3 := pw_cell_below hb1 c3
  replace bel := bstep bel hb1
  go_wp2_with fail
  go_returns
  exact ⟨rfl, bel⟩
set_option maxHeartbeats 1000000 in
theorem tells_b (k x s : Int) (t b : ByteArray) (m : Int) (w : World) (hl : t.size ≤ 1200) (hl2 : 1200 < b.size) :
    Calls Try.prog 16 #[.agg #[.int .i64 k, .int .i64 x, .int .u32 s, .string t], .string b, .int .i64 m] w fun e w' => e = .returned (.bool true) ∧ Below w.heap.size w w' := by
  have hL : decide ((t.size : Int) > 1200) = false := by simp; omega
  have hL2 : decide ((b.size : Int) > 1200) = true := by simp; omega
  have c0 : (w.alloc (.cells #[.int .i64 k, .int .i64 x, .int .u32 s, .string t] 58)).cell? ⟨w.heap.size, 0, none⟩ = some (.int .i64 k) := by simp
  have c1 : (w.alloc (.cells #[.int .i64 k, .int .i64 x, .int .u32 s, .string t] 58)).cell? ⟨w.heap.size, 1, none⟩ = some (.int .i64 x) := by simp
  have c2 : (w.alloc (.cells #[.int .i64 k, .int .i64 x, .int .u32 s, .string t] 58)).cell? ⟨w.heap.size, 2, none⟩ = some (.int .u32 s) := by simp
  have c3 : (w.alloc (.cells #[.int .i64 k, .int .i64 x, .int .u32 s, .string t] 58)).cell? ⟨w.heap.size, 3, none⟩ = some (.string t) := by simp
  have bel : Below w.heap.size w (w.alloc (.cells #[.int .i64 k, .int .i64 x, .int .u32 s, .string t] 58)) := balloc (Below.refl _ _) _
  go_enter Try.func16, Try.ntmps16
  go_wp2_with fail
  refine (alive_call _).mono ?_
  rintro e w1 ⟨rfl, hb1⟩
  replace c0 := pw_cell_below hb1 c0
  replace c1 := pw_cell_below hb1 c1
  replace c2 := pw_cell_below hb1 c2
  replace c3 := pw_cell_below hb1 c3
  replace bel := bstep bel hb1
  go_wp2_with fail
  go_returns
  exact ⟨rfl, bel⟩
set_option maxHeartbeats 1000000 in
theorem tells_yes (k x s : Int) (t b : ByteArray) (m : Int) (q : (Int × Int × Int × ByteArray) × Int × Int) (S : ByteArray) (w : World) (hl : t.size ≤ 1200) (hl2 : b.size ≤ 1200) (hsu : 0 ≤ s ∧ s < 4294967296) (ok : okF k x s t) (hp : putF k x s t = S) (hb : getF b m = q) (hla : S.size + b.size ≤ 3000) (hla2 : S.size + b.size ≤ maxLen) (hz : getF (S ++ b) 1024 = ((k, x, s, t), (S.size : Int), 0)) :
    Calls Try.prog 16 #[.agg #[.int .i64 k, .int .i64 x, .int .u32 s, .string t], .string b, .int .i64 m] w fun e w' => e = .returned (.bool true) ∧ Below w.heap.size w w' := by
  have hL : decide ((t.size : Int) > 1200) = false := by simp; omega
  have hL2 : decide ((b.size : Int) > 1200) = false := by simp; omega
  have c0 : (w.alloc (.cells #[.int .i64 k, .int .i64 x, .int .u32 s, .string t] 58)).cell? ⟨w.heap.size, 0, none⟩ = some (.int .i64 k) := by simp
  have c1 : (w.alloc (.cells #[.int .i64 k, .int .i64 x, .int .u32 s, .string t] 58)).cell? ⟨w.heap.size, 1, none⟩ = some (.int .i64 x) := by simp
  have c2 : (w.alloc (.cells #[.int .i64 k, .int .i64 x, .int .u32 s, .string t] 58)).cell? ⟨w.heap.size, 2, none⟩ = some (.int .u32 s) := by simp
  have c3 : (w.alloc (.cells #[.int .i64 k, .int .i64 x, .int .u32 s, .string t] 58)).cell? ⟨w.heap.size, 3, none⟩ = some (.string t) := by simp
  have bel : Below w.heap.size w (w.alloc (.cells #[.int .i64 k, .int .i64 x, .int .u32 s, .string t] 58)) := balloc (Below.refl _ _) _
  go_enter Try.func16, Try.ntmps16
  go_wp2_with fail
  refine (alive_call _).mono ?_
  rintro e w1 ⟨rfl, hb1⟩
  replace c0 := pw_cell_below hb1 c0
  replace c1 := pw_cell_below hb1 c1
  replace c2 := pw_cell_below hb1 c2
  replace c3 := pw_cell_below hb1 c3
  replace bel := bstep bel hb1
  go_wp2_with fail
  refine (fput_any k x s t _ hsu).mono ?_
  rintro e w2 ⟨rfl, hb2⟩
  replace c0 := pw_cell_below hb2 c0
  replace c1 := pw_cell_below hb2 c1
  replace c2 := pw_cell_below hb2 c2
  replace c3 := pw_cell_below hb2 c3
  replace bel := bstep bel hb2
  rw [decide_eq_true ok, hp]
  go_wp2_with fail
  refine (FrQ.fr_any k x s t _ hsu).mono ?_
  rintro e w3 ⟨rfl, hb3⟩
  replace c0 := pw_cell_below hb3 c0
  replace c1 := pw_cell_below hb3 c1
  replace c2 := pw_cell_below hb3 c2
  replace c3 := pw_cell_below hb3 c3
  replace bel := bstep bel hb3
  rw [decide_eq_true ok, hp]
  clear ok
  go_wp2_with fail
  refine (fget_any b m _ (by omega)).mono ?_
  rintro e w4 ⟨rfl, hb4⟩
  replace c0 := pw_cell_below hb4 c0
  replace c1 := pw_cell_below hb4 c1
  replace c2 := pw_cell_below hb4 c2
  replace c3 := pw_cell_below hb4 c3
  replace bel := bstep bel hb4
  simp only [getOut, frameAgg, hb]
  have y0 : (w4.alloc (.cells #[.int .i64 q.1.1, .int .i64 q.1.2.1, .int .u32 q.1.2.2.1, .string q.1.2.2.2] 58)).cell? ⟨w4.heap.size, 0, none⟩ = some (.int .i64 q.1.1) := by simp
  have y1 : (w4.alloc (.cells #[.int .i64 q.1.1, .int .i64 q.1.2.1, .int .u32 q.1.2.2.1, .string q.1.2.2.2] 58)).cell? ⟨w4.heap.size, 1, none⟩ = some (.int .i64 q.1.2.1) := by simp
  have y2 : (w4.alloc (.cells #[.int .i64 q.1.1, .int .i64 q.1.2.1, .int .u32 q.1.2.2.1, .string q.1.2.2.2] 58)).cell? ⟨w4.heap.size, 2, none⟩ = some (.int .u32 q.1.2.2.1) := by simp
  have y3 : (w4.alloc (.cells #[.int .i64 q.1.1, .int .i64 q.1.2.1, .int .u32 q.1.2.2.1, .string q.1.2.2.2] 58)).cell? ⟨w4.heap.size, 3, none⟩ = some (.string q.1.2.2.2) := by simp
  have c0n := pw_cell_below (balloc (Below.refl w4.heap.size w4) (.cells #[.int .i64 q.1.1, .int .i64 q.1.2.1, .int .u32 q.1.2.2.1, .string q.1.2.2.2] 58)) c0
  have c1n := pw_cell_below (balloc (Below.refl w4.heap.size w4) (.cells #[.int .i64 q.1.1, .int .i64 q.1.2.1, .int .u32 q.1.2.2.1, .string q.1.2.2.2] 58)) c1
  have c2n := pw_cell_below (balloc (Below.refl w4.heap.size w4) (.cells #[.int .i64 q.1.1, .int .i64 q.1.2.1, .int .u32 q.1.2.2.1, .string q.1.2.2.2] 58)) c2
  have c3n := pw_cell_below (balloc (Below.refl w4.heap.size w4) (.cells #[.int .i64 q.1.1, .int .i64 q.1.2.1, .int .u32 q.1.2.2.1, .string q.1.2.2.2] 58)) c3
  have beln := bstep bel (balloc (Below.refl w4.heap.size w4) (.cells #[.int .i64 q.1.1, .int .i64 q.1.2.1, .int .u32 q.1.2.2.1, .string q.1.2.2.2] 58))
  go_wp2_with fail
  refine (unf_any b m _ (by omega)).mono ?_
  rintro e w5 ⟨rfl, hb5⟩
  replace c0 := pw_cell_below hb5 c0n
  clear c0n
  replace c1 := pw_cell_below hb5 c1n
  clear c1n
  replace c2 := pw_cell_below hb5 c2n
  clear c2n
  replace c3 := pw_cell_below hb5 c3n
  clear c3n
  replace y0 := pw_cell_below hb5 y0
  replace y1 := pw_cell_below hb5 y1
  replace y2 := pw_cell_below hb5 y2
  replace y3 := pw_cell_below hb5 y3
  replace bel := bstep beln hb5
  clear beln
  simp only [getOut, frameAgg, hb]
  have z0 : (w5.alloc (.cells #[.int .i64 q.1.1, .int .i64 q.1.2.1, .int .u32 q.1.2.2.1, .string q.1.2.2.2] 58)).cell? ⟨w5.heap.size, 0, none⟩ = some (.int .i64 q.1.1) := by simp
  have z1 : (w5.alloc (.cells #[.int .i64 q.1.1, .int .i64 q.1.2.1, .int .u32 q.1.2.2.1, .string q.1.2.2.2] 58)).cell? ⟨w5.heap.size, 1, none⟩ = some (.int .i64 q.1.2.1) := by simp
  have z2 : (w5.alloc (.cells #[.int .i64 q.1.1, .int .i64 q.1.2.1, .int .u32 q.1.2.2.1, .string q.1.2.2.2] 58)).cell? ⟨w5.heap.size, 2, none⟩ = some (.int .u32 q.1.2.2.1) := by simp
  have z3 : (w5.alloc (.cells #[.int .i64 q.1.1, .int .i64 q.1.2.1, .int .u32 q.1.2.2.1, .string q.1.2.2.2] 58)).cell? ⟨w5.heap.size, 3, none⟩ = some (.string q.1.2.2.2) := by simp
  have c0n := pw_cell_below (balloc (Below.refl w5.heap.size w5) (.cells #[.int .i64 q.1.1, .int .i64 q.1.2.1, .int .u32 q.1.2.2.1, .string q.1.2.2.2] 58)) c0
  have c1n := pw_cell_below (balloc (Below.refl w5.heap.size w5) (.cells #[.int .i64 q.1.1, .int .i64 q.1.2.1, .int .u32 q.1.2.2.1, .string q.1.2.2.2] 58)) c1
  have c2n := pw_cell_below (balloc (Below.refl w5.heap.size w5) (.cells #[.int .i64 q.1.1, .int .i64 q.1.2.1, .int .u32 q.1.2.2.1, .string q.1.2.2.2] 58)) c2
  have c3n := pw_cell_below (balloc (Below.refl w5.heap.size w5) (.cells #[.int .i64 q.1.1, .int .i64 q.1.2.1, .int .u32 q.1.2.2.1, .string q.1.2.2.2] 58)) c3
  have y0n := pw_cell_below (balloc (Below.refl w5.heap.size w5) (.cells #[.int .i64 q.1.1, .int .i64 q.1.2.1, .int .u32 q.1.2.2.1, .string q.1.2.2.2] 58)) y0
  have y1n := pw_cell_below (balloc (Below.refl w5.heap.size w5) (.cells #[.int .i64 q.1.1, .int .i64 q.1.2.1, .int .u32 q.1.2.2.1, .string q.1.2.2.2] 58)) y1
  have y2n := pw_cell_below (balloc (Below.refl w5.heap.size w5) (.cells #[.int .i64 q.1.1, .int .i64 q.1.2.1, .int .u32 q.1.2.2.1, .string q.1.2.2.2] 58)) y2
  have y3n := pw_cell_below (balloc (Below.refl w5.heap.size w5) (.cells #[.int .i64 q.1.1, .int .i64 q.1.2.1, .int .u32 q.1.2.2.1, .string q.1.2.2.2] 58)) y3
  have beln := bstep bel (balloc (Below.refl w5.heap.size w5) (.cells #[.int .i64 q.1.1, .int .i64 q.1.2.1, .int .u32 q.1.2.2.1, .string q.1.2.2.2] 58))
  go_wp2_with fail
  refine (fget_any (S ++ b) 1024 _ (by rw [ByteArray.size_append]; omega)).mono ?_
  rintro e w6 ⟨rfl, hb6⟩
  replace c0 := pw_cell_below hb6 c0n
  clear c0n
  replace c1 := pw_cell_below hb6 c1n
  clear c1n
  replace c2 := pw_cell_below hb6 c2n
  clear c2n
  replace c3 := pw_cell_below hb6 c3n
  clear c3n
  replace y0 := pw_cell_below hb6 y0n
  clear y0n
  replace y1 := pw_cell_below hb6 y1n
  clear y1n
  replace y2 := pw_cell_below hb6 y2n
  clear y2n
  replace y3 := pw_cell_below hb6 y3n
  clear y3n
  replace z0 := pw_cell_below hb6 z0
  replace z1 := pw_cell_below hb6 z1
  replace z2 := pw_cell_below hb6 z2
  replace z3 := pw_cell_below hb6 z3
  replace bel := bstep beln hb6
  clear beln
  simp only [getOut, frameAgg, hz]
  have v0 : (w6.alloc (.cells #[.int .i64 k, .int .i64 x, .int .u32 s, .string t] 58)).cell? ⟨w6.heap.size, 0, none⟩ = some (.int .i64 k) := by simp
  have v1 : (w6.alloc (.cells #[.int .i64 k, .int .i64 x, .int .u32 s, .string t] 58)).cell? ⟨w6.heap.size, 1, none⟩ = some (.int .i64 x) := by simp
  have v2 : (w6.alloc (.cells #[.int .i64 k, .int .i64 x, .int .u32 s, .string t] 58)).cell? ⟨w6.heap.size, 2, none⟩ = some (.int .u32 s) := by simp
  have v3 : (w6.alloc (.cells #[.int .i64 k, .int .i64 x, .int .u32 s, .string t] 58)).cell? ⟨w6.heap.size, 3, none⟩ = some (.string t) := by simp
  have c0n := pw_cell_below (balloc (Below.refl w6.heap.size w6) (.cells #[.int .i64 k, .int .i64 x, .int .u32 s, .string t] 58)) c0
  have c1n := pw_cell_below (balloc (Below.refl w6.heap.size w6) (.cells #[.int .i64 k, .int .i64 x, .int .u32 s, .string t] 58)) c1
  have c2n := pw_cell_below (balloc (Below.refl w6.heap.size w6) (.cells #[.int .i64 k, .int .i64 x, .int .u32 s, .string t] 58)) c2
  have c3n := pw_cell_below (balloc (Below.refl w6.heap.size w6) (.cells #[.int .i64 k, .int .i64 x, .int .u32 s, .string t] 58)) c3
  have y0n := pw_cell_below (balloc (Below.refl w6.heap.size w6) (.cells #[.int .i64 k, .int .i64 x, .int .u32 s, .string t] 58)) y0
  have y1n := pw_cell_below (balloc (Below.refl w6.heap.size w6) (.cells #[.int .i64 k, .int .i64 x, .int .u32 s, .string t] 58)) y1
  have y2n := pw_cell_below (balloc (Below.refl w6.heap.size w6) (.cells #[.int .i64 k, .int .i64 x, .int .u32 s, .string t] 58)) y2
  have y3n := pw_cell_below (balloc (Below.refl w6.heap.size w6) (.cells #[.int .i64 k, .int .i64 x, .int .u32 s, .string t] 58)) y3
  have z0n := pw_cell_below (balloc (Below.refl w6.heap.size w6) (.cells #[.int .i64 k, .int .i64 x, .int .u32 s, .string t] 58)) z0
  have z1n := pw_cell_below (balloc (Below.refl w6.heap.size w6) (.cells #[.int .i64 k, .int .i64 x, .int .u32 s, .string t] 58)) z1
  have z2n := pw_cell_below (balloc (Below.refl w6.heap.size w6) (.cells #[.int .i64 k, .int .i64 x, .int .u32 s, .string t] 58)) z2
  have z3n := pw_cell_below (balloc (Below.refl w6.heap.size w6) (.cells #[.int .i64 k, .int .i64 x, .int .u32 s, .string t] 58)) z3
  have beln := bstep bel (balloc (Below.refl w6.heap.size w6) (.cells #[.int .i64 k, .int .i64 x, .int .u32 s, .string t] 58))
  go_wp2_with fail
  go_returns
  exact ⟨rfl, beln⟩
set_option maxHeartbeats 1000000 in
theorem tells_no (k x s : Int) (t b : ByteArray) (m : Int) (q : (Int × Int × Int × ByteArray) × Int × Int) (w : World) (hl : t.size ≤ 1200) (hl2 : b.size ≤ 1200) (hsu : 0 ≤ s ∧ s < 4294967296) (ok : ¬ okF k x s t) (hp : putF k x s t = ⟨#[]⟩) (hb : getF b m = q) :
    Calls Try.prog 16 #[.agg #[.int .i64 k, .int .i64 x, .int .u32 s, .string t], .string b, .int .i64 m] w fun e w' => e = .returned (.bool true) ∧ Below w.heap.size w w' := by
  have hL : decide ((t.size : Int) > 1200) = false := by simp; omega
  have hL2 : decide ((b.size : Int) > 1200) = false := by simp; omega
  have c0 : (w.alloc (.cells #[.int .i64 k, .int .i64 x, .int .u32 s, .string t] 58)).cell? ⟨w.heap.size, 0, none⟩ = some (.int .i64 k) := by simp
  have c1 : (w.alloc (.cells #[.int .i64 k, .int .i64 x, .int .u32 s, .string t] 58)).cell? ⟨w.heap.size, 1, none⟩ = some (.int .i64 x) := by simp
  have c2 : (w.alloc (.cells #[.int .i64 k, .int .i64 x, .int .u32 s, .string t] 58)).cell? ⟨w.heap.size, 2, none⟩ = some (.int .u32 s) := by simp
  have c3 : (w.alloc (.cells #[.int .i64 k, .int .i64 x, .int .u32 s, .string t] 58)).cell? ⟨w.heap.size, 3, none⟩ = some (.string t) := by simp
  have bel : Below w.heap.size w (w.alloc (.cells #[.int .i64 k, .int .i64 x, .int .u32 s, .string t] 58)) := balloc (Below.refl _ _) _
  go_enter Try.func16, Try.ntmps16
  go_wp2_with fail
  refine (alive_call _).mono ?_
  rintro e w1 ⟨rfl, hb1⟩
  replace c0 := pw_cell_below hb1 c0
  replace c1 := pw_cell_below hb1 c1
  replace c2 := pw_cell_below hb1 c2
  replace c3 := pw_cell_below hb1 c3
  replace bel := bstep bel hb1
  go_wp2_with fail
  refine (fput_any k x s t _ hsu).mono ?_
  rintro e w2 ⟨rfl, hb2⟩
  replace c0 := pw_cell_below hb2 c0
  replace c1 := pw_cell_below hb2 c1
  replace c2 := pw_cell_below hb2 c2
  replace c3 := pw_cell_below hb2 c3
  replace bel := bstep bel hb2
  rw [decide_eq_false ok, hp]
  go_wp2_with fail
  refine (FrQ.fr_any k x s t _ hsu).mono ?_
  rintro e w3 ⟨rfl, hb3⟩
  replace c0 := pw_cell_below hb3 c0
  replace c1 := pw_cell_below hb3 c1
  replace c2 := pw_cell_below hb3 c2
  replace c3 := pw_cell_below hb3 c3
  replace bel := bstep bel hb3
  rw [decide_eq_false ok, hp]
  clear ok
  go_wp2_with fail
  refine (fget_any b m _ (by omega)).mono ?_
  rintro e w4 ⟨rfl, hb4⟩
  replace c0 := pw_cell_below hb4 c0
  replace c1 := pw_cell_below hb4 c1
  replace c2 := pw_cell_below hb4 c2
  replace c3 := pw_cell_below hb4 c3
  replace bel := bstep bel hb4
  simp only [getOut, frameAgg, hb]
  have y0 : (w4.alloc (.cells #[.int .i64 q.1.1, .int .i64 q.1.2.1, .int .u32 q.1.2.2.1, .string q.1.2.2.2] 58)).cell? ⟨w4.heap.size, 0, none⟩ = some (.int .i64 q.1.1) := by simp
  have y1 : (w4.alloc (.cells #[.int .i64 q.1.1, .int .i64 q.1.2.1, .int .u32 q.1.2.2.1, .string q.1.2.2.2] 58)).cell? ⟨w4.heap.size, 1, none⟩ = some (.int .i64 q.1.2.1) := by simp
  have y2 : (w4.alloc (.cells #[.int .i64 q.1.1, .int .i64 q.1.2.1, .int .u32 q.1.2.2.1, .string q.1.2.2.2] 58)).cell? ⟨w4.heap.size, 2, none⟩ = some (.int .u32 q.1.2.2.1) := by simp
  have y3 : (w4.alloc (.cells #[.int .i64 q.1.1, .int .i64 q.1.2.1, .int .u32 q.1.2.2.1, .string q.1.2.2.2] 58)).cell? ⟨w4.heap.size, 3, none⟩ = some (.string q.1.2.2.2) := by simp
  have c0n := pw_cell_below (balloc (Below.refl w4.heap.size w4) (.cells #[.int .i64 q.1.1, .int .i64 q.1.2.1, .int .u32 q.1.2.2.1, .string q.1.2.2.2] 58)) c0
  have c1n := pw_cell_below (balloc (Below.refl w4.heap.size w4) (.cells #[.int .i64 q.1.1, .int .i64 q.1.2.1, .int .u32 q.1.2.2.1, .string q.1.2.2.2] 58)) c1
  have c2n := pw_cell_below (balloc (Below.refl w4.heap.size w4) (.cells #[.int .i64 q.1.1, .int .i64 q.1.2.1, .int .u32 q.1.2.2.1, .string q.1.2.2.2] 58)) c2
  have c3n := pw_cell_below (balloc (Below.refl w4.heap.size w4) (.cells #[.int .i64 q.1.1, .int .i64 q.1.2.1, .int .u32 q.1.2.2.1, .string q.1.2.2.2] 58)) c3
  have beln := bstep bel (balloc (Below.refl w4.heap.size w4) (.cells #[.int .i64 q.1.1, .int .i64 q.1.2.1, .int .u32 q.1.2.2.1, .string q.1.2.2.2] 58))
  go_wp2_with fail
  refine (unf_any b m _ (by omega)).mono ?_
  rintro e w5 ⟨rfl, hb5⟩
  replace c0 := pw_cell_below hb5 c0n
  clear c0n
  replace c1 := pw_cell_below hb5 c1n
  clear c1n
  replace c2 := pw_cell_below hb5 c2n
  clear c2n
  replace c3 := pw_cell_below hb5 c3n
  clear c3n
  replace y0 := pw_cell_below hb5 y0
  replace y1 := pw_cell_below hb5 y1
  replace y2 := pw_cell_below hb5 y2
  replace y3 := pw_cell_below hb5 y3
  replace bel := bstep beln hb5
  clear beln
  simp only [getOut, frameAgg, hb]
  have z0 : (w5.alloc (.cells #[.int .i64 q.1.1, .int .i64 q.1.2.1, .int .u32 q.1.2.2.1, .string q.1.2.2.2] 58)).cell? ⟨w5.heap.size, 0, none⟩ = some (.int .i64 q.1.1) := by simp
  have z1 : (w5.alloc (.cells #[.int .i64 q.1.1, .int .i64 q.1.2.1, .int .u32 q.1.2.2.1, .string q.1.2.2.2] 58)).cell? ⟨w5.heap.size, 1, none⟩ = some (.int .i64 q.1.2.1) := by simp
  have z2 : (w5.alloc (.cells #[.int .i64 q.1.1, .int .i64 q.1.2.1, .int .u32 q.1.2.2.1, .string q.1.2.2.2] 58)).cell? ⟨w5.heap.size, 2, none⟩ = some (.int .u32 q.1.2.2.1) := by simp
  have z3 : (w5.alloc (.cells #[.int .i64 q.1.1, .int .i64 q.1.2.1, .int .u32 q.1.2.2.1, .string q.1.2.2.2] 58)).cell? ⟨w5.heap.size, 3, none⟩ = some (.string q.1.2.2.2) := by simp
  have c0n := pw_cell_below (balloc (Below.refl w5.heap.size w5) (.cells #[.int .i64 q.1.1, .int .i64 q.1.2.1, .int .u32 q.1.2.2.1, .string q.1.2.2.2] 58)) c0
  have c1n := pw_cell_below (balloc (Below.refl w5.heap.size w5) (.cells #[.int .i64 q.1.1, .int .i64 q.1.2.1, .int .u32 q.1.2.2.1, .string q.1.2.2.2] 58)) c1
  have c2n := pw_cell_below (balloc (Below.refl w5.heap.size w5) (.cells #[.int .i64 q.1.1, .int .i64 q.1.2.1, .int .u32 q.1.2.2.1, .string q.1.2.2.2] 58)) c2
  have c3n := pw_cell_below (balloc (Below.refl w5.heap.size w5) (.cells #[.int .i64 q.1.1, .int .i64 q.1.2.1, .int .u32 q.1.2.2.1, .string q.1.2.2.2] 58)) c3
  have y0n := pw_cell_below (balloc (Below.refl w5.heap.size w5) (.cells #[.int .i64 q.1.1, .int .i64 q.1.2.1, .int .u32 q.1.2.2.1, .string q.1.2.2.2] 58)) y0
  have y1n := pw_cell_below (balloc (Below.refl w5.heap.size w5) (.cells #[.int .i64 q.1.1, .int .i64 q.1.2.1, .int .u32 q.1.2.2.1, .string q.1.2.2.2] 58)) y1
  have y2n := pw_cell_below (balloc (Below.refl w5.heap.size w5) (.cells #[.int .i64 q.1.1, .int .i64 q.1.2.1, .int .u32 q.1.2.2.1, .string q.1.2.2.2] 58)) y2
  have y3n := pw_cell_below (balloc (Below.refl w5.heap.size w5) (.cells #[.int .i64 q.1.1, .int .i64 q.1.2.1, .int .u32 q.1.2.2.1, .string q.1.2.2.2] 58)) y3
  have beln := bstep bel (balloc (Below.refl w5.heap.size w5) (.cells #[.int .i64 q.1.1, .int .i64 q.1.2.1, .int .u32 q.1.2.2.1, .string q.1.2.2.2] 58))
  go_wp2_with fail
  go_returns
  exact ⟨rfl, beln⟩

theorem tells_walk (k x s : Int) (t b : ByteArray) (m : Int) (w : World) (wk : (Lit.int .i64 k).wf = true) (wx : (Lit.int .i64 x).wf = true) (ws : (Lit.int .u32 s).wf = true) (wt : t.size ≤ maxLen) (hb : b.size ≤ 140737488351232) (wm : (Lit.int .i64 m).wf = true) :
    Calls Try.prog 16 #[.agg #[.int .i64 k, .int .i64 x, .int .u32 s, .string t], .string b, .int .i64 m] w fun e w' => e = .returned (.bool true) ∧ Below w.heap.size w w' := by
  have hsu := u32_range ws
  rcases Nat.lt_or_ge 1200 t.size with h | h
  · exact tells_l k x s t b m w h
  rcases Nat.lt_or_ge 1200 b.size with h2 | h2
  · exact tells_b k x s t b m w h h2
  by_cases ok : okF k x s t
  · by_cases hk : k = 0
    · have h0 := ok
      rcases h0 with ⟨_, h3, h4, h5, h6⟩ | ⟨h3, _⟩
      · subst hk h5 h6
        have hp : putF 0 x 0 ⟨#[]⟩ = bigS 0 1 ++ bigS x.toNat 4 := by unfold putF; rw [if_pos ok, if_pos rfl]
        have hz : (bigS 0 1 ++ bigS x.toNat 4).size = 5 := by simp only [ByteArray.size_append, bigS_size]
        exact tells_yes 0 x 0 ⟨#[]⟩ b m _ _ w h h2 hsu ok hp rfl (by omega) (by rw [hz]; unfold maxLen; omega) (by rw [hz]; exact getF_end x 1024 b ⟨h3, h4⟩)
      · exact absurd hk h3
    · rcases ok with ⟨h3, _⟩ | ⟨_, hfit⟩
      · exact absurd h3 hk
      · have hq := fits_parts hfit
        have ok : okF k x s t := .inr ⟨hk, hfit⟩
        have hp : putF k x s t = frameS k x s t := by unfold putF; rw [if_pos ok, if_neg hk]
        have hz := frameS_size k x s t
        have hg := getF_frame k x s 1024 t b (by omega) (by omega) hsu (by omega) hfit
        exact tells_yes k x s t b m _ _ w h h2 hsu ok hp rfl (by omega) (by rw [hz]; unfold maxLen; omega) (by rw [hg, hz]; rfl)
  · exact tells_no k x s t b m _ w h h2 hsu ok (by unfold putF; rw [if_neg ok]) rfl
end Go.Proofs.Ythaoofnnhdkboaa.FtL
