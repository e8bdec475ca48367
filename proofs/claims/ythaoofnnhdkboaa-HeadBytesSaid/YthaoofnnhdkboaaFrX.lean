/- The walks of FrameHeads. -/
import Derived.Test.YthaoofnnhdkboaaFrN
import Derived.WalkSpells
set_option linter.unusedSimpArgs false
set_option linter.unusedVariables false
namespace Go.Proofs.Ythaoofnnhdkboaa.FrX
open Go.RowKit Go.Proofs.Ythaoofnnhdkboaa.CrcL Go.Proofs.Ythaoofnnhdkboaa.FrW Go.Proofs.Ythaoofnnhdkboaa.FrH Go.Proofs.Ythaoofnnhdkboaa.FrG Go.Proofs.Ythaoofnnhdkboaa.FrU Go.Proofs.Ythaoofnnhdkboaa.FrL Go.Proofs.Ythaoofnnhdkboaa.FrP Go.Proofs.Ythaoofnnhdkboaa.FrE Go.Proofs.Ythaoofnnhdkboaa.FrA Go.Proofs.Ythaoofnnhdkboaa.FrN
attribute [local go_sem high] eqA49

set_option maxHeartbeats 1000000 in
theorem heads_long (c b id : Int) (s : ByteArray) (w : World) (hl : 100 < s.size) :
    Calls Try.prog 13 #[.agg #[.int .i64 c, .int .i64 b, .int .u64 id], .string s] w fun e w' => e = .returned (.bool true) ∧ Below w.heap.size w w' := by
  have hL : decide ((s.size : Int) > 100) = true := by simp; omega
  go_enter Try.func13, Try.ntmps13
  go_wp2_with fail
  refine (alive_call _).mono ?_
  rintro e w1 ⟨rfl, hb1⟩
  go_wp2_with fail
  go_returns
  exact ⟨rfl, bstep (balloc (Below.refl _ _) _) hb1⟩
set_option maxHeartbeats 1000000 in
theorem heads_yes (c b id : Int) (s : ByteArray) (w : World) (hl : s.size ≤ 100) (hid : 0 ≤ id ∧ id < 18446744073709551616) (ok : okH c b) :
    Calls Try.prog 13 #[.agg #[.int .i64 c, .int .i64 b, .int .u64 id], .string s] w fun e w' => e = .returned (.bool true) ∧ Below w.heap.size w w' := by
  have hL : decide ((s.size : Int) > 100) = false := by simp; omega
  have hp : putS c b id = headS c b id := by unfold putS; rw [if_pos ok]
  have hsz := headS_size c b id
  have hg := getH_head c b id s ok.1 ok.2 hid
  have hla : (headS c b id).size + s.size ≤ maxLen := by unfold maxLen; omega
  have c0 : (w.alloc (.cells #[.int .i64 c, .int .i64 b, .int .u64 id] 49)).cell? ⟨w.heap.size, 0, none⟩ = some (.int .i64 c) := by simp
  have c1 : (w.alloc (.cells #[.int .i64 c, .int .i64 b, .int .u64 id] 49)).cell? ⟨w.heap.size, 1, none⟩ = some (.int .i64 b) := by simp
  have c2 : (w.alloc (.cells #[.int .i64 c, .int .i64 b, .int .u64 id] 49)).cell? ⟨w.heap.size, 2, none⟩ = some (.int .u64 id) := by simp
  have bel : Below w.heap.size w (w.alloc (.cells #[.int .i64 c, .int .i64 b, .int .u64 id] 49)) := balloc (Below.refl _ _) _
  go_enter Try.func13, Try.ntmps13
  go_wp2_with fail
  refine (alive_call _).mono ?_
  rintro e w1 ⟨rfl, hb1⟩
  replace c0 := pw_cell_below hb1 c0
  replace c1 := pw_cell_below hb1 c1
  replace c2 := pw_cell_below hb1 c2
  replace bel := bstep bel hb1
  go_wp2_with fail
  refine (put_any c b id _ hid).mono ?_
  rintro e w2 ⟨rfl, hb2⟩
  replace c0 := pw_cell_below hb2 c0
  replace c1 := pw_cell_below hb2 c1
  replace c2 := pw_cell_below hb2 c2
  replace bel := bstep bel hb2
  rw [decide_eq_true ok, hp]
  go_wp2_with fail
  refine (head_any c b id _ hid).mono ?_
  rintro e w3 ⟨rfl, hb3⟩
  replace c0 := pw_cell_below hb3 c0
  replace c1 := pw_cell_below hb3 c1
  replace c2 := pw_cell_below hb3 c2
  replace bel := bstep bel hb3
  rw [decide_eq_true ok, hp]
  go_wp2_with fail
  refine (get_any s _ (by omega)).mono ?_
  rintro e w4 ⟨rfl, hb4⟩
  replace c0 := pw_cell_below hb4 c0
  replace c1 := pw_cell_below hb4 c1
  replace c2 := pw_cell_below hb4 c2
  replace bel := bstep bel hb4
  simp only [headAgg]
  have x0 : (w4.alloc (.cells #[.int .i64 (getH s).1.1, .int .i64 (getH s).1.2.1, .int .u64 (getH s).1.2.2] 49)).cell? ⟨w4.heap.size, 0, none⟩ = some (.int .i64 (getH s).1.1) := by simp
  have x1 : (w4.alloc (.cells #[.int .i64 (getH s).1.1, .int .i64 (getH s).1.2.1, .int .u64 (getH s).1.2.2] 49)).cell? ⟨w4.heap.size, 1, none⟩ = some (.int .i64 (getH s).1.2.1) := by simp
  have x2 : (w4.alloc (.cells #[.int .i64 (getH s).1.1, .int .i64 (getH s).1.2.1, .int .u64 (getH s).1.2.2] 49)).cell? ⟨w4.heap.size, 2, none⟩ = some (.int .u64 (getH s).1.2.2) := by simp
  have c0n := pw_cell_below (balloc (Below.refl w4.heap.size w4) (.cells #[.int .i64 (getH s).1.1, .int .i64 (getH s).1.2.1, .int .u64 (getH s).1.2.2] 49)) c0
  have c1n := pw_cell_below (balloc (Below.refl w4.heap.size w4) (.cells #[.int .i64 (getH s).1.1, .int .i64 (getH s).1.2.1, .int .u64 (getH s).1.2.2] 49)) c1
  have c2n := pw_cell_below (balloc (Below.refl w4.heap.size w4) (.cells #[.int .i64 (getH s).1.1, .int .i64 (getH s).1.2.1, .int .u64 (getH s).1.2.2] 49)) c2
  have beln := bstep bel (balloc (Below.refl w4.heap.size w4) (.cells #[.int .i64 (getH s).1.1, .int .i64 (getH s).1.2.1, .int .u64 (getH s).1.2.2] 49))
  go_wp2_with fail
  refine (unhead_any s _ (by omega)).mono ?_
  rintro e w5 ⟨rfl, hb5⟩
  replace c0 := pw_cell_below hb5 c0n
  clear c0n
  replace c1 := pw_cell_below hb5 c1n
  clear c1n
  replace c2 := pw_cell_below hb5 c2n
  clear c2n
  replace x0 := pw_cell_below hb5 x0
  replace x1 := pw_cell_below hb5 x1
  replace x2 := pw_cell_below hb5 x2
  replace bel := bstep beln hb5
  clear beln
  simp only [headAgg]
  have y0 : (w5.alloc (.cells #[.int .i64 (getH s).1.1, .int .i64 (getH s).1.2.1, .int .u64 (getH s).1.2.2] 49)).cell? ⟨w5.heap.size, 0, none⟩ = some (.int .i64 (getH s).1.1) := by simp
  have y1 : (w5.alloc (.cells #[.int .i64 (getH s).1.1, .int .i64 (getH s).1.2.1, .int .u64 (getH s).1.2.2] 49)).cell? ⟨w5.heap.size, 1, none⟩ = some (.int .i64 (getH s).1.2.1) := by simp
  have y2 : (w5.alloc (.cells #[.int .i64 (getH s).1.1, .int .i64 (getH s).1.2.1, .int .u64 (getH s).1.2.2] 49)).cell? ⟨w5.heap.size, 2, none⟩ = some (.int .u64 (getH s).1.2.2) := by simp
  have c0n := pw_cell_below (balloc (Below.refl w5.heap.size w5) (.cells #[.int .i64 (getH s).1.1, .int .i64 (getH s).1.2.1, .int .u64 (getH s).1.2.2] 49)) c0
  have c1n := pw_cell_below (balloc (Below.refl w5.heap.size w5) (.cells #[.int .i64 (getH s).1.1, .int .i64 (getH s).1.2.1, .int .u64 (getH s).1.2.2] 49)) c1
  have c2n := pw_cell_below (balloc (Below.refl w5.heap.size w5) (.cells #[.int .i64 (getH s).1.1, .int .i64 (getH s).1.2.1, .int .u64 (getH s).1.2.2] 49)) c2
  have x0n := pw_cell_below (balloc (Below.refl w5.heap.size w5) (.cells #[.int .i64 (getH s).1.1, .int .i64 (getH s).1.2.1, .int .u64 (getH s).1.2.2] 49)) x0
  have x1n := pw_cell_below (balloc (Below.refl w5.heap.size w5) (.cells #[.int .i64 (getH s).1.1, .int .i64 (getH s).1.2.1, .int .u64 (getH s).1.2.2] 49)) x1
  have x2n := pw_cell_below (balloc (Below.refl w5.heap.size w5) (.cells #[.int .i64 (getH s).1.1, .int .i64 (getH s).1.2.1, .int .u64 (getH s).1.2.2] 49)) x2
  have beln := bstep bel (balloc (Below.refl w5.heap.size w5) (.cells #[.int .i64 (getH s).1.1, .int .i64 (getH s).1.2.1, .int .u64 (getH s).1.2.2] 49))
  go_wp2_with fail
  refine (get_any (headS c b id ++ s) _ (by rw [ByteArray.size_append]; omega)).mono ?_
  rintro e w6 ⟨rfl, hb6⟩
  replace c0 := pw_cell_below hb6 c0n
  clear c0n
  replace c1 := pw_cell_below hb6 c1n
  clear c1n
  replace c2 := pw_cell_below hb6 c2n
  clear c2n
  replace x0 := pw_cell_below hb6 x0n
  clear x0n
  replace x1 := pw_cell_below hb6 x1n
  clear x1n
  replace x2 := pw_cell_below hb6 x2n
  clear x2n
  replace y0 := pw_cell_below hb6 y0
  replace y1 := pw_cell_below hb6 y1
  replace y2 := pw_cell_below hb6 y2
  replace bel := bstep beln hb6
  clear beln
  rw [hg]
  simp only [headAgg]
  have z0 : (w6.alloc (.cells #[.int .i64 c, .int .i64 b, .int .u64 id] 49)).cell? ⟨w6.heap.size, 0, none⟩ = some (.int .i64 c) := by simp
  have z1 : (w6.alloc (.cells #[.int .i64 c, .int .i64 b, .int .u64 id] 49)).cell? ⟨w6.heap.size, 1, none⟩ = some (.int .i64 b) := by simp
  have z2 : (w6.alloc (.cells #[.int .i64 c, .int .i64 b, .int .u64 id] 49)).cell? ⟨w6.heap.size, 2, none⟩ = some (.int .u64 id) := by simp
  have c0n := pw_cell_below (balloc (Below.refl w6.heap.size w6) (.cells #[.int .i64 c, .int .i64 b, .int .u64 id] 49)) c0
  have c1n := pw_cell_below (balloc (Below.refl w6.heap.size w6) (.cells #[.int .i64 c, .int .i64 b, .int .u64 id] 49)) c1
  have c2n := pw_cell_below (balloc (Below.refl w6.heap.size w6) (.cells #[.int .i64 c, .int .i64 b, .int .u64 id] 49)) c2
  have x0n := pw_cell_below (balloc (Below.refl w6.heap.size w6) (.cells #[.int .i64 c, .int .i64 b, .int .u64 id] 49)) x0
  have x1n := pw_cell_below (balloc (Below.refl w6.heap.size w6) (.cells #[.int .i64 c, .int .i64 b, .int .u64 id] 49)) x1
  have x2n := pw_cell_below (balloc (Below.refl w6.heap.size w6) (.cells #[.int .i64 c, .int .i64 b, .int .u64 id] 49)) x2
  have y0n := pw_cell_below (balloc (Below.refl w6.heap.size w6) (.cells #[.int .i64 c, .int .i64 b, .int .u64 id] 49)) y0
  have y1n := pw_cell_below (balloc (Below.refl w6.heap.size w6) (.cells #[.int .i64 c, .int .i64 b, .int .u64 id] 49)) y1
  have y2n := pw_cell_below (balloc (Below.refl w6.heap.size w6) (.cells #[.int .i64 c, .int .i64 b, .int .u64 id] 49)) y2
  have beln := bstep bel (balloc (Below.refl w6.heap.size w6) (.cells #[.int .i64 c, .int .i64 b, .int .u64 id] 49))
  go_wp2_with fail
  go_returns
  exact ⟨rfl, beln⟩
set_option maxHeartbeats 1000000 in
theorem heads_no (c b id : Int) (s : ByteArray) (w : World) (hl : s.size ≤ 100) (hid : 0 ≤ id ∧ id < 18446744073709551616) (ok : ¬ okH c b) :
    Calls Try.prog 13 #[.agg #[.int .i64 c, .int .i64 b, .int .u64 id], .string s] w fun e w' => e = .returned (.bool true) ∧ Below w.heap.size w w' := by
  have hL : decide ((s.size : Int) > 100) = false := by simp; omega
  have hp : putS c b id = ⟨#[]⟩ := by unfold putS; rw [if_neg ok]
  have c0 : (w.alloc (.cells #[.int .i64 c, .int .i64 b, .int .u64 id] 49)).cell? ⟨w.heap.size, 0, none⟩ = some (.int .i64 c) := by simp
  have c1 : (w.alloc (.cells #[.int .i64 c, .int .i64 b, .int .u64 id] 49)).cell? ⟨w.heap.size, 1, none⟩ = some (.int .i64 b) := by simp
  have c2 : (w.alloc (.cells #[.int .i64 c, .int .i64 b, .int .u64 id] 49)).cell? ⟨w.heap.size, 2, none⟩ = some (.int .u64 id) := by simp
  have bel : Below w.heap.size w (w.alloc (.cells #[.int .i64 c, .int .i64 b, .int .u64 id] 49)) := balloc (Below.refl _ _) _
  go_enter Try.func13, Try.ntmps13
  go_wp2_with fail
  refine (alive_call _).mono ?_
  rintro e w1 ⟨rfl, hb1⟩
  replace c0 := pw_cell_below hb1 c0
  replace c1 := pw_cell_below hb1 c1
  replace c2 := pw_cell_below hb1 c2
  replace bel := bstep bel hb1
  go_wp2_with fail
  refine (put_any c b id _ hid).mono ?_
  rintro e w2 ⟨rfl, hb2⟩
  replace c0 := pw_cell_below hb2 c0
  replace c1 := pw_cell_below hb2 c1
  replace c2 := pw_cell_below hb2 c2
  replace bel := bstep bel hb2
  rw [decide_eq_false ok, hp]
  go_wp2_with fail
  refine (head_any c b id _ hid).mono ?_
  rintro e w3 ⟨rfl, hb3⟩
  replace c0 := pw_cell_below hb3 c0
  replace c1 := pw_cell_below hb3 c1
  replace c2 := pw_cell_below hb3 c2
  replace bel := bstep bel hb3
  rw [decide_eq_false ok, hp]
  go_wp2_with fail
  refine (get_any s _ (by omega)).mono ?_
  rintro e w4 ⟨rfl, hb4⟩
  replace c0 := pw_cell_below hb4 c0
  replace c1 := pw_cell_below hb4 c1
  replace c2 := pw_cell_below hb4 c2
  replace bel := bstep bel hb4
  simp only [headAgg]
  have x0 : (w4.alloc (.cells #[.int .i64 (getH s).1.1, .int .i64 (getH s).1.2.1, .int .u64 (getH s).1.2.2] 49)).cell? ⟨w4.heap.size, 0, none⟩ = some (.int .i64 (getH s).1.1) := by simp
  have x1 : (w4.alloc (.cells #[.int .i64 (getH s).1.1, .int .i64 (getH s).1.2.1, .int .u64 (getH s).1.2.2] 49)).cell? ⟨w4.heap.size, 1, none⟩ = some (.int .i64 (getH s).1.2.1) := by simp
  have x2 : (w4.alloc (.cells #[.int .i64 (getH s).1.1, .int .i64 (getH s).1.2.1, .int .u64 (getH s).1.2.2] 49)).cell? ⟨w4.heap.size, 2, none⟩ = some (.int .u64 (getH s).1.2.2) := by simp
  have c0n := pw_cell_below (balloc (Below.refl w4.heap.size w4) (.cells #[.int .i64 (getH s).1.1, .int .i64 (getH s).1.2.1, .int .u64 (getH s).1.2.2] 49)) c0
  have c1n := pw_cell_below (balloc (Below.refl w4.heap.size w4) (.cells #[.int .i64 (getH s).1.1, .int .i64 (getH s).1.2.1, .int .u64 (getH s).1.2.2] 49)) c1
  have c2n := pw_cell_below (balloc (Below.refl w4.heap.size w4) (.cells #[.int .i64 (getH s).1.1, .int .i64 (getH s).1.2.1, .int .u64 (getH s).1.2.2] 49)) c2
  have beln := bstep bel (balloc (Below.refl w4.heap.size w4) (.cells #[.int .i64 (getH s).1.1, .int .i64 (getH s).1.2.1, .int .u64 (getH s).1.2.2] 49))
  go_wp2_with fail
  refine (unhead_any s _ (by omega)).mono ?_
  rintro e w5 ⟨rfl, hb5⟩
  replace c0 := pw_cell_below hb5 c0n
  clear c0n
  replace c1 := pw_cell_below hb5 c1n
  clear c1n
  replace c2 := pw_cell_below hb5 c2n
  clear c2n
  replace x0 := pw_cell_below hb5 x0
  replace x1 := pw_cell_below hb5 x1
  replace x2 := pw_cell_below hb5 x2
  replace bel := bstep beln hb5
  clear beln
  simp only [headAgg]
  have y0 : (w5.alloc (.cells #[.int .i64 (getH s).1.1, .int .i64 (getH s).1.2.1, .int .u64 (getH s).1.2.2] 49)).cell? ⟨w5.heap.size, 0, none⟩ = some (.int .i64 (getH s).1.1) := by simp
  have y1 : (w5.alloc (.cells #[.int .i64 (getH s).1.1, .int .i64 (getH s).1.2.1, .int .u64 (getH s).1.2.2] 49)).cell? ⟨w5.heap.size, 1, none⟩ = some (.int .i64 (getH s).1.2.1) := by simp
  have y2 : (w5.alloc (.cells #[.int .i64 (getH s).1.1, .int .i64 (getH s).1.2.1, .int .u64 (getH s).1.2.2] 49)).cell? ⟨w5.heap.size, 2, none⟩ = some (.int .u64 (getH s).1.2.2) := by simp
  have c0n := pw_cell_below (balloc (Below.refl w5.heap.size w5) (.cells #[.int .i64 (getH s).1.1, .int .i64 (getH s).1.2.1, .int .u64 (getH s).1.2.2] 49)) c0
  have c1n := pw_cell_below (balloc (Below.refl w5.heap.size w5) (.cells #[.int .i64 (getH s).1.1, .int .i64 (getH s).1.2.1, .int .u64 (getH s).1.2.2] 49)) c1
  have c2n := pw_cell_below (balloc (Below.refl w5.heap.size w5) (.cells #[.int .i64 (getH s).1.1, .int .i64 (getH s).1.2.1, .int .u64 (getH s).1.2.2] 49)) c2
  have x0n := pw_cell_below (balloc (Below.refl w5.heap.size w5) (.cells #[.int .i64 (getH s).1.1, .int .i64 (getH s).1.2.1, .int .u64 (getH s).1.2.2] 49)) x0
  have x1n := pw_cell_below (balloc (Below.refl w5.heap.size w5) (.cells #[.int .i64 (getH s).1.1, .int .i64 (getH s).1.2.1, .int .u64 (getH s).1.2.2] 49)) x1
  have x2n := pw_cell_below (balloc (Below.refl w5.heap.size w5) (.cells #[.int .i64 (getH s).1.1, .int .i64 (getH s).1.2.1, .int .u64 (getH s).1.2.2] 49)) x2
  have beln := bstep bel (balloc (Below.refl w5.heap.size w5) (.cells #[.int .i64 (getH s).1.1, .int .i64 (getH s).1.2.1, .int .u64 (getH s).1.2.2] 49))
  go_wp2_with fail
  go_returns
  exact ⟨rfl, beln⟩
theorem u64_range {a : Int} (h : (Lit.int .u64 a).wf = true) : 0 ≤ a ∧ a < 18446744073709551616 := by
  simp [Lit.wf, IntKind.min, IntKind.max, IntKind.signed, IntKind.bits] at h
  omega
theorem heads_walk (c b id : Int) (s : ByteArray) (w : World) (wc : (Lit.int .i64 c).wf = true) (wb : (Lit.int .i64 b).wf = true) (wid : (Lit.int .u64 id).wf = true) (hs : s.size ≤ 140737488351232) :
    Calls Try.prog 13 #[.agg #[.int .i64 c, .int .i64 b, .int .u64 id], .string s] w fun e w' => e = .returned (.bool true) ∧ Below w.heap.size w w' := by
  have hid := u64_range wid
  rcases Nat.lt_or_ge 100 s.size with h | h
  · exact heads_long c b id s w h
  · by_cases ok : okH c b
    · exact heads_yes c b id s w h hid ok
    · exact heads_no c b id s w h hid ok
end Go.Proofs.Ythaoofnnhdkboaa.FrX
