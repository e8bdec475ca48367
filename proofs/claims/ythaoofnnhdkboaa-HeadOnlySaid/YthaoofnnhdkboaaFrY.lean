/- The walks of HeadOnly. -/
import Derived.Test.YthaoofnnhdkboaaFrX
import Derived.WalkSpells
set_option linter.unusedSimpArgs false
set_option linter.unusedVariables false
namespace Go.Proofs.Ythaoofnnhdkboaa.FrY
open Go.RowKit Go.Proofs.Ythaoofnnhdkboaa.CrcL Go.Proofs.Ythaoofnnhdkboaa.FrW Go.Proofs.Ythaoofnnhdkboaa.FrH Go.Proofs.Ythaoofnnhdkboaa.FrG Go.Proofs.Ythaoofnnhdkboaa.FrU Go.Proofs.Ythaoofnnhdkboaa.FrL Go.Proofs.Ythaoofnnhdkboaa.FrP Go.Proofs.Ythaoofnnhdkboaa.FrE Go.Proofs.Ythaoofnnhdkboaa.FrA Go.Proofs.Ythaoofnnhdkboaa.FrN Go.Proofs.Ythaoofnnhdkboaa.FrX
attribute [local go_sem high] eqA49

set_option maxHeartbeats 1000000 in
theorem only_long (c b id : Int) (s : ByteArray) (w : World) (hl : 100 < s.size) :
    Calls Try.prog 15 #[.agg #[.int .i64 c, .int .i64 b, .int .u64 id], .string s] w fun e w' => e = .returned (.bool true) ∧ Below w.heap.size w w' := by
  have hL : decide ((s.size : Int) > 100) = true := by simp; omega
  go_enter Try.func15, Try.ntmps15
  go_wp2_with fail
  refine (alive_call _).mono ?_
  rintro e w1 ⟨rfl, hb1⟩
  go_wp2_with fail
  go_returns
  exact ⟨rfl, bstep (balloc (Below.refl _ _) _) hb1⟩
set_option maxHeartbeats 1000000 in
theorem only_yes (c b id : Int) (s : ByteArray) (w : World) (hl : s.size ≤ 100) (hid : 0 ≤ id ∧ id < 18446744073709551616) (ok : okH c b) :
    Calls Try.prog 15 #[.agg #[.int .i64 c, .int .i64 b, .int .u64 id], .string s] w fun e w' => e = .returned (.bool true) ∧ Below w.heap.size w w' := by
  have hL : decide ((s.size : Int) > 100) = false := by simp; omega
  have hp : putS c b id = headS c b id := by unfold putS; rw [if_pos ok]
  have hsz := headS_size c b id
  have hg := getH_head c b id s ok.1 ok.2 hid
  have hla : (headS c b id).size + s.size ≤ maxLen := by unfold maxLen; omega
  have hg2 : getH ((headS c b id).extract 0 16) = ((0, 0, 0), 2) := by unfold getH; rw [if_pos (by rw [ByteArray.size_extract]; omega)]
  have hm : ((headS c b id).extract 0 4).toList = [76, 88, 80, 72] := by rw [mag_iff, ext_magic, headS_list]; rfl
  have h4 : ((headS c b id)[4].toNat : Int) = 1 := by rw [b8_get]; unfold b8; rw [headS_list]; rfl
  obtain ⟨q, hsz, hp, hg, hla, hg2, hm, h4⟩ : ∃ (q : ByteArray) (hz : q.size = 17), putS c b id = q ∧ getH (q ++ s) = ((c, b, id), 0) ∧ q.size + s.size ≤ maxLen ∧ getH (q.extract 0 16) = ((0, 0, 0), 2) ∧ (q.extract 0 4).toList = [76, 88, 80, 72] ∧ (q[4].toNat : Int) = 1 := ⟨headS c b id, hsz, hp, hg, hla, hg2, hm, h4⟩
  have c0 : (w.alloc (.cells #[.int .i64 c, .int .i64 b, .int .u64 id] 49)).cell? ⟨w.heap.size, 0, none⟩ = some (.int .i64 c) := by simp
  have c1 : (w.alloc (.cells #[.int .i64 c, .int .i64 b, .int .u64 id] 49)).cell? ⟨w.heap.size, 1, none⟩ = some (.int .i64 b) := by simp
  have c2 : (w.alloc (.cells #[.int .i64 c, .int .i64 b, .int .u64 id] 49)).cell? ⟨w.heap.size, 2, none⟩ = some (.int .u64 id) := by simp
  have bel : Below w.heap.size w (w.alloc (.cells #[.int .i64 c, .int .i64 b, .int .u64 id] 49)) := balloc (Below.refl _ _) _
  go_enter Try.func15, Try.ntmps15
  go_wp2_with fail
  refine (alive_call _).mono ?_
  rintro e w1 ⟨rfl, hb1⟩
  replace c0 := pw_cell_below hb1 c0
  replace c1 := pw_cell_below hb1 c1
  replace c2 := pw_cell_below hb1 c2
  replace bel := bstep bel hb1
  go_wp2_with fail
  refine (put_any c b id _ hid).mono ?_
  rintro e w2 ⟨rfl, hb2⟩
  replace c0 := pw_cell_below hb2 c0
  replace c1 := pw_cell_below hb2 c1
  replace c2 := pw_cell_below hb2 c2
  replace bel := bstep bel hb2
  rw [decide_eq_true ok, hp]
  go_wp2_with fail
  refine (get_any (q ++ s) _ (by rw [ByteArray.size_append]; omega)).mono ?_
  rintro e w3 ⟨rfl, hb3⟩
  replace c0 := pw_cell_below hb3 c0
  replace c1 := pw_cell_below hb3 c1
  replace c2 := pw_cell_below hb3 c2
  replace bel := bstep bel hb3
  rw [hg]
  simp only [headAgg]
  have x0 : (w3.alloc (.cells #[.int .i64 c, .int .i64 b, .int .u64 id] 49)).cell? ⟨w3.heap.size, 0, none⟩ = some (.int .i64 c) := by simp
  have x1 : (w3.alloc (.cells #[.int .i64 c, .int .i64 b, .int .u64 id] 49)).cell? ⟨w3.heap.size, 1, none⟩ = some (.int .i64 b) := by simp
  have x2 : (w3.alloc (.cells #[.int .i64 c, .int .i64 b, .int .u64 id] 49)).cell? ⟨w3.heap.size, 2, none⟩ = some (.int .u64 id) := by simp
  have c0n := pw_cell_below (balloc (Below.refl w3.heap.size w3) (.cells #[.int .i64 c, .int .i64 b, .int .u64 id] 49)) c0
  have c1n := pw_cell_below (balloc (Below.refl w3.heap.size w3) (.cells #[.int .i64 c, .int .i64 b, .int .u64 id] 49)) c1
  have c2n := pw_cell_below (balloc (Below.refl w3.heap.size w3) (.cells #[.int .i64 c, .int .i64 b, .int .u64 id] 49)) c2
  have beln := bstep bel (balloc (Below.refl w3.heap.size w3) (.cells #[.int .i64 c, .int .i64 b, .int .u64 id] 49))
  go_wp2_with fail
  refine (get_any (q.extract 0 16) _ (by rw [ByteArray.size_extract]; omega)).mono ?_
  rintro e w4 ⟨rfl, hb4⟩
  replace c0 := pw_cell_below hb4 c0n
  clear c0n
  replace c1 := pw_cell_below hb4 c1n
  clear c1n
  replace c2 := pw_cell_below hb4 c2n
  clear c2n
  replace x0 := pw_cell_below hb4 x0
  replace x1 := pw_cell_below hb4 x1
  replace x2 := pw_cell_below hb4 x2
  replace bel := bstep beln hb4
  clear beln
  rw [hg2]
  simp only [headAgg]
  have y0 : (w4.alloc (.cells #[.int .i64 0, .int .i64 0, .int .u64 0] 49)).cell? ⟨w4.heap.size, 0, none⟩ = some (.int .i64 0) := by simp
  have y1 : (w4.alloc (.cells #[.int .i64 0, .int .i64 0, .int .u64 0] 49)).cell? ⟨w4.heap.size, 1, none⟩ = some (.int .i64 0) := by simp
  have y2 : (w4.alloc (.cells #[.int .i64 0, .int .i64 0, .int .u64 0] 49)).cell? ⟨w4.heap.size, 2, none⟩ = some (.int .u64 0) := by simp
  have c0n := pw_cell_below (balloc (Below.refl w4.heap.size w4) (.cells #[.int .i64 0, .int .i64 0, .int .u64 0] 49)) c0
  have c1n := pw_cell_below (balloc (Below.refl w4.heap.size w4) (.cells #[.int .i64 0, .int .i64 0, .int .u64 0] 49)) c1
  have c2n := pw_cell_below (balloc (Below.refl w4.heap.size w4) (.cells #[.int .i64 0, .int .i64 0, .int .u64 0] 49)) c2
  have x0n := pw_cell_below (balloc (Below.refl w4.heap.size w4) (.cells #[.int .i64 0, .int .i64 0, .int .u64 0] 49)) x0
  have x1n := pw_cell_below (balloc (Below.refl w4.heap.size w4) (.cells #[.int .i64 0, .int .i64 0, .int .u64 0] 49)) x1
  have x2n := pw_cell_below (balloc (Below.refl w4.heap.size w4) (.cells #[.int .i64 0, .int .i64 0, .int .u64 0] 49)) x2
  have beln := bstep bel (balloc (Below.refl w4.heap.size w4) (.cells #[.int .i64 0, .int .i64 0, .int .u64 0] 49))
  go_wp2_with fail
  go_returns
  exact ⟨rfl, beln⟩
set_option maxHeartbeats 1000000 in
theorem only_no (c b id : Int) (s : ByteArray) (w : World) (hl : s.size ≤ 100) (hid : 0 ≤ id ∧ id < 18446744073709551616) (ok : ¬ okH c b) :
    Calls Try.prog 15 #[.agg #[.int .i64 c, .int .i64 b, .int .u64 id], .string s] w fun e w' => e = .returned (.bool true) ∧ Below w.heap.size w w' := by
  have hL : decide ((s.size : Int) > 100) = false := by simp; omega
  have hp : putS c b id = ⟨#[]⟩ := by unfold putS; rw [if_neg ok]
  have c0 : (w.alloc (.cells #[.int .i64 c, .int .i64 b, .int .u64 id] 49)).cell? ⟨w.heap.size, 0, none⟩ = some (.int .i64 c) := by simp
  have c1 : (w.alloc (.cells #[.int .i64 c, .int .i64 b, .int .u64 id] 49)).cell? ⟨w.heap.size, 1, none⟩ = some (.int .i64 b) := by simp
  have c2 : (w.alloc (.cells #[.int .i64 c, .int .i64 b, .int .u64 id] 49)).cell? ⟨w.heap.size, 2, none⟩ = some (.int .u64 id) := by simp
  have bel : Below w.heap.size w (w.alloc (.cells #[.int .i64 c, .int .i64 b, .int .u64 id] 49)) := balloc (Below.refl _ _) _
  go_enter Try.func15, Try.ntmps15
  go_wp2_with fail
  refine (alive_call _).mono ?_
  rintro e w1 ⟨rfl, hb1⟩
  replace c0 := pw_cell_below hb1 c0
  replace c1 := pw_cell_below hb1 c1
  replace c2 := pw_cell_below hb1 c2
  replace bel := bstep bel hb1
  go_wp2_with fail
  refine (put_any c b id _ hid).mono ?_
  rintro e w2 ⟨rfl, hb2⟩
  replace c0 := pw_cell_below hb2 c0
  replace c1 := pw_cell_below hb2 c1
  replace c2 := pw_cell_below hb2 c2
  replace bel := bstep bel hb2
  rw [decide_eq_false ok, hp]
  unfold okH at ok
  go_wp2_with fail
  go_ways
  all_goals (refine bodyPost_ret (v := .bool true) ?_ rfl ⟨rfl, bel⟩; simp [results, Try.results15, go_sem] <;> omega)
theorem only_walk (c b id : Int) (s : ByteArray) (w : World) (wc : (Lit.int .i64 c).wf = true) (wb : (Lit.int .i64 b).wf = true) (wid : (Lit.int .u64 id).wf = true) (hs : s.size ≤ 140737488351232) :
    Calls Try.prog 15 #[.agg #[.int .i64 c, .int .i64 b, .int .u64 id], .string s] w fun e w' => e = .returned (.bool true) ∧ Below w.heap.size w w' := by
  have hid := u64_range wid
  rcases Nat.lt_or_ge 100 s.size with h | h
  · exact only_long c b id s w h
  · by_cases ok : okH c b
    · exact only_yes c b id s w h hid ok
    · exact only_no c b id s w h hid ok
end Go.Proofs.Ythaoofnnhdkboaa.FrY
