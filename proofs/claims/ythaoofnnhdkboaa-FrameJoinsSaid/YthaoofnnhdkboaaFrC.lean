/- The walks of FrameCuts. -/
import Derived.Test.YthaoofnnhdkboaaFrK
import Derived.WalkSpells
set_option linter.unusedSimpArgs false
set_option linter.unusedVariables false
namespace Go.Proofs.Ythaoofnnhdkboaa.FrC
open Go.RowKit Go.Proofs.Ythaoofnnhdkboaa.CrcL Go.Proofs.Ythaoofnnhdkboaa.FrW Go.Proofs.Ythaoofnnhdkboaa.FrH Go.Proofs.Ythaoofnnhdkboaa.FrU Go.Proofs.Ythaoofnnhdkboaa.FrL Go.Proofs.Ythaoofnnhdkboaa.FrP Go.Proofs.Ythaoofnnhdkboaa.FrE Go.Proofs.Ythaoofnnhdkboaa.FrA Go.Proofs.Ythaoofnnhdkboaa.FrQ Go.Proofs.Ythaoofnnhdkboaa.FrR Go.Proofs.Ythaoofnnhdkboaa.FrD Go.Proofs.Ythaoofnnhdkboaa.FrK
open Go.Proofs.Ythaoofnnhdkboaa.FrG (b8)
attribute [local go_sem high] eqA49 eqA58

theorem ext_app (p r : ByteArray) (i j : Nat) (h : j ≤ p.size) : (p ++ r).extract i j = p.extract i j := by
  apply data_inj
  rw [ext_list, ext_list, app_list]
  rw [size_list] at h
  by_cases hi : i ≤ p.data.toList.length
  · rw [List.drop_append_of_le_length hi, List.take_append_of_le_length (by rw [List.length_drop]; omega)]
  · rw [show j - i = 0 by omega]; simp
theorem b8_app (p r : ByteArray) (i : Nat) (h : i < p.size) : b8 (p ++ r) i = b8 p i := by
  rw [b8_list, b8_list, app_list]
  rw [size_list] at h
  rw [List.getD_eq_getElem?_getD, List.getD_eq_getElem?_getD, List.getElem?_append_left h]
/-- Where the bytes are enough, what stands behind them does not matter. -/
theorem getF_mono (p r : ByteArray) (m : Int) (h : (getF p m).2.2 ≠ 2) : getF (p ++ r) m = getF p m := by
  have hs : (p ++ r).size = p.size + r.size := ByteArray.size_append
  by_cases h0 : p.size = 0
  · exfalso; apply h; unfold getF; rw [if_pos h0]
  by_cases h1 : 2 < b8 p 0
  · rw [getF_kind m (by omega) h1, getF_kind m (by omega) (by rw [b8_app _ _ _ (by omega)]; exact h1)]
  by_cases h2 : b8 p 0 = 0
  · by_cases h3 : p.size < 5
    · exfalso; apply h; unfold getF; rw [if_neg h0, if_neg h1, if_pos h2, if_pos h3]
    · unfold getF
      rw [if_neg h0, if_neg h1, if_pos h2, if_neg h3, if_neg (by omega), b8_app _ _ _ (by omega), if_neg h1, if_pos h2, if_neg (by omega), ext_app _ _ _ _ (by omega)]
  by_cases h3 : p.size < 9
  · exfalso; apply h; unfold getF; rw [if_neg h0, if_neg h1, if_neg h2, if_pos h3]
  by_cases h4 : m < numS (p.extract 1 3) ∨ fitsB (b8 p 0) (numS (p.extract 1 3)) (numS (p.extract 3 5)) 1024 = false
  · unfold getF
    rw [if_neg h0, if_neg h1, if_neg h2, if_neg h3, if_pos h4, if_neg (by omega), b8_app _ _ _ (by omega), if_neg h1, if_neg h2, if_neg (by omega), ext_app _ _ 1 3 (by omega), ext_app _ _ 3 5 (by omega), if_pos h4]
  by_cases h5 : (p.size : Int) < 9 + numS (p.extract 3 5)
  · exfalso; apply h; unfold getF; rw [if_neg h0, if_neg h1, if_neg h2, if_neg h3, if_neg h4, if_pos h5]
  · have hn := num_small4 p 3 5 (by omega)
    unfold getF
    rw [if_neg h0, if_neg h1, if_neg h2, if_neg h3, if_neg h4, if_neg h5, if_neg (by omega), b8_app _ _ _ (by omega), if_neg h1, if_neg h2, if_neg (by omega), ext_app _ _ 1 3 (by omega), ext_app _ _ 3 5 (by omega), if_neg h4, if_neg (by omega), ext_app _ _ 5 9 (by omega), ext_app _ _ 9 _ (by omega)]
theorem cut_back (b : ByteArray) (n : Nat) (h : n ≤ b.size) : b.extract 0 n ++ b.extract n b.size = b := by
  apply data_inj
  rw [app_list, ext_list, ext_list, List.drop_zero, Nat.sub_zero, List.take_of_length_le (show (b.data.toList.drop n).length ≤ b.size - n by rw [List.length_drop, ← size_list]; exact Nat.le_refl _), List.take_append_drop]
set_option maxHeartbeats 1000000 in
theorem cuts_l (b more : ByteArray) (m k : Int) (w : World) (hl : 1200 < b.size) :
    Calls Try.prog 17 #[.string b, .string more, .int .i64 m, .int .i64 k] w fun e w' => e = .returned (.bool true) ∧ Below w.heap.size w w' := by
  have hL : decide ((b.size : Int) > 1200) = true := by simp; omega
  have bel : Below w.heap.size w w := Below.refl _ _
  go_enter Try.func17, Try.ntmps17
  go_wp2_with fail
  refine (alive_call _).mono ?_
  rintro e w1 ⟨rfl, hb1⟩
  replace bel := bstep bel hb1
  go_wp2_with fail
  go_returns
  exact ⟨rfl, bel⟩
set_option maxHeartbeats 1000000 in
theorem cuts_m (b more : ByteArray) (m k : Int) (w : World) (hl : b.size ≤ 1200) (hl2 : 200 < more.size) :
    Calls Try.prog 17 #[.string b, .string more, .int .i64 m, .int .i64 k] w fun e w' => e = .returned (.bool true) ∧ Below w.heap.size w w' := by
  have hL : decide ((b.size : Int) > 1200) = false := by simp; omega
  have hL2 : decide ((more.size : Int) > 200) = true := by simp; omega
  have bel : Below w.heap.size w w := Below.refl _ _
  go_enter Try.func17, Try.ntmps17
  go_wp2_with fail
  refine (alive_call _).mono ?_
  rintro e w1 ⟨rfl, hb1⟩
  replace bel := bstep bel hb1
  go_wp2_with fail
  go_returns
  exact ⟨rfl, bel⟩
set_option maxHeartbeats 1000000 in
theorem cuts_ok (b more : ByteArray) (m k : Int) (qa qb qz : (Int × Int × Int × ByteArray) × Int × Int) (w : World) (n : Nat) (hl : b.size ≤ 1200) (hl2 : more.size ≤ 200) (hn : n ≤ b.size) (hk0 : -(b.size : Int) ≤ k.tmod (b.size + 1)) (hk1 : k.tmod (b.size + 1) ≤ b.size) (hmod : (k.tmod (b.size + 1) + b.size + 1).tmod (b.size + 1) = (n : Int)) (ha : getF (b.extract 0 n) m = qa) (hb : getF b m = qa) (hz : getF (b ++ more) m = qa) (e0 : (qa.2.2 != 0) = false) (e1 : (qa.2.2 == 0) = true) :
    Calls Try.prog 17 #[.string b, .string more, .int .i64 m, .int .i64 k] w fun e w' => e = .returned (.bool true) ∧ Below w.heap.size w w' := by
  have hL : decide ((b.size : Int) > 1200) = false := by simp; omega
  have hL2 : decide ((more.size : Int) > 200) = false := by simp; omega
  have hw1 : IntKind.i64.wrap ((b.size : Int) + 1) = (b.size : Int) + 1 := by rw [IntKind.wrap_i64]; omega
  have hw0 : IntKind.i64.wrap (k.tmod (b.size + 1)) = k.tmod (b.size + 1) := by rw [IntKind.wrap_i64]; omega
  have hw2 : IntKind.i64.wrap (k.tmod (b.size + 1) + b.size) = k.tmod (b.size + 1) + b.size := by rw [IntKind.wrap_i64]; omega
  have hw3 : IntKind.i64.wrap (k.tmod (b.size + 1) + b.size + 1) = k.tmod (b.size + 1) + b.size + 1 := by rw [IntKind.wrap_i64]; omega
  have hwn : IntKind.i64.wrap (n : Int) = (n : Int) := by rw [IntKind.wrap_i64]; omega
  have hd : ¬ ((b.size : Int) + 1 = 0) := by omega
  have hdb : ((b.size : Int) + 1 == 0) = false := by simp; omega
  have hla : b.size + more.size ≤ maxLen := by unfold maxLen; omega
  have hni : (n : Int) ≤ (b.size : Int) := by omega
  have bel : Below w.heap.size w w := Below.refl _ _
  go_enter Try.func17, Try.ntmps17
  go_wp2_with fail
  refine (alive_call _).mono ?_
  rintro e w1 ⟨rfl, hb1⟩
  replace bel := bstep bel hb1
  go_wp2_with fail
  refine (fget_any (b.extract 0 n) m _ (by rw [ByteArray.size_extract]; omega)).mono ?_
  rintro e w2 ⟨rfl, hb2⟩
  replace bel := bstep bel hb2
  simp only [getOut, frameAgg, ha]
  have x0 : (w2.alloc (.cells #[.int .i64 qa.1.1, .int .i64 qa.1.2.1, .int .u32 qa.1.2.2.1, .string qa.1.2.2.2] 58)).cell? ⟨w2.heap.size, 0, none⟩ = some (.int .i64 qa.1.1) := by simp
  have x1 : (w2.alloc (.cells #[.int .i64 qa.1.1, .int .i64 qa.1.2.1, .int .u32 qa.1.2.2.1, .string qa.1.2.2.2] 58)).cell? ⟨w2.heap.size, 1, none⟩ = some (.int .i64 qa.1.2.1) := by simp
  have x2 : (w2.alloc (.cells #[.int .i64 qa.1.1, .int .i64 qa.1.2.1, .int .u32 qa.1.2.2.1, .string qa.1.2.2.2] 58)).cell? ⟨w2.heap.size, 2, none⟩ = some (.int .u32 qa.1.2.2.1) := by simp
  have x3 : (w2.alloc (.cells #[.int .i64 qa.1.1, .int .i64 qa.1.2.1, .int .u32 qa.1.2.2.1, .string qa.1.2.2.2] 58)).cell? ⟨w2.heap.size, 3, none⟩ = some (.string qa.1.2.2.2) := by simp
  have beln := bstep bel (balloc (Below.refl w2.heap.size w2) (.cells #[.int .i64 qa.1.1, .int .i64 qa.1.2.1, .int .u32 qa.1.2.2.1, .string qa.1.2.2.2] 58))
  go_wp2_with fail
  refine (fget_any b m _ (by omega)).mono ?_
  rintro e w3 ⟨rfl, hb3⟩
  replace x0 := pw_cell_below hb3 x0
  replace x1 := pw_cell_below hb3 x1
  replace x2 := pw_cell_below hb3 x2
  replace x3 := pw_cell_below hb3 x3
  replace bel := bstep beln hb3
  clear beln
  simp only [getOut, frameAgg, hb]
  have y0 : (w3.alloc (.cells #[.int .i64 qa.1.1, .int .i64 qa.1.2.1, .int .u32 qa.1.2.2.1, .string qa.1.2.2.2] 58)).cell? ⟨w3.heap.size, 0, none⟩ = some (.int .i64 qa.1.1) := by simp
  have y1 : (w3.alloc (.cells #[.int .i64 qa.1.1, .int .i64 qa.1.2.1, .int .u32 qa.1.2.2.1, .string qa.1.2.2.2] 58)).cell? ⟨w3.heap.size, 1, none⟩ = some (.int .i64 qa.1.2.1) := by simp
  have y2 : (w3.alloc (.cells #[.int .i64 qa.1.1, .int .i64 qa.1.2.1, .int .u32 qa.1.2.2.1, .string qa.1.2.2.2] 58)).cell? ⟨w3.heap.size, 2, none⟩ = some (.int .u32 qa.1.2.2.1) := by simp
  have y3 : (w3.alloc (.cells #[.int .i64 qa.1.1, .int .i64 qa.1.2.1, .int .u32 qa.1.2.2.1, .string qa.1.2.2.2] 58)).cell? ⟨w3.heap.size, 3, none⟩ = some (.string qa.1.2.2.2) := by simp
  have x0n := pw_cell_below (balloc (Below.refl w3.heap.size w3) (.cells #[.int .i64 qa.1.1, .int .i64 qa.1.2.1, .int .u32 qa.1.2.2.1, .string qa.1.2.2.2] 58)) x0
  have x1n := pw_cell_below (balloc (Below.refl w3.heap.size w3) (.cells #[.int .i64 qa.1.1, .int .i64 qa.1.2.1, .int .u32 qa.1.2.2.1, .string qa.1.2.2.2] 58)) x1
  have x2n := pw_cell_below (balloc (Below.refl w3.heap.size w3) (.cells #[.int .i64 qa.1.1, .int .i64 qa.1.2.1, .int .u32 qa.1.2.2.1, .string qa.1.2.2.2] 58)) x2
  have x3n := pw_cell_below (balloc (Below.refl w3.heap.size w3) (.cells #[.int .i64 qa.1.1, .int .i64 qa.1.2.1, .int .u32 qa.1.2.2.1, .string qa.1.2.2.2] 58)) x3
  have beln := bstep bel (balloc (Below.refl w3.heap.size w3) (.cells #[.int .i64 qa.1.1, .int .i64 qa.1.2.1, .int .u32 qa.1.2.2.1, .string qa.1.2.2.2] 58))
  go_wp2_with fail
  refine (fget_any (b ++ more) m _ (by rw [ByteArray.size_append]; omega)).mono ?_
  rintro e w4 ⟨rfl, hb4⟩
  replace x0 := pw_cell_below hb4 x0n
  clear x0n
  replace x1 := pw_cell_below hb4 x1n
  clear x1n
  replace x2 := pw_cell_below hb4 x2n
  clear x2n
  replace x3 := pw_cell_below hb4 x3n
  clear x3n
  replace y0 := pw_cell_below hb4 y0
  replace y1 := pw_cell_below hb4 y1
  replace y2 := pw_cell_below hb4 y2
  replace y3 := pw_cell_below hb4 y3
  replace bel := bstep beln hb4
  clear beln
  simp only [getOut, frameAgg, hz]
  have z0 : (w4.alloc (.cells #[.int .i64 qa.1.1, .int .i64 qa.1.2.1, .int .u32 qa.1.2.2.1, .string qa.1.2.2.2] 58)).cell? ⟨w4.heap.size, 0, none⟩ = some (.int .i64 qa.1.1) := by simp
  have z1 : (w4.alloc (.cells #[.int .i64 qa.1.1, .int .i64 qa.1.2.1, .int .u32 qa.1.2.2.1, .string qa.1.2.2.2] 58)).cell? ⟨w4.heap.size, 1, none⟩ = some (.int .i64 qa.1.2.1) := by simp
  have z2 : (w4.alloc (.cells #[.int .i64 qa.1.1, .int .i64 qa.1.2.1, .int .u32 qa.1.2.2.1, .string qa.1.2.2.2] 58)).cell? ⟨w4.heap.size, 2, none⟩ = some (.int .u32 qa.1.2.2.1) := by simp
  have z3 : (w4.alloc (.cells #[.int .i64 qa.1.1, .int .i64 qa.1.2.1, .int .u32 qa.1.2.2.1, .string qa.1.2.2.2] 58)).cell? ⟨w4.heap.size, 3, none⟩ = some (.string qa.1.2.2.2) := by simp
  have x0n := pw_cell_below (balloc (Below.refl w4.heap.size w4) (.cells #[.int .i64 qa.1.1, .int .i64 qa.1.2.1, .int .u32 qa.1.2.2.1, .string qa.1.2.2.2] 58)) x0
  have x1n := pw_cell_below (balloc (Below.refl w4.heap.size w4) (.cells #[.int .i64 qa.1.1, .int .i64 qa.1.2.1, .int .u32 qa.1.2.2.1, .string qa.1.2.2.2] 58)) x1
  have x2n := pw_cell_below (balloc (Below.refl w4.heap.size w4) (.cells #[.int .i64 qa.1.1, .int .i64 qa.1.2.1, .int .u32 qa.1.2.2.1, .string qa.1.2.2.2] 58)) x2
  have x3n := pw_cell_below (balloc (Below.refl w4.heap.size w4) (.cells #[.int .i64 qa.1.1, .int .i64 qa.1.2.1, .int .u32 qa.1.2.2.1, .string qa.1.2.2.2] 58)) x3
  have y0n := pw_cell_below (balloc (Below.refl w4.heap.size w4) (.cells #[.int .i64 qa.1.1, .int .i64 qa.1.2.1, .int .u32 qa.1.2.2.1, .string qa.1.2.2.2] 58)) y0
  have y1n := pw_cell_below (balloc (Below.refl w4.heap.size w4) (.cells #[.int .i64 qa.1.1, .int .i64 qa.1.2.1, .int .u32 qa.1.2.2.1, .string qa.1.2.2.2] 58)) y1
  have y2n := pw_cell_below (balloc (Below.refl w4.heap.size w4) (.cells #[.int .i64 qa.1.1, .int .i64 qa.1.2.1, .int .u32 qa.1.2.2.1, .string qa.1.2.2.2] 58)) y2
  have y3n := pw_cell_below (balloc (Below.refl w4.heap.size w4) (.cells #[.int .i64 qa.1.1, .int .i64 qa.1.2.1, .int .u32 qa.1.2.2.1, .string qa.1.2.2.2] 58)) y3
  have beln := bstep bel (balloc (Below.refl w4.heap.size w4) (.cells #[.int .i64 qa.1.1, .int .i64 qa.1.2.1, .int .u32 qa.1.2.2.1, .string qa.1.2.2.2] 58))
  go_wp2_with fail
  go_returns
  exact ⟨rfl, beln⟩
set_option maxHeartbeats 1000000 in
theorem cuts_bad (b more : ByteArray) (m k : Int) (qa qb qz : (Int × Int × Int × ByteArray) × Int × Int) (w : World) (n : Nat) (hl : b.size ≤ 1200) (hl2 : more.size ≤ 200) (hn : n ≤ b.size) (hk0 : -(b.size : Int) ≤ k.tmod (b.size + 1)) (hk1 : k.tmod (b.size + 1) ≤ b.size) (hmod : (k.tmod (b.size + 1) + b.size + 1).tmod (b.size + 1) = (n : Int)) (ha : getF (b.extract 0 n) m = qa) (hb : getF b m = qa) (hz : getF (b ++ more) m = qa) (e0 : (qa.2.2 != 0) = true) (e1 : (qa.2.2 != 2) = true) :
    Calls Try.prog 17 #[.string b, .string more, .int .i64 m, .int .i64 k] w fun e w' => e = .returned (.bool true) ∧ Below w.heap.size w w' := by
  have hL : decide ((b.size : Int) > 1200) = false := by simp; omega
  have hL2 : decide ((more.size : Int) > 200) = false := by simp; omega
  have hw1 : IntKind.i64.wrap ((b.size : Int) + 1) = (b.size : Int) + 1 := by rw [IntKind.wrap_i64]; omega
  have hw0 : IntKind.i64.wrap (k.tmod (b.size + 1)) = k.tmod (b.size + 1) := by rw [IntKind.wrap_i64]; omega
  have hw2 : IntKind.i64.wrap (k.tmod (b.size + 1) + b.size) = k.tmod (b.size + 1) + b.size := by rw [IntKind.wrap_i64]; omega
  have hw3 : IntKind.i64.wrap (k.tmod (b.size + 1) + b.size + 1) = k.tmod (b.size + 1) + b.size + 1 := by rw [IntKind.wrap_i64]; omega
  have hwn : IntKind.i64.wrap (n : Int) = (n : Int) := by rw [IntKind.wrap_i64]; omega
  have hd : ¬ ((b.size : Int) + 1 = 0) := by omega
  have hdb : ((b.size : Int) + 1 == 0) = false := by simp; omega
  have hla : b.size + more.size ≤ maxLen := by unfold maxLen; omega
  have hni : (n : Int) ≤ (b.size : Int) := by omega
  have bel : Below w.heap.size w w := Below.refl _ _
  go_enter Try.func17, Try.ntmps17
  go_wp2_with fail
  refine (alive_call _).mono ?_
  rintro e w1 ⟨rfl, hb1⟩
  replace bel := bstep bel hb1
  go_wp2_with fail
  refine (fget_any (b.extract 0 n) m _ (by rw [ByteArray.size_extract]; omega)).mono ?_
  rintro e w2 ⟨rfl, hb2⟩
  replace bel := bstep bel hb2
  simp only [getOut, frameAgg, ha]
  have x0 : (w2.alloc (.cells #[.int .i64 qa.1.1, .int .i64 qa.1.2.1, .int .u32 qa.1.2.2.1, .string qa.1.2.2.2] 58)).cell? ⟨w2.heap.size, 0, none⟩ = some (.int .i64 qa.1.1) := by simp
  have x1 : (w2.alloc (.cells #[.int .i64 qa.1.1, .int .i64 qa.1.2.1, .int .u32 qa.1.2.2.1, .string qa.1.2.2.2] 58)).cell? ⟨w2.heap.size, 1, none⟩ = some (.int .i64 qa.1.2.1) := by simp
  have x2 : (w2.alloc (.cells #[.int .i64 qa.1.1, .int .i64 qa.1.2.1, .int .u32 qa.1.2.2.1, .string qa.1.2.2.2] 58)).cell? ⟨w2.heap.size, 2, none⟩ = some (.int .u32 qa.1.2.2.1) := by simp
  have x3 : (w2.alloc (.cells #[.int .i64 qa.1.1, .int .i64 qa.1.2.1, .int .u32 qa.1.2.2.1, .string qa.1.2.2.2] 58)).cell? ⟨w2.heap.size, 3, none⟩ = some (.string qa.1.2.2.2) := by simp
  have beln := bstep bel (balloc (Below.refl w2.heap.size w2) (.cells #[.int .i64 qa.1.1, .int .i64 qa.1.2.1, .int .u32 qa.1.2.2.1, .string qa.1.2.2.2] 58))
  go_wp2_with fail
  refine (fget_any b m _ (by omega)).mono ?_
  rintro e w3 ⟨rfl, hb3⟩
  replace x0 := pw_cell_below hb3 x0
  replace x1 := pw_cell_below hb3 x1
  replace x2 := pw_cell_below hb3 x2
  replace x3 := pw_cell_below hb3 x3
  replace bel := bstep beln hb3
  clear beln
  simp only [getOut, frameAgg, hb]
  have y0 : (w3.alloc (.cells #[.int .i64 qa.1.1, .int .i64 qa.1.2.1, .int .u32 qa.1.2.2.1, .string qa.1.2.2.2] 58)).cell? ⟨w3.heap.size, 0, none⟩ = some (.int .i64 qa.1.1) := by simp
  have y1 : (w3.alloc (.cells #[.int .i64 qa.1.1, .int .i64 qa.1.2.1, .int .u32 qa.1.2.2.1, .string qa.1.2.2.2] 58)).cell? ⟨w3.heap.size, 1, none⟩ = some (.int .i64 qa.1.2.1) := by simp
  have y2 : (w3.alloc (.cells #[.int .i64 qa.1.1, .int .i64 qa.1.2.1, .int .u32 qa.1.2.2.1, .string qa.1.2.2.2] 58)).cell? ⟨w3.heap.size, 2, none⟩ = some (.int .u32 qa.1.2.2.1) := by simp
  have y3 : (w3.alloc (.cells #[.int .i64 qa.1.1, .int .i64 qa.1.2.1, .int .u32 qa.1.2.2.1, .string qa.1.2.2.2] 58)).cell? ⟨w3.heap.size, 3, none⟩ = some (.string qa.1.2.2.2) := by simp
  have x0n := pw_cell_below (balloc (Below.refl w3.heap.size w3) (.cells #[.int .i64 qa.1.1, .int .i64 qa.1.2.1, .int .u32 qa.1.2.2.1, .string qa.1.2.2.2] 58)) x0
  have x1n := pw_cell_below (balloc (Below.refl w3.heap.size w3) (.cells #[.int .i64 qa.1.1, .int .i64 qa.1.2.1, .int .u32 qa.1.2.2.1, .string qa.1.2.2.2] 58)) x1
  have x2n := pw_cell_below (balloc (Below.refl w3.heap.size w3) (.cells #[.int .i64 qa.1.1, .int .i64 qa.1.2.1, .int .u32 qa.1.2.2.1, .string qa.1.2.2.2] 58)) x2
  have x3n := pw_cell_below (balloc (Below.refl w3.heap.size w3) (.cells #[.int .i64 qa.1.1, .int .i64 qa.1.2.1, .int .u32 qa.1.2.2.1, .string qa.1.2.2.2] 58)) x3
  have beln := bstep bel (balloc (Below.refl w3.heap.size w3) (.cells #[.int .i64 qa.1.1, .int .i64 qa.1.2.1, .int .u32 qa.1.2.2.1, .string qa.1.2.2.2] 58))
  go_wp2_with fail
  refine (fget_any (b ++ more) m _ (by rw [ByteArray.size_append]; omega)).mono ?_
  rintro e w4 ⟨rfl, hb4⟩
  replace x0 := pw_cell_below hb4 x0n
  clear x0n
  replace x1 := pw_cell_below hb4 x1n
  clear x1n
  replace x2 := pw_cell_below hb4 x2n
  clear x2n
  replace x3 := pw_cell_below hb4 x3n
  clear x3n
  replace y0 := pw_cell_below hb4 y0
  replace y1 := pw_cell_below hb4 y1
  replace y2 := pw_cell_below hb4 y2
  replace y3 := pw_cell_below hb4 y3
  replace bel := bstep beln hb4
  clear beln
  simp only [getOut, frameAgg, hz]
  have z0 : (w4.alloc (.cells #[.int .i64 qa.1.1, .int .i64 qa.1.2.1, .int .u32 qa.1.2.2.1, .string qa.1.2.2.2] 58)).cell? ⟨w4.heap.size, 0, none⟩ = some (.int .i64 qa.1.1) := by simp
  have z1 : (w4.alloc (.cells #[.int .i64 qa.1.1, .int .i64 qa.1.2.1, .int .u32 qa.1.2.2.1, .string qa.1.2.2.2] 58)).cell? ⟨w4.heap.size, 1, none⟩ = some (.int .i64 qa.1.2.1) := by simp
  have z2 : (w4.alloc (.cells #[.int .i64 qa.1.1, .int .i64 qa.1.2.1, .int .u32 qa.1.2.2.1, .string qa.1.2.2.2] 58)).cell? ⟨w4.heap.size, 2, none⟩ = some (.int .u32 qa.1.2.2.1) := by simp
  have z3 : (w4.alloc (.cells #[.int .i64 qa.1.1, .int .i64 qa.1.2.1, .int .u32 qa.1.2.2.1, .string qa.1.2.2.2] 58)).cell? ⟨w4.heap.size, 3, none⟩ = some (.string qa.1.2.2.2) := by simp
  have x0n := pw_cell_below (balloc (Below.refl w4.heap.size w4) (.cells #[.int .i64 qa.1.1, .int .i64 qa.1.2.1, .int .u32 qa.1.2.2.1, .string qa.1.2.2.2] 58)) x0
  have x1n := pw_cell_below (balloc (Below.refl w4.heap.size w4) (.cells #[.int .i64 qa.1.1, .int .i64 qa.1.2.1, .int .u32 qa.1.2.2.1, .string qa.1.2.2.2] 58)) x1
  have x2n := pw_cell_below (balloc (Below.refl w4.heap.size w4) (.cells #[.int .i64 qa.1.1, .int .i64 qa.1.2.1, .int .u32 qa.1.2.2.1, .string qa.1.2.2.2] 58)) x2
  have x3n := pw_cell_below (balloc (Below.refl w4.heap.size w4) (.cells #[.int .i64 qa.1.1, .int .i64 qa.1.2.1, .int .u32 qa.1.2.2.1, .string qa.1.2.2.2] 58)) x3
  have y0n := pw_cell_below (balloc (Below.refl w4.heap.size w4) (.cells #[.int .i64 qa.1.1, .int .i64 qa.1.2.1, .int .u32 qa.1.2.2.1, .string qa.1.2.2.2] 58)) y0
  have y1n := pw_cell_below (balloc (Below.refl w4.heap.size w4) (.cells #[.int .i64 qa.1.1, .int .i64 qa.1.2.1, .int .u32 qa.1.2.2.1, .string qa.1.2.2.2] 58)) y1
  have y2n := pw_cell_below (balloc (Below.refl w4.heap.size w4) (.cells #[.int .i64 qa.1.1, .int .i64 qa.1.2.1, .int .u32 qa.1.2.2.1, .string qa.1.2.2.2] 58)) y2
  have y3n := pw_cell_below (balloc (Below.refl w4.heap.size w4) (.cells #[.int .i64 qa.1.1, .int .i64 qa.1.2.1, .int .u32 qa.1.2.2.1, .string qa.1.2.2.2] 58)) y3
  have beln := bstep bel (balloc (Below.refl w4.heap.size w4) (.cells #[.int .i64 qa.1.1, .int .i64 qa.1.2.1, .int .u32 qa.1.2.2.1, .string qa.1.2.2.2] 58))
  go_wp2_with fail
  go_returns
  exact ⟨rfl, beln⟩
set_option maxHeartbeats 1000000 in
theorem cuts_few (b more : ByteArray) (m k : Int) (qa qb qz : (Int × Int × Int × ByteArray) × Int × Int) (w : World) (n : Nat) (hl : b.size ≤ 1200) (hl2 : more.size ≤ 200) (hn : n ≤ b.size) (hk0 : -(b.size : Int) ≤ k.tmod (b.size + 1)) (hk1 : k.tmod (b.size + 1) ≤ b.size) (hmod : (k.tmod (b.size + 1) + b.size + 1).tmod (b.size + 1) = (n : Int)) (ha : getF (b.extract 0 n) m = qa) (hb : getF b m = qb) (hz : getF (b ++ more) m = qz) (e0 : (qa.2.2 != 0) = true) (e1 : (qa.2.2 != 2) = false) (e2 : (qa.2.2 == 0) = false) (e3 : (qb.2.2 == 2) = true) :
    Calls Try.prog 17 #[.string b, .string more, .int .i64 m, .int .i64 k] w fun e w' => e = .returned (.bool true) ∧ Below w.heap.size w w' := by
  have hL : decide ((b.size : Int) > 1200) = false := by simp; omega
  have hL2 : decide ((more.size : Int) > 200) = false := by simp; omega
  have hw1 : IntKind.i64.wrap ((b.size : Int) + 1) = (b.size : Int) + 1 := by rw [IntKind.wrap_i64]; omega
  have hw0 : IntKind.i64.wrap (k.tmod (b.size + 1)) = k.tmod (b.size + 1) := by rw [IntKind.wrap_i64]; omega
  have hw2 : IntKind.i64.wrap (k.tmod (b.size + 1) + b.size) = k.tmod (b.size + 1) + b.size := by rw [IntKind.wrap_i64]; omega
  have hw3 : IntKind.i64.wrap (k.tmod (b.size + 1) + b.size + 1) = k.tmod (b.size + 1) + b.size + 1 := by rw [IntKind.wrap_i64]; omega
  have hwn : IntKind.i64.wrap (n : Int) = (n : Int) := by rw [IntKind.wrap_i64]; omega
  have hd : ¬ ((b.size : Int) + 1 = 0) := by omega
  have hdb : ((b.size : Int) + 1 == 0) = false := by simp; omega
  have hla : b.size + more.size ≤ maxLen := by unfold maxLen; omega
  have hni : (n : Int) ≤ (b.size : Int) := by omega
  have bel : Below w.heap.size w w := Below.refl _ _
  go_enter Try.func17, Try.ntmps17
  go_wp2_with fail
  refine (alive_call _).mono ?_
  rintro e w1 ⟨rfl, hb1⟩
  replace bel := bstep bel hb1
  go_wp2_with fail
  refine (fget_any (b.extract 0 n) m _ (by rw [ByteArray.size_extract]; omega)).mono ?_
  rintro e w2 ⟨rfl, hb2⟩
  replace bel := bstep bel hb2
  simp only [getOut, frameAgg, ha]
  have x0 : (w2.alloc (.cells #[.int .i64 qa.1.1, .int .i64 qa.1.2.1, .int .u32 qa.1.2.2.1, .string qa.1.2.2.2] 58)).cell? ⟨w2.heap.size, 0, none⟩ = some (.int .i64 qa.1.1) := by simp
  have x1 : (w2.alloc (.cells #[.int .i64 qa.1.1, .int .i64 qa.1.2.1, .int .u32 qa.1.2.2.1, .string qa.1.2.2.2] 58)).cell? ⟨w2.heap.size, 1, none⟩ = some (.int .i64 qa.1.2.1) := by simp
  have x2 : (w2.alloc (.cells #[.int .i64 qa.1.1, .int .i64 qa.1.2.1, .int .u32 qa.1.2.2.1, .string qa.1.2.2.2] 58)).cell? ⟨w2.heap.size, 2, none⟩ = some (.int .u32 qa.1.2.2.1) := by simp
  have x3 : (w2.alloc (.cells #[.int .i64 qa.1.1, .int .i64 qa.1.2.1, .int .u32 qa.1.2.2.1, .string qa.1.2.2.2] 58)).cell? ⟨w2.heap.size, 3, none⟩ = some (.string qa.1.2.2.2) := by simp
  have beln := bstep bel (balloc (Below.refl w2.heap.size w2) (.cells #[.int .i64 qa.1.1, .int .i64 qa.1.2.1, .int .u32 qa.1.2.2.1, .string qa.1.2.2.2] 58))
  go_wp2_with fail
  refine (fget_any b m _ (by omega)).mono ?_
  rintro e w3 ⟨rfl, hb3⟩
  replace x0 := pw_cell_below hb3 x0
  replace x1 := pw_cell_below hb3 x1
  replace x2 := pw_cell_below hb3 x2
  replace x3 := pw_cell_below hb3 x3
  replace bel := bstep beln hb3
  clear beln
  simp only [getOut, frameAgg, hb]
  have y0 : (w3.alloc (.cells #[.int .i64 qb.1.1, .int .i64 qb.1.2.1, .int .u32 qb.1.2.2.1, .string qb.1.2.2.2] 58)).cell? ⟨w3.heap.size, 0, none⟩ = some (.int .i64 qb.1.1) := by simp
  have y1 : (w3.alloc (.cells #[.int .i64 qb.1.1, .int .i64 qb.1.2.1, .int .u32 qb.1.2.2.1, .string qb.1.2.2.2] 58)).cell? ⟨w3.heap.size, 1, none⟩ = some (.int .i64 qb.1.2.1) := by simp
  have y2 : (w3.alloc (.cells #[.int .i64 qb.1.1, .int .i64 qb.1.2.1, .int .u32 qb.1.2.2.1, .string qb.1.2.2.2] 58)).cell? ⟨w3.heap.size, 2, none⟩ = some (.int .u32 qb.1.2.2.1) := by simp
  have y3 : (w3.alloc (.cells #[.int .i64 qb.1.1, .int .i64 qb.1.2.1, .int .u32 qb.1.2.2.1, .string qb.1.2.2.2] 58)).cell? ⟨w3.heap.size, 3, none⟩ = some (.string qb.1.2.2.2) := by simp
  have x0n := pw_cell_below (balloc (Below.refl w3.heap.size w3) (.cells #[.int .i64 qb.1.1, .int .i64 qb.1.2.1, .int .u32 qb.1.2.2.1, .string qb.1.2.2.2] 58)) x0
  have x1n := pw_cell_below (balloc (Below.refl w3.heap.size w3) (.cells #[.int .i64 qb.1.1, .int .i64 qb.1.2.1, .int .u32 qb.1.2.2.1, .string qb.1.2.2.2] 58)) x1
  have x2n := pw_cell_below (balloc (Below.refl w3.heap.size w3) (.cells #[.int .i64 qb.1.1, .int .i64 qb.1.2.1, .int .u32 qb.1.2.2.1, .string qb.1.2.2.2] 58)) x2
  have x3n := pw_cell_below (balloc (Below.refl w3.heap.size w3) (.cells #[.int .i64 qb.1.1, .int .i64 qb.1.2.1, .int .u32 qb.1.2.2.1, .string qb.1.2.2.2] 58)) x3
  have beln := bstep bel (balloc (Below.refl w3.heap.size w3) (.cells #[.int .i64 qb.1.1, .int .i64 qb.1.2.1, .int .u32 qb.1.2.2.1, .string qb.1.2.2.2] 58))
  go_wp2_with fail
  refine (fget_any (b ++ more) m _ (by rw [ByteArray.size_append]; omega)).mono ?_
  rintro e w4 ⟨rfl, hb4⟩
  replace x0 := pw_cell_below hb4 x0n
  clear x0n
  replace x1 := pw_cell_below hb4 x1n
  clear x1n
  replace x2 := pw_cell_below hb4 x2n
  clear x2n
  replace x3 := pw_cell_below hb4 x3n
  clear x3n
  replace y0 := pw_cell_below hb4 y0
  replace y1 := pw_cell_below hb4 y1
  replace y2 := pw_cell_below hb4 y2
  replace y3 := pw_cell_below hb4 y3
  replace bel := bstep beln hb4
  clear beln
  simp only [getOut, frameAgg, hz]
  have z0 : (w4.alloc (.cells #[.int .i64 qz.1.1, .int .i64 qz.1.2.1, .int .u32 qz.1.2.2.1, .string qz.1.2.2.2] 58)).cell? ⟨w4.heap.size, 0, none⟩ = some (.int .i64 qz.1.1) := by simp
  have z1 : (w4.alloc (.cells #[.int .i64 qz.1.1, .int .i64 qz.1.2.1, .int .u32 qz.1.2.2.1, .string qz.1.2.2.2] 58)).cell? ⟨w4.heap.size, 1, none⟩ = some (.int .i64 qz.1.2.1) := by simp
  have z2 : (w4.alloc (.cells #[.int .i64 qz.1.1, .int .i64 qz.1.2.1, .int .u32 qz.1.2.2.1, .string qz.1.2.2.2] 58)).cell? ⟨w4.heap.size, 2, none⟩ = some (.int .u32 qz.1.2.2.1) := by simp
  have z3 : (w4.alloc (.cells #[.int .i64 qz.1.1, .int .i64 qz.1.2.1, .int .u32 qz.1.2.2.1, .string qz.1.2.2.2] 58)).cell? ⟨w4.heap.size, 3, none⟩ = some (.string qz.1.2.2.2) := by simp
  have x0n := pw_cell_below (balloc (Below.refl w4.heap.size w4) (.cells #[.int .i64 qz.1.1, .int .i64 qz.1.2.1, .int .u32 qz.1.2.2.1, .string qz.1.2.2.2] 58)) x0
  have x1n := pw_cell_below (balloc (Below.refl w4.heap.size w4) (.cells #[.int .i64 qz.1.1, .int .i64 qz.1.2.1, .int .u32 qz.1.2.2.1, .string qz.1.2.2.2] 58)) x1
  have x2n := pw_cell_below (balloc (Below.refl w4.heap.size w4) (.cells #[.int .i64 qz.1.1, .int .i64 qz.1.2.1, .int .u32 qz.1.2.2.1, .string qz.1.2.2.2] 58)) x2
  have x3n := pw_cell_below (balloc (Below.refl w4.heap.size w4) (.cells #[.int .i64 qz.1.1, .int .i64 qz.1.2.1, .int .u32 qz.1.2.2.1, .string qz.1.2.2.2] 58)) x3
  have y0n := pw_cell_below (balloc (Below.refl w4.heap.size w4) (.cells #[.int .i64 qz.1.1, .int .i64 qz.1.2.1, .int .u32 qz.1.2.2.1, .string qz.1.2.2.2] 58)) y0
  have y1n := pw_cell_below (balloc (Below.refl w4.heap.size w4) (.cells #[.int .i64 qz.1.1, .int .i64 qz.1.2.1, .int .u32 qz.1.2.2.1, .string qz.1.2.2.2] 58)) y1
  have y2n := pw_cell_below (balloc (Below.refl w4.heap.size w4) (.cells #[.int .i64 qz.1.1, .int .i64 qz.1.2.1, .int .u32 qz.1.2.2.1, .string qz.1.2.2.2] 58)) y2
  have y3n := pw_cell_below (balloc (Below.refl w4.heap.size w4) (.cells #[.int .i64 qz.1.1, .int .i64 qz.1.2.1, .int .u32 qz.1.2.2.1, .string qz.1.2.2.2] 58)) y3
  have beln := bstep bel (balloc (Below.refl w4.heap.size w4) (.cells #[.int .i64 qz.1.1, .int .i64 qz.1.2.1, .int .u32 qz.1.2.2.1, .string qz.1.2.2.2] 58))
  go_wp2_with fail
  go_returns
  exact ⟨rfl, beln⟩
set_option maxHeartbeats 1000000 in
theorem cuts_then0 (b more : ByteArray) (m k : Int) (qa qb qz : (Int × Int × Int × ByteArray) × Int × Int) (w : World) (n : Nat) (hl : b.size ≤ 1200) (hl2 : more.size ≤ 200) (hn : n ≤ b.size) (hk0 : -(b.size : Int) ≤ k.tmod (b.size + 1)) (hk1 : k.tmod (b.size + 1) ≤ b.size) (hmod : (k.tmod (b.size + 1) + b.size + 1).tmod (b.size + 1) = (n : Int)) (ha : getF (b.extract 0 n) m = qa) (hb : getF b m = qb) (hz : getF (b ++ more) m = qb) (e0 : (qa.2.2 != 0) = true) (e1 : (qa.2.2 != 2) = false) (e2 : (qa.2.2 == 0) = false) (e3 : (qb.2.2 == 2) = false) (e4 : (qb.2.2 != 0) = true) :
    Calls Try.prog 17 #[.string b, .string more, .int .i64 m, .int .i64 k] w fun e w' => e = .returned (.bool true) ∧ Below w.heap.size w w' := by
  have hL : decide ((b.size : Int) > 1200) = false := by simp; omega
  have hL2 : decide ((more.size : Int) > 200) = false := by simp; omega
  have hw1 : IntKind.i64.wrap ((b.size : Int) + 1) = (b.size : Int) + 1 := by rw [IntKind.wrap_i64]; omega
  have hw0 : IntKind.i64.wrap (k.tmod (b.size + 1)) = k.tmod (b.size + 1) := by rw [IntKind.wrap_i64]; omega
  have hw2 : IntKind.i64.wrap (k.tmod (b.size + 1) + b.size) = k.tmod (b.size + 1) + b.size := by rw [IntKind.wrap_i64]; omega
  have hw3 : IntKind.i64.wrap (k.tmod (b.size + 1) + b.size + 1) = k.tmod (b.size + 1) + b.size + 1 := by rw [IntKind.wrap_i64]; omega
  have hwn : IntKind.i64.wrap (n : Int) = (n : Int) := by rw [IntKind.wrap_i64]; omega
  have hd : ¬ ((b.size : Int) + 1 = 0) := by omega
  have hdb : ((b.size : Int) + 1 == 0) = false := by simp; omega
  have hla : b.size + more.size ≤ maxLen := by unfold maxLen; omega
  have hni : (n : Int) ≤ (b.size : Int) := by omega
  have bel : Below w.heap.size w w := Below.refl _ _
  go_enter Try.func17, Try.ntmps17
  go_wp2_with fail
  refine (alive_call _).mono ?_
  rintro e w1 ⟨rfl, hb1⟩
  replace bel := bstep bel hb1
  go_wp2_with fail
  refine (fget_any (b.extract 0 n) m _ (by rw [ByteArray.size_extract]; omega)).mono ?_
  rintro e w2 ⟨rfl, hb2⟩
  replace bel := bstep bel hb2
  simp only [getOut, frameAgg, ha]
  have x0 : (w2.alloc (.cells #[.int .i64 qa.1.1, .int .i64 qa.1.2.1, .int .u32 qa.1.2.2.1, .string qa.1.2.2.2] 58)).cell? ⟨w2.heap.size, 0, none⟩ = some (.int .i64 qa.1.1) := by simp
  have x1 : (w2.alloc (.cells #[.int .i64 qa.1.1, .int .i64 qa.1.2.1, .int .u32 qa.1.2.2.1, .string qa.1.2.2.2] 58)).cell? ⟨w2.heap.size, 1, none⟩ = some (.int .i64 qa.1.2.1) := by simp
  have x2 : (w2.alloc (.cells #[.int .i64 qa.1.1, .int .i64 qa.1.2.1, .int .u32 qa.1.2.2.1, .string qa.1.2.2.2] 58)).cell? ⟨w2.heap.size, 2, none⟩ = some (.int .u32 qa.1.2.2.1) := by simp
  have x3 : (w2.alloc (.cells #[.int .i64 qa.1.1, .int .i64 qa.1.2.1, .int .u32 qa.1.2.2.1, .string qa.1.2.2.2] 58)).cell? ⟨w2.heap.size, 3, none⟩ = some (.string qa.1.2.2.2) := by simp
  have beln := bstep bel (balloc (Below.refl w2.heap.size w2) (.cells #[.int .i64 qa.1.1, .int .i64 qa.1.2.1, .int .u32 qa.1.2.2.1, .string qa.1.2.2.2] 58))
  go_wp2_with fail
  refine (fget_any b m _ (by omega)).mono ?_
  rintro e w3 ⟨rfl, hb3⟩
  replace x0 := pw_cell_below hb3 x0
  replace x1 := pw_cell_below hb3 x1
  replace x2 := pw_cell_below hb3 x2
  replace x3 := pw_cell_below hb3 x3
  replace bel := bstep beln hb3
  clear beln
  simp only [getOut, frameAgg, hb]
  have y0 : (w3.alloc (.cells #[.int .i64 qb.1.1, .int .i64 qb.1.2.1, .int .u32 qb.1.2.2.1, .string qb.1.2.2.2] 58)).cell? ⟨w3.heap.size, 0, none⟩ = some (.int .i64 qb.1.1) := by simp
  have y1 : (w3.alloc (.cells #[.int .i64 qb.1.1, .int .i64 qb.1.2.1, .int .u32 qb.1.2.2.1, .string qb.1.2.2.2] 58)).cell? ⟨w3.heap.size, 1, none⟩ = some (.int .i64 qb.1.2.1) := by simp
  have y2 : (w3.alloc (.cells #[.int .i64 qb.1.1, .int .i64 qb.1.2.1, .int .u32 qb.1.2.2.1, .string qb.1.2.2.2] 58)).cell? ⟨w3.heap.size, 2, none⟩ = some (.int .u32 qb.1.2.2.1) := by simp
  have y3 : (w3.alloc (.cells #[.int .i64 qb.1.1, .int .i64 qb.1.2.1, .int .u32 qb.1.2.2.1, .string qb.1.2.2.2] 58)).cell? ⟨w3.heap.size, 3, none⟩ = some (.string qb.1.2.2.2) := by simp
  have x0n := pw_cell_below (balloc (Below.refl w3.heap.size w3) (.cells #[.int .i64 qb.1.1, .int .i64 qb.1.2.1, .int .u32 qb.1.2.2.1, .string qb.1.2.2.2] 58)) x0
  have x1n := pw_cell_below (balloc (Below.refl w3.heap.size w3) (.cells #[.int .i64 qb.1.1, .int .i64 qb.1.2.1, .int .u32 qb.1.2.2.1, .string qb.1.2.2.2] 58)) x1
  have x2n := pw_cell_below (balloc (Below.refl w3.heap.size w3) (.cells #[.int .i64 qb.1.1, .int .i64 qb.1.2.1, .int .u32 qb.1.2.2.1, .string qb.1.2.2.2] 58)) x2
  have x3n := pw_cell_below (balloc (Below.refl w3.heap.size w3) (.cells #[.int .i64 qb.1.1, .int .i64 qb.1.2.1, .int .u32 qb.1.2.2.1, .string qb.1.2.2.2] 58)) x3
  have beln := bstep bel (balloc (Below.refl w3.heap.size w3) (.cells #[.int .i64 qb.1.1, .int .i64 qb.1.2.1, .int .u32 qb.1.2.2.1, .string qb.1.2.2.2] 58))
  go_wp2_with fail
  refine (fget_any (b ++ more) m _ (by rw [ByteArray.size_append]; omega)).mono ?_
  rintro e w4 ⟨rfl, hb4⟩
  replace x0 := pw_cell_below hb4 x0n
  clear x0n
  replace x1 := pw_cell_below hb4 x1n
  clear x1n
  replace x2 := pw_cell_below hb4 x2n
  clear x2n
  replace x3 := pw_cell_below hb4 x3n
  clear x3n
  replace y0 := pw_cell_below hb4 y0
  replace y1 := pw_cell_below hb4 y1
  replace y2 := pw_cell_below hb4 y2
  replace y3 := pw_cell_below hb4 y3
  replace bel := bstep beln hb4
  clear beln
  simp only [getOut, frameAgg, hz]
  have z0 : (w4.alloc (.cells #[.int .i64 qb.1.1, .int .i64 qb.1.2.1, .int .u32 qb.1.2.2.1, .string qb.1.2.2.2] 58)).cell? ⟨w4.heap.size, 0, none⟩ = some (.int .i64 qb.1.1) := by simp
  have z1 : (w4.alloc (.cells #[.int .i64 qb.1.1, .int .i64 qb.1.2.1, .int .u32 qb.1.2.2.1, .string qb.1.2.2.2] 58)).cell? ⟨w4.heap.size, 1, none⟩ = some (.int .i64 qb.1.2.1) := by simp
  have z2 : (w4.alloc (.cells #[.int .i64 qb.1.1, .int .i64 qb.1.2.1, .int .u32 qb.1.2.2.1, .string qb.1.2.2.2] 58)).cell? ⟨w4.heap.size, 2, none⟩ = some (.int .u32 qb.1.2.2.1) := by simp
  have z3 : (w4.alloc (.cells #[.int .i64 qb.1.1, .int .i64 qb.1.2.1, .int .u32 qb.1.2.2.1, .string qb.1.2.2.2] 58)).cell? ⟨w4.heap.size, 3, none⟩ = some (.string qb.1.2.2.2) := by simp
  have x0n := pw_cell_below (balloc (Below.refl w4.heap.size w4) (.cells #[.int .i64 qb.1.1, .int .i64 qb.1.2.1, .int .u32 qb.1.2.2.1, .string qb.1.2.2.2] 58)) x0
  have x1n := pw_cell_below (balloc (Below.refl w4.heap.size w4) (.cells #[.int .i64 qb.1.1, .int .i64 qb.1.2.1, .int .u32 qb.1.2.2.1, .string qb.1.2.2.2] 58)) x1
  have x2n := pw_cell_below (balloc (Below.refl w4.heap.size w4) (.cells #[.int .i64 qb.1.1, .int .i64 qb.1.2.1, .int .u32 qb.1.2.2.1, .string qb.1.2.2.2] 58)) x2
  have x3n := pw_cell_below (balloc (Below.refl w4.heap.size w4) (.cells #[.int .i64 qb.1.1, .int .i64 qb.1.2.1, .int .u32 qb.1.2.2.1, .string qb.1.2.2.2] 58)) x3
  have y0n := pw_cell_below (balloc (Below.refl w4.heap.size w4) (.cells #[.int .i64 qb.1.1, .int .i64 qb.1.2.1, .int .u32 qb.1.2.2.1, .string qb.1.2.2.2] 58)) y0
  have y1n := pw_cell_below (balloc (Below.refl w4.heap.size w4) (.cells #[.int .i64 qb.1.1, .int .i64 qb.1.2.1, .int .u32 qb.1.2.2.1, .string qb.1.2.2.2] 58)) y1
  have y2n := pw_cell_below (balloc (Below.refl w4.heap.size w4) (.cells #[.int .i64 qb.1.1, .int .i64 qb.1.2.1, .int .u32 qb.1.2.2.1, .string qb.1.2.2.2] 58)) y2
  have y3n := pw_cell_below (balloc (Below.refl w4.heap.size w4) (.cells #[.int .i64 qb.1.1, .int .i64 qb.1.2.1, .int .u32 qb.1.2.2.1, .string qb.1.2.2.2] 58)) y3
  have beln := bstep bel (balloc (Below.refl w4.heap.size w4) (.cells #[.int .i64 qb.1.1, .int .i64 qb.1.2.1, .int .u32 qb.1.2.2.1, .string qb.1.2.2.2] 58))
  go_wp2_with fail
  go_returns
  exact ⟨rfl, beln⟩
set_option maxHeartbeats 1000000 in
theorem cuts_then1 (b more : ByteArray) (m k : Int) (qa qb qz : (Int × Int × Int × ByteArray) × Int × Int) (w : World) (n : Nat) (hl : b.size ≤ 1200) (hl2 : more.size ≤ 200) (hn : n ≤ b.size) (hk0 : -(b.size : Int) ≤ k.tmod (b.size + 1)) (hk1 : k.tmod (b.size + 1) ≤ b.size) (hmod : (k.tmod (b.size + 1) + b.size + 1).tmod (b.size + 1) = (n : Int)) (ha : getF (b.extract 0 n) m = qa) (hb : getF b m = qb) (hz : getF (b ++ more) m = qb) (e0 : (qa.2.2 != 0) = true) (e1 : (qa.2.2 != 2) = false) (e2 : (qa.2.2 == 0) = false) (e3 : (qb.2.2 == 2) = false) (e4 : (qb.2.2 != 0) = false) :
    Calls Try.prog 17 #[.string b, .string more, .int .i64 m, .int .i64 k] w fun e w' => e = .returned (.bool true) ∧ Below w.heap.size w w' := by
  have hL : decide ((b.size : Int) > 1200) = false := by simp; omega
  have hL2 : decide ((more.size : Int) > 200) = false := by simp; omega
  have hw1 : IntKind.i64.wrap ((b.size : Int) + 1) = (b.size : Int) + 1 := by rw [IntKind.wrap_i64]; omega
  have hw0 : IntKind.i64.wrap (k.tmod (b.size + 1)) = k.tmod (b.size + 1) := by rw [IntKind.wrap_i64]; omega
  have hw2 : IntKind.i64.wrap (k.tmod (b.size + 1) + b.size) = k.tmod (b.size + 1) + b.size := by rw [IntKind.wrap_i64]; omega
  have hw3 : IntKind.i64.wrap (k.tmod (b.size + 1) + b.size + 1) = k.tmod (b.size + 1) + b.size + 1 := by rw [IntKind.wrap_i64]; omega
  have hwn : IntKind.i64.wrap (n : Int) = (n : Int) := by rw [IntKind.wrap_i64]; omega
  have hd : ¬ ((b.size : Int) + 1 = 0) := by omega
  have hdb : ((b.size : Int) + 1 == 0) = false := by simp; omega
  have hla : b.size + more.size ≤ maxLen := by unfold maxLen; omega
  have hni : (n : Int) ≤ (b.size : Int) := by omega
  have bel : Below w.heap.size w w := Below.refl _ _
  go_enter Try.func17, Try.ntmps17
  go_wp2_with fail
  refine (alive_call _).mono ?_
  rintro e w1 ⟨rfl, hb1⟩
  replace bel := bstep bel hb1
  go_wp2_with fail
  refine (fget_any (b.extract 0 n) m _ (by rw [ByteArray.size_extract]; omega)).mono ?_
  rintro e w2 ⟨rfl, hb2⟩
  replace bel := bstep bel hb2
  simp only [getOut, frameAgg, ha]
  have x0 : (w2.alloc (.cells #[.int .i64 qa.1.1, .int .i64 qa.1.2.1, .int .u32 qa.1.2.2.1, .string qa.1.2.2.2] 58)).cell? ⟨w2.heap.size, 0, none⟩ = some (.int .i64 qa.1.1) := by simp
  have x1 : (w2.alloc (.cells #[.int .i64 qa.1.1, .int .i64 qa.1.2.1, .int .u32 qa.1.2.2.1, .string qa.1.2.2.2] 58)).cell? ⟨w2.heap.size, 1, none⟩ = some (.int .i64 qa.1.2.1) := by simp
  have x2 : (w2.alloc (.cells #[.int .i64 qa.1.1, .int .i64 qa.1.2.1, .int .u32 qa.1.2.2.1, .string qa.1.2.2.2] 58)).cell? ⟨w2.heap.size, 2, none⟩ = some (.int .u32 qa.1.2.2.1) := by simp
  have x3 : (w2.alloc (.cells #[.int .i64 qa.1.1, .int .i64 qa.1.2.1, .int .u32 qa.1.2.2.1, .string qa.1.2.2.2] 58)).cell? ⟨w2.heap.size, 3, none⟩ = some (.string qa.1.2.2.2) := by simp
  have beln := bstep bel (balloc (Below.refl w2.heap.size w2) (.cells #[.int .i64 qa.1.1, .int .i64 qa.1.2.1, .int .u32 qa.1.2.2.1, .string qa.1.2.2.2] 58))
  go_wp2_with fail
  refine (fget_any b m _ (by omega)).mono ?_
  rintro e w3 ⟨rfl, hb3⟩
  replace x0 := pw_cell_below hb3 x0
  replace x1 := pw_cell_below hb3 x1
  replace x2 := pw_cell_below hb3 x2
  replace x3 := pw_cell_below hb3 x3
  replace bel := bstep beln hb3
  clear beln
  simp only [getOut, frameAgg, hb]
  have y0 : (w3.alloc (.cells #[.int .i64 qb.1.1, .int .i64 qb.1.2.1, .int .u32 qb.1.2.2.1, .string qb.1.2.2.2] 58)).cell? ⟨w3.heap.size, 0, none⟩ = some (.int .i64 qb.1.1) := by simp
  have y1 : (w3.alloc (.cells #[.int .i64 qb.1.1, .int .i64 qb.1.2.1, .int .u32 qb.1.2.2.1, .string qb.1.2.2.2] 58)).cell? ⟨w3.heap.size, 1, none⟩ = some (.int .i64 qb.1.2.1) := by simp
  have y2 : (w3.alloc (.cells #[.int .i64 qb.1.1, .int .i64 qb.1.2.1, .int .u32 qb.1.2.2.1, .string qb.1.2.2.2] 58)).cell? ⟨w3.heap.size, 2, none⟩ = some (.int .u32 qb.1.2.2.1) := by simp
  have y3 : (w3.alloc (.cells #[.int .i64 qb.1.1, .int .i64 qb.1.2.1, .int .u32 qb.1.2.2.1, .string qb.1.2.2.2] 58)).cell? ⟨w3.heap.size, 3, none⟩ = some (.string qb.1.2.2.2) := by simp
  have x0n := pw_cell_below (balloc (Below.refl w3.heap.size w3) (.cells #[.int .i64 qb.1.1, .int .i64 qb.1.2.1, .int .u32 qb.1.2.2.1, .string qb.1.2.2.2] 58)) x0
  have x1n := pw_cell_below (balloc (Below.refl w3.heap.size w3) (.cells #[.int .i64 qb.1.1, .int .i64 qb.1.2.1, .int .u32 qb.1.2.2.1, .string qb.1.2.2.2] 58)) x1
  have x2n := pw_cell_below (balloc (Below.refl w3.heap.size w3) (.cells #[.int .i64 qb.1.1, .int .i64 qb.1.2.1, .int .u32 qb.1.2.2.1, .string qb.1.2.2.2] 58)) x2
  have x3n := pw_cell_below (balloc (Below.refl w3.heap.size w3) (.cells #[.int .i64 qb.1.1, .int .i64 qb.1.2.1, .int .u32 qb.1.2.2.1, .string qb.1.2.2.2] 58)) x3
  have beln := bstep bel (balloc (Below.refl w3.heap.size w3) (.cells #[.int .i64 qb.1.1, .int .i64 qb.1.2.1, .int .u32 qb.1.2.2.1, .string qb.1.2.2.2] 58))
  go_wp2_with fail
  refine (fget_any (b ++ more) m _ (by rw [ByteArray.size_append]; omega)).mono ?_
  rintro e w4 ⟨rfl, hb4⟩
  replace x0 := pw_cell_below hb4 x0n
  clear x0n
  replace x1 := pw_cell_below hb4 x1n
  clear x1n
  replace x2 := pw_cell_below hb4 x2n
  clear x2n
  replace x3 := pw_cell_below hb4 x3n
  clear x3n
  replace y0 := pw_cell_below hb4 y0
  replace y1 := pw_cell_below hb4 y1
  replace y2 := pw_cell_below hb4 y2
  replace y3 := pw_cell_below hb4 y3
  replace bel := bstep beln hb4
  clear beln
  simp only [getOut, frameAgg, hz]
  have z0 : (w4.alloc (.cells #[.int .i64 qb.1.1, .int .i64 qb.1.2.1, .int .u32 qb.1.2.2.1, .string qb.1.2.2.2] 58)).cell? ⟨w4.heap.size, 0, none⟩ = some (.int .i64 qb.1.1) := by simp
  have z1 : (w4.alloc (.cells #[.int .i64 qb.1.1, .int .i64 qb.1.2.1, .int .u32 qb.1.2.2.1, .string qb.1.2.2.2] 58)).cell? ⟨w4.heap.size, 1, none⟩ = some (.int .i64 qb.1.2.1) := by simp
  have z2 : (w4.alloc (.cells #[.int .i64 qb.1.1, .int .i64 qb.1.2.1, .int .u32 qb.1.2.2.1, .string qb.1.2.2.2] 58)).cell? ⟨w4.heap.size, 2, none⟩ = some (.int .u32 qb.1.2.2.1) := by simp
  have z3 : (w4.alloc (.cells #[.int .i64 qb.1.1, .int .i64 qb.1.2.1, .int .u32 qb.1.2.2.1, .string qb.1.2.2.2] 58)).cell? ⟨w4.heap.size, 3, none⟩ = some (.string qb.1.2.2.2) := by simp
  have x0n := pw_cell_below (balloc (Below.refl w4.heap.size w4) (.cells #[.int .i64 qb.1.1, .int .i64 qb.1.2.1, .int .u32 qb.1.2.2.1, .string qb.1.2.2.2] 58)) x0
  have x1n := pw_cell_below (balloc (Below.refl w4.heap.size w4) (.cells #[.int .i64 qb.1.1, .int .i64 qb.1.2.1, .int .u32 qb.1.2.2.1, .string qb.1.2.2.2] 58)) x1
  have x2n := pw_cell_below (balloc (Below.refl w4.heap.size w4) (.cells #[.int .i64 qb.1.1, .int .i64 qb.1.2.1, .int .u32 qb.1.2.2.1, .string qb.1.2.2.2] 58)) x2
  have x3n := pw_cell_below (balloc (Below.refl w4.heap.size w4) (.cells #[.int .i64 qb.1.1, .int .i64 qb.1.2.1, .int .u32 qb.1.2.2.1, .string qb.1.2.2.2] 58)) x3
  have y0n := pw_cell_below (balloc (Below.refl w4.heap.size w4) (.cells #[.int .i64 qb.1.1, .int .i64 qb.1.2.1, .int .u32 qb.1.2.2.1, .string qb.1.2.2.2] 58)) y0
  have y1n := pw_cell_below (balloc (Below.refl w4.heap.size w4) (.cells #[.int .i64 qb.1.1, .int .i64 qb.1.2.1, .int .u32 qb.1.2.2.1, .string qb.1.2.2.2] 58)) y1
  have y2n := pw_cell_below (balloc (Below.refl w4.heap.size w4) (.cells #[.int .i64 qb.1.1, .int .i64 qb.1.2.1, .int .u32 qb.1.2.2.1, .string qb.1.2.2.2] 58)) y2
  have y3n := pw_cell_below (balloc (Below.refl w4.heap.size w4) (.cells #[.int .i64 qb.1.1, .int .i64 qb.1.2.1, .int .u32 qb.1.2.2.1, .string qb.1.2.2.2] 58)) y3
  have beln := bstep bel (balloc (Below.refl w4.heap.size w4) (.cells #[.int .i64 qb.1.1, .int .i64 qb.1.2.1, .int .u32 qb.1.2.2.1, .string qb.1.2.2.2] 58))
  go_wp2_with fail
  go_returns
  exact ⟨rfl, beln⟩
theorem cuts_walk (b more : ByteArray) (m k : Int) (w : World) (h1 : b.size ≤ 140737488351232) (h2 : more.size ≤ 140737488351232) (wm : (Lit.int .i64 m).wf = true) (wk : (Lit.int .i64 k).wf = true) :
    Calls Try.prog 17 #[.string b, .string more, .int .i64 m, .int .i64 k] w fun e w' => e = .returned (.bool true) ∧ Below w.heap.size w w' := by
  rcases Nat.lt_or_ge 1200 b.size with h | h
  · exact cuts_l b more m k w h
  rcases Nat.lt_or_ge 200 more.size with hh | hh
  · exact cuts_m b more m k w h hh
  have hp : (0 : Int) < (b.size : Int) + 1 := by omega
  have m1 := Int.tmod_lt_of_pos k hp
  have m2 := Int.lt_tmod_of_pos k hp
  have n1 : 0 ≤ (k.tmod (b.size + 1) + b.size + 1).tmod (b.size + 1) := Int.tmod_nonneg _ (by omega)
  have n2 := Int.tmod_lt_of_pos (k.tmod (b.size + 1) + b.size + 1) hp
  obtain ⟨n, hn⟩ := Int.eq_ofNat_of_zero_le n1
  have hle : n ≤ b.size := by omega
  by_cases e : (getF (b.extract 0 n) m).2.2 = 2
  · by_cases f : (getF b m).2.2 = 2
    · exact cuts_few b more m k _ _ _ w n h hh hle (by omega) (by omega) hn rfl rfl rfl (by rw [e]; rfl) (by rw [e]; rfl) (by rw [e]; rfl) (by rw [f]; rfl)
    · by_cases g : (getF b m).2.2 = 0
      · exact cuts_then1 b more m k _ _ (getF b m) w n h hh hle (by omega) (by omega) hn rfl rfl (getF_mono b more m f) (by rw [e]; rfl) (by rw [e]; rfl) (by rw [e]; rfl) (by simpa using f) (by rw [g]; rfl)
      · exact cuts_then0 b more m k _ _ (getF b m) w n h hh hle (by omega) (by omega) hn rfl rfl (getF_mono b more m f) (by rw [e]; rfl) (by rw [e]; rfl) (by rw [e]; rfl) (by simpa using f) (by simpa using g)
  · have hb : getF b m = getF (b.extract 0 n) m := by
      have := getF_mono (b.extract 0 n) (b.extract n b.size) m e
      rw [cut_back b n hle] at this
      exact this
    have hz : getF (b ++ more) m = getF (b.extract 0 n) m := (getF_mono b more m (by rw [hb]; exact e)).trans hb
    by_cases f : (getF (b.extract 0 n) m).2.2 = 0
    · exact cuts_ok b more m k _ (getF b m) (getF b m) w n h hh hle (by omega) (by omega) hn rfl hb hz (by rw [f]; rfl) (by rw [f]; rfl)
    · exact cuts_bad b more m k _ (getF b m) (getF b m) w n h hh hle (by omega) (by omega) hn rfl hb hz (by simpa using f) (by simpa using e)
end Go.Proofs.Ythaoofnnhdkboaa.FrC
