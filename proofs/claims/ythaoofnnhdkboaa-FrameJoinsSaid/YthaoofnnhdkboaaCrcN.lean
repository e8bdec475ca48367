/- The walk of CrcZeros: it returns true for every pair of numbers. -/
import Derived.Test.YthaoofnnhdkboaaCrcM
import Derived.Laws.BytesArg
import Derived.Laws.MakeOwn
import Derived.Laws.OwnMore
set_option linter.unusedSimpArgs false
set_option linter.unusedVariables false
namespace Go.Proofs.Ythaoofnnhdkboaa.CrcN
open Go.RowKit Go.Proofs.Ythaoofnnhdkboaa.CrcP Go.Proofs.Ythaoofnnhdkboaa.CrcW Go.Proofs.Ythaoofnnhdkboaa.CrcQ Go.Proofs.Ythaoofnnhdkboaa.CrcL

def zeroS (n : Nat) : ByteArray := strOfNums (List.replicate n 0)
theorem zeroS_data (n : Nat) : (zeroS n).data.toList = List.replicate n 0 := by
  unfold zeroS
  rw [strOfNums_data]
  simp
theorem zeroS_size (n : Nat) (h : n ≤ 2000) : (zeroS n).size ≤ maxLen := by
  unfold zeroS
  rw [strOfNums_size]
  unfold maxLen
  simp
  omega
theorem info5 : (Try.prog.info? 5).map (fun i => (i.zero, i.size, i.bytes)) = some (some (.int .u8 0), 1, 1) := by kernel_rfl
theorem make_n (W : World) (n : Nat) (h : n ≤ 2000) : (Instr.makeSlice 32 (.int .i64 (n : Int)) (.int .i64 (n : Int))).run Try.prog W = .ok (.slice (some ⟨W.heap.size, 0, none⟩) n n) (W.alloc (.cells (madeCells (Value.int .u8 0).cells (n * 1)) 5)) := by
  obtain ⟨i0, hi, hz0, hz1, hz2⟩ := info_parts info5
  have := run_make (P := Try.prog) W 32 5 i0 (.int .u8 0) Try.underlying32 hi hz0 .i64 .i64 (n : Int) (n : Int) (by omega) (Int.le_refl _) (by simp [hz2]; omega) (by omega)
  simpa [hz1] using this
theorem made_cells (W : World) (n : Nat) : ∀ j, j < n → (W.alloc (.cells (madeCells #[Value.int .u8 0] n) 5)).cell? ⟨W.heap.size, j, none⟩ = some (.int .u8 0) := by
  intro j hj
  have e : (madeCells #[Value.int .u8 0] n)[j]? = some (Value.int .u8 0) := by
    have := toList_madeCells_one (Value.int .u8 0) n
    rw [← Array.getElem?_toList, this]
    simp [hj]
  simp [e]
theorem conv_n (W : World) (b n : Nat) (h : ∀ j, j < n → W.cell? ⟨b, j, none⟩ = some (.int .u8 0)) : (convert 32 9 (.slice (some ⟨b, 0, none⟩) n n)).run Try.prog W = .ok (.string (zeroS n)) W := by
  refine run_convert_bytes_arg W 32 5 Try.underlying32 Try.underlying5 b 0 n n (List.replicate n 0) (by simp) ?_ 9 Try.underlying9
  intro i hi
  rw [Nat.zero_add, h i hi]
  simp [List.getD_eq_getElem?_getD, hi]
theorem zeros_law (n m : Nat) (hn : n ≤ 2000) (hm : m ≤ 2000) : ((sumS (zeroS n) == sumS (zeroS m)) == ((n : Int) == (m : Int))) = true := by
  by_cases h : n = m
  · subst h; simp
  · have hne : sumS (zeroS n) ≠ sumS (zeroS m) := by
      intro e
      unfold sumS foldS cellI at e
      rw [zeroS_data, zeroS_data] at e
      have e' := BitVec.eq_of_toNat_eq (Int.ofNat_inj.1 e)
      exact zeros_apart hn hm h (xor_cancel_left e')
    have h2 : ((n : Int) == (m : Int)) = false := beq_eq_false_iff_ne.2 (by omega)
    rw [beq_eq_false_iff_ne.2 hne, h2]
    rfl

/-- What the region's operations yield. -/
def zerosV (n m : Nat) (i : Nat) (v : Value) (W : World) : Prop := match i with
  | 0 => v = .int .i64 (n : Int)
  | 1 => ∃ b, v = .slice (some ⟨b, 0, none⟩) n n ∧ ∀ j, j < n → W.cell? ⟨b, j, none⟩ = some (.int .u8 0)
  | 2 => v = .string (zeroS n)
  | 3 => v = .int .u32 (sumS (zeroS n))
  | 4 => v = .int .i64 (m : Int)
  | 5 => ∃ b, v = .slice (some ⟨b, 0, none⟩) m m ∧ ∀ j, j < m → W.cell? ⟨b, j, none⟩ = some (.int .u8 0)
  | 6 => v = .string (zeroS m)
  | 7 => v = .int .u32 (sumS (zeroS m))
  | 8 => v = .bool (sumS (zeroS n) == sumS (zeroS m))
  | 9 => v = .int .i64 (n : Int)
  | 10 => v = .int .i64 (m : Int)
  | 11 => v = .bool (((n : Int) == (m : Int)))
  | 12 => v = .bool ((sumS (zeroS n) == sumS (zeroS m)) == ((n : Int) == (m : Int)))
  | 13 => v = .bool ((sumS (zeroS n) == sumS (zeroS m)) == ((n : Int) == (m : Int)))
  | _ => True

set_option maxHeartbeats 1000000 in
theorem zeros_in (n m : Nat) (w : World) (hn : n ≤ 2000) (hm : m ≤ 2000) (g0 : decide ((n : Int) < 0) = false) (g1 : decide ((m : Int) < 0) = false) (g2 : decide ((n : Int) > 2000) = false) (g3 : decide ((m : Int) > 2000) = false) :
    Calls Try.prog 8 #[.int .i64 (n : Int), .int .i64 (m : Int)] w fun e w' => e = .returned (.bool true) ∧ Below w.heap.size w w' := by
  have hlaw := Lib.hid (zeros_law n m hn hm)
  go_enter Try.func8, Try.ntmps8
  go_wp2_with fail
  refine (alive_true _).mono ?_
  rintro e w1 ⟨rfl, hb1⟩
  go_wp2_with fail
  refine Reg.wp_region_lists (fun W W' => Below W.heap.size W W') (zerosV n m)
    [some 24, some 25, some 26, some 27, some 28, some 29, some 30, some 31, some 32, some 33, some 34, some 35, some 36, some 4]
    [[], [0, 0], [1], [2], [], [4, 4], [5], [6, 3], [3, 7], [], [], [9, 10], [8, 11], [12, 7, 0, 1, 2, 3, 4, 5, 6, 7, 8, 9, 10, 11, 12]]
    (by kernel_rfl) (by kernel_rfl) (by kernel_rfl) (fun _ => Below.refl _ _) (fun _ _ _ h k => bstep h k) ?_ ?_ ?_
  · intro i v W W' h k
    unfold zerosV at h ⊢
    split at h <;> first | exact h | (obtain ⟨b, e, hc⟩ := h; exact ⟨b, e, fun j hj => pw_cell_below k (hc j hj)⟩) | (obtain ⟨b, e, hc⟩ := h; exact ⟨b, e, fun j hj => pw_cell_below k (hc j hj)⟩)
  · refine ⟨?_, ?_, ?_, ?_, ?_, ?_, ?_, ?_, ?_, ?_, ?_, ?_, ?_, ?_, trivial⟩
    · intro vals W K hR hV hK
      simp only [Reg.putS, List.foldl, List.headD, List.tail, List.getD_cons_zero, List.getD_cons_succ, Act.put, List.setIfInBounds_toArray, List.set_cons_zero, List.set_cons_succ] at hK ⊢
      go_simp
      first
        | exact hK _ _ (Below.refl _ _) rfl
        | (rw [if_pos (by omega)]; exact hK _ _ (Below.refl _ _) rfl)
        | (rw [dif_pos (by omega)]; exact hK _ _ (Below.refl _ _) rfl)
        | (rw [if_neg (by omega)]; exact hK _ _ (Below.refl _ _) rfl)
    · intro vals W K hR hV hK
      have d0 := hV 0 (by simp)
      simp only [zerosV] at d0
      simp only [Reg.putS, List.foldl, List.headD, List.tail, List.getD_cons_zero, List.getD_cons_succ, Act.put, List.setIfInBounds_toArray, List.set_cons_zero, List.set_cons_succ, d0] at hK ⊢
      have hmk := make_n W n (by omega)
      go_simp
      exact hK _ _ (balloc (Below.refl _ _) _) ⟨_, rfl, made_cells W n⟩
    · intro vals W K hR hV hK
      have d1 := hV 1 (by simp)
      simp only [zerosV] at d1
      obtain ⟨b1, d1, hcell1⟩ := d1
      simp only [Reg.putS, List.foldl, List.headD, List.tail, List.getD_cons_zero, List.getD_cons_succ, Act.put, List.setIfInBounds_toArray, List.set_cons_zero, List.set_cons_succ, d1] at hK ⊢
      have hcv := conv_n W b1 n hcell1
      go_simp
      exact hK _ _ (Below.refl _ _) rfl
    · intro vals W K hR hV hK
      have d2 := hV 2 (by simp)
      simp only [zerosV] at d2
      simp only [Reg.putS, List.foldl, List.headD, List.tail, List.getD_cons_zero, List.getD_cons_succ, Act.put, List.setIfInBounds_toArray, List.set_cons_zero, List.set_cons_succ, d2] at hK ⊢
      go_simp
      refine (of_any _ _ (zeroS_size n (by omega))).mono ?_
      rintro e w2 ⟨rfl, hb⟩
      exact hK _ _ hb rfl
    · intro vals W K hR hV hK
      simp only [Reg.putS, List.foldl, List.headD, List.tail, List.getD_cons_zero, List.getD_cons_succ, Act.put, List.setIfInBounds_toArray, List.set_cons_zero, List.set_cons_succ] at hK ⊢
      go_simp
      first
        | exact hK _ _ (Below.refl _ _) rfl
        | (rw [if_pos (by omega)]; exact hK _ _ (Below.refl _ _) rfl)
        | (rw [dif_pos (by omega)]; exact hK _ _ (Below.refl _ _) rfl)
        | (rw [if_neg (by omega)]; exact hK _ _ (Below.refl _ _) rfl)
    · intro vals W K hR hV hK
      have d4 := hV 4 (by simp)
      simp only [zerosV] at d4
      simp only [Reg.putS, List.foldl, List.headD, List.tail, List.getD_cons_zero, List.getD_cons_succ, Act.put, List.setIfInBounds_toArray, List.set_cons_zero, List.set_cons_succ, d4] at hK ⊢
      have hmk := make_n W m (by omega)
      go_simp
      exact hK _ _ (balloc (Below.refl _ _) _) ⟨_, rfl, made_cells W m⟩
    · intro vals W K hR hV hK
      have d5 := hV 5 (by simp)
      simp only [zerosV] at d5
      obtain ⟨b5, d5, hcell5⟩ := d5
      simp only [Reg.putS, List.foldl, List.headD, List.tail, List.getD_cons_zero, List.getD_cons_succ, Act.put, List.setIfInBounds_toArray, List.set_cons_zero, List.set_cons_succ, d5] at hK ⊢
      have hcv := conv_n W b5 m hcell5
      go_simp
      exact hK _ _ (Below.refl _ _) rfl
    · intro vals W K hR hV hK
      have d3 := hV 3 (by simp)
      simp only [zerosV] at d3
      have d6 := hV 6 (by simp)
      simp only [zerosV] at d6
      simp only [Reg.putS, List.foldl, List.headD, List.tail, List.getD_cons_zero, List.getD_cons_succ, Act.put, List.setIfInBounds_toArray, List.set_cons_zero, List.set_cons_succ, d3, d6] at hK ⊢
      go_simp
      refine (of_any _ _ (zeroS_size m (by omega))).mono ?_
      rintro e w2 ⟨rfl, hb⟩
      exact hK _ _ hb rfl
    · intro vals W K hR hV hK
      have d3 := hV 3 (by simp)
      simp only [zerosV] at d3
      have d7 := hV 7 (by simp)
      simp only [zerosV] at d7
      simp only [Reg.putS, List.foldl, List.headD, List.tail, List.getD_cons_zero, List.getD_cons_succ, Act.put, List.setIfInBounds_toArray, List.set_cons_zero, List.set_cons_succ, d3, d7] at hK ⊢
      go_simp
      first
        | exact hK _ _ (Below.refl _ _) rfl
        | (rw [if_pos (by omega)]; exact hK _ _ (Below.refl _ _) rfl)
        | (rw [dif_pos (by omega)]; exact hK _ _ (Below.refl _ _) rfl)
        | (rw [if_neg (by omega)]; exact hK _ _ (Below.refl _ _) rfl)
    · intro vals W K hR hV hK
      simp only [Reg.putS, List.foldl, List.headD, List.tail, List.getD_cons_zero, List.getD_cons_succ, Act.put, List.setIfInBounds_toArray, List.set_cons_zero, List.set_cons_succ] at hK ⊢
      go_simp
      first
        | exact hK _ _ (Below.refl _ _) rfl
        | (rw [if_pos (by omega)]; exact hK _ _ (Below.refl _ _) rfl)
        | (rw [dif_pos (by omega)]; exact hK _ _ (Below.refl _ _) rfl)
        | (rw [if_neg (by omega)]; exact hK _ _ (Below.refl _ _) rfl)
    · intro vals W K hR hV hK
      simp only [Reg.putS, List.foldl, List.headD, List.tail, List.getD_cons_zero, List.getD_cons_succ, Act.put, List.setIfInBounds_toArray, List.set_cons_zero, List.set_cons_succ] at hK ⊢
      go_simp
      first
        | exact hK _ _ (Below.refl _ _) rfl
        | (rw [if_pos (by omega)]; exact hK _ _ (Below.refl _ _) rfl)
        | (rw [dif_pos (by omega)]; exact hK _ _ (Below.refl _ _) rfl)
        | (rw [if_neg (by omega)]; exact hK _ _ (Below.refl _ _) rfl)
    · intro vals W K hR hV hK
      have d9 := hV 9 (by simp)
      simp only [zerosV] at d9
      have d10 := hV 10 (by simp)
      simp only [zerosV] at d10
      simp only [Reg.putS, List.foldl, List.headD, List.tail, List.getD_cons_zero, List.getD_cons_succ, Act.put, List.setIfInBounds_toArray, List.set_cons_zero, List.set_cons_succ, d9, d10] at hK ⊢
      go_simp
      first
        | exact hK _ _ (Below.refl _ _) rfl
        | (rw [if_pos (by omega)]; exact hK _ _ (Below.refl _ _) rfl)
        | (rw [dif_pos (by omega)]; exact hK _ _ (Below.refl _ _) rfl)
        | (rw [if_neg (by omega)]; exact hK _ _ (Below.refl _ _) rfl)
    · intro vals W K hR hV hK
      have d8 := hV 8 (by simp)
      simp only [zerosV] at d8
      have d11 := hV 11 (by simp)
      simp only [zerosV] at d11
      simp only [Reg.putS, List.foldl, List.headD, List.tail, List.getD_cons_zero, List.getD_cons_succ, Act.put, List.setIfInBounds_toArray, List.set_cons_zero, List.set_cons_succ, d8, d11] at hK ⊢
      go_simp
      first
        | exact hK _ _ (Below.refl _ _) rfl
        | (rw [if_pos (by omega)]; exact hK _ _ (Below.refl _ _) rfl)
        | (rw [dif_pos (by omega)]; exact hK _ _ (Below.refl _ _) rfl)
        | (rw [if_neg (by omega)]; exact hK _ _ (Below.refl _ _) rfl)
    · intro vals W K hR hV hK
      have d0 := hV 0 (by simp)
      simp only [zerosV] at d0
      have d1 := hV 1 (by simp)
      simp only [zerosV] at d1
      obtain ⟨b1, d1, hcell1⟩ := d1
      have d2 := hV 2 (by simp)
      simp only [zerosV] at d2
      have d3 := hV 3 (by simp)
      simp only [zerosV] at d3
      have d4 := hV 4 (by simp)
      simp only [zerosV] at d4
      have d5 := hV 5 (by simp)
      simp only [zerosV] at d5
      obtain ⟨b5, d5, hcell5⟩ := d5
      have d6 := hV 6 (by simp)
      simp only [zerosV] at d6
      have d7 := hV 7 (by simp)
      simp only [zerosV] at d7
      have d8 := hV 8 (by simp)
      simp only [zerosV] at d8
      have d9 := hV 9 (by simp)
      simp only [zerosV] at d9
      have d10 := hV 10 (by simp)
      simp only [zerosV] at d10
      have d11 := hV 11 (by simp)
      simp only [zerosV] at d11
      have d12 := hV 12 (by simp)
      simp only [zerosV] at d12
      simp only [Reg.putS, List.foldl, List.headD, List.tail, List.getD_cons_zero, List.getD_cons_succ, Act.put, List.setIfInBounds_toArray, List.set_cons_zero, List.set_cons_succ, d0, d1, d2, d3, d4, d5, d6, d7, d8, d9, d10, d11, d12] at hK ⊢
      go_simp
      first
        | exact hK _ _ (Below.refl _ _) rfl
        | (rw [if_pos (by omega)]; exact hK _ _ (Below.refl _ _) rfl)
        | (rw [dif_pos (by omega)]; exact hK _ _ (Below.refl _ _) rfl)
        | (rw [if_neg (by omega)]; exact hK _ _ (Below.refl _ _) rfl)
  · intro vals W hR hV
    rw [show List.range (List.length [some 24, some 25, some 26, some 27, some 28, some 29, some 30, some 31, some 32, some 33, some 34, some 35, some 36, some 4]) = [0, 1, 2, 3, 4, 5, 6, 7, 8, 9, 10, 11, 12, 13] from rfl]
    have d0 := hV 0 (by decide)
    simp only [zerosV] at d0
    have d1 := hV 1 (by decide)
    simp only [zerosV] at d1
    obtain ⟨b1, d1, hcell1⟩ := d1
    have d2 := hV 2 (by decide)
    simp only [zerosV] at d2
    have d3 := hV 3 (by decide)
    simp only [zerosV] at d3
    have d4 := hV 4 (by decide)
    simp only [zerosV] at d4
    have d5 := hV 5 (by decide)
    simp only [zerosV] at d5
    obtain ⟨b5, d5, hcell5⟩ := d5
    have d6 := hV 6 (by decide)
    simp only [zerosV] at d6
    have d7 := hV 7 (by decide)
    simp only [zerosV] at d7
    have d8 := hV 8 (by decide)
    simp only [zerosV] at d8
    have d9 := hV 9 (by decide)
    simp only [zerosV] at d9
    have d10 := hV 10 (by decide)
    simp only [zerosV] at d10
    have d11 := hV 11 (by decide)
    simp only [zerosV] at d11
    have d12 := hV 12 (by decide)
    simp only [zerosV] at d12
    have d13 := hV 13 (by decide)
    simp only [zerosV] at d13
    clear hV
    simp only [Reg.putS, List.foldl, List.getD_cons_zero, List.getD_cons_succ, Act.put, List.setIfInBounds_toArray, List.set_cons_zero, List.set_cons_succ, d0, d1, d2, d3, d4, d5, d6, d7, d8, d9, d10, d11, d12, d13]
    clear d0 d1 d2 d3 d4 d5 d6 d7 d8 d9 d10 d11 d12 d13
    go_wp2
    go_ret
    exact ⟨ret_bool hlaw.out, bstep (below_drew hb1) hR⟩

set_option maxHeartbeats 400000 in
theorem zeros_out (a0 a1 : Int) (w : World) (hg : decide (a0 < 0) = true ∨ (decide (a0 < 0) = false ∧ decide (a1 < 0) = true) ∨ (decide (a0 < 0) = false ∧ decide (a1 < 0) = false ∧ decide (a0 > 2000) = true) ∨ (decide (a0 < 0) = false ∧ decide (a1 < 0) = false ∧ decide (a0 > 2000) = false ∧ decide (a1 > 2000) = true)) :
    Calls Try.prog 8 #[.int .i64 a0, .int .i64 a1] w fun e w' => e = .returned (.bool true) ∧ Below w.heap.size w w' := by
  rcases hg with hg | ⟨hg0, hg⟩ | ⟨hg0, hg1, hg⟩ | ⟨hg0, hg1, hg2, hg⟩
  all_goals
    go_enter Try.func8, Try.ntmps8
    go_wp2_with fail
    refine (alive_true _).mono ?_
    rintro e w1 ⟨rfl, hb1⟩
    go_wp2_with fail
    go_ret
    exact ⟨rfl, hb1⟩
theorem zeros_walk (a0 a1 : Int) (w : World) (h0 : (Lit.int .i64 a0).wf = true) (h1 : (Lit.int .i64 a1).wf = true) :
    Calls Try.prog 8 #[.int .i64 a0, .int .i64 a1] w fun e w' => e = .returned (.bool true) ∧ Below w.heap.size w w' := by
  by_cases c0 : a0 < 0
  · exact zeros_out a0 a1 w (.inl (by simpa using c0))
  by_cases c1 : a1 < 0
  · exact zeros_out a0 a1 w (.inr (.inl ⟨by simpa using c0, by simpa using c1⟩))
  by_cases c2 : a0 > 2000
  · exact zeros_out a0 a1 w (.inr (.inr (.inl ⟨by simpa using c0, by simpa using c1, by simpa using c2⟩)))
  by_cases c3 : a1 > 2000
  · exact zeros_out a0 a1 w (.inr (.inr (.inr ⟨by simpa using c0, by simpa using c1, by simpa using c2, by simpa using c3⟩)))
  obtain ⟨n, rfl⟩ := Int.eq_ofNat_of_zero_le (show 0 ≤ a0 by omega)
  obtain ⟨m, rfl⟩ := Int.eq_ofNat_of_zero_le (show 0 ≤ a1 by omega)
  exact zeros_in n m w (by omega) (by omega) (by simp) (by simp) (by simpa using c2) (by simpa using c3)

end Go.Proofs.Ythaoofnnhdkboaa.CrcN
