/- The walks of frame.PutHead and of the reference's Head: a head as bytes. -/
import Derived.Test.YthaoofnnhdkboaaFrW
set_option linter.unusedSimpArgs false
set_option linter.unusedVariables false
namespace Go.Proofs.Ythaoofnnhdkboaa.FrH
open Go.RowKit Go.Proofs.Ythaoofnnhdkboaa.CrcL Go.Proofs.Ythaoofnnhdkboaa.FrW

def magic : ByteArray := ⟨#[76, 88, 80, 72]⟩
theorem magic_lit : (⟨#[76, 88, 80, 72]⟩ : ByteArray) = magic := rfl
theorem magic_size : magic.size = 4 := rfl
/-- A head as bytes. -/
def headS (c b id : Int) : ByteArray := magic ++ bigS 1 1 ++ bigS c.toNat 1 ++ bigS b.toNat 3 ++ bigS id.toNat 8
/-- What the region's operations yield. -/
def putV (c b id : Int) (B : Nat) (i : Nat) (v : Value) (W : World) : Prop := match i with
  | 0 => v = .string (bigS 1 1)
  | 1 => v = .string (magic ++ bigS 1 1)
  | 2 => v = .pointer (some ⟨B, 0, none⟩)
  | 3 => v = .int .i64 c
  | 4 => v = .int .u64 c
  | 5 => v = .string (bigS c.toNat 1)
  | 6 => v = .string (magic ++ bigS 1 1 ++ bigS c.toNat 1)
  | 7 => v = .pointer (some ⟨B, 1, none⟩)
  | 8 => v = .int .i64 b
  | 9 => v = .int .u64 b
  | 10 => v = .string (bigS b.toNat 3)
  | 11 => v = .string (magic ++ bigS 1 1 ++ bigS c.toNat 1 ++ bigS b.toNat 3)
  | 12 => v = .pointer (some ⟨B, 2, none⟩)
  | 13 => v = .int .u64 id
  | 14 => v = .string (bigS id.toNat 8)
  | 15 => v = .string (headS c b id)
  | 16 => v = .string (headS c b id)
  | 17 => v = .bool true
  | _ => True

set_option maxHeartbeats 1000000 in
theorem put_yes (c b id : Int) (w : World) (hc : 0 ≤ c ∧ c ≤ 1) (hb : 1 ≤ b ∧ b ≤ 1024) (hid : 0 ≤ id ∧ id < 18446744073709551616) :
    Calls Try.prog 36 #[.agg #[.int .i64 c, .int .i64 b, .int .u64 id]] w fun e w' => e = .returned (.tuple #[.string (headS c b id), .bool true]) ∧ Below w.heap.size w w' := by
  have hbs := bigS_size
  have hms := magic_size
  have hm := magic_lit
  have hwc : IntKind.u64.wrap c = c := by rw [show c = ((c.toNat : Nat) : Int) by omega]; exact wrap64u _ (by omega)
  have hwb : IntKind.u64.wrap b = b := by rw [show b = ((b.toNat : Nat) : Int) by omega]; exact wrap64u _ (by omega)
  have hbok : (decide (1 ≤ b) && decide (b ≤ 1024)) = true := by simp; omega
  have hc0 : (w.alloc (.cells #[.int .i64 c, .int .i64 b, .int .u64 id] 49)).cell? ⟨w.heap.size, 0, none⟩ = some (.int .i64 c) := by simp
  have hc1 : (w.alloc (.cells #[.int .i64 c, .int .i64 b, .int .u64 id] 49)).cell? ⟨w.heap.size, 1, none⟩ = some (.int .i64 b) := by simp
  have hc2 : (w.alloc (.cells #[.int .i64 c, .int .i64 b, .int .u64 id] 49)).cell? ⟨w.heap.size, 2, none⟩ = some (.int .u64 id) := by simp
  obtain ⟨hA, hB⟩ : ((c != 0) = false ∨ ((c != 0) = true ∧ (c != 1) = false)) ∧ True := by
    refine ⟨?_, trivial⟩
    rcases (show c = 0 ∨ c = 1 by omega) with rfl | rfl
    · exact .inl (by decide)
    · exact .inr ⟨by decide, by decide⟩
  clear hB
  rcases hA with hA | ⟨hA, hB⟩
  all_goals
    go_enter Try.func36, Try.ntmps36
    go_wp2_with fail
    refine (size_any b _).mono ?_
    rintro e w1 ⟨rfl, rfl⟩
    rw [hbok]
    go_wp2_with fail
    refine Reg.wp_region_lists (fun W W' => Below W.heap.size W W') (putV c b id w.heap.size)
      [some 18, some 19, some 20, some 21, some 22, some 23, some 24, some 25, some 26, some 27, some 28, some 29, some 30, some 31, some 32, some 33, some 2, some 3]
      [[], [0], [], [2], [3], [4, 0], [1, 5], [], [7], [8], [9, 5], [6, 10], [], [12], [13, 10], [11, 14], [15, 14, 0, 1, 2, 3, 4, 5, 6, 7, 8, 9, 10, 11, 12, 13, 14, 15], [16, 0, 1, 2, 3, 4, 5, 6, 7, 8, 9, 10, 11, 12, 13, 14, 15, 16]]
      (by kernel_rfl) (by kernel_rfl) (by kernel_rfl) (fun _ => Below.refl _ _) (fun _ _ _ h k => bstep h k) ?_ ?_ ?_
    · intro i v W W' h k
      unfold putV at h ⊢
      split at h <;> first | exact h
    · refine ⟨?_, ?_, ?_, ?_, ?_, ?_, ?_, ?_, ?_, ?_, ?_, ?_, ?_, ?_, ?_, ?_, ?_, ?_, trivial⟩
      · intro vals W K hR hV hK
        simp only [Reg.putS, List.foldl, List.headD, List.tail, List.getD_cons_zero, List.getD_cons_succ, Act.put, List.setIfInBounds_toArray, List.set_cons_zero, List.set_cons_succ] at hK ⊢
        go_simp
        refine (big_call 1 1 _ (by omega) (by omega) (by omega)).mono ?_
        rintro e w2 ⟨rfl, hb⟩
        exact hK _ _ hb rfl
      · intro vals W K hR hV hK
        have d0 := hV 0 (by simp)
        simp only [putV] at d0
        simp only [Reg.putS, List.foldl, List.headD, List.tail, List.getD_cons_zero, List.getD_cons_succ, Act.put, List.setIfInBounds_toArray, List.set_cons_zero, List.set_cons_succ, d0] at hK ⊢
        go_simp
        first
          | exact hK _ _ (Below.refl _ _) rfl
          | (rw [if_pos (by omega)]; exact hK _ _ (Below.refl _ _) rfl)
          | (rw [dif_pos (by omega)]; exact hK _ _ (Below.refl _ _) rfl)
          | (rw [if_neg (by omega)]; exact hK _ _ (Below.refl _ _) rfl)
      · intro vals W K hR hV hK
        simp only [Reg.putS, List.foldl, List.headD, List.tail, List.getD_cons_zero, List.getD_cons_succ, Act.put, List.setIfInBounds_toArray, List.set_cons_zero, List.set_cons_succ] at hK ⊢
        go_simp
        first
          | exact hK _ _ (Below.refl _ _) rfl
          | (rw [if_pos (by omega)]; exact hK _ _ (Below.refl _ _) rfl)
          | (rw [dif_pos (by omega)]; exact hK _ _ (Below.refl _ _) rfl)
          | (rw [if_neg (by omega)]; exact hK _ _ (Below.refl _ _) rfl)
      · intro vals W K hR hV hK
        have d2 := hV 2 (by simp)
        simp only [putV] at d2
        simp only [Reg.putS, List.foldl, List.headD, List.tail, List.getD_cons_zero, List.getD_cons_succ, Act.put, List.setIfInBounds_toArray, List.set_cons_zero, List.set_cons_succ, d2] at hK ⊢
        have hcl := pw_cell_below hR hc0
        go_simp
        first
          | exact hK _ _ (Below.refl _ _) rfl
          | (rw [if_pos (by omega)]; exact hK _ _ (Below.refl _ _) rfl)
          | (rw [dif_pos (by omega)]; exact hK _ _ (Below.refl _ _) rfl)
          | (rw [if_neg (by omega)]; exact hK _ _ (Below.refl _ _) rfl)
      · intro vals W K hR hV hK
        have d3 := hV 3 (by simp)
        simp only [putV] at d3
        simp only [Reg.putS, List.foldl, List.headD, List.tail, List.getD_cons_zero, List.getD_cons_succ, Act.put, List.setIfInBounds_toArray, List.set_cons_zero, List.set_cons_succ, d3] at hK ⊢
        go_simp
        first
          | exact hK _ _ (Below.refl _ _) rfl
          | (rw [if_pos (by omega)]; exact hK _ _ (Below.refl _ _) rfl)
          | (rw [dif_pos (by omega)]; exact hK _ _ (Below.refl _ _) rfl)
          | (rw [if_neg (by omega)]; exact hK _ _ (Below.refl _ _) rfl)
      · intro vals W K hR hV hK
        have d0 := hV 0 (by simp)
        simp only [putV] at d0
        have d4 := hV 4 (by simp)
        simp only [putV] at d4
        simp only [Reg.putS, List.foldl, List.headD, List.tail, List.getD_cons_zero, List.getD_cons_succ, Act.put, List.setIfInBounds_toArray, List.set_cons_zero, List.set_cons_succ, d0, d4] at hK ⊢
        go_simp
        refine (big_call c 1 _ (by omega) (by omega) (by omega)).mono ?_
        rintro e w2 ⟨rfl, hb⟩
        exact hK _ _ hb rfl
      · intro vals W K hR hV hK
        have d1 := hV 1 (by simp)
        simp only [putV] at d1
        have d5 := hV 5 (by simp)
        simp only [putV] at d5
        simp only [Reg.putS, List.foldl, List.headD, List.tail, List.getD_cons_zero, List.getD_cons_succ, Act.put, List.setIfInBounds_toArray, List.set_cons_zero, List.set_cons_succ, d1, d5] at hK ⊢
        go_simp
        first
          | exact hK _ _ (Below.refl _ _) rfl
          | (rw [if_pos (by omega)]; exact hK _ _ (Below.refl _ _) rfl)
          | (rw [dif_pos (by omega)]; exact hK _ _ (Below.refl _ _) rfl)
          | (rw [if_neg (by omega)]; exact hK _ _ (Below.refl _ _) rfl)
      · intro vals W K hR hV hK
        simp only [Reg.putS, List.foldl, List.headD, List.tail, List.getD_cons_zero, List.getD_cons_succ, Act.put, List.setIfInBounds_toArray, List.set_cons_zero, List.set_cons_succ] at hK ⊢
        go_simp
        first
          | exact hK _ _ (Below.refl _ _) rfl
          | (rw [if_pos (by omega)]; exact hK _ _ (Below.refl _ _) rfl)
          | (rw [dif_pos (by omega)]; exact hK _ _ (Below.refl _ _) rfl)
          | (rw [if_neg (by omega)]; exact hK _ _ (Below.refl _ _) rfl)
      · intro vals W K hR hV hK
        have d7 := hV 7 (by simp)
        simp only [putV] at d7
        simp only [Reg.putS, List.foldl, List.headD, List.tail, List.getD_cons_zero, List.getD_cons_succ, Act.put, List.setIfInBounds_toArray, List.set_cons_zero, List.set_cons_succ, d7] at hK ⊢
        have hcl := pw_cell_below hR hc1
        go_simp
        first
          | exact hK _ _ (Below.refl _ _) rfl
          | (rw [if_pos (by omega)]; exact hK _ _ (Below.refl _ _) rfl)
          | (rw [dif_pos (by omega)]; exact hK _ _ (Below.refl _ _) rfl)
          | (rw [if_neg (by omega)]; exact hK _ _ (Below.refl _ _) rfl)
      · intro vals W K hR hV hK
        have d8 := hV 8 (by simp)
        simp only [putV] at d8
        simp only [Reg.putS, List.foldl, List.headD, List.tail, List.getD_cons_zero, List.getD_cons_succ, Act.put, List.setIfInBounds_toArray, List.set_cons_zero, List.set_cons_succ, d8] at hK ⊢
        go_simp
        first
          | exact hK _ _ (Below.refl _ _) rfl
          | (rw [if_pos (by omega)]; exact hK _ _ (Below.refl _ _) rfl)
          | (rw [dif_pos (by omega)]; exact hK _ _ (Below.refl _ _) rfl)
          | (rw [if_neg (by omega)]; exact hK _ _ (Below.refl _ _) rfl)
      · intro vals W K hR hV hK
        have d5 := hV 5 (by simp)
        simp only [putV] at d5
        have d9 := hV 9 (by simp)
        simp only [putV] at d9
        simp only [Reg.putS, List.foldl, List.headD, List.tail, List.getD_cons_zero, List.getD_cons_succ, Act.put, List.setIfInBounds_toArray, List.set_cons_zero, List.set_cons_succ, d5, d9] at hK ⊢
        go_simp
        refine (big_call b 3 _ (by omega) (by omega) (by omega)).mono ?_
        rintro e w2 ⟨rfl, hb⟩
        exact hK _ _ hb rfl
      · intro vals W K hR hV hK
        have d6 := hV 6 (by simp)
        simp only [putV] at d6
        have d10 := hV 10 (by simp)
        simp only [putV] at d10
        simp only [Reg.putS, List.foldl, List.headD, List.tail, List.getD_cons_zero, List.getD_cons_succ, Act.put, List.setIfInBounds_toArray, List.set_cons_zero, List.set_cons_succ, d6, d10] at hK ⊢
        go_simp
        first
          | exact hK _ _ (Below.refl _ _) rfl
          | (rw [if_pos (by omega)]; exact hK _ _ (Below.refl _ _) rfl)
          | (rw [dif_pos (by omega)]; exact hK _ _ (Below.refl _ _) rfl)
          | (rw [if_neg (by omega)]; exact hK _ _ (Below.refl _ _) rfl)
      · intro vals W K hR hV hK
        simp only [Reg.putS, List.foldl, List.headD, List.tail, List.getD_cons_zero, List.getD_cons_succ, Act.put, List.setIfInBounds_toArray, List.set_cons_zero, List.set_cons_succ] at hK ⊢
        go_simp
        first
          | exact hK _ _ (Below.refl _ _) rfl
          | (rw [if_pos (by omega)]; exact hK _ _ (Below.refl _ _) rfl)
          | (rw [dif_pos (by omega)]; exact hK _ _ (Below.refl _ _) rfl)
          | (rw [if_neg (by omega)]; exact hK _ _ (Below.refl _ _) rfl)
      · intro vals W K hR hV hK
        have d12 := hV 12 (by simp)
        simp only [putV] at d12
        simp only [Reg.putS, List.foldl, List.headD, List.tail, List.getD_cons_zero, List.getD_cons_succ, Act.put, List.setIfInBounds_toArray, List.set_cons_zero, List.set_cons_succ, d12] at hK ⊢
        have hcl := pw_cell_below hR hc2
        go_simp
        first
          | exact hK _ _ (Below.refl _ _) rfl
          | (rw [if_pos (by omega)]; exact hK _ _ (Below.refl _ _) rfl)
          | (rw [dif_pos (by omega)]; exact hK _ _ (Below.refl _ _) rfl)
          | (rw [if_neg (by omega)]; exact hK _ _ (Below.refl _ _) rfl)
      · intro vals W K hR hV hK
        have d10 := hV 10 (by simp)
        simp only [putV] at d10
        have d13 := hV 13 (by simp)
        simp only [putV] at d13
        simp only [Reg.putS, List.foldl, List.headD, List.tail, List.getD_cons_zero, List.getD_cons_succ, Act.put, List.setIfInBounds_toArray, List.set_cons_zero, List.set_cons_succ, d10, d13] at hK ⊢
        go_simp
        refine (big_call id 8 _ (by omega) (by omega) (by omega)).mono ?_
        rintro e w2 ⟨rfl, hb⟩
        exact hK _ _ hb rfl
      · intro vals W K hR hV hK
        have d11 := hV 11 (by simp)
        simp only [putV] at d11
        have d14 := hV 14 (by simp)
        simp only [putV] at d14
        simp only [Reg.putS, List.foldl, List.headD, List.tail, List.getD_cons_zero, List.getD_cons_succ, Act.put, List.setIfInBounds_toArray, List.set_cons_zero, List.set_cons_succ, d11, d14] at hK ⊢
        go_simp
        first
          | exact hK _ _ (Below.refl _ _) rfl
          | (rw [if_pos (by omega)]; exact hK _ _ (Below.refl _ _) rfl)
          | (rw [dif_pos (by omega)]; exact hK _ _ (Below.refl _ _) rfl)
          | (rw [if_neg (by omega)]; exact hK _ _ (Below.refl _ _) rfl)
      · intro vals W K hR hV hK
        have d0 := hV 0 (by simp)
        simp only [putV] at d0
        have d1 := hV 1 (by simp)
        simp only [putV] at d1
        have d2 := hV 2 (by simp)
        simp only [putV] at d2
        have d3 := hV 3 (by simp)
        simp only [putV] at d3
        have d4 := hV 4 (by simp)
        simp only [putV] at d4
        have d5 := hV 5 (by simp)
        simp only [putV] at d5
        have d6 := hV 6 (by simp)
        simp only [putV] at d6
        have d7 := hV 7 (by simp)
        simp only [putV] at d7
        have d8 := hV 8 (by simp)
        simp only [putV] at d8
        have d9 := hV 9 (by simp)
        simp only [putV] at d9
        have d10 := hV 10 (by simp)
        simp only [putV] at d10
        have d11 := hV 11 (by simp)
        simp only [putV] at d11
        have d12 := hV 12 (by simp)
        simp only [putV] at d12
        have d13 := hV 13 (by simp)
        simp only [putV] at d13
        have d14 := hV 14 (by simp)
        simp only [putV] at d14
        have d15 := hV 15 (by simp)
        simp only [putV] at d15
        simp only [Reg.putS, List.foldl, List.headD, List.tail, List.getD_cons_zero, List.getD_cons_succ, Act.put, List.setIfInBounds_toArray, List.set_cons_zero, List.set_cons_succ, d0, d1, d2, d3, d4, d5, d6, d7, d8, d9, d10, d11, d12, d13, d14, d15] at hK ⊢
        go_simp
        first
          | exact hK _ _ (Below.refl _ _) rfl
          | (rw [if_pos (by omega)]; exact hK _ _ (Below.refl _ _) rfl)
          | (rw [dif_pos (by omega)]; exact hK _ _ (Below.refl _ _) rfl)
          | (rw [if_neg (by omega)]; exact hK _ _ (Below.refl _ _) rfl)
      · intro vals W K hR hV hK
        have d0 := hV 0 (by simp)
        simp only [putV] at d0
        have d1 := hV 1 (by simp)
        simp only [putV] at d1
        have d2 := hV 2 (by simp)
        simp only [putV] at d2
        have d3 := hV 3 (by simp)
        simp only [putV] at d3
        have d4 := hV 4 (by simp)
        simp only [putV] at d4
        have d5 := hV 5 (by simp)
        simp only [putV] at d5
        have d6 := hV 6 (by simp)
        simp only [putV] at d6
        have d7 := hV 7 (by simp)
        simp only [putV] at d7
        have d8 := hV 8 (by simp)
        simp only [putV] at d8
        have d9 := hV 9 (by simp)
        simp only [putV] at d9
        have d10 := hV 10 (by simp)
        simp only [putV] at d10
        have d11 := hV 11 (by simp)
        simp only [putV] at d11
        have d12 := hV 12 (by simp)
        simp only [putV] at d12
        have d13 := hV 13 (by simp)
        simp only [putV] at d13
        have d14 := hV 14 (by simp)
        simp only [putV] at d14
        have d15 := hV 15 (by simp)
        simp only [putV] at d15
        have d16 := hV 16 (by simp)
        simp only [putV] at d16
        simp only [Reg.putS, List.foldl, List.headD, List.tail, List.getD_cons_zero, List.getD_cons_succ, Act.put, List.setIfInBounds_toArray, List.set_cons_zero, List.set_cons_succ, d0, d1, d2, d3, d4, d5, d6, d7, d8, d9, d10, d11, d12, d13, d14, d15, d16] at hK ⊢
        go_simp
        first
          | exact hK _ _ (Below.refl _ _) rfl
          | (rw [if_pos (by omega)]; exact hK _ _ (Below.refl _ _) rfl)
          | (rw [dif_pos (by omega)]; exact hK _ _ (Below.refl _ _) rfl)
          | (rw [if_neg (by omega)]; exact hK _ _ (Below.refl _ _) rfl)
    · intro vals W hR hV
      rw [show List.range (List.length [some 18, some 19, some 20, some 21, some 22, some 23, some 24, some 25, some 26, some 27, some 28, some 29, some 30, some 31, some 32, some 33, some 2, some 3]) = [0, 1, 2, 3, 4, 5, 6, 7, 8, 9, 10, 11, 12, 13, 14, 15, 16, 17] from rfl]
      have d0 := hV 0 (by decide)
      simp only [putV] at d0
      have d1 := hV 1 (by decide)
      simp only [putV] at d1
      have d2 := hV 2 (by decide)
      simp only [putV] at d2
      have d3 := hV 3 (by decide)
      simp only [putV] at d3
      have d4 := hV 4 (by decide)
      simp only [putV] at d4
      have d5 := hV 5 (by decide)
      simp only [putV] at d5
      have d6 := hV 6 (by decide)
      simp only [putV] at d6
      have d7 := hV 7 (by decide)
      simp only [putV] at d7
      have d8 := hV 8 (by decide)
      simp only [putV] at d8
      have d9 := hV 9 (by decide)
      simp only [putV] at d9
      have d10 := hV 10 (by decide)
      simp only [putV] at d10
      have d11 := hV 11 (by decide)
      simp only [putV] at d11
      have d12 := hV 12 (by decide)
      simp only [putV] at d12
      have d13 := hV 13 (by decide)
      simp only [putV] at d13
      have d14 := hV 14 (by decide)
      simp only [putV] at d14
      have d15 := hV 15 (by decide)
      simp only [putV] at d15
      have d16 := hV 16 (by decide)
      simp only [putV] at d16
      have d17 := hV 17 (by decide)
      simp only [putV] at d17
      clear hV
      simp only [Reg.putS, List.foldl, List.getD_cons_zero, List.getD_cons_succ, Act.put, List.setIfInBounds_toArray, List.set_cons_zero, List.set_cons_succ, d0, d1, d2, d3, d4, d5, d6, d7, d8, d9, d10, d11, d12, d13, d14, d15, d16, d17]
      clear d0 d1 d2 d3 d4 d5 d6 d7 d8 d9 d10 d11 d12 d13 d14 d15 d16 d17
      go_wp2
      go_ret2
      exact ⟨rfl, bstep (below_drew (balloc (Below.refl _ _) _)) hR⟩
/-- What the region's operations yield. -/
def headV (c b id : Int) (B : Nat) (i : Nat) (v : Value) (W : World) : Prop := match i with
  | 0 => v = .string (bigS 1 1)
  | 1 => v = .string (magic ++ bigS 1 1)
  | 2 => v = .pointer (some ⟨B, 0, none⟩)
  | 3 => v = .int .i64 c
  | 4 => v = .int .u64 c
  | 5 => v = .string (bigS c.toNat 1)
  | 6 => v = .string (magic ++ bigS 1 1 ++ bigS c.toNat 1)
  | 7 => v = .pointer (some ⟨B, 1, none⟩)
  | 8 => v = .int .i64 b
  | 9 => v = .int .u64 b
  | 10 => v = .string (bigS b.toNat 3)
  | 11 => v = .string (magic ++ bigS 1 1 ++ bigS c.toNat 1 ++ bigS b.toNat 3)
  | 12 => v = .pointer (some ⟨B, 2, none⟩)
  | 13 => v = .int .u64 id
  | 14 => v = .string (bigS id.toNat 8)
  | 15 => v = .string (headS c b id)
  | 16 => v = .string (headS c b id)
  | 17 => v = .bool true
  | _ => True

set_option maxHeartbeats 1000000 in
theorem head_yes (c b id : Int) (w : World) (hc : 0 ≤ c ∧ c ≤ 1) (hb : 1 ≤ b ∧ b ≤ 1024) (hid : 0 ≤ id ∧ id < 18446744073709551616) :
    Calls Try.prog 37 #[.agg #[.int .i64 c, .int .i64 b, .int .u64 id]] w fun e w' => e = .returned (.tuple #[.string (headS c b id), .bool true]) ∧ Below w.heap.size w w' := by
  have hbs := bigS_size
  have hms := magic_size
  have hm := magic_lit
  have hwc : IntKind.u64.wrap c = c := by rw [show c = ((c.toNat : Nat) : Int) by omega]; exact wrap64u _ (by omega)
  have hwb : IntKind.u64.wrap b = b := by rw [show b = ((b.toNat : Nat) : Int) by omega]; exact wrap64u _ (by omega)
  have hbok : (decide (1 ≤ b) && decide (b ≤ 1024)) = true := by simp; omega
  have hc0 : (w.alloc (.cells #[.int .i64 c, .int .i64 b, .int .u64 id] 49)).cell? ⟨w.heap.size, 0, none⟩ = some (.int .i64 c) := by simp
  have hc1 : (w.alloc (.cells #[.int .i64 c, .int .i64 b, .int .u64 id] 49)).cell? ⟨w.heap.size, 1, none⟩ = some (.int .i64 b) := by simp
  have hc2 : (w.alloc (.cells #[.int .i64 c, .int .i64 b, .int .u64 id] 49)).cell? ⟨w.heap.size, 2, none⟩ = some (.int .u64 id) := by simp
  obtain ⟨hA, hB⟩ : ((c != 0) = false ∨ ((c != 0) = true ∧ (c != 1) = false)) ∧ True := by
    refine ⟨?_, trivial⟩
    rcases (show c = 0 ∨ c = 1 by omega) with rfl | rfl
    · exact .inl (by decide)
    · exact .inr ⟨by decide, by decide⟩
  clear hB
  rcases hA with hA | ⟨hA, hB⟩
  all_goals
    go_enter Try.func37, Try.ntmps37
    go_wp2_with fail
    refine Reg.wp_region_lists (fun W W' => Below W.heap.size W W') (headV c b id w.heap.size)
      [some 22, some 23, some 24, some 25, some 26, some 27, some 28, some 29, some 30, some 31, some 32, some 33, some 34, some 35, some 36, some 37, some 2, some 3]
      [[], [0], [], [2], [3], [4, 0], [1, 5], [], [7], [8], [9, 5], [6, 10], [], [12], [13, 10], [11, 14], [15, 14, 0, 1, 2, 3, 4, 5, 6, 7, 8, 9, 10, 11, 12, 13, 14, 15], [16, 0, 1, 2, 3, 4, 5, 6, 7, 8, 9, 10, 11, 12, 13, 14, 15, 16]]
      (by kernel_rfl) (by kernel_rfl) (by kernel_rfl) (fun _ => Below.refl _ _) (fun _ _ _ h k => bstep h k) ?_ ?_ ?_
    · intro i v W W' h k
      unfold headV at h ⊢
      split at h <;> first | exact h
    · refine ⟨?_, ?_, ?_, ?_, ?_, ?_, ?_, ?_, ?_, ?_, ?_, ?_, ?_, ?_, ?_, ?_, ?_, ?_, trivial⟩
      · intro vals W K hR hV hK
        simp only [Reg.putS, List.foldl, List.headD, List.tail, List.getD_cons_zero, List.getD_cons_succ, Act.put, List.setIfInBounds_toArray, List.set_cons_zero, List.set_cons_succ] at hK ⊢
        go_simp
        refine (refBig_call 1 1 _ (by omega) (by omega) (by omega)).mono ?_
        rintro e w2 ⟨rfl, hb⟩
        exact hK _ _ hb rfl
      · intro vals W K hR hV hK
        have d0 := hV 0 (by simp)
        simp only [headV] at d0
        simp only [Reg.putS, List.foldl, List.headD, List.tail, List.getD_cons_zero, List.getD_cons_succ, Act.put, List.setIfInBounds_toArray, List.set_cons_zero, List.set_cons_succ, d0] at hK ⊢
        go_simp
        first
          | exact hK _ _ (Below.refl _ _) rfl
          | (rw [if_pos (by omega)]; exact hK _ _ (Below.refl _ _) rfl)
          | (rw [dif_pos (by omega)]; exact hK _ _ (Below.refl _ _) rfl)
          | (rw [if_neg (by omega)]; exact hK _ _ (Below.refl _ _) rfl)
      · intro vals W K hR hV hK
        simp only [Reg.putS, List.foldl, List.headD, List.tail, List.getD_cons_zero, List.getD_cons_succ, Act.put, List.setIfInBounds_toArray, List.set_cons_zero, List.set_cons_succ] at hK ⊢
        go_simp
        first
          | exact hK _ _ (Below.refl _ _) rfl
          | (rw [if_pos (by omega)]; exact hK _ _ (Below.refl _ _) rfl)
          | (rw [dif_pos (by omega)]; exact hK _ _ (Below.refl _ _) rfl)
          | (rw [if_neg (by omega)]; exact hK _ _ (Below.refl _ _) rfl)
      · intro vals W K hR hV hK
        have d2 := hV 2 (by simp)
        simp only [headV] at d2
        simp only [Reg.putS, List.foldl, List.headD, List.tail, List.getD_cons_zero, List.getD_cons_succ, Act.put, List.setIfInBounds_toArray, List.set_cons_zero, List.set_cons_succ, d2] at hK ⊢
        have hcl := pw_cell_below hR hc0
        go_simp
        first
          | exact hK _ _ (Below.refl _ _) rfl
          | (rw [if_pos (by omega)]; exact hK _ _ (Below.refl _ _) rfl)
          | (rw [dif_pos (by omega)]; exact hK _ _ (Below.refl _ _) rfl)
          | (rw [if_neg (by omega)]; exact hK _ _ (Below.refl _ _) rfl)
      · intro vals W K hR hV hK
        have d3 := hV 3 (by simp)
        simp only [headV] at d3
        simp only [Reg.putS, List.foldl, List.headD, List.tail, List.getD_cons_zero, List.getD_cons_succ, Act.put, List.setIfInBounds_toArray, List.set_cons_zero, List.set_cons_succ, d3] at hK ⊢
        go_simp
        first
          | exact hK _ _ (Below.refl _ _) rfl
          | (rw [if_pos (by omega)]; exact hK _ _ (Below.refl _ _) rfl)
          | (rw [dif_pos (by omega)]; exact hK _ _ (Below.refl _ _) rfl)
          | (rw [if_neg (by omega)]; exact hK _ _ (Below.refl _ _) rfl)
      · intro vals W K hR hV hK
        have d0 := hV 0 (by simp)
        simp only [headV] at d0
        have d4 := hV 4 (by simp)
        simp only [headV] at d4
        simp only [Reg.putS, List.foldl, List.headD, List.tail, List.getD_cons_zero, List.getD_cons_succ, Act.put, List.setIfInBounds_toArray, List.set_cons_zero, List.set_cons_succ, d0, d4] at hK ⊢
        go_simp
        refine (refBig_call c 1 _ (by omega) (by omega) (by omega)).mono ?_
        rintro e w2 ⟨rfl, hb⟩
        exact hK _ _ hb rfl
      · intro vals W K hR hV hK
        have d1 := hV 1 (by simp)
        simp only [headV] at d1
        have d5 := hV 5 (by simp)
        simp only [headV] at d5
        simp only [Reg.putS, List.foldl, List.headD, List.tail, List.getD_cons_zero, List.getD_cons_succ, Act.put, List.setIfInBounds_toArray, List.set_cons_zero, List.set_cons_succ, d1, d5] at hK ⊢
        go_simp
        first
          | exact hK _ _ (Below.refl _ _) rfl
          | (rw [if_pos (by omega)]; exact hK _ _ (Below.refl _ _) rfl)
          | (rw [dif_pos (by omega)]; exact hK _ _ (Below.refl _ _) rfl)
          | (rw [if_neg (by omega)]; exact hK _ _ (Below.refl _ _) rfl)
      · intro vals W K hR hV hK
        simp only [Reg.putS, List.foldl, List.headD, List.tail, List.getD_cons_zero, List.getD_cons_succ, Act.put, List.setIfInBounds_toArray, List.set_cons_zero, List.set_cons_succ] at hK ⊢
        go_simp
        first
          | exact hK _ _ (Below.refl _ _) rfl
          | (rw [if_pos (by omega)]; exact hK _ _ (Below.refl _ _) rfl)
          | (rw [dif_pos (by omega)]; exact hK _ _ (Below.refl _ _) rfl)
          | (rw [if_neg (by omega)]; exact hK _ _ (Below.refl _ _) rfl)
      · intro vals W K hR hV hK
        have d7 := hV 7 (by simp)
        simp only [headV] at d7
        simp only [Reg.putS, List.foldl, List.headD, List.tail, List.getD_cons_zero, List.getD_cons_succ, Act.put, List.setIfInBounds_toArray, List.set_cons_zero, List.set_cons_succ, d7] at hK ⊢
        have hcl := pw_cell_below hR hc1
        go_simp
        first
          | exact hK _ _ (Below.refl _ _) rfl
          | (rw [if_pos (by omega)]; exact hK _ _ (Below.refl _ _) rfl)
          | (rw [dif_pos (by omega)]; exact hK _ _ (Below.refl _ _) rfl)
          | (rw [if_neg (by omega)]; exact hK _ _ (Below.refl _ _) rfl)
      · intro vals W K hR hV hK
        have d8 := hV 8 (by simp)
        simp only [headV] at d8
        simp only [Reg.putS, List.foldl, List.headD, List.tail, List.getD_cons_zero, List.getD_cons_succ, Act.put, List.setIfInBounds_toArray, List.set_cons_zero, List.set_cons_succ, d8] at hK ⊢
        go_simp
        first
          | exact hK _ _ (Below.refl _ _) rfl
          | (rw [if_pos (by omega)]; exact hK _ _ (Below.refl _ _) rfl)
          | (rw [dif_pos (by omega)]; exact hK _ _ (Below.refl _ _) rfl)
          | (rw [if_neg (by omega)]; exact hK _ _ (Below.refl _ _) rfl)
      · intro vals W K hR hV hK
        have d5 := hV 5 (by simp)
        simp only [headV] at d5
        have d9 := hV 9 (by simp)
        simp only [headV] at d9
        simp only [Reg.putS, List.foldl, List.headD, List.tail, List.getD_cons_zero, List.getD_cons_succ, Act.put, List.setIfInBounds_toArray, List.set_cons_zero, List.set_cons_succ, d5, d9] at hK ⊢
        go_simp
        refine (refBig_call b 3 _ (by omega) (by omega) (by omega)).mono ?_
        rintro e w2 ⟨rfl, hb⟩
        exact hK _ _ hb rfl
      · intro vals W K hR hV hK
        have d6 := hV 6 (by simp)
        simp only [headV] at d6
        have d10 := hV 10 (by simp)
        simp only [headV] at d10
        simp only [Reg.putS, List.foldl, List.headD, List.tail, List.getD_cons_zero, List.getD_cons_succ, Act.put, List.setIfInBounds_toArray, List.set_cons_zero, List.set_cons_succ, d6, d10] at hK ⊢
        go_simp
        first
          | exact hK _ _ (Below.refl _ _) rfl
          | (rw [if_pos (by omega)]; exact hK _ _ (Below.refl _ _) rfl)
          | (rw [dif_pos (by omega)]; exact hK _ _ (Below.refl _ _) rfl)
          | (rw [if_neg (by omega)]; exact hK _ _ (Below.refl _ _) rfl)
      · intro vals W K hR hV hK
        simp only [Reg.putS, List.foldl, List.headD, List.tail, List.getD_cons_zero, List.getD_cons_succ, Act.put, List.setIfInBounds_toArray, List.set_cons_zero, List.set_cons_succ] at hK ⊢
        go_simp
        first
          | exact hK _ _ (Below.refl _ _) rfl
          | (rw [if_pos (by omega)]; exact hK _ _ (Below.refl _ _) rfl)
          | (rw [dif_pos (by omega)]; exact hK _ _ (Below.refl _ _) rfl)
          | (rw [if_neg (by omega)]; exact hK _ _ (Below.refl _ _) rfl)
      · intro vals W K hR hV hK
        have d12 := hV 12 (by simp)
        simp only [headV] at d12
        simp only [Reg.putS, List.foldl, List.headD, List.tail, List.getD_cons_zero, List.getD_cons_succ, Act.put, List.setIfInBounds_toArray, List.set_cons_zero, List.set_cons_succ, d12] at hK ⊢
        have hcl := pw_cell_below hR hc2
        go_simp
        first
          | exact hK _ _ (Below.refl _ _) rfl
          | (rw [if_pos (by omega)]; exact hK _ _ (Below.refl _ _) rfl)
          | (rw [dif_pos (by omega)]; exact hK _ _ (Below.refl _ _) rfl)
          | (rw [if_neg (by omega)]; exact hK _ _ (Below.refl _ _) rfl)
      · intro vals W K hR hV hK
        have d10 := hV 10 (by simp)
        simp only [headV] at d10
        have d13 := hV 13 (by simp)
        simp only [headV] at d13
        simp only [Reg.putS, List.foldl, List.headD, List.tail, List.getD_cons_zero, List.getD_cons_succ, Act.put, List.setIfInBounds_toArray, List.set_cons_zero, List.set_cons_succ, d10, d13] at hK ⊢
        go_simp
        refine (refBig_call id 8 _ (by omega) (by omega) (by omega)).mono ?_
        rintro e w2 ⟨rfl, hb⟩
        exact hK _ _ hb rfl
      · intro vals W K hR hV hK
        have d11 := hV 11 (by simp)
        simp only [headV] at d11
        have d14 := hV 14 (by simp)
        simp only [headV] at d14
        simp only [Reg.putS, List.foldl, List.headD, List.tail, List.getD_cons_zero, List.getD_cons_succ, Act.put, List.setIfInBounds_toArray, List.set_cons_zero, List.set_cons_succ, d11, d14] at hK ⊢
        go_simp
        first
          | exact hK _ _ (Below.refl _ _) rfl
          | (rw [if_pos (by omega)]; exact hK _ _ (Below.refl _ _) rfl)
          | (rw [dif_pos (by omega)]; exact hK _ _ (Below.refl _ _) rfl)
          | (rw [if_neg (by omega)]; exact hK _ _ (Below.refl _ _) rfl)
      · intro vals W K hR hV hK
        have d0 := hV 0 (by simp)
        simp only [headV] at d0
        have d1 := hV 1 (by simp)
        simp only [headV] at d1
        have d2 := hV 2 (by simp)
        simp only [headV] at d2
        have d3 := hV 3 (by simp)
        simp only [headV] at d3
        have d4 := hV 4 (by simp)
        simp only [headV] at d4
        have d5 := hV 5 (by simp)
        simp only [headV] at d5
        have d6 := hV 6 (by simp)
        simp only [headV] at d6
        have d7 := hV 7 (by simp)
        simp only [headV] at d7
        have d8 := hV 8 (by simp)
        simp only [headV] at d8
        have d9 := hV 9 (by simp)
        simp only [headV] at d9
        have d10 := hV 10 (by simp)
        simp only [headV] at d10
        have d11 := hV 11 (by simp)
        simp only [headV] at d11
        have d12 := hV 12 (by simp)
        simp only [headV] at d12
        have d13 := hV 13 (by simp)
        simp only [headV] at d13
        have d14 := hV 14 (by simp)
        simp only [headV] at d14
        have d15 := hV 15 (by simp)
        simp only [headV] at d15
        simp only [Reg.putS, List.foldl, List.headD, List.tail, List.getD_cons_zero, List.getD_cons_succ, Act.put, List.setIfInBounds_toArray, List.set_cons_zero, List.set_cons_succ, d0, d1, d2, d3, d4, d5, d6, d7, d8, d9, d10, d11, d12, d13, d14, d15] at hK ⊢
        go_simp
        first
          | exact hK _ _ (Below.refl _ _) rfl
          | (rw [if_pos (by omega)]; exact hK _ _ (Below.refl _ _) rfl)
          | (rw [dif_pos (by omega)]; exact hK _ _ (Below.refl _ _) rfl)
          | (rw [if_neg (by omega)]; exact hK _ _ (Below.refl _ _) rfl)
      · intro vals W K hR hV hK
        have d0 := hV 0 (by simp)
        simp only [headV] at d0
        have d1 := hV 1 (by simp)
        simp only [headV] at d1
        have d2 := hV 2 (by simp)
        simp only [headV] at d2
        have d3 := hV 3 (by simp)
        simp only [headV] at d3
        have d4 := hV 4 (by simp)
        simp only [headV] at d4
        have d5 := hV 5 (by simp)
        simp only [headV] at d5
        have d6 := hV 6 (by simp)
        simp only [headV] at d6
        have d7 := hV 7 (by simp)
        simp only [headV] at d7
        have d8 := hV 8 (by simp)
        simp only [headV] at d8
        have d9 := hV 9 (by simp)
        simp only [headV] at d9
        have d10 := hV 10 (by simp)
        simp only [headV] at d10
        have d11 := hV 11 (by simp)
        simp only [headV] at d11
        have d12 := hV 12 (by simp)
        simp only [headV] at d12
        have d13 := hV 13 (by simp)
        simp only [headV] at d13
        have d14 := hV 14 (by simp)
        simp only [headV] at d14
        have d15 := hV 15 (by simp)
        simp only [headV] at d15
        have d16 := hV 16 (by simp)
        simp only [headV] at d16
        simp only [Reg.putS, List.foldl, List.headD, List.tail, List.getD_cons_zero, List.getD_cons_succ, Act.put, List.setIfInBounds_toArray, List.set_cons_zero, List.set_cons_succ, d0, d1, d2, d3, d4, d5, d6, d7, d8, d9, d10, d11, d12, d13, d14, d15, d16] at hK ⊢
        go_simp
        first
          | exact hK _ _ (Below.refl _ _) rfl
          | (rw [if_pos (by omega)]; exact hK _ _ (Below.refl _ _) rfl)
          | (rw [dif_pos (by omega)]; exact hK _ _ (Below.refl _ _) rfl)
          | (rw [if_neg (by omega)]; exact hK _ _ (Below.refl _ _) rfl)
    · intro vals W hR hV
      rw [show List.range (List.length [some 22, some 23, some 24, some 25, some 26, some 27, some 28, some 29, some 30, some 31, some 32, some 33, some 34, some 35, some 36, some 37, some 2, some 3]) = [0, 1, 2, 3, 4, 5, 6, 7, 8, 9, 10, 11, 12, 13, 14, 15, 16, 17] from rfl]
      have d0 := hV 0 (by decide)
      simp only [headV] at d0
      have d1 := hV 1 (by decide)
      simp only [headV] at d1
      have d2 := hV 2 (by decide)
      simp only [headV] at d2
      have d3 := hV 3 (by decide)
      simp only [headV] at d3
      have d4 := hV 4 (by decide)
      simp only [headV] at d4
      have d5 := hV 5 (by decide)
      simp only [headV] at d5
      have d6 := hV 6 (by decide)
      simp only [headV] at d6
      have d7 := hV 7 (by decide)
      simp only [headV] at d7
      have d8 := hV 8 (by decide)
      simp only [headV] at d8
      have d9 := hV 9 (by decide)
      simp only [headV] at d9
      have d10 := hV 10 (by decide)
      simp only [headV] at d10
      have d11 := hV 11 (by decide)
      simp only [headV] at d11
      have d12 := hV 12 (by decide)
      simp only [headV] at d12
      have d13 := hV 13 (by decide)
      simp only [headV] at d13
      have d14 := hV 14 (by decide)
      simp only [headV] at d14
      have d15 := hV 15 (by decide)
      simp only [headV] at d15
      have d16 := hV 16 (by decide)
      simp only [headV] at d16
      have d17 := hV 17 (by decide)
      simp only [headV] at d17
      clear hV
      simp only [Reg.putS, List.foldl, List.getD_cons_zero, List.getD_cons_succ, Act.put, List.setIfInBounds_toArray, List.set_cons_zero, List.set_cons_succ, d0, d1, d2, d3, d4, d5, d6, d7, d8, d9, d10, d11, d12, d13, d14, d15, d16, d17]
      clear d0 d1 d2 d3 d4 d5 d6 d7 d8 d9 d10 d11 d12 d13 d14 d15 d16 d17
      go_wp2
      go_ret2
      exact ⟨rfl, bstep (below_drew (balloc (Below.refl _ _) _)) hR⟩

end Go.Proofs.Ythaoofnnhdkboaa.FrH
