/- The walks of frame.Put and of the reference's Frame at blocks that are none, and where they answer no. -/
import Derived.Test.YthaoofnnhdkboaaFrP
import Derived.WalkSpells
set_option linter.unusedSimpArgs false
set_option linter.unusedVariables false
namespace Go.Proofs.Ythaoofnnhdkboaa.FrQ
open Go.RowKit Go.Proofs.Ythaoofnnhdkboaa.CrcL Go.Proofs.Ythaoofnnhdkboaa.FrW Go.Proofs.Ythaoofnnhdkboaa.FrP

/-- A block's frame as bytes. -/
def frameS (k x s : Int) (t : ByteArray) : ByteArray := bigS k.toNat 1 ++ bigS x.toNat 2 ++ bigS t.size 2 ++ bigS s.toNat 4 ++ t
theorem empty_of {t : ByteArray} (h : (!t.toList.isEmpty) = false) : t = ⟨#[]⟩ := by
  rw [ByteArray.toList_eq] at h
  apply ByteArray.ext
  apply Array.toList_inj.1
  simpa using h
/-- What the region's operations yield. -/
def putFV (k x s : Int) (t : ByteArray) (B : Nat) (i : Nat) (v : Value) (W : World) : Prop := match i with
  | 0 => v = .pointer (some ⟨B, 0, none⟩)
  | 1 => v = .int .i64 k
  | 2 => v = .int .u64 k
  | 3 => v = .string (bigS k.toNat 1)
  | 4 => v = .pointer (some ⟨B, 1, none⟩)
  | 5 => v = .int .i64 x
  | 6 => v = .int .u64 x
  | 7 => v = .string (bigS x.toNat 2)
  | 8 => v = .string (bigS k.toNat 1 ++ bigS x.toNat 2)
  | 9 => v = .pointer (some ⟨B, 3, none⟩)
  | 10 => v = .string t
  | 11 => v = .int .i64 t.size
  | 12 => v = .int .u64 t.size
  | 13 => v = .string (bigS t.size 2)
  | 14 => v = .string (bigS k.toNat 1 ++ bigS x.toNat 2 ++ bigS t.size 2)
  | 15 => v = .pointer (some ⟨B, 2, none⟩)
  | 16 => v = .int .u32 s
  | 17 => v = .int .u64 s
  | 18 => v = .string (bigS s.toNat 4)
  | 19 => v = .string (bigS k.toNat 1 ++ bigS x.toNat 2 ++ bigS t.size 2 ++ bigS s.toNat 4)
  | 20 => v = .pointer (some ⟨B, 3, none⟩)
  | 21 => v = .string t
  | 22 => v = .string (frameS k x s t)
  | 23 => v = .string (frameS k x s t)
  | 24 => v = .bool true
  | _ => True

set_option maxHeartbeats 1000000 in
theorem put_yes (k x s : Int) (t : ByteArray) (w : World) (hk : k = 1 ∨ k = 2) (hx : 1 ≤ x ∧ x ≤ 1024) (hsu : 0 ≤ s ∧ s < 4294967296) (ht : t.size ≤ 1024) (hfit : fitsB k x t.size 1024 = true) :
    Calls Try.prog 40 #[.agg #[.int .i64 k, .int .i64 x, .int .u32 s, .string t]] w fun e w' => e = .returned (.tuple #[.string (frameS k x s t), .bool true]) ∧ Below w.heap.size w w' := by
  have hbs := bigS_size
  have hk0 : ¬ k = 0 := by omega
  have hkd : (k == 0) = false := by simp; omega
  have hwk : IntKind.u64.wrap k = k := by rw [show k = ((k.toNat : Nat) : Int) by omega]; exact wrap64u _ (by omega)
  have hwx : IntKind.u64.wrap x = x := by rw [show x = ((x.toNat : Nat) : Int) by omega]; exact wrap64u _ (by omega)
  have hws : IntKind.u64.wrap s = s := by rw [show s = ((s.toNat : Nat) : Int) by omega]; exact wrap64u _ (by omega)
  have hwt : IntKind.u64.wrap (t.size : Int) = (t.size : Int) := wrap64u _ (by omega)
  have hc0 : (w.alloc (.cells #[.int .i64 k, .int .i64 x, .int .u32 s, .string t] 58)).cell? ⟨w.heap.size, 0, none⟩ = some (.int .i64 k) := by simp
  have hc1 : (w.alloc (.cells #[.int .i64 k, .int .i64 x, .int .u32 s, .string t] 58)).cell? ⟨w.heap.size, 1, none⟩ = some (.int .i64 x) := by simp
  have hc2 : (w.alloc (.cells #[.int .i64 k, .int .i64 x, .int .u32 s, .string t] 58)).cell? ⟨w.heap.size, 2, none⟩ = some (.int .u32 s) := by simp
  have hc3 : (w.alloc (.cells #[.int .i64 k, .int .i64 x, .int .u32 s, .string t] 58)).cell? ⟨w.heap.size, 3, none⟩ = some (.string t) := by simp
  go_enter Try.func40, Try.ntmps40
  go_wp2_with fail
  refine (fits_any k x t.size _).mono ?_
  rintro e w1 ⟨rfl, rfl⟩
  rw [hfit]
  go_wp2_with fail
  refine Reg.wp_region_lists (fun W W' => Below W.heap.size W W') (putFV k x s t w.heap.size)
    [some 40, some 41, some 42, some 43, some 44, some 45, some 46, some 47, some 48, some 49, some 50, some 51, some 52, some 53, some 54, some 55, some 56, some 57, some 58, some 59, some 60, some 61, some 62, some 2, some 3]
    [[], [0], [1], [2], [], [4], [5], [6, 3], [3, 7], [], [9], [10], [11], [12, 7], [8, 13], [], [15], [16], [17, 13], [14, 18], [], [20], [19, 21], [22, 18, 0, 1, 2, 3, 4, 5, 6, 7, 8, 9, 10, 11, 12, 13, 14, 15, 16, 17, 18, 19, 20, 21, 22], [23, 0, 1, 2, 3, 4, 5, 6, 7, 8, 9, 10, 11, 12, 13, 14, 15, 16, 17, 18, 19, 20, 21, 22, 23]]
    (by kernel_rfl) (by kernel_rfl) (by kernel_rfl) (fun _ => Below.refl _ _) (fun _ _ _ h k => bstep h k) ?_ ?_ ?_
  · intro i v W W' h k
    unfold putFV at h ⊢
    split at h <;> first | exact h
  · refine ⟨?_, ?_, ?_, ?_, ?_, ?_, ?_, ?_, ?_, ?_, ?_, ?_, ?_, ?_, ?_, ?_, ?_, ?_, ?_, ?_, ?_, ?_, ?_, ?_, ?_, trivial⟩
    · intro vals W K hR hV hK
      simp only [Reg.putS, List.foldl, List.headD, List.tail, List.getD_cons_zero, List.getD_cons_succ, Act.put, List.setIfInBounds_toArray, List.set_cons_zero, List.set_cons_succ] at hK ⊢
      go_simp
      first
        | exact hK _ _ (Below.refl _ _) rfl
        | (rw [if_pos (by omega)]; exact hK _ _ (Below.refl _ _) rfl)
        | (rw [dif_pos (by omega)]; exact hK _ _ (Below.refl _ _) rfl)
        | (rw [if_neg (by omega)]; exact hK _ _ (Below.refl _ _) rfl)
    · intro vals W K hR hV hK
      have d0 := hV 0 (by simp)
      simp only [putFV] at d0
      simp only [Reg.putS, List.foldl, List.headD, List.tail, List.getD_cons_zero, List.getD_cons_succ, Act.put, List.setIfInBounds_toArray, List.set_cons_zero, List.set_cons_succ, d0] at hK ⊢
      have hcl := pw_cell_below hR hc0
      go_simp
      first
        | exact hK _ _ (Below.refl _ _) rfl
        | (rw [if_pos (by omega)]; exact hK _ _ (Below.refl _ _) rfl)
        | (rw [dif_pos (by omega)]; exact hK _ _ (Below.refl _ _) rfl)
        | (rw [if_neg (by omega)]; exact hK _ _ (Below.refl _ _) rfl)
    · intro vals W K hR hV hK
      have d1 := hV 1 (by simp)
      simp only [putFV] at d1
      simp only [Reg.putS, List.foldl, List.headD, List.tail, List.getD_cons_zero, List.getD_cons_succ, Act.put, List.setIfInBounds_toArray, List.set_cons_zero, List.set_cons_succ, d1] at hK ⊢
      go_simp
      first
        | exact hK _ _ (Below.refl _ _) rfl
        | (rw [if_pos (by omega)]; exact hK _ _ (Below.refl _ _) rfl)
        | (rw [dif_pos (by omega)]; exact hK _ _ (Below.refl _ _) rfl)
        | (rw [if_neg (by omega)]; exact hK _ _ (Below.refl _ _) rfl)
    · intro vals W K hR hV hK
      have d2 := hV 2 (by simp)
      simp only [putFV] at d2
      simp only [Reg.putS, List.foldl, List.headD, List.tail, List.getD_cons_zero, List.getD_cons_succ, Act.put, List.setIfInBounds_toArray, List.set_cons_zero, List.set_cons_succ, d2] at hK ⊢
      go_simp
      refine (big_call k 1 _ (by omega) (by omega) (by omega)).mono ?_
      rintro e w2 ⟨rfl, hb⟩
      exact hK _ _ hb rfl
    · intro vals W K hR hV hK
      simp only [Reg.putS, List.foldl, List.headD, List.tail, List.getD_cons_zero, List.getD_cons_succ, Act.put, List.setIfInBounds_toArray, List.set_cons_zero, List.set_cons_succ] at hK ⊢
      go_simp
      first
        | exact hK _ _ (Below.refl _ _) rfl
        | (rw [if_pos (by omega)]; exact hK _ _ (Below.refl _ _) rfl)
        | (rw [dif_pos (by omega)]; exact hK _ _ (Below.refl _ _) rfl)
        | (rw [if_neg (by omega)]; exact hK _ _ (Below.refl _ _) rfl)
    · intro vals W K hR hV hK
      have d4 := hV 4 (by simp)
      simp only [putFV] at d4
      simp only [Reg.putS, List.foldl, List.headD, List.tail, List.getD_cons_zero, List.getD_cons_succ, Act.put, List.setIfInBounds_toArray, List.set_cons_zero, List.set_cons_succ, d4] at hK ⊢
      have hcl := pw_cell_below hR hc1
      go_simp
      first
        | exact hK _ _ (Below.refl _ _) rfl
        | (rw [if_pos (by omega)]; exact hK _ _ (Below.refl _ _) rfl)
        | (rw [dif_pos (by omega)]; exact hK _ _ (Below.refl _ _) rfl)
        | (rw [if_neg (by omega)]; exact hK _ _ (Below.refl _ _) rfl)
    · intro vals W K hR hV hK
      have d5 := hV 5 (by simp)
      simp only [putFV] at d5
      simp only [Reg.putS, List.foldl, List.headD, List.tail, List.getD_cons_zero, List.getD_cons_succ, Act.put, List.setIfInBounds_toArray, List.set_cons_zero, List.set_cons_succ, d5] at hK ⊢
      go_simp
      first
        | exact hK _ _ (Below.refl _ _) rfl
        | (rw [if_pos (by omega)]; exact hK _ _ (Below.refl _ _) rfl)
        | (rw [dif_pos (by omega)]; exact hK _ _ (Below.refl _ _) rfl)
        | (rw [if_neg (by omega)]; exact hK _ _ (Below.refl _ _) rfl)
    · intro vals W K hR hV hK
      have d3 := hV 3 (by simp)
      simp only [putFV] at d3
      have d6 := hV 6 (by simp)
      simp only [putFV] at d6
      simp only [Reg.putS, List.foldl, List.headD, List.tail, List.getD_cons_zero, List.getD_cons_succ, Act.put, List.setIfInBounds_toArray, List.set_cons_zero, List.set_cons_succ, d3, d6] at hK ⊢
      go_simp
      refine (big_call x 2 _ (by omega) (by omega) (by omega)).mono ?_
      rintro e w2 ⟨rfl, hb⟩
      exact hK _ _ hb rfl
    · intro vals W K hR hV hK
      have d3 := hV 3 (by simp)
      simp only [putFV] at d3
      have d7 := hV 7 (by simp)
      simp only [putFV] at d7
      simp only [Reg.putS, List.foldl, List.headD, List.tail, List.getD_cons_zero, List.getD_cons_succ, Act.put, List.setIfInBounds_toArray, List.set_cons_zero, List.set_cons_succ, d3, d7] at hK ⊢
      go_simp
      first
        | exact hK _ _ (Below.refl _ _) rfl
        | (rw [if_pos (by omega)]; exact hK _ _ (Below.refl _ _) rfl)
        | (rw [dif_pos (by omega)]; exact hK _ _ (Below.refl _ _) rfl)
        | (rw [if_neg (by omega)]; exact hK _ _ (Below.refl _ _) rfl)
    · intro vals W K hR hV hK
      simp only [Reg.putS, List.foldl, List.headD, List.tail, List.getD_cons_zero, List.getD_cons_succ, Act.put, List.setIfInBounds_toArray, List.set_cons_zero, List.set_cons_succ] at hK ⊢
      go_simp
      first
        | exact hK _ _ (Below.refl _ _) rfl
        | (rw [if_pos (by omega)]; exact hK _ _ (Below.refl _ _) rfl)
        | (rw [dif_pos (by omega)]; exact hK _ _ (Below.refl _ _) rfl)
        | (rw [if_neg (by omega)]; exact hK _ _ (Below.refl _ _) rfl)
    · intro vals W K hR hV hK
      have d9 := hV 9 (by simp)
      simp only [putFV] at d9
      simp only [Reg.putS, List.foldl, List.headD, List.tail, List.getD_cons_zero, List.getD_cons_succ, Act.put, List.setIfInBounds_toArray, List.set_cons_zero, List.set_cons_succ, d9] at hK ⊢
      have hcl := pw_cell_below hR hc3
      go_simp
      first
        | exact hK _ _ (Below.refl _ _) rfl
        | (rw [if_pos (by omega)]; exact hK _ _ (Below.refl _ _) rfl)
        | (rw [dif_pos (by omega)]; exact hK _ _ (Below.refl _ _) rfl)
        | (rw [if_neg (by omega)]; exact hK _ _ (Below.refl _ _) rfl)
    · intro vals W K hR hV hK
      have d10 := hV 10 (by simp)
      simp only [putFV] at d10
      simp only [Reg.putS, List.foldl, List.headD, List.tail, List.getD_cons_zero, List.getD_cons_succ, Act.put, List.setIfInBounds_toArray, List.set_cons_zero, List.set_cons_succ, d10] at hK ⊢
      go_simp
      first
        | exact hK _ _ (Below.refl _ _) rfl
        | (rw [if_pos (by omega)]; exact hK _ _ (Below.refl _ _) rfl)
        | (rw [dif_pos (by omega)]; exact hK _ _ (Below.refl _ _) rfl)
        | (rw [if_neg (by omega)]; exact hK _ _ (Below.refl _ _) rfl)
    · intro vals W K hR hV hK
      have d11 := hV 11 (by simp)
      simp only [putFV] at d11
      simp only [Reg.putS, List.foldl, List.headD, List.tail, List.getD_cons_zero, List.getD_cons_succ, Act.put, List.setIfInBounds_toArray, List.set_cons_zero, List.set_cons_succ, d11] at hK ⊢
      go_simp
      first
        | exact hK _ _ (Below.refl _ _) rfl
        | (rw [if_pos (by omega)]; exact hK _ _ (Below.refl _ _) rfl)
        | (rw [dif_pos (by omega)]; exact hK _ _ (Below.refl _ _) rfl)
        | (rw [if_neg (by omega)]; exact hK _ _ (Below.refl _ _) rfl)
    · intro vals W K hR hV hK
      have d7 := hV 7 (by simp)
      simp only [putFV] at d7
      have d12 := hV 12 (by simp)
      simp only [putFV] at d12
      simp only [Reg.putS, List.foldl, List.headD, List.tail, List.getD_cons_zero, List.getD_cons_succ, Act.put, List.setIfInBounds_toArray, List.set_cons_zero, List.set_cons_succ, d7, d12] at hK ⊢
      go_simp
      refine (big_call t.size 2 _ (by omega) (by omega) (by omega)).mono ?_
      rintro e w2 ⟨rfl, hb⟩
      exact hK _ _ hb rfl
    · intro vals W K hR hV hK
      have d8 := hV 8 (by simp)
      simp only [putFV] at d8
      have d13 := hV 13 (by simp)
      simp only [putFV] at d13
      simp only [Reg.putS, List.foldl, List.headD, List.tail, List.getD_cons_zero, List.getD_cons_succ, Act.put, List.setIfInBounds_toArray, List.set_cons_zero, List.set_cons_succ, d8, d13] at hK ⊢
      go_simp
      first
        | exact hK _ _ (Below.refl _ _) rfl
        | (rw [if_pos (by omega)]; exact hK _ _ (Below.refl _ _) rfl)
        | (rw [dif_pos (by omega)]; exact hK _ _ (Below.refl _ _) rfl)
        | (rw [if_neg (by omega)]; exact hK _ _ (Below.refl _ _) rfl)
    · intro vals W K hR hV hK
      simp only [Reg.putS, List.foldl, List.headD, List.tail, List.getD_cons_zero, List.getD_cons_succ, Act.put, List.setIfInBounds_toArray, List.set_cons_zero, List.set_cons_succ] at hK ⊢
      go_simp
      first
        | exact hK _ _ (Below.refl _ _) rfl
        | (rw [if_pos (by omega)]; exact hK _ _ (Below.refl _ _) rfl)
        | (rw [dif_pos (by omega)]; exact hK _ _ (Below.refl _ _) rfl)
        | (rw [if_neg (by omega)]; exact hK _ _ (Below.refl _ _) rfl)
    · intro vals W K hR hV hK
      have d15 := hV 15 (by simp)
      simp only [putFV] at d15
      simp only [Reg.putS, List.foldl, List.headD, List.tail, List.getD_cons_zero, List.getD_cons_succ, Act.put, List.setIfInBounds_toArray, List.set_cons_zero, List.set_cons_succ, d15] at hK ⊢
      have hcl := pw_cell_below hR hc2
      go_simp
      first
        | exact hK _ _ (Below.refl _ _) rfl
        | (rw [if_pos (by omega)]; exact hK _ _ (Below.refl _ _) rfl)
        | (rw [dif_pos (by omega)]; exact hK _ _ (Below.refl _ _) rfl)
        | (rw [if_neg (by omega)]; exact hK _ _ (Below.refl _ _) rfl)
    · intro vals W K hR hV hK
      have d16 := hV 16 (by simp)
      simp only [putFV] at d16
      simp only [Reg.putS, List.foldl, List.headD, List.tail, List.getD_cons_zero, List.getD_cons_succ, Act.put, List.setIfInBounds_toArray, List.set_cons_zero, List.set_cons_succ, d16] at hK ⊢
      go_simp
      first
        | exact hK _ _ (Below.refl _ _) rfl
        | (rw [if_pos (by omega)]; exact hK _ _ (Below.refl _ _) rfl)
        | (rw [dif_pos (by omega)]; exact hK _ _ (Below.refl _ _) rfl)
        | (rw [if_neg (by omega)]; exact hK _ _ (Below.refl _ _) rfl)
    · intro vals W K hR hV hK
      have d13 := hV 13 (by simp)
      simp only [putFV] at d13
      have d17 := hV 17 (by simp)
      simp only [putFV] at d17
      simp only [Reg.putS, List.foldl, List.headD, List.tail, List.getD_cons_zero, List.getD_cons_succ, Act.put, List.setIfInBounds_toArray, List.set_cons_zero, List.set_cons_succ, d13, d17] at hK ⊢
      go_simp
      refine (big_call s 4 _ (by omega) (by omega) (by omega)).mono ?_
      rintro e w2 ⟨rfl, hb⟩
      exact hK _ _ hb rfl
    · intro vals W K hR hV hK
      have d14 := hV 14 (by simp)
      simp only [putFV] at d14
      have d18 := hV 18 (by simp)
      simp only [putFV] at d18
      simp only [Reg.putS, List.foldl, List.headD, List.tail, List.getD_cons_zero, List.getD_cons_succ, Act.put, List.setIfInBounds_toArray, List.set_cons_zero, List.set_cons_succ, d14, d18] at hK ⊢
      go_simp
      first
        | exact hK _ _ (Below.refl _ _) rfl
        | (rw [if_pos (by omega)]; exact hK _ _ (Below.refl _ _) rfl)
        | (rw [dif_pos (by omega)]; exact hK _ _ (Below.refl _ _) rfl)
        | (rw [if_neg (by omega)]; exact hK _ _ (Below.refl _ _) rfl)
    · intro vals W K hR hV hK
      simp only [Reg.putS, List.foldl, List.headD, List.tail, List.getD_cons_zero, List.getD_cons_succ, Act.put, List.setIfInBounds_toArray, List.set_cons_zero, List.set_cons_succ] at hK ⊢
      go_simp
      first
        | exact hK _ _ (Below.refl _ _) rfl
        | (rw [if_pos (by omega)]; exact hK _ _ (Below.refl _ _) rfl)
        | (rw [dif_pos (by omega)]; exact hK _ _ (Below.refl _ _) rfl)
        | (rw [if_neg (by omega)]; exact hK _ _ (Below.refl _ _) rfl)
    · intro vals W K hR hV hK
      have d20 := hV 20 (by simp)
      simp only [putFV] at d20
      simp only [Reg.putS, List.foldl, List.headD, List.tail, List.getD_cons_zero, List.getD_cons_succ, Act.put, List.setIfInBounds_toArray, List.set_cons_zero, List.set_cons_succ, d20] at hK ⊢
      have hcl := pw_cell_below hR hc3
      go_simp
      first
        | exact hK _ _ (Below.refl _ _) rfl
        | (rw [if_pos (by omega)]; exact hK _ _ (Below.refl _ _) rfl)
        | (rw [dif_pos (by omega)]; exact hK _ _ (Below.refl _ _) rfl)
        | (rw [if_neg (by omega)]; exact hK _ _ (Below.refl _ _) rfl)
    · intro vals W K hR hV hK
      have d19 := hV 19 (by simp)
      simp only [putFV] at d19
      have d21 := hV 21 (by simp)
      simp only [putFV] at d21
      simp only [Reg.putS, List.foldl, List.headD, List.tail, List.getD_cons_zero, List.getD_cons_succ, Act.put, List.setIfInBounds_toArray, List.set_cons_zero, List.set_cons_succ, d19, d21] at hK ⊢
      go_simp
      first
        | exact hK _ _ (Below.refl _ _) rfl
        | (rw [if_pos (by omega)]; exact hK _ _ (Below.refl _ _) rfl)
        | (rw [dif_pos (by omega)]; exact hK _ _ (Below.refl _ _) rfl)
        | (rw [if_neg (by omega)]; exact hK _ _ (Below.refl _ _) rfl)
    · intro vals W K hR hV hK
      have d0 := hV 0 (by simp)
      simp only [putFV] at d0
      have d1 := hV 1 (by simp)
      simp only [putFV] at d1
      have d2 := hV 2 (by simp)
      simp only [putFV] at d2
      have d3 := hV 3 (by simp)
      simp only [putFV] at d3
      have d4 := hV 4 (by simp)
      simp only [putFV] at d4
      have d5 := hV 5 (by simp)
      simp only [putFV] at d5
      have d6 := hV 6 (by simp)
      simp only [putFV] at d6
      have d7 := hV 7 (by simp)
      simp only [putFV] at d7
      have d8 := hV 8 (by simp)
      simp only [putFV] at d8
      have d9 := hV 9 (by simp)
      simp only [putFV] at d9
      have d10 := hV 10 (by simp)
      simp only [putFV] at d10
      have d11 := hV 11 (by simp)
      simp only [putFV] at d11
      have d12 := hV 12 (by simp)
      simp only [putFV] at d12
      have d13 := hV 13 (by simp)
      simp only [putFV] at d13
      have d14 := hV 14 (by simp)
      simp only [putFV] at d14
      have d15 := hV 15 (by simp)
      simp only [putFV] at d15
      have d16 := hV 16 (by simp)
      simp only [putFV] at d16
      have d17 := hV 17 (by simp)
      simp only [putFV] at d17
      have d18 := hV 18 (by simp)
      simp only [putFV] at d18
      have d19 := hV 19 (by simp)
      simp only [putFV] at d19
      have d20 := hV 20 (by simp)
      simp only [putFV] at d20
      have d21 := hV 21 (by simp)
      simp only [putFV] at d21
      have d22 := hV 22 (by simp)
      simp only [putFV] at d22
      simp only [Reg.putS, List.foldl, List.headD, List.tail, List.getD_cons_zero, List.getD_cons_succ, Act.put, List.setIfInBounds_toArray, List.set_cons_zero, List.set_cons_succ, d0, d1, d2, d3, d4, d5, d6, d7, d8, d9, d10, d11, d12, d13, d14, d15, d16, d17, d18, d19, d20, d21, d22] at hK ⊢
      go_simp
      first
        | exact hK _ _ (Below.refl _ _) rfl
        | (rw [if_pos (by omega)]; exact hK _ _ (Below.refl _ _) rfl)
        | (rw [dif_pos (by omega)]; exact hK _ _ (Below.refl _ _) rfl)
        | (rw [if_neg (by omega)]; exact hK _ _ (Below.refl _ _) rfl)
    · intro vals W K hR hV hK
      have d0 := hV 0 (by simp)
      simp only [putFV] at d0
      have d1 := hV 1 (by simp)
      simp only [putFV] at d1
      have d2 := hV 2 (by simp)
      simp only [putFV] at d2
      have d3 := hV 3 (by simp)
      simp only [putFV] at d3
      have d4 := hV 4 (by simp)
      simp only [putFV] at d4
      have d5 := hV 5 (by simp)
      simp only [putFV] at d5
      have d6 := hV 6 (by simp)
      simp only [putFV] at d6
      have d7 := hV 7 (by simp)
      simp only [putFV] at d7
      have d8 := hV 8 (by simp)
      simp only [putFV] at d8
      have d9 := hV 9 (by simp)
      simp only [putFV] at d9
      have d10 := hV 10 (by simp)
      simp only [putFV] at d10
      have d11 := hV 11 (by simp)
      simp only [putFV] at d11
      have d12 := hV 12 (by simp)
      simp only [putFV] at d12
      have d13 := hV 13 (by simp)
      simp only [putFV] at d13
      have d14 := hV 14 (by simp)
      simp only [putFV] at d14
      have d15 := hV 15 (by simp)
      simp only [putFV] at d15
      have d16 := hV 16 (by simp)
      simp only [putFV] at d16
      have d17 := hV 17 (by simp)
      simp only [putFV] at d17
      have d18 := hV 18 (by simp)
      simp only [putFV] at d18
      have d19 := hV 19 (by simp)
      simp only [putFV] at d19
      have d20 := hV 20 (by simp)
      simp only [putFV] at d20
      have d21 := hV 21 (by simp)
      simp only [putFV] at d21
      have d22 := hV 22 (by simp)
      simp only [putFV] at d22
      have d23 := hV 23 (by simp)
      simp only [putFV] at d23
      simp only [Reg.putS, List.foldl, List.headD, List.tail, List.getD_cons_zero, List.getD_cons_succ, Act.put, List.setIfInBounds_toArray, List.set_cons_zero, List.set_cons_succ, d0, d1, d2, d3, d4, d5, d6, d7, d8, d9, d10, d11, d12, d13, d14, d15, d16, d17, d18, d19, d20, d21, d22, d23] at hK ⊢
      go_simp
      first
        | exact hK _ _ (Below.refl _ _) rfl
        | (rw [if_pos (by omega)]; exact hK _ _ (Below.refl _ _) rfl)
        | (rw [dif_pos (by omega)]; exact hK _ _ (Below.refl _ _) rfl)
        | (rw [if_neg (by omega)]; exact hK _ _ (Below.refl _ _) rfl)
  · intro vals W hR hV
    rw [show List.range (List.length [some 40, some 41, some 42, some 43, some 44, some 45, some 46, some 47, some 48, some 49, some 50, some 51, some 52, some 53, some 54, some 55, some 56, some 57, some 58, some 59, some 60, some 61, some 62, some 2, some 3]) = [0, 1, 2, 3, 4, 5, 6, 7, 8, 9, 10, 11, 12, 13, 14, 15, 16, 17, 18, 19, 20, 21, 22, 23, 24] from rfl]
    have d0 := hV 0 (by decide)
    simp only [putFV] at d0
    have d1 := hV 1 (by decide)
    simp only [putFV] at d1
    have d2 := hV 2 (by decide)
    simp only [putFV] at d2
    have d3 := hV 3 (by decide)
    simp only [putFV] at d3
    have d4 := hV 4 (by decide)
    simp only [putFV] at d4
    have d5 := hV 5 (by decide)
    simp only [putFV] at d5
    have d6 := hV 6 (by decide)
    simp only [putFV] at d6
    have d7 := hV 7 (by decide)
    simp only [putFV] at d7
    have d8 := hV 8 (by decide)
    simp only [putFV] at d8
    have d9 := hV 9 (by decide)
    simp only [putFV] at d9
    have d10 := hV 10 (by decide)
    simp only [putFV] at d10
    have d11 := hV 11 (by decide)
    simp only [putFV] at d11
    have d12 := hV 12 (by decide)
    simp only [putFV] at d12
    have d13 := hV 13 (by decide)
    simp only [putFV] at d13
    have d14 := hV 14 (by decide)
    simp only [putFV] at d14
    have d15 := hV 15 (by decide)
    simp only [putFV] at d15
    have d16 := hV 16 (by decide)
    simp only [putFV] at d16
    have d17 := hV 17 (by decide)
    simp only [putFV] at d17
    have d18 := hV 18 (by decide)
    simp only [putFV] at d18
    have d19 := hV 19 (by decide)
    simp only [putFV] at d19
    have d20 := hV 20 (by decide)
    simp only [putFV] at d20
    have d21 := hV 21 (by decide)
    simp only [putFV] at d21
    have d22 := hV 22 (by decide)
    simp only [putFV] at d22
    have d23 := hV 23 (by decide)
    simp only [putFV] at d23
    have d24 := hV 24 (by decide)
    simp only [putFV] at d24
    clear hV
    simp only [Reg.putS, List.foldl, List.getD_cons_zero, List.getD_cons_succ, Act.put, List.setIfInBounds_toArray, List.set_cons_zero, List.set_cons_succ, d0, d1, d2, d3, d4, d5, d6, d7, d8, d9, d10, d11, d12, d13, d14, d15, d16, d17, d18, d19, d20, d21, d22, d23, d24]
    clear d0 d1 d2 d3 d4 d5 d6 d7 d8 d9 d10 d11 d12 d13 d14 d15 d16 d17 d18 d19 d20 d21 d22 d23 d24
    go_wp2
    go_ret2
    exact ⟨rfl, bstep (below_drew (balloc (Below.refl _ _) _)) hR⟩
/-- What the region's operations yield. -/
def frFV (k x s : Int) (t : ByteArray) (B : Nat) (i : Nat) (v : Value) (W : World) : Prop := match i with
  | 0 => v = .pointer (some ⟨B, 0, none⟩)
  | 1 => v = .int .i64 k
  | 2 => v = .int .u64 k
  | 3 => v = .string (bigS k.toNat 1)
  | 4 => v = .pointer (some ⟨B, 1, none⟩)
  | 5 => v = .int .i64 x
  | 6 => v = .int .u64 x
  | 7 => v = .string (bigS x.toNat 2)
  | 8 => v = .string (bigS k.toNat 1 ++ bigS x.toNat 2)
  | 9 => v = .pointer (some ⟨B, 3, none⟩)
  | 10 => v = .string t
  | 11 => v = .int .i64 t.size
  | 12 => v = .int .u64 t.size
  | 13 => v = .string (bigS t.size 2)
  | 14 => v = .string (bigS k.toNat 1 ++ bigS x.toNat 2 ++ bigS t.size 2)
  | 15 => v = .pointer (some ⟨B, 2, none⟩)
  | 16 => v = .int .u32 s
  | 17 => v = .int .u64 s
  | 18 => v = .string (bigS s.toNat 4)
  | 19 => v = .string (bigS k.toNat 1 ++ bigS x.toNat 2 ++ bigS t.size 2 ++ bigS s.toNat 4)
  | 20 => v = .pointer (some ⟨B, 3, none⟩)
  | 21 => v = .string t
  | 22 => v = .string (frameS k x s t)
  | 23 => v = .string (frameS k x s t)
  | 24 => v = .bool true
  | _ => True

set_option maxHeartbeats 1000000 in
theorem fr_yes (k x s : Int) (t : ByteArray) (w : World) (hk : k = 1 ∨ k = 2) (hx : 1 ≤ x ∧ x ≤ 1024) (hsu : 0 ≤ s ∧ s < 4294967296) (ht : t.size ≤ 1024) (hfit : fitsB k x t.size 1024 = true) :
    Calls Try.prog 41 #[.agg #[.int .i64 k, .int .i64 x, .int .u32 s, .string t]] w fun e w' => e = .returned (.tuple #[.string (frameS k x s t), .bool true]) ∧ Below w.heap.size w w' := by
  have hbs := bigS_size
  have hk0 : ¬ k = 0 := by omega
  have hkd : (k == 0) = false := by simp; omega
  have hwk : IntKind.u64.wrap k = k := by rw [show k = ((k.toNat : Nat) : Int) by omega]; exact wrap64u _ (by omega)
  have hwx : IntKind.u64.wrap x = x := by rw [show x = ((x.toNat : Nat) : Int) by omega]; exact wrap64u _ (by omega)
  have hws : IntKind.u64.wrap s = s := by rw [show s = ((s.toNat : Nat) : Int) by omega]; exact wrap64u _ (by omega)
  have hwt : IntKind.u64.wrap (t.size : Int) = (t.size : Int) := wrap64u _ (by omega)
  have hc0 : (w.alloc (.cells #[.int .i64 k, .int .i64 x, .int .u32 s, .string t] 58)).cell? ⟨w.heap.size, 0, none⟩ = some (.int .i64 k) := by simp
  have hc1 : (w.alloc (.cells #[.int .i64 k, .int .i64 x, .int .u32 s, .string t] 58)).cell? ⟨w.heap.size, 1, none⟩ = some (.int .i64 x) := by simp
  have hc2 : (w.alloc (.cells #[.int .i64 k, .int .i64 x, .int .u32 s, .string t] 58)).cell? ⟨w.heap.size, 2, none⟩ = some (.int .u32 s) := by simp
  have hc3 : (w.alloc (.cells #[.int .i64 k, .int .i64 x, .int .u32 s, .string t] 58)).cell? ⟨w.heap.size, 3, none⟩ = some (.string t) := by simp
  go_enter Try.func41, Try.ntmps41
  go_wp2_with fail
  refine (refFits_any k x t.size 1024 _).mono ?_
  rintro e w1 ⟨rfl, rfl⟩
  rw [hfit]
  go_wp2_with fail
  refine Reg.wp_region_lists (fun W W' => Below W.heap.size W W') (frFV k x s t w.heap.size)
    [some 40, some 41, some 42, some 43, some 44, some 45, some 46, some 47, some 48, some 49, some 50, some 51, some 52, some 53, some 54, some 55, some 56, some 57, some 58, some 59, some 60, some 61, some 62, some 2, some 3]
    [[], [0], [1], [2], [], [4], [5], [6, 3], [3, 7], [], [9], [10], [11], [12, 7], [8, 13], [], [15], [16], [17, 13], [14, 18], [], [20], [19, 21], [22, 18, 0, 1, 2, 3, 4, 5, 6, 7, 8, 9, 10, 11, 12, 13, 14, 15, 16, 17, 18, 19, 20, 21, 22], [23, 0, 1, 2, 3, 4, 5, 6, 7, 8, 9, 10, 11, 12, 13, 14, 15, 16, 17, 18, 19, 20, 21, 22, 23]]
    (by kernel_rfl) (by kernel_rfl) (by kernel_rfl) (fun _ => Below.refl _ _) (fun _ _ _ h k => bstep h k) ?_ ?_ ?_
  · intro i v W W' h k
    unfold frFV at h ⊢
    split at h <;> first | exact h
  · refine ⟨?_, ?_, ?_, ?_, ?_, ?_, ?_, ?_, ?_, ?_, ?_, ?_, ?_, ?_, ?_, ?_, ?_, ?_, ?_, ?_, ?_, ?_, ?_, ?_, ?_, trivial⟩
    · intro vals W K hR hV hK
      simp only [Reg.putS, List.foldl, List.headD, List.tail, List.getD_cons_zero, List.getD_cons_succ, Act.put, List.setIfInBounds_toArray, List.set_cons_zero, List.set_cons_succ] at hK ⊢
      go_simp
      first
        | exact hK _ _ (Below.refl _ _) rfl
        | (rw [if_pos (by omega)]; exact hK _ _ (Below.refl _ _) rfl)
        | (rw [dif_pos (by omega)]; exact hK _ _ (Below.refl _ _) rfl)
        | (rw [if_neg (by omega)]; exact hK _ _ (Below.refl _ _) rfl)
    · intro vals W K hR hV hK
      have d0 := hV 0 (by simp)
      simp only [frFV] at d0
      simp only [Reg.putS, List.foldl, List.headD, List.tail, List.getD_cons_zero, List.getD_cons_succ, Act.put, List.setIfInBounds_toArray, List.set_cons_zero, List.set_cons_succ, d0] at hK ⊢
      have hcl := pw_cell_below hR hc0
      go_simp
      first
        | exact hK _ _ (Below.refl _ _) rfl
        | (rw [if_pos (by omega)]; exact hK _ _ (Below.refl _ _) rfl)
        | (rw [dif_pos (by omega)]; exact hK _ _ (Below.refl _ _) rfl)
        | (rw [if_neg (by omega)]; exact hK _ _ (Below.refl _ _) rfl)
    · intro vals W K hR hV hK
      have d1 := hV 1 (by simp)
      simp only [frFV] at d1
      simp only [Reg.putS, List.foldl, List.headD, List.tail, List.getD_cons_zero, List.getD_cons_succ, Act.put, List.setIfInBounds_toArray, List.set_cons_zero, List.set_cons_succ, d1] at hK ⊢
      go_simp
      first
        | exact hK _ _ (Below.refl _ _) rfl
        | (rw [if_pos (by omega)]; exact hK _ _ (Below.refl _ _) rfl)
        | (rw [dif_pos (by omega)]; exact hK _ _ (Below.refl _ _) rfl)
        | (rw [if_neg (by omega)]; exact hK _ _ (Below.refl _ _) rfl)
    · intro vals W K hR hV hK
      have d2 := hV 2 (by simp)
      simp only [frFV] at d2
      simp only [Reg.putS, List.foldl, List.headD, List.tail, List.getD_cons_zero, List.getD_cons_succ, Act.put, List.setIfInBounds_toArray, List.set_cons_zero, List.set_cons_succ, d2] at hK ⊢
      go_simp
      refine (refBig_call k 1 _ (by omega) (by omega) (by omega)).mono ?_
      rintro e w2 ⟨rfl, hb⟩
      exact hK _ _ hb rfl
    · intro vals W K hR hV hK
      simp only [Reg.putS, List.foldl, List.headD, List.tail, List.getD_cons_zero, List.getD_cons_succ, Act.put, List.setIfInBounds_toArray, List.set_cons_zero, List.set_cons_succ] at hK ⊢
      go_simp
      first
        | exact hK _ _ (Below.refl _ _) rfl
        | (rw [if_pos (by omega)]; exact hK _ _ (Below.refl _ _) rfl)
        | (rw [dif_pos (by omega)]; exact hK _ _ (Below.refl _ _) rfl)
        | (rw [if_neg (by omega)]; exact hK _ _ (Below.refl _ _) rfl)
    · intro vals W K hR hV hK
      have d4 := hV 4 (by simp)
      simp only [frFV] at d4
      simp only [Reg.putS, List.foldl, List.headD, List.tail, List.getD_cons_zero, List.getD_cons_succ, Act.put, List.setIfInBounds_toArray, List.set_cons_zero, List.set_cons_succ, d4] at hK ⊢
      have hcl := pw_cell_below hR hc1
      go_simp
      first
        | exact hK _ _ (Below.refl _ _) rfl
        | (rw [if_pos (by omega)]; exact hK _ _ (Below.refl _ _) rfl)
        | (rw [dif_pos (by omega)]; exact hK _ _ (Below.refl _ _) rfl)
        | (rw [if_neg (by omega)]; exact hK _ _ (Below.refl _ _) rfl)
    · intro vals W K hR hV hK
      have d5 := hV 5 (by simp)
      simp only [frFV] at d5
      simp only [Reg.putS, List.foldl, List.headD, List.tail, List.getD_cons_zero, List.getD_cons_succ, Act.put, List.setIfInBounds_toArray, List.set_cons_zero, List.set_cons_succ, d5] at hK ⊢
      go_simp
      first
        | exact hK _ _ (Below.refl _ _) rfl
        | (rw [if_pos (by omega)]; exact hK _ _ (Below.refl _ _) rfl)
        | (rw [dif_pos (by omega)]; exact hK _ _ (Below.refl _ _) rfl)
        | (rw [if_neg (by omega)]; exact hK _ _ (Below.refl _ _) rfl)
    · intro vals W K hR hV hK
      have d3 := hV 3 (by simp)
      simp only [frFV] at d3
      have d6 := hV 6 (by simp)
      simp only [frFV] at d6
      simp only [Reg.putS, List.foldl, List.headD, List.tail, List.getD_cons_zero, List.getD_cons_succ, Act.put, List.setIfInBounds_toArray, List.set_cons_zero, List.set_cons_succ, d3, d6] at hK ⊢
      go_simp
      refine (refBig_call x 2 _ (by omega) (by omega) (by omega)).mono ?_
      rintro e w2 ⟨rfl, hb⟩
      exact hK _ _ hb rfl
    · intro vals W K hR hV hK
      have d3 := hV 3 (by simp)
      simp only [frFV] at d3
      have d7 := hV 7 (by simp)
      simp only [frFV] at d7
      simp only [Reg.putS, List.foldl, List.headD, List.tail, List.getD_cons_zero, List.getD_cons_succ, Act.put, List.setIfInBounds_toArray, List.set_cons_zero, List.set_cons_succ, d3, d7] at hK ⊢
      go_simp
      first
        | exact hK _ _ (Below.refl _ _) rfl
        | (rw [if_pos (by omega)]; exact hK _ _ (Below.refl _ _) rfl)
        | (rw [dif_pos (by omega)]; exact hK _ _ (Below.refl _ _) rfl)
        | (rw [if_neg (by omega)]; exact hK _ _ (Below.refl _ _) rfl)
    · intro vals W K hR hV hK
      simp only [Reg.putS, List.foldl, List.headD, List.tail, List.getD_cons_zero, List.getD_cons_succ, Act.put, List.setIfInBounds_toArray, List.set_cons_zero, List.set_cons_succ] at hK ⊢
      go_simp
      first
        | exact hK _ _ (Below.refl _ _) rfl
        | (rw [if_pos (by omega)]; exact hK _ _ (Below.refl _ _) rfl)
        | (rw [dif_pos (by omega)]; exact hK _ _ (Below.refl _ _) rfl)
        | (rw [if_neg (by omega)]; exact hK _ _ (Below.refl _ _) rfl)
    · intro vals W K hR hV hK
      have d9 := hV 9 (by simp)
      simp only [frFV] at d9
      simp only [Reg.putS, List.foldl, List.headD, List.tail, List.getD_cons_zero, List.getD_cons_succ, Act.put, List.setIfInBounds_toArray, List.set_cons_zero, List.set_cons_succ, d9] at hK ⊢
      have hcl := pw_cell_below hR hc3
      go_simp
      first
        | exact hK _ _ (Below.refl _ _) rfl
        | (rw [if_pos (by omega)]; exact hK _ _ (Below.refl _ _) rfl)
        | (rw [dif_pos (by omega)]; exact hK _ _ (Below.refl _ _) rfl)
        | (rw [if_neg (by omega)]; exact hK _ _ (Below.refl _ _) rfl)
    · intro vals W K hR hV hK
      have d10 := hV 10 (by simp)
      simp only [frFV] at d10
      simp only [Reg.putS, List.foldl, List.headD, List.tail, List.getD_cons_zero, List.getD_cons_succ, Act.put, List.setIfInBounds_toArray, List.set_cons_zero, List.set_cons_succ, d10] at hK ⊢
      go_simp
      first
        | exact hK _ _ (Below.refl _ _) rfl
        | (rw [if_pos (by omega)]; exact hK _ _ (Below.refl _ _) rfl)
        | (rw [dif_pos (by omega)]; exact hK _ _ (Below.refl _ _) rfl)
        | (rw [if_neg (by omega)]; exact hK _ _ (Below.refl _ _) rfl)
    · intro vals W K hR hV hK
      have d11 := hV 11 (by simp)
      simp only [frFV] at d11
      simp only [Reg.putS, List.foldl, List.headD, List.tail, List.getD_cons_zero, List.getD_cons_succ, Act.put, List.setIfInBounds_toArray, List.set_cons_zero, List.set_cons_succ, d11] at hK ⊢
      go_simp
      first
        | exact hK _ _ (Below.refl _ _) rfl
        | (rw [if_pos (by omega)]; exact hK _ _ (Below.refl _ _) rfl)
        | (rw [dif_pos (by omega)]; exact hK _ _ (Below.refl _ _) rfl)
        | (rw [if_neg (by omega)]; exact hK _ _ (Below.refl _ _) rfl)
    · intro vals W K hR hV hK
      have d7 := hV 7 (by simp)
      simp only [frFV] at d7
      have d12 := hV 12 (by simp)
      simp only [frFV] at d12
      simp only [Reg.putS, List.foldl, List.headD, List.tail, List.getD_cons_zero, List.getD_cons_succ, Act.put, List.setIfInBounds_toArray, List.set_cons_zero, List.set_cons_succ, d7, d12] at hK ⊢
      go_simp
      refine (refBig_call t.size 2 _ (by omega) (by omega) (by omega)).mono ?_
      rintro e w2 ⟨rfl, hb⟩
      exact hK _ _ hb rfl
    · intro vals W K hR hV hK
      have d8 := hV 8 (by simp)
      simp only [frFV] at d8
      have d13 := hV 13 (by simp)
      simp only [frFV] at d13
      simp only [Reg.putS, List.foldl, List.headD, List.tail, List.getD_cons_zero, List.getD_cons_succ, Act.put, List.setIfInBounds_toArray, List.set_cons_zero, List.set_cons_succ, d8, d13] at hK ⊢
      go_simp
      first
        | exact hK _ _ (Below.refl _ _) rfl
        | (rw [if_pos (by omega)]; exact hK _ _ (Below.refl _ _) rfl)
        | (rw [dif_pos (by omega)]; exact hK _ _ (Below.refl _ _) rfl)
        | (rw [if_neg (by omega)]; exact hK _ _ (Below.refl _ _) rfl)
    · intro vals W K hR hV hK
      simp only [Reg.putS, List.foldl, List.headD, List.tail, List.getD_cons_zero, List.getD_cons_succ, Act.put, List.setIfInBounds_toArray, List.set_cons_zero, List.set_cons_succ] at hK ⊢
      go_simp
      first
        | exact hK _ _ (Below.refl _ _) rfl
        | (rw [if_pos (by omega)]; exact hK _ _ (Below.refl _ _) rfl)
        | (rw [dif_pos (by omega)]; exact hK _ _ (Below.refl _ _) rfl)
        | (rw [if_neg (by omega)]; exact hK _ _ (Below.refl _ _) rfl)
    · intro vals W K hR hV hK
      have d15 := hV 15 (by simp)
      simp only [frFV] at d15
      simp only [Reg.putS, List.foldl, List.headD, List.tail, List.getD_cons_zero, List.getD_cons_succ, Act.put, List.setIfInBounds_toArray, List.set_cons_zero, List.set_cons_succ, d15] at hK ⊢
      have hcl := pw_cell_below hR hc2
      go_simp
      first
        | exact hK _ _ (Below.refl _ _) rfl
        | (rw [if_pos (by omega)]; exact hK _ _ (Below.refl _ _) rfl)
        | (rw [dif_pos (by omega)]; exact hK _ _ (Below.refl _ _) rfl)
        | (rw [if_neg (by omega)]; exact hK _ _ (Below.refl _ _) rfl)
    · intro vals W K hR hV hK
      have d16 := hV 16 (by simp)
      simp only [frFV] at d16
      simp only [Reg.putS, List.foldl, List.headD, List.tail, List.getD_cons_zero, List.getD_cons_succ, Act.put, List.setIfInBounds_toArray, List.set_cons_zero, List.set_cons_succ, d16] at hK ⊢
      go_simp
      first
        | exact hK _ _ (Below.refl _ _) rfl
        | (rw [if_pos (by omega)]; exact hK _ _ (Below.refl _ _) rfl)
        | (rw [dif_pos (by omega)]; exact hK _ _ (Below.refl _ _) rfl)
        | (rw [if_neg (by omega)]; exact hK _ _ (Below.refl _ _) rfl)
    · intro vals W K hR hV hK
      have d13 := hV 13 (by simp)
      simp only [frFV] at d13
      have d17 := hV 17 (by simp)
      simp only [frFV] at d17
      simp only [Reg.putS, List.foldl, List.headD, List.tail, List.getD_cons_zero, List.getD_cons_succ, Act.put, List.setIfInBounds_toArray, List.set_cons_zero, List.set_cons_succ, d13, d17] at hK ⊢
      go_simp
      refine (refBig_call s 4 _ (by omega) (by omega) (by omega)).mono ?_
      rintro e w2 ⟨rfl, hb⟩
      exact hK _ _ hb rfl
    · intro vals W K hR hV hK
      have d14 := hV 14 (by simp)
      simp only [frFV] at d14
      have d18 := hV 18 (by simp)
      simp only [frFV] at d18
      simp only [Reg.putS, List.foldl, List.headD, List.tail, List.getD_cons_zero, List.getD_cons_succ, Act.put, List.setIfInBounds_toArray, List.set_cons_zero, List.set_cons_succ, d14, d18] at hK ⊢
      go_simp
      first
        | exact hK _ _ (Below.refl _ _) rfl
        | (rw [if_pos (by omega)]; exact hK _ _ (Below.refl _ _) rfl)
        | (rw [dif_pos (by omega)]; exact hK _ _ (Below.refl _ _) rfl)
        | (rw [if_neg (by omega)]; exact hK _ _ (Below.refl _ _) rfl)
    · intro vals W K hR hV hK
      simp only [Reg.putS, List.foldl, List.headD, List.tail, List.getD_cons_zero, List.getD_cons_succ, Act.put, List.setIfInBounds_toArray, List.set_cons_zero, List.set_cons_succ] at hK ⊢
      go_simp
      first
        | exact hK _ _ (Below.refl _ _) rfl
        | (rw [if_pos (by omega)]; exact hK _ _ (Below.refl _ _) rfl)
        | (rw [dif_pos (by omega)]; exact hK _ _ (Below.refl _ _) rfl)
        | (rw [if_neg (by omega)]; exact hK _ _ (Below.refl _ _) rfl)
    · intro vals W K hR hV hK
      have d20 := hV 20 (by simp)
      simp only [frFV] at d20
      simp only [Reg.putS, List.foldl, List.headD, List.tail, List.getD_cons_zero, List.getD_cons_succ, Act.put, List.setIfInBounds_toArray, List.set_cons_zero, List.set_cons_succ, d20] at hK ⊢
      have hcl := pw_cell_below hR hc3
      go_simp
      first
        | exact hK _ _ (Below.refl _ _) rfl
        | (rw [if_pos (by omega)]; exact hK _ _ (Below.refl _ _) rfl)
        | (rw [dif_pos (by omega)]; exact hK _ _ (Below.refl _ _) rfl)
        | (rw [if_neg (by omega)]; exact hK _ _ (Below.refl _ _) rfl)
    · intro vals W K hR hV hK
      have d19 := hV 19 (by simp)
      simp only [frFV] at d19
      have d21 := hV 21 (by simp)
      simp only [frFV] at d21
      simp only [Reg.putS, List.foldl, List.headD, List.tail, List.getD_cons_zero, List.getD_cons_succ, Act.put, List.setIfInBounds_toArray, List.set_cons_zero, List.set_cons_succ, d19, d21] at hK ⊢
      go_simp
      first
        | exact hK _ _ (Below.refl _ _) rfl
        | (rw [if_pos (by omega)]; exact hK _ _ (Below.refl _ _) rfl)
        | (rw [dif_pos (by omega)]; exact hK _ _ (Below.refl _ _) rfl)
        | (rw [if_neg (by omega)]; exact hK _ _ (Below.refl _ _) rfl)
    · intro vals W K hR hV hK
      have d0 := hV 0 (by simp)
      simp only [frFV] at d0
      have d1 := hV 1 (by simp)
      simp only [frFV] at d1
      have d2 := hV 2 (by simp)
      simp only [frFV] at d2
      have d3 := hV 3 (by simp)
      simp only [frFV] at d3
      have d4 := hV 4 (by simp)
      simp only [frFV] at d4
      have d5 := hV 5 (by simp)
      simp only [frFV] at d5
      have d6 := hV 6 (by simp)
      simp only [frFV] at d6
      have d7 := hV 7 (by simp)
      simp only [frFV] at d7
      have d8 := hV 8 (by simp)
      simp only [frFV] at d8
      have d9 := hV 9 (by simp)
      simp only [frFV] at d9
      have d10 := hV 10 (by simp)
      simp only [frFV] at d10
      have d11 := hV 11 (by simp)
      simp only [frFV] at d11
      have d12 := hV 12 (by simp)
      simp only [frFV] at d12
      have d13 := hV 13 (by simp)
      simp only [frFV] at d13
      have d14 := hV 14 (by simp)
      simp only [frFV] at d14
      have d15 := hV 15 (by simp)
      simp only [frFV] at d15
      have d16 := hV 16 (by simp)
      simp only [frFV] at d16
      have d17 := hV 17 (by simp)
      simp only [frFV] at d17
      have d18 := hV 18 (by simp)
      simp only [frFV] at d18
      have d19 := hV 19 (by simp)
      simp only [frFV] at d19
      have d20 := hV 20 (by simp)
      simp only [frFV] at d20
      have d21 := hV 21 (by simp)
      simp only [frFV] at d21
      have d22 := hV 22 (by simp)
      simp only [frFV] at d22
      simp only [Reg.putS, List.foldl, List.headD, List.tail, List.getD_cons_zero, List.getD_cons_succ, Act.put, List.setIfInBounds_toArray, List.set_cons_zero, List.set_cons_succ, d0, d1, d2, d3, d4, d5, d6, d7, d8, d9, d10, d11, d12, d13, d14, d15, d16, d17, d18, d19, d20, d21, d22] at hK ⊢
      go_simp
      first
        | exact hK _ _ (Below.refl _ _) rfl
        | (rw [if_pos (by omega)]; exact hK _ _ (Below.refl _ _) rfl)
        | (rw [dif_pos (by omega)]; exact hK _ _ (Below.refl _ _) rfl)
        | (rw [if_neg (by omega)]; exact hK _ _ (Below.refl _ _) rfl)
    · intro vals W K hR hV hK
      have d0 := hV 0 (by simp)
      simp only [frFV] at d0
      have d1 := hV 1 (by simp)
      simp only [frFV] at d1
      have d2 := hV 2 (by simp)
      simp only [frFV] at d2
      have d3 := hV 3 (by simp)
      simp only [frFV] at d3
      have d4 := hV 4 (by simp)
      simp only [frFV] at d4
      have d5 := hV 5 (by simp)
      simp only [frFV] at d5
      have d6 := hV 6 (by simp)
      simp only [frFV] at d6
      have d7 := hV 7 (by simp)
      simp only [frFV] at d7
      have d8 := hV 8 (by simp)
      simp only [frFV] at d8
      have d9 := hV 9 (by simp)
      simp only [frFV] at d9
      have d10 := hV 10 (by simp)
      simp only [frFV] at d10
      have d11 := hV 11 (by simp)
      simp only [frFV] at d11
      have d12 := hV 12 (by simp)
      simp only [frFV] at d12
      have d13 := hV 13 (by simp)
      simp only [frFV] at d13
      have d14 := hV 14 (by simp)
      simp only [frFV] at d14
      have d15 := hV 15 (by simp)
      simp only [frFV] at d15
      have d16 := hV 16 (by simp)
      simp only [frFV] at d16
      have d17 := hV 17 (by simp)
      simp only [frFV] at d17
      have d18 := hV 18 (by simp)
      simp only [frFV] at d18
      have d19 := hV 19 (by simp)
      simp only [frFV] at d19
      have d20 := hV 20 (by simp)
      simp only [frFV] at d20
      have d21 := hV 21 (by simp)
      simp only [frFV] at d21
      have d22 := hV 22 (by simp)
      simp only [frFV] at d22
      have d23 := hV 23 (by simp)
      simp only [frFV] at d23
      simp only [Reg.putS, List.foldl, List.headD, List.tail, List.getD_cons_zero, List.getD_cons_succ, Act.put, List.setIfInBounds_toArray, List.set_cons_zero, List.set_cons_succ, d0, d1, d2, d3, d4, d5, d6, d7, d8, d9, d10, d11, d12, d13, d14, d15, d16, d17, d18, d19, d20, d21, d22, d23] at hK ⊢
      go_simp
      first
        | exact hK _ _ (Below.refl _ _) rfl
        | (rw [if_pos (by omega)]; exact hK _ _ (Below.refl _ _) rfl)
        | (rw [dif_pos (by omega)]; exact hK _ _ (Below.refl _ _) rfl)
        | (rw [if_neg (by omega)]; exact hK _ _ (Below.refl _ _) rfl)
  · intro vals W hR hV
    rw [show List.range (List.length [some 40, some 41, some 42, some 43, some 44, some 45, some 46, some 47, some 48, some 49, some 50, some 51, some 52, some 53, some 54, some 55, some 56, some 57, some 58, some 59, some 60, some 61, some 62, some 2, some 3]) = [0, 1, 2, 3, 4, 5, 6, 7, 8, 9, 10, 11, 12, 13, 14, 15, 16, 17, 18, 19, 20, 21, 22, 23, 24] from rfl]
    have d0 := hV 0 (by decide)
    simp only [frFV] at d0
    have d1 := hV 1 (by decide)
    simp only [frFV] at d1
    have d2 := hV 2 (by decide)
    simp only [frFV] at d2
    have d3 := hV 3 (by decide)
    simp only [frFV] at d3
    have d4 := hV 4 (by decide)
    simp only [frFV] at d4
    have d5 := hV 5 (by decide)
    simp only [frFV] at d5
    have d6 := hV 6 (by decide)
    simp only [frFV] at d6
    have d7 := hV 7 (by decide)
    simp only [frFV] at d7
    have d8 := hV 8 (by decide)
    simp only [frFV] at d8
    have d9 := hV 9 (by decide)
    simp only [frFV] at d9
    have d10 := hV 10 (by decide)
    simp only [frFV] at d10
    have d11 := hV 11 (by decide)
    simp only [frFV] at d11
    have d12 := hV 12 (by decide)
    simp only [frFV] at d12
    have d13 := hV 13 (by decide)
    simp only [frFV] at d13
    have d14 := hV 14 (by decide)
    simp only [frFV] at d14
    have d15 := hV 15 (by decide)
    simp only [frFV] at d15
    have d16 := hV 16 (by decide)
    simp only [frFV] at d16
    have d17 := hV 17 (by decide)
    simp only [frFV] at d17
    have d18 := hV 18 (by decide)
    simp only [frFV] at d18
    have d19 := hV 19 (by decide)
    simp only [frFV] at d19
    have d20 := hV 20 (by decide)
    simp only [frFV] at d20
    have d21 := hV 21 (by decide)
    simp only [frFV] at d21
    have d22 := hV 22 (by decide)
    simp only [frFV] at d22
    have d23 := hV 23 (by decide)
    simp only [frFV] at d23
    have d24 := hV 24 (by decide)
    simp only [frFV] at d24
    clear hV
    simp only [Reg.putS, List.foldl, List.getD_cons_zero, List.getD_cons_succ, Act.put, List.setIfInBounds_toArray, List.set_cons_zero, List.set_cons_succ, d0, d1, d2, d3, d4, d5, d6, d7, d8, d9, d10, d11, d12, d13, d14, d15, d16, d17, d18, d19, d20, d21, d22, d23, d24]
    clear d0 d1 d2 d3 d4 d5 d6 d7 d8 d9 d10 d11 d12 d13 d14 d15 d16 d17 d18 d19 d20 d21 d22 d23 d24
    go_wp2
    go_ret2
    exact ⟨rfl, bstep (below_drew (balloc (Below.refl _ _) _)) hR⟩
set_option maxHeartbeats 1000000 in
theorem put_noF (k x s : Int) (t : ByteArray) (w : World) (hk : k ≠ 0) (hfit : fitsB k x t.size 1024 = false) :
    Calls Try.prog 40 #[.agg #[.int .i64 k, .int .i64 x, .int .u32 s, .string t]] w fun e w' => e = .returned (.tuple #[.string ⟨#[]⟩, .bool false]) ∧ Below w.heap.size w w' := by
  have hkd : (k == 0) = false := by simp; omega
  go_enter Try.func40, Try.ntmps40
  go_wp2_with fail
  refine (fits_any k x t.size _).mono ?_
  rintro e w1 ⟨rfl, rfl⟩
  rw [hfit]
  go_wp2_with fail
  go_ret2
  exact ⟨rfl, balloc (Below.refl _ _) _⟩
set_option maxHeartbeats 1000000 in
theorem put_noE (x s : Int) (t : ByteArray) (w : World) (h : ¬ (0 ≤ x ∧ x ≤ 4294967295 ∧ s = 0 ∧ t = ⟨#[]⟩)) :
    Calls Try.prog 40 #[.agg #[.int .i64 0, .int .i64 x, .int .u32 s, .string t]] w fun e w' => e = .returned (.tuple #[.string ⟨#[]⟩, .bool false]) ∧ Below w.heap.size w w' := by
  go_enter Try.func40, Try.ntmps40
  go_wp2_with fail
  go_ways
  all_goals first
    | (go_ret2; exact ⟨rfl, balloc (Below.refl _ _) _⟩)
    | (exfalso; have hh : (0 ≤ x ∧ x ≤ 4294967295) ∧ (!t.toList.isEmpty) = false := by assumption
       exact h ⟨hh.1.1, hh.1.2, by assumption, empty_of hh.2⟩)
set_option maxHeartbeats 1000000 in
theorem fr_noF (k x s : Int) (t : ByteArray) (w : World) (hk : k ≠ 0) (hfit : fitsB k x t.size 1024 = false) :
    Calls Try.prog 41 #[.agg #[.int .i64 k, .int .i64 x, .int .u32 s, .string t]] w fun e w' => e = .returned (.tuple #[.string ⟨#[]⟩, .bool false]) ∧ Below w.heap.size w w' := by
  have hkd : (k == 0) = false := by simp; omega
  go_enter Try.func41, Try.ntmps41
  go_wp2_with fail
  refine (refFits_any k x t.size 1024 _).mono ?_
  rintro e w1 ⟨rfl, rfl⟩
  rw [hfit]
  go_wp2_with fail
  go_ret2
  exact ⟨rfl, balloc (Below.refl _ _) _⟩
set_option maxHeartbeats 1000000 in
theorem fr_noE (x s : Int) (t : ByteArray) (w : World) (h : ¬ (0 ≤ x ∧ x ≤ 4294967295 ∧ s = 0 ∧ t = ⟨#[]⟩)) :
    Calls Try.prog 41 #[.agg #[.int .i64 0, .int .i64 x, .int .u32 s, .string t]] w fun e w' => e = .returned (.tuple #[.string ⟨#[]⟩, .bool false]) ∧ Below w.heap.size w w' := by
  go_enter Try.func41, Try.ntmps41
  go_wp2_with fail
  go_ways
  all_goals first
    | (go_ret2; exact ⟨rfl, balloc (Below.refl _ _) _⟩)
    | (exfalso; have hh : (0 ≤ x ∧ x ≤ 4294967295) ∧ (!t.toList.isEmpty) = false := by assumption
       exact h ⟨hh.1.1, hh.1.2, by assumption, empty_of hh.2⟩)

/-- May it be a frame? -/
def okF (k x s : Int) (t : ByteArray) : Prop := (k = 0 ∧ 0 ≤ x ∧ x ≤ 4294967295 ∧ s = 0 ∧ t = ⟨#[]⟩) ∨ (k ≠ 0 ∧ fitsB k x t.size 1024 = true)
instance (k x s : Int) (t : ByteArray) : Decidable (okF k x s t) := by unfold okF; exact inferInstance
/-- A frame as bytes, or nothing. -/
def putF (k x s : Int) (t : ByteArray) : ByteArray := if okF k x s t then (if k = 0 then bigS 0 1 ++ bigS x.toNat 4 else frameS k x s t) else ⟨#[]⟩
theorem fits_parts {k x n m : Int} (h : fitsB k x n m = true) : 1 ≤ x ∧ x ≤ m ∧ 1 ≤ n ∧ (k = 1 ∧ n = x ∨ k = 2 ∧ n < x) := by unfold fitsB at h; simpa using h
theorem put_any (k x s : Int) (t : ByteArray) (w : World) (hs : 0 ≤ s ∧ s < 4294967296) :
    Calls Try.prog 40 #[.agg #[.int .i64 k, .int .i64 x, .int .u32 s, .string t]] w fun e w' => e = .returned (.tuple #[.string (putF k x s t), .bool (decide (okF k x s t))]) ∧ Below w.heap.size w w' := by
  by_cases h0 : k = 0
  · subst h0
    by_cases h : 0 ≤ x ∧ x ≤ 4294967295 ∧ s = 0 ∧ t = ⟨#[]⟩
    · obtain ⟨h1, h2, rfl, rfl⟩ := h
      have ok : okF 0 x 0 ⟨#[]⟩ := .inl ⟨rfl, h1, h2, rfl, rfl⟩
      unfold putF; rw [if_pos ok, if_pos rfl, decide_eq_true ok]
      exact put_end x w ⟨h1, h2⟩
    · have ok : ¬ okF 0 x s t := by
        rintro (⟨_, h1⟩ | ⟨h1, _⟩)
        · exact h h1
        · exact h1 rfl
      unfold putF; rw [if_neg ok, decide_eq_false ok]
      exact put_noE x s t w h
  · cases hf : fitsB k x t.size 1024 with
    | true =>
      have ok : okF k x s t := .inr ⟨h0, hf⟩
      have hp := fits_parts hf
      unfold putF; rw [if_pos ok, if_neg h0, decide_eq_true ok]
      exact put_yes k x s t w (by omega) (by omega) hs (by omega) hf
    | false =>
      have ok : ¬ okF k x s t := by
        rintro (⟨h1, _⟩ | ⟨_, h1⟩)
        · exact h0 h1
        · rw [hf] at h1; cases h1
      unfold putF; rw [if_neg ok, decide_eq_false ok]
      exact put_noF k x s t w h0 hf
theorem fr_any (k x s : Int) (t : ByteArray) (w : World) (hs : 0 ≤ s ∧ s < 4294967296) :
    Calls Try.prog 41 #[.agg #[.int .i64 k, .int .i64 x, .int .u32 s, .string t]] w fun e w' => e = .returned (.tuple #[.string (putF k x s t), .bool (decide (okF k x s t))]) ∧ Below w.heap.size w w' := by
  by_cases h0 : k = 0
  · subst h0
    by_cases h : 0 ≤ x ∧ x ≤ 4294967295 ∧ s = 0 ∧ t = ⟨#[]⟩
    · obtain ⟨h1, h2, rfl, rfl⟩ := h
      have ok : okF 0 x 0 ⟨#[]⟩ := .inl ⟨rfl, h1, h2, rfl, rfl⟩
      unfold putF; rw [if_pos ok, if_pos rfl, decide_eq_true ok]
      exact fr_end x w ⟨h1, h2⟩
    · have ok : ¬ okF 0 x s t := by
        rintro (⟨_, h1⟩ | ⟨h1, _⟩)
        · exact h h1
        · exact h1 rfl
      unfold putF; rw [if_neg ok, decide_eq_false ok]
      exact fr_noE x s t w h
  · cases hf : fitsB k x t.size 1024 with
    | true =>
      have ok : okF k x s t := .inr ⟨h0, hf⟩
      have hp := fits_parts hf
      unfold putF; rw [if_pos ok, if_neg h0, decide_eq_true ok]
      exact fr_yes k x s t w (by omega) (by omega) hs (by omega) hf
    | false =>
      have ok : ¬ okF k x s t := by
        rintro (⟨h1, _⟩ | ⟨_, h1⟩)
        · exact h0 h1
        · rw [hf] at h1; cases h1
      unfold putF; rw [if_neg ok, decide_eq_false ok]
      exact fr_noF k x s t w h0 hf

end Go.Proofs.Ythaoofnnhdkboaa.FrQ
