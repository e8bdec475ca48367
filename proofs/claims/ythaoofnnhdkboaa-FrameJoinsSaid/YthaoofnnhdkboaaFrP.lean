/- The walks of frame.Put and of the reference's Frame. -/
import Derived.Test.YthaoofnnhdkboaaFrW
set_option linter.unusedSimpArgs false
set_option linter.unusedVariables false
namespace Go.Proofs.Ythaoofnnhdkboaa.FrP
open Go.RowKit Go.Proofs.Ythaoofnnhdkboaa.CrcL Go.Proofs.Ythaoofnnhdkboaa.FrW

/-- What the region's operations yield. -/
def putEV (r : Int) (B : Nat) (i : Nat) (v : Value) (W : World) : Prop := match i with
  | 0 => v = .string (bigS 0 1)
  | 1 => v = .pointer (some ⟨B, 1, none⟩)
  | 2 => v = .int .i64 r
  | 3 => v = .int .u64 r
  | 4 => v = .string (bigS r.toNat 4)
  | 5 => v = .string (bigS 0 1 ++ bigS r.toNat 4)
  | 6 => v = .string (bigS 0 1 ++ bigS r.toNat 4)
  | 7 => v = .bool true
  | _ => True

set_option maxHeartbeats 1000000 in
theorem put_end (r : Int) (w : World) (hr : 0 ≤ r ∧ r ≤ 4294967295) :
    Calls Try.prog 40 #[.agg #[.int .i64 0, .int .i64 r, .int .u32 0, .string ⟨#[]⟩]] w fun e w' => e = .returned (.tuple #[.string (bigS 0 1 ++ bigS r.toNat 4), .bool true]) ∧ Below w.heap.size w w' := by
  have hbs := bigS_size
  have hwr : IntKind.u64.wrap r = r := by rw [show r = ((r.toNat : Nat) : Int) by omega]; exact wrap64u _ (by omega)
  have hc1 : (w.alloc (.cells #[.int .i64 0, .int .i64 r, .int .u32 0, .string ⟨#[]⟩] 58)).cell? ⟨w.heap.size, 1, none⟩ = some (.int .i64 r) := by simp
  have t1 : decide (r < 0) = false := by simp; omega
  have t2 : decide (4294967295 < r) = false := by simp; omega
  go_enter Try.func40, Try.ntmps40
  go_wp2_with fail
  refine Reg.wp_region_lists (fun W W' => Below W.heap.size W W') (putEV r w.heap.size)
    [some 25, some 26, some 27, some 28, some 29, some 30, some 2, some 3]
    [[], [], [1], [2], [3, 0], [0, 4], [5, 4, 0, 1, 2, 3, 4, 5], [6, 0, 1, 2, 3, 4, 5, 6]]
    (by kernel_rfl) (by kernel_rfl) (by kernel_rfl) (fun _ => Below.refl _ _) (fun _ _ _ h k => bstep h k) ?_ ?_ ?_
  · intro i v W W' h k
    unfold putEV at h ⊢
    split at h <;> first | exact h
  · refine ⟨?_, ?_, ?_, ?_, ?_, ?_, ?_, ?_, trivial⟩
    · intro vals W K hR hV hK
      simp only [Reg.putS, List.foldl, List.headD, List.tail, List.getD_cons_zero, List.getD_cons_succ, Act.put, List.setIfInBounds_toArray, List.set_cons_zero, List.set_cons_succ] at hK ⊢
      go_simp
      refine (big_call 0 1 _ (by omega) (by omega) (by omega)).mono ?_
      rintro e w2 ⟨rfl, hb⟩
      exact hK _ _ hb rfl
    · intro vals W K hR hV hK
      simp only [Reg.putS, List.foldl, List.headD, List.tail, List.getD_cons_zero, List.getD_cons_succ, Act.put, List.setIfInBounds_toArray, List.set_cons_zero, List.set_cons_succ] at hK ⊢
      go_simp
      first
        | exact hK _ _ (Below.refl _ _) rfl
        | (rw [if_pos (by omega)]; exact hK _ _ (Below.refl _ _) rfl)
        | (rw [dif_pos (by omega)]; exact hK _ _ (Below.refl _ _) rfl)
        | (rw [if_neg (by omega)]; exact hK _ _ (Below.refl _ _) rfl)
    · intro vals W K hR hV hK
      have d1 := hV 1 (by simp)
      simp only [putEV] at d1
      simp only [Reg.putS, List.foldl, List.headD, List.tail, List.getD_cons_zero, List.getD_cons_succ, Act.put, List.setIfInBounds_toArray, List.set_cons_zero, List.set_cons_succ, d1] at hK ⊢
      have hcl := pw_cell_below hR hc1
      go_simp
      first
        | exact hK _ _ (Below.refl _ _) rfl
        | (rw [if_pos (by omega)]; exact hK _ _ (Below.refl _ _) rfl)
        | (rw [dif_pos (by omega)]; exact hK _ _ (Below.refl _ _) rfl)
        | (rw [if_neg (by omega)]; exact hK _ _ (Below.refl _ _) rfl)
    · intro vals W K hR hV hK
      have d2 := hV 2 (by simp)
      simp only [putEV] at d2
      simp only [Reg.putS, List.foldl, List.headD, List.tail, List.getD_cons_zero, List.getD_cons_succ, Act.put, List.setIfInBounds_toArray, List.set_cons_zero, List.set_cons_succ, d2] at hK ⊢
      go_simp
      first
        | exact hK _ _ (Below.refl _ _) rfl
        | (rw [if_pos (by omega)]; exact hK _ _ (Below.refl _ _) rfl)
        | (rw [dif_pos (by omega)]; exact hK _ _ (Below.refl _ _) rfl)
        | (rw [if_neg (by omega)]; exact hK _ _ (Below.refl _ _) rfl)
    · intro vals W K hR hV hK
      have d0 := hV 0 (by simp)
      simp only [putEV] at d0
      have d3 := hV 3 (by simp)
      simp only [putEV] at d3
      simp only [Reg.putS, List.foldl, List.headD, List.tail, List.getD_cons_zero, List.getD_cons_succ, Act.put, List.setIfInBounds_toArray, List.set_cons_zero, List.set_cons_succ, d0, d3] at hK ⊢
      go_simp
      refine (big_call r 4 _ (by omega) (by omega) (by omega)).mono ?_
      rintro e w2 ⟨rfl, hb⟩
      exact hK _ _ hb rfl
    · intro vals W K hR hV hK
      have d0 := hV 0 (by simp)
      simp only [putEV] at d0
      have d4 := hV 4 (by simp)
      simp only [putEV] at d4
      simp only [Reg.putS, List.foldl, List.headD, List.tail, List.getD_cons_zero, List.getD_cons_succ, Act.put, List.setIfInBounds_toArray, List.set_cons_zero, List.set_cons_succ, d0, d4] at hK ⊢
      go_simp
      first
        | exact hK _ _ (Below.refl _ _) rfl
        | (rw [if_pos (by omega)]; exact hK _ _ (Below.refl _ _) rfl)
        | (rw [dif_pos (by omega)]; exact hK _ _ (Below.refl _ _) rfl)
        | (rw [if_neg (by omega)]; exact hK _ _ (Below.refl _ _) rfl)
    · intro vals W K hR hV hK
      have d0 := hV 0 (by simp)
      simp only [putEV] at d0
      have d1 := hV 1 (by simp)
      simp only [putEV] at d1
      have d2 := hV 2 (by simp)
      simp only [putEV] at d2
      have d3 := hV 3 (by simp)
      simp only [putEV] at d3
      have d4 := hV 4 (by simp)
      simp only [putEV] at d4
      have d5 := hV 5 (by simp)
      simp only [putEV] at d5
      simp only [Reg.putS, List.foldl, List.headD, List.tail, List.getD_cons_zero, List.getD_cons_succ, Act.put, List.setIfInBounds_toArray, List.set_cons_zero, List.set_cons_succ, d0, d1, d2, d3, d4, d5] at hK ⊢
      go_simp
      first
        | exact hK _ _ (Below.refl _ _) rfl
        | (rw [if_pos (by omega)]; exact hK _ _ (Below.refl _ _) rfl)
        | (rw [dif_pos (by omega)]; exact hK _ _ (Below.refl _ _) rfl)
        | (rw [if_neg (by omega)]; exact hK _ _ (Below.refl _ _) rfl)
    · intro vals W K hR hV hK
      have d0 := hV 0 (by simp)
      simp only [putEV] at d0
      have d1 := hV 1 (by simp)
      simp only [putEV] at d1
      have d2 := hV 2 (by simp)
      simp only [putEV] at d2
      have d3 := hV 3 (by simp)
      simp only [putEV] at d3
      have d4 := hV 4 (by simp)
      simp only [putEV] at d4
      have d5 := hV 5 (by simp)
      simp only [putEV] at d5
      have d6 := hV 6 (by simp)
      simp only [putEV] at d6
      simp only [Reg.putS, List.foldl, List.headD, List.tail, List.getD_cons_zero, List.getD_cons_succ, Act.put, List.setIfInBounds_toArray, List.set_cons_zero, List.set_cons_succ, d0, d1, d2, d3, d4, d5, d6] at hK ⊢
      go_simp
      first
        | exact hK _ _ (Below.refl _ _) rfl
        | (rw [if_pos (by omega)]; exact hK _ _ (Below.refl _ _) rfl)
        | (rw [dif_pos (by omega)]; exact hK _ _ (Below.refl _ _) rfl)
        | (rw [if_neg (by omega)]; exact hK _ _ (Below.refl _ _) rfl)
  · intro vals W hR hV
    rw [show List.range (List.length [some 25, some 26, some 27, some 28, some 29, some 30, some 2, some 3]) = [0, 1, 2, 3, 4, 5, 6, 7] from rfl]
    have d0 := hV 0 (by decide)
    simp only [putEV] at d0
    have d1 := hV 1 (by decide)
    simp only [putEV] at d1
    have d2 := hV 2 (by decide)
    simp only [putEV] at d2
    have d3 := hV 3 (by decide)
    simp only [putEV] at d3
    have d4 := hV 4 (by decide)
    simp only [putEV] at d4
    have d5 := hV 5 (by decide)
    simp only [putEV] at d5
    have d6 := hV 6 (by decide)
    simp only [putEV] at d6
    have d7 := hV 7 (by decide)
    simp only [putEV] at d7
    clear hV
    simp only [Reg.putS, List.foldl, List.getD_cons_zero, List.getD_cons_succ, Act.put, List.setIfInBounds_toArray, List.set_cons_zero, List.set_cons_succ, d0, d1, d2, d3, d4, d5, d6, d7]
    clear d0 d1 d2 d3 d4 d5 d6 d7
    go_wp2
    go_ret2
    exact ⟨rfl, bstep (below_drew (balloc (Below.refl _ _) _)) hR⟩
/-- What the region's operations yield. -/
def frEV (r : Int) (B : Nat) (i : Nat) (v : Value) (W : World) : Prop := match i with
  | 0 => v = .string (bigS 0 1)
  | 1 => v = .pointer (some ⟨B, 1, none⟩)
  | 2 => v = .int .i64 r
  | 3 => v = .int .u64 r
  | 4 => v = .string (bigS r.toNat 4)
  | 5 => v = .string (bigS 0 1 ++ bigS r.toNat 4)
  | 6 => v = .string (bigS 0 1 ++ bigS r.toNat 4)
  | 7 => v = .bool true
  | _ => True

set_option maxHeartbeats 1000000 in
theorem fr_end (r : Int) (w : World) (hr : 0 ≤ r ∧ r ≤ 4294967295) :
    Calls Try.prog 41 #[.agg #[.int .i64 0, .int .i64 r, .int .u32 0, .string ⟨#[]⟩]] w fun e w' => e = .returned (.tuple #[.string (bigS 0 1 ++ bigS r.toNat 4), .bool true]) ∧ Below w.heap.size w w' := by
  have hbs := bigS_size
  have hwr : IntKind.u64.wrap r = r := by rw [show r = ((r.toNat : Nat) : Int) by omega]; exact wrap64u _ (by omega)
  have hc1 : (w.alloc (.cells #[.int .i64 0, .int .i64 r, .int .u32 0, .string ⟨#[]⟩] 58)).cell? ⟨w.heap.size, 1, none⟩ = some (.int .i64 r) := by simp
  have t1 : decide (r < 0) = false := by simp; omega
  have t2 : decide (4294967295 < r) = false := by simp; omega
  go_enter Try.func41, Try.ntmps41
  go_wp2_with fail
  refine Reg.wp_region_lists (fun W W' => Below W.heap.size W W') (frEV r w.heap.size)
    [some 25, some 26, some 27, some 28, some 29, some 30, some 2, some 3]
    [[], [], [1], [2], [3, 0], [0, 4], [5, 4, 0, 1, 2, 3, 4, 5], [6, 0, 1, 2, 3, 4, 5, 6]]
    (by kernel_rfl) (by kernel_rfl) (by kernel_rfl) (fun _ => Below.refl _ _) (fun _ _ _ h k => bstep h k) ?_ ?_ ?_
  · intro i v W W' h k
    unfold frEV at h ⊢
    split at h <;> first | exact h
  · refine ⟨?_, ?_, ?_, ?_, ?_, ?_, ?_, ?_, trivial⟩
    · intro vals W K hR hV hK
      simp only [Reg.putS, List.foldl, List.headD, List.tail, List.getD_cons_zero, List.getD_cons_succ, Act.put, List.setIfInBounds_toArray, List.set_cons_zero, List.set_cons_succ] at hK ⊢
      go_simp
      refine (refBig_call 0 1 _ (by omega) (by omega) (by omega)).mono ?_
      rintro e w2 ⟨rfl, hb⟩
      exact hK _ _ hb rfl
    · intro vals W K hR hV hK
      simp only [Reg.putS, List.foldl, List.headD, List.tail, List.getD_cons_zero, List.getD_cons_succ, Act.put, List.setIfInBounds_toArray, List.set_cons_zero, List.set_cons_succ] at hK ⊢
      go_simp
      first
        | exact hK _ _ (Below.refl _ _) rfl
        | (rw [if_pos (by omega)]; exact hK _ _ (Below.refl _ _) rfl)
        | (rw [dif_pos (by omega)]; exact hK _ _ (Below.refl _ _) rfl)
        | (rw [if_neg (by omega)]; exact hK _ _ (Below.refl _ _) rfl)
    · intro vals W K hR hV hK
      have d1 := hV 1 (by simp)
      simp only [frEV] at d1
      simp only [Reg.putS, List.foldl, List.headD, List.tail, List.getD_cons_zero, List.getD_cons_succ, Act.put, List.setIfInBounds_toArray, List.set_cons_zero, List.set_cons_succ, d1] at hK ⊢
      have hcl := pw_cell_below hR hc1
      go_simp
      first
        | exact hK _ _ (Below.refl _ _) rfl
        | (rw [if_pos (by omega)]; exact hK _ _ (Below.refl _ _) rfl)
        | (rw [dif_pos (by omega)]; exact hK _ _ (Below.refl _ _) rfl)
        | (rw [if_neg (by omega)]; exact hK _ _ (Below.refl _ _) rfl)
    · intro vals W K hR hV hK
      have d2 := hV 2 (by simp)
      simp only [frEV] at d2
      simp only [Reg.putS, List.foldl, List.headD, List.tail, List.getD_cons_zero, List.getD_cons_succ, Act.put, List.setIfInBounds_toArray, List.set_cons_zero, List.set_cons_succ, d2] at hK ⊢
      go_simp
      first
        | exact hK _ _ (Below.refl _ _) rfl
        | (rw [if_pos (by omega)]; exact hK _ _ (Below.refl _ _) rfl)
        | (rw [dif_pos (by omega)]; exact hK _ _ (Below.refl _ _) rfl)
        | (rw [if_neg (by omega)]; exact hK _ _ (Below.refl _ _) rfl)
    · intro vals W K hR hV hK
      have d0 := hV 0 (by simp)
      simp only [frEV] at d0
      have d3 := hV 3 (by simp)
      simp only [frEV] at d3
      simp only [Reg.putS, List.foldl, List.headD, List.tail, List.getD_cons_zero, List.getD_cons_succ, Act.put, List.setIfInBounds_toArray, List.set_cons_zero, List.set_cons_succ, d0, d3] at hK ⊢
      go_simp
      refine (refBig_call r 4 _ (by omega) (by omega) (by omega)).mono ?_
      rintro e w2 ⟨rfl, hb⟩
      exact hK _ _ hb rfl
    · intro vals W K hR hV hK
      have d0 := hV 0 (by simp)
      simp only [frEV] at d0
      have d4 := hV 4 (by simp)
      simp only [frEV] at d4
      simp only [Reg.putS, List.foldl, List.headD, List.tail, List.getD_cons_zero, List.getD_cons_succ, Act.put, List.setIfInBounds_toArray, List.set_cons_zero, List.set_cons_succ, d0, d4] at hK ⊢
      go_simp
      first
        | exact hK _ _ (Below.refl _ _) rfl
        | (rw [if_pos (by omega)]; exact hK _ _ (Below.refl _ _) rfl)
        | (rw [dif_pos (by omega)]; exact hK _ _ (Below.refl _ _) rfl)
        | (rw [if_neg (by omega)]; exact hK _ _ (Below.refl _ _) rfl)
    · intro vals W K hR hV hK
      have d0 := hV 0 (by simp)
      simp only [frEV] at d0
      have d1 := hV 1 (by simp)
      simp only [frEV] at d1
      have d2 := hV 2 (by simp)
      simp only [frEV] at d2
      have d3 := hV 3 (by simp)
      simp only [frEV] at d3
      have d4 := hV 4 (by simp)
      simp only [frEV] at d4
      have d5 := hV 5 (by simp)
      simp only [frEV] at d5
      simp only [Reg.putS, List.foldl, List.headD, List.tail, List.getD_cons_zero, List.getD_cons_succ, Act.put, List.setIfInBounds_toArray, List.set_cons_zero, List.set_cons_succ, d0, d1, d2, d3, d4, d5] at hK ⊢
      go_simp
      first
        | exact hK _ _ (Below.refl _ _) rfl
        | (rw [if_pos (by omega)]; exact hK _ _ (Below.refl _ _) rfl)
        | (rw [dif_pos (by omega)]; exact hK _ _ (Below.refl _ _) rfl)
        | (rw [if_neg (by omega)]; exact hK _ _ (Below.refl _ _) rfl)
    · intro vals W K hR hV hK
      have d0 := hV 0 (by simp)
      simp only [frEV] at d0
      have d1 := hV 1 (by simp)
      simp only [frEV] at d1
      have d2 := hV 2 (by simp)
      simp only [frEV] at d2
      have d3 := hV 3 (by simp)
      simp only [frEV] at d3
      have d4 := hV 4 (by simp)
      simp only [frEV] at d4
      have d5 := hV 5 (by simp)
      simp only [frEV] at d5
      have d6 := hV 6 (by simp)
      simp only [frEV] at d6
      simp only [Reg.putS, List.foldl, List.headD, List.tail, List.getD_cons_zero, List.getD_cons_succ, Act.put, List.setIfInBounds_toArray, List.set_cons_zero, List.set_cons_succ, d0, d1, d2, d3, d4, d5, d6] at hK ⊢
      go_simp
      first
        | exact hK _ _ (Below.refl _ _) rfl
        | (rw [if_pos (by omega)]; exact hK _ _ (Below.refl _ _) rfl)
        | (rw [dif_pos (by omega)]; exact hK _ _ (Below.refl _ _) rfl)
        | (rw [if_neg (by omega)]; exact hK _ _ (Below.refl _ _) rfl)
  · intro vals W hR hV
    rw [show List.range (List.length [some 25, some 26, some 27, some 28, some 29, some 30, some 2, some 3]) = [0, 1, 2, 3, 4, 5, 6, 7] from rfl]
    have d0 := hV 0 (by decide)
    simp only [frEV] at d0
    have d1 := hV 1 (by decide)
    simp only [frEV] at d1
    have d2 := hV 2 (by decide)
    simp only [frEV] at d2
    have d3 := hV 3 (by decide)
    simp only [frEV] at d3
    have d4 := hV 4 (by decide)
    simp only [frEV] at d4
    have d5 := hV 5 (by decide)
    simp only [frEV] at d5
    have d6 := hV 6 (by decide)
    simp only [frEV] at d6
    have d7 := hV 7 (by decide)
    simp only [frEV] at d7
    clear hV
    simp only [Reg.putS, List.foldl, List.getD_cons_zero, List.getD_cons_succ, Act.put, List.setIfInBounds_toArray, List.set_cons_zero, List.set_cons_succ, d0, d1, d2, d3, d4, d5, d6, d7]
    clear d0 d1 d2 d3 d4 d5 d6 d7
    go_wp2
    go_ret2
    exact ⟨rfl, bstep (below_drew (balloc (Below.refl _ _) _)) hR⟩

end Go.Proofs.Ythaoofnnhdkboaa.FrP
