/- The walk of the reference's Unhead, and both at every length. -/
import Derived.Test.YthaoofnnhdkboaaFrG
import Derived.WalkSpells
set_option linter.unusedSimpArgs false
set_option linter.unusedVariables false
namespace Go.Proofs.Ythaoofnnhdkboaa.FrU
open Go.RowKit Go.Proofs.Ythaoofnnhdkboaa.CrcL Go.Proofs.Ythaoofnnhdkboaa.FrW Go.Proofs.Ythaoofnnhdkboaa.FrH Go.Proofs.Ythaoofnnhdkboaa.FrG


theorem b8_nonneg (b : ByteArray) (i : Nat) : 0 ≤ b8 b i ∧ b8 b i ≤ 255 := by unfold b8; have := (b.data.toList.getD i 0).toNat_lt; omega
theorem k_bad {k : Int} (h : 1 < k) : (k != 0) = true ∧ (k != 1) = true := by constructor <;> simp <;> omega
theorem kind_le {b : ByteArray} (h : b8 b 5 ≤ 1) : b8 b 5 = 0 ∨ b8 b 5 = 1 := by have := b8_nonneg b 5; omega
theorem s_bad {n : Int} (h : n < 1 ∨ 1024 < n) : (!decide (1 ≤ n)) = true ∨ (!decide (n ≤ 1024)) = true := by simp; omega
theorem s_ok {n : Int} (h : 1 ≤ n ∧ n ≤ 1024) : (!decide (1 ≤ n)) = false ∧ (!decide (n ≤ 1024)) = false := by simp; omega
/-- What the region's operations yield. -/
def unV (b : ByteArray) (B : Nat) (i : Nat) (v : Value) (W : World) : Prop := match i with
  | 0 => v = .string b
  | 1 => v = .int .u8 (b8 b 5)
  | 2 => v = .int .i64 (b8 b 5)
  | 3 => v = .string b
  | 4 => v = .string (b.extract 6 9)
  | 5 => v = .int .u64 (numS (b.extract 6 9))
  | 6 => v = .int .i64 (numS (b.extract 6 9))
  | 7 => v = .string b
  | 8 => v = .string (b.extract 9 17)
  | 9 => v = .int .u64 (numS (b.extract 9 17))
  | 10 => v = .agg #[.int .i64 (b8 b 5), .int .i64 (numS (b.extract 6 9)), .int .u64 (numS (b.extract 9 17))]
  | 11 => ∃ g, v = .pointer (some ⟨g, 0, none⟩) ∧ B ≤ g ∧ W.heap[g]? = some (.cells #[.int .i64 0, .int .i64 0, .int .u64 0] 49 (0, 0))
  | _ => True

set_option maxHeartbeats 1000000 in
theorem unhead_long (b : ByteArray) (w : World) (h : 17 ≤ b.size) (hs : b.size ≤ 140737488351232) :
    Calls Try.prog 39 #[.string b] w fun e w' => e = .returned (.tuple #[headAgg (getH b), .int .i64 (getH b).2]) ∧ Below w.heap.size w w' := by
  have hL : decide ((b.size : Int) < 17) = false := by simp; omega
  have hwc := num_small b
  go_enter Try.func39, Try.ntmps39
  go_wp2_with fail
  refine Reg.wp_region_last 12 (fun W W' => Below W.heap.size W W') (unV b (w.heap.size + 1))
    [some 9, some 10, some 11, some 12, some 13, some 14, some 15, some 16, some 17, some 18, some 19, some 4, none]
    [[], [0], [1], [], [3], [4], [5], [], [7], [8, 5], [2, 6, 9], [], [11, 10, 9, 0, 1, 2, 3, 4, 5, 6, 7, 8, 9, 10, 11]]
    (by kernel_rfl) (by kernel_rfl) (by kernel_rfl) (by kernel_rfl) (by kernel_rfl) (fun _ => Below.refl _ _) (fun _ _ _ h k => bstep h k) ?_ ?_ ?_
  · intro i v W W' h k
    unfold unV at h ⊢
    split at h <;> first | exact h | (obtain ⟨g, e, hg, hh⟩ := h; exact ⟨g, e, hg, heap_below k hh⟩)
  · refine ⟨?_, ?_, ?_, ?_, ?_, ?_, ?_, ?_, ?_, ?_, ?_, ?_, trivial⟩
    · intro vals W K hR hV hK
      simp only [Reg.putS, List.foldl, List.headD, List.tail, List.getD_cons_zero, List.getD_cons_succ, Act.put, List.setIfInBounds_toArray, List.set_cons_zero, List.set_cons_succ] at hK ⊢
      go_simp
      first
        | exact hK _ _ (Below.refl _ _) rfl
        | (rw [if_pos (by omega)]; exact hK _ _ (Below.refl _ _) rfl)
        | (rw [dif_pos (by omega)]; exact hK _ _ (Below.refl _ _) rfl)
        | (rw [if_neg (by omega)]; exact hK _ _ (Below.refl _ _) rfl)
    · intro vals W K hR hV hK
      have d0 := hV 0 (by simp)
      simp only [unV] at d0
      simp only [Reg.putS, List.foldl, List.headD, List.tail, List.getD_cons_zero, List.getD_cons_succ, Act.put, List.setIfInBounds_toArray, List.set_cons_zero, List.set_cons_succ, d0] at hK ⊢
      have hb5 := b8_get b 5 (by omega)
      go_simp
      rw [if_pos (by omega)]
      exact hK _ _ (Below.refl _ _) rfl
    · intro vals W K hR hV hK
      have d1 := hV 1 (by simp)
      simp only [unV] at d1
      simp only [Reg.putS, List.foldl, List.headD, List.tail, List.getD_cons_zero, List.getD_cons_succ, Act.put, List.setIfInBounds_toArray, List.set_cons_zero, List.set_cons_succ, d1] at hK ⊢
      have hwb := b8_wrap b 5
      go_simp
      first
        | exact hK _ _ (Below.refl _ _) rfl
        | (rw [if_pos (by omega)]; exact hK _ _ (Below.refl _ _) rfl)
        | (rw [dif_pos (by omega)]; exact hK _ _ (Below.refl _ _) rfl)
        | (rw [if_neg (by omega)]; exact hK _ _ (Below.refl _ _) rfl)
    · intro vals W K hR hV hK
      simp only [Reg.putS, List.foldl, List.headD, List.tail, List.getD_cons_zero, List.getD_cons_succ, Act.put, List.setIfInBounds_toArray, List.set_cons_zero, List.set_cons_succ] at hK ⊢
      go_simp
      first
        | exact hK _ _ (Below.refl _ _) rfl
        | (rw [if_pos (by omega)]; exact hK _ _ (Below.refl _ _) rfl)
        | (rw [dif_pos (by omega)]; exact hK _ _ (Below.refl _ _) rfl)
        | (rw [if_neg (by omega)]; exact hK _ _ (Below.refl _ _) rfl)
    · intro vals W K hR hV hK
      have d3 := hV 3 (by simp)
      simp only [unV] at d3
      simp only [Reg.putS, List.foldl, List.headD, List.tail, List.getD_cons_zero, List.getD_cons_succ, Act.put, List.setIfInBounds_toArray, List.set_cons_zero, List.set_cons_succ, d3] at hK ⊢
      go_simp
      first
        | exact hK _ _ (Below.refl _ _) rfl
        | (rw [if_pos (by omega)]; exact hK _ _ (Below.refl _ _) rfl)
        | (rw [dif_pos (by omega)]; exact hK _ _ (Below.refl _ _) rfl)
        | (rw [if_neg (by omega)]; exact hK _ _ (Below.refl _ _) rfl)
    · intro vals W K hR hV hK
      have d4 := hV 4 (by simp)
      simp only [unV] at d4
      simp only [Reg.putS, List.foldl, List.headD, List.tail, List.getD_cons_zero, List.getD_cons_succ, Act.put, List.setIfInBounds_toArray, List.set_cons_zero, List.set_cons_succ, d4] at hK ⊢
      go_simp
      refine (refOf_any _ _ (ext_size b 6 9 (by omega))).mono ?_
      rintro e w2 ⟨rfl, rfl⟩
      exact hK _ _ (Below.refl _ _) rfl
    · intro vals W K hR hV hK
      have d5 := hV 5 (by simp)
      simp only [unV] at d5
      simp only [Reg.putS, List.foldl, List.headD, List.tail, List.getD_cons_zero, List.getD_cons_succ, Act.put, List.setIfInBounds_toArray, List.set_cons_zero, List.set_cons_succ, d5] at hK ⊢
      go_simp
      first
        | exact hK _ _ (Below.refl _ _) rfl
        | (rw [if_pos (by omega)]; exact hK _ _ (Below.refl _ _) rfl)
        | (rw [dif_pos (by omega)]; exact hK _ _ (Below.refl _ _) rfl)
        | (rw [if_neg (by omega)]; exact hK _ _ (Below.refl _ _) rfl)
    · intro vals W K hR hV hK
      simp only [Reg.putS, List.foldl, List.headD, List.tail, List.getD_cons_zero, List.getD_cons_succ, Act.put, List.setIfInBounds_toArray, List.set_cons_zero, List.set_cons_succ] at hK ⊢
      go_simp
      first
        | exact hK _ _ (Below.refl _ _) rfl
        | (rw [if_pos (by omega)]; exact hK _ _ (Below.refl _ _) rfl)
        | (rw [dif_pos (by omega)]; exact hK _ _ (Below.refl _ _) rfl)
        | (rw [if_neg (by omega)]; exact hK _ _ (Below.refl _ _) rfl)
    · intro vals W K hR hV hK
      have d7 := hV 7 (by simp)
      simp only [unV] at d7
      simp only [Reg.putS, List.foldl, List.headD, List.tail, List.getD_cons_zero, List.getD_cons_succ, Act.put, List.setIfInBounds_toArray, List.set_cons_zero, List.set_cons_succ, d7] at hK ⊢
      go_simp
      first
        | exact hK _ _ (Below.refl _ _) rfl
        | (rw [if_pos (by omega)]; exact hK _ _ (Below.refl _ _) rfl)
        | (rw [dif_pos (by omega)]; exact hK _ _ (Below.refl _ _) rfl)
        | (rw [if_neg (by omega)]; exact hK _ _ (Below.refl _ _) rfl)
    · intro vals W K hR hV hK
      have d5 := hV 5 (by simp)
      simp only [unV] at d5
      have d8 := hV 8 (by simp)
      simp only [unV] at d8
      simp only [Reg.putS, List.foldl, List.headD, List.tail, List.getD_cons_zero, List.getD_cons_succ, Act.put, List.setIfInBounds_toArray, List.set_cons_zero, List.set_cons_succ, d5, d8] at hK ⊢
      go_simp
      refine (refOf_any _ _ (ext_size b 9 17 (by omega))).mono ?_
      rintro e w2 ⟨rfl, rfl⟩
      exact hK _ _ (Below.refl _ _) rfl
    · intro vals W K hR hV hK
      have d2 := hV 2 (by simp)
      simp only [unV] at d2
      have d6 := hV 6 (by simp)
      simp only [unV] at d6
      have d9 := hV 9 (by simp)
      simp only [unV] at d9
      simp only [Reg.putS, List.foldl, List.headD, List.tail, List.getD_cons_zero, List.getD_cons_succ, Act.put, List.setIfInBounds_toArray, List.set_cons_zero, List.set_cons_succ, d2, d6, d9] at hK ⊢
      go_simp
      first
        | exact hK _ _ (Below.refl _ _) rfl
        | (rw [if_pos (by omega)]; exact hK _ _ (Below.refl _ _) rfl)
        | (rw [dif_pos (by omega)]; exact hK _ _ (Below.refl _ _) rfl)
        | (rw [if_neg (by omega)]; exact hK _ _ (Below.refl _ _) rfl)
    · intro vals W K hR hV hK
      simp only [Reg.putS, List.foldl, List.headD, List.tail, List.getD_cons_zero, List.getD_cons_succ, Act.put, List.setIfInBounds_toArray, List.set_cons_zero, List.set_cons_succ] at hK ⊢
      have hB : w.heap.size + 1 ≤ W.heap.size := by have := hR.size; simp at this; omega
      go_simp
      exact hK _ _ (balloc (Below.refl _ _) _) ⟨_, rfl, hB, heap_new W _⟩
  · intro vals W o ho hR hV
    simp only [List.getElem?_toArray, List.getElem?_cons_succ, List.getElem?_cons_zero, Option.some.injEq] at ho
    subst ho
    have d0 := hV 0 (by decide)
    simp only [unV] at d0
    have d1 := hV 1 (by decide)
    simp only [unV] at d1
    have d2 := hV 2 (by decide)
    simp only [unV] at d2
    have d3 := hV 3 (by decide)
    simp only [unV] at d3
    have d4 := hV 4 (by decide)
    simp only [unV] at d4
    have d5 := hV 5 (by decide)
    simp only [unV] at d5
    have d6 := hV 6 (by decide)
    simp only [unV] at d6
    have d7 := hV 7 (by decide)
    simp only [unV] at d7
    have d8 := hV 8 (by decide)
    simp only [unV] at d8
    have d9 := hV 9 (by decide)
    simp only [unV] at d9
    have d10 := hV 10 (by decide)
    simp only [unV] at d10
    have d11 := hV 11 (by decide)
    simp only [unV] at d11
    refine Exists.elim d11 fun g e11 => ?_
    clear d11
    have d11 := e11.1
    have hg := e11.2.1
    have hh := e11.2.2
    clear e11
    unfold Reg.LastStep
    rw [show List.range 12 = [0, 1, 2, 3, 4, 5, 6, 7, 8, 9, 10, 11] from rfl]
    clear hV
    simp only [Reg.putS, List.foldl, List.getD_cons_zero, List.getD_cons_succ, Act.put, List.setIfInBounds_toArray, List.set_cons_zero, List.set_cons_succ, d0, d1, d2, d3, d4, d5, d6, d7, d8, d9, d10, d11]
    clear d0 d1 d2 d3 d4 d5 d6 d7 d8 d9 d10 d11
    have c0 : W.cell? ⟨g, 0, none⟩ = some (.int .i64 0) := by simp [World.cell?, hh]
    have c1 : W.cell? ⟨g, 1, none⟩ = some (.int .i64 0) := by simp [World.cell?, hh]
    have c2 : W.cell? ⟨g, 2, none⟩ = some (.int .u64 0) := by simp [World.cell?, hh]
    have f0 : W.frozen? ⟨g, 0, none⟩ = false := by simp [World.frozen?, hh]
    have f1 : W.frozen? ⟨g, 1, none⟩ = false := by simp [World.frozen?, hh]
    have f2 : W.frozen? ⟨g, 2, none⟩ = false := by simp [World.frozen?, hh]
    go_simp
    have P := post_store hR rfl (below_drew (balloc (Below.refl _ _) _)) hg hh (b8 b 5) (numS (b.extract 6 9)) (numS (b.extract 9 17))
    generalize ((W.setCell ⟨g, 0, none⟩ (.int .i64 (b8 b 5))).setCell ⟨g, 1, none⟩ (.int .i64 (numS (b.extract 6 9)))).setCell ⟨g, 2, none⟩ (.int .u64 (numS (b.extract 9 17))) = W2 at P ⊢
    obtain ⟨hb2, k0, k1, k2, r0, r1, r2, q0, q1, q2⟩ := P
    clear hR hh c0 c1 c2 f0 f1 f2 W vals
    go_wp2_with (go_at_call 45; refine (size_any _ _).mono ?_; rintro e w9 ⟨rfl, rfl⟩)
    go_ways
    · have hx := get_badV h (by assumption)
      refine bodyPost_ret (v := .tuple #[headAgg (getH b), .int .i64 (getH b).2]) ?_ rfl ⟨rfl, ?_⟩
      · rw [hx]; simp [results, Try.results38, go_sem, headAgg, k0, k1, k2, r0, r1, r2, q0, q1, q2] <;> omega
      · exact ((hb2.setCell (Nat.le_refl _) _).setCell (Nat.le_refl _) _).setCell (Nat.le_refl _) _
    · have hx := get_badK h (by assumption) (by assumption) (k_bad (by assumption))
      refine bodyPost_ret (v := .tuple #[headAgg (getH b), .int .i64 (getH b).2]) ?_ rfl ⟨rfl, ?_⟩
      · rw [hx]; simp [results, Try.results38, go_sem, headAgg, k0, k1, k2, r0, r1, r2, q0, q1, q2] <;> omega
      · exact ((hb2.setCell (Nat.le_refl _) _).setCell (Nat.le_refl _) _).setCell (Nat.le_refl _) _
    · have hx := get_badS h (by assumption) (by assumption) (kind_le (by assumption)) (s_bad (by assumption))
      refine bodyPost_ret (v := .tuple #[headAgg (getH b), .int .i64 (getH b).2]) ?_ rfl ⟨rfl, ?_⟩
      · rw [hx]; simp [results, Try.results38, go_sem, headAgg, k0, k1, k2, r0, r1, r2, q0, q1, q2] <;> omega
      · exact ((hb2.setCell (Nat.le_refl _) _).setCell (Nat.le_refl _) _).setCell (Nat.le_refl _) _
    · have hx := get_ok h (by assumption) (by assumption) (kind_le (by assumption)) (s_ok (by assumption))
      refine bodyPost_ret (v := .tuple #[headAgg (getH b), .int .i64 (getH b).2]) ?_ rfl ⟨rfl, ?_⟩
      · rw [hx]; simp [results, Try.results38, go_sem, headAgg, k0, k1, k2, r0, r1, r2, q0, q1, q2] <;> omega
      · exact ((hb2.setCell (Nat.le_refl _) _).setCell (Nat.le_refl _) _).setCell (Nat.le_refl _) _
    · have hx := get_badS h (by assumption) (by assumption) (kind_le (by assumption)) (s_bad (Or.inl (by assumption)))
      refine bodyPost_ret (v := .tuple #[headAgg (getH b), .int .i64 (getH b).2]) ?_ rfl ⟨rfl, ?_⟩
      · rw [hx]; simp [results, Try.results38, go_sem, headAgg, k0, k1, k2, r0, r1, r2, q0, q1, q2] <;> omega
      · exact ((hb2.setCell (Nat.le_refl _) _).setCell (Nat.le_refl _) _).setCell (Nat.le_refl _) _
    · have hx := get_badM h (by assumption)
      refine bodyPost_ret (v := .tuple #[headAgg (getH b), .int .i64 (getH b).2]) ?_ rfl ⟨rfl, ?_⟩
      · rw [hx]; simp [results, Try.results38, go_sem, headAgg, k0, k1, k2, r0, r1, r2, q0, q1, q2] <;> omega
      · exact ((hb2.setCell (Nat.le_refl _) _).setCell (Nat.le_refl _) _).setCell (Nat.le_refl _) _

theorem get_short (b : ByteArray) (w : World) (h : b.size < 17) :
    Calls Try.prog 38 #[.string b] w fun e w' => e = .returned (.tuple #[headAgg (getH b), .int .i64 (getH b).2]) ∧ Below w.heap.size w w' := by
  have hL : decide ((b.size : Int) < 17) = true := by simp; omega
  have hx : getH b = ((0, 0, 0), 2) := by unfold getH; rw [if_pos h]
  go_enter Try.func38, Try.ntmps38
  go_wp2_with fail
  refine bodyPost_ret (v := .tuple #[headAgg (getH b), .int .i64 (getH b).2]) ?_ rfl ⟨rfl, ?_⟩
  · rw [hx]; simp [results, Try.results38, go_sem, headAgg]
  · exact balloc (Below.refl _ _) _

theorem unhead_short (b : ByteArray) (w : World) (h : b.size < 17) :
    Calls Try.prog 39 #[.string b] w fun e w' => e = .returned (.tuple #[headAgg (getH b), .int .i64 (getH b).2]) ∧ Below w.heap.size w w' := by
  have hL : decide ((b.size : Int) < 17) = true := by simp; omega
  have hx : getH b = ((0, 0, 0), 2) := by unfold getH; rw [if_pos h]
  go_enter Try.func39, Try.ntmps39
  go_wp2_with fail
  refine bodyPost_ret (v := .tuple #[headAgg (getH b), .int .i64 (getH b).2]) ?_ rfl ⟨rfl, ?_⟩
  · rw [hx]; simp [results, Try.results39, go_sem, headAgg]
  · exact balloc (Below.refl _ _) _

/-- At every length. -/
theorem get_any (b : ByteArray) (w : World) (hs : b.size ≤ 140737488351232) :
    Calls Try.prog 38 #[.string b] w fun e w' => e = .returned (.tuple #[headAgg (getH b), .int .i64 (getH b).2]) ∧ Below w.heap.size w w' := by
  rcases Nat.lt_or_ge b.size 17 with h | h
  · exact get_short b w h
  · exact get_long b w h hs

/-- At every length. -/
theorem unhead_any (b : ByteArray) (w : World) (hs : b.size ≤ 140737488351232) :
    Calls Try.prog 39 #[.string b] w fun e w' => e = .returned (.tuple #[headAgg (getH b), .int .i64 (getH b).2]) ∧ Below w.heap.size w w' := by
  rcases Nat.lt_or_ge b.size 17 with h | h
  · exact unhead_short b w h
  · exact unhead_long b w h hs

end Go.Proofs.Ythaoofnnhdkboaa.FrU
