/- frame.Get where a block's frame stands first, and at all bytes. -/
import Derived.Test.YthaoofnnhdkboaaFrR
import Derived.WalkSpells
set_option linter.unusedSimpArgs false
set_option linter.unusedVariables false
namespace Go.Proofs.Ythaoofnnhdkboaa.FrB
open Go.RowKit Go.Proofs.Ythaoofnnhdkboaa.CrcL Go.Proofs.Ythaoofnnhdkboaa.FrW Go.Proofs.Ythaoofnnhdkboaa.FrH Go.Proofs.Ythaoofnnhdkboaa.FrU Go.Proofs.Ythaoofnnhdkboaa.FrL Go.Proofs.Ythaoofnnhdkboaa.FrP Go.Proofs.Ythaoofnnhdkboaa.FrE Go.Proofs.Ythaoofnnhdkboaa.FrA Go.Proofs.Ythaoofnnhdkboaa.FrN Go.Proofs.Ythaoofnnhdkboaa.FrQ Go.Proofs.Ythaoofnnhdkboaa.FrR
open Go.Proofs.Ythaoofnnhdkboaa.FrG (b8 b8_get b8_wrap heap_new ext_size heap_below)

theorem no_or {m r : Int} {c : Bool} (h1 : ¬ m < r) (h2 : c = true) : ¬ (m < r ∨ c = false) := by rintro (e | e); exact h1 e; rw [h2] at e; cases e
structure Stored (w W2 : World) (g : Nat) (x y z : Int) : Prop where
  below : Below w.heap.size w W2
  k0 : W2.cell? ⟨g, 0, none⟩ = some (.int .i64 x)
  k1 : W2.cell? ⟨g, 1, none⟩ = some (.int .i64 y)
  k2 : W2.cell? ⟨g, 2, none⟩ = some (.int .u32 z)
  k3 : W2.cell? ⟨g, 3, none⟩ = some (.string ⟨#[]⟩)
  p3 : W2.frozen? ⟨g, 3, none⟩ = false
  r0 : W2.cell? ⟨w.heap.size, 0, none⟩ = some (.int .i64 0)
  r1 : W2.cell? ⟨w.heap.size, 1, none⟩ = some (.int .i64 0)
  r2 : W2.cell? ⟨w.heap.size, 2, none⟩ = some (.int .u32 0)
  r3 : W2.cell? ⟨w.heap.size, 3, none⟩ = some (.string ⟨#[]⟩)
  q0 : W2.frozen? ⟨w.heap.size, 0, none⟩ = false
  q1 : W2.frozen? ⟨w.heap.size, 1, none⟩ = false
  q2 : W2.frozen? ⟨w.heap.size, 2, none⟩ = false
  q3 : W2.frozen? ⟨w.heap.size, 3, none⟩ = false
theorem post_store {w W W0 : World} {g : Nat} (hR : Below W0.heap.size W0 W) (e0 : W0.heap = (w.alloc (.cells #[.int .i64 0, .int .i64 0, .int .u32 0, .string ⟨#[]⟩] 58)).heap) (e1 : Below w.heap.size w W0) (hg : w.heap.size + 1 ≤ g) (hh : W.heap[g]? = some (.cells #[.int .i64 0, .int .i64 0, .int .u32 0, .string ⟨#[]⟩] 58 (0, 0))) (x y z : Int) :
    Stored w ((((W.setCell ⟨g, 0, none⟩ (.int .i64 x)).setCell ⟨g, 1, none⟩ (.int .i64 y)).setCell ⟨g, 2, none⟩ (.int .u32 z)).setCell ⟨g, 3, none⟩ (.string ⟨#[]⟩)) g x y z := by
  have c0 : W.cell? ⟨g, 0, none⟩ = some (.int .i64 0) := by simp [World.cell?, hh]
  have c1 : W.cell? ⟨g, 1, none⟩ = some (.int .i64 0) := by simp [World.cell?, hh]
  have c2 : W.cell? ⟨g, 2, none⟩ = some (.int .u32 0) := by simp [World.cell?, hh]
  have c3 : W.cell? ⟨g, 3, none⟩ = some (.string ⟨#[]⟩) := by simp [World.cell?, hh]
  have hr : W.heap[w.heap.size]? = some (.cells #[.int .i64 0, .int .i64 0, .int .u32 0, .string ⟨#[]⟩] 58 (0, 0)) := by
    have h1 : W0.heap[w.heap.size]? = some (.cells #[.int .i64 0, .int .i64 0, .int .u32 0, .string ⟨#[]⟩] 58 (0, 0)) := by rw [e0]; exact heap_new w _
    exact heap_below hR h1
  have d0 : W.cell? ⟨w.heap.size, 0, none⟩ = some (.int .i64 0) := by simp [World.cell?, hr]
  have d1 : W.cell? ⟨w.heap.size, 1, none⟩ = some (.int .i64 0) := by simp [World.cell?, hr]
  have d2 : W.cell? ⟨w.heap.size, 2, none⟩ = some (.int .u32 0) := by simp [World.cell?, hr]
  have d3 : W.cell? ⟨w.heap.size, 3, none⟩ = some (.string ⟨#[]⟩) := by simp [World.cell?, hr]
  have ne : ∀ i j : Nat, (⟨g, i, none⟩ : Addr) ≠ ⟨w.heap.size, j, none⟩ := fun i j e => by injection e with e1 _ _; omega
  have no : ∀ i j : Nat, i ≠ j → (⟨g, i, none⟩ : Addr) ≠ ⟨g, j, none⟩ := fun i j h e => by injection e with _ e2 _; exact h e2
  refine ⟨((((bstep e1 hR).setCell (by show w.heap.size ≤ g; omega) _).setCell (by show w.heap.size ≤ g; omega) _).setCell (by show w.heap.size ≤ g; omega) _).setCell (by show w.heap.size ≤ g; omega) _, ?_, ?_, ?_, ?_, ?_, ?_, ?_, ?_, ?_, ?_, ?_, ?_, ?_⟩
  · rw [cell_other (no 3 0 (by decide)), cell_other (no 2 0 (by decide)), cell_other (no 1 0 (by decide))]; exact cell_same c0
  · rw [cell_other (no 3 1 (by decide)), cell_other (no 2 1 (by decide))]; exact cell_same (by rw [cell_other (no 0 1 (by decide))]; exact c1)
  · rw [cell_other (no 3 2 (by decide))]; exact cell_same (by rw [cell_other (no 1 2 (by decide)), cell_other (no 0 2 (by decide))]; exact c2)
  · exact cell_same (by rw [cell_other (no 2 3 (by decide)), cell_other (no 1 3 (by decide)), cell_other (no 0 3 (by decide))]; exact c3)
  · rw [World.frozen?_setCell, World.frozen?_setCell, World.frozen?_setCell, World.frozen?_setCell]; simp [World.frozen?, hh]
  · rw [cell_other (ne 3 0), cell_other (ne 2 0), cell_other (ne 1 0), cell_other (ne 0 0)]; exact d0
  · rw [cell_other (ne 3 1), cell_other (ne 2 1), cell_other (ne 1 1), cell_other (ne 0 1)]; exact d1
  · rw [cell_other (ne 3 2), cell_other (ne 2 2), cell_other (ne 1 2), cell_other (ne 0 2)]; exact d2
  · rw [cell_other (ne 3 3), cell_other (ne 2 3), cell_other (ne 1 3), cell_other (ne 0 3)]; exact d3
  all_goals (rw [World.frozen?_setCell, World.frozen?_setCell, World.frozen?_setCell, World.frozen?_setCell]; simp [World.frozen?, hr])
/-- What the region's operations yield. -/
def gfV (b : ByteArray) (B : Nat) (i : Nat) (v : Value) (W : World) : Prop := match i with
  | 0 => v = .string b
  | 1 => v = .int .u8 (b8 b 0)
  | 2 => v = .int .i64 (b8 b 0)
  | 3 => v = .string b
  | 4 => v = .string (b.extract 1 3)
  | 5 => v = .int .u64 (numS (b.extract 1 3))
  | 6 => v = .int .i64 (numS (b.extract 1 3))
  | 7 => v = .string b
  | 8 => v = .string (b.extract 5 9)
  | 9 => v = .int .u64 (numS (b.extract 5 9))
  | 10 => v = .int .u32 (numS (b.extract 5 9))
  | 11 => v = .agg #[.int .i64 (b8 b 0), .int .i64 (numS (b.extract 1 3)), .int .u32 (numS (b.extract 5 9)), .string ⟨#[]⟩]
  | 12 => ∃ g, v = .pointer (some ⟨g, 0, none⟩) ∧ B ≤ g ∧ W.heap[g]? = some (.cells #[.int .i64 0, .int .i64 0, .int .u32 0, .string ⟨#[]⟩] 58 (0, 0))
  | _ => True

set_option maxHeartbeats 1000000 in
theorem get_block (b : ByteArray) (m : Int) (w : World) (hs : b.size ≤ 140737488351232) (h1 : 9 ≤ b.size) (h2 : b8 b 0 = 1 ∨ b8 b 0 = 2) :
    Calls Try.prog 42 #[.string b, .int .i64 m] w fun e w' => e = getOut b m ∧ Below w.heap.size w w' := by
  have hne := nonempty_of (show 1 ≤ b.size by omega)
  have hb0 := b8_get b 0 (by omega)
  have h0 : ¬ b.size = 0 := by omega
  have h4 : ¬ b8 b 0 = 0 := by omega
  have h5 : ¬ 2 < b8 b 0 := by omega
  have h6 : ¬ b.size < 9 := by omega
  have hlf : decide ((b.size : Int) < 9) = false := by simp; omega
  have hw1 := wrap_small4 b 1 3 (by omega)
  have hw5 := wrap_u32 b 5 9 (by omega)
  unfold getOut
  go_enter Try.func42, Try.ntmps42
  go_wp2_with fail
  refine Reg.wp_region_last 13 (fun W W' => Below W.heap.size W W') (gfV b (w.heap.size + 1))
    [some 47, some 48, some 49, some 50, some 51, some 52, some 53, some 54, some 55, some 56, some 57, some 58, some 7, none]
    [[], [0], [1], [], [3], [4], [5], [], [7], [8, 5], [9], [2, 6, 10], [], [12, 11, 9, 0, 1, 2, 3, 4, 5, 6, 7, 8, 9, 10, 11, 12]]
    (by kernel_rfl) (by kernel_rfl) (by kernel_rfl) (by kernel_rfl) (by kernel_rfl) (fun _ => Below.refl _ _) (fun _ _ _ h k => bstep h k) ?_ ?_ ?_
  · intro i v W W' h k
    unfold gfV at h ⊢
    split at h <;> first | exact h | (obtain ⟨g, e, hg, hh⟩ := h; exact ⟨g, e, hg, heap_below k hh⟩)
  · refine ⟨?_, ?_, ?_, ?_, ?_, ?_, ?_, ?_, ?_, ?_, ?_, ?_, ?_, trivial⟩
    · intro vals W K hR hV hK
      simp only [Reg.putS, List.foldl, List.headD, List.tail, List.getD_cons_zero, List.getD_cons_succ, Act.put, List.setIfInBounds_toArray, List.set_cons_zero, List.set_cons_succ] at hK ⊢
      go_simp
      first
        | exact hK _ _ (Below.refl _ _) rfl
        | (rw [if_pos (by omega)]; exact hK _ _ (Below.refl _ _) rfl)
        | (rw [dif_pos (by omega)]; exact hK _ _ (Below.refl _ _) rfl)
        | (rw [if_neg (by omega)]; exact hK _ _ (Below.refl _ _) rfl)
    · intro vals W K hR hV hK
      have d0 := hV 0 (by simp)
      simp only [gfV] at d0
      simp only [Reg.putS, List.foldl, List.headD, List.tail, List.getD_cons_zero, List.getD_cons_succ, Act.put, List.setIfInBounds_toArray, List.set_cons_zero, List.set_cons_succ, d0] at hK ⊢
      have hb0 := b8_get b 0 (by omega)
      go_simp
      rw [if_pos (by omega)]
      exact hK _ _ (Below.refl _ _) rfl
    · intro vals W K hR hV hK
      have d1 := hV 1 (by simp)
      simp only [gfV] at d1
      simp only [Reg.putS, List.foldl, List.headD, List.tail, List.getD_cons_zero, List.getD_cons_succ, Act.put, List.setIfInBounds_toArray, List.set_cons_zero, List.set_cons_succ, d1] at hK ⊢
      have hwb := b8_wrap b 0
      go_simp
      first
        | exact hK _ _ (Below.refl _ _) rfl
        | (rw [if_pos (by omega)]; exact hK _ _ (Below.refl _ _) rfl)
        | (rw [dif_pos (by omega)]; exact hK _ _ (Below.refl _ _) rfl)
        | (rw [if_neg (by omega)]; exact hK _ _ (Below.refl _ _) rfl)
    · intro vals W K hR hV hK
      simp only [Reg.putS, List.foldl, List.headD, List.tail, List.getD_cons_zero, List.getD_cons_succ, Act.put, List.setIfInBounds_toArray, List.set_cons_zero, List.set_cons_succ] at hK ⊢
      go_simp
      first
        | exact hK _ _ (Below.refl _ _) rfl
        | (rw [if_pos (by omega)]; exact hK _ _ (Below.refl _ _) rfl)
        | (rw [dif_pos (by omega)]; exact hK _ _ (Below.refl _ _) rfl)
        | (rw [if_neg (by omega)]; exact hK _ _ (Below.refl _ _) rfl)
    · intro vals W K hR hV hK
      have d3 := hV 3 (by simp)
      simp only [gfV] at d3
      simp only [Reg.putS, List.foldl, List.headD, List.tail, List.getD_cons_zero, List.getD_cons_succ, Act.put, List.setIfInBounds_toArray, List.set_cons_zero, List.set_cons_succ, d3] at hK ⊢
      go_simp
      first
        | exact hK _ _ (Below.refl _ _) rfl
        | (rw [if_pos (by omega)]; exact hK _ _ (Below.refl _ _) rfl)
        | (rw [dif_pos (by omega)]; exact hK _ _ (Below.refl _ _) rfl)
        | (rw [if_neg (by omega)]; exact hK _ _ (Below.refl _ _) rfl)
    · intro vals W K hR hV hK
      have d4 := hV 4 (by simp)
      simp only [gfV] at d4
      simp only [Reg.putS, List.foldl, List.headD, List.tail, List.getD_cons_zero, List.getD_cons_succ, Act.put, List.setIfInBounds_toArray, List.set_cons_zero, List.set_cons_succ, d4] at hK ⊢
      go_simp
      refine (num_any _ _ (ext_size b 1 3 (by omega))).mono ?_
      rintro e w2 ⟨rfl, rfl⟩
      exact hK _ _ (Below.refl _ _) rfl
    · intro vals W K hR hV hK
      have d5 := hV 5 (by simp)
      simp only [gfV] at d5
      simp only [Reg.putS, List.foldl, List.headD, List.tail, List.getD_cons_zero, List.getD_cons_succ, Act.put, List.setIfInBounds_toArray, List.set_cons_zero, List.set_cons_succ, d5] at hK ⊢
      go_simp
      first
        | exact hK _ _ (Below.refl _ _) rfl
        | (rw [if_pos (by omega)]; exact hK _ _ (Below.refl _ _) rfl)
        | (rw [dif_pos (by omega)]; exact hK _ _ (Below.refl _ _) rfl)
        | (rw [if_neg (by omega)]; exact hK _ _ (Below.refl _ _) rfl)
    · intro vals W K hR hV hK
      simp only [Reg.putS, List.foldl, List.headD, List.tail, List.getD_cons_zero, List.getD_cons_succ, Act.put, List.setIfInBounds_toArray, List.set_cons_zero, List.set_cons_succ] at hK ⊢
      go_simp
      first
        | exact hK _ _ (Below.refl _ _) rfl
        | (rw [if_pos (by omega)]; exact hK _ _ (Below.refl _ _) rfl)
        | (rw [dif_pos (by omega)]; exact hK _ _ (Below.refl _ _) rfl)
        | (rw [if_neg (by omega)]; exact hK _ _ (Below.refl _ _) rfl)
    · intro vals W K hR hV hK
      have d7 := hV 7 (by simp)
      simp only [gfV] at d7
      simp only [Reg.putS, List.foldl, List.headD, List.tail, List.getD_cons_zero, List.getD_cons_succ, Act.put, List.setIfInBounds_toArray, List.set_cons_zero, List.set_cons_succ, d7] at hK ⊢
      go_simp
      first
        | exact hK _ _ (Below.refl _ _) rfl
        | (rw [if_pos (by omega)]; exact hK _ _ (Below.refl _ _) rfl)
        | (rw [dif_pos (by omega)]; exact hK _ _ (Below.refl _ _) rfl)
        | (rw [if_neg (by omega)]; exact hK _ _ (Below.refl _ _) rfl)
    · intro vals W K hR hV hK
      have d5 := hV 5 (by simp)
      simp only [gfV] at d5
      have d8 := hV 8 (by simp)
      simp only [gfV] at d8
      simp only [Reg.putS, List.foldl, List.headD, List.tail, List.getD_cons_zero, List.getD_cons_succ, Act.put, List.setIfInBounds_toArray, List.set_cons_zero, List.set_cons_succ, d5, d8] at hK ⊢
      go_simp
      refine (num_any _ _ (ext_size b 5 9 (by omega))).mono ?_
      rintro e w2 ⟨rfl, rfl⟩
      exact hK _ _ (Below.refl _ _) rfl
    · intro vals W K hR hV hK
      have d9 := hV 9 (by simp)
      simp only [gfV] at d9
      simp only [Reg.putS, List.foldl, List.headD, List.tail, List.getD_cons_zero, List.getD_cons_succ, Act.put, List.setIfInBounds_toArray, List.set_cons_zero, List.set_cons_succ, d9] at hK ⊢
      go_simp
      first
        | exact hK _ _ (Below.refl _ _) rfl
        | (rw [if_pos (by omega)]; exact hK _ _ (Below.refl _ _) rfl)
        | (rw [dif_pos (by omega)]; exact hK _ _ (Below.refl _ _) rfl)
        | (rw [if_neg (by omega)]; exact hK _ _ (Below.refl _ _) rfl)
    · intro vals W K hR hV hK
      have d2 := hV 2 (by simp)
      simp only [gfV] at d2
      have d6 := hV 6 (by simp)
      simp only [gfV] at d6
      have d10 := hV 10 (by simp)
      simp only [gfV] at d10
      simp only [Reg.putS, List.foldl, List.headD, List.tail, List.getD_cons_zero, List.getD_cons_succ, Act.put, List.setIfInBounds_toArray, List.set_cons_zero, List.set_cons_succ, d2, d6, d10] at hK ⊢
      go_simp
      first
        | exact hK _ _ (Below.refl _ _) rfl
        | (rw [if_pos (by omega)]; exact hK _ _ (Below.refl _ _) rfl)
        | (rw [dif_pos (by omega)]; exact hK _ _ (Below.refl _ _) rfl)
        | (rw [if_neg (by omega)]; exact hK _ _ (Below.refl _ _) rfl)
    · intro vals W K hR hV hK
      simp only [Reg.putS, List.foldl, List.headD, List.tail, List.getD_cons_zero, List.getD_cons_succ, Act.put, List.setIfInBounds_toArray, List.set_cons_zero, List.set_cons_succ] at hK ⊢
      have hB : w.heap.size + 1 ≤ W.heap.size := by have := hR.size; simp at this; omega
      go_simp
      exact hK _ _ (balloc (Below.refl _ _) _) ⟨_, rfl, hB, heap_new W _⟩
  · intro vals W o ho hR hV
    simp only [List.getElem?_toArray, List.getElem?_cons_succ, List.getElem?_cons_zero, Option.some.injEq] at ho
    subst ho
    have d0 := hV 0 (by decide)
    simp only [gfV] at d0
    have d1 := hV 1 (by decide)
    simp only [gfV] at d1
    have d2 := hV 2 (by decide)
    simp only [gfV] at d2
    have d3 := hV 3 (by decide)
    simp only [gfV] at d3
    have d4 := hV 4 (by decide)
    simp only [gfV] at d4
    have d5 := hV 5 (by decide)
    simp only [gfV] at d5
    have d6 := hV 6 (by decide)
    simp only [gfV] at d6
    have d7 := hV 7 (by decide)
    simp only [gfV] at d7
    have d8 := hV 8 (by decide)
    simp only [gfV] at d8
    have d9 := hV 9 (by decide)
    simp only [gfV] at d9
    have d10 := hV 10 (by decide)
    simp only [gfV] at d10
    have d11 := hV 11 (by decide)
    simp only [gfV] at d11
    have d12 := hV 12 (by decide)
    simp only [gfV] at d12
    refine Exists.elim d12 fun g e12 => ?_
    clear d12
    have d12 := e12.1
    have hg := e12.2.1
    have hh := e12.2.2
    clear e12
    unfold Reg.LastStep
    rw [show List.range 13 = [0, 1, 2, 3, 4, 5, 6, 7, 8, 9, 10, 11, 12] from rfl]
    clear hV
    simp only [Reg.putS, List.foldl, List.getD_cons_zero, List.getD_cons_succ, Act.put, List.setIfInBounds_toArray, List.set_cons_zero, List.set_cons_succ, d0, d1, d2, d3, d4, d5, d6, d7, d8, d9, d10, d11, d12]
    clear d0 d1 d2 d3 d4 d5 d6 d7 d8 d9 d10 d11 d12
    have c0 : W.cell? ⟨g, 0, none⟩ = some (.int .i64 0) := by simp [World.cell?, hh]
    have c1 : W.cell? ⟨g, 1, none⟩ = some (.int .i64 0) := by simp [World.cell?, hh]
    have c2 : W.cell? ⟨g, 2, none⟩ = some (.int .u32 0) := by simp [World.cell?, hh]
    have c3 : W.cell? ⟨g, 3, none⟩ = some (.string ⟨#[]⟩) := by simp [World.cell?, hh]
    have f0 : W.frozen? ⟨g, 0, none⟩ = false := by simp [World.frozen?, hh]
    have f1 : W.frozen? ⟨g, 1, none⟩ = false := by simp [World.frozen?, hh]
    have f2 : W.frozen? ⟨g, 2, none⟩ = false := by simp [World.frozen?, hh]
    have f3 : W.frozen? ⟨g, 3, none⟩ = false := by simp [World.frozen?, hh]
    go_simp
    have P := post_store hR rfl (below_drew (balloc (Below.refl _ _) _)) hg hh (b8 b 0) (numS (b.extract 1 3)) (numS (b.extract 5 9))
    generalize (((W.setCell ⟨g, 0, none⟩ (.int .i64 (b8 b 0))).setCell ⟨g, 1, none⟩ (.int .i64 (numS (b.extract 1 3)))).setCell ⟨g, 2, none⟩ (.int .u32 (numS (b.extract 5 9)))).setCell ⟨g, 3, none⟩ (.string ⟨#[]⟩) = W2 at P ⊢
    obtain ⟨hb2, k0, k1, k2, k3, p3, r0, r1, r2, r3, q0, q1, q2, q3⟩ := P
    clear hR hh c0 c1 c2 c3 f0 f1 f2 f3 W vals
    go_wp2_with fail
    refine (num_any _ _ (ext_size b 3 5 (by omega))).mono ?_
    rintro e w9 ⟨rfl, rfl⟩
    have hn := num_small4 b 3 5 (by omega)
    have hwn := wrap_small4 b 3 5 (by omega)
    rcases (show m < numS (b.extract 1 3) ∨ ¬ m < numS (b.extract 1 3) by omega) with hm | hm
    · have t1 : decide (m < numS (b.extract 1 3)) = true := by simpa using hm
      go_wp2_with fail
      have hx : getF b m = ((0, 0, 0, ⟨#[]⟩), 0, 10) := by unfold getF; simp [*]
      refine bodyPost_ret (v := .tuple #[frameAgg (getF b m), .int .i64 (getF b m).2.1, .int .i64 (getF b m).2.2]) ?_ rfl ⟨rfl, ?_⟩
      · rw [hx]; simp [results, Try.results42, go_sem, frameAgg, k0, k1, k2, k3, r0, r1, r2, r3, q0, q1, q2, q3]
      · exact ((((hb2.setCell (Nat.le_refl _) _).setCell (Nat.le_refl _) _).setCell (Nat.le_refl _) _).setCell (Nat.le_refl _) _)
    · have t1 : decide (m < numS (b.extract 1 3)) = false := by simpa using hm
      go_wp2_with fail
      refine (fits_any _ _ _ _).mono ?_
      rintro e w8 ⟨rfl, rfl⟩
      cases hf : fitsB (b8 b 0) (numS (b.extract 1 3)) (numS (b.extract 3 5)) 1024 with
      | false =>
        go_wp2_with fail
        have hx : getF b m = ((0, 0, 0, ⟨#[]⟩), 0, 10) := by unfold getF; simp [*]
        refine bodyPost_ret (v := .tuple #[frameAgg (getF b m), .int .i64 (getF b m).2.1, .int .i64 (getF b m).2.2]) ?_ rfl ⟨rfl, ?_⟩
        · rw [hx]; simp [results, Try.results42, go_sem, frameAgg, k0, k1, k2, k3, r0, r1, r2, r3, q0, q1, q2, q3]
        · exact ((((hb2.setCell (Nat.le_refl _) _).setCell (Nat.le_refl _) _).setCell (Nat.le_refl _) _).setCell (Nat.le_refl _) _)
      | true =>
        have hw1 : IntKind.i64.wrap ((b.size : Int) - 9) = (b.size : Int) - 9 := by rw [IntKind.wrap_i64]; omega
        have hw2 : IntKind.i64.wrap (9 + numS (b.extract 3 5)) = 9 + numS (b.extract 3 5) := by rw [IntKind.wrap_i64]; omega
        rcases (show (b.size : Int) - 9 < numS (b.extract 3 5) ∨ ¬ (b.size : Int) - 9 < numS (b.extract 3 5) by omega) with hl | hl
        · have t2 : decide ((b.size : Int) - 9 < numS (b.extract 3 5)) = true := by simpa using hl
          have hl2 : (b.size : Int) < 9 + numS (b.extract 3 5) := by omega
          go_wp2_with fail
          have hx : getF b m = ((0, 0, 0, ⟨#[]⟩), 0, 2) := by
            unfold getF
            rw [if_neg h0, if_neg (by omega), if_neg h4, if_neg h6, if_neg (no_or (by omega) hf), if_pos hl2]
          refine bodyPost_ret (v := .tuple #[frameAgg (getF b m), .int .i64 (getF b m).2.1, .int .i64 (getF b m).2.2]) ?_ rfl ⟨rfl, ?_⟩
          · rw [hx]; simp [results, Try.results42, go_sem, frameAgg, k0, k1, k2, k3, r0, r1, r2, r3, q0, q1, q2, q3]
          · exact ((((hb2.setCell (Nat.le_refl _) _).setCell (Nat.le_refl _) _).setCell (Nat.le_refl _) _).setCell (Nat.le_refl _) _)
        · have t2 : decide ((b.size : Int) - 9 < numS (b.extract 3 5)) = false := by simpa using hl
          have hl2 : ¬ (b.size : Int) < 9 + numS (b.extract 3 5) := by omega
          have hl3 : 9 + numS (b.extract 3 5) ≤ (b.size : Int) := by omega
          have hl4 : 0 ≤ 9 + numS (b.extract 3 5) := by omega
          have hl5 : (9 + numS (b.extract 3 5)).toNat = 9 + (numS (b.extract 3 5)).toNat := by omega
          have g1 : g ≠ w.heap.size := by omega
          have g2 : w.heap.size ≠ g := by omega
          go_wp2_with fail
          have hx : getF b m = ((b8 b 0, numS (b.extract 1 3), numS (b.extract 5 9), b.extract 9 (9 + (numS (b.extract 3 5)).toNat)), 9 + numS (b.extract 3 5), 0) := by
            unfold getF
            rw [if_neg h0, if_neg (by omega), if_neg h4, if_neg h6, if_neg (no_or (by omega) hf), if_neg (by omega)]
          refine bodyPost_ret (v := .tuple #[frameAgg (getF b m), .int .i64 (getF b m).2.1, .int .i64 (getF b m).2.2]) ?_ rfl ⟨rfl, ?_⟩
          · rw [hx]; simp [results, Try.results42, go_sem, frameAgg, k0, k1, k2, k3, r0, r1, r2, r3, q0, q1, q2, q3]
          · exact (((((hb2.setCell (show w.heap.size ≤ g by omega) _).setCell (Nat.le_refl _) _).setCell (Nat.le_refl _) _).setCell (Nat.le_refl _) _).setCell (Nat.le_refl _) _)

end Go.Proofs.Ythaoofnnhdkboaa.FrB
