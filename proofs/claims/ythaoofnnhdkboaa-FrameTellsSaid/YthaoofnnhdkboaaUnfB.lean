/- The reference's Unframe: where a block stands first. -/
import Derived.Test.YthaoofnnhdkboaaFrD
import Derived.Test.YthaoofnnhdkboaaUnfA
import Derived.WalkSpells
set_option linter.unusedSimpArgs false
set_option linter.unusedVariables false
namespace Go.Proofs.Ythaoofnnhdkboaa.UnfB
open Go.RowKit Go.Proofs.Ythaoofnnhdkboaa.CrcL Go.Proofs.Ythaoofnnhdkboaa.FrW Go.Proofs.Ythaoofnnhdkboaa.FrH Go.Proofs.Ythaoofnnhdkboaa.FrG Go.Proofs.Ythaoofnnhdkboaa.FrU Go.Proofs.Ythaoofnnhdkboaa.FrL Go.Proofs.Ythaoofnnhdkboaa.FrP Go.Proofs.Ythaoofnnhdkboaa.FrE Go.Proofs.Ythaoofnnhdkboaa.FrA Go.Proofs.Ythaoofnnhdkboaa.FrN Go.Proofs.Ythaoofnnhdkboaa.FrQ Go.Proofs.Ythaoofnnhdkboaa.FrR Go.Proofs.Ythaoofnnhdkboaa.FrB Go.Proofs.Ythaoofnnhdkboaa.FrD
open Go.Proofs.Ythaoofnnhdkboaa.FrG (b8 b8_get b8_wrap heap_new ext_size heap_below)
theorem fits_true {k x n m : Int} (h : fitsB k x n m = true) : 1 ≤ x ∧ x ≤ m ∧ 1 ≤ n ∧ (k = 1 ∧ n = x ∨ k = 2 ∧ n < x) := fits_parts h
theorem fits_of {k x n m : Int} (h : 1 ≤ x ∧ x ≤ m ∧ 1 ≤ n ∧ (k = 1 ∧ n = x ∨ k = 2 ∧ n < x)) : fitsB k x n m = true := by unfold fitsB; simpa using h
theorem no_fit {k x n m M : Int} (hM : M = m ∧ m ≤ 1024 ∨ M = 1024 ∧ 1024 < m) (h : fitsB k x n M = false) : m < x ∨ fitsB k x n 1024 = false := by
  rcases (show m < x ∨ ¬ m < x by omega) with h1 | h1
  · exact .inl h1
  · right
    cases hf : fitsB k x n 1024 with
    | false => rfl
    | true =>
      have hp := fits_true hf
      rw [fits_of (by omega)] at h
      cases h
theorem yes_fit {k x n m M : Int} (hM : M = m ∧ m ≤ 1024 ∨ M = 1024 ∧ 1024 < m) (h : fitsB k x n M = true) : ¬ m < x ∧ fitsB k x n 1024 = true := by
  have hp := fits_true h
  exact ⟨by omega, fits_of (by omega)⟩
/-- Below B nothing turns; the block B stays, or becomes X. -/
def RB (B : Nat) (X : Obj) (W W' : World) : Prop := Below B W W' ∧ ∀ (o : Obj), W.heap[B]? = some o → W'.heap[B]? = some o ∨ W'.heap[B]? = some X
theorem rb_refl (B : Nat) (X : Obj) (W : World) : RB B X W W := ⟨Below.refl _ _, fun o h => .inl h⟩
theorem rb_trans (B : Nat) (X : Obj) (a b c : World) (h : RB B X a b) (k : RB B X b c) : RB B X a c := by
  refine ⟨Below.trans h.1 k.1, fun o hj => ?_⟩
  rcases h.2 o hj with h1 | h1
  · exact k.2 o h1
  · rcases k.2 _ h1 with h3 | h3
    · exact .inr h3
    · exact .inr h3
theorem rb_keep {B : Nat} {X : Obj} {W W' : World} (k : RB B X W W') (h : W.heap[B]? = some X) : W'.heap[B]? = some X := by
  rcases k.2 _ h with h1 | h1 <;> exact h1
theorem rb_four {B : Nat} {u0 u1 u2 u3 z0 z1 z2 z3 : Value} {W0 W : World} (hR : RB B (.cells #[u0, u1, u2, u3] 58 (0, 0)) W0 W) (hr : W0.heap[B]? = some (.cells #[z0, z1, z2, z3] 58 (0, 0))) : ∃ y0 y1 y2 y3, W.heap[B]? = some (.cells #[y0, y1, y2, y3] 58 (0, 0)) := by
  rcases hR.2 _ hr with h | h
  · exact ⟨_, _, _, _, h⟩
  · exact ⟨_, _, _, _, h⟩
theorem four_cells {b : Nat} {W : World} {y0 y1 y2 y3 : Value} (u0 u1 u2 u3 : Value) (hb : W.heap[b]? = some (.cells #[y0, y1, y2, y3] 58 (0, 0))) :
    RB b (.cells #[u0, u1, u2, u3] 58 (0, 0)) W ((((W.setCell ⟨b, 0, none⟩ u0).setCell ⟨b, 1, none⟩ u1).setCell ⟨b, 2, none⟩ u2).setCell ⟨b, 3, none⟩ u3) ∧ ((((W.setCell ⟨b, 0, none⟩ u0).setCell ⟨b, 1, none⟩ u1).setCell ⟨b, 2, none⟩ u2).setCell ⟨b, 3, none⟩ u3).heap[b]? = some (.cells #[u0, u1, u2, u3] 58 (0, 0)) := by
  have hfin : ((((W.setCell ⟨b, 0, none⟩ u0).setCell ⟨b, 1, none⟩ u1).setCell ⟨b, 2, none⟩ u2).setCell ⟨b, 3, none⟩ u3).heap[b]? = some (.cells #[u0, u1, u2, u3] 58 (0, 0)) := by
    simp only [World.setCell, Array.getElem?_modify, if_true, hb]
    rfl
  have hm : b ≤ b := Nat.le_refl b
  exact ⟨⟨Below.setCell (Below.setCell (Below.setCell (Below.setCell (Below.refl _ _) hm _) hm _) hm _) hm _, fun o _ => .inr hfin⟩, hfin⟩
/-- What the region's operations yield. -/
def unfV (b : ByteArray) (i : Nat) (v : Value) (W : World) : Prop := match i with
  | 0 => v = .string b
  | 1 => v = .string (b.extract 1 3)
  | 2 => v = .int .u64 (numS (b.extract 1 3))
  | 3 => v = .int .i64 (numS (b.extract 1 3))
  | 4 => v = .string b
  | 5 => v = .string (b.extract 3 5)
  | 6 => v = .int .u64 (numS (b.extract 3 5))
  | 7 => v = .int .i64 (numS (b.extract 3 5))
  | 8 => v = .int .i64 (numS (b.extract 1 3))
  | 9 => v = .int .i64 (numS (b.extract 3 5))
  | _ => True
/-- What the last region's operations yield. -/
def unfW (b : ByteArray) (B : Nat) (i : Nat) (v : Value) (W : World) : Prop := match i with
  | 0 => v = .int .i64 (b8 b 0)
  | 1 => v = .int .i64 (numS (b.extract 1 3))
  | 2 => v = .string b
  | 3 => v = .string (b.extract 5 9)
  | 4 => v = .int .u64 (numS (b.extract 5 9))
  | 5 => v = .int .u32 (numS (b.extract 5 9))
  | 6 => v = .string b
  | 7 => v = .int .i64 (numS (b.extract 3 5))
  | 8 => v = .int .i64 (9 + (numS (b.extract 3 5)))
  | 9 => v = .string (b.extract 9 (9 + (numS (b.extract 3 5)).toNat))
  | 10 => v = .agg #[.int .i64 (b8 b 0), .int .i64 (numS (b.extract 1 3)), .int .u32 (numS (b.extract 5 9)), .string (b.extract 9 (9 + (numS (b.extract 3 5)).toNat))]
  | 11 => v = .int .i64 (numS (b.extract 3 5))
  | 12 => v = .int .i64 (9 + (numS (b.extract 3 5)))
  | 13 => W.heap[B]? = some (Obj.cells #[.int .i64 (b8 b 0), .int .i64 (numS (b.extract 1 3)), .int .u32 (numS (b.extract 5 9)), .string (b.extract 9 (9 + (numS (b.extract 3 5)).toNat))] 58 (0, 0))
  | 14 => v = .int .i64 (9 + (numS (b.extract 3 5)))
  | 15 => v = .int .i64 0
  | _ => True
set_option maxHeartbeats 1000000 in
theorem get_blk_le (b : ByteArray) (m : Int) (w : World) (hs : b.size ≤ 140737488351232) (h1 : 9 ≤ b.size) (hk : b8 b 0 = 1 ∨ b8 b 0 = 2) (hm : m ≤ 1024) :
    Calls Try.prog 43 #[.string b, .int .i64 m] w fun e w' => e = getOut b m ∧ Below w.heap.size w w' := by
  have hne := nonempty_of (show 1 ≤ b.size by omega)
  have hb0 := b8_get b 0 (by omega)
  have hwb := b8_wrap b 0
  have h4 : ¬ b8 b 0 = 0 := by omega
  have h5 : ¬ 2 < b8 b 0 := by omega
  have h0 : ¬ b.size = 0 := by omega
  have hl : decide ((b.size : Int) < 9) = false := by simp; omega
  have w13 := wrap_small4 b 1 3 (by omega)
  have w35 := wrap_small4 b 3 5 (by omega)
  have w59 := wrap_u32 b 5 9 (by omega)
  have hn := num_small4 b 3 5 (by omega)
  have h6 : ¬ b.size < 9 := by omega
  obtain ⟨M, hMe, hM⟩ : ∃ M, Hid (M = m) ∧ (M = m ∧ m ≤ 1024 ∨ M = 1024 ∧ 1024 < m) := ⟨_, Lib.hid rfl, by omega⟩
  clear hk
  unfold getOut
  go_enter Try.func43, Try.ntmps43
  go_wp2_with fail
  refine Reg.wp_region_lists (fun W W' => Below W.heap.size W W') (unfV b)
    [some 34, some 35, some 36, some 37, some 38, some 39, some 40, some 41, some 8, some 9]
    [[], [0], [1], [2], [], [4], [5, 2], [6], [3, 6, 0, 1, 2, 3], [7, 8, 0, 1, 2, 3, 4, 5, 6, 7, 8]]
    (by kernel_rfl) (by kernel_rfl) (by kernel_rfl) (fun _ => Below.refl _ _) (fun _ _ _ h k => bstep h k) ?_ ?_ ?_
  · intro i v W W' h k
    unfold unfV at h ⊢
    split at h <;> first | exact h
  · refine ⟨?_, ?_, ?_, ?_, ?_, ?_, ?_, ?_, ?_, ?_, trivial⟩
    · intro vals W K hR hV hK
      simp only [Reg.putS, List.foldl, List.headD, List.tail, List.getD_cons_zero, List.getD_cons_succ, Act.put, List.setIfInBounds_toArray, List.set_cons_zero, List.set_cons_succ] at hK ⊢
      go_simp
      first
        | exact hK _ _ (Below.refl _ _) rfl
        | (rw [if_pos (by omega)]; exact hK _ _ (Below.refl _ _) rfl)
        | (rw [dif_pos (by omega)]; exact hK _ _ (Below.refl _ _) rfl)
        | (rw [if_neg (by omega)]; exact hK _ _ (Below.refl _ _) rfl)
    · intro vals W K hR hV hK
      have d0 := hV 0 (by simp)
      simp only [unfV] at d0
      simp only [Reg.putS, List.foldl, List.headD, List.tail, List.getD_cons_zero, List.getD_cons_succ, Act.put, List.setIfInBounds_toArray, List.set_cons_zero, List.set_cons_succ, d0] at hK ⊢
      go_simp
      first
        | exact hK _ _ (Below.refl _ _) rfl
        | (rw [if_pos (by omega)]; exact hK _ _ (Below.refl _ _) rfl)
        | (rw [dif_pos (by omega)]; exact hK _ _ (Below.refl _ _) rfl)
        | (rw [if_neg (by omega)]; exact hK _ _ (Below.refl _ _) rfl)
    · intro vals W K hR hV hK
      have d1 := hV 1 (by simp)
      simp only [unfV] at d1
      simp only [Reg.putS, List.foldl, List.headD, List.tail, List.getD_cons_zero, List.getD_cons_succ, Act.put, List.setIfInBounds_toArray, List.set_cons_zero, List.set_cons_succ, d1] at hK ⊢
      go_simp
      refine (refOf_any _ _ (ext_size b 1 3 (by omega))).mono ?_
      rintro e w2 ⟨rfl, rfl⟩
      exact hK _ _ (Below.refl _ _) rfl
    · intro vals W K hR hV hK
      have d2 := hV 2 (by simp)
      simp only [unfV] at d2
      simp only [Reg.putS, List.foldl, List.headD, List.tail, List.getD_cons_zero, List.getD_cons_succ, Act.put, List.setIfInBounds_toArray, List.set_cons_zero, List.set_cons_succ, d2] at hK ⊢
      go_simp
      first
        | exact hK _ _ (Below.refl _ _) rfl
        | (rw [if_pos (by omega)]; exact hK _ _ (Below.refl _ _) rfl)
        | (rw [dif_pos (by omega)]; exact hK _ _ (Below.refl _ _) rfl)
        | (rw [if_neg (by omega)]; exact hK _ _ (Below.refl _ _) rfl)
    · intro vals W K hR hV hK
      simp only [Reg.putS, List.foldl, List.headD, List.tail, List.getD_cons_zero, List.getD_cons_succ, Act.put, List.setIfInBounds_toArray, List.set_cons_zero, List.set_cons_succ] at hK ⊢
      go_simp
      first
        | exact hK _ _ (Below.refl _ _) rfl
        | (rw [if_pos (by omega)]; exact hK _ _ (Below.refl _ _) rfl)
        | (rw [dif_pos (by omega)]; exact hK _ _ (Below.refl _ _) rfl)
        | (rw [if_neg (by omega)]; exact hK _ _ (Below.refl _ _) rfl)
    · intro vals W K hR hV hK
      have d4 := hV 4 (by simp)
      simp only [unfV] at d4
      simp only [Reg.putS, List.foldl, List.headD, List.tail, List.getD_cons_zero, List.getD_cons_succ, Act.put, List.setIfInBounds_toArray, List.set_cons_zero, List.set_cons_succ, d4] at hK ⊢
      go_simp
      first
        | exact hK _ _ (Below.refl _ _) rfl
        | (rw [if_pos (by omega)]; exact hK _ _ (Below.refl _ _) rfl)
        | (rw [dif_pos (by omega)]; exact hK _ _ (Below.refl _ _) rfl)
        | (rw [if_neg (by omega)]; exact hK _ _ (Below.refl _ _) rfl)
    · intro vals W K hR hV hK
      have d2 := hV 2 (by simp)
      simp only [unfV] at d2
      have d5 := hV 5 (by simp)
      simp only [unfV] at d5
      simp only [Reg.putS, List.foldl, List.headD, List.tail, List.getD_cons_zero, List.getD_cons_succ, Act.put, List.setIfInBounds_toArray, List.set_cons_zero, List.set_cons_succ, d2, d5] at hK ⊢
      go_simp
      refine (refOf_any _ _ (ext_size b 3 5 (by omega))).mono ?_
      rintro e w2 ⟨rfl, rfl⟩
      exact hK _ _ (Below.refl _ _) rfl
    · intro vals W K hR hV hK
      have d6 := hV 6 (by simp)
      simp only [unfV] at d6
      simp only [Reg.putS, List.foldl, List.headD, List.tail, List.getD_cons_zero, List.getD_cons_succ, Act.put, List.setIfInBounds_toArray, List.set_cons_zero, List.set_cons_succ, d6] at hK ⊢
      go_simp
      first
        | exact hK _ _ (Below.refl _ _) rfl
        | (rw [if_pos (by omega)]; exact hK _ _ (Below.refl _ _) rfl)
        | (rw [dif_pos (by omega)]; exact hK _ _ (Below.refl _ _) rfl)
        | (rw [if_neg (by omega)]; exact hK _ _ (Below.refl _ _) rfl)
    · intro vals W K hR hV hK
      have d0 := hV 0 (by simp)
      simp only [unfV] at d0
      have d1 := hV 1 (by simp)
      simp only [unfV] at d1
      have d2 := hV 2 (by simp)
      simp only [unfV] at d2
      have d3 := hV 3 (by simp)
      simp only [unfV] at d3
      have d6 := hV 6 (by simp)
      simp only [unfV] at d6
      simp only [Reg.putS, List.foldl, List.headD, List.tail, List.getD_cons_zero, List.getD_cons_succ, Act.put, List.setIfInBounds_toArray, List.set_cons_zero, List.set_cons_succ, d0, d1, d2, d3, d6] at hK ⊢
      go_simp
      first
        | exact hK _ _ (Below.refl _ _) rfl
        | (rw [if_pos (by omega)]; exact hK _ _ (Below.refl _ _) rfl)
        | (rw [dif_pos (by omega)]; exact hK _ _ (Below.refl _ _) rfl)
        | (rw [if_neg (by omega)]; exact hK _ _ (Below.refl _ _) rfl)
    · intro vals W K hR hV hK
      have d0 := hV 0 (by simp)
      simp only [unfV] at d0
      have d1 := hV 1 (by simp)
      simp only [unfV] at d1
      have d2 := hV 2 (by simp)
      simp only [unfV] at d2
      have d3 := hV 3 (by simp)
      simp only [unfV] at d3
      have d4 := hV 4 (by simp)
      simp only [unfV] at d4
      have d5 := hV 5 (by simp)
      simp only [unfV] at d5
      have d6 := hV 6 (by simp)
      simp only [unfV] at d6
      have d7 := hV 7 (by simp)
      simp only [unfV] at d7
      have d8 := hV 8 (by simp)
      simp only [unfV] at d8
      simp only [Reg.putS, List.foldl, List.headD, List.tail, List.getD_cons_zero, List.getD_cons_succ, Act.put, List.setIfInBounds_toArray, List.set_cons_zero, List.set_cons_succ, d0, d1, d2, d3, d4, d5, d6, d7, d8] at hK ⊢
      go_simp
      first
        | exact hK _ _ (Below.refl _ _) rfl
        | (rw [if_pos (by omega)]; exact hK _ _ (Below.refl _ _) rfl)
        | (rw [dif_pos (by omega)]; exact hK _ _ (Below.refl _ _) rfl)
        | (rw [if_neg (by omega)]; exact hK _ _ (Below.refl _ _) rfl)
  · intro vals W hR hV
    rw [show List.range (List.length [some 34, some 35, some 36, some 37, some 38, some 39, some 40, some 41, some 8, some 9]) = [0, 1, 2, 3, 4, 5, 6, 7, 8, 9] from rfl]
    have d0 := hV 0 (by decide)
    simp only [unfV] at d0
    have d1 := hV 1 (by decide)
    simp only [unfV] at d1
    have d2 := hV 2 (by decide)
    simp only [unfV] at d2
    have d3 := hV 3 (by decide)
    simp only [unfV] at d3
    have d4 := hV 4 (by decide)
    simp only [unfV] at d4
    have d5 := hV 5 (by decide)
    simp only [unfV] at d5
    have d6 := hV 6 (by decide)
    simp only [unfV] at d6
    have d7 := hV 7 (by decide)
    simp only [unfV] at d7
    have d8 := hV 8 (by decide)
    simp only [unfV] at d8
    have d9 := hV 9 (by decide)
    simp only [unfV] at d9
    clear hV
    simp only [Reg.putS, List.foldl, List.getD_cons_zero, List.getD_cons_succ, Act.put, List.setIfInBounds_toArray, List.set_cons_zero, List.set_cons_succ, d0, d1, d2, d3, d4, d5, d6, d7, d8, d9]
    clear d0 d1 d2 d3 d4 d5 d6 d7 d8 d9
    have hr : W.heap[w.heap.size]? = some (.cells #[.int .i64 0, .int .i64 0, .int .u32 0, .string ⟨#[]⟩] 58 (0, 0)) := heap_below hR (heap_new w _)
    have belW : Below w.heap.size w W := bstep (below_drew (balloc (Below.refl _ _) _)) hR
    clear hR
    have hBle : w.heap.size ≤ w.heap.size := Nat.le_refl _
    have r0 : W.cell? ⟨w.heap.size, 0, none⟩ = some (.int .i64 0) := by simp [World.cell?, hr]
    have r1 : W.cell? ⟨w.heap.size, 1, none⟩ = some (.int .i64 0) := by simp [World.cell?, hr]
    have r2 : W.cell? ⟨w.heap.size, 2, none⟩ = some (.int .u32 0) := by simp [World.cell?, hr]
    have r3 : W.cell? ⟨w.heap.size, 3, none⟩ = some (.string ⟨#[]⟩) := by simp [World.cell?, hr]
    have q0 : W.frozen? ⟨w.heap.size, 0, none⟩ = false := by simp [World.frozen?, hr]
    have q1 : W.frozen? ⟨w.heap.size, 1, none⟩ = false := by simp [World.frozen?, hr]
    have q2 : W.frozen? ⟨w.heap.size, 2, none⟩ = false := by simp [World.frozen?, hr]
    have q3 : W.frozen? ⟨w.heap.size, 3, none⟩ = false := by simp [World.frozen?, hr]
    go_wp2_with fail
    rw [← hMe.out]
    refine (refFits_any _ _ _ _ _).mono ?_
    rintro e w8 ⟨rfl, rfl⟩
    cases hf : fitsB (b8 b 0) (numS (b.extract 1 3)) (numS (b.extract 3 5)) M with
    | false =>
      go_wp2_with fail
      have hx : getF b m = ((0, 0, 0, ⟨#[]⟩), 0, 10) := by
        unfold getF
        rw [if_neg h0, if_neg (by omega), if_neg h4, if_neg h6, if_pos (no_fit hM hf)]
      refine bodyPost_ret (v := .tuple #[frameAgg (getF b m), .int .i64 (getF b m).2.1, .int .i64 (getF b m).2.2]) ?_ rfl ⟨rfl, ?_⟩
      · rw [hx]; simp [results, Try.results43, go_sem, frameAgg, r0, r1, r2, r3, q0, q1, q2, q3]
      · exact ((((belW.setCell hBle _).setCell hBle _).setCell hBle _).setCell hBle _)
    | true =>
      have hff := yes_fit hM hf
      have hw2 : IntKind.i64.wrap (9 + (numS (b.extract 3 5))) = 9 + (numS (b.extract 3 5)) := by rw [IntKind.wrap_i64]; omega
      rcases (show (b.size : Int) < 9 + (numS (b.extract 3 5)) ∨ ¬ (b.size : Int) < 9 + (numS (b.extract 3 5)) by omega) with hl | hl
      · have t2 : decide ((b.size : Int) < 9 + (numS (b.extract 3 5))) = true := by simpa using hl
        go_wp2_with fail
        have hx : getF b m = ((0, 0, 0, ⟨#[]⟩), 0, 2) := by
          unfold getF
          rw [if_neg h0, if_neg (by omega), if_neg h4, if_neg h6, if_neg (no_or (by omega) hff.2), if_pos hl]
        refine bodyPost_ret (v := .tuple #[frameAgg (getF b m), .int .i64 (getF b m).2.1, .int .i64 (getF b m).2.2]) ?_ rfl ⟨rfl, ?_⟩
        · rw [hx]; simp [results, Try.results43, go_sem, frameAgg, r0, r1, r2, r3, q0, q1, q2, q3]
        · exact ((((belW.setCell hBle _).setCell hBle _).setCell hBle _).setCell hBle _)
      · have t2 : decide ((b.size : Int) < 9 + (numS (b.extract 3 5))) = false := by simpa using hl
        have hl3 : 9 + (numS (b.extract 3 5)) ≤ (b.size : Int) := by omega
        have hl4 : 0 ≤ 9 + (numS (b.extract 3 5)) := by omega
        have hl5 : (9 + (numS (b.extract 3 5))).toNat = 9 + (numS (b.extract 3 5)).toNat := by omega
        go_wp2_with fail
        refine Reg.wp_region_lists (RB w.heap.size (Obj.cells #[.int .i64 (b8 b 0), .int .i64 (numS (b.extract 1 3)), .int .u32 (numS (b.extract 5 9)), .string (b.extract 9 (9 + (numS (b.extract 3 5)).toNat))] 58 (0, 0))) (unfW b w.heap.size)
          [some 56, some 57, some 58, some 59, some 60, some 61, some 62, some 63, some 64, some 65, some 66, some 67, some 68, none, some 5, some 6]
          [[], [], [], [2], [3], [4], [], [], [7], [6, 8], [0, 1, 5, 9], [], [11], [10, 4, 0, 1, 2, 3, 4, 5, 6, 7, 8, 9, 10], [12, 13, 0, 1, 2, 3, 4, 5, 6, 7, 8, 9, 10, 11, 12, 13], [14, 0, 1, 2, 3, 4, 5, 6, 7, 8, 9, 10, 11, 12, 13, 14]]
          (by kernel_rfl) (by kernel_rfl) (by kernel_rfl) (rb_refl _ _) (rb_trans _ _) ?_ ?_ ?_
        · intro i v W W' h k
          unfold unfW at h ⊢
          split at h <;> first | exact h | (obtain _ := h; exact rb_keep k (by assumption))
        · refine ⟨?_, ?_, ?_, ?_, ?_, ?_, ?_, ?_, ?_, ?_, ?_, ?_, ?_, ?_, ?_, ?_, trivial⟩
          · intro vals W K hR hV hK
            simp only [Reg.putS, List.foldl, List.headD, List.tail, List.getD_cons_zero, List.getD_cons_succ, Act.put, List.setIfInBounds_toArray, List.set_cons_zero, List.set_cons_succ] at hK ⊢
            go_simp
            first
              | exact hK _ _ (rb_refl _ _ _) rfl
              | (rw [if_pos (by omega)]; exact hK _ _ (rb_refl _ _ _) rfl)
              | (rw [dif_pos (by omega)]; exact hK _ _ (rb_refl _ _ _) rfl)
              | (rw [if_neg (by omega)]; exact hK _ _ (rb_refl _ _ _) rfl)
          · intro vals W K hR hV hK
            simp only [Reg.putS, List.foldl, List.headD, List.tail, List.getD_cons_zero, List.getD_cons_succ, Act.put, List.setIfInBounds_toArray, List.set_cons_zero, List.set_cons_succ] at hK ⊢
            go_simp
            first
              | exact hK _ _ (rb_refl _ _ _) rfl
              | (rw [if_pos (by omega)]; exact hK _ _ (rb_refl _ _ _) rfl)
              | (rw [dif_pos (by omega)]; exact hK _ _ (rb_refl _ _ _) rfl)
              | (rw [if_neg (by omega)]; exact hK _ _ (rb_refl _ _ _) rfl)
          · intro vals W K hR hV hK
            simp only [Reg.putS, List.foldl, List.headD, List.tail, List.getD_cons_zero, List.getD_cons_succ, Act.put, List.setIfInBounds_toArray, List.set_cons_zero, List.set_cons_succ] at hK ⊢
            go_simp
            first
              | exact hK _ _ (rb_refl _ _ _) rfl
              | (rw [if_pos (by omega)]; exact hK _ _ (rb_refl _ _ _) rfl)
              | (rw [dif_pos (by omega)]; exact hK _ _ (rb_refl _ _ _) rfl)
              | (rw [if_neg (by omega)]; exact hK _ _ (rb_refl _ _ _) rfl)
          · intro vals W K hR hV hK
            have d2 := hV 2 (by simp)
            simp only [unfW] at d2
            simp only [Reg.putS, List.foldl, List.headD, List.tail, List.getD_cons_zero, List.getD_cons_succ, Act.put, List.setIfInBounds_toArray, List.set_cons_zero, List.set_cons_succ, d2] at hK ⊢
            go_simp
            first
              | exact hK _ _ (rb_refl _ _ _) rfl
              | (rw [if_pos (by omega)]; exact hK _ _ (rb_refl _ _ _) rfl)
              | (rw [dif_pos (by omega)]; exact hK _ _ (rb_refl _ _ _) rfl)
              | (rw [if_neg (by omega)]; exact hK _ _ (rb_refl _ _ _) rfl)
          · intro vals W K hR hV hK
            have d3 := hV 3 (by simp)
            simp only [unfW] at d3
            simp only [Reg.putS, List.foldl, List.headD, List.tail, List.getD_cons_zero, List.getD_cons_succ, Act.put, List.setIfInBounds_toArray, List.set_cons_zero, List.set_cons_succ, d3] at hK ⊢
            go_simp
            refine (refOf_any _ _ (ext_size b 5 9 (by omega))).mono ?_
            rintro e w2 ⟨rfl, rfl⟩
            exact hK _ _ (rb_refl _ _ _) rfl
          · intro vals W K hR hV hK
            have d4 := hV 4 (by simp)
            simp only [unfW] at d4
            simp only [Reg.putS, List.foldl, List.headD, List.tail, List.getD_cons_zero, List.getD_cons_succ, Act.put, List.setIfInBounds_toArray, List.set_cons_zero, List.set_cons_succ, d4] at hK ⊢
            go_simp
            first
              | exact hK _ _ (rb_refl _ _ _) rfl
              | (rw [if_pos (by omega)]; exact hK _ _ (rb_refl _ _ _) rfl)
              | (rw [dif_pos (by omega)]; exact hK _ _ (rb_refl _ _ _) rfl)
              | (rw [if_neg (by omega)]; exact hK _ _ (rb_refl _ _ _) rfl)
          · intro vals W K hR hV hK
            simp only [Reg.putS, List.foldl, List.headD, List.tail, List.getD_cons_zero, List.getD_cons_succ, Act.put, List.setIfInBounds_toArray, List.set_cons_zero, List.set_cons_succ] at hK ⊢
            go_simp
            first
              | exact hK _ _ (rb_refl _ _ _) rfl
              | (rw [if_pos (by omega)]; exact hK _ _ (rb_refl _ _ _) rfl)
              | (rw [dif_pos (by omega)]; exact hK _ _ (rb_refl _ _ _) rfl)
              | (rw [if_neg (by omega)]; exact hK _ _ (rb_refl _ _ _) rfl)
          · intro vals W K hR hV hK
            simp only [Reg.putS, List.foldl, List.headD, List.tail, List.getD_cons_zero, List.getD_cons_succ, Act.put, List.setIfInBounds_toArray, List.set_cons_zero, List.set_cons_succ] at hK ⊢
            go_simp
            first
              | exact hK _ _ (rb_refl _ _ _) rfl
              | (rw [if_pos (by omega)]; exact hK _ _ (rb_refl _ _ _) rfl)
              | (rw [dif_pos (by omega)]; exact hK _ _ (rb_refl _ _ _) rfl)
              | (rw [if_neg (by omega)]; exact hK _ _ (rb_refl _ _ _) rfl)
          · intro vals W K hR hV hK
            have d7 := hV 7 (by simp)
            simp only [unfW] at d7
            simp only [Reg.putS, List.foldl, List.headD, List.tail, List.getD_cons_zero, List.getD_cons_succ, Act.put, List.setIfInBounds_toArray, List.set_cons_zero, List.set_cons_succ, d7] at hK ⊢
            go_simp
            first
              | exact hK _ _ (rb_refl _ _ _) rfl
              | (rw [if_pos (by omega)]; exact hK _ _ (rb_refl _ _ _) rfl)
              | (rw [dif_pos (by omega)]; exact hK _ _ (rb_refl _ _ _) rfl)
              | (rw [if_neg (by omega)]; exact hK _ _ (rb_refl _ _ _) rfl)
          · intro vals W K hR hV hK
            have d6 := hV 6 (by simp)
            simp only [unfW] at d6
            have d8 := hV 8 (by simp)
            simp only [unfW] at d8
            simp only [Reg.putS, List.foldl, List.headD, List.tail, List.getD_cons_zero, List.getD_cons_succ, Act.put, List.setIfInBounds_toArray, List.set_cons_zero, List.set_cons_succ, d6, d8] at hK ⊢
            go_simp
            first
              | exact hK _ _ (rb_refl _ _ _) rfl
              | (rw [if_pos (by omega)]; exact hK _ _ (rb_refl _ _ _) rfl)
              | (rw [dif_pos (by omega)]; exact hK _ _ (rb_refl _ _ _) rfl)
              | (rw [if_neg (by omega)]; exact hK _ _ (rb_refl _ _ _) rfl)
          · intro vals W K hR hV hK
            have d0 := hV 0 (by simp)
            simp only [unfW] at d0
            have d1 := hV 1 (by simp)
            simp only [unfW] at d1
            have d5 := hV 5 (by simp)
            simp only [unfW] at d5
            have d9 := hV 9 (by simp)
            simp only [unfW] at d9
            simp only [Reg.putS, List.foldl, List.headD, List.tail, List.getD_cons_zero, List.getD_cons_succ, Act.put, List.setIfInBounds_toArray, List.set_cons_zero, List.set_cons_succ, d0, d1, d5, d9] at hK ⊢
            go_simp
            first
              | exact hK _ _ (rb_refl _ _ _) rfl
              | (rw [if_pos (by omega)]; exact hK _ _ (rb_refl _ _ _) rfl)
              | (rw [dif_pos (by omega)]; exact hK _ _ (rb_refl _ _ _) rfl)
              | (rw [if_neg (by omega)]; exact hK _ _ (rb_refl _ _ _) rfl)
          · intro vals W K hR hV hK
            simp only [Reg.putS, List.foldl, List.headD, List.tail, List.getD_cons_zero, List.getD_cons_succ, Act.put, List.setIfInBounds_toArray, List.set_cons_zero, List.set_cons_succ] at hK ⊢
            go_simp
            first
              | exact hK _ _ (rb_refl _ _ _) rfl
              | (rw [if_pos (by omega)]; exact hK _ _ (rb_refl _ _ _) rfl)
              | (rw [dif_pos (by omega)]; exact hK _ _ (rb_refl _ _ _) rfl)
              | (rw [if_neg (by omega)]; exact hK _ _ (rb_refl _ _ _) rfl)
          · intro vals W K hR hV hK
            have d11 := hV 11 (by simp)
            simp only [unfW] at d11
            simp only [Reg.putS, List.foldl, List.headD, List.tail, List.getD_cons_zero, List.getD_cons_succ, Act.put, List.setIfInBounds_toArray, List.set_cons_zero, List.set_cons_succ, d11] at hK ⊢
            go_simp
            first
              | exact hK _ _ (rb_refl _ _ _) rfl
              | (rw [if_pos (by omega)]; exact hK _ _ (rb_refl _ _ _) rfl)
              | (rw [dif_pos (by omega)]; exact hK _ _ (rb_refl _ _ _) rfl)
              | (rw [if_neg (by omega)]; exact hK _ _ (rb_refl _ _ _) rfl)
          · intro vals W K hR hV hK
            have d0 := hV 0 (by simp)
            simp only [unfW] at d0
            have d1 := hV 1 (by simp)
            simp only [unfW] at d1
            have d2 := hV 2 (by simp)
            simp only [unfW] at d2
            have d3 := hV 3 (by simp)
            simp only [unfW] at d3
            have d4 := hV 4 (by simp)
            simp only [unfW] at d4
            have d5 := hV 5 (by simp)
            simp only [unfW] at d5
            have d6 := hV 6 (by simp)
            simp only [unfW] at d6
            have d7 := hV 7 (by simp)
            simp only [unfW] at d7
            have d8 := hV 8 (by simp)
            simp only [unfW] at d8
            have d9 := hV 9 (by simp)
            simp only [unfW] at d9
            have d10 := hV 10 (by simp)
            simp only [unfW] at d10
            simp only [Reg.putS, List.foldl, List.headD, List.tail, List.getD_cons_zero, List.getD_cons_succ, Act.put, List.setIfInBounds_toArray, List.set_cons_zero, List.set_cons_succ, d0, d1, d2, d3, d4, d5, d6, d7, d8, d9, d10] at hK ⊢
            obtain ⟨y0, y1, y2, y3, hy⟩ := rb_four hR hr
            have c0 : W.cell? ⟨w.heap.size, 0, none⟩ = some y0 := by simp [World.cell?, hy]
            have c1 : W.cell? ⟨w.heap.size, 1, none⟩ = some y1 := by simp [World.cell?, hy]
            have c2 : W.cell? ⟨w.heap.size, 2, none⟩ = some y2 := by simp [World.cell?, hy]
            have c3 : W.cell? ⟨w.heap.size, 3, none⟩ = some y3 := by simp [World.cell?, hy]
            have f0 : W.frozen? ⟨w.heap.size, 0, none⟩ = false := by simp [World.frozen?, hy]
            have f1 : W.frozen? ⟨w.heap.size, 1, none⟩ = false := by simp [World.frozen?, hy]
            have f2 : W.frozen? ⟨w.heap.size, 2, none⟩ = false := by simp [World.frozen?, hy]
            have f3 : W.frozen? ⟨w.heap.size, 3, none⟩ = false := by simp [World.frozen?, hy]
            have F := four_cells (.int .i64 (b8 b 0)) (.int .i64 (numS (b.extract 1 3))) (.int .u32 (numS (b.extract 5 9))) (.string (b.extract 9 (9 + (numS (b.extract 3 5)).toNat))) hy
            clear hy
            go_simp
            exact hK undef _ F.1 F.2
          · intro vals W K hR hV hK
            have d0 := hV 0 (by simp)
            simp only [unfW] at d0
            have d1 := hV 1 (by simp)
            simp only [unfW] at d1
            have d2 := hV 2 (by simp)
            simp only [unfW] at d2
            have d3 := hV 3 (by simp)
            simp only [unfW] at d3
            have d4 := hV 4 (by simp)
            simp only [unfW] at d4
            have d5 := hV 5 (by simp)
            simp only [unfW] at d5
            have d6 := hV 6 (by simp)
            simp only [unfW] at d6
            have d7 := hV 7 (by simp)
            simp only [unfW] at d7
            have d8 := hV 8 (by simp)
            simp only [unfW] at d8
            have d9 := hV 9 (by simp)
            simp only [unfW] at d9
            have d10 := hV 10 (by simp)
            simp only [unfW] at d10
            have d11 := hV 11 (by simp)
            simp only [unfW] at d11
            have d12 := hV 12 (by simp)
            simp only [unfW] at d12
            have d13 := hV 13 (by simp)
            simp only [unfW] at d13
            simp only [Reg.putS, List.foldl, List.headD, List.tail, List.getD_cons_zero, List.getD_cons_succ, Act.put, List.setIfInBounds_toArray, List.set_cons_zero, List.set_cons_succ, d0, d1, d2, d3, d4, d5, d6, d7, d8, d9, d10, d11, d12] at hK ⊢
            go_simp
            first
              | exact hK _ _ (rb_refl _ _ _) rfl
              | (rw [if_pos (by omega)]; exact hK _ _ (rb_refl _ _ _) rfl)
              | (rw [dif_pos (by omega)]; exact hK _ _ (rb_refl _ _ _) rfl)
              | (rw [if_neg (by omega)]; exact hK _ _ (rb_refl _ _ _) rfl)
          · intro vals W K hR hV hK
            have d0 := hV 0 (by simp)
            simp only [unfW] at d0
            have d1 := hV 1 (by simp)
            simp only [unfW] at d1
            have d2 := hV 2 (by simp)
            simp only [unfW] at d2
            have d3 := hV 3 (by simp)
            simp only [unfW] at d3
            have d4 := hV 4 (by simp)
            simp only [unfW] at d4
            have d5 := hV 5 (by simp)
            simp only [unfW] at d5
            have d6 := hV 6 (by simp)
            simp only [unfW] at d6
            have d7 := hV 7 (by simp)
            simp only [unfW] at d7
            have d8 := hV 8 (by simp)
            simp only [unfW] at d8
            have d9 := hV 9 (by simp)
            simp only [unfW] at d9
            have d10 := hV 10 (by simp)
            simp only [unfW] at d10
            have d11 := hV 11 (by simp)
            simp only [unfW] at d11
            have d12 := hV 12 (by simp)
            simp only [unfW] at d12
            have d13 := hV 13 (by simp)
            simp only [unfW] at d13
            have d14 := hV 14 (by simp)
            simp only [unfW] at d14
            simp only [Reg.putS, List.foldl, List.headD, List.tail, List.getD_cons_zero, List.getD_cons_succ, Act.put, List.setIfInBounds_toArray, List.set_cons_zero, List.set_cons_succ, d0, d1, d2, d3, d4, d5, d6, d7, d8, d9, d10, d11, d12, d14] at hK ⊢
            go_simp
            first
              | exact hK _ _ (rb_refl _ _ _) rfl
              | (rw [if_pos (by omega)]; exact hK _ _ (rb_refl _ _ _) rfl)
              | (rw [dif_pos (by omega)]; exact hK _ _ (rb_refl _ _ _) rfl)
              | (rw [if_neg (by omega)]; exact hK _ _ (rb_refl _ _ _) rfl)
        · intro vals W hR hV
          rw [show List.range (List.length [some 56, some 57, some 58, some 59, some 60, some 61, some 62, some 63, some 64, some 65, some 66, some 67, some 68, none, some 5, some 6]) = [0, 1, 2, 3, 4, 5, 6, 7, 8, 9, 10, 11, 12, 13, 14, 15] from rfl]
          have d0 := hV 0 (by decide)
          simp only [unfW] at d0
          have d1 := hV 1 (by decide)
          simp only [unfW] at d1
          have d2 := hV 2 (by decide)
          simp only [unfW] at d2
          have d3 := hV 3 (by decide)
          simp only [unfW] at d3
          have d4 := hV 4 (by decide)
          simp only [unfW] at d4
          have d5 := hV 5 (by decide)
          simp only [unfW] at d5
          have d6 := hV 6 (by decide)
          simp only [unfW] at d6
          have d7 := hV 7 (by decide)
          simp only [unfW] at d7
          have d8 := hV 8 (by decide)
          simp only [unfW] at d8
          have d9 := hV 9 (by decide)
          simp only [unfW] at d9
          have d10 := hV 10 (by decide)
          simp only [unfW] at d10
          have d11 := hV 11 (by decide)
          simp only [unfW] at d11
          have d12 := hV 12 (by decide)
          simp only [unfW] at d12
          have d13 := hV 13 (by decide)
          simp only [unfW] at d13
          have d14 := hV 14 (by decide)
          simp only [unfW] at d14
          have d15 := hV 15 (by decide)
          simp only [unfW] at d15
          clear hV
          simp only [Reg.putS, List.foldl, List.getD_cons_zero, List.getD_cons_succ, Act.put, List.setIfInBounds_toArray, List.set_cons_zero, List.set_cons_succ, d0, d1, d2, d3, d4, d5, d6, d7, d8, d9, d10, d11, d12, d14, d15]
          clear d0 d1 d2 d3 d4 d5 d6 d7 d8 d9 d10 d11 d12 d14 d15
          have r0 : W.cell? ⟨w.heap.size, 0, none⟩ = some (.int .i64 (b8 b 0)) := by simp [World.cell?, d13]
          have r1 : W.cell? ⟨w.heap.size, 1, none⟩ = some (.int .i64 (numS (b.extract 1 3))) := by simp [World.cell?, d13]
          have r2 : W.cell? ⟨w.heap.size, 2, none⟩ = some (.int .u32 (numS (b.extract 5 9))) := by simp [World.cell?, d13]
          have r3 : W.cell? ⟨w.heap.size, 3, none⟩ = some (.string (b.extract 9 (9 + (numS (b.extract 3 5)).toNat))) := by simp [World.cell?, d13]
          have q0 : W.frozen? ⟨w.heap.size, 0, none⟩ = false := by simp [World.frozen?, d13]
          have q1 : W.frozen? ⟨w.heap.size, 1, none⟩ = false := by simp [World.frozen?, d13]
          have q2 : W.frozen? ⟨w.heap.size, 2, none⟩ = false := by simp [World.frozen?, d13]
          have q3 : W.frozen? ⟨w.heap.size, 3, none⟩ = false := by simp [World.frozen?, d13]
          have belZ : Below w.heap.size w W := Below.trans belW (show Below w.heap.size w8 W from Below.mono ⟨hR.1.os, hR.1.tape, hR.1.output, hR.1.size, hR.1.block⟩ hBle)
          clear d13 hR
          go_wp2_with fail
          have hx : getF b m = ((b8 b 0, (numS (b.extract 1 3)), (numS (b.extract 5 9)), (b.extract 9 (9 + (numS (b.extract 3 5)).toNat))), 9 + (numS (b.extract 3 5)), 0) := by
            unfold getF
            rw [if_neg h0, if_neg (by omega), if_neg h4, if_neg h6, if_neg (no_or (by omega) hff.2), if_neg (by omega)]
          refine bodyPost_ret (v := .tuple #[frameAgg (getF b m), .int .i64 (getF b m).2.1, .int .i64 (getF b m).2.2]) ?_ rfl ⟨rfl, ?_⟩
          · rw [hx]; simp [results, Try.results43, go_sem, frameAgg, r0, r1, r2, r3, q0, q1, q2, q3]
          · exact belZ
set_option maxHeartbeats 1000000 in
theorem get_blk_gt (b : ByteArray) (m : Int) (w : World) (hs : b.size ≤ 140737488351232) (h1 : 9 ≤ b.size) (hk : b8 b 0 = 1 ∨ b8 b 0 = 2) (hm : 1024 < m) :
    Calls Try.prog 43 #[.string b, .int .i64 m] w fun e w' => e = getOut b m ∧ Below w.heap.size w w' := by
  have hne := nonempty_of (show 1 ≤ b.size by omega)
  have hb0 := b8_get b 0 (by omega)
  have hwb := b8_wrap b 0
  have h4 : ¬ b8 b 0 = 0 := by omega
  have h5 : ¬ 2 < b8 b 0 := by omega
  have h0 : ¬ b.size = 0 := by omega
  have hl : decide ((b.size : Int) < 9) = false := by simp; omega
  have w13 := wrap_small4 b 1 3 (by omega)
  have w35 := wrap_small4 b 3 5 (by omega)
  have w59 := wrap_u32 b 5 9 (by omega)
  have hn := num_small4 b 3 5 (by omega)
  have h6 : ¬ b.size < 9 := by omega
  obtain ⟨M, hMe, hM⟩ : ∃ M, Hid (M = 1024) ∧ (M = m ∧ m ≤ 1024 ∨ M = 1024 ∧ 1024 < m) := ⟨_, Lib.hid rfl, by omega⟩
  clear hk
  unfold getOut
  go_enter Try.func43, Try.ntmps43
  go_wp2_with fail
  refine Reg.wp_region_lists (fun W W' => Below W.heap.size W W') (unfV b)
    [some 34, some 35, some 36, some 37, some 38, some 39, some 40, some 41, some 8, some 9]
    [[], [0], [1], [2], [], [4], [5, 2], [6], [3, 6, 0, 1, 2, 3], [7, 8, 0, 1, 2, 3, 4, 5, 6, 7, 8]]
    (by kernel_rfl) (by kernel_rfl) (by kernel_rfl) (fun _ => Below.refl _ _) (fun _ _ _ h k => bstep h k) ?_ ?_ ?_
  · intro i v W W' h k
    unfold unfV at h ⊢
    split at h <;> first | exact h
  · refine ⟨?_, ?_, ?_, ?_, ?_, ?_, ?_, ?_, ?_, ?_, trivial⟩
    · intro vals W K hR hV hK
      simp only [Reg.putS, List.foldl, List.headD, List.tail, List.getD_cons_zero, List.getD_cons_succ, Act.put, List.setIfInBounds_toArray, List.set_cons_zero, List.set_cons_succ] at hK ⊢
      go_simp
      first
        | exact hK _ _ (Below.refl _ _) rfl
        | (rw [if_pos (by omega)]; exact hK _ _ (Below.refl _ _) rfl)
        | (rw [dif_pos (by omega)]; exact hK _ _ (Below.refl _ _) rfl)
        | (rw [if_neg (by omega)]; exact hK _ _ (Below.refl _ _) rfl)
    · intro vals W K hR hV hK
      have d0 := hV 0 (by simp)
      simp only [unfV] at d0
      simp only [Reg.putS, List.foldl, List.headD, List.tail, List.getD_cons_zero, List.getD_cons_succ, Act.put, List.setIfInBounds_toArray, List.set_cons_zero, List.set_cons_succ, d0] at hK ⊢
      go_simp
      first
        | exact hK _ _ (Below.refl _ _) rfl
        | (rw [if_pos (by omega)]; exact hK _ _ (Below.refl _ _) rfl)
        | (rw [dif_pos (by omega)]; exact hK _ _ (Below.refl _ _) rfl)
        | (rw [if_neg (by omega)]; exact hK _ _ (Below.refl _ _) rfl)
    · intro vals W K hR hV hK
      have d1 := hV 1 (by simp)
      simp only [unfV] at d1
      simp only [Reg.putS, List.foldl, List.headD, List.tail, List.getD_cons_zero, List.getD_cons_succ, Act.put, List.setIfInBounds_toArray, List.set_cons_zero, List.set_cons_succ, d1] at hK ⊢
      go_simp
      refine (refOf_any _ _ (ext_size b 1 3 (by omega))).mono ?_
      rintro e w2 ⟨rfl, rfl⟩
      exact hK _ _ (Below.refl _ _) rfl
    · intro vals W K hR hV hK
      have d2 := hV 2 (by simp)
      simp only [unfV] at d2
      simp only [Reg.putS, List.foldl, List.headD, List.tail, List.getD_cons_zero, List.getD_cons_succ, Act.put, List.setIfInBounds_toArray, List.set_cons_zero, List.set_cons_succ, d2] at hK ⊢
      go_simp
      first
        | exact hK _ _ (Below.refl _ _) rfl
        | (rw [if_pos (by omega)]; exact hK _ _ (Below.refl _ _) rfl)
        | (rw [dif_pos (by omega)]; exact hK _ _ (Below.refl _ _) rfl)
        | (rw [if_neg (by omega)]; exact hK _ _ (Below.refl _ _) rfl)
    · intro vals W K hR hV hK
      simp only [Reg.putS, List.foldl, List.headD, List.tail, List.getD_cons_zero, List.getD_cons_succ, Act.put, List.setIfInBounds_toArray, List.set_cons_zero, List.set_cons_succ] at hK ⊢
      go_simp
      first
        | exact hK _ _ (Below.refl _ _) rfl
        | (rw [if_pos (by omega)]; exact hK _ _ (Below.refl _ _) rfl)
        | (rw [dif_pos (by omega)]; exact hK _ _ (Below.refl _ _) rfl)
        | (rw [if_neg (by omega)]; exact hK _ _ (Below.refl _ _) rfl)
    · intro vals W K hR hV hK
      have d4 := hV 4 (by simp)
      simp only [unfV] at d4
      simp only [Reg.putS, List.foldl, List.headD, List.tail, List.getD_cons_zero, List.getD_cons_succ, Act.put, List.setIfInBounds_toArray, List.set_cons_zero, List.set_cons_succ, d4] at hK ⊢
      go_simp
      first
        | exact hK _ _ (Below.refl _ _) rfl
        | (rw [if_pos (by omega)]; exact hK _ _ (Below.refl _ _) rfl)
        | (rw [dif_pos (by omega)]; exact hK _ _ (Below.refl _ _) rfl)
        | (rw [if_neg (by omega)]; exact hK _ _ (Below.refl _ _) rfl)
    · intro vals W K hR hV hK
      have d2 := hV 2 (by simp)
      simp only [unfV] at d2
      have d5 := hV 5 (by simp)
      simp only [unfV] at d5
      simp only [Reg.putS, List.foldl, List.headD, List.tail, List.getD_cons_zero, List.getD_cons_succ, Act.put, List.setIfInBounds_toArray, List.set_cons_zero, List.set_cons_succ, d2, d5] at hK ⊢
      go_simp
      refine (refOf_any _ _ (ext_size b 3 5 (by omega))).mono ?_
      rintro e w2 ⟨rfl, rfl⟩
      exact hK _ _ (Below.refl _ _) rfl
    · intro vals W K hR hV hK
      have d6 := hV 6 (by simp)
      simp only [unfV] at d6
      simp only [Reg.putS, List.foldl, List.headD, List.tail, List.getD_cons_zero, List.getD_cons_succ, Act.put, List.setIfInBounds_toArray, List.set_cons_zero, List.set_cons_succ, d6] at hK ⊢
      go_simp
      first
        | exact hK _ _ (Below.refl _ _) rfl
        | (rw [if_pos (by omega)]; exact hK _ _ (Below.refl _ _) rfl)
        | (rw [dif_pos (by omega)]; exact hK _ _ (Below.refl _ _) rfl)
        | (rw [if_neg (by omega)]; exact hK _ _ (Below.refl _ _) rfl)
    · intro vals W K hR hV hK
      have d0 := hV 0 (by simp)
      simp only [unfV] at d0
      have d1 := hV 1 (by simp)
      simp only [unfV] at d1
      have d2 := hV 2 (by simp)
      simp only [unfV] at d2
      have d3 := hV 3 (by simp)
      simp only [unfV] at d3
      have d6 := hV 6 (by simp)
      simp only [unfV] at d6
      simp only [Reg.putS, List.foldl, List.headD, List.tail, List.getD_cons_zero, List.getD_cons_succ, Act.put, List.setIfInBounds_toArray, List.set_cons_zero, List.set_cons_succ, d0, d1, d2, d3, d6] at hK ⊢
      go_simp
      first
        | exact hK _ _ (Below.refl _ _) rfl
        | (rw [if_pos (by omega)]; exact hK _ _ (Below.refl _ _) rfl)
        | (rw [dif_pos (by omega)]; exact hK _ _ (Below.refl _ _) rfl)
        | (rw [if_neg (by omega)]; exact hK _ _ (Below.refl _ _) rfl)
    · intro vals W K hR hV hK
      have d0 := hV 0 (by simp)
      simp only [unfV] at d0
      have d1 := hV 1 (by simp)
      simp only [unfV] at d1
      have d2 := hV 2 (by simp)
      simp only [unfV] at d2
      have d3 := hV 3 (by simp)
      simp only [unfV] at d3
      have d4 := hV 4 (by simp)
      simp only [unfV] at d4
      have d5 := hV 5 (by simp)
      simp only [unfV] at d5
      have d6 := hV 6 (by simp)
      simp only [unfV] at d6
      have d7 := hV 7 (by simp)
      simp only [unfV] at d7
      have d8 := hV 8 (by simp)
      simp only [unfV] at d8
      simp only [Reg.putS, List.foldl, List.headD, List.tail, List.getD_cons_zero, List.getD_cons_succ, Act.put, List.setIfInBounds_toArray, List.set_cons_zero, List.set_cons_succ, d0, d1, d2, d3, d4, d5, d6, d7, d8] at hK ⊢
      go_simp
      first
        | exact hK _ _ (Below.refl _ _) rfl
        | (rw [if_pos (by omega)]; exact hK _ _ (Below.refl _ _) rfl)
        | (rw [dif_pos (by omega)]; exact hK _ _ (Below.refl _ _) rfl)
        | (rw [if_neg (by omega)]; exact hK _ _ (Below.refl _ _) rfl)
  · intro vals W hR hV
    rw [show List.range (List.length [some 34, some 35, some 36, some 37, some 38, some 39, some 40, some 41, some 8, some 9]) = [0, 1, 2, 3, 4, 5, 6, 7, 8, 9] from rfl]
    have d0 := hV 0 (by decide)
    simp only [unfV] at d0
    have d1 := hV 1 (by decide)
    simp only [unfV] at d1
    have d2 := hV 2 (by decide)
    simp only [unfV] at d2
    have d3 := hV 3 (by decide)
    simp only [unfV] at d3
    have d4 := hV 4 (by decide)
    simp only [unfV] at d4
    have d5 := hV 5 (by decide)
    simp only [unfV] at d5
    have d6 := hV 6 (by decide)
    simp only [unfV] at d6
    have d7 := hV 7 (by decide)
    simp only [unfV] at d7
    have d8 := hV 8 (by decide)
    simp only [unfV] at d8
    have d9 := hV 9 (by decide)
    simp only [unfV] at d9
    clear hV
    simp only [Reg.putS, List.foldl, List.getD_cons_zero, List.getD_cons_succ, Act.put, List.setIfInBounds_toArray, List.set_cons_zero, List.set_cons_succ, d0, d1, d2, d3, d4, d5, d6, d7, d8, d9]
    clear d0 d1 d2 d3 d4 d5 d6 d7 d8 d9
    have hr : W.heap[w.heap.size]? = some (.cells #[.int .i64 0, .int .i64 0, .int .u32 0, .string ⟨#[]⟩] 58 (0, 0)) := heap_below hR (heap_new w _)
    have belW : Below w.heap.size w W := bstep (below_drew (balloc (Below.refl _ _) _)) hR
    clear hR
    have hBle : w.heap.size ≤ w.heap.size := Nat.le_refl _
    have r0 : W.cell? ⟨w.heap.size, 0, none⟩ = some (.int .i64 0) := by simp [World.cell?, hr]
    have r1 : W.cell? ⟨w.heap.size, 1, none⟩ = some (.int .i64 0) := by simp [World.cell?, hr]
    have r2 : W.cell? ⟨w.heap.size, 2, none⟩ = some (.int .u32 0) := by simp [World.cell?, hr]
    have r3 : W.cell? ⟨w.heap.size, 3, none⟩ = some (.string ⟨#[]⟩) := by simp [World.cell?, hr]
    have q0 : W.frozen? ⟨w.heap.size, 0, none⟩ = false := by simp [World.frozen?, hr]
    have q1 : W.frozen? ⟨w.heap.size, 1, none⟩ = false := by simp [World.frozen?, hr]
    have q2 : W.frozen? ⟨w.heap.size, 2, none⟩ = false := by simp [World.frozen?, hr]
    have q3 : W.frozen? ⟨w.heap.size, 3, none⟩ = false := by simp [World.frozen?, hr]
    go_wp2_with fail
    rw [← hMe.out]
    refine (refFits_any _ _ _ _ _).mono ?_
    rintro e w8 ⟨rfl, rfl⟩
    cases hf : fitsB (b8 b 0) (numS (b.extract 1 3)) (numS (b.extract 3 5)) M with
    | false =>
      go_wp2_with fail
      have hx : getF b m = ((0, 0, 0, ⟨#[]⟩), 0, 10) := by
        unfold getF
        rw [if_neg h0, if_neg (by omega), if_neg h4, if_neg h6, if_pos (no_fit hM hf)]
      refine bodyPost_ret (v := .tuple #[frameAgg (getF b m), .int .i64 (getF b m).2.1, .int .i64 (getF b m).2.2]) ?_ rfl ⟨rfl, ?_⟩
      · rw [hx]; simp [results, Try.results43, go_sem, frameAgg, r0, r1, r2, r3, q0, q1, q2, q3]
      · exact ((((belW.setCell hBle _).setCell hBle _).setCell hBle _).setCell hBle _)
    | true =>
      have hff := yes_fit hM hf
      have hw2 : IntKind.i64.wrap (9 + (numS (b.extract 3 5))) = 9 + (numS (b.extract 3 5)) := by rw [IntKind.wrap_i64]; omega
      rcases (show (b.size : Int) < 9 + (numS (b.extract 3 5)) ∨ ¬ (b.size : Int) < 9 + (numS (b.extract 3 5)) by omega) with hl | hl
      · have t2 : decide ((b.size : Int) < 9 + (numS (b.extract 3 5))) = true := by simpa using hl
        go_wp2_with fail
        have hx : getF b m = ((0, 0, 0, ⟨#[]⟩), 0, 2) := by
          unfold getF
          rw [if_neg h0, if_neg (by omega), if_neg h4, if_neg h6, if_neg (no_or (by omega) hff.2), if_pos hl]
        refine bodyPost_ret (v := .tuple #[frameAgg (getF b m), .int .i64 (getF b m).2.1, .int .i64 (getF b m).2.2]) ?_ rfl ⟨rfl, ?_⟩
        · rw [hx]; simp [results, Try.results43, go_sem, frameAgg, r0, r1, r2, r3, q0, q1, q2, q3]
        · exact ((((belW.setCell hBle _).setCell hBle _).setCell hBle _).setCell hBle _)
      · have t2 : decide ((b.size : Int) < 9 + (numS (b.extract 3 5))) = false := by simpa using hl
        have hl3 : 9 + (numS (b.extract 3 5)) ≤ (b.size : Int) := by omega
        have hl4 : 0 ≤ 9 + (numS (b.extract 3 5)) := by omega
        have hl5 : (9 + (numS (b.extract 3 5))).toNat = 9 + (numS (b.extract 3 5)).toNat := by omega
        go_wp2_with fail
        refine Reg.wp_region_lists (RB w.heap.size (Obj.cells #[.int .i64 (b8 b 0), .int .i64 (numS (b.extract 1 3)), .int .u32 (numS (b.extract 5 9)), .string (b.extract 9 (9 + (numS (b.extract 3 5)).toNat))] 58 (0, 0))) (unfW b w.heap.size)
          [some 56, some 57, some 58, some 59, some 60, some 61, some 62, some 63, some 64, some 65, some 66, some 67, some 68, none, some 5, some 6]
          [[], [], [], [2], [3], [4], [], [], [7], [6, 8], [0, 1, 5, 9], [], [11], [10, 4, 0, 1, 2, 3, 4, 5, 6, 7, 8, 9, 10], [12, 13, 0, 1, 2, 3, 4, 5, 6, 7, 8, 9, 10, 11, 12, 13], [14, 0, 1, 2, 3, 4, 5, 6, 7, 8, 9, 10, 11, 12, 13, 14]]
          (by kernel_rfl) (by kernel_rfl) (by kernel_rfl) (rb_refl _ _) (rb_trans _ _) ?_ ?_ ?_
        · intro i v W W' h k
          unfold unfW at h ⊢
          split at h <;> first | exact h | (obtain _ := h; exact rb_keep k (by assumption))
        · refine ⟨?_, ?_, ?_, ?_, ?_, ?_, ?_, ?_, ?_, ?_, ?_, ?_, ?_, ?_, ?_, ?_, trivial⟩
          · intro vals W K hR hV hK
            simp only [Reg.putS, List.foldl, List.headD, List.tail, List.getD_cons_zero, List.getD_cons_succ, Act.put, List.setIfInBounds_toArray, List.set_cons_zero, List.set_cons_succ] at hK ⊢
            go_simp
            first
              | exact hK _ _ (rb_refl _ _ _) rfl
              | (rw [if_pos (by omega)]; exact hK _ _ (rb_refl _ _ _) rfl)
              | (rw [dif_pos (by omega)]; exact hK _ _ (rb_refl _ _ _) rfl)
              | (rw [if_neg (by omega)]; exact hK _ _ (rb_refl _ _ _) rfl)
          · intro vals W K hR hV hK
            simp only [Reg.putS, List.foldl, List.headD, List.tail, List.getD_cons_zero, List.getD_cons_succ, Act.put, List.setIfInBounds_toArray, List.set_cons_zero, List.set_cons_succ] at hK ⊢
            go_simp
            first
              | exact hK _ _ (rb_refl _ _ _) rfl
              | (rw [if_pos (by omega)]; exact hK _ _ (rb_refl _ _ _) rfl)
              | (rw [dif_pos (by omega)]; exact hK _ _ (rb_refl _ _ _) rfl)
              | (rw [if_neg (by omega)]; exact hK _ _ (rb_refl _ _ _) rfl)
          · intro vals W K hR hV hK
            simp only [Reg.putS, List.foldl, List.headD, List.tail, List.getD_cons_zero, List.getD_cons_succ, Act.put, List.setIfInBounds_toArray, List.set_cons_zero, List.set_cons_succ] at hK ⊢
            go_simp
            first
              | exact hK _ _ (rb_refl _ _ _) rfl
              | (rw [if_pos (by omega)]; exact hK _ _ (rb_refl _ _ _) rfl)
              | (rw [dif_pos (by omega)]; exact hK _ _ (rb_refl _ _ _) rfl)
              | (rw [if_neg (by omega)]; exact hK _ _ (rb_refl _ _ _) rfl)
          · intro vals W K hR hV hK
            have d2 := hV 2 (by simp)
            simp only [unfW] at d2
            simp only [Reg.putS, List.foldl, List.headD, List.tail, List.getD_cons_zero, List.getD_cons_succ, Act.put, List.setIfInBounds_toArray, List.set_cons_zero, List.set_cons_succ, d2] at hK ⊢
            go_simp
            first
              | exact hK _ _ (rb_refl _ _ _) rfl
              | (rw [if_pos (by omega)]; exact hK _ _ (rb_refl _ _ _) rfl)
              | (rw [dif_pos (by omega)]; exact hK _ _ (rb_refl _ _ _) rfl)
              | (rw [if_neg (by omega)]; exact hK _ _ (rb_refl _ _ _) rfl)
          · intro vals W K hR hV hK
            have d3 := hV 3 (by simp)
            simp only [unfW] at d3
            simp only [Reg.putS, List.foldl, List.headD, List.tail, List.getD_cons_zero, List.getD_cons_succ, Act.put, List.setIfInBounds_toArray, List.set_cons_zero, List.set_cons_succ, d3] at hK ⊢
            go_simp
            refine (refOf_any _ _ (ext_size b 5 9 (by omega))).mono ?_
            rintro e w2 ⟨rfl, rfl⟩
            exact hK _ _ (rb_refl _ _ _) rfl
          · intro vals W K hR hV hK
            have d4 := hV 4 (by simp)
            simp only [unfW] at d4
            simp only [Reg.putS, List.foldl, List.headD, List.tail, List.getD_cons_zero, List.getD_cons_succ, Act.put, List.setIfInBounds_toArray, List.set_cons_zero, List.set_cons_succ, d4] at hK ⊢
            go_simp
            first
              | exact hK _ _ (rb_refl _ _ _) rfl
              | (rw [if_pos (by omega)]; exact hK _ _ (rb_refl _ _ _) rfl)
              | (rw [dif_pos (by omega)]; exact hK _ _ (rb_refl _ _ _) rfl)
              | (rw [if_neg (by omega)]; exact hK _ _ (rb_refl _ _ _) rfl)
          · intro vals W K hR hV hK
            simp only [Reg.putS, List.foldl, List.headD, List.tail, List.getD_cons_zero, List.getD_cons_succ, Act.put, List.setIfInBounds_toArray, List.set_cons_zero, List.set_cons_succ] at hK ⊢
            go_simp
            first
              | exact hK _ _ (rb_refl _ _ _) rfl
              | (rw [if_pos (by omega)]; exact hK _ _ (rb_refl _ _ _) rfl)
              | (rw [dif_pos (by omega)]; exact hK _ _ (rb_refl _ _ _) rfl)
              | (rw [if_neg (by omega)]; exact hK _ _ (rb_refl _ _ _) rfl)
          · intro vals W K hR hV hK
            simp only [Reg.putS, List.foldl, List.headD, List.tail, List.getD_cons_zero, List.getD_cons_succ, Act.put, List.setIfInBounds_toArray, List.set_cons_zero, List.set_cons_succ] at hK ⊢
            go_simp
            first
              | exact hK _ _ (rb_refl _ _ _) rfl
              | (rw [if_pos (by omega)]; exact hK _ _ (rb_refl _ _ _) rfl)
              | (rw [dif_pos (by omega)]; exact hK _ _ (rb_refl _ _ _) rfl)
              | (rw [if_neg (by omega)]; exact hK _ _ (rb_refl _ _ _) rfl)
          · intro vals W K hR hV hK
            have d7 := hV 7 (by simp)
            simp only [unfW] at d7
            simp only [Reg.putS, List.foldl, List.headD, List.tail, List.getD_cons_zero, List.getD_cons_succ, Act.put, List.setIfInBounds_toArray, List.set_cons_zero, List.set_cons_succ, d7] at hK ⊢
            go_simp
            first
              | exact hK _ _ (rb_refl _ _ _) rfl
              | (rw [if_pos (by omega)]; exact hK _ _ (rb_refl _ _ _) rfl)
              | (rw [dif_pos (by omega)]; exact hK _ _ (rb_refl _ _ _) rfl)
              | (rw [if_neg (by omega)]; exact hK _ _ (rb_refl _ _ _) rfl)
          · intro vals W K hR hV hK
            have d6 := hV 6 (by simp)
            simp only [unfW] at d6
            have d8 := hV 8 (by simp)
            simp only [unfW] at d8
            simp only [Reg.putS, List.foldl, List.headD, List.tail, List.getD_cons_zero, List.getD_cons_succ, Act.put, List.setIfInBounds_toArray, List.set_cons_zero, List.set_cons_succ, d6, d8] at hK ⊢
            go_simp
            first
              | exact hK _ _ (rb_refl _ _ _) rfl
              | (rw [if_pos (by omega)]; exact hK _ _ (rb_refl _ _ _) rfl)
              | (rw [dif_pos (by omega)]; exact hK _ _ (rb_refl _ _ _) rfl)
              | (rw [if_neg (by omega)]; exact hK _ _ (rb_refl _ _ _) rfl)
          · intro vals W K hR hV hK
            have d0 := hV 0 (by simp)
            simp only [unfW] at d0
            have d1 := hV 1 (by simp)
            simp only [unfW] at d1
            have d5 := hV 5 (by simp)
            simp only [unfW] at d5
            have d9 := hV 9 (by simp)
            simp only [unfW] at d9
            simp only [Reg.putS, List.foldl, List.headD, List.tail, List.getD_cons_zero, List.getD_cons_succ, Act.put, List.setIfInBounds_toArray, List.set_cons_zero, List.set_cons_succ, d0, d1, d5, d9] at hK ⊢
            go_simp
            first
              | exact hK _ _ (rb_refl _ _ _) rfl
              | (rw [if_pos (by omega)]; exact hK _ _ (rb_refl _ _ _) rfl)
              | (rw [dif_pos (by omega)]; exact hK _ _ (rb_refl _ _ _) rfl)
              | (rw [if_neg (by omega)]; exact hK _ _ (rb_refl _ _ _) rfl)
          · intro vals W K hR hV hK
            simp only [Reg.putS, List.foldl, List.headD, List.tail, List.getD_cons_zero, List.getD_cons_succ, Act.put, List.setIfInBounds_toArray, List.set_cons_zero, List.set_cons_succ] at hK ⊢
            go_simp
            first
              | exact hK _ _ (rb_refl _ _ _) rfl
              | (rw [if_pos (by omega)]; exact hK _ _ (rb_refl _ _ _) rfl)
              | (rw [dif_pos (by omega)]; exact hK _ _ (rb_refl _ _ _) rfl)
              | (rw [if_neg (by omega)]; exact hK _ _ (rb_refl _ _ _) rfl)
          · intro vals W K hR hV hK
            have d11 := hV 11 (by simp)
            simp only [unfW] at d11
            simp only [Reg.putS, List.foldl, List.headD, List.tail, List.getD_cons_zero, List.getD_cons_succ, Act.put, List.setIfInBounds_toArray, List.set_cons_zero, List.set_cons_succ, d11] at hK ⊢
            go_simp
            first
              | exact hK _ _ (rb_refl _ _ _) rfl
              | (rw [if_pos (by omega)]; exact hK _ _ (rb_refl _ _ _) rfl)
              | (rw [dif_pos (by omega)]; exact hK _ _ (rb_refl _ _ _) rfl)
              | (rw [if_neg (by omega)]; exact hK _ _ (rb_refl _ _ _) rfl)
          · intro vals W K hR hV hK
            have d0 := hV 0 (by simp)
            simp only [unfW] at d0
            have d1 := hV 1 (by simp)
            simp only [unfW] at d1
            have d2 := hV 2 (by simp)
            simp only [unfW] at d2
            have d3 := hV 3 (by simp)
            simp only [unfW] at d3
            have d4 := hV 4 (by simp)
            simp only [unfW] at d4
            have d5 := hV 5 (by simp)
            simp only [unfW] at d5
            have d6 := hV 6 (by simp)
            simp only [unfW] at d6
            have d7 := hV 7 (by simp)
            simp only [unfW] at d7
            have d8 := hV 8 (by simp)
            simp only [unfW] at d8
            have d9 := hV 9 (by simp)
            simp only [unfW] at d9
            have d10 := hV 10 (by simp)
            simp only [unfW] at d10
            simp only [Reg.putS, List.foldl, List.headD, List.tail, List.getD_cons_zero, List.getD_cons_succ, Act.put, List.setIfInBounds_toArray, List.set_cons_zero, List.set_cons_succ, d0, d1, d2, d3, d4, d5, d6, d7, d8, d9, d10] at hK ⊢
            obtain ⟨y0, y1, y2, y3, hy⟩ := rb_four hR hr
            have c0 : W.cell? ⟨w.heap.size, 0, none⟩ = some y0 := by simp [World.cell?, hy]
            have c1 : W.cell? ⟨w.heap.size, 1, none⟩ = some y1 := by simp [World.cell?, hy]
            have c2 : W.cell? ⟨w.heap.size, 2, none⟩ = some y2 := by simp [World.cell?, hy]
            have c3 : W.cell? ⟨w.heap.size, 3, none⟩ = some y3 := by simp [World.cell?, hy]
            have f0 : W.frozen? ⟨w.heap.size, 0, none⟩ = false := by simp [World.frozen?, hy]
            have f1 : W.frozen? ⟨w.heap.size, 1, none⟩ = false := by simp [World.frozen?, hy]
            have f2 : W.frozen? ⟨w.heap.size, 2, none⟩ = false := by simp [World.frozen?, hy]
            have f3 : W.frozen? ⟨w.heap.size, 3, none⟩ = false := by simp [World.frozen?, hy]
            have F := four_cells (.int .i64 (b8 b 0)) (.int .i64 (numS (b.extract 1 3))) (.int .u32 (numS (b.extract 5 9))) (.string (b.extract 9 (9 + (numS (b.extract 3 5)).toNat))) hy
            clear hy
            go_simp
            exact hK undef _ F.1 F.2
          · intro vals W K hR hV hK
            have d0 := hV 0 (by simp)
            simp only [unfW] at d0
            have d1 := hV 1 (by simp)
            simp only [unfW] at d1
            have d2 := hV 2 (by simp)
            simp only [unfW] at d2
            have d3 := hV 3 (by simp)
            simp only [unfW] at d3
            have d4 := hV 4 (by simp)
            simp only [unfW] at d4
            have d5 := hV 5 (by simp)
            simp only [unfW] at d5
            have d6 := hV 6 (by simp)
            simp only [unfW] at d6
            have d7 := hV 7 (by simp)
            simp only [unfW] at d7
            have d8 := hV 8 (by simp)
            simp only [unfW] at d8
            have d9 := hV 9 (by simp)
            simp only [unfW] at d9
            have d10 := hV 10 (by simp)
            simp only [unfW] at d10
            have d11 := hV 11 (by simp)
            simp only [unfW] at d11
            have d12 := hV 12 (by simp)
            simp only [unfW] at d12
            have d13 := hV 13 (by simp)
            simp only [unfW] at d13
            simp only [Reg.putS, List.foldl, List.headD, List.tail, List.getD_cons_zero, List.getD_cons_succ, Act.put, List.setIfInBounds_toArray, List.set_cons_zero, List.set_cons_succ, d0, d1, d2, d3, d4, d5, d6, d7, d8, d9, d10, d11, d12] at hK ⊢
            go_simp
            first
              | exact hK _ _ (rb_refl _ _ _) rfl
              | (rw [if_pos (by omega)]; exact hK _ _ (rb_refl _ _ _) rfl)
              | (rw [dif_pos (by omega)]; exact hK _ _ (rb_refl _ _ _) rfl)
              | (rw [if_neg (by omega)]; exact hK _ _ (rb_refl _ _ _) rfl)
          · intro vals W K hR hV hK
            have d0 := hV 0 (by simp)
            simp only [unfW] at d0
            have d1 := hV 1 (by simp)
            simp only [unfW] at d1
            have d2 := hV 2 (by simp)
            simp only [unfW] at d2
            have d3 := hV 3 (by simp)
            simp only [unfW] at d3
            have d4 := hV 4 (by simp)
            simp only [unfW] at d4
            have d5 := hV 5 (by simp)
            simp only [unfW] at d5
            have d6 := hV 6 (by simp)
            simp only [unfW] at d6
            have d7 := hV 7 (by simp)
            simp only [unfW] at d7
            have d8 := hV 8 (by simp)
            simp only [unfW] at d8
            have d9 := hV 9 (by simp)
            simp only [unfW] at d9
            have d10 := hV 10 (by simp)
            simp only [unfW] at d10
            have d11 := hV 11 (by simp)
            simp only [unfW] at d11
            have d12 := hV 12 (by simp)
            simp only [unfW] at d12
            have d13 := hV 13 (by simp)
            simp only [unfW] at d13
            have d14 := hV 14 (by simp)
            simp only [unfW] at d14
            simp only [Reg.putS, List.foldl, List.headD, List.tail, List.getD_cons_zero, List.getD_cons_succ, Act.put, List.setIfInBounds_toArray, List.set_cons_zero, List.set_cons_succ, d0, d1, d2, d3, d4, d5, d6, d7, d8, d9, d10, d11, d12, d14] at hK ⊢
            go_simp
            first
              | exact hK _ _ (rb_refl _ _ _) rfl
              | (rw [if_pos (by omega)]; exact hK _ _ (rb_refl _ _ _) rfl)
              | (rw [dif_pos (by omega)]; exact hK _ _ (rb_refl _ _ _) rfl)
              | (rw [if_neg (by omega)]; exact hK _ _ (rb_refl _ _ _) rfl)
        · intro vals W hR hV
          rw [show List.range (List.length [some 56, some 57, some 58, some 59, some 60, some 61, some 62, some 63, some 64, some 65, some 66, some 67, some 68, none, some 5, some 6]) = [0, 1, 2, 3, 4, 5, 6, 7, 8, 9, 10, 11, 12, 13, 14, 15] from rfl]
          have d0 := hV 0 (by decide)
          simp only [unfW] at d0
          have d1 := hV 1 (by decide)
          simp only [unfW] at d1
          have d2 := hV 2 (by decide)
          simp only [unfW] at d2
          have d3 := hV 3 (by decide)
          simp only [unfW] at d3
          have d4 := hV 4 (by decide)
          simp only [unfW] at d4
          have d5 := hV 5 (by decide)
          simp only [unfW] at d5
          have d6 := hV 6 (by decide)
          simp only [unfW] at d6
          have d7 := hV 7 (by decide)
          simp only [unfW] at d7
          have d8 := hV 8 (by decide)
          simp only [unfW] at d8
          have d9 := hV 9 (by decide)
          simp only [unfW] at d9
          have d10 := hV 10 (by decide)
          simp only [unfW] at d10
          have d11 := hV 11 (by decide)
          simp only [unfW] at d11
          have d12 := hV 12 (by decide)
          simp only [unfW] at d12
          have d13 := hV 13 (by decide)
          simp only [unfW] at d13
          have d14 := hV 14 (by decide)
          simp only [unfW] at d14
          have d15 := hV 15 (by decide)
          simp only [unfW] at d15
          clear hV
          simp only [Reg.putS, List.foldl, List.getD_cons_zero, List.getD_cons_succ, Act.put, List.setIfInBounds_toArray, List.set_cons_zero, List.set_cons_succ, d0, d1, d2, d3, d4, d5, d6, d7, d8, d9, d10, d11, d12, d14, d15]
          clear d0 d1 d2 d3 d4 d5 d6 d7 d8 d9 d10 d11 d12 d14 d15
          have r0 : W.cell? ⟨w.heap.size, 0, none⟩ = some (.int .i64 (b8 b 0)) := by simp [World.cell?, d13]
          have r1 : W.cell? ⟨w.heap.size, 1, none⟩ = some (.int .i64 (numS (b.extract 1 3))) := by simp [World.cell?, d13]
          have r2 : W.cell? ⟨w.heap.size, 2, none⟩ = some (.int .u32 (numS (b.extract 5 9))) := by simp [World.cell?, d13]
          have r3 : W.cell? ⟨w.heap.size, 3, none⟩ = some (.string (b.extract 9 (9 + (numS (b.extract 3 5)).toNat))) := by simp [World.cell?, d13]
          have q0 : W.frozen? ⟨w.heap.size, 0, none⟩ = false := by simp [World.frozen?, d13]
          have q1 : W.frozen? ⟨w.heap.size, 1, none⟩ = false := by simp [World.frozen?, d13]
          have q2 : W.frozen? ⟨w.heap.size, 2, none⟩ = false := by simp [World.frozen?, d13]
          have q3 : W.frozen? ⟨w.heap.size, 3, none⟩ = false := by simp [World.frozen?, d13]
          have belZ : Below w.heap.size w W := Below.trans belW (show Below w.heap.size w8 W from Below.mono ⟨hR.1.os, hR.1.tape, hR.1.output, hR.1.size, hR.1.block⟩ hBle)
          clear d13 hR
          go_wp2_with fail
          have hx : getF b m = ((b8 b 0, (numS (b.extract 1 3)), (numS (b.extract 5 9)), (b.extract 9 (9 + (numS (b.extract 3 5)).toNat))), 9 + (numS (b.extract 3 5)), 0) := by
            unfold getF
            rw [if_neg h0, if_neg (by omega), if_neg h4, if_neg h6, if_neg (no_or (by omega) hff.2), if_neg (by omega)]
          refine bodyPost_ret (v := .tuple #[frameAgg (getF b m), .int .i64 (getF b m).2.1, .int .i64 (getF b m).2.2]) ?_ rfl ⟨rfl, ?_⟩
          · rw [hx]; simp [results, Try.results43, go_sem, frameAgg, r0, r1, r2, r3, q0, q1, q2, q3]
          · exact belZ
end Go.Proofs.Ythaoofnnhdkboaa.UnfB
