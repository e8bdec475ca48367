/- The walk of HeadBytes. -/
import Derived.Test.YthaoofnnhdkboaaFrM
set_option linter.unusedSimpArgs false
set_option linter.unusedVariables false
namespace Go.Proofs.Ythaoofnnhdkboaa.FrT
open Go.RowKit Go.Proofs.Ythaoofnnhdkboaa.CrcL Go.Proofs.Ythaoofnnhdkboaa.FrW Go.Proofs.Ythaoofnnhdkboaa.FrH Go.Proofs.Ythaoofnnhdkboaa.FrG Go.Proofs.Ythaoofnnhdkboaa.FrU Go.Proofs.Ythaoofnnhdkboaa.FrL Go.Proofs.Ythaoofnnhdkboaa.FrP Go.Proofs.Ythaoofnnhdkboaa.FrE Go.Proofs.Ythaoofnnhdkboaa.FrA Go.Proofs.Ythaoofnnhdkboaa.FrM Go.Proofs.Ythaoofnnhdkboaa.FrN Go.Proofs.Ythaoofnnhdkboaa.FrF
open Go.Proofs.Ythaoofnnhdkboaa.CrcT (conv1 xor8 u8_of u8_range wrap_k1)
attribute [local go_sem high] eqA49

set_option maxRecDepth 20000 in
set_option maxHeartbeats 2000000 in
theorem bytes_in (cd bl id : Int) (a1 y : Int) (q Z : ByteArray) (k : Nat) (e x1 x2 x3 : Int) (w : World) (hid : 0 ≤ id ∧ id < 18446744073709551616) (ok : okH cd bl) (hq : q.size = 17) (hk : k < 17) (hp : putS cd bl id = q) (hy : (y == 0) = false)
    (hmod : (wrap64 (a1.tmod 17 + 17)).tmod 17 = (k : Int)) (hmin : ¬ (a1 = -9223372036854775808 ∧ False)) (hz : Z.size = 1)
    (hcg : ∀ (W : World) (b : Nat), W.cell? ⟨b, 0, none⟩ = some (.int .u8 (Go.bits .xor .u8 (q[k].toNat : Int) y)) → (convert 32 9 (.slice (some ⟨b, 0, none⟩) 1 1)).run Try.prog W = .ok (.string Z) W)
    (hget : getH (q.extract 0 k ++ Z ++ q.extract (k + 1) 17) = ((x1, x2, x3), e)) (hla : (q.extract 0 k ++ Z ++ q.extract (k + 1) 17).size ≤ 1000) (htold : told cd bl id k y ((x1, x2, x3), e)) (hwy : IntKind.i64.wrap y = y) :
    Calls Try.prog 14 #[.agg #[.int .i64 cd, .int .i64 bl, .int .u64 id], .int .i64 a1, .int .u8 y] w fun e w' => e = .returned (.bool true) ∧ Below w.heap.size w w' := by
  unfold told at htold
  obtain ⟨c, hc⟩ : ∃ c : Int, Hid (c = (q[k].toNat : Int)) := ⟨(q[k].toNat : Int), (rfl : (q[k].toNat : Int) = (q[k].toNat : Int))⟩
  rw [← hc.out] at hcg
  have c0 : (w.alloc (.cells #[.int .i64 cd, .int .i64 bl, .int .u64 id] 49)).cell? ⟨w.heap.size, 0, none⟩ = some (.int .i64 cd) := by simp
  have c1 : (w.alloc (.cells #[.int .i64 cd, .int .i64 bl, .int .u64 id] 49)).cell? ⟨w.heap.size, 1, none⟩ = some (.int .i64 bl) := by simp
  have c2 : (w.alloc (.cells #[.int .i64 cd, .int .i64 bl, .int .u64 id] 49)).cell? ⟨w.heap.size, 2, none⟩ = some (.int .u64 id) := by simp
  have bel : Below w.heap.size w (w.alloc (.cells #[.int .i64 cd, .int .i64 bl, .int .u64 id] 49)) := balloc (Below.refl _ _) _
  go_enter Try.func14, Try.ntmps14
  go_wp2_with fail
  refine (put_any cd bl id _ hid).mono ?_
  rintro e w1 ⟨rfl, hb1⟩
  replace c0 := pw_cell_below hb1 c0
  replace c1 := pw_cell_below hb1 c1
  replace c2 := pw_cell_below hb1 c2
  replace bel := bstep bel hb1
  rw [decide_eq_true ok, hp]
  go_wp2_with fail
  refine (alive_call _).mono ?_
  rintro e w2 ⟨rfl, hb2⟩
  replace c0 := pw_cell_below hb2 c0
  replace c1 := pw_cell_below hb2 c1
  replace c2 := pw_cell_below hb2 c2
  replace bel := bstep bel hb2
  go_wp2_with fail
  refine RegP.wp_region_lists (RR w2.heap.size #[.int .i64 x1, .int .i64 x2, .int .u64 x3]) par (bytesV q c y k e x1 x2 x3 w2.heap.size Z)
    [some 42, some 43, some 44, some 45, some 46, some 47, some 48, some 49, some 50, some 51, some 52, some 53, some 54, some 55, some 56, some 57, some 58, some 41, some 59, some 60, some 10, none, some 11]
    [[], [], [0, 1], [], [], [3, 4], [], [5, 6], [7], [8], [2, 9], [], [], [12], [11, 13], [10, 14], [15], [16], [17], [17], [], [20, 18, 16, 0, 1, 2, 3, 4, 5, 6, 7, 8, 9, 10, 11, 12, 13, 14, 15, 16, 17, 18, 20], [19, 21, 0, 1, 2, 3, 4, 5, 6, 7, 8, 9, 10, 11, 12, 13, 14, 15, 16, 17, 18, 19, 20, 21]]
    (by kernel_rfl) (by kernel_rfl) (by kernel_rfl) (par_ok _ (by decide)) (rr_refl _ _) (rr_trans _ _ rfl) ?_ ?_ ?_
  · intro i p v W W' h k
    exact bytesV_stay h k
  · refine ⟨?_, ?_, ?_, ?_, ?_, ?_, ?_, ?_, ?_, ?_, ?_, ?_, ?_, ?_, ?_, ?_, ?_, ?_, ?_, ?_, ?_, ?_, ?_, trivial⟩
    · intro vals W K hR hV hK
      simp (config := { decide := true }) only [par, Nat.zero_add, Nat.reduceAdd, Nat.reduceEqDiff, ↓reduceIte] at hK
      simp only [Reg.putS, List.foldl, List.headD, List.tail, List.getD_cons_zero, List.getD_cons_succ, Act.put, List.setIfInBounds_toArray, List.set_cons_zero, List.set_cons_succ] at hK ⊢
      go_simp
      first
        | exact hK _ _ (rr_refl _ _ _) rfl
        | (rw [if_pos (by omega)]; exact hK _ _ (rr_refl _ _ _) rfl)
        | (rw [dif_pos (by omega)]; exact hK _ _ (rr_refl _ _ _) rfl)
        | (rw [if_neg (by omega)]; exact hK _ _ (rr_refl _ _ _) rfl)
    · intro vals W K hR hV hK
      simp (config := { decide := true }) only [par, Nat.zero_add, Nat.reduceAdd, Nat.reduceEqDiff, ↓reduceIte] at hK
      simp only [Reg.putS, List.foldl, List.headD, List.tail, List.getD_cons_zero, List.getD_cons_succ, Act.put, List.setIfInBounds_toArray, List.set_cons_zero, List.set_cons_succ] at hK ⊢
      go_simp
      first
        | exact hK _ _ (rr_refl _ _ _) rfl
        | (rw [if_pos (by omega)]; exact hK _ _ (rr_refl _ _ _) rfl)
        | (rw [dif_pos (by omega)]; exact hK _ _ (rr_refl _ _ _) rfl)
        | (rw [if_neg (by omega)]; exact hK _ _ (rr_refl _ _ _) rfl)
    · intro vals W K hR hV hK
      simp (config := { decide := true }) only [par, Nat.zero_add, Nat.reduceAdd, Nat.reduceEqDiff, ↓reduceIte] at hK
      have d0 := hV 0 (by simp)
      simp only [bytesV] at d0
      have d1 := hV 1 (by simp)
      simp only [bytesV] at d1
      simp only [Reg.putS, List.foldl, List.headD, List.tail, List.getD_cons_zero, List.getD_cons_succ, Act.put, List.setIfInBounds_toArray, List.set_cons_zero, List.set_cons_succ, d0, d1] at hK ⊢
      go_simp
      first
        | exact hK _ _ (rr_refl _ _ _) rfl
        | (rw [if_pos (by omega)]; exact hK _ _ (rr_refl _ _ _) rfl)
        | (rw [dif_pos (by omega)]; exact hK _ _ (rr_refl _ _ _) rfl)
        | (rw [if_neg (by omega)]; exact hK _ _ (rr_refl _ _ _) rfl)
    · intro vals W K hR hV hK
      simp (config := { decide := true }) only [par, Nat.zero_add, Nat.reduceAdd, Nat.reduceEqDiff, ↓reduceIte] at hK
      simp only [Reg.putS, List.foldl, List.headD, List.tail, List.getD_cons_zero, List.getD_cons_succ, Act.put, List.setIfInBounds_toArray, List.set_cons_zero, List.set_cons_succ] at hK ⊢
      go_simp
      first
        | exact hK _ _ (rr_refl _ _ _) rfl
        | (rw [if_pos (by omega)]; exact hK _ _ (rr_refl _ _ _) rfl)
        | (rw [dif_pos (by omega)]; exact hK _ _ (rr_refl _ _ _) rfl)
        | (rw [if_neg (by omega)]; exact hK _ _ (rr_refl _ _ _) rfl)
    · intro vals W K hR hV hK
      simp (config := { decide := true }) only [par, Nat.zero_add, Nat.reduceAdd, Nat.reduceEqDiff, ↓reduceIte] at hK
      simp only [Reg.putS, List.foldl, List.headD, List.tail, List.getD_cons_zero, List.getD_cons_succ, Act.put, List.setIfInBounds_toArray, List.set_cons_zero, List.set_cons_succ] at hK ⊢
      go_simp
      first
        | exact hK _ _ (rr_refl _ _ _) rfl
        | (rw [if_pos (by omega)]; exact hK _ _ (rr_refl _ _ _) rfl)
        | (rw [dif_pos (by omega)]; exact hK _ _ (rr_refl _ _ _) rfl)
        | (rw [if_neg (by omega)]; exact hK _ _ (rr_refl _ _ _) rfl)
    · intro vals W K hR hV hK
      simp (config := { decide := true }) only [par, Nat.zero_add, Nat.reduceAdd, Nat.reduceEqDiff, ↓reduceIte] at hK
      have d3 := hV 3 (by simp)
      simp only [bytesV] at d3
      have d4 := hV 4 (by simp)
      simp only [bytesV] at d4
      simp only [Reg.putS, List.foldl, List.headD, List.tail, List.getD_cons_zero, List.getD_cons_succ, Act.put, List.setIfInBounds_toArray, List.set_cons_zero, List.set_cons_succ, d3, d4] at hK ⊢
      go_simp
      rw [dif_pos (by omega), ← hc.out]
      exact hK _ _ (rr_refl _ _ _) rfl
    · intro vals W K hR hV hK
      simp (config := { decide := true }) only [par, Nat.zero_add, Nat.reduceAdd, Nat.reduceEqDiff, ↓reduceIte] at hK
      simp only [Reg.putS, List.foldl, List.headD, List.tail, List.getD_cons_zero, List.getD_cons_succ, Act.put, List.setIfInBounds_toArray, List.set_cons_zero, List.set_cons_succ] at hK ⊢
      go_simp
      first
        | exact hK _ _ (rr_refl _ _ _) rfl
        | (rw [if_pos (by omega)]; exact hK _ _ (rr_refl _ _ _) rfl)
        | (rw [dif_pos (by omega)]; exact hK _ _ (rr_refl _ _ _) rfl)
        | (rw [if_neg (by omega)]; exact hK _ _ (rr_refl _ _ _) rfl)
    · intro vals W K hR hV hK
      simp (config := { decide := true }) only [par, Nat.zero_add, Nat.reduceAdd, Nat.reduceEqDiff, ↓reduceIte] at hK
      have d5 := hV 5 (by simp)
      simp only [bytesV] at d5
      have d6 := hV 6 (by simp)
      simp only [bytesV] at d6
      simp only [Reg.putS, List.foldl, List.headD, List.tail, List.getD_cons_zero, List.getD_cons_succ, Act.put, List.setIfInBounds_toArray, List.set_cons_zero, List.set_cons_succ, d5, d6] at hK ⊢
      go_simp
      first
        | exact hK _ _ (rr_refl _ _ _) rfl
        | (rw [if_pos (by omega)]; exact hK _ _ (rr_refl _ _ _) rfl)
        | (rw [dif_pos (by omega)]; exact hK _ _ (rr_refl _ _ _) rfl)
        | (rw [if_neg (by omega)]; exact hK _ _ (rr_refl _ _ _) rfl)
    · intro vals W K hR hV hK
      simp (config := { decide := true }) only [par, Nat.zero_add, Nat.reduceAdd, Nat.reduceEqDiff, ↓reduceIte] at hK
      have d7 := hV 7 (by simp)
      simp only [bytesV] at d7
      simp only [Reg.putS, List.foldl, List.headD, List.tail, List.getD_cons_zero, List.getD_cons_succ, Act.put, List.setIfInBounds_toArray, List.set_cons_zero, List.set_cons_succ, d7] at hK ⊢
      go_simp
      exact hK _ _ (rr_alloc hR _) ⟨_, rfl, rr_size hR, by show (W.heap.push _)[W.heap.size]? = _; simp⟩
    · intro vals W K hR hV hK
      simp (config := { decide := true }) only [par, Nat.zero_add, Nat.reduceAdd, Nat.reduceEqDiff, ↓reduceIte] at hK
      have d8 := hV 8 (by simp)
      simp only [bytesV] at d8
      obtain ⟨b8, d8, hge8, hcell8⟩ := d8
      simp only [Reg.putS, List.foldl, List.headD, List.tail, List.getD_cons_zero, List.getD_cons_succ, Act.put, List.setIfInBounds_toArray, List.set_cons_zero, List.set_cons_succ, d8] at hK ⊢
      have hcv := hcg W b8 (cell_of hcell8)
      go_simp
      first
        | exact hK _ _ (rr_refl _ _ _) rfl
        | (rw [if_pos (by omega)]; exact hK _ _ (rr_refl _ _ _) rfl)
        | (rw [dif_pos (by omega)]; exact hK _ _ (rr_refl _ _ _) rfl)
        | (rw [if_neg (by omega)]; exact hK _ _ (rr_refl _ _ _) rfl)
    · intro vals W K hR hV hK
      simp (config := { decide := true }) only [par, Nat.zero_add, Nat.reduceAdd, Nat.reduceEqDiff, ↓reduceIte] at hK
      have d2 := hV 2 (by simp)
      simp only [bytesV] at d2
      have d9 := hV 9 (by simp)
      simp only [bytesV] at d9
      simp only [Reg.putS, List.foldl, List.headD, List.tail, List.getD_cons_zero, List.getD_cons_succ, Act.put, List.setIfInBounds_toArray, List.set_cons_zero, List.set_cons_succ, d2, d9] at hK ⊢
      go_simp
      first
        | exact hK _ _ (rr_refl _ _ _) rfl
        | (rw [if_pos (by omega)]; exact hK _ _ (rr_refl _ _ _) rfl)
        | (rw [dif_pos (by omega)]; exact hK _ _ (rr_refl _ _ _) rfl)
        | (rw [if_neg (by omega)]; exact hK _ _ (rr_refl _ _ _) rfl)
    · intro vals W K hR hV hK
      simp (config := { decide := true }) only [par, Nat.zero_add, Nat.reduceAdd, Nat.reduceEqDiff, ↓reduceIte] at hK
      simp only [Reg.putS, List.foldl, List.headD, List.tail, List.getD_cons_zero, List.getD_cons_succ, Act.put, List.setIfInBounds_toArray, List.set_cons_zero, List.set_cons_succ] at hK ⊢
      go_simp
      first
        | exact hK _ _ (rr_refl _ _ _) rfl
        | (rw [if_pos (by omega)]; exact hK _ _ (rr_refl _ _ _) rfl)
        | (rw [dif_pos (by omega)]; exact hK _ _ (rr_refl _ _ _) rfl)
        | (rw [if_neg (by omega)]; exact hK _ _ (rr_refl _ _ _) rfl)
    · intro vals W K hR hV hK
      simp (config := { decide := true }) only [par, Nat.zero_add, Nat.reduceAdd, Nat.reduceEqDiff, ↓reduceIte] at hK
      simp only [Reg.putS, List.foldl, List.headD, List.tail, List.getD_cons_zero, List.getD_cons_succ, Act.put, List.setIfInBounds_toArray, List.set_cons_zero, List.set_cons_succ] at hK ⊢
      go_simp
      first
        | exact hK _ _ (rr_refl _ _ _) rfl
        | (rw [if_pos (by omega)]; exact hK _ _ (rr_refl _ _ _) rfl)
        | (rw [dif_pos (by omega)]; exact hK _ _ (rr_refl _ _ _) rfl)
        | (rw [if_neg (by omega)]; exact hK _ _ (rr_refl _ _ _) rfl)
    · intro vals W K hR hV hK
      simp (config := { decide := true }) only [par, Nat.zero_add, Nat.reduceAdd, Nat.reduceEqDiff, ↓reduceIte] at hK
      have d12 := hV 12 (by simp)
      simp only [bytesV] at d12
      simp only [Reg.putS, List.foldl, List.headD, List.tail, List.getD_cons_zero, List.getD_cons_succ, Act.put, List.setIfInBounds_toArray, List.set_cons_zero, List.set_cons_succ, d12] at hK ⊢
      have hwr := wrap_k1 k (by omega)
      go_simp
      first
        | exact hK _ _ (rr_refl _ _ _) rfl
        | (rw [if_pos (by omega)]; exact hK _ _ (rr_refl _ _ _) rfl)
        | (rw [dif_pos (by omega)]; exact hK _ _ (rr_refl _ _ _) rfl)
        | (rw [if_neg (by omega)]; exact hK _ _ (rr_refl _ _ _) rfl)
    · intro vals W K hR hV hK
      simp (config := { decide := true }) only [par, Nat.zero_add, Nat.reduceAdd, Nat.reduceEqDiff, ↓reduceIte] at hK
      have d11 := hV 11 (by simp)
      simp only [bytesV] at d11
      have d13 := hV 13 (by simp)
      simp only [bytesV] at d13
      simp only [Reg.putS, List.foldl, List.headD, List.tail, List.getD_cons_zero, List.getD_cons_succ, Act.put, List.setIfInBounds_toArray, List.set_cons_zero, List.set_cons_succ, d11, d13] at hK ⊢
      go_simp
      first
        | exact hK _ _ (rr_refl _ _ _) rfl
        | (rw [if_pos (by omega)]; exact hK _ _ (rr_refl _ _ _) rfl)
        | (rw [dif_pos (by omega)]; exact hK _ _ (rr_refl _ _ _) rfl)
        | (rw [if_neg (by omega)]; exact hK _ _ (rr_refl _ _ _) rfl)
    · intro vals W K hR hV hK
      simp (config := { decide := true }) only [par, Nat.zero_add, Nat.reduceAdd, Nat.reduceEqDiff, ↓reduceIte] at hK
      have d10 := hV 10 (by simp)
      simp only [bytesV] at d10
      have d14 := hV 14 (by simp)
      simp only [bytesV] at d14
      simp only [Reg.putS, List.foldl, List.headD, List.tail, List.getD_cons_zero, List.getD_cons_succ, Act.put, List.setIfInBounds_toArray, List.set_cons_zero, List.set_cons_succ, d10, d14] at hK ⊢
      go_simp
      first
        | exact hK _ _ (rr_refl _ _ _) rfl
        | (rw [if_pos (by omega)]; exact hK _ _ (rr_refl _ _ _) rfl)
        | (rw [dif_pos (by omega)]; exact hK _ _ (rr_refl _ _ _) rfl)
        | (rw [if_neg (by omega)]; exact hK _ _ (rr_refl _ _ _) rfl)
    · intro vals W K hR hV hK
      simp (config := { decide := true }) only [par, Nat.zero_add, Nat.reduceAdd, Nat.reduceEqDiff, ↓reduceIte] at hK
      have d15 := hV 15 (by simp)
      simp only [bytesV] at d15
      simp only [Reg.putS, List.foldl, List.headD, List.tail, List.getD_cons_zero, List.getD_cons_succ, Act.put, List.setIfInBounds_toArray, List.set_cons_zero, List.set_cons_succ, d15] at hK ⊢
      go_simp
      refine (get_any (q.extract 0 k ++ Z ++ q.extract (k + 1) 17) _ (by omega)).mono ?_
      rintro e w2 ⟨rfl, hb⟩
      rw [hget]
      simp only [headAgg]
      exact hK _ _ (rr_below hR hb) rfl
    · intro vals W K hR hV hK
      simp (config := { decide := true }) only [par, Nat.zero_add, Nat.reduceAdd, Nat.reduceEqDiff, ↓reduceIte] at hK
      have d16 := hV 16 (by simp)
      simp only [bytesV] at d16
      simp only [Reg.putS, List.foldl, List.headD, List.tail, List.getD_cons_zero, List.getD_cons_succ, Act.put, List.setIfInBounds_toArray, List.set_cons_zero, List.set_cons_succ, d16] at hK ⊢
      go_simp
      first
        | exact hK _ _ (rr_refl _ _ _) rfl
        | (rw [if_pos (by omega)]; exact hK _ _ (rr_refl _ _ _) rfl)
        | (rw [dif_pos (by omega)]; exact hK _ _ (rr_refl _ _ _) rfl)
        | (rw [if_neg (by omega)]; exact hK _ _ (rr_refl _ _ _) rfl)
    · intro vals W K hR hV hK
      simp (config := { decide := true }) only [par, Nat.zero_add, Nat.reduceAdd, Nat.reduceEqDiff, ↓reduceIte] at hK
      have d17 := hV 17 (by simp)
      simp only [bytesV] at d17
      simp only [Reg.putS, List.foldl, List.headD, List.tail, List.getD_cons_zero, List.getD_cons_succ, Act.put, List.setIfInBounds_toArray, List.set_cons_zero, List.set_cons_succ, d17] at hK ⊢
      go_simp
      first
        | exact hK _ _ (rr_refl _ _ _) rfl
        | (rw [if_pos (by omega)]; exact hK _ _ (rr_refl _ _ _) rfl)
        | (rw [dif_pos (by omega)]; exact hK _ _ (rr_refl _ _ _) rfl)
        | (rw [if_neg (by omega)]; exact hK _ _ (rr_refl _ _ _) rfl)
    · intro vals W K hR hV hK
      simp (config := { decide := true }) only [par, Nat.zero_add, Nat.reduceAdd, Nat.reduceEqDiff, ↓reduceIte] at hK
      have d17 := hV 17 (by simp)
      simp only [bytesV] at d17
      simp only [Reg.putS, List.foldl, List.headD, List.tail, List.getD_cons_zero, List.getD_cons_succ, Act.put, List.setIfInBounds_toArray, List.set_cons_zero, List.set_cons_succ, d17] at hK ⊢
      go_simp
      first
        | exact hK _ _ (rr_refl _ _ _) rfl
        | (rw [if_pos (by omega)]; exact hK _ _ (rr_refl _ _ _) rfl)
        | (rw [dif_pos (by omega)]; exact hK _ _ (rr_refl _ _ _) rfl)
        | (rw [if_neg (by omega)]; exact hK _ _ (rr_refl _ _ _) rfl)
    · intro vals W K hR hV hK
      simp (config := { decide := true }) only [par, Nat.zero_add, Nat.reduceAdd, Nat.reduceEqDiff, ↓reduceIte] at hK
      simp only [Reg.putS, List.foldl, List.headD, List.tail, List.getD_cons_zero, List.getD_cons_succ, Act.put, List.setIfInBounds_toArray, List.set_cons_zero, List.set_cons_succ] at hK ⊢
      go_simp
      exact hK _ _ (rr_alloc hR _) ⟨_, rr_size hR, rfl, one_new _ _⟩
    · refine step_of ?g ?_
      case g => rfl
      intro A vals W K hA hR hV hK
      simp (config := { decide := true }) only [par, Nat.zero_add, Nat.reduceAdd, Nat.reduceEqDiff, ↓reduceIte] at hK
      have d18 := hV 18 (by simp)
      simp only [bytesV] at d18
      have d20 := hV 20 (by simp)
      simp only [bytesV] at d20
      refine Exists.elim d20 fun b20 h20 => ?_
      refine step_store (b := b20) (m := w2.heap.size) (x1 := x1) (x2 := x2) (x3 := x3) ((putA hA rfl (Nat.lt_of_sub_eq_succ rfl)).trans h20.2.1) ((putA hA rfl (Nat.lt_of_sub_eq_succ rfl)).trans d18) h20.2.2 h20.1 (fun W2 h1 h2 => ?_)
      exact hK undef W2 h1 ⟨b20, h20.2.1, h2⟩
    · refine step_of ?g ?_
      case g => rfl
      intro A vals W K hA hR hV hK
      simp (config := { decide := true }) only [par, Nat.zero_add, Nat.reduceAdd, Nat.reduceEqDiff, ↓reduceIte] at hK
      have d19 := hV 19 (by simp)
      simp only [bytesV] at d19
      refine step_assign (u := .int .i64 e) ((putA hA rfl (Nat.lt_of_sub_eq_succ rfl)).trans d19) ?_
      exact hK (.int .i64 e) W (rr_refl _ _ _) rfl
  · intro vals W hR hV
    rw [show List.range (List.length [some 42, some 43, some 44, some 45, some 46, some 47, some 48, some 49, some 50, some 51, some 52, some 53, some 54, some 55, some 56, some 57, some 58, some 41, some 59, some 60, some 10, none, some 11]) = [0, 1, 2, 3, 4, 5, 6, 7, 8, 9, 10, 11, 12, 13, 14, 15, 16, 17, 18, 19, 20, 21, 22] from rfl]
    have d0 := hV 0 (by decide)
    simp only [bytesV] at d0
    have d1 := hV 1 (by decide)
    simp only [bytesV] at d1
    have d2 := hV 2 (by decide)
    simp only [bytesV] at d2
    have d3 := hV 3 (by decide)
    simp only [bytesV] at d3
    have d4 := hV 4 (by decide)
    simp only [bytesV] at d4
    have d5 := hV 5 (by decide)
    simp only [bytesV] at d5
    have d6 := hV 6 (by decide)
    simp only [bytesV] at d6
    have d7 := hV 7 (by decide)
    simp only [bytesV] at d7
    have d8 := hV 8 (by decide)
    simp only [bytesV] at d8
    obtain ⟨b8, d8, hge8, hcell8⟩ := d8
    have d9 := hV 9 (by decide)
    simp only [bytesV] at d9
    have d10 := hV 10 (by decide)
    simp only [bytesV] at d10
    have d11 := hV 11 (by decide)
    simp only [bytesV] at d11
    have d12 := hV 12 (by decide)
    simp only [bytesV] at d12
    have d13 := hV 13 (by decide)
    simp only [bytesV] at d13
    have d14 := hV 14 (by decide)
    simp only [bytesV] at d14
    have d15 := hV 15 (by decide)
    simp only [bytesV] at d15
    have d16 := hV 16 (by decide)
    simp only [bytesV] at d16
    have d17 := hV 17 (by decide)
    simp only [bytesV] at d17
    have d18 := hV 18 (by decide)
    simp only [bytesV] at d18
    have d19 := hV 19 (by decide)
    simp only [bytesV] at d19
    have d20 := hV 20 (by decide)
    simp only [bytesV] at d20
    obtain ⟨b20, hge20, d20, hone20⟩ := d20
    have d21 := hV 21 (by decide)
    simp only [bytesV, par, if_true] at d21
    obtain ⟨b21, p21, hcell21⟩ := d21
    have d22 := hV 22 (by decide)
    simp only [bytesV] at d22
    obtain rfl : b20 = b21 := by rw [d20] at p21; injection p21 with p21; injection p21 with p21; injection p21
    clear hV p21
    simp only [Reg.putS, List.foldl, List.getD_cons_zero, List.getD_cons_succ, Act.put, List.setIfInBounds_toArray, List.set_cons_zero, List.set_cons_succ, d0, d1, d2, d3, d4, d5, d6, d7, d8, d9, d10, d11, d12, d13, d14, d15, d16, d17, d18, d19, d20, d22]
    clear d0 d1 d2 d3 d4 d5 d6 d7 d8 d9 d10 d11 d12 d13 d14 d15 d16 d17 d18 d19 d20 d22
    have hge : w2.heap.size ≤ b20 := hge20
    have z0 := pw_cell_below (show Below w2.heap.size w2 W from ⟨hR.1.os, hR.1.tape, hR.1.output, hR.1.size, hR.1.block⟩) c0
    have z1 := pw_cell_below (show Below w2.heap.size w2 W from ⟨hR.1.os, hR.1.tape, hR.1.output, hR.1.size, hR.1.block⟩) c1
    have z2 := pw_cell_below (show Below w2.heap.size w2 W from ⟨hR.1.os, hR.1.tape, hR.1.output, hR.1.size, hR.1.block⟩) c2
    have y0 : W.cell? ⟨b20, 0, none⟩ = some (.int .i64 x1) := by unfold World.cell?; simp [hcell21]
    have y1 : W.cell? ⟨b20, 1, none⟩ = some (.int .i64 x2) := by unfold World.cell?; simp [hcell21]
    have y2 : W.cell? ⟨b20, 2, none⟩ = some (.int .u64 x3) := by unfold World.cell?; simp [hcell21]
    have belz := bstep (below_drew bel) hR.1
    clear hcell21 hone20 hR c0 c1 c2 bel hge hge20
    rcases htold with ⟨hk1, hr⟩ | ⟨hk1, ⟨hr, hx⟩ | ⟨x, hx, hr⟩⟩ | ⟨hk1, hr | ⟨x, hx, hr⟩⟩ | ⟨hk1, x, hx, hr⟩
    all_goals (simp only [Prod.mk.injEq] at hr; obtain ⟨⟨rfl, rfl, rfl⟩, rfl⟩ := hr)
    · have t5 : decide ((k : Int) < 5) = true := by simp; omega
      clear hk1
      go_wp2_with fail
      go_returns
      exact ⟨rfl, belz⟩
    · have t5 : decide ((k : Int) < 5) = false := by simp; omega
      have tk : ((k : Int) == 5) = true := by simp; omega
      have tx : decide (1 < Go.bits .xor .i64 cd y) = true := by simpa using hx
      clear hx
      clear hk1
      go_wp2_with fail
      go_returns
      exact ⟨rfl, belz⟩
    · have t5 : decide ((k : Int) < 5) = false := by simp; omega
      have tk : ((k : Int) == 5) = true := by simp; omega
      have tx : (x1 != cd) = true := by simpa using hx
      clear hx
      clear hk1
      go_wp2_with fail
      go_returns
      exact ⟨rfl, belz⟩
    · have t5 : decide ((k : Int) < 5) = false := by simp; omega
      have tk : ((k : Int) == 5) = false := by simp; omega
      have t9 : decide ((k : Int) < 9) = true := by simp; omega
      clear hk1
      go_wp2_with fail
      go_returns
      exact ⟨rfl, belz⟩
    · have t5 : decide ((k : Int) < 5) = false := by simp; omega
      have tk : ((k : Int) == 5) = false := by simp; omega
      have t9 : decide ((k : Int) < 9) = true := by simp; omega
      have tx : (x2 != bl) = true := by simpa using hx
      clear hx
      clear hk1
      go_wp2_with fail
      go_returns
      exact ⟨rfl, belz⟩
    · have t5 : decide ((k : Int) < 5) = false := by simp; omega
      have tk : ((k : Int) == 5) = false := by simp; omega
      have t9 : decide ((k : Int) < 9) = false := by simp; omega
      have tx : (x3 != id) = true := by simpa using hx
      clear hx
      clear hk1
      go_wp2_with fail
      go_returns
      exact ⟨rfl, belz⟩
end Go.Proofs.Ythaoofnnhdkboaa.FrT
