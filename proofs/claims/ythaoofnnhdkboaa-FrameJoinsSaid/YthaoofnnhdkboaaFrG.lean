/- The walks of frame.GetHead and of the reference's Unhead: a head out of bytes. -/
import Derived.Test.YthaoofnnhdkboaaFrH
import Derived.WalkSpells
set_option linter.unusedSimpArgs false
set_option linter.unusedVariables false
namespace Go.Proofs.Ythaoofnnhdkboaa.FrG
open Go.RowKit Go.Proofs.Ythaoofnnhdkboaa.CrcL Go.Proofs.Ythaoofnnhdkboaa.FrW Go.Proofs.Ythaoofnnhdkboaa.FrH

/-- Byte number i. -/
def b8 (b : ByteArray) (i : Nat) : Int := ((b.data.toList.getD i 0).toNat : Int)
theorem b8_get (b : ByteArray) (i : Nat) (h : i < b.size) : (b[i].toNat : Int) = b8 b i := by
  unfold b8
  have h1 : i < b.data.toList.length := by simpa using h
  rw [List.getD_eq_getElem?_getD, List.getElem?_eq_getElem h1]
  simp
  rfl
theorem b8_wrap (b : ByteArray) (i : Nat) : IntKind.i64.wrap (b8 b i) = b8 b i := by
  unfold b8
  have := (b.data.toList.getD i 0).toNat_lt
  rw [IntKind.wrap_i64]; omega
theorem heap_new (W : World) (o : Obj) : (W.alloc o).heap[W.heap.size]? = some o := by
  show (W.heap.push o)[W.heap.size]? = _
  simp
theorem ext_size (b : ByteArray) (lo hi : Nat) (h : hi ≤ lo + 8) : (b.extract lo hi).size ≤ 8 := by rw [ByteArray.size_extract]; omega
theorem heap_below {w w1 : World} (h : Below w.heap.size w w1) {g : Nat} {o : Obj} (hg : w.heap[g]? = some o) : w1.heap[g]? = some o := by
  rw [h.block g (Array.getElem?_eq_some_iff.1 hg).1]; exact hg
theorem num_small (b : ByteArray) : IntKind.i64.wrap (numS (b.extract 6 9)) = numS (b.extract 6 9) := by
  have h := numN_lt (b.extract 6 9).data.toList
  have hl : (b.extract 6 9).data.toList.length ≤ 3 := by
    have : (b.extract 6 9).data.toList.length = (b.extract 6 9).size := by rw [Array.length_toList]; rfl
    rw [this, ByteArray.size_extract]; omega
  have hp := Nat.pow_le_pow_right (show 0 < 256 by omega) hl
  have e : (256 : Nat) ^ 3 = 16777216 := by decide
  unfold numS
  rw [IntKind.wrap_i64]
  omega
structure Stored (w W2 : World) (g : Nat) (x y z : Int) : Prop where
  below : Below w.heap.size w W2
  k0 : W2.cell? ⟨g, 0, none⟩ = some (.int .i64 x)
  k1 : W2.cell? ⟨g, 1, none⟩ = some (.int .i64 y)
  k2 : W2.cell? ⟨g, 2, none⟩ = some (.int .u64 z)
  r0 : W2.cell? ⟨w.heap.size, 0, none⟩ = some (.int .i64 0)
  r1 : W2.cell? ⟨w.heap.size, 1, none⟩ = some (.int .i64 0)
  r2 : W2.cell? ⟨w.heap.size, 2, none⟩ = some (.int .u64 0)
  q0 : W2.frozen? ⟨w.heap.size, 0, none⟩ = false
  q1 : W2.frozen? ⟨w.heap.size, 1, none⟩ = false
  q2 : W2.frozen? ⟨w.heap.size, 2, none⟩ = false
theorem post_store {w W W0 : World} {g : Nat} (hR : Below W0.heap.size W0 W) (e0 : W0.heap = (w.alloc (.cells #[.int .i64 0, .int .i64 0, .int .u64 0] 49)).heap) (e1 : Below w.heap.size w W0) (hg : w.heap.size + 1 ≤ g) (hh : W.heap[g]? = some (.cells #[.int .i64 0, .int .i64 0, .int .u64 0] 49 (0, 0))) (x y z : Int) :
    Stored w (((W.setCell ⟨g, 0, none⟩ (.int .i64 x)).setCell ⟨g, 1, none⟩ (.int .i64 y)).setCell ⟨g, 2, none⟩ (.int .u64 z)) g x y z := by
  have c0 : W.cell? ⟨g, 0, none⟩ = some (.int .i64 0) := by simp [World.cell?, hh]
  have c1 : W.cell? ⟨g, 1, none⟩ = some (.int .i64 0) := by simp [World.cell?, hh]
  have c2 : W.cell? ⟨g, 2, none⟩ = some (.int .u64 0) := by simp [World.cell?, hh]
  have hr : W.heap[w.heap.size]? = some (.cells #[.int .i64 0, .int .i64 0, .int .u64 0] 49 (0, 0)) := by
    have h1 : W0.heap[w.heap.size]? = some (.cells #[.int .i64 0, .int .i64 0, .int .u64 0] 49 (0, 0)) := by rw [e0]; exact heap_new w _
    exact heap_below hR h1
  have d0 : W.cell? ⟨w.heap.size, 0, none⟩ = some (.int .i64 0) := by simp [World.cell?, hr]
  have d1 : W.cell? ⟨w.heap.size, 1, none⟩ = some (.int .i64 0) := by simp [World.cell?, hr]
  have d2 : W.cell? ⟨w.heap.size, 2, none⟩ = some (.int .u64 0) := by simp [World.cell?, hr]
  have ne : ∀ i j : Nat, (⟨g, i, none⟩ : Addr) ≠ ⟨w.heap.size, j, none⟩ := fun i j e => by injection e with e1 _ _; omega
  have no : ∀ i j : Nat, i ≠ j → (⟨g, i, none⟩ : Addr) ≠ ⟨g, j, none⟩ := fun i j h e => by injection e with _ e2 _; exact h e2
  refine ⟨(((bstep e1 hR).setCell (by show w.heap.size ≤ g; omega) _).setCell (by show w.heap.size ≤ g; omega) _).setCell (by show w.heap.size ≤ g; omega) _, ?_, ?_, ?_, ?_, ?_, ?_, ?_, ?_, ?_⟩
  · rw [cell_other (no 2 0 (by decide)), cell_other (no 1 0 (by decide))]; exact cell_same c0
  · rw [cell_other (no 2 1 (by decide))]; exact cell_same (by rw [cell_other (no 0 1 (by decide))]; exact c1)
  · exact cell_same (by rw [cell_other (no 1 2 (by decide)), cell_other (no 0 2 (by decide))]; exact c2)
  · rw [cell_other (ne 2 0), cell_other (ne 1 0), cell_other (ne 0 0)]; exact d0
  · rw [cell_other (ne 2 1), cell_other (ne 1 1), cell_other (ne 0 1)]; exact d1
  · rw [cell_other (ne 2 2), cell_other (ne 1 2), cell_other (ne 0 2)]; exact d2
  all_goals (rw [World.frozen?_setCell, World.frozen?_setCell, World.frozen?_setCell]; simp [World.frozen?, hr])
/-- The head that stands first: its three fields, and the error. -/
def getH (b : ByteArray) : (Int × Int × Int) × Int :=
  if b.size < 17 then ((0, 0, 0), 2) else
  if b.extract 0 4 ≠ magic ∨ b8 b 4 ≠ 1 then ((0, 0, 0), 3) else
  if ¬ (b8 b 5 = 0 ∨ b8 b 5 = 1) then ((0, 0, 0), 8) else
  if ¬ (1 ≤ numS (b.extract 6 9) ∧ numS (b.extract 6 9) ≤ 1024) then ((0, 0, 0), 4) else
  ((b8 b 5, numS (b.extract 6 9), numS (b.extract 9 17)), 0)
def headAgg (x : (Int × Int × Int) × Int) : Value := .agg #[.int .i64 x.1.1, .int .i64 x.1.2.1, .int .u64 x.1.2.2]

theorem mag_iff (b : ByteArray) : (b.extract 0 4).toList = [76, 88, 80, 72] ↔ b.extract 0 4 = magic := by
  constructor
  · intro h
    apply ByteArray.ext
    apply Array.toList_inj.1
    rw [← ByteArray.toList_eq, h]; rfl
  · intro h; rw [h, ByteArray.toList_eq]; rfl
theorem get_badM {b : ByteArray} (h : 17 ≤ b.size) (hm : ¬ (b.extract 0 4).toList = [76, 88, 80, 72]) : getH b = ((0, 0, 0), 3) := by
  unfold getH
  rw [mag_iff] at hm
  rw [if_neg (by omega), if_pos (Or.inl hm)]
theorem get_badV {b : ByteArray} (h : 17 ≤ b.size) (hv : ((b[4].toNat : Int) != 1) = true) : getH b = ((0, 0, 0), 3) := by
  unfold getH
  rw [b8_get b 4 (by omega)] at hv
  have hv : b8 b 4 ≠ 1 := by simpa using hv
  rw [if_neg (by omega), if_pos (Or.inr hv)]
theorem get_badK {b : ByteArray} (h : 17 ≤ b.size) (hm : (b.extract 0 4).toList = [76, 88, 80, 72]) (hv : ((b[4].toNat : Int) != 1) = false)
    (hk : (b8 b 5 != 0) = true ∧ (b8 b 5 != 1) = true) : getH b = ((0, 0, 0), 8) := by
  unfold getH
  rw [mag_iff] at hm
  rw [b8_get b 4 (by omega)] at hv
  have hv : b8 b 4 = 1 := by simpa using hv
  have hk : b8 b 5 ≠ 0 ∧ b8 b 5 ≠ 1 := by simpa using hk
  rw [if_neg (by omega), if_neg (by rintro (e | e); exact e hm; exact e hv), if_pos (by omega)]
theorem get_badS {b : ByteArray} (h : 17 ≤ b.size) (hm : (b.extract 0 4).toList = [76, 88, 80, 72]) (hv : ((b[4].toNat : Int) != 1) = false)
    (hk : b8 b 5 = 0 ∨ b8 b 5 = 1) (hs : (!decide (1 ≤ numS (b.extract 6 9))) = true ∨ (!decide (numS (b.extract 6 9) ≤ 1024)) = true) : getH b = ((0, 0, 0), 4) := by
  unfold getH
  rw [mag_iff] at hm
  rw [b8_get b 4 (by omega)] at hv
  have hv : b8 b 4 = 1 := by simpa using hv
  have hs : ¬ (1 ≤ numS (b.extract 6 9)) ∨ ¬ (numS (b.extract 6 9) ≤ 1024) := by simpa using hs
  rw [if_neg (by omega), if_neg (by rintro (e | e); exact e hm; exact e hv), if_neg (by omega), if_pos (by omega)]
theorem get_ok {b : ByteArray} (h : 17 ≤ b.size) (hm : (b.extract 0 4).toList = [76, 88, 80, 72]) (hv : ((b[4].toNat : Int) != 1) = false)
    (hk : b8 b 5 = 0 ∨ b8 b 5 = 1) (hs : (!decide (1 ≤ numS (b.extract 6 9))) = false ∧ (!decide (numS (b.extract 6 9) ≤ 1024)) = false) :
    getH b = ((b8 b 5, numS (b.extract 6 9), numS (b.extract 9 17)), 0) := by
  unfold getH
  rw [mag_iff] at hm
  rw [b8_get b 4 (by omega)] at hv
  have hv : b8 b 4 = 1 := by simpa using hv
  have hs : (1 ≤ numS (b.extract 6 9)) ∧ (numS (b.extract 6 9) ≤ 1024) := by simpa using hs
  rw [if_neg (by omega), if_neg (by rintro (e | e); exact e hm; exact e hv), if_neg (by omega), if_neg (by omega)]
theorem kind_or {k : Int} (h : (k != 0) = false ∨ (k != 1) = false) : k = 0 ∨ k = 1 := by simpa using h

/-- What the region's operations yield. -/
def getV (b : ByteArray) (B : Nat) (i : Nat) (v : Value) (W : World) : Prop := match i with
  | 0 => v = .string b
  | 1 => v = .int .u8 (b8 b 5)
  | 2 => v = .int .i64 (b8 b 5)
  | 3 => v = .string b
  | 4 => v = .string (b.extract 6 9)
  | 5 => v = .int .u64 (numS (b.extract 6 9))
  | 6 => v = .int .i64 (numS (b.extract 6 9))
  | 7 => v = .string b
  | 8 => v = .string (b.extract 9 17)
  | 9 => v = .int .u64 (numS (b.extract 9 17))
  | 10 => v = .agg #[.int .i64 (b8 b 5), .int .i64 (numS (b.extract 6 9)), .int .u64 (numS (b.extract 9 17))]
  | 11 => ∃ g, v = .pointer (some ⟨g, 0, none⟩) ∧ B ≤ g ∧ W.heap[g]? = some (.cells #[.int .i64 0, .int .i64 0, .int .u64 0] 49 (0, 0))
  | _ => True

set_option maxHeartbeats 1000000 in
theorem get_long (b : ByteArray) (w : World) (h : 17 ≤ b.size) (hs : b.size ≤ 140737488351232) :
    Calls Try.prog 38 #[.string b] w fun e w' => e = .returned (.tuple #[headAgg (getH b), .int .i64 (getH b).2]) ∧ Below w.heap.size w w' := by
  have hL : decide ((b.size : Int) < 17) = false := by simp; omega
  have hwc := num_small b
  go_enter Try.func38, Try.ntmps38
  go_wp2_with fail
  refine Reg.wp_region_last 12 (fun W W' => Below W.heap.size W W') (getV b (w.heap.size + 1))
    [some 10, some 11, some 12, some 13, some 14, some 15, some 16, some 17, some 18, some 19, some 20, some 4, none]
    [[], [0], [1], [], [3], [4], [5], [], [7], [8, 5], [2, 6, 9], [], [11, 10, 9, 0, 1, 2, 3, 4, 5, 6, 7, 8, 9, 10, 11]]
    (by kernel_rfl) (by kernel_rfl) (by kernel_rfl) (by kernel_rfl) (by kernel_rfl) (fun _ => Below.refl _ _) (fun _ _ _ h k => bstep h k) ?_ ?_ ?_
  · intro i v W W' h k
    unfold getV at h ⊢
    split at h <;> first | exact h | (obtain ⟨g, e, hg, hh⟩ := h; exact ⟨g, e, hg, heap_below k hh⟩)
  · refine ⟨?_, ?_, ?_, ?_, ?_, ?_, ?_, ?_, ?_, ?_, ?_, ?_, trivial⟩
    · intro vals W K hR hV hK
      simp only [Reg.putS, List.foldl, List.headD, List.tail, List.getD_cons_zero, List.getD_cons_succ, Act.put, List.setIfInBounds_toArray, List.set_cons_zero, List.set_cons_succ] at hK ⊢
      go_simp
      first
        | exact hK _ _ (Below.refl _ _) rfl
        | (rw [if_pos (by omega)]; exact hK _ _ (Below.refl _ _) rfl)
        | (rw [dif_pos (by omega)]; exact hK _ _ (Below.refl _ _) rfl)
        | (rw [if_neg (by omega)]; exact hK _ _ (Below.refl _ _) rfl)
    · intro vals W K hR hV hK
      have d0 := hV 0 (by simp)
      simp only [getV] at d0
      simp only [Reg.putS, List.foldl, List.headD, List.tail, List.getD_cons_zero, List.getD_cons_succ, Act.put, List.setIfInBounds_toArray, List.set_cons_zero, List.set_cons_succ, d0] at hK ⊢
      have hb5 := b8_get b 5 (by omega)
      go_simp
      rw [if_pos (by omega)]
      exact hK _ _ (Below.refl _ _) rfl
    · intro vals W K hR hV hK
      have d1 := hV 1 (by simp)
      simp only [getV] at d1
      simp only [Reg.putS, List.foldl, List.headD, List.tail, List.getD_cons_zero, List.getD_cons_succ, Act.put, List.setIfInBounds_toArray, List.set_cons_zero, List.set_cons_succ, d1] at hK ⊢
      have hwb := b8_wrap b 5
      go_simp
      first
        | exact hK _ _ (Below.refl _ _) rfl
        | (rw [if_pos (by omega)]; exact hK _ _ (Below.refl _ _) rfl)
        | (rw [dif_pos (by omega)]; exact hK _ _ (Below.refl _ _) rfl)
        | (rw [if_neg (by omega)]; exact hK _ _ (Below.refl _ _) rfl)
    · intro vals W K hR hV hK
      simp only [Reg.putS, List.foldl, List.headD, List.tail, List.getD_cons_zero, List.getD_cons_succ, Act.put, List.setIfInBounds_toArray, List.set_cons_zero, List.set_cons_succ] at hK ⊢
      go_simp
      first
        | exact hK _ _ (Below.refl _ _) rfl
        | (rw [if_pos (by omega)]; exact hK _ _ (Below.refl _ _) rfl)
        | (rw [dif_pos (by omega)]; exact hK _ _ (Below.refl _ _) rfl)
        | (rw [if_neg (by omega)]; exact hK _ _ (Below.refl _ _) rfl)
    · intro vals W K hR hV hK
      have d3 := hV 3 (by simp)
      simp only [getV] at d3
      simp only [Reg.putS, List.foldl, List.headD, List.tail, List.getD_cons_zero, List.getD_cons_succ, Act.put, List.setIfInBounds_toArray, List.set_cons_zero, List.set_cons_succ, d3] at hK ⊢
      go_simp
      first
        | exact hK _ _ (Below.refl _ _) rfl
        | (rw [if_pos (by omega)]; exact hK _ _ (Below.refl _ _) rfl)
        | (rw [dif_pos (by omega)]; exact hK _ _ (Below.refl _ _) rfl)
        | (rw [if_neg (by omega)]; exact hK _ _ (Below.refl _ _) rfl)
    · intro vals W K hR hV hK
      have d4 := hV 4 (by simp)
      simp only [getV] at d4
      simp only [Reg.putS, List.foldl, List.headD, List.tail, List.getD_cons_zero, List.getD_cons_succ, Act.put, List.setIfInBounds_toArray, List.set_cons_zero, List.set_cons_succ, d4] at hK ⊢
      go_simp
      refine (num_any _ _ (ext_size b 6 9 (by omega))).mono ?_
      rintro e w2 ⟨rfl, rfl⟩
      exact hK _ _ (Below.refl _ _) rfl
    · intro vals W K hR hV hK
      have d5 := hV 5 (by simp)
      simp only [getV] at d5
      simp only [Reg.putS, List.foldl, List.headD, List.tail, List.getD_cons_zero, List.getD_cons_succ, Act.put, List.setIfInBounds_toArray, List.set_cons_zero, List.set_cons_succ, d5] at hK ⊢
      go_simp
      first
        | exact hK _ _ (Below.refl _ _) rfl
        | (rw [if_pos (by omega)]; exact hK _ _ (Below.refl _ _) rfl)
        | (rw [dif_pos (by omega)]; exact hK _ _ (Below.refl _ _) rfl)
        | (rw [if_neg (by omega)]; exact hK _ _ (Below.refl _ _) rfl)
    · intro vals W K hR hV hK
      simp only [Reg.putS, List.foldl, List.headD, List.tail, List.getD_cons_zero, List.getD_cons_succ, Act.put, List.setIfInBounds_toArray, List.set_cons_zero, List.set_cons_succ] at hK ⊢
      go_simp
      first
        | exact hK _ _ (Below.refl _ _) rfl
        | (rw [if_pos (by omega)]; exact hK _ _ (Below.refl _ _) rfl)
        | (rw [dif_pos (by omega)]; exact hK _ _ (Below.refl _ _) rfl)
        | (rw [if_neg (by omega)]; exact hK _ _ (Below.refl _ _) rfl)
    · intro vals W K hR hV hK
      have d7 := hV 7 (by simp)
      simp only [getV] at d7
      simp only [Reg.putS, List.foldl, List.headD, List.tail, List.getD_cons_zero, List.getD_cons_succ, Act.put, List.setIfInBounds_toArray, List.set_cons_zero, List.set_cons_succ, d7] at hK ⊢
      go_simp
      first
        | exact hK _ _ (Below.refl _ _) rfl
        | (rw [if_pos (by omega)]; exact hK _ _ (Below.refl _ _) rfl)
        | (rw [dif_pos (by omega)]; exact hK _ _ (Below.refl _ _) rfl)
        | (rw [if_neg (by omega)]; exact hK _ _ (Below.refl _ _) rfl)
    · intro vals W K hR hV hK
      have d5 := hV 5 (by simp)
      simp only [getV] at d5
      have d8 := hV 8 (by simp)
      simp only [getV] at d8
      simp only [Reg.putS, List.foldl, List.headD, List.tail, List.getD_cons_zero, List.getD_cons_succ, Act.put, List.setIfInBounds_toArray, List.set_cons_zero, List.set_cons_succ, d5, d8] at hK ⊢
      go_simp
      refine (num_any _ _ (ext_size b 9 17 (by omega))).mono ?_
      rintro e w2 ⟨rfl, rfl⟩
      exact hK _ _ (Below.refl _ _) rfl
    · intro vals W K hR hV hK
      have d2 := hV 2 (by simp)
      simp only [getV] at d2
      have d6 := hV 6 (by simp)
      simp only [getV] at d6
      have d9 := hV 9 (by simp)
      simp only [getV] at d9
      simp only [Reg.putS, List.foldl, List.headD, List.tail, List.getD_cons_zero, List.getD_cons_succ, Act.put, List.setIfInBounds_toArray, List.set_cons_zero, List.set_cons_succ, d2, d6, d9] at hK ⊢
      go_simp
      first
        | exact hK _ _ (Below.refl _ _) rfl
        | (rw [if_pos (by omega)]; exact hK _ _ (Below.refl _ _) rfl)
        | (rw [dif_pos (by omega)]; exact hK _ _ (Below.refl _ _) rfl)
        | (rw [if_neg (by omega)]; exact hK _ _ (Below.refl _ _) rfl)
    · intro vals W K hR hV hK
      simp only [Reg.putS, List.foldl, List.headD, List.tail, List.getD_cons_zero, List.getD_cons_succ, Act.put, List.setIfInBounds_toArray, List.set_cons_zero, List.set_cons_succ] at hK ⊢
      have hB : w.heap.size + 1 ≤ W.heap.size := by have := hR.size; simp at this; omega
      go_simp
      exact hK _ _ (balloc (Below.refl _ _) _) ⟨_, rfl, hB, heap_new W _⟩
  · intro vals W o ho hR hV
    simp only [List.getElem?_toArray, List.getElem?_cons_succ, List.getElem?_cons_zero, Option.some.injEq] at ho
    subst ho
    have d0 := hV 0 (by decide)
    simp only [getV] at d0
    have d1 := hV 1 (by decide)
    simp only [getV] at d1
    have d2 := hV 2 (by decide)
    simp only [getV] at d2
    have d3 := hV 3 (by decide)
    simp only [getV] at d3
    have d4 := hV 4 (by decide)
    simp only [getV] at d4
    have d5 := hV 5 (by decide)
    simp only [getV] at d5
    have d6 := hV 6 (by decide)
    simp only [getV] at d6
    have d7 := hV 7 (by decide)
    simp only [getV] at d7
    have d8 := hV 8 (by decide)
    simp only [getV] at d8
    have d9 := hV 9 (by decide)
    simp only [getV] at d9
    have d10 := hV 10 (by decide)
    simp only [getV] at d10
    have d11 := hV 11 (by decide)
    simp only [getV] at d11
    refine Exists.elim d11 fun g e11 => ?_
    clear d11
    have d11 := e11.1
    have hg := e11.2.1
    have hh := e11.2.2
    clear e11
    unfold Reg.LastStep
    rw [show List.range 12 = [0, 1, 2, 3, 4, 5, 6, 7, 8, 9, 10, 11] from rfl]
    clear hV
    simp only [Reg.putS, List.foldl, List.getD_cons_zero, List.getD_cons_succ, Act.put, List.setIfInBounds_toArray, List.set_cons_zero, List.set_cons_succ, d0, d1, d2, d3, d4, d5, d6, d7, d8, d9, d10, d11]
    clear d0 d1 d2 d3 d4 d5 d6 d7 d8 d9 d10 d11
    have c0 : W.cell? ⟨g, 0, none⟩ = some (.int .i64 0) := by simp [World.cell?, hh]
    have c1 : W.cell? ⟨g, 1, none⟩ = some (.int .i64 0) := by simp [World.cell?, hh]
    have c2 : W.cell? ⟨g, 2, none⟩ = some (.int .u64 0) := by simp [World.cell?, hh]
    have f0 : W.frozen? ⟨g, 0, none⟩ = false := by simp [World.frozen?, hh]
    have f1 : W.frozen? ⟨g, 1, none⟩ = false := by simp [World.frozen?, hh]
    have f2 : W.frozen? ⟨g, 2, none⟩ = false := by simp [World.frozen?, hh]
    go_simp
    have P := post_store hR rfl (below_drew (balloc (Below.refl _ _) _)) hg hh (b8 b 5) (numS (b.extract 6 9)) (numS (b.extract 9 17))
    generalize ((W.setCell ⟨g, 0, none⟩ (.int .i64 (b8 b 5))).setCell ⟨g, 1, none⟩ (.int .i64 (numS (b.extract 6 9)))).setCell ⟨g, 2, none⟩ (.int .u64 (numS (b.extract 9 17))) = W2 at P ⊢
    obtain ⟨hb2, k0, k1, k2, r0, r1, r2, q0, q1, q2⟩ := P
    clear hR hh c0 c1 c2 f0 f1 f2 W vals
    go_wp2_with (go_at_call 45; refine (size_any _ _).mono ?_; rintro e w9 ⟨rfl, rfl⟩)
    go_ways
    · have hx := get_badV h (by assumption)
      refine bodyPost_ret (v := .tuple #[headAgg (getH b), .int .i64 (getH b).2]) ?_ rfl ⟨rfl, ?_⟩
      · rw [hx]; simp [results, Try.results38, go_sem, headAgg, k0, k1, k2, r0, r1, r2, q0, q1, q2] <;> omega
      · exact ((hb2.setCell (Nat.le_refl _) _).setCell (Nat.le_refl _) _).setCell (Nat.le_refl _) _
    · have hx := get_badS h (by assumption) (by assumption) (Or.inl (by assumption)) (by assumption)
      refine bodyPost_ret (v := .tuple #[headAgg (getH b), .int .i64 (getH b).2]) ?_ rfl ⟨rfl, ?_⟩
      · rw [hx]; simp [results, Try.results38, go_sem, headAgg, k0, k1, k2, r0, r1, r2, q0, q1, q2] <;> omega
      · exact ((hb2.setCell (Nat.le_refl _) _).setCell (Nat.le_refl _) _).setCell (Nat.le_refl _) _
    · have hx := get_ok h (by assumption) (by assumption) (Or.inl (by assumption)) (by assumption)
      refine bodyPost_ret (v := .tuple #[headAgg (getH b), .int .i64 (getH b).2]) ?_ rfl ⟨rfl, ?_⟩
      · rw [hx]; simp [results, Try.results38, go_sem, headAgg, k0, k1, k2, r0, r1, r2, q0, q1, q2] <;> omega
      · exact ((hb2.setCell (Nat.le_refl _) _).setCell (Nat.le_refl _) _).setCell (Nat.le_refl _) _
    · have hx := get_badK h (by assumption) (by assumption) (by assumption)
      refine bodyPost_ret (v := .tuple #[headAgg (getH b), .int .i64 (getH b).2]) ?_ rfl ⟨rfl, ?_⟩
      · rw [hx]; simp [results, Try.results38, go_sem, headAgg, k0, k1, k2, r0, r1, r2, q0, q1, q2] <;> omega
      · exact ((hb2.setCell (Nat.le_refl _) _).setCell (Nat.le_refl _) _).setCell (Nat.le_refl _) _
    · have hx := get_badS h (by assumption) (by assumption) (kind_or (by assumption)) (by assumption)
      refine bodyPost_ret (v := .tuple #[headAgg (getH b), .int .i64 (getH b).2]) ?_ rfl ⟨rfl, ?_⟩
      · rw [hx]; simp [results, Try.results38, go_sem, headAgg, k0, k1, k2, r0, r1, r2, q0, q1, q2] <;> omega
      · exact ((hb2.setCell (Nat.le_refl _) _).setCell (Nat.le_refl _) _).setCell (Nat.le_refl _) _
    · have hx := get_ok h (by assumption) (by assumption) (kind_or (by assumption)) (by assumption)
      refine bodyPost_ret (v := .tuple #[headAgg (getH b), .int .i64 (getH b).2]) ?_ rfl ⟨rfl, ?_⟩
      · rw [hx]; simp [results, Try.results38, go_sem, headAgg, k0, k1, k2, r0, r1, r2, q0, q1, q2] <;> omega
      · exact ((hb2.setCell (Nat.le_refl _) _).setCell (Nat.le_refl _) _).setCell (Nat.le_refl _) _
    · have hx := get_badM h (by assumption)
      refine bodyPost_ret (v := .tuple #[headAgg (getH b), .int .i64 (getH b).2]) ?_ rfl ⟨rfl, ?_⟩
      · rw [hx]; simp [results, Try.results38, go_sem, headAgg, k0, k1, k2, r0, r1, r2, q0, q1, q2] <;> omega
      · exact ((hb2.setCell (Nat.le_refl _) _).setCell (Nat.le_refl _) _).setCell (Nat.le_refl _) _

end Go.Proofs.Ythaoofnnhdkboaa.FrG
