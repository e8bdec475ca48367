/- The walk of CrcTurned: it returns true for every input. -/
import Derived.Test.YthaoofnnhdkboaaCrcM
import Derived.Laws.BytesArg
set_option linter.unusedSimpArgs false
set_option linter.unusedVariables false
namespace Go.Proofs.Ythaoofnnhdkboaa.CrcT
open Go.RowKit Go.Proofs.Ythaoofnnhdkboaa.CrcP Go.Proofs.Ythaoofnnhdkboaa.CrcW Go.Proofs.Ythaoofnnhdkboaa.CrcQ Go.Proofs.Ythaoofnnhdkboaa.CrcL

theorem size1 (x : Int) : (strOfNums [x]).size = 1 := rfl
theorem conv1 (w : World) (b : Nat) (x : Int) (h : w.cell? ⟨b, 0, none⟩ = some (.int .u8 x)) : (convert 32 9 (.slice (some ⟨b, 0, none⟩) 1 1)).run Try.prog w = .ok (.string (strOfNums [x])) w := by
  refine run_convert_bytes_arg w 32 5 Try.underlying32 Try.underlying5 b 0 1 1 [x] rfl ?_ 9 Try.underlying9
  intro i hi
  obtain rfl : i = 0 := by omega
  exact h
theorem turned_size (a : ByteArray) (k : Nat) (x : Int) (h : a.size ≤ 1000) : (a.extract 0 k ++ strOfNums [x] ++ a.extract (k + 1) a.size).size ≤ maxLen := by
  rw [ByteArray.size_append, ByteArray.size_append, ByteArray.size_extract, ByteArray.size_extract, size1]; unfold maxLen; omega
theorem u8_range {a : Int} (h : (Lit.int .u8 a).wf = true) : 0 ≤ a ∧ a ≤ 255 := by
  simp [Lit.wf, IntKind.min, IntKind.max, IntKind.signed, IntKind.bits] at h
  omega
theorem u8_of {a : Int} (h : 0 ≤ a ∧ a ≤ 255) : ∃ c : UInt8, a = (c.toNat : Int) := by
  refine ⟨UInt8.ofNat a.toNat, ?_⟩
  rw [UInt8.toNat_ofNat']
  omega
theorem xor8 (a b : UInt8) : Go.bits .xor .u8 (a.toNat : Int) (b.toNat : Int) = ((a ^^^ b).toNat : Int) := by
  have h : Go.bits .xor .u8 (a.toNat : Int) (b.toNat : Int) = IntKind.u8.wrap (((BitVec.ofInt 8 (a.toNat : Int)) ^^^ (BitVec.ofInt 8 (b.toNat : Int))).toNat : Int) := rfl
  rw [h, BitVec.ofInt_natCast, BitVec.ofInt_natCast, IntKind.wrap_u8]
  have e : (BitVec.ofNat 8 a.toNat ^^^ BitVec.ofNat 8 b.toNat).toNat = (a ^^^ b).toNat := by
    have ea : BitVec.ofNat 8 a.toNat = a.toBitVec := by apply BitVec.eq_of_toNat_eq; simp
    have eb : BitVec.ofNat 8 b.toNat = b.toBitVec := by apply BitVec.eq_of_toNat_eq; simp
    rw [ea, eb]; rfl
  rw [e]
  have := (a ^^^ b).toNat_lt
  omega
theorem data_split (a : ByteArray) (k : Nat) (h : k < a.size) : a.data.toList = (a.extract 0 k).data.toList ++ a[k] :: (a.extract (k + 1) a.size).data.toList := by
  rw [ByteArray.data_extract, ByteArray.data_extract, Array.toList_extract, Array.toList_extract]
  have h1 : k < a.data.toList.length := by simpa using h
  have e : a.data.toList = a.data.toList.take k ++ a.data.toList[k] :: a.data.toList.drop (k + 1) := by
    rw [List.getElem_cons_drop h1, List.take_append_drop]
  have h2 : a.data.toList[k] = a[k] := by rw [Array.getElem_toList]; rfl
  rw [h2] at e
  simp only [List.extract, List.drop_zero, Nat.sub_zero]
  rw [List.take_of_length_le (l := List.drop (k + 1) a.data.toList) (by rw [List.length_drop, Array.length_toList]; exact Nat.le_refl _)]
  exact e
theorem wrap_k1 (k : Nat) (h : k ≤ 1000) : IntKind.i64.wrap ((k : Int) + 1) = (k : Int) + 1 := by rw [IntKind.wrap_i64]; omega
theorem turned_ne (a0 : ByteArray) (k : Nat) (a2 : Int) (hk : k < a0.size) (hr : 0 ≤ a2 ∧ a2 ≤ 255) (h : a2 ≠ 0) :
    (sumS a0 != sumS (a0.extract 0 k ++ strOfNums [Go.bits .xor .u8 (a0[k].toNat : Int) a2] ++ a0.extract (k + 1) a0.size)) = true := by
  obtain ⟨b, rfl⟩ := u8_of hr
  have hb : b ≠ 0 := by intro e; subst e; exact h rfl
  rw [xor8, bne_iff_ne]
  intro e
  unfold sumS foldS cellI at e
  have e' := xor_cancel_left (BitVec.eq_of_toNat_eq (Int.ofNat_inj.1 e))
  have hd : (a0.extract 0 k ++ strOfNums [((a0[k] ^^^ b).toNat : Int)] ++ a0.extract (k + 1) a0.size).data.toList = (a0.extract 0 k).data.toList ++ (a0[k] ^^^ b) :: (a0.extract (k + 1) a0.size).data.toList := by
    have hs : strOfNums [((a0[k] ^^^ b).toNat : Int)] = ⟨#[a0[k] ^^^ b]⟩ := by simp [strOfNums]
    rw [hs, ByteArray.data_append, ByteArray.data_append]
    simp
  rw [hd, data_split a0 k hk] at e'
  refine turned _ _ _ _ ones ?_ e'
  intro he
  have e3 : a0[k] ^^^ a0[k] = a0[k] ^^^ (a0[k] ^^^ b) := by rw [← he]
  rw [← UInt8.xor_assoc, UInt8.xor_self, UInt8.zero_xor] at e3
  exact hb e3.symm

/-- What the region's operations yield. -/
def turnedV (a0 : ByteArray) (a2 : Int) (k : Nat) (c : Int) (i : Nat) (v : Value) (W : World) : Prop := match i with
  | 0 => v = .string a0
  | 1 => v = .int .u32 (sumS a0)
  | 2 => v = .string a0
  | 3 => v = .int .i64 (k : Int)
  | 4 => v = .string (a0.extract 0 k)
  | 5 => v = .string a0
  | 6 => v = .int .i64 (k : Int)
  | 7 => v = .int .u8 c
  | 8 => v = .int .u8 a2
  | 9 => v = .int .u8 (Go.bits .xor .u8 c a2)
  | 10 => ∃ b, v = .slice (some ⟨b, 0, none⟩) 1 1 ∧ W.cell? ⟨b, 0, none⟩ = some (.int .u8 (Go.bits .xor .u8 c a2))
  | 11 => v = .string (strOfNums [Go.bits .xor .u8 c a2])
  | 12 => v = .string (a0.extract 0 k ++ (strOfNums [Go.bits .xor .u8 c a2]))
  | 13 => v = .string a0
  | 14 => v = .int .i64 (k : Int)
  | 15 => v = .int .i64 ((k : Int) + 1)
  | 16 => v = .string (a0.extract (k + 1) a0.size)
  | 17 => v = .string (a0.extract 0 k ++ (strOfNums [Go.bits .xor .u8 c a2]) ++ a0.extract (k + 1) a0.size)
  | 18 => v = .int .u32 (sumS (a0.extract 0 k ++ (strOfNums [Go.bits .xor .u8 c a2]) ++ a0.extract (k + 1) a0.size))
  | 19 => v = .bool (sumS a0 != sumS (a0.extract 0 k ++ (strOfNums [Go.bits .xor .u8 c a2]) ++ a0.extract (k + 1) a0.size))
  | 20 => v = .bool (sumS a0 != sumS (a0.extract 0 k ++ (strOfNums [Go.bits .xor .u8 c a2]) ++ a0.extract (k + 1) a0.size))
  | _ => True

set_option maxHeartbeats 400000 in
theorem turned_out (a0 : ByteArray) (a1 a2 : Int) (w : World) (hg : decide ((a0.size : Int) < 1) = true ∨ (decide ((a0.size : Int) < 1) = false ∧ decide ((a0.size : Int) > 1000) = true) ∨ (decide ((a0.size : Int) < 1) = false ∧ decide ((a0.size : Int) > 1000) = false ∧ (a2 == 0) = true)) :
    Calls Try.prog 7 #[.string a0, .int .i64 a1, .int .u8 a2] w fun e w' => e = .returned (.bool true) ∧ Below w.heap.size w w' := by
  rcases hg with hg | ⟨hg0, hg⟩ | ⟨hg0, hg1, hg⟩
  all_goals
    go_enter Try.func7, Try.ntmps7
    go_wp2_with fail
    refine (alive_true _).mono ?_
    rintro e w1 ⟨rfl, hb1⟩
    go_wp2_with fail
    go_ret
    exact ⟨rfl, hb1⟩

set_option maxHeartbeats 1000000 in
theorem turned_in (a0 : ByteArray) (a1 a2 : Int) (k : Nat) (w : World) (l0 : 1 ≤ a0.size) (l1 : a0.size ≤ 1000) (hr : 0 ≤ a2 ∧ a2 ≤ 255) (ha : -9223372036854775808 ≤ a1 ∧ a1 ≤ 9223372036854775807) (hk : k < a0.size) (hmod : (wrap64 (a1.tmod a0.size + a0.size)).tmod a0.size = (k : Int))
    (hg0 : decide ((a0.size : Int) < 1) = false) (hg1 : decide ((a0.size : Int) > 1000) = false) (hg2 : (a2 == 0) = false) (hne0 : (sumS a0 != sumS (a0.extract 0 k ++ strOfNums [Go.bits .xor .u8 (a0[k].toNat : Int) a2] ++ a0.extract (k + 1) a0.size)) = true) :
    Calls Try.prog 7 #[.string a0, .int .i64 a1, .int .u8 a2] w fun e w' => e = .returned (.bool true) ∧ Below w.heap.size w w' := by
  have hcv := conv1
  have hs1 := size1
  have hk2 : k ≤ 1000 := by omega
  have hne := Lib.hid hne0
  clear hne0
  have hM := Lib.hid hmod
  clear hmod
  go_enter Try.func7, Try.ntmps7
  go_wp2_with fail
  refine (alive_true _).mono ?_
  rintro e w1 ⟨rfl, hb1⟩
  go_wp2_with fail
  rw [hM.out]
  refine Reg.wp_region_lists (fun W W' => Below W.heap.size W W') (turnedV a0 a2 k (a0[k].toNat : Int))
    [some 35, some 36, some 37, some 38, some 39, some 40, some 41, some 42, some 43, some 44, some 45, some 46, some 47, some 48, some 49, some 50, some 51, some 52, some 53, some 54, some 6]
    [[], [0], [], [], [2, 3], [], [], [5, 6], [], [7, 8], [9], [10], [4, 11], [], [], [14], [13, 15], [12, 16], [17, 1], [1, 18], [19, 18, 0, 1, 2, 3, 4, 5, 6, 7, 8, 9, 10, 11, 12, 13, 14, 15, 16, 17, 18, 19]]
    (by kernel_rfl) (by kernel_rfl) (by kernel_rfl) (fun _ => Below.refl _ _) (fun _ _ _ h k => bstep h k) ?_ ?_ ?_
  · intro i v W W' h k
    unfold turnedV at h ⊢
    split at h <;> first | exact h | (obtain ⟨b, e, hc⟩ := h; exact ⟨b, e, pw_cell_below k hc⟩)
  · refine ⟨?_, ?_, ?_, ?_, ?_, ?_, ?_, ?_, ?_, ?_, ?_, ?_, ?_, ?_, ?_, ?_, ?_, ?_, ?_, ?_, ?_, trivial⟩
    · intro vals W K hR hV hK
      simp only [Reg.putS, List.foldl, List.headD, List.tail, List.getD_cons_zero, List.getD_cons_succ, Act.put, List.setIfInBounds_toArray, List.set_cons_zero, List.set_cons_succ] at hK ⊢
      go_simp
      first
        | exact hK _ _ (Below.refl _ _) rfl
        | (rw [if_pos (by omega)]; exact hK _ _ (Below.refl _ _) rfl)
        | (rw [dif_pos (by omega)]; exact hK _ _ (Below.refl _ _) rfl)
        | (rw [if_neg (by omega)]; exact hK _ _ (Below.refl _ _) rfl)
    · intro vals W K hR hV hK
      have d0 := hV 0 (by simp)
      simp only [turnedV] at d0
      simp only [Reg.putS, List.foldl, List.headD, List.tail, List.getD_cons_zero, List.getD_cons_succ, Act.put, List.setIfInBounds_toArray, List.set_cons_zero, List.set_cons_succ, d0] at hK ⊢
      go_simp
      refine (of_any _ _ (by unfold maxLen; omega)).mono ?_
      rintro e w2 ⟨rfl, hb⟩
      exact hK _ _ hb rfl
    · intro vals W K hR hV hK
      simp only [Reg.putS, List.foldl, List.headD, List.tail, List.getD_cons_zero, List.getD_cons_succ, Act.put, List.setIfInBounds_toArray, List.set_cons_zero, List.set_cons_succ] at hK ⊢
      go_simp
      first
        | exact hK _ _ (Below.refl _ _) rfl
        | (rw [if_pos (by omega)]; exact hK _ _ (Below.refl _ _) rfl)
        | (rw [dif_pos (by omega)]; exact hK _ _ (Below.refl _ _) rfl)
        | (rw [if_neg (by omega)]; exact hK _ _ (Below.refl _ _) rfl)
    · intro vals W K hR hV hK
      simp only [Reg.putS, List.foldl, List.headD, List.tail, List.getD_cons_zero, List.getD_cons_succ, Act.put, List.setIfInBounds_toArray, List.set_cons_zero, List.set_cons_succ] at hK ⊢
      go_simp
      first
        | exact hK _ _ (Below.refl _ _) rfl
        | (rw [if_pos (by omega)]; exact hK _ _ (Below.refl _ _) rfl)
        | (rw [dif_pos (by omega)]; exact hK _ _ (Below.refl _ _) rfl)
        | (rw [if_neg (by omega)]; exact hK _ _ (Below.refl _ _) rfl)
    · intro vals W K hR hV hK
      have d2 := hV 2 (by simp)
      simp only [turnedV] at d2
      have d3 := hV 3 (by simp)
      simp only [turnedV] at d3
      simp only [Reg.putS, List.foldl, List.headD, List.tail, List.getD_cons_zero, List.getD_cons_succ, Act.put, List.setIfInBounds_toArray, List.set_cons_zero, List.set_cons_succ, d2, d3] at hK ⊢
      go_simp
      first
        | exact hK _ _ (Below.refl _ _) rfl
        | (rw [if_pos (by omega)]; exact hK _ _ (Below.refl _ _) rfl)
        | (rw [dif_pos (by omega)]; exact hK _ _ (Below.refl _ _) rfl)
        | (rw [if_neg (by omega)]; exact hK _ _ (Below.refl _ _) rfl)
    · intro vals W K hR hV hK
      simp only [Reg.putS, List.foldl, List.headD, List.tail, List.getD_cons_zero, List.getD_cons_succ, Act.put, List.setIfInBounds_toArray, List.set_cons_zero, List.set_cons_succ] at hK ⊢
      go_simp
      first
        | exact hK _ _ (Below.refl _ _) rfl
        | (rw [if_pos (by omega)]; exact hK _ _ (Below.refl _ _) rfl)
        | (rw [dif_pos (by omega)]; exact hK _ _ (Below.refl _ _) rfl)
        | (rw [if_neg (by omega)]; exact hK _ _ (Below.refl _ _) rfl)
    · intro vals W K hR hV hK
      simp only [Reg.putS, List.foldl, List.headD, List.tail, List.getD_cons_zero, List.getD_cons_succ, Act.put, List.setIfInBounds_toArray, List.set_cons_zero, List.set_cons_succ] at hK ⊢
      go_simp
      first
        | exact hK _ _ (Below.refl _ _) rfl
        | (rw [if_pos (by omega)]; exact hK _ _ (Below.refl _ _) rfl)
        | (rw [dif_pos (by omega)]; exact hK _ _ (Below.refl _ _) rfl)
        | (rw [if_neg (by omega)]; exact hK _ _ (Below.refl _ _) rfl)
    · intro vals W K hR hV hK
      have d5 := hV 5 (by simp)
      simp only [turnedV] at d5
      have d6 := hV 6 (by simp)
      simp only [turnedV] at d6
      simp only [Reg.putS, List.foldl, List.headD, List.tail, List.getD_cons_zero, List.getD_cons_succ, Act.put, List.setIfInBounds_toArray, List.set_cons_zero, List.set_cons_succ, d5, d6] at hK ⊢
      go_simp
      first
        | exact hK _ _ (Below.refl _ _) rfl
        | (rw [if_pos (by omega)]; exact hK _ _ (Below.refl _ _) rfl)
        | (rw [dif_pos (by omega)]; exact hK _ _ (Below.refl _ _) rfl)
        | (rw [if_neg (by omega)]; exact hK _ _ (Below.refl _ _) rfl)
    · intro vals W K hR hV hK
      simp only [Reg.putS, List.foldl, List.headD, List.tail, List.getD_cons_zero, List.getD_cons_succ, Act.put, List.setIfInBounds_toArray, List.set_cons_zero, List.set_cons_succ] at hK ⊢
      go_simp
      first
        | exact hK _ _ (Below.refl _ _) rfl
        | (rw [if_pos (by omega)]; exact hK _ _ (Below.refl _ _) rfl)
        | (rw [dif_pos (by omega)]; exact hK _ _ (Below.refl _ _) rfl)
        | (rw [if_neg (by omega)]; exact hK _ _ (Below.refl _ _) rfl)
    · intro vals W K hR hV hK
      have d7 := hV 7 (by simp)
      simp only [turnedV] at d7
      have d8 := hV 8 (by simp)
      simp only [turnedV] at d8
      simp only [Reg.putS, List.foldl, List.headD, List.tail, List.getD_cons_zero, List.getD_cons_succ, Act.put, List.setIfInBounds_toArray, List.set_cons_zero, List.set_cons_succ, d7, d8] at hK ⊢
      go_simp
      first
        | exact hK _ _ (Below.refl _ _) rfl
        | (rw [if_pos (by omega)]; exact hK _ _ (Below.refl _ _) rfl)
        | (rw [dif_pos (by omega)]; exact hK _ _ (Below.refl _ _) rfl)
        | (rw [if_neg (by omega)]; exact hK _ _ (Below.refl _ _) rfl)
    · intro vals W K hR hV hK
      have d9 := hV 9 (by simp)
      simp only [turnedV] at d9
      simp only [Reg.putS, List.foldl, List.headD, List.tail, List.getD_cons_zero, List.getD_cons_succ, Act.put, List.setIfInBounds_toArray, List.set_cons_zero, List.set_cons_succ, d9] at hK ⊢
      go_simp
      exact hK _ _ (balloc (Below.refl _ _) _) ⟨_, rfl, by simp⟩
    · intro vals W K hR hV hK
      have d10 := hV 10 (by simp)
      simp only [turnedV] at d10
      obtain ⟨b, d10, hcell⟩ := d10
      simp only [Reg.putS, List.foldl, List.headD, List.tail, List.getD_cons_zero, List.getD_cons_succ, Act.put, List.setIfInBounds_toArray, List.set_cons_zero, List.set_cons_succ, d10] at hK ⊢
      go_simp
      first
        | exact hK _ _ (Below.refl _ _) rfl
        | (rw [if_pos (by omega)]; exact hK _ _ (Below.refl _ _) rfl)
        | (rw [dif_pos (by omega)]; exact hK _ _ (Below.refl _ _) rfl)
        | (rw [if_neg (by omega)]; exact hK _ _ (Below.refl _ _) rfl)
    · intro vals W K hR hV hK
      have d4 := hV 4 (by simp)
      simp only [turnedV] at d4
      have d11 := hV 11 (by simp)
      simp only [turnedV] at d11
      simp only [Reg.putS, List.foldl, List.headD, List.tail, List.getD_cons_zero, List.getD_cons_succ, Act.put, List.setIfInBounds_toArray, List.set_cons_zero, List.set_cons_succ, d4, d11] at hK ⊢
      go_simp
      first
        | exact hK _ _ (Below.refl _ _) rfl
        | (rw [if_pos (by omega)]; exact hK _ _ (Below.refl _ _) rfl)
        | (rw [dif_pos (by omega)]; exact hK _ _ (Below.refl _ _) rfl)
        | (rw [if_neg (by omega)]; exact hK _ _ (Below.refl _ _) rfl)
    · intro vals W K hR hV hK
      simp only [Reg.putS, List.foldl, List.headD, List.tail, List.getD_cons_zero, List.getD_cons_succ, Act.put, List.setIfInBounds_toArray, List.set_cons_zero, List.set_cons_succ] at hK ⊢
      go_simp
      first
        | exact hK _ _ (Below.refl _ _) rfl
        | (rw [if_pos (by omega)]; exact hK _ _ (Below.refl _ _) rfl)
        | (rw [dif_pos (by omega)]; exact hK _ _ (Below.refl _ _) rfl)
        | (rw [if_neg (by omega)]; exact hK _ _ (Below.refl _ _) rfl)
    · intro vals W K hR hV hK
      simp only [Reg.putS, List.foldl, List.headD, List.tail, List.getD_cons_zero, List.getD_cons_succ, Act.put, List.setIfInBounds_toArray, List.set_cons_zero, List.set_cons_succ] at hK ⊢
      go_simp
      first
        | exact hK _ _ (Below.refl _ _) rfl
        | (rw [if_pos (by omega)]; exact hK _ _ (Below.refl _ _) rfl)
        | (rw [dif_pos (by omega)]; exact hK _ _ (Below.refl _ _) rfl)
        | (rw [if_neg (by omega)]; exact hK _ _ (Below.refl _ _) rfl)
    · intro vals W K hR hV hK
      have d14 := hV 14 (by simp)
      simp only [turnedV] at d14
      simp only [Reg.putS, List.foldl, List.headD, List.tail, List.getD_cons_zero, List.getD_cons_succ, Act.put, List.setIfInBounds_toArray, List.set_cons_zero, List.set_cons_succ, d14] at hK ⊢
      have hwr := wrap_k1 k (by omega)
      go_simp
      first
        | exact hK _ _ (Below.refl _ _) rfl
        | (rw [if_pos (by omega)]; exact hK _ _ (Below.refl _ _) rfl)
        | (rw [dif_pos (by omega)]; exact hK _ _ (Below.refl _ _) rfl)
        | (rw [if_neg (by omega)]; exact hK _ _ (Below.refl _ _) rfl)
    · intro vals W K hR hV hK
      have d13 := hV 13 (by simp)
      simp only [turnedV] at d13
      have d15 := hV 15 (by simp)
      simp only [turnedV] at d15
      simp only [Reg.putS, List.foldl, List.headD, List.tail, List.getD_cons_zero, List.getD_cons_succ, Act.put, List.setIfInBounds_toArray, List.set_cons_zero, List.set_cons_succ, d13, d15] at hK ⊢
      go_simp
      first
        | exact hK _ _ (Below.refl _ _) rfl
        | (rw [if_pos (by omega)]; exact hK _ _ (Below.refl _ _) rfl)
        | (rw [dif_pos (by omega)]; exact hK _ _ (Below.refl _ _) rfl)
        | (rw [if_neg (by omega)]; exact hK _ _ (Below.refl _ _) rfl)
    · intro vals W K hR hV hK
      have d12 := hV 12 (by simp)
      simp only [turnedV] at d12
      have d16 := hV 16 (by simp)
      simp only [turnedV] at d16
      simp only [Reg.putS, List.foldl, List.headD, List.tail, List.getD_cons_zero, List.getD_cons_succ, Act.put, List.setIfInBounds_toArray, List.set_cons_zero, List.set_cons_succ, d12, d16] at hK ⊢
      go_simp
      first
        | exact hK _ _ (Below.refl _ _) rfl
        | (rw [if_pos (by omega)]; exact hK _ _ (Below.refl _ _) rfl)
        | (rw [dif_pos (by omega)]; exact hK _ _ (Below.refl _ _) rfl)
        | (rw [if_neg (by omega)]; exact hK _ _ (Below.refl _ _) rfl)
    · intro vals W K hR hV hK
      have d1 := hV 1 (by simp)
      simp only [turnedV] at d1
      have d17 := hV 17 (by simp)
      simp only [turnedV] at d17
      simp only [Reg.putS, List.foldl, List.headD, List.tail, List.getD_cons_zero, List.getD_cons_succ, Act.put, List.setIfInBounds_toArray, List.set_cons_zero, List.set_cons_succ, d1, d17] at hK ⊢
      go_simp
      refine (of_any _ _ (turned_size _ _ _ l1)).mono ?_
      rintro e w2 ⟨rfl, hb⟩
      exact hK _ _ hb rfl
    · intro vals W K hR hV hK
      have d1 := hV 1 (by simp)
      simp only [turnedV] at d1
      have d18 := hV 18 (by simp)
      simp only [turnedV] at d18
      simp only [Reg.putS, List.foldl, List.headD, List.tail, List.getD_cons_zero, List.getD_cons_succ, Act.put, List.setIfInBounds_toArray, List.set_cons_zero, List.set_cons_succ, d1, d18] at hK ⊢
      go_simp
      first
        | exact hK _ _ (Below.refl _ _) rfl
        | (rw [if_pos (by omega)]; exact hK _ _ (Below.refl _ _) rfl)
        | (rw [dif_pos (by omega)]; exact hK _ _ (Below.refl _ _) rfl)
        | (rw [if_neg (by omega)]; exact hK _ _ (Below.refl _ _) rfl)
    · intro vals W K hR hV hK
      have d0 := hV 0 (by simp)
      simp only [turnedV] at d0
      have d1 := hV 1 (by simp)
      simp only [turnedV] at d1
      have d2 := hV 2 (by simp)
      simp only [turnedV] at d2
      have d3 := hV 3 (by simp)
      simp only [turnedV] at d3
      have d4 := hV 4 (by simp)
      simp only [turnedV] at d4
      have d5 := hV 5 (by simp)
      simp only [turnedV] at d5
      have d6 := hV 6 (by simp)
      simp only [turnedV] at d6
      have d7 := hV 7 (by simp)
      simp only [turnedV] at d7
      have d8 := hV 8 (by simp)
      simp only [turnedV] at d8
      have d9 := hV 9 (by simp)
      simp only [turnedV] at d9
      have d10 := hV 10 (by simp)
      simp only [turnedV] at d10
      obtain ⟨b, d10, hcell⟩ := d10
      have d11 := hV 11 (by simp)
      simp only [turnedV] at d11
      have d12 := hV 12 (by simp)
      simp only [turnedV] at d12
      have d13 := hV 13 (by simp)
      simp only [turnedV] at d13
      have d14 := hV 14 (by simp)
      simp only [turnedV] at d14
      have d15 := hV 15 (by simp)
      simp only [turnedV] at d15
      have d16 := hV 16 (by simp)
      simp only [turnedV] at d16
      have d17 := hV 17 (by simp)
      simp only [turnedV] at d17
      have d18 := hV 18 (by simp)
      simp only [turnedV] at d18
      have d19 := hV 19 (by simp)
      simp only [turnedV] at d19
      simp only [Reg.putS, List.foldl, List.headD, List.tail, List.getD_cons_zero, List.getD_cons_succ, Act.put, List.setIfInBounds_toArray, List.set_cons_zero, List.set_cons_succ, d0, d1, d2, d3, d4, d5, d6, d7, d8, d9, d10, d11, d12, d13, d14, d15, d16, d17, d18, d19] at hK ⊢
      go_simp
      first
        | exact hK _ _ (Below.refl _ _) rfl
        | (rw [if_pos (by omega)]; exact hK _ _ (Below.refl _ _) rfl)
        | (rw [dif_pos (by omega)]; exact hK _ _ (Below.refl _ _) rfl)
        | (rw [if_neg (by omega)]; exact hK _ _ (Below.refl _ _) rfl)
  · intro vals W hR hV
    rw [show List.range (List.length [some 35, some 36, some 37, some 38, some 39, some 40, some 41, some 42, some 43, some 44, some 45, some 46, some 47, some 48, some 49, some 50, some 51, some 52, some 53, some 54, some 6]) = [0, 1, 2, 3, 4, 5, 6, 7, 8, 9, 10, 11, 12, 13, 14, 15, 16, 17, 18, 19, 20] from rfl]
    have d0 := hV 0 (by decide)
    simp only [turnedV] at d0
    have d1 := hV 1 (by decide)
    simp only [turnedV] at d1
    have d2 := hV 2 (by decide)
    simp only [turnedV] at d2
    have d3 := hV 3 (by decide)
    simp only [turnedV] at d3
    have d4 := hV 4 (by decide)
    simp only [turnedV] at d4
    have d5 := hV 5 (by decide)
    simp only [turnedV] at d5
    have d6 := hV 6 (by decide)
    simp only [turnedV] at d6
    have d7 := hV 7 (by decide)
    simp only [turnedV] at d7
    have d8 := hV 8 (by decide)
    simp only [turnedV] at d8
    have d9 := hV 9 (by decide)
    simp only [turnedV] at d9
    have d10 := hV 10 (by decide)
    simp only [turnedV] at d10
    obtain ⟨b, d10, hcell⟩ := d10
    have d11 := hV 11 (by decide)
    simp only [turnedV] at d11
    have d12 := hV 12 (by decide)
    simp only [turnedV] at d12
    have d13 := hV 13 (by decide)
    simp only [turnedV] at d13
    have d14 := hV 14 (by decide)
    simp only [turnedV] at d14
    have d15 := hV 15 (by decide)
    simp only [turnedV] at d15
    have d16 := hV 16 (by decide)
    simp only [turnedV] at d16
    have d17 := hV 17 (by decide)
    simp only [turnedV] at d17
    have d18 := hV 18 (by decide)
    simp only [turnedV] at d18
    have d19 := hV 19 (by decide)
    simp only [turnedV] at d19
    have d20 := hV 20 (by decide)
    simp only [turnedV] at d20
    clear hV
    simp only [Reg.putS, List.foldl, List.getD_cons_zero, List.getD_cons_succ, Act.put, List.setIfInBounds_toArray, List.set_cons_zero, List.set_cons_succ, d0, d1, d2, d3, d4, d5, d6, d7, d8, d9, d10, d11, d12, d13, d14, d15, d16, d17, d18, d19, d20]
    clear d0 d1 d2 d3 d4 d5 d6 d7 d8 d9 d10 d11 d12 d13 d14 d15 d16 d17 d18 d19 d20
    go_wp2
    go_ret
    exact ⟨ret_bool hne.out, bstep (below_drew hb1) hR⟩

theorem turned_walk (a0 : ByteArray) (a1 a2 : Int) (w : World) (h0 : a0.size ≤ 140737488351232) (h1 : (Lit.int .i64 a1).wf = true) (h2 : (Lit.int .u8 a2).wf = true) :
    Calls Try.prog 7 #[.string a0, .int .i64 a1, .int .u8 a2] w fun e w' => e = .returned (.bool true) ∧ Below w.heap.size w w' := by
  have hr := u8_range h2
  by_cases c1 : (a0.size : Int) < 1
  · exact turned_out a0 a1 a2 w (.inl (by simpa using c1))
  by_cases c2 : (a0.size : Int) > 1000
  · exact turned_out a0 a1 a2 w (.inr (.inl ⟨by simpa using c1, by simpa using c2⟩))
  by_cases c3 : a2 = 0
  · exact turned_out a0 a1 a2 w (.inr (.inr ⟨by simpa using c1, by simpa using c2, by simpa using c3⟩))
  have l0 : 1 ≤ a0.size := by omega
  have hp : (0 : Int) < a0.size := by omega
  have m1 := Int.tmod_lt_of_pos a1 hp
  have m2 : -(a0.size : Int) < a1.tmod a0.size := by
    have := Int.lt_tmod_of_pos a1 hp
    omega
  have hw : wrap64 (a1.tmod a0.size + a0.size) = a1.tmod a0.size + a0.size := by unfold wrap64; omega
  have n1 : 0 ≤ (a1.tmod a0.size + a0.size).tmod a0.size := Int.tmod_nonneg _ (by omega)
  have n2 := Int.tmod_lt_of_pos (a1.tmod a0.size + a0.size) hp
  obtain ⟨k, hk⟩ := Int.eq_ofNat_of_zero_le n1
  have hlt : k < a0.size := by omega
  have ha : -9223372036854775808 ≤ a1 ∧ a1 ≤ 9223372036854775807 := by
    simp [Lit.wf, IntKind.min, IntKind.max, IntKind.signed, IntKind.bits] at h1
    omega
  exact turned_in a0 a1 a2 k w l0 (by omega) hr ha hlt (by rw [hw]; exact hk) (by simpa using c1) (by simpa using c2) (by simpa using c3) (turned_ne a0 k a2 hlt hr c3)

end Go.Proofs.Ythaoofnnhdkboaa.CrcT
