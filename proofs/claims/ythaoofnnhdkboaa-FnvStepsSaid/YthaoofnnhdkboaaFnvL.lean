/- The walks of the laws of chapter 5 (fnv): each returns true for every input. -/
import Derived.Test.YthaoofnnhdkboaaFnvP
import Derived.Test.YthaoofnnhdkboaaReg
import Derived.RegionCalls
import Derived.Lib.Hide
import Derived.Deep.RegionWith
import Derived.Deep.RegionHeld3
set_option linter.unusedSimpArgs false
set_option linter.unusedVariables false
namespace Go.Proofs.Ythaoofnnhdkboaa.FnvL
open Go.RowKit Go.Proofs.Ythaoofnnhdkboaa.FnvW Go.Proofs.Ythaoofnnhdkboaa.FnvP

theorem bstep {w a b : World} (h : Below w.heap.size w a) (k : Below a.heap.size a b) : Below w.heap.size w b := h.trans (k.mono h.size)
theorem bcell {W w1 : World} (hb : Below W.heap.size W w1) : (∀ b o, b < W.heap.size → w1.cell? ⟨b, o, none⟩ = W.cell? ⟨b, o, none⟩) ∧ (∀ b o, b < W.heap.size → w1.frozen? ⟨b, o, none⟩ = W.frozen? ⟨b, o, none⟩) :=
  ⟨fun b o h => hb.cell (p := ⟨b, o, none⟩) h, fun b o h => hb.frozen (p := ⟨b, o, none⟩) h⟩
theorem pw_cell_below {w w1 : World} (h : Below w.heap.size w w1) {a : Addr} {v : Value} (hc : w.cell? a = some v) : w1.cell? a = some v := (h.cell (World.block_lt_of_cell? w a hc)).trans hc
theorem below_drew {B : Nat} {w W : World} (h : Below B w W) : Below B w { heap := W.heap, tape := W.tape, drawn := W.drawn + 1, os := W.os, output := W.output } := ⟨h.os, h.tape, h.output, h.size, h.block⟩
theorem balloc {w a : World} (h : Below w.heap.size w a) (o : Obj) : Below w.heap.size w (a.alloc o) := h.alloc h.size o
/-- The name of a string. -/
def nameS (s : ByteArray) : Int := nameI s.data.toList
theorem ofS (s : ByteArray) (w : World) (hs : s.size ≤ maxLen) :
    Calls Try.prog 27 #[.string s] w fun e w' => e = .returned (.int .u64 (nameS s)) ∧ Below w.heap.size w w' := of_any s w hs
theorem ret_bool {a b : Bool} (h : a = b) : Ending.returned (.bool a) = .returned (.bool b) := by rw [h]
theorem of_eq (s : ByteArray) (r : Int) (w : World) (hs : s.size ≤ maxLen) (hr : nameI s.data.toList = r) :
    Calls Try.prog 27 #[.string s] w fun e w' => e = .returned (.int .u64 r) ∧ Below w.heap.size w w' := by
  subst hr; exact of_any s w hs

set_option maxHeartbeats 400000 in
theorem alive_true (w : World) : Calls Try.prog 23 #[] w fun e w' => e = .returned (.bool true) ∧ Below w.heap.size w w' := by
  go_enter Try.func23, Try.ntmps23
  go_wp2_with fail
  refine (of_eq _ 14695981039346656037 _ (by decide) (by exact name_empty)).mono ?_
  rintro e w1 ⟨rfl, hb1⟩
  go_wp2_with fail
  refine (of_eq _ 12638187200555641996 _ (by decide) (by exact name_a)).mono ?_
  rintro e w2 ⟨rfl, hb2⟩
  go_wp2_with fail
  go_ret
  exact ⟨rfl, hb1.trans (hb2.mono hb1.size)⟩

theorem conv1 (w : World) (b : Nat) (x : Int) (h : w.cell? ⟨b, 0, none⟩ = some (.int .u8 x)) : (convert 32 9 (.slice (some ⟨b, 0, none⟩) 1 1)).run Try.prog w = .ok (.string (strOfNums [x])) w := by
  refine run_convert_bytes_arg w 32 5 Try.underlying32 Try.underlying5 b 0 1 1 [x] rfl ?_ 9 Try.underlying9
  intro i hi
  obtain rfl : i = 0 := by omega
  exact h

theorem u8_range {a : Int} (h : (Lit.int .u8 a).wf = true) : 0 ≤ a ∧ a ≤ 255 := by
  simp [Lit.wf, IntKind.min, IntKind.max, IntKind.signed, IntKind.bits] at h
  omega
theorem u8_of {a : Int} (h : 0 ≤ a ∧ a ≤ 255) : ∃ c : UInt8, a = (c.toNat : Int) := by
  refine ⟨UInt8.ofNat a.toNat, ?_⟩
  rw [UInt8.toNat_ofNat']
  omega
theorem strOf1 (c : UInt8) : strOfNums [(c.toNat : Int)] = ⟨#[c]⟩ := by
  simp [strOfNums]
theorem data1 (s : ByteArray) (c : UInt8) : (s ++ strOfNums [(c.toNat : Int)]).data.toList = s.data.toList ++ [c] := by
  rw [strOf1]; simp [ByteArray.data_append]
theorem size1 (x : Int) : (strOfNums [x]).size = 1 := rfl

set_option maxHeartbeats 400000 in
theorem steps_walk (a0 : ByteArray) (a1 : Int) (w : World) (h0 : a0.size ≤ 140737488351232) (h1 : (Lit.int .u8 a1).wf = true) :
    Calls Try.prog 5 #[.string a0, .int .u8 a1] w fun e w' => e = .returned (.bool true) ∧ Below w.heap.size w w' := by
  by_cases hlen : (a0.size : Int) > 1000
  · go_enter Try.func5, Try.ntmps5
    go_wp2_with fail
    refine (alive_true _).mono ?_
    rintro e w1 ⟨rfl, hb1⟩
    go_wp2_with fail
    go_ret
    exact ⟨rfl, hb1⟩
  · have hcv := conv1
    have hs1 := size1 a1
    obtain ⟨c, rfl⟩ := u8_of (u8_range h1)
    have Hfin : Hid (nameS (a0 ++ strOfNums [(c.toNat : Int)]) = IntKind.u64.wrap (Go.bits .xor .u64 (nameS a0) (IntKind.u64.wrap (c.toNat : Int)) * 1099511628211)) := Lib.hid (by unfold nameS; rw [data1, name_step]; rfl)
    go_enter Try.func5, Try.ntmps5
    go_wp2_with fail
    refine (alive_true _).mono ?_
    rintro e w1 ⟨rfl, hb1⟩
    go_wp2_with fail
    refine (ofS _ _ (by unfold maxLen; rw [ByteArray.size_append, hs1]; omega)).mono ?_
    rintro e w2 ⟨rfl, hb2⟩
    go_wp2_with fail
    refine (ofS _ _ (by unfold maxLen; omega)).mono ?_
    rintro e w3 ⟨rfl, hb3⟩
    go_wp2_with fail
    go_ret
    refine ⟨?_, ?_⟩
    · exact ret_bool (beq_iff_eq.2 Hfin.out)
    · exact bstep (bstep (balloc hb1 _) hb2) hb3

set_option maxHeartbeats 400000 in
theorem turned_out (a0 : ByteArray) (a1 : Int) (w : World) (hg : decide ((a0.size : Int) < 1) = true ∨ (decide ((a0.size : Int) < 1) = false ∧ decide ((a0.size : Int) > 1000) = true) ∨ (decide ((a0.size : Int) < 1) = false ∧ decide ((a0.size : Int) > 1000) = false ∧ (a1 == 0) = true)) :
    Calls Try.prog 4 #[.string a0, .int .u8 a1] w fun e w' => e = .returned (.bool true) ∧ Below w.heap.size w w' := by
  rcases hg with hg | ⟨hg0, hg⟩ | ⟨hg0, hg1, hg⟩
  all_goals
    go_enter Try.func4, Try.ntmps4
    go_wp2_with fail
    refine (alive_true _).mono ?_
    rintro e w1 ⟨rfl, hb1⟩
    go_wp2_with fail
    go_ret
    exact ⟨rfl, hb1⟩

theorem szcut (a : ByteArray) (k : Nat) (x : Int) (h : a.size ≤ 1000) : (a.extract 0 k ++ strOfNums [x]).size ≤ maxLen := by
  rw [ByteArray.size_append, ByteArray.size_extract, size1]; unfold maxLen; omega
/-- What the region's operations yield. -/
def turnedV (a0 : ByteArray) (a1 : Int) (c : Int) (i : Nat) (v : Value) (W : World) : Prop := match i with
  | 0 => v = .string a0
  | 1 => v = .int .u64 (nameS a0)
  | 2 => v = .string a0
  | 3 => v = .int .i64 ((a0.size : Int) - 1)
  | 4 => v = .string (a0.extract 0 (a0.size - 1))
  | 5 => v = .string a0
  | 6 => v = .int .i64 ((a0.size : Int) - 1)
  | 7 => v = .int .u8 c
  | 8 => v = .int .u8 a1
  | 9 => v = .int .u8 (Go.bits .xor .u8 c a1)
  | 10 => ∃ b, v = .slice (some ⟨b, 0, none⟩) 1 1 ∧ W.cell? ⟨b, 0, none⟩ = some (.int .u8 (Go.bits .xor .u8 c a1))
  | 11 => v = .string (strOfNums [Go.bits .xor .u8 c a1])
  | 12 => v = .string (a0.extract 0 (a0.size - 1) ++ strOfNums [Go.bits .xor .u8 c a1])
  | 13 => v = .int .u64 (nameS (a0.extract 0 (a0.size - 1) ++ strOfNums [Go.bits .xor .u8 c a1]))
  | 14 => v = .bool (nameS a0 != nameS (a0.extract 0 (a0.size - 1) ++ strOfNums [Go.bits .xor .u8 c a1]))
  | 15 => v = .bool (nameS a0 != nameS (a0.extract 0 (a0.size - 1) ++ strOfNums [Go.bits .xor .u8 c a1]))
  | _ => True
set_option maxHeartbeats 600000 in
theorem turned_in (a0 : ByteArray) (a1 : Int) (w : World) (l0 : 1 ≤ a0.size) (l1 : a0.size ≤ 1000) (hr : 0 ≤ a1 ∧ a1 ≤ 255) (hg0 : decide ((a0.size : Int) < 1) = false) (hg1 : decide ((a0.size : Int) > 1000) = false) (hg2 : (a1 == 0) = false) (hne0 : ((nameS a0 != nameS (a0.extract 0 (a0.size - 1) ++ strOfNums [Go.bits .xor .u8 (a0[a0.size - 1].toNat : Int) a1])) = true)) :
    Calls Try.prog 4 #[.string a0, .int .u8 a1] w fun e w' => e = .returned (.bool true) ∧ Below w.heap.size w w' := by
  have hcv := conv1
  have hs1 := size1
  have hne := Lib.hid hne0
  clear hne0
  have b0 : (0 : Int) ≤ (a0.size : Int) - 1 := by omega
  have b1 : (a0.size : Int) - 1 ≤ (a0.size : Int) := by omega
  have b2 : (a0.size : Int) - 1 < (a0.size : Int) := by omega
  go_enter Try.func4, Try.ntmps4
  go_wp2_with fail
  refine (alive_true _).mono ?_
  rintro e w1 ⟨rfl, hb1⟩
  go_wp2_with fail
  refine Reg.wp_region_lists (fun W W' => Below W.heap.size W W') (turnedV a0 a1 (a0[a0.size - 1].toNat : Int))
    [some 26, some 27, some 28, some 29, some 30, some 31, some 32, some 33, some 34, some 35, some 36, some 37, some 38, some 39, some 40, some 4]
    [[], [0], [], [], [2, 3], [], [], [5, 6], [], [7, 8], [9], [10], [4, 11], [12, 1], [1, 13], [14, 13, 0, 1, 2, 3, 4, 5, 6, 7, 8, 9, 10, 11, 12, 13, 14]]
    (by kernel_rfl) (by kernel_rfl) (by kernel_rfl) (fun _ => Below.refl _ _) (fun _ _ _ h k => bstep h k) ?_ ?_ ?_
  · intro i v W W' h k
    unfold turnedV at h ⊢
    split at h <;> first | exact h | (obtain ⟨b, e, hc⟩ := h; exact ⟨b, e, pw_cell_below k hc⟩)
  · refine ⟨?_, ?_, ?_, ?_, ?_, ?_, ?_, ?_, ?_, ?_, ?_, ?_, ?_, ?_, ?_, ?_, trivial⟩
    · intro vals W K hR hV hK
      simp only [Reg.putS, List.foldl, List.headD, List.tail, List.getD_cons_zero, List.getD_cons_succ, Act.put, List.setIfInBounds_toArray, List.set_cons_zero, List.set_cons_succ] at hK ⊢
      go_simp
      first
        | exact hK _ _ (Below.refl _ _) rfl
        | (rw [if_pos (by omega)]; exact hK _ _ (Below.refl _ _) rfl)
        | (rw [dif_pos (by omega)]; exact hK _ _ (Below.refl _ _) rfl)
        | (rw [if_neg (by omega)]; exact hK _ _ (Below.refl _ _) rfl)
    · intro vals W K hR hV hK
      have d0 := hV 0 (by simp)
      simp only [turnedV] at d0
      simp only [Reg.putS, List.foldl, List.headD, List.tail, List.getD_cons_zero, List.getD_cons_succ, Act.put, List.setIfInBounds_toArray, List.set_cons_zero, List.set_cons_succ, d0] at hK ⊢
      go_simp
      refine (ofS _ _ (by unfold maxLen; omega)).mono ?_
      rintro e w2 ⟨rfl, hb⟩
      exact hK _ _ hb rfl
    · intro vals W K hR hV hK
      simp only [Reg.putS, List.foldl, List.headD, List.tail, List.getD_cons_zero, List.getD_cons_succ, Act.put, List.setIfInBounds_toArray, List.set_cons_zero, List.set_cons_succ] at hK ⊢
      go_simp
      first
        | exact hK _ _ (Below.refl _ _) rfl
        | (rw [if_pos (by omega)]; exact hK _ _ (Below.refl _ _) rfl)
        | (rw [dif_pos (by omega)]; exact hK _ _ (Below.refl _ _) rfl)
        | (rw [if_neg (by omega)]; exact hK _ _ (Below.refl _ _) rfl)
    · intro vals W K hR hV hK
      simp only [Reg.putS, List.foldl, List.headD, List.tail, List.getD_cons_zero, List.getD_cons_succ, Act.put, List.setIfInBounds_toArray, List.set_cons_zero, List.set_cons_succ] at hK ⊢
      go_simp
      first
        | exact hK _ _ (Below.refl _ _) rfl
        | (rw [if_pos (by omega)]; exact hK _ _ (Below.refl _ _) rfl)
        | (rw [dif_pos (by omega)]; exact hK _ _ (Below.refl _ _) rfl)
        | (rw [if_neg (by omega)]; exact hK _ _ (Below.refl _ _) rfl)
    · intro vals W K hR hV hK
      have d2 := hV 2 (by simp)
      simp only [turnedV] at d2
      have d3 := hV 3 (by simp)
      simp only [turnedV] at d3
      simp only [Reg.putS, List.foldl, List.headD, List.tail, List.getD_cons_zero, List.getD_cons_succ, Act.put, List.setIfInBounds_toArray, List.set_cons_zero, List.set_cons_succ, d2, d3] at hK ⊢
      go_simp
      first
        | exact hK _ _ (Below.refl _ _) rfl
        | (rw [if_pos (by omega)]; exact hK _ _ (Below.refl _ _) rfl)
        | (rw [dif_pos (by omega)]; exact hK _ _ (Below.refl _ _) rfl)
        | (rw [if_neg (by omega)]; exact hK _ _ (Below.refl _ _) rfl)
    · intro vals W K hR hV hK
      simp only [Reg.putS, List.foldl, List.headD, List.tail, List.getD_cons_zero, List.getD_cons_succ, Act.put, List.setIfInBounds_toArray, List.set_cons_zero, List.set_cons_succ] at hK ⊢
      go_simp
      first
        | exact hK _ _ (Below.refl _ _) rfl
        | (rw [if_pos (by omega)]; exact hK _ _ (Below.refl _ _) rfl)
        | (rw [dif_pos (by omega)]; exact hK _ _ (Below.refl _ _) rfl)
        | (rw [if_neg (by omega)]; exact hK _ _ (Below.refl _ _) rfl)
    · intro vals W K hR hV hK
      simp only [Reg.putS, List.foldl, List.headD, List.tail, List.getD_cons_zero, List.getD_cons_succ, Act.put, List.setIfInBounds_toArray, List.set_cons_zero, List.set_cons_succ] at hK ⊢
      go_simp
      first
        | exact hK _ _ (Below.refl _ _) rfl
        | (rw [if_pos (by omega)]; exact hK _ _ (Below.refl _ _) rfl)
        | (rw [dif_pos (by omega)]; exact hK _ _ (Below.refl _ _) rfl)
        | (rw [if_neg (by omega)]; exact hK _ _ (Below.refl _ _) rfl)
    · intro vals W K hR hV hK
      have d5 := hV 5 (by simp)
      simp only [turnedV] at d5
      have d6 := hV 6 (by simp)
      simp only [turnedV] at d6
      simp only [Reg.putS, List.foldl, List.headD, List.tail, List.getD_cons_zero, List.getD_cons_succ, Act.put, List.setIfInBounds_toArray, List.set_cons_zero, List.set_cons_succ, d5, d6] at hK ⊢
      go_simp
      first
        | exact hK _ _ (Below.refl _ _) rfl
        | (rw [if_pos (by omega)]; exact hK _ _ (Below.refl _ _) rfl)
        | (rw [dif_pos (by omega)]; exact hK _ _ (Below.refl _ _) rfl)
        | (rw [if_neg (by omega)]; exact hK _ _ (Below.refl _ _) rfl)
    · intro vals W K hR hV hK
      simp only [Reg.putS, List.foldl, List.headD, List.tail, List.getD_cons_zero, List.getD_cons_succ, Act.put, List.setIfInBounds_toArray, List.set_cons_zero, List.set_cons_succ] at hK ⊢
      go_simp
      first
        | exact hK _ _ (Below.refl _ _) rfl
        | (rw [if_pos (by omega)]; exact hK _ _ (Below.refl _ _) rfl)
        | (rw [dif_pos (by omega)]; exact hK _ _ (Below.refl _ _) rfl)
        | (rw [if_neg (by omega)]; exact hK _ _ (Below.refl _ _) rfl)
    · intro vals W K hR hV hK
      have d7 := hV 7 (by simp)
      simp only [turnedV] at d7
      have d8 := hV 8 (by simp)
      simp only [turnedV] at d8
      simp only [Reg.putS, List.foldl, List.headD, List.tail, List.getD_cons_zero, List.getD_cons_succ, Act.put, List.setIfInBounds_toArray, List.set_cons_zero, List.set_cons_succ, d7, d8] at hK ⊢
      go_simp
      first
        | exact hK _ _ (Below.refl _ _) rfl
        | (rw [if_pos (by omega)]; exact hK _ _ (Below.refl _ _) rfl)
        | (rw [dif_pos (by omega)]; exact hK _ _ (Below.refl _ _) rfl)
        | (rw [if_neg (by omega)]; exact hK _ _ (Below.refl _ _) rfl)
    · intro vals W K hR hV hK
      have d9 := hV 9 (by simp)
      simp only [turnedV] at d9
      simp only [Reg.putS, List.foldl, List.headD, List.tail, List.getD_cons_zero, List.getD_cons_succ, Act.put, List.setIfInBounds_toArray, List.set_cons_zero, List.set_cons_succ, d9] at hK ⊢
      go_simp
      exact hK _ _ (balloc (Below.refl _ _) _) ⟨_, rfl, by simp⟩
    · intro vals W K hR hV hK
      have d10 := hV 10 (by simp)
      simp only [turnedV] at d10
      obtain ⟨b, d10, hcell⟩ := d10
      simp only [Reg.putS, List.foldl, List.headD, List.tail, List.getD_cons_zero, List.getD_cons_succ, Act.put, List.setIfInBounds_toArray, List.set_cons_zero, List.set_cons_succ, d10] at hK ⊢
      go_simp
      first
        | exact hK _ _ (Below.refl _ _) rfl
        | (rw [if_pos (by omega)]; exact hK _ _ (Below.refl _ _) rfl)
        | (rw [dif_pos (by omega)]; exact hK _ _ (Below.refl _ _) rfl)
        | (rw [if_neg (by omega)]; exact hK _ _ (Below.refl _ _) rfl)
    · intro vals W K hR hV hK
      have d4 := hV 4 (by simp)
      simp only [turnedV] at d4
      have d11 := hV 11 (by simp)
      simp only [turnedV] at d11
      simp only [Reg.putS, List.foldl, List.headD, List.tail, List.getD_cons_zero, List.getD_cons_succ, Act.put, List.setIfInBounds_toArray, List.set_cons_zero, List.set_cons_succ, d4, d11] at hK ⊢
      go_simp
      first
        | exact hK _ _ (Below.refl _ _) rfl
        | (rw [if_pos (by omega)]; exact hK _ _ (Below.refl _ _) rfl)
        | (rw [dif_pos (by omega)]; exact hK _ _ (Below.refl _ _) rfl)
        | (rw [if_neg (by omega)]; exact hK _ _ (Below.refl _ _) rfl)
    · intro vals W K hR hV hK
      have d1 := hV 1 (by simp)
      simp only [turnedV] at d1
      have d12 := hV 12 (by simp)
      simp only [turnedV] at d12
      simp only [Reg.putS, List.foldl, List.headD, List.tail, List.getD_cons_zero, List.getD_cons_succ, Act.put, List.setIfInBounds_toArray, List.set_cons_zero, List.set_cons_succ, d1, d12] at hK ⊢
      go_simp
      refine (ofS _ _ (szcut _ _ _ l1)).mono ?_
      rintro e w2 ⟨rfl, hb⟩
      exact hK _ _ hb rfl
    · intro vals W K hR hV hK
      have d1 := hV 1 (by simp)
      simp only [turnedV] at d1
      have d13 := hV 13 (by simp)
      simp only [turnedV] at d13
      simp only [Reg.putS, List.foldl, List.headD, List.tail, List.getD_cons_zero, List.getD_cons_succ, Act.put, List.setIfInBounds_toArray, List.set_cons_zero, List.set_cons_succ, d1, d13] at hK ⊢
      go_simp
      first
        | exact hK _ _ (Below.refl _ _) rfl
        | (rw [if_pos (by omega)]; exact hK _ _ (Below.refl _ _) rfl)
        | (rw [dif_pos (by omega)]; exact hK _ _ (Below.refl _ _) rfl)
        | (rw [if_neg (by omega)]; exact hK _ _ (Below.refl _ _) rfl)
    · intro vals W K hR hV hK
      have d0 := hV 0 (by simp)
      simp only [turnedV] at d0
      have d1 := hV 1 (by simp)
      simp only [turnedV] at d1
      have d2 := hV 2 (by simp)
      simp only [turnedV] at d2
      have d3 := hV 3 (by simp)
      simp only [turnedV] at d3
      have d4 := hV 4 (by simp)
      simp only [turnedV] at d4
      have d5 := hV 5 (by simp)
      simp only [turnedV] at d5
      have d6 := hV 6 (by simp)
      simp only [turnedV] at d6
      have d7 := hV 7 (by simp)
      simp only [turnedV] at d7
      have d8 := hV 8 (by simp)
      simp only [turnedV] at d8
      have d9 := hV 9 (by simp)
      simp only [turnedV] at d9
      have d10 := hV 10 (by simp)
      simp only [turnedV] at d10
      obtain ⟨b, d10, hcell⟩ := d10
      have d11 := hV 11 (by simp)
      simp only [turnedV] at d11
      have d12 := hV 12 (by simp)
      simp only [turnedV] at d12
      have d13 := hV 13 (by simp)
      simp only [turnedV] at d13
      have d14 := hV 14 (by simp)
      simp only [turnedV] at d14
      simp only [Reg.putS, List.foldl, List.headD, List.tail, List.getD_cons_zero, List.getD_cons_succ, Act.put, List.setIfInBounds_toArray, List.set_cons_zero, List.set_cons_succ, d0, d1, d2, d3, d4, d5, d6, d7, d8, d9, d10, d11, d12, d13, d14] at hK ⊢
      go_simp
      first
        | exact hK _ _ (Below.refl _ _) rfl
        | (rw [if_pos (by omega)]; exact hK _ _ (Below.refl _ _) rfl)
        | (rw [dif_pos (by omega)]; exact hK _ _ (Below.refl _ _) rfl)
        | (rw [if_neg (by omega)]; exact hK _ _ (Below.refl _ _) rfl)
  · intro vals W hR hV
    rw [show List.range (List.length [some 26, some 27, some 28, some 29, some 30, some 31, some 32, some 33, some 34, some 35, some 36, some 37, some 38, some 39, some 40, some 4]) = [0, 1, 2, 3, 4, 5, 6, 7, 8, 9, 10, 11, 12, 13, 14, 15] from rfl]
    have d0 := hV 0 (by decide)
    simp only [turnedV] at d0
    have d1 := hV 1 (by decide)
    simp only [turnedV] at d1
    have d2 := hV 2 (by decide)
    simp only [turnedV] at d2
    have d3 := hV 3 (by decide)
    simp only [turnedV] at d3
    have d4 := hV 4 (by decide)
    simp only [turnedV] at d4
    have d5 := hV 5 (by decide)
    simp only [turnedV] at d5
    have d6 := hV 6 (by decide)
    simp only [turnedV] at d6
    have d7 := hV 7 (by decide)
    simp only [turnedV] at d7
    have d8 := hV 8 (by decide)
    simp only [turnedV] at d8
    have d9 := hV 9 (by decide)
    simp only [turnedV] at d9
    have d10 := hV 10 (by decide)
    simp only [turnedV] at d10
    obtain ⟨b, d10, hcell⟩ := d10
    have d11 := hV 11 (by decide)
    simp only [turnedV] at d11
    have d12 := hV 12 (by decide)
    simp only [turnedV] at d12
    have d13 := hV 13 (by decide)
    simp only [turnedV] at d13
    have d14 := hV 14 (by decide)
    simp only [turnedV] at d14
    have d15 := hV 15 (by decide)
    simp only [turnedV] at d15
    clear hV
    simp only [Reg.putS, List.foldl, List.getD_cons_zero, List.getD_cons_succ, Act.put, List.setIfInBounds_toArray, List.set_cons_zero, List.set_cons_succ, d0, d1, d2, d3, d4, d5, d6, d7, d8, d9, d10, d11, d12, d13, d14, d15]
    clear d0 d1 d2 d3 d4 d5 d6 d7 d8 d9 d10 d11 d12 d13 d14 d15
    go_wp2
    go_ret
    exact ⟨ret_bool hne.out, bstep (below_drew hb1) hR⟩

end Go.Proofs.Ythaoofnnhdkboaa.FnvL
