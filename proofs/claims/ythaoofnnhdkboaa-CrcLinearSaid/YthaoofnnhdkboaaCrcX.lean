/- The walk of CrcLinear: it returns true for every three strings. -/
import Derived.Test.YthaoofnnhdkboaaCrcT
import Derived.Test.YthaoofnnhdkboaaCrcN
import Derived.RegionTactic
import Derived.ChangeAlike
set_option linter.unusedSimpArgs false
set_option linter.unusedVariables false
namespace Go.Proofs.Ythaoofnnhdkboaa.CrcX
open Go.RowKit Go.Proofs.Ythaoofnnhdkboaa.CrcP Go.Proofs.Ythaoofnnhdkboaa.CrcW Go.Proofs.Ythaoofnnhdkboaa.CrcQ Go.Proofs.Ythaoofnnhdkboaa.CrcL Go.Proofs.Ythaoofnnhdkboaa.CrcN

def at8 (a : ByteArray) (j : Nat) : Int := ((a.data.toList.getD j 0).toNat : Int)
def by3 (a b c : ByteArray) (j : Nat) : Int := Go.bits .xor .u8 (Go.bits .xor .u8 (at8 a j) (at8 b j)) (at8 c j)
theorem at8_get (a : ByteArray) (j : Nat) (h : j < a.size) : (a[j].toNat : Int) = at8 a j := by
  unfold at8
  have h1 : j < a.data.toList.length := by simpa using h
  rw [List.getD_eq_getElem?_getD, List.getElem?_eq_getElem h1]
  simp
  rfl
/-- What the loop of CrcLinear keeps. -/
def LRel (a b c : ByteArray) (w w1 : World) (n : Nat) (i : Value) (wr : World) : Prop :=
  ∃ k : Nat, k ≤ n ∧ i = .int .i64 k ∧ Below w.heap.size w wr ∧ w1.heap.size < wr.heap.size ∧ w.heap.size ≤ w1.heap.size ∧ (∀ j, j < n → wr.cell? ⟨w1.heap.size, j, none⟩ = some (.int .u8 (if j < k then by3 a b c j else 0))) ∧ ∀ j, wr.frozen? ⟨w1.heap.size, j, none⟩ = false

theorem cell_other {w : World} {a b : Addr} {v : Value} (h : a ≠ b) : (w.setCell a v).cell? b = w.cell? b := by
  first | exact World.cell?_setCell_other _ _ h | exact World.cell?_setCell_other _ _ _ _ h | (simp [World.cell?_setCell_other, h]; done)
theorem LRel.next {a b c : ByteArray} {w w1 wr : World} {n k : Nat} (e0 : a.size = n) (e1 : b.size = n) (e2 : c.size = n) (hlt : k < n) (hb : Below w.heap.size w wr) (hz : w1.heap.size < wr.heap.size) (hge : w.heap.size ≤ w1.heap.size)
    (hc : ∀ j, j < n → wr.cell? ⟨w1.heap.size, j, none⟩ = some (.int .u8 (if j < k then by3 a b c j else 0))) (hf : ∀ j, wr.frozen? ⟨w1.heap.size, j, none⟩ = false) {x : Int} (hx : x = by3 a b c k) :
    LRel a b c w w1 n (.int .i64 ((k : Int) + 1)) (wr.setCell ⟨w1.heap.size, k, none⟩ (.int .u8 x)).drew := by
  refine ⟨k + 1, by omega, by simp, (hb.setCell hge _).drew, by simpa [World.setCell] using hz, hge, fun j hj => ?_, fun j => by simpa using hf j⟩
  show (wr.setCell ⟨w1.heap.size, k, none⟩ (.int .u8 x)).cell? ⟨w1.heap.size, j, none⟩ = _
  by_cases hjk : j = k
  · subst hjk
    rw [if_pos (by omega), cell_same (hc j hj), hx]
  · rw [cell_other (by intro e; injection e with _ e2 _; exact hjk e2.symm), hc j hj]
    by_cases h : j < k
    · rw [if_pos h, if_pos (by omega)]
    · rw [if_neg h, if_neg (by omega)]
/-- The bytes that differ. -/
def xS (a b c : ByteArray) (n : Nat) : ByteArray := strOfNums ((List.range n).map (by3 a b c))
theorem xS_size (a b c : ByteArray) (n : Nat) (h : n ≤ 300) : (xS a b c n).size ≤ maxLen := by
  unfold xS
  rw [strOfNums_size]
  unfold maxLen
  simp
  omega
theorem conv_x (a b c : ByteArray) (W : World) (g n : Nat) (h : ∀ j, j < n → W.cell? ⟨g, j, none⟩ = some (.int .u8 (by3 a b c j))) : (convert 32 9 (.slice (some ⟨g, 0, none⟩) n n)).run Try.prog W = .ok (.string (xS a b c n)) W := by
  refine run_convert_bytes_arg W 32 5 Try.underlying32 Try.underlying5 g 0 n n ((List.range n).map (by3 a b c)) (by simp) ?_ 9 Try.underlying9
  intro i hi
  rw [Nat.zero_add, h i hi]
  simp [List.getD_eq_getElem?_getD, hi]
theorem xS_data (a b c : ByteArray) (n : Nat) (e0 : a.size = n) (e1 : b.size = n) (e2 : c.size = n) : (xS a b c n).data.toList = xor3 a.data.toList b.data.toList c.data.toList := by
  have key : ∀ (x y z : List UInt8), x.length = y.length → y.length = z.length → xor3 x y z = (List.range x.length).map fun j => x.getD j 0 ^^^ y.getD j 0 ^^^ z.getD j 0 := by
    intro x
    induction x with
    | nil => intro y z _ _; rfl
    | cons p x ih =>
      intro y z h1 h2
      cases y with
      | nil => simp at h1
      | cons q y =>
        cases z with
        | nil => simp at h2
        | cons r z =>
          simp only [xor3, List.length_cons, List.range_succ_eq_map, List.map_cons, List.map_map]
          rw [ih y z (by simpa using h1) (by simpa using h2)]
          rfl
  rw [key _ _ _ (by simp [e0, e1]) (by simp [e1, e2])]
  unfold xS
  rw [strOfNums_data, List.map_map]
  have hl : a.data.toList.length = n := by simpa using e0
  rw [hl]
  refine List.map_congr_left fun j hj => ?_
  simp only [Function.comp, by3, at8]
  rw [CrcT.xor8, CrcT.xor8]
  simp
theorem linear_law (a b c : ByteArray) (n : Nat) (e0 : a.size = n) (e1 : b.size = n) (e2 : c.size = n) : (sumS (xS a b c n) == Go.bits .xor .u32 (Go.bits .xor .u32 (sumS a) (sumS b)) (sumS c)) = true := by
  rw [beq_iff_eq]
  unfold sumS foldS cellI
  rw [xor32, xor32, xS_data a b c n e0 e1 e2]
  have h := fold_xor3 a.data.toList b.data.toList c.data.toList ones ones ones (by simp [e0, e1]) (by simp [e1, e2])
  rw [show ones ^^^ ones ^^^ ones = ones from by decide] at h
  rw [h]
  congr 2
  ext i hi
  simp
  generalize ones[i] = o; generalize (fold a.data.toList ones)[i] = p; generalize (fold b.data.toList ones)[i] = q; generalize (fold c.data.toList ones)[i] = r
  revert o p q r; decide

set_option maxHeartbeats 1000000 in
theorem linear_in (a0 a1 a2 : ByteArray) (n : Nat) (w : World) (e0 : a0.size = n) (e1 : a1.size = n) (e2 : a2.size = n) (hn : n ≤ 300) (g0 : decide ((n : Int) > 300) = false) :
    Calls Try.prog 10 #[.string a0, .string a1, .string a2] w fun e w' => e = .returned (.bool true) ∧ Below w.heap.size w w' := by
  have hmk := fun W => make_n W n (by omega)
  go_enter Try.func10, Try.ntmps10
  go_wp2_with fail
  refine (alive_true _).mono ?_
  rintro e w1 ⟨rfl, hb1⟩
  go_wp2_with fail
  go_loopw [36] (LRel a0 a1 a2 w w1 n) (fun i _ => n - (intOf i).toNat)
  case atStart => exact ⟨0, Nat.zero_le _, rfl, balloc hb1 _, by simp, hb1.size, fun j hj => by rw [if_neg (by omega)]; exact made_cells w1 n j hj, fun j => by simp⟩
  case round =>
    obtain ⟨k, hk, rfl, hb, hz, hge, hcs, hfs⟩ := hrel
    by_cases hlt : k < n
    · have hc := hcs k hlt
      have hf := hfs k
      have b0 : (k : Int) < a0.size := by omega
      have b1 : (k : Int) < a1.size := by omega
      have b2 : (k : Int) < a2.size := by omega
      have b3 : (k : Int) < n := by omega
      have HC := Lib.hid hcs
      have HF := Lib.hid hfs
      clear hcs hfs hmk
      go_wp2_with fail
      go_region
      go_wp2_with fail
      go_roundw
      case rel => exact LRel.next e0 e1 e2 hlt hb hz hge HC.out HF.out (by rw [at8_get a0 k (by omega), at8_get a1 k (by omega), at8_get a2 k (by omega)]; rfl)
      case measure => simp [intOf]; omega
    · have hcv := conv_x a0 a1 a2 wr w1.heap.size n fun j hj => by rw [hcs j hj, if_pos (by omega)]
      have HL := Lib.hid (linear_law a0 a1 a2 n e0 e1 e2)
      clear hcs hfs hmk
      go_wp2_with fail
      refine (of_any _ _ (xS_size a0 a1 a2 n hn)).mono ?_
      rintro e w2 ⟨rfl, hb2⟩
      go_wp2_with fail
      refine (of_any _ _ (by unfold maxLen; omega)).mono ?_
      rintro e w3 ⟨rfl, hb3⟩
      go_wp2_with fail
      refine (of_any _ _ (by unfold maxLen; omega)).mono ?_
      rintro e w4 ⟨rfl, hb4⟩
      go_wp2_with fail
      refine (of_any _ _ (by unfold maxLen; omega)).mono ?_
      rintro e w5 ⟨rfl, hb5⟩
      go_wp2_with fail
      go_ret
      exact ⟨ret_bool HL.out, bstep (bstep (bstep (bstep hb hb2) hb3) hb4) hb5⟩

set_option maxHeartbeats 400000 in
theorem linear_out (a0 a1 a2 : ByteArray) (w : World) (hg : ((a0.size : Int) != (a1.size : Int)) = true ∨ (((a0.size : Int) != (a1.size : Int)) = false ∧ ((a1.size : Int) != (a2.size : Int)) = true) ∨ (((a0.size : Int) != (a1.size : Int)) = false ∧ ((a1.size : Int) != (a2.size : Int)) = false ∧ decide ((a0.size : Int) > 300) = true)) :
    Calls Try.prog 10 #[.string a0, .string a1, .string a2] w fun e w' => e = .returned (.bool true) ∧ Below w.heap.size w w' := by
  rcases hg with hg | ⟨hg0, hg⟩ | ⟨hg0, hg1, hg⟩
  all_goals
    go_enter Try.func10, Try.ntmps10
    go_wp2_with fail
    refine (alive_true _).mono ?_
    rintro e w1 ⟨rfl, hb1⟩
    go_wp2_with fail
    go_ret
    exact ⟨rfl, hb1⟩
theorem linear_walk (a0 a1 a2 : ByteArray) (w : World) (h0 : a0.size ≤ 140737488351232) (h1 : a1.size ≤ 140737488351232) (h2 : a2.size ≤ 140737488351232) :
    Calls Try.prog 10 #[.string a0, .string a1, .string a2] w fun e w' => e = .returned (.bool true) ∧ Below w.heap.size w w' := by
  by_cases c0 : a0.size = a1.size
  · by_cases c1 : a1.size = a2.size
    · by_cases c2 : a0.size ≤ 300
      · exact linear_in a0 a1 a2 a0.size w rfl c0.symm (by omega) c2 (by simp; omega)
      · exact linear_out a0 a1 a2 w (.inr (.inr ⟨by simp [bne_eq_false_iff_eq]; omega, by simp [bne_eq_false_iff_eq]; omega, by simp; omega⟩))
    · exact linear_out a0 a1 a2 w (.inr (.inl ⟨by simp [bne_eq_false_iff_eq]; omega, by rw [bne_iff_ne]; omega⟩))
  · exact linear_out a0 a1 a2 w (.inl (by rw [bne_iff_ne]; omega))

end Go.Proofs.Ythaoofnnhdkboaa.CrcX
