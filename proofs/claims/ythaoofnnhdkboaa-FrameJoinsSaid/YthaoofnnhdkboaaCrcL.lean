/- The walks of the laws of chapter 4 (crc): each returns true for every input. -/
import Derived.Test.YthaoofnnhdkboaaCrcW
import Derived.Test.YthaoofnnhdkboaaCrcQ
import Derived.Test.YthaoofnnhdkboaaArgs
import Derived.Test.YthaoofnnhdkboaaReg
set_option linter.unusedSimpArgs false
set_option linter.unusedVariables false
namespace Go.Proofs.Ythaoofnnhdkboaa.CrcL
open Go.RowKit Go.Proofs.Ythaoofnnhdkboaa.CrcP Go.Proofs.Ythaoofnnhdkboaa.CrcW Go.Proofs.Ythaoofnnhdkboaa.CrcQ

theorem bstep {w a b : World} (h : Below w.heap.size w a) (k : Below a.heap.size a b) : Below w.heap.size w b := h.trans (k.mono h.size)
theorem below_drew {B : Nat} {w W : World} (h : Below B w W) : Below B w { heap := W.heap, tape := W.tape, drawn := W.drawn + 1, os := W.os, output := W.output } := ⟨h.os, h.tape, h.output, h.size, h.block⟩
theorem balloc {w a : World} (h : Below w.heap.size w a) (o : Obj) : Below w.heap.size w (a.alloc o) := h.alloc h.size o
theorem pw_cell_below {w w1 : World} (h : Below w.heap.size w w1) {a : Addr} {v : Value} (hc : w.cell? a = some v) : w1.cell? a = some v := (h.cell (World.block_lt_of_cell? w a hc)).trans hc
theorem cell_same {w : World} {a : Addr} {u v : Value} (h : w.cell? a = some u) : (w.setCell a v).cell? a = some v := by first | exact World.cell?_setCell_same _ _ _ h | exact World.cell?_setCell_same _ _ h | (simp [h]; done)
theorem ret_bool {a b : Bool} (h : a = b) : Ending.returned (.bool a) = .returned (.bool b) := by rw [h]
theorem sum_eq (s : ByteArray) (r : Int) (w : World) (hs : s.size ≤ maxLen) (hr : sumS s = r) :
    Calls Try.prog 29 #[.string s] w fun e w' => e = .returned (.int .u32 r) ∧ Below w.heap.size w w' := by
  subst hr; exact of_any s w hs

set_option maxHeartbeats 400000 in
theorem alive_true (w : World) : Calls Try.prog 28 #[] w fun e w' => e = .returned (.bool true) ∧ Below w.heap.size w w' := by
  go_enter Try.func28, Try.ntmps28
  go_wp2_with fail
  refine (sum_eq _ 3421780262 _ (by decide) (by decide +kernel)).mono ?_
  rintro e w1 ⟨rfl, hb1⟩
  go_wp2_with fail
  refine (sum_eq _ 0 _ (by decide) (by decide +kernel)).mono ?_
  rintro e w2 ⟨rfl, hb2⟩
  go_wp2_with fail
  go_ret
  exact ⟨rfl, bstep hb1 hb2⟩

/-- The cell behind bytes so far. -/
def heldB (s : ByteArray) : Int := sumS s
theorem held_empty : heldB ⟨#[]⟩ = 0 := by decide +kernel
theorem addB (b : Nat) (l s : ByteArray) (w : World) (hs : s.size ≤ maxLen) (hc : w.cell? ⟨b, 0, none⟩ = some (.int .u32 (heldB l))) (hf : w.frozen? ⟨b, 0, none⟩ = false) :
    Calls Try.prog 31 #[.pointer (some ⟨b, 0, none⟩), .string s] w fun e w' => e = .returned (.tuple #[]) ∧ w' = w.setCell ⟨b, 0, none⟩ (.int .u32 (heldB (l ++ s))) := by
  refine (add_any b (foldS l ones) s w hs hc hf).mono ?_
  rintro e w' ⟨rfl, rfl⟩
  refine ⟨rfl, ?_⟩
  unfold heldB sumS foldS
  rw [← fold_append]
  simp
theorem nowB (b : Nat) (l : ByteArray) (w : World) (hc : w.cell? ⟨b, 0, none⟩ = some (.int .u32 (heldB l))) :
    Calls Try.prog 32 #[.pointer (some ⟨b, 0, none⟩)] w fun e w' => e = .returned (.int .u32 (sumS l)) ∧ w' = w := now_any b _ w hc
theorem resetB (b : Nat) (l : ByteArray) (w : World) (hc : w.cell? ⟨b, 0, none⟩ = some (.int .u32 (heldB l))) (hf : w.frozen? ⟨b, 0, none⟩ = false) :
    Calls Try.prog 34 #[.pointer (some ⟨b, 0, none⟩)] w fun e w' => e = .returned (.tuple #[]) ∧ w' = w.setCell ⟨b, 0, none⟩ (.int .u32 (heldB ⟨#[]⟩)) := by
  rw [held_empty]; exact reset_any b _ w hc hf

/-- The cell at block b holds the sum of l. -/
structure At (w1 : World) (b : Nat) (l : ByteArray) (w wr : World) : Prop where
  below : Below w.heap.size w wr
  size : b < wr.heap.size
  ge : w.heap.size ≤ b
  cell : wr.cell? ⟨b, 0, none⟩ = some (.int .u32 (heldB l))
  free : wr.frozen? ⟨b, 0, none⟩ = false
theorem At.set {w1 : World} {b : Nat} {l : ByteArray} {w wr : World} (h : At w1 b l w wr) (l' : ByteArray) : At w1 b l' w (wr.setCell ⟨b, 0, none⟩ (.int .u32 (heldB l'))) :=
  ⟨h.below.setCell h.ge _, by have := h.size; simpa [World.setCell] using this, h.ge, cell_same h.cell, by simpa using h.free⟩
theorem At.step {w1 : World} {b : Nat} {l : ByteArray} {w wr wn : World} (h : At w1 b l w wr) (k : Below wr.heap.size wr wn) : At w1 b l w wn :=
  ⟨bstep h.below k, Nat.lt_of_lt_of_le h.size k.size, h.ge, pw_cell_below k h.cell, (k.frozen (p := ⟨b, 0, none⟩) h.size).trans h.free⟩
theorem addA {w1 : World} {b : Nat} {l : ByteArray} {w wr : World} (h : At w1 b l w wr) (s : ByteArray) (hs : s.size ≤ maxLen) :
    Calls Try.prog 31 #[.pointer (some ⟨b, 0, none⟩), .string s] wr fun e w' => e = .returned (.tuple #[]) ∧ At w1 b (l ++ s) w w' :=
  (addB b l s wr hs h.cell h.free).mono fun e w' ⟨he, hw⟩ => ⟨he, hw ▸ h.set (l ++ s)⟩
theorem resetA {w1 : World} {b : Nat} {l : ByteArray} {w wr : World} (h : At w1 b l w wr) :
    Calls Try.prog 34 #[.pointer (some ⟨b, 0, none⟩)] wr fun e w' => e = .returned (.tuple #[]) ∧ At w1 b ⟨#[]⟩ w w' :=
  (resetB b l wr h.cell h.free).mono fun e w' ⟨he, hw⟩ => ⟨he, hw ▸ h.set ⟨#[]⟩⟩
theorem empty_append (s : ByteArray) : (⟨#[]⟩ : ByteArray) ++ s = s := by
  have : (⟨#[]⟩ : ByteArray) = ByteArray.empty := rfl
  rw [this]; simp

set_option maxHeartbeats 400000 in
theorem resets_out (a0 a1 : ByteArray) (w : World) (h0 : a0.size ≤ 140737488351232) (h1 : a1.size ≤ 140737488351232) (hg : decide ((a0.size : Int) + (a1.size : Int) > 1000) = true) :
    Calls Try.prog 12 #[.string a0, .string a1] w fun e w' => e = .returned (.bool true) ∧ Below w.heap.size w w' := by
  go_enter Try.func12, Try.ntmps12
  go_wp2_with fail
  refine (alive_true _).mono ?_
  rintro e w1 ⟨rfl, hb1⟩
  go_wp2_with fail
  go_ret
  exact ⟨rfl, hb1⟩
set_option maxHeartbeats 1000000 in
theorem resets_in (a0 a1 : ByteArray) (w : World) (h0 : a0.size ≤ 1000) (h1 : a1.size ≤ 1000) (hg : decide ((a0.size : Int) + (a1.size : Int) > 1000) = false) :
    Calls Try.prog 12 #[.string a0, .string a1] w fun e w' => e = .returned (.bool true) ∧ Below w.heap.size w w' := by
  go_enter Try.func12, Try.ntmps12
  go_wp2_with fail
  refine (alive_true _).mono ?_
  rintro e w1 ⟨rfl, hb1⟩
  go_wp2_with fail
  have A0 : At w1 w1.heap.size ⟨#[]⟩ w (w1.alloc (Obj.cells #[Value.int IntKind.u32 0] 46)) := ⟨balloc hb1 _, by simp, hb1.size, by rw [held_empty]; simp, by simp⟩
  refine (addA A0 a0 (by unfold maxLen; omega)).mono ?_
  rintro e w2 ⟨rfl, A1⟩
  clear A0
  rw [empty_append] at A1
  go_wp2_with fail
  refine (nowB _ a0 _ A1.cell).mono ?_
  rintro e w3 ⟨rfl, rfl⟩
  go_wp2_with fail
  refine (resetA A1).mono ?_
  rintro e w4 ⟨rfl, A2⟩
  clear A1
  go_wp2_with fail
  refine (addA A2 a1 (by unfold maxLen; omega)).mono ?_
  rintro e w5 ⟨rfl, A3⟩
  clear A2
  rw [empty_append] at A3
  go_wp2_with fail
  refine (nowB _ a1 _ A3.cell).mono ?_
  rintro e w6 ⟨rfl, rfl⟩
  go_wp2_with fail
  refine (addA A3 a0 (by unfold maxLen; omega)).mono ?_
  rintro e w7 ⟨rfl, A4⟩
  clear A3
  go_wp2_with fail
  refine (of_any a0 _ (by unfold maxLen; omega)).mono ?_
  rintro e w8 ⟨rfl, b8⟩
  replace A4 := A4.step b8
  clear b8
  go_wp2_with fail
  refine (of_any a1 _ (by unfold maxLen; omega)).mono ?_
  rintro e w9 ⟨rfl, b9⟩
  replace A4 := A4.step b9
  clear b9
  go_wp2_with fail
  refine (nowB _ (a1 ++ a0) _ A4.cell).mono ?_
  rintro e w10 ⟨rfl, rfl⟩
  go_wp2_with fail
  refine (of_any (a1 ++ a0) _ (by rw [ByteArray.size_append]; unfold maxLen; omega)).mono ?_
  rintro e w11 ⟨rfl, b11⟩
  go_wp2_with fail
  go_ret
  exact ⟨rfl, bstep A4.below b11⟩
theorem resets_walk (a0 a1 : ByteArray) (w : World) (h0 : a0.size ≤ 140737488351232) (h1 : a1.size ≤ 140737488351232) :
    Calls Try.prog 12 #[.string a0, .string a1] w fun e w' => e = .returned (.bool true) ∧ Below w.heap.size w w' := by
  by_cases c : (a0.size : Int) + (a1.size : Int) > 1000
  · exact resets_out a0 a1 w h0 h1 (by simpa using c)
  · exact resets_in a0 a1 w (by omega) (by omega) (by simpa using c)

end Go.Proofs.Ythaoofnnhdkboaa.CrcL
