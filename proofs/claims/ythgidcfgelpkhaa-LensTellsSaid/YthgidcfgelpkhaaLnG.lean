/- The first call: the walk. -/
import Derived.Test.YthgidcfgelpkhaaLnF
import Derived.Test.YthgidcfgelpkhaaLpC
set_option linter.unusedVariables false
set_option linter.unusedSimpArgs false
namespace Go.Proofs.Ythgidcfgelpkhaa
open Go Go.Shelf Go.RowKit Go.Lib Go.Sort Go.Proofs Go.Proofs.Ythgidcfgelpkhaa.Base

def intsOf (xs : List Nat) : List Int := xs.map fun (x : Nat) => (x : Int)
theorem intsOf_length (xs : List Nat) : (intsOf xs).length = xs.length := List.length_map _
theorem ints_of_own {B : Nat} {w : World} {A : Option Addr} {n c : Nat} {xs : List Nat} (h : w.ownsRow B 3 1 (.slice A n c) n (xs.map symV)) : n = xs.length ∧ IntsAt w A (intsOf xs) := by
  have hl : n = xs.length := by have := h.1; simp at this; omega
  refine ⟨hl, fun h0 => ?_⟩
  obtain ⟨V, cp, hv, hf⟩ := own_form h
  injection hv with h1 h2 h3
  subst h1 h3
  obtain ⟨g, hA, hlt, hc⟩ := hf (by rw [intsOf_length] at h0; omega)
  refine ⟨g, 0, hA, hlt, fun j hj => ?_⟩
  rw [intsOf_length] at hj
  rw [Nat.zero_add]
  refine hc j _ ?_
  simp [intsOf, List.getD_eq_getElem?_getD, hj, symV]
/-- A list of numbers, written out. -/
theorem ints_lit (w : World) (xs : List Int) : IntsAt (w.alloc (.cells (xs.map (Value.int .i64)).toArray 3)) (some ⟨w.heap.size, 0, none⟩) xs := by
  intro h0
  refine ⟨w.heap.size, 0, rfl, by simp, fun j hj => ?_⟩
  rw [Nat.zero_add]
  exact cell_of (heap_new w _) (by simp [List.getD_eq_getElem?_getD, hj])
theorem alive_lens : errP 15 [1, 1, 2] = 0 ∧ lensP 15 [1, 1, 2] = [2, 2, 1] := by
  refine ⟨?_, ?_⟩
  · unfold errP singleP
    rw [sortedBy_ins swoP]
    decide
  · rw [lensP_eq_R]
    decide

set_option maxHeartbeats 4000000 in
set_option maxRecDepth 100000 in
theorem alive_call (w : World) : Calls Try.prog 13 #[] w fun e w' => e = .returned (.bool true) ∧ RowKit.Below w.heap.size w w' := by
  have hof : ∀ W : World, Aside (Calls Try.prog 15 #[.int .i64 15, .slice (some ⟨W.heap.size, 0, none⟩) 3 3] (W.alloc (.cells #[.int .i64 1, .int .i64 1, .int .i64 2] 3)) fun e w' => ∃ A c, e = .returned (.tuple #[.slice A 3 c, .int .i64 0]) ∧ IntsAt w' A [2, 2, 1] ∧ RowKit.Below W.heap.size W w') := by
    intro W
    refine (of_call 15 _ 3 3 [1, 1, 2] _ rfl (ints_lit W [1, 1, 2]) (by omega)).mono ?_
    rintro e w' ⟨hb, ⟨h0, _⟩ | ⟨h0, A, c, rfl, ho⟩⟩
    · exact absurd alive_lens.1 h0
    · have := (ints_of_own ho).2
      rw [show lensP (15 : Int).toNat [1, 1, 2] = [2, 2, 1] from alive_lens.2] at this
      exact ⟨A, c, rfl, this, Below.trans (below_alloc W _) (hb.mono (by simp))⟩
  have hsame : ∀ (A : Option Addr) (c : Nat) (W : World), IntsAt W A [2, 2, 1] → Calls Try.prog 18 #[.slice A 3 c, .slice (some ⟨W.heap.size, 0, none⟩) 3 3] (W.alloc (.cells #[.int .i64 2, .int .i64 2, .int .i64 1] 3)) fun e w' => e = .returned (.bool true) ∧ RowKit.Below W.heap.size W w' := by
    intro A c W h
    refine (same_call A _ 3 3 c 3 [2, 2, 1] [2, 2, 1] _ rfl rfl (h.below (below_alloc W _)) (ints_lit W [2, 2, 1]) (by omega) (by omega)).mono ?_
    rintro e w' ⟨rfl, hb⟩
    exact ⟨by simp, Below.trans (below_alloc W _) (hb.mono (by simp))⟩
  have hweight : ∀ (A : Option Addr) (c : Nat) (W : World), IntsAt W A [2, 2, 1] → Calls Try.prog 20 #[.slice A 3 c, .slice (some ⟨W.heap.size, 0, none⟩) 3 3] (W.alloc (.cells #[.int .i64 1, .int .i64 1, .int .i64 2] 3)) fun e w' => e = .returned (.int .i64 6) ∧ RowKit.Below W.heap.size W w' := by
    intro A c W h
    refine (weight_call A _ 3 3 c 3 [2, 2, 1] [1, 1, 2] _ rfl rfl (h.below (below_alloc W _)) (ints_lit W [1, 1, 2]) (by omega) (by omega) (by decide) (by decide)).mono ?_
    rintro e w' ⟨rfl, hb⟩
    exact ⟨rfl, Below.trans (below_alloc W _) (hb.mono (by simp))⟩
  have hkraft : ∀ (A : Option Addr) (c : Nat) (W : World), IntsAt W A [2, 2, 1] → Calls Try.prog 21 #[.slice A 3 c] W fun e w' => e = .returned (.int .i64 32768) ∧ RowKit.Below W.heap.size W w' := by
    intro A c W h
    refine (kraft_call A 3 c [2, 2, 1] _ rfl h (by omega)).mono ?_
    rintro e w' ⟨rfl, hb⟩
    exact ⟨by rw [show kraftP [2, 2, 1] = 32768 by decide], hb⟩
  have H1 : Aside _ := hsame
  have H2 : Aside _ := hweight
  have H3 : Aside _ := hkraft
  clear hsame hweight hkraft
  go_enter Try.func13, Try.ntmps13
  go_wp2_with fail
  refine (hof _).out.mono ?_
  rintro e w1 ⟨A, c, rfl, hat1, b1⟩
  go_wp2_with fail
  refine (H1.out A c w1 hat1).mono ?_
  rintro e w2 ⟨rfl, b2⟩
  have hat2 := hat1.below b2
  go_wp2_with fail
  refine (H2.out A c w2 hat2).mono ?_
  rintro e w3 ⟨rfl, b3⟩
  have hat3 := hat2.below b3
  go_wp2_with fail
  refine (H3.out A c w3 hat3).mono ?_
  rintro e w4 ⟨rfl, b4⟩
  have b5 := bstep (bstep (bstep b1 b2) b3) b4
  clear hat1 hat2 hat3 b1 b2 b3 b4
  go_wp2
  go_ret
  exact ⟨rfl, b5⟩
end Go.Proofs.Ythgidcfgelpkhaa
