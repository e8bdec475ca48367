/- LensTwo: the walk. -/
import Derived.Test.YthgidcfgelpkhaaLpH
set_option linter.unusedVariables false
set_option linter.unusedSimpArgs false
namespace Go.Proofs.Ythgidcfgelpkhaa
open Go Go.Shelf Go.RowKit Go.Lib Go.Sort Go.Proofs Go.Proofs.Ythgidcfgelpkhaa.Base

theorem list_of_getD {l : List Nat} {r : List Nat} (hl : l.length = r.length) (h : ∀ s, s < r.length → l.getD s 0 = r.getD s 0) : l = r := by
  refine List.ext_getElem hl fun s h1 h2 => ?_
  have := h s h2
  simpa [List.getD_eq_getElem?_getD, h1, h2] using this
theorem single_length (zs : List Int) : (singleP zs).length = (rawFrom 0 zs).length := by rw [singleP, sortedBy_length]
theorem two_plain {a b : Int} {m : Nat} (ha : 0 < a) (hb : 0 < b) (ha2 : a ≤ 1073741824) (hb2 : b ≤ 1073741824) (h1 : 1 ≤ m) (h2 : m ≤ 15) :
    errP (m : Int) [a, 0, b] = 0 ∧ lensP m [a, 0, b] = [1, 0, 1] ∧ errP (m : Int) [a] = 0 ∧ lensP m [a] = [1] := by
  have l1 : (singleP [a, 0, b]).length = 2 := by rw [single_length]; simp [rawFrom, rawAt, ha, hb]
  have l2 : (singleP [a]).length = 1 := by rw [single_length]; simp [rawFrom, rawAt, ha]
  have hp : 2 ≤ 2 ^ m := Nat.le_trans (by decide) (Nat.pow_le_pow_right (by omega) h1)
  refine ⟨err_ok h1 h2 (by simp; omega) (by simp) (by omega), ?_, err_ok h1 h2 (by simp; omega) (by simp) (by omega), ?_⟩
  · refine list_of_getD (by rw [lensP_length]; rfl) fun s hs => ?_
    match s, hs with
    | 0, _ => exact lens_few h1 (by omega) (by simp) (by simpa using ha)
    | 1, _ => exact lens_none (by simp) (by simp)
    | 2, _ => exact lens_few h1 (by omega) (by simp) (by simpa using hb)
  · refine list_of_getD (by rw [lensP_length]; rfl) fun s hs => ?_
    match s, hs with
    | 0, _ => exact lens_few h1 (by omega) (by simp) (by simpa using ha)

/-- Of, where it answers. -/
theorem of_good {mo : Nat} (V : Option Addr) (n cap : Nat) (zs : List Int) (w : World) (hn : n = zs.length) (hat : IntsAt w V zs) (he : errP (mo : Int) zs = 0) :
    Calls Try.prog 15 #[.int .i64 mo, .slice V n cap] w fun e w' => ∃ A c, e = .returned (.tuple #[.slice A n c, .int .i64 0]) ∧ w'.ownsRow w.heap.size 3 1 (.slice A n c) n ((lensP mo zs).map symV) ∧ RowKit.Below w.heap.size w w' := by
  obtain ⟨m, _, _, _, _, h5, _⟩ := err_zero he
  refine (of_call (mo : Int) V n cap zs w hn hat (by omega)).mono ?_
  rintro e w' ⟨hb, ⟨h0, _⟩ | ⟨_, A, c, rfl, ho⟩⟩
  · exact absurd he h0
  · rw [Int.toNat_natCast] at ho
    exact ⟨A, c, rfl, ho, hb⟩

set_option maxHeartbeats 8000000 in
set_option maxRecDepth 100000 in
theorem two_walk (a b most : Int) (w : World) (_ha : (Lit.int .i64 a).wf = true) (_hb : (Lit.int .i64 b).wf = true) (_hm : (Lit.int .i64 most).wf = true) :
    Calls Try.prog 11 #[.int .i64 a, .int .i64 b, .int .i64 most] w fun e w' => e = .returned (.bool true) ∧ RowKit.Below w.heap.size w w' := by
  clear _ha _hb _hm
  by_cases h1 : a < 1
  · have d1 : decide (a < 1) = true := decide_eq_true h1
    go_enter Try.func11, Try.ntmps11
    go_wp2_with fail
    refine (alive_call _).mono ?_
    rintro e w1 ⟨rfl, b1⟩
    go_wp2
    go_ret
    exact ⟨rfl, b1⟩
  have d1 : decide (a < 1) = false := decide_eq_false h1
  by_cases h2 : b < 1
  · have d2 : decide (b < 1) = true := decide_eq_true h2
    go_enter Try.func11, Try.ntmps11
    go_wp2_with fail
    refine (alive_call _).mono ?_
    rintro e w1 ⟨rfl, b1⟩
    go_wp2
    go_ret
    exact ⟨rfl, b1⟩
  have d2 : decide (b < 1) = false := decide_eq_false h2
  by_cases h3 : a > 1073741824
  · have d3 : decide (a > 1073741824) = true := decide_eq_true h3
    go_enter Try.func11, Try.ntmps11
    go_wp2_with fail
    refine (alive_call _).mono ?_
    rintro e w1 ⟨rfl, b1⟩
    go_wp2
    go_ret
    exact ⟨rfl, b1⟩
  have d3 : decide (a > 1073741824) = false := decide_eq_false h3
  by_cases h4 : b > 1073741824
  · have d4 : decide (b > 1073741824) = true := decide_eq_true h4
    go_enter Try.func11, Try.ntmps11
    go_wp2_with fail
    refine (alive_call _).mono ?_
    rintro e w1 ⟨rfl, b1⟩
    go_wp2
    go_ret
    exact ⟨rfl, b1⟩
  have d4 : decide (b > 1073741824) = false := decide_eq_false h4
  by_cases h5 : most < 1
  · have d5 : decide (most < 1) = true := decide_eq_true h5
    go_enter Try.func11, Try.ntmps11
    go_wp2_with fail
    refine (alive_call _).mono ?_
    rintro e w1 ⟨rfl, b1⟩
    go_wp2
    go_ret
    exact ⟨rfl, b1⟩
  have d5 : decide (most < 1) = false := decide_eq_false h5
  by_cases h6 : most > 15
  · have d6 : decide (most > 15) = true := decide_eq_true h6
    go_enter Try.func11, Try.ntmps11
    go_wp2_with fail
    refine (alive_call _).mono ?_
    rintro e w1 ⟨rfl, b1⟩
    go_wp2
    go_ret
    exact ⟨rfl, b1⟩
  have d6 : decide (most > 15) = false := decide_eq_false h6
  obtain ⟨m, rfl⟩ : ∃ m : Nat, most = (m : Int) := ⟨most.toNat, by omega⟩
  obtain ⟨p1, p2, p3, p4⟩ := two_plain (a := a) (b := b) (m := m) (by omega) (by omega) (by omega) (by omega) (by omega) (by omega)
  have o1 : ∀ W : World, Aside (Calls Try.prog 15 #[.int .i64 m, .slice (some ⟨W.heap.size, 0, none⟩) 3 3] (W.alloc (.cells #[.int .i64 a, .int .i64 0, .int .i64 b] 3)) fun e w' => ∃ g c, e = .returned (.tuple #[.slice (some ⟨g, 0, none⟩) 3 c, .int .i64 0]) ∧ w'.cell? ⟨g, 0, none⟩ = some (.int .i64 1) ∧ w'.cell? ⟨g, 1, none⟩ = some (.int .i64 0) ∧ w'.cell? ⟨g, 2, none⟩ = some (.int .i64 1) ∧ RowKit.Below W.heap.size W w') := by
    intro W
    refine (of_good _ 3 3 [a, 0, b] _ rfl (ints_lit W [a, 0, b]) p1).mono ?_
    rintro e w' ⟨A, c, rfl, ho, hb⟩
    rw [p2] at ho
    obtain ⟨V, cp, hv, hf⟩ := own_form ho
    obtain ⟨g, hV, _, hc⟩ := hf (by omega)
    injection hv with e1 e2 e3
    subst e1 e3 hV
    exact ⟨g, c, rfl, hc 0 _ rfl, hc 1 _ rfl, hc 2 _ rfl, Below.trans (below_alloc W _) (hb.mono (by simp))⟩
  have o2 : ∀ W : World, Aside (Calls Try.prog 15 #[.int .i64 m, .slice (some ⟨W.heap.size, 0, none⟩) 1 1] (W.alloc (.cells #[.int .i64 a] 3)) fun e w' => ∃ g c, e = .returned (.tuple #[.slice (some ⟨g, 0, none⟩) 1 c, .int .i64 0]) ∧ w'.cell? ⟨g, 0, none⟩ = some (.int .i64 1) ∧ RowKit.Below W.heap.size W w') := by
    intro W
    refine (of_good _ 1 1 [a] _ rfl (ints_lit W [a]) p3).mono ?_
    rintro e w' ⟨A, c, rfl, ho, hb⟩
    rw [p4] at ho
    obtain ⟨V, cp, hv, hf⟩ := own_form ho
    obtain ⟨g, hV, _, hc⟩ := hf (by omega)
    injection hv with e1 e2 e3
    subst e1 e3 hV
    exact ⟨g, c, rfl, hc 0 _ rfl, Below.trans (below_alloc W _) (hb.mono (by simp))⟩
  clear p1 p2 p3 p4 h1 h2 h3 h4 h5 h6
  go_enter Try.func11, Try.ntmps11
  go_wp2_with fail
  refine (alive_call _).mono ?_
  rintro e w1 ⟨rfl, b1⟩
  go_wp2_with fail
  refine (o1 _).out.mono ?_
  rintro e w2 ⟨g1, c1, rfl, x0, x1, x2, b2⟩
  go_wp2_with fail
  refine (o2 _).out.mono ?_
  rintro e w3 ⟨g2, c2, rfl, y0, b3⟩
  have b4 := bstep (bstep b1 b2) b3
  have x0 := pw_cell_below b3 x0
  have x1 := pw_cell_below b3 x1
  have x2 := pw_cell_below b3 x2
  clear b1 b2 b3
  go_wp2
  go_ret
  exact ⟨rfl, b4⟩
end Go.Proofs.Ythgidcfgelpkhaa
