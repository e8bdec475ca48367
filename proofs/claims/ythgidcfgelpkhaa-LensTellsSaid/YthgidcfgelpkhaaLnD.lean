/- Why there are no lengths: the walk. -/
import Derived.Test.YthgidcfgelpkhaaLnA
import Derived.Test.YthgidcfgelpkhaaStep
set_option linter.unusedVariables false
set_option linter.unusedSimpArgs false
namespace Go.Proofs.Ythgidcfgelpkhaa
open Go Go.Shelf Go.RowKit Go.Lib Go.Sort Go.Proofs Go.Proofs.Ythgidcfgelpkhaa.Base
def myV (V : Option Addr) (n cap mo m P2 : Nat) (i : Nat) (pv v : Value) (W : World) : Prop := match i with
  | 0 => v = .slice V n cap
  | 1 => v = .int .i64 (n : Int)
  | 2 => v = .bool false
  | 3 => v = .bool false
  | 4 => v = .slice V n cap
  | 5 => ∃ A c, v = .slice A m c
  | 6 => v = .int .i64 (m : Int)
  | 7 => v = .int .i64 (mo : Int)
  | 8 => v = .int .i64 (P2 : Int)
  | 9 => v = .bool (decide (P2 < m))
  | 10 => v = .bool (decide (P2 < m))
  | 11 => v = .bool (decide (P2 < m))
  | _ => True

theorem myV_stay {V : Option Addr} {n cap mo m P2 : Nat} {j : Nat} {q v : Value} {W W' : World} (h : myV V n cap mo m P2 j q v W) : myV V n cap mo m P2 j q v W' := by
  unfold myV at h ⊢
  split at h <;> exact h
theorem wrong_call (c : Int) (W : World) : Calls Try.prog 52 #[.int .i64 c] W fun e w' => e = .returned (.bool (decide (c < 0) || decide (c > 1073741824))) ∧ w' = W := by
  by_cases h1 : c < 0
  · have e1 : (decide (c < 0) || decide (c > 1073741824)) = true := by rw [decide_eq_true h1]; rfl
    rw [e1]
    have hd : decide (c < 0) = true := decide_eq_true h1
    go_enter Try.func52, Try.ntmps52
    go_wp2
    go_ret
    exact ⟨rfl, rfl⟩
  · have e1 : (decide (c < 0) || decide (c > 1073741824)) = decide (c > 1073741824) := by rw [decide_eq_false h1]; rfl
    rw [e1]
    have hd : decide (c < 0) = false := decide_eq_false h1
    go_enter Try.func52, Try.ntmps52
    go_wp2
    go_ret
    simp
theorem contains_call (V : Option Addr) (n cap : Nat) (zs : List Int) (w : World) (hn : n = zs.length) (hat : IntsAt w V zs) (hle : n ≤ 140737488351232) :
    Calls Try.prog 51 #[.slice V n cap, .func (.func 52) #[] #[]] w fun e w' => e = .returned (.bool (badP zs)) ∧ RowKit.Below w.heap.size w w' := by
  rcases Nat.eq_zero_or_pos n with h0 | h0
  · have hz : zs = [] := List.eq_nil_of_length_eq_zero (by omega)
    subst hz h0
    refine (AnyE.slices_ContainsFunc_empty Try.laysContains V cap _ w).mono ?_
    rintro e w' ⟨rfl, rfl⟩
    exact ⟨rfl, Below.refl _ _⟩
  · obtain ⟨b, off, rfl, hlt, hc⟩ := hat (by omega)
    have := AnyE.slices_ContainsFunc Try.laysContains (Value.int .i64) (fun c : Int => decide (c < 0) || decide (c > 1073741824)) 52 #[] (enters_of Try.func52 (by kernel_rfl) rfl) b off n cap zs w
      (fun W x _ => (wrong_call x W).mono (by rintro e w' ⟨rfl, rfl⟩; exact ⟨rfl, 0, rfl⟩)) (by omega) (by omega) (fun j hj => by rw [hc j hj]; simp [List.getD_eq_getElem?_getD, hj])
    refine this.mono ?_
    rintro e w' ⟨rfl, q, rfl⟩
    refine ⟨by rw [List.take_of_length_le (by omega)]; rfl, below_drewN' (Below.refl _ w) q⟩
theorem badP_le {zs : List Int} (h : badP zs = false) : ∀ z ∈ zs, z ≤ 1073741824 := by
  intro z hz
  have := List.any_eq_false.1 h z hz
  simp at this
  omega

set_option maxHeartbeats 4000000 in
set_option maxRecDepth 1000000 in
theorem may_call (mo' : Int) (V : Option Addr) (n cap : Nat) (zs : List Int) (w : World) (hn : n = zs.length) (hat : IntsAt w V zs) (hle : n ≤ 140737488351232) :
    Calls Try.prog 25 #[.int .i64 mo', .slice V n cap] w fun e w' => e = .returned (.int .i64 (errP mo' zs : Int)) ∧ RowKit.Below w.heap.size w w' := by
  have hnh : Hid (n = zs.length) := hn
  have hcon := contains_call V n cap zs w hn hat hle
  have herr1 : ((decide (mo' < 1) || decide (mo' > 15)) || badP zs) = true → errP mo' zs = 1 := fun h => by unfold errP; rw [if_pos h]
  clear hn
  obtain ⟨bd, hbd⟩ : ∃ bd, badP zs = bd := ⟨_, rfl⟩
  rw [hbd] at hcon herr1
  have HB : Hid (badP zs = bd) := hbd
  by_cases h1 : mo' < 1
  · have hf : Hid (errP mo' zs = 1) := herr1 (by rw [decide_eq_true h1]; rfl)
    have hd : decide (mo' < 1) = true := decide_eq_true h1
    clear herr1 hbd
    go_enter Try.func25, Try.ntmps25
    go_wp2_with fail
    refine hcon.mono ?_
    rintro e w1 ⟨rfl, bel⟩
    clear hcon hat
    go_wp2
    go_ret
    exact ⟨by rw [hf.out]; rfl, bel⟩
  by_cases h2 : mo' > 15
  · have hf : Hid (errP mo' zs = 1) := herr1 (by rw [decide_eq_true h2]; simp)
    have hd : decide (mo' < 1) = false := decide_eq_false h1
    have hd2 : decide (mo' > 15) = true := decide_eq_true h2
    clear herr1 hbd
    go_enter Try.func25, Try.ntmps25
    go_wp2_with fail
    refine hcon.mono ?_
    rintro e w1 ⟨rfl, bel⟩
    clear hcon hat
    go_wp2
    go_ret
    exact ⟨by rw [hf.out]; rfl, bel⟩
  cases bd with
  | true =>
    have hf : Hid (errP mo' zs = 1) := herr1 (by simp)
    have hd : decide (mo' < 1) = false := decide_eq_false h1
    have hd2 : decide (mo' > 15) = false := decide_eq_false h2
    clear herr1 hbd
    go_enter Try.func25, Try.ntmps25
    go_wp2_with fail
    refine hcon.mono ?_
    rintro e w1 ⟨rfl, bel⟩
    clear hcon hat
    go_wp2
    go_ret
    exact ⟨by rw [hf.out]; rfl, bel⟩
  | false =>
    obtain ⟨mo, rfl⟩ : ∃ mo : Nat, mo' = (mo : Int) := ⟨mo'.toNat, by omega⟩
    have hrh : Hid (∀ z ∈ zs, z ≤ 1073741824) := badP_le hbd
    have hmo : 1 ≤ mo ∧ mo ≤ 15 := by omega
    have hd : decide ((mo : Int) < 1) = false := decide_eq_false h1
    have hd2 : decide ((mo : Int) > 15) = false := decide_eq_false h2
    have hshape : errP (mo : Int) zs = if decide (zs.length > 356) || decide ((singleP zs).length > 2 ^ mo) then 10 else 0 := by
      unfold errP
      rw [if_neg]
      · rfl
      · rw [hd, hd2, hbd]; decide
    clear herr1 hbd h1 h2
    by_cases hbig : n > 356
    · have hf : Hid (errP (mo : Int) zs = 10) := by
        show _ = _
        rw [hshape, if_pos]
        rw [decide_eq_true (show zs.length > 356 by rw [← hnh.out]; exact hbig)]; rfl
      have hdn : decide ((n : Int) > 356) = true := by simp; omega
      clear hshape
      go_enter Try.func25, Try.ntmps25
      go_wp2_with fail
      refine hcon.mono ?_
      rintro e w1 ⟨rfl, bel⟩
      clear hcon hat
      have mixed : Try.prog.follows .mixedOrders = true := by kernel_rfl
      go_wp2_with fail
      go_big_region_o
      all_goals go_wp2
      all_goals go_ret
      all_goals exact ⟨by rw [hf.out]; rfl, ⟨bel.os, bel.tape, bel.output, bel.size, bel.block⟩⟩
    · have hdn : decide ((n : Int) > 356) = false := by simp; omega
      obtain ⟨m, hm⟩ : ∃ m, (singleP zs).length = m := ⟨_, rfl⟩
      obtain ⟨P2, hP2⟩ : ∃ P2 : Nat, 2 ^ mo = P2 := ⟨_, rfl⟩
      have hw : IntKind.i64.wrap ((2 : Int) ^ mo) = (P2 : Int) := by
        have h15 : (2 : Nat) ^ mo ≤ 2 ^ 15 := Nat.pow_le_pow_right (by omega) hmo.2
        have e : ((2 : Int) ^ mo) = ((2 ^ mo : Nat) : Int) := by simp
        rw [e, hP2, IntKind.wrap_i64]
        rw [hP2] at h15
        omega
      have herr10 : (n > 356 ∨ P2 < m) → errP (mo : Int) zs = 10 := fun h => by
        rw [hshape, if_pos]
        rw [Bool.or_eq_true, decide_eq_true_eq, decide_eq_true_eq, hm, hP2, ← hnh.out]
        exact h
      have herr0 : ¬ P2 < m → errP (mo : Int) zs = 0 := fun h => by
        rw [hshape, if_neg]
        rw [Bool.or_eq_true, decide_eq_true_eq, decide_eq_true_eq, hm, hP2, ← hnh.out]
        omega
      have hmm : Hid ((singleP zs).length = m) := hm
      have hm1 : m ≤ n := by rw [← hm, hnh.out]; exact singleP_le zs
      clear hshape hm hP2
      go_enter Try.func25, Try.ntmps25
      go_wp2_with fail
      refine hcon.mono ?_
      rintro e w1 ⟨rfl, bel⟩
      have hat := hat.below bel
      clear hcon
      go_wp2_with fail
      refine RegU.wp_region_lists (RowKit.Below w1.heap.size w1) (fun _ _ => True) (fun _ W W' => RowKit.Below W.heap.size W W') (fun i => i) (myV V n cap mo m P2)
        [some 19, some 20, some 21, some 22, some 23, some 24, some 25, some 26, some 27, some 28, some 29, some 18]
        [[], [0], [1], [2], [3], [4, 3, 3], [5, 3], [3], [7, 3], [6, 8, 3], [3, 9], [10, 5]]
        (by kernel_rfl) (by kernel_rfl) (by kernel_rfl) (fun i => .inl rfl) ?_ ?_ ?_ ?_ ?_ ?_ ?_
      · exact ⟨rfl, rfl, rfl, Nat.le_refl _, fun _ _ => rfl⟩
      · intro i; trivial
      · intro i W W' h k2; exact h.trans (k2.mono h.size)
      · intros; trivial
      · intro j i q v W W' h1 h2 h3 h4; exact myV_stay h3
      · refine ⟨?_, ?_, ?_, ?_, ?_, ?_, ?_, ?_, ?_, ?_, ?_, ?_, trivial⟩
        · intro vals W K hG hU hV hK
          simp only [if_true] at hK
          simp only [Reg.putS, List.foldl, List.headD, List.tail, List.getD_cons_zero, List.getD_cons_succ, Act.put, List.setIfInBounds_toArray, List.set_cons_zero, List.set_cons_succ] at hK ⊢
          go_simp
          first
            | exact hK _ _ (Below.refl _ _) rfl
            | (rw [if_pos (by omega)]; exact hK _ _ (Below.refl _ _) rfl)
            | (rw [dif_pos (by omega)]; exact hK _ _ (Below.refl _ _) rfl)
            | (rw [if_neg (by omega)]; exact hK _ _ (Below.refl _ _) rfl)
        · intro vals W K hG hU hV hK
          simp only [if_true] at hK
          have d0 := hV 0 (by simp)
          simp only [myV] at d0
          simp only [Reg.putS, List.foldl, List.headD, List.tail, List.getD_cons_zero, List.getD_cons_succ, Act.put, List.setIfInBounds_toArray, List.set_cons_zero, List.set_cons_succ, d0] at hK ⊢
          go_simp
          first
            | exact hK _ _ (Below.refl _ _) rfl
            | (rw [if_pos (by omega)]; exact hK _ _ (Below.refl _ _) rfl)
            | (rw [dif_pos (by omega)]; exact hK _ _ (Below.refl _ _) rfl)
            | (rw [if_neg (by omega)]; exact hK _ _ (Below.refl _ _) rfl)
        · intro vals W K hG hU hV hK
          simp only [if_true] at hK
          have d1 := hV 1 (by simp)
          simp only [myV] at d1
          simp only [Reg.putS, List.foldl, List.headD, List.tail, List.getD_cons_zero, List.getD_cons_succ, Act.put, List.setIfInBounds_toArray, List.set_cons_zero, List.set_cons_succ, d1] at hK ⊢
          go_simp
          first
            | exact hK _ _ (Below.refl _ _) rfl
            | (rw [if_pos (by omega)]; exact hK _ _ (Below.refl _ _) rfl)
            | (rw [dif_pos (by omega)]; exact hK _ _ (Below.refl _ _) rfl)
            | (rw [if_neg (by omega)]; exact hK _ _ (Below.refl _ _) rfl)
        · intro vals W K hG hU hV hK
          simp only [if_true] at hK
          have d2 := hV 2 (by simp)
          simp only [myV] at d2
          simp only [Reg.putS, List.foldl, List.headD, List.tail, List.getD_cons_zero, List.getD_cons_succ, Act.put, List.setIfInBounds_toArray, List.set_cons_zero, List.set_cons_succ, d2] at hK ⊢
          go_simp
          first
            | exact hK _ _ (Below.refl _ _) rfl
            | (rw [if_pos (by omega)]; exact hK _ _ (Below.refl _ _) rfl)
            | (rw [dif_pos (by omega)]; exact hK _ _ (Below.refl _ _) rfl)
            | (rw [if_neg (by omega)]; exact hK _ _ (Below.refl _ _) rfl)
        · intro vals W K hG hU hV hK
          simp only [if_true] at hK
          have d3 := hV 3 (by simp)
          simp only [myV] at d3
          simp only [Reg.putS, List.foldl, List.headD, List.tail, List.getD_cons_zero, List.getD_cons_succ, Act.put, List.setIfInBounds_toArray, List.set_cons_zero, List.set_cons_succ, d3] at hK ⊢
          rw [if_pos (by rfl)]
          go_simp
          first
            | exact hK _ _ (Below.refl _ _) rfl
            | (rw [if_pos (by omega)]; exact hK _ _ (Below.refl _ _) rfl)
            | (rw [dif_pos (by omega)]; exact hK _ _ (Below.refl _ _) rfl)
            | (rw [if_neg (by omega)]; exact hK _ _ (Below.refl _ _) rfl)
        · intro vals W K hG hU hV hK
          simp only [if_true] at hK
          have d3 := hV 3 (by simp)
          simp only [myV] at d3
          have d4 := hV 4 (by simp)
          simp only [myV] at d4
          simp only [Reg.putS, List.foldl, List.headD, List.tail, List.getD_cons_zero, List.getD_cons_succ, Act.put, List.setIfInBounds_toArray, List.set_cons_zero, List.set_cons_succ, d3, d4] at hK ⊢
          rw [if_pos (by rfl)]
          go_simp
          refine (single_call V n cap zs W hnh.out (hat.below hG) (by omega) hrh.out).mono ?_
          rintro e w2 ⟨v, l, rfl, hrow, hpl, _, hb⟩
          obtain ⟨A, c, rfl, _⟩ := own_form hrow.1
          have hl : l.length = m := by rw [← hmm.out, ← hpl, List.length_map]
          exact hK _ _ hb ⟨A, c, by rw [hl]⟩
        · intro vals W K hG hU hV hK
          simp only [if_true] at hK
          have d3 := hV 3 (by simp)
          simp only [myV] at d3
          have d5 := hV 5 (by simp)
          simp only [myV] at d5
          obtain ⟨A5, c5, d5⟩ := d5
          simp only [Reg.putS, List.foldl, List.headD, List.tail, List.getD_cons_zero, List.getD_cons_succ, Act.put, List.setIfInBounds_toArray, List.set_cons_zero, List.set_cons_succ, d3, d5] at hK ⊢
          rw [if_pos (by rfl)]
          go_simp
          first
            | exact hK _ _ (Below.refl _ _) rfl
            | (rw [if_pos (by omega)]; exact hK _ _ (Below.refl _ _) rfl)
            | (rw [dif_pos (by omega)]; exact hK _ _ (Below.refl _ _) rfl)
            | (rw [if_neg (by omega)]; exact hK _ _ (Below.refl _ _) rfl)
        · intro vals W K hG hU hV hK
          simp only [if_true] at hK
          have d3 := hV 3 (by simp)
          simp only [myV] at d3
          simp only [Reg.putS, List.foldl, List.headD, List.tail, List.getD_cons_zero, List.getD_cons_succ, Act.put, List.setIfInBounds_toArray, List.set_cons_zero, List.set_cons_succ, d3] at hK ⊢
          rw [if_pos (by rfl)]
          go_simp
          first
            | exact hK _ _ (Below.refl _ _) rfl
            | (rw [if_pos (by omega)]; exact hK _ _ (Below.refl _ _) rfl)
            | (rw [dif_pos (by omega)]; exact hK _ _ (Below.refl _ _) rfl)
            | (rw [if_neg (by omega)]; exact hK _ _ (Below.refl _ _) rfl)
        · intro vals W K hG hU hV hK
          simp only [if_true] at hK
          have d3 := hV 3 (by simp)
          simp only [myV] at d3
          have d7 := hV 7 (by simp)
          simp only [myV] at d7
          simp only [Reg.putS, List.foldl, List.headD, List.tail, List.getD_cons_zero, List.getD_cons_succ, Act.put, List.setIfInBounds_toArray, List.set_cons_zero, List.set_cons_succ, d3, d7] at hK ⊢
          rw [if_pos (by rfl)]
          go_simp
          first
            | exact hK _ _ (Below.refl _ _) rfl
            | (rw [if_pos (by omega)]; exact hK _ _ (Below.refl _ _) rfl)
            | (rw [dif_pos (by omega)]; exact hK _ _ (Below.refl _ _) rfl)
            | (rw [if_neg (by omega)]; exact hK _ _ (Below.refl _ _) rfl)
        · intro vals W K hG hU hV hK
          simp only [if_true] at hK
          have d3 := hV 3 (by simp)
          simp only [myV] at d3
          have d6 := hV 6 (by simp)
          simp only [myV] at d6
          have d8 := hV 8 (by simp)
          simp only [myV] at d8
          simp only [Reg.putS, List.foldl, List.headD, List.tail, List.getD_cons_zero, List.getD_cons_succ, Act.put, List.setIfInBounds_toArray, List.set_cons_zero, List.set_cons_succ, d3, d6, d8] at hK ⊢
          rw [if_pos (by rfl)]
          go_simp
          first
            | exact hK _ _ (Below.refl _ _) rfl
            | (rw [if_pos (by omega)]; exact hK _ _ (Below.refl _ _) rfl)
            | (rw [dif_pos (by omega)]; exact hK _ _ (Below.refl _ _) rfl)
            | (rw [if_neg (by omega)]; exact hK _ _ (Below.refl _ _) rfl)
        · intro vals W K hG hU hV hK
          simp only [if_true] at hK
          have d3 := hV 3 (by simp)
          simp only [myV] at d3
          have d9 := hV 9 (by simp)
          simp only [myV] at d9
          simp only [Reg.putS, List.foldl, List.headD, List.tail, List.getD_cons_zero, List.getD_cons_succ, Act.put, List.setIfInBounds_toArray, List.set_cons_zero, List.set_cons_succ, d3, d9] at hK ⊢
          go_simp
          first
            | exact hK _ _ (Below.refl _ _) rfl
            | (rw [if_pos (by omega)]; exact hK _ _ (Below.refl _ _) rfl)
            | (rw [dif_pos (by omega)]; exact hK _ _ (Below.refl _ _) rfl)
            | (rw [if_neg (by omega)]; exact hK _ _ (Below.refl _ _) rfl)
        · intro vals W K hG hU hV hK
          simp only [if_true] at hK
          have d10 := hV 10 (by simp)
          simp only [myV] at d10
          simp only [Reg.putS, List.foldl, List.headD, List.tail, List.getD_cons_zero, List.getD_cons_succ, Act.put, List.setIfInBounds_toArray, List.set_cons_zero, List.set_cons_succ, d10] at hK ⊢
          go_simp
          first
            | exact hK _ _ (Below.refl _ _) rfl
            | (rw [if_pos (by omega)]; exact hK _ _ (Below.refl _ _) rfl)
            | (rw [dif_pos (by omega)]; exact hK _ _ (Below.refl _ _) rfl)
            | (rw [if_neg (by omega)]; exact hK _ _ (Below.refl _ _) rfl)
      · intro vals W hG hV
        rw [show List.range (List.length [some 19, some 20, some 21, some 22, some 23, some 24, some 25, some 26, some 27, some 28, some 29, some 18]) = [0, 1, 2, 3, 4, 5, 6, 7, 8, 9, 10, 11] from rfl]
        have d0 := hV 0 (by decide)
        simp only [myV] at d0
        have d1 := hV 1 (by decide)
        simp only [myV] at d1
        have d2 := hV 2 (by decide)
        simp only [myV] at d2
        have d3 := hV 3 (by decide)
        simp only [myV] at d3
        have d4 := hV 4 (by decide)
        simp only [myV] at d4
        have d5 := hV 5 (by decide)
        simp only [myV] at d5
        obtain ⟨A5, c5, d5⟩ := d5
        have d6 := hV 6 (by decide)
        simp only [myV] at d6
        have d7 := hV 7 (by decide)
        simp only [myV] at d7
        have d8 := hV 8 (by decide)
        simp only [myV] at d8
        have d9 := hV 9 (by decide)
        simp only [myV] at d9
        have d10 := hV 10 (by decide)
        simp only [myV] at d10
        have d11 := hV 11 (by decide)
        simp only [myV] at d11
        clear hV
        simp only [Reg.putS, List.foldl, List.getD_cons_zero, List.getD_cons_succ, Act.put, List.setIfInBounds_toArray, List.set_cons_zero, List.set_cons_succ, d0, d1, d2, d3, d4, d5, d6, d7, d8, d9, d10, d11]
        clear d0 d1 d2 d3 d4 d5 d6 d7 d8 d9 d10 d11
        clear hat hrh hmm hnh
        have hb : RowKit.Below w.heap.size w W := (Below.trans (bel.mono (Nat.le_refl _)) (hG.mono bel.size))
        clear hG bel
        by_cases hgt : P2 < m
        · have hd : decide (P2 < m) = true := decide_eq_true hgt
          have hf : Hid (errP (mo : Int) zs = 10) := herr10 (.inr hgt)
          rw [hd]
          clear herr10 herr0
          go_wp2
          go_ret
          exact ⟨by rw [hf.out]; rfl, hb⟩
        · have hd : decide (P2 < m) = false := decide_eq_false hgt
          have hf : Hid (errP (mo : Int) zs = 0) := herr0 (by omega)
          rw [hd]
          clear herr10 herr0
          go_wp2
          go_ret
          exact ⟨by rw [hf.out]; rfl, hb⟩
end Go.Proofs.Ythgidcfgelpkhaa
