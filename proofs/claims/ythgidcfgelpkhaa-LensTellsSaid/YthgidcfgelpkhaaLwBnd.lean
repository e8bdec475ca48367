/- LensBound: the walk. -/
import Derived.Test.YthgidcfgelpkhaaLwOrd
import Derived.Test.YthgidcfgelpkhaaLpI
set_option linter.unusedVariables false
set_option linter.unusedSimpArgs false
namespace Go.Proofs.Ythgidcfgelpkhaa
open Go Go.Shelf Go.RowKit Go.Lib Go.Sort Go.Proofs Go.Proofs.Ythgidcfgelpkhaa.Base

theorem err_cases {mo : Int} {zs : List Int} (h1 : ¬ mo < 1) (h2 : ¬ mo > 15) (h3 : zs.length ≤ 356) : (badP zs = true ∧ errP mo zs = 1) ∨ (badP zs = false ∧ (singleP zs).length > 2 ^ mo.toNat ∧ errP mo zs = 10) ∨ (badP zs = false ∧ (singleP zs).length ≤ 2 ^ mo.toNat ∧ errP mo zs = 0) := by
  cases hb : badP zs with
  | true => exact .inl ⟨rfl, err_bad hb⟩
  | false =>
    by_cases h : (singleP zs).length > 2 ^ mo.toNat
    · exact .inr (.inl ⟨rfl, h, err_size h1 h2 hb (.inr h)⟩)
    · exact .inr (.inr ⟨rfl, by omega, err_none h1 h2 hb (by omega) h⟩)
theorem lens_small {most : Nat} {zs : List Int} (he : errP (most : Int) zs = 0) : ∀ x ∈ intsOf (lensP most zs), 0 ≤ x ∧ x ≤ 15 := by
  obtain ⟨m, h, h1, h15, _, _, hf⟩ := err_zero he
  obtain rfl : most = m := by omega
  intro x hx
  unfold intsOf at hx
  obtain ⟨y, hy, rfl⟩ := List.mem_map.1 hx
  have := lens_le h1 (fits_of h1 hf) y hy
  omega
/-- Weight of what Of answered. -/
theorem weight_of {most : Nat} {zs cs : List Int} {A V : Option Addr} {n c1 c2 : Nat} {w : World} (he : errP (most : Int) zs = 0) (hn : n = zs.length) (hl : cs.length = zs.length) (ha : IntsAt w A (intsOf (lensP most zs))) (hv : IntsAt w V cs) (hc : ∀ z ∈ cs, 0 ≤ z ∧ z ≤ 4294967296) :
    Calls Try.prog 20 #[.slice A n c1, .slice V n c2] w fun e w' => e = .returned (.int .i64 (weightP (intsOf (lensP most zs)) cs)) ∧ RowKit.Below w.heap.size w w' := by
  obtain ⟨m, _, _, _, _, h5, _⟩ := err_zero he
  exact weight_call A V n n c1 c2 _ cs w (by rw [intsOf_length, lensP_length, hn]) (by rw [hl, hn]) ha hv (by omega) (by omega) (fun x hx => by have := lens_small he x hx; omega) hc

set_option maxHeartbeats 1000000 in
set_option maxRecDepth 100000 in
theorem bound_bad (V : Option Addr) (n cap q m Ea Eb : Nat) (w : World) (hn : ¬ n > 100) (hq : 2 ≤ q ∧ q ≤ 15) (hqm : m + 1 ≤ q ∧ q ≤ m + 1) (hat : ∀ W, RowKit.Below w.heap.size w W →
      Calls Try.prog 15 #[.int .i64 (m : Int), .slice V n cap] W fun e w' => e = .returned (.tuple #[.slice none 0 0, .int .i64 (Ea : Int)]) ∧ RowKit.Below W.heap.size W w')
    (hbt : ∀ W, RowKit.Below w.heap.size w W → Calls Try.prog 15 #[.int .i64 (q : Int), .slice V n cap] W fun e w' => ∃ A n' c, e = .returned (.tuple #[.slice A n' c, .int .i64 (Eb : Int)]) ∧ RowKit.Below W.heap.size W w') (hE : (Ea = 1 ∧ Eb = 1) ∨ (Ea = 10 ∧ (Eb = 0 ∨ Eb = 10))) :
    Calls Try.prog 6 #[.int .i64 q, .slice V n cap] w fun e w' => e = .returned (.bool true) ∧ RowKit.Below w.heap.size w w' := by
  have d1 : decide ((n : Int) > 100) = false := decide_eq_false (by omega)
  have d2 : decide ((q : Int) < 2) = false := decide_eq_false (by omega)
  have d3 : decide ((q : Int) > 15) = false := decide_eq_false (by omega)
  have zq : IntKind.i64.wrap ((q : Int) - 1) = (m : Int) := by rw [IntKind.wrap_i64]; omega
  have HA : Aside _ := hat
  have HB : Aside _ := hbt
  clear hat hbt
  rcases hE with ⟨rfl, rfl⟩ | ⟨rfl, rfl | rfl⟩
  all_goals
    go_enter Try.func6, Try.ntmps6
    go_wp2_with fail
    refine (alive_call _).mono ?_
    rintro e w1 ⟨rfl, b1⟩
    have ha := HA.out w1 b1
    clear HA
    go_wp2_with fail
    refine ha.mono ?_
    rintro e w2 ⟨rfl, b2⟩
    have b3 := bstep b1 b2
    have hb := HB.out w2 b3
    clear ha HB b1 b2
    go_wp2_with fail
    refine hb.mono ?_
    rintro e w3 ⟨A, n2, c, rfl, b4⟩
    have b5 := bstep b3 b4
    clear hb b3 b4
    go_wp2
    go_ret
    exact ⟨rfl, b5⟩

set_option maxHeartbeats 2000000 in
set_option maxRecDepth 100000 in
theorem bound_good (V : Option Addr) (n cap q m : Nat) (zs : List Int) (w : World) (hn : ¬ n > 100) (hnz : n = zs.length) (hq : 2 ≤ q ∧ q ≤ 15) (hqm : m + 1 ≤ q ∧ q ≤ m + 1) (hat : IntsAt w V zs) (ea : errP (m : Int) zs = 0) (eb : errP (q : Int) zs = 0) :
    Calls Try.prog 6 #[.int .i64 q, .slice V n cap] w fun e w' => e = .returned (.bool true) ∧ RowKit.Below w.heap.size w w' := by
  have d1 : decide ((n : Int) > 100) = false := decide_eq_false (by omega)
  have d2 : decide ((q : Int) < 2) = false := decide_eq_false (by omega)
  have d3 : decide ((q : Int) > 15) = false := decide_eq_false (by omega)
  have zq : IntKind.i64.wrap ((q : Int) - 1) = (m : Int) := by rw [IntKind.wrap_i64]; omega
  obtain ⟨m', hm', hm1, _, hbad, _, hfit⟩ := err_zero ea
  obtain rfl : m = m' := by omega
  have hzb : ∀ z ∈ zs, 0 ≤ z ∧ z ≤ 4294967296 := fun z hz => by have := bad_each hbad z hz; omega
  have HA : Aside (∀ W, IntsAt W V zs → _) := fun W h => of_good (mo := m) V n cap zs W hnz h ea
  have HB : Aside (∀ W, IntsAt W V zs → _) := fun W h => of_good (mo := q) V n cap zs W hnz h eb
  have WA : Aside (∀ (W : World) (A : Option Addr) (c : Nat), IntsAt W A (intsOf (lensP m zs)) → IntsAt W V zs → _) := fun W A c h1 h2 => weight_of (n := n) (c1 := c) (c2 := cap) ea hnz rfl h1 h2 hzb
  have WB : Aside (∀ (W : World) (A : Option Addr) (c : Nat), IntsAt W A (intsOf (lensP q zs)) → IntsAt W V zs → _) := fun W A c h1 h2 => weight_of (n := n) (c1 := c) (c2 := cap) eb hnz rfl h1 h2 hzb
  obtain ⟨hw1, hw2⟩ := weight_bound hm1 hfit
  rw [show m + 1 = q by omega] at hw1 hw2
  obtain ⟨Wa, hWa⟩ : ∃ x, weightP (intsOf (lensP m zs)) zs = x := ⟨_, rfl⟩
  obtain ⟨Wb, hWb⟩ : ∃ x, weightP (intsOf (lensP q zs)) zs = x := ⟨_, rfl⟩
  rw [hWa] at WA hw1 hw2
  rw [hWb] at WB hw1 hw2
  have dW : decide (Wa < Wb) = false := decide_eq_false (by omega)
  have HW2 : Hid _ := hw2
  have hlen : (lensP q zs).length = n := by rw [lensP_length, hnz]
  have HLEN : Hid _ := hlen
  clear hWa hWb hw1 hw2 hfit hbad hzb hm' hlen hnz ea eb
  go_enter Try.func6, Try.ntmps6
  go_wp2_with fail
  refine (alive_call _).mono ?_
  rintro e w1 ⟨rfl, b1⟩
  have hat1 := hat.below b1
  have ha := HA.out w1 hat1
  clear HA hat
  go_wp2_with fail
  refine ha.mono ?_
  rintro e w2 ⟨A, cA, rfl, hoA, b2⟩
  obtain ⟨-, hA⟩ := ints_of_own hoA
  have hat2 := hat1.below b2
  have b3 := bstep b1 b2
  have hb := HB.out w2 hat2
  clear ha HB hoA hat1 b1 b2
  go_wp2_with fail
  refine hb.mono ?_
  rintro e w3 ⟨B, cB, rfl, hoB, b4⟩
  obtain ⟨-, hB⟩ := ints_of_own hoB
  have hA := hA.below b4
  have hat3 := hat2.below b4
  have b5 := bstep b3 b4
  have hwa := WA.out w3 A cA hA hat3
  clear hb hoB hat2 b3 b4
  go_wp2_with fail
  refine hwa.mono ?_
  rintro e w4 ⟨rfl, b6⟩
  have hA4 := hA.below b6
  have hB4 := hB.below b6
  have hat4 := hat3.below b6
  have b7 := bstep b5 b6
  have hwb := WB.out w4 B cB hB4 hat4
  clear hwa hA hB hat3 b5 b6
  go_wp2_with fail
  refine hwb.mono ?_
  rintro e w5 ⟨rfl, b8⟩
  have hA5 := hA4.below b8
  have hB5 := hB4.below b8
  have hat5 := hat4.below b8
  have b9 := bstep b7 b8
  clear hwb hA4 hB4 hat4 b7 b8
  go_wp2
  go_loopg [9, 67] n (fun kx s9 s67 wr => ∃ (k : Nat) (x : Int), k ≤ n ∧ n - k ≤ kx ∧ s67 = .int .i64 k ∧ s9 = .int .i64 x ∧ Hid (∀ j, j < k → (((lensP q zs).getD j 0 : Nat) : Int) ≤ x) ∧ wr = w5)
  case atStart => exact ⟨0, 0, Nat.zero_le _, Nat.le_refl _, rfl, rfl, (fun j hj => absurd hj (Nat.not_lt_zero _) : ∀ j, j < 0 → _), rfl⟩
  case round =>
    obtain ⟨k, x, hk, hkx, rfl, rfl, HM, rfl⟩ := hrel
    by_cases hlt : k < n
    · have hltz : (k : Int) < (n : Int) := by omega
      have q2 := HLEN.out
      obtain ⟨ba, oa, rfl, -, ca⟩ := hB5 (by rw [intsOf_length]; omega)
      have y1 := ca k (by rw [intsOf_length]; omega)
      rw [intsOf_getD] at y1
      have hnx : ∀ P : Int, (((lensP q zs).getD k 0 : Nat) : Int) = P → ∀ j, j < k + 1 → (((lensP q zs).getD j 0 : Nat) : Int) ≤ max x P := by
        intro P hP j hj
        by_cases e : j = k
        · rw [e, hP]; omega
        · have := HM.out j (by omega); omega
      obtain ⟨P, hP⟩ : ∃ P : Int, (((lensP q zs).getD k 0 : Nat) : Int) = P := ⟨_, rfl⟩
      have HNX : Hid _ := hnx P hP
      rw [hP] at y1
      have zk : IntKind.i64.wrap ((k : Int) + 1) = (k : Int) + 1 := by rw [IntKind.wrap_i64]; omega
      clear ca hnx hP q2 HM
      go_wp2
      go_roundg (n - (k + 1))
      case measure => omega
      case rel => exact ⟨k + 1, _, hlt, Nat.le_refl _, rfl, rfl, HNX, rfl⟩
    · have hltz : ¬ (k : Int) < (n : Int) := by omega
      by_cases hx : x ≥ (q : Int)
      · have dx : decide (x ≥ (q : Int)) = true := decide_eq_true hx
        clear hA5 hB5 hat5
        go_wp2
        go_ret
        exact ⟨rfl, b9⟩
      · have dx : decide (x ≥ (q : Int)) = false := decide_eq_false hx
        have hweq : Wa = Wb := HW2.out (fun y hy => by
          obtain ⟨j, hj, rfl⟩ := List.getElem_of_mem hy
          have h1 := HM.out j (by rw [HLEN.out] at hj; omega)
          rw [List.getD_eq_getElem?_getD, List.getElem?_eq_getElem hj, Option.getD_some] at h1
          omega)
        have dww : (Wb == Wb) = true := by simp
        subst hweq
        have hwa := WA.out wr A cA hA5 hat5
        go_wp2_with fail
        refine hwa.mono ?_
        rintro e w6 ⟨rfl, b6⟩
        have hB6 := hB5.below b6
        have hat6 := hat5.below b6
        have b7 := bstep b9 b6
        have hwb := WB.out w6 B cB hB6 hat6
        clear hwa hA5 hB5 hat5 b9 b6
        go_wp2_with fail
        refine hwb.mono ?_
        rintro e w7 ⟨rfl, b8⟩
        have b10 := bstep b7 b8
        clear hwb hB6 hat6 b7 b8
        go_wp2
        go_ret
        exact ⟨rfl, b10⟩

set_option maxHeartbeats 1000000 in
set_option maxRecDepth 100000 in
theorem bound_walk (most : Int) (V : Option Addr) (n cap : Nat) (zs : List Int) (w : World) (_ha : (Lit.int .i64 most).wf = true) (hin : Args.IntsIn .i64 w V n cap zs) :
    Calls Try.prog 6 #[.int .i64 most, .slice V n cap] w fun e w' => e = .returned (.bool true) ∧ RowKit.Below w.heap.size w w' := by
  have hat := intsAt_of hin
  have hn : n = zs.length := hin.len.symm
  have hsz := hin.size
  clear _ha hin
  by_cases hbig : n > 100
  · have d1 : decide ((n : Int) > 100) = true := decide_eq_true (by omega)
    clear hat hn
    go_enter Try.func6, Try.ntmps6
    go_wp2_with fail
    refine (alive_call _).mono ?_
    rintro e w1 ⟨rfl, b1⟩
    go_wp2
    go_ret
    exact ⟨rfl, b1⟩
  have d1 : decide ((n : Int) > 100) = false := decide_eq_false (by omega)
  by_cases h2 : most < 2
  · have d2 : decide (most < 2) = true := decide_eq_true h2
    clear hat hn
    go_enter Try.func6, Try.ntmps6
    go_wp2_with fail
    refine (alive_call _).mono ?_
    rintro e w1 ⟨rfl, b1⟩
    go_wp2
    go_ret
    exact ⟨rfl, b1⟩
  have d2 : decide (most < 2) = false := decide_eq_false h2
  by_cases h3 : most > 15
  · have d3 : decide (most > 15) = true := decide_eq_true h3
    clear hat hn
    go_enter Try.func6, Try.ntmps6
    go_wp2_with fail
    refine (alive_call _).mono ?_
    rintro e w1 ⟨rfl, b1⟩
    go_wp2
    go_ret
    exact ⟨rfl, b1⟩
  obtain ⟨q, rfl⟩ : ∃ q : Nat, most = (q : Int) := ⟨most.toNat, by omega⟩
  obtain ⟨m, rfl⟩ : ∃ m, q = m + 1 := ⟨q - 1, by omega⟩
  have ca := err_cases (mo := (m : Int)) (zs := zs) (by omega) (by omega) (by omega)
  have cb := err_cases (mo := ((m + 1 : Nat) : Int)) (zs := zs) (by omega) (by omega) (by omega)
  rw [Int.toNat_natCast] at ca cb
  have bad : ∀ Ea, errP (m : Int) zs = Ea → Ea ≠ 0 → ∀ W, RowKit.Below w.heap.size w W → Calls Try.prog 15 #[.int .i64 (m : Int), .slice V n cap] W fun e w' => e = .returned (.tuple #[.slice none 0 0, .int .i64 (Ea : Int)]) ∧ RowKit.Below W.heap.size W w' :=
    fun Ea h h0 W hb => of_bad V n cap zs W hn (hat.below hb) hsz h h0
  have any : ∀ Eb, errP ((m + 1 : Nat) : Int) zs = Eb → ∀ W, RowKit.Below w.heap.size w W → Calls Try.prog 15 #[.int .i64 ((m + 1 : Nat) : Int), .slice V n cap] W fun e w' => ∃ A n' c, e = .returned (.tuple #[.slice A n' c, .int .i64 (Eb : Int)]) ∧ RowKit.Below W.heap.size W w' := by
    intro Eb h W hb
    by_cases h0 : Eb = 0
    · subst h0
      refine (of_good V n cap zs W hn (hat.below hb) h).mono ?_
      rintro e w' ⟨A, c, rfl, _, b⟩
      exact ⟨A, n, c, rfl, b⟩
    · refine (of_bad V n cap zs W hn (hat.below hb) hsz h h0).mono ?_
      rintro e w' ⟨rfl, b⟩
      exact ⟨none, 0, 0, rfl, b⟩
  rcases ca with ⟨a1, a2⟩ | ⟨a1, a2, a3⟩ | ⟨a1, a2, a3⟩
  · rcases cb with ⟨c1, c2⟩ | ⟨c1, _⟩ | ⟨c1, _⟩
    · exact bound_bad V n cap (m + 1) m 1 1 w hbig (by omega) (by omega) (bad 1 a2 (by decide)) (any 1 c2) (.inl ⟨rfl, rfl⟩)
    · rw [a1] at c1; cases c1
    · rw [a1] at c1; cases c1
  · rcases cb with ⟨c1, _⟩ | ⟨_, _, c3⟩ | ⟨_, _, c3⟩
    · rw [a1] at c1; cases c1
    · exact bound_bad V n cap (m + 1) m 10 10 w hbig (by omega) (by omega) (bad 10 a3 (by decide)) (any 10 c3) (.inr ⟨rfl, .inr rfl⟩)
    · exact bound_bad V n cap (m + 1) m 10 0 w hbig (by omega) (by omega) (bad 10 a3 (by decide)) (any 0 c3) (.inr ⟨rfl, .inl rfl⟩)
  · rcases cb with ⟨c1, _⟩ | ⟨_, c2, _⟩ | ⟨_, _, c3⟩
    · rw [a1] at c1; cases c1
    · have : 2 ^ m ≤ 2 ^ (m + 1) := Nat.pow_le_pow_right (by omega) (by omega)
      omega
    · exact bound_good V n cap (m + 1) m zs w hbig hn (by omega) (by omega) hat a3 c3
end Go.Proofs.Ythgidcfgelpkhaa
