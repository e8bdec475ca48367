/- LensEven: the walk. -/
import Derived.Test.YthgidcfgelpkhaaLwBnd
import Derived.Test.YthgidcfgelpkhaaLpK
set_option linter.unusedVariables false
set_option linter.unusedSimpArgs false
namespace Go.Proofs.Ythgidcfgelpkhaa
open Go Go.Shelf Go.RowKit Go.Lib Go.Sort Go.Proofs Go.Proofs.Ythgidcfgelpkhaa.Base

theorem even_facts {p g : Nat} {c : Int} (h1 : 1 ≤ p) (h7 : p ≤ 7) (hc : 1 ≤ c) (hc2 : c ≤ 1000) (hg : g ≤ 1) :
    errP (15 : Nat) (evenL c g (2 ^ p)) = 0 ∧ (∀ s, s < (evenL c g (2 ^ p)).length → (0 < (evenL c g (2 ^ p)).getD s 0 → (lensP 15 (evenL c g (2 ^ p))).getD s 0 = p) ∧ (¬ 0 < (evenL c g (2 ^ p)).getD s 0 → (lensP 15 (evenL c g (2 ^ p))).getD s 0 = 0 ∧ (evenL c g (2 ^ p)).getD s 0 = 0)) ∧
    weightP (intsOf (lensP 15 (evenL c g (2 ^ p)))) (evenL c g (2 ^ p)) = p * (((2 ^ p : Nat) : Int) * c) := by
  have hm : (singleP (evenL c g (2 ^ p))).length = 2 ^ p := by rw [single_length, even_raw (by omega)]
  have hP : 2 ^ p ≤ 128 := Nat.le_trans (Nat.pow_le_pow_right (by omega) h7) (by decide)
  have hmem := even_mem c g (2 ^ p)
  have hz : ∀ z ∈ evenL c g (2 ^ p), 0 ≤ z ∧ z ≤ 1073741824 := fun z hz => by rcases hmem z hz with h | h <;> omega
  have hlen := even_length c g (2 ^ p)
  have hle : (evenL c g (2 ^ p)).length ≤ 356 := by
    rw [hlen]
    have : 2 ^ p * (1 + g) ≤ 128 * 2 := Nat.mul_le_mul hP (by omega)
    omega
  refine ⟨err_ok (by omega) (by omega) hz hle (by rw [hm]; omega), fun s hs => ⟨fun h => lens_even h1 (by omega) hmem hm hs h, fun h => ⟨lens_none hs h, ?_⟩⟩, ?_⟩
  · have := hz _ (getD_mem hs)
    omega
  · rw [weight_even h1 (by omega) hmem (by omega) hm, even_sum]

set_option maxHeartbeats 1000000 in
set_option maxRecDepth 100000 in
theorem even_in (p g : Nat) (c : Int) (w : World) (h1 : 1 ≤ p) (h7 : p ≤ 7) (hc : 1 ≤ c) (hc2 : c ≤ 1000) (hg : g ≤ 1) :
    Calls Try.prog 7 #[.int .i64 p, .int .i64 c, .int .i64 g] w fun e w' => e = .returned (.bool true) ∧ RowKit.Below w.heap.size w w' := by
  obtain ⟨i3, hi3, hy0, hy1, hy2⟩ := info_parts info3
  have a1 : decide ((p : Int) < 1) = false := decide_eq_false (by omega)
  have a2 : decide ((p : Int) > 7) = false := decide_eq_false (by omega)
  have a3 : decide (c < 1) = false := decide_eq_false (by omega)
  have a4 : decide (c > 1000) = false := decide_eq_false (by omega)
  have a5 : decide ((g : Int) < 0) = false := decide_eq_false (by omega)
  have a6 : decide ((g : Int) > 1) = false := decide_eq_false (by omega)
  obtain ⟨f1, f2, f3⟩ := even_facts (p := p) (g := g) (c := c) h1 h7 hc hc2 hg
  obtain ⟨P2, hP2⟩ : ∃ P2 : Nat, 2 ^ p = P2 := ⟨_, rfl⟩
  rw [hP2] at f1 f2 f3
  have hP : P2 ≤ 128 := by rw [← hP2]; exact Nat.le_trans (Nat.pow_le_pow_right (by omega) h7) (by decide)
  have zp : IntKind.i64.wrap ((2 : Int) ^ p) = (P2 : Int) := by
    have e : ((2 : Int) ^ p) = ((2 ^ p : Nat) : Int) := by simp
    rw [e, hP2, IntKind.wrap_i64]; omega
  have zu : IntKind.u64.wrap (p : Int) = (p : Int) := by rw [IntKind.wrap_u64]; omega
  obtain ⟨n, hn⟩ : ∃ n, (evenL c g P2).length = n := ⟨_, rfl⟩
  have hnn : n ≤ 256 := by
    rw [← hn, even_length]
    have : P2 * (1 + g) ≤ 128 * 2 := Nat.mul_le_mul hP (by omega)
    omega
  have OF : Aside (∀ (A : Option Addr) (cap : Nat) W, IntsAt W A (evenL c g P2) → Calls Try.prog 15 #[.int .i64 15, .slice A n cap] W fun e w' => ∃ A c', e = .returned (.tuple #[.slice A n c', .int .i64 0]) ∧ IntsAt w' A (intsOf (lensP 15 (evenL c g P2))) ∧ RowKit.Below W.heap.size W w') := by
    intro A cap W h
    refine (of_good (mo := 15) A n cap _ W hn.symm h f1).mono ?_
    rintro e w' ⟨A, c', rfl, ho, hb⟩
    exact ⟨A, c', rfl, (ints_of_own ho).2, hb⟩
  have hzb : ∀ z ∈ evenL c g P2, 0 ≤ z ∧ z ≤ 4294967296 := fun z hz => by rcases even_mem c g P2 z hz with h | h <;> omega
  have WT : Aside (∀ (A V : Option Addr) (c1 c2 : Nat) W, IntsAt W A (intsOf (lensP 15 (evenL c g P2))) → IntsAt W V (evenL c g P2) → Calls Try.prog 20 #[.slice A n c1, .slice V n c2] W fun e w' => e = .returned (.int .i64 (weightP (intsOf (lensP 15 (evenL c g P2))) (evenL c g P2))) ∧ RowKit.Below W.heap.size W w') :=
    fun A V c1 c2 W h h' => weight_of (most := 15) f1 hn.symm rfl h h' hzb
  rw [f3] at WT
  have hLN : (lensP 15 (evenL c g P2)).length = n := by rw [lensP_length, hn]
  have HLN : Hid _ := hLN
  have HF : Hid _ := f2
  have HN : Hid _ := hn
  have hpc : 0 ≤ (p : Int) * c ∧ (p : Int) * c ≤ 7000 := by
    refine ⟨Int.mul_nonneg (by omega) (by omega), ?_⟩
    have := Int.mul_le_mul (a := (p : Int)) (b := c) (c := 7) (d := 1000) (by omega) hc2 (by omega) (by omega)
    omega
  have z1 : IntKind.i64.wrap ((p : Int) * c) = (p : Int) * c := by rw [IntKind.wrap_i64]; omega
  have z2 : IntKind.i64.wrap ((p : Int) * c * (2 : Int) ^ p) = (p : Int) * ((P2 : Int) * c) := by
    have e : ((2 : Int) ^ p) = (P2 : Int) := by rw [← hP2]; simp
    have e2 : (p : Int) * c * (P2 : Int) = (p : Int) * ((P2 : Int) * c) := by rw [Int.mul_assoc, Int.mul_comm c]
    have m1 : 0 ≤ (p : Int) * c * (P2 : Int) := Int.mul_nonneg hpc.1 (by omega)
    have m2 : (p : Int) * c * (P2 : Int) ≤ 7000 * 128 := Int.mul_le_mul hpc.2 (by omega) (by omega) (by omega)
    rw [e, ← e2, IntKind.wrap_i64]
    omega
  obtain ⟨R, hR⟩ : ∃ R, (p : Int) * ((P2 : Int) * c) = R := ⟨_, rfl⟩
  rw [hR] at WT z2
  have dR : (R == R) = true := by simp
  clear f1 f2 f3 hLN hn hP2 hpc hR hzb
  go_enter Try.func7, Try.ntmps7
  go_wp2_with fail
  refine (alive_call _).mono ?_
  rintro e w1 ⟨rfl, b1⟩
  go_wp2
  go_loopg [7, 8, 9] P2 (fun kx s7 s8 s9 wr => ∃ i : Nat, i ≤ P2 ∧ P2 - i ≤ kx ∧ s8 = .int .i64 i ∧ wr.ownsRow w1.heap.size 3 1 s7 (i * (1 + g)) ((evenL c g i).map (Value.int .i64)) ∧ RowKit.Below w1.heap.size w1 wr)
  case atStart => exact ⟨0, Nat.zero_le _, Nat.le_refl _, rfl, by simpa [evenL] using World.ownsRow_nil _ _ _ _, Below.refl _ _⟩
  case round =>
    obtain ⟨i, hi, hkx, rfl, ho, b2⟩ := hrel
    obtain ⟨A7, c7, rfl, -⟩ := own_form ho
    by_cases hlt : i < P2
    · have hltz : (i : Int) < (P2 : Int) := by omega
      have hb : i * (1 + g) ≤ 256 := by
        have : i * (1 + g) ≤ 128 * 2 := Nat.mul_le_mul (by omega) (by omega)
        omega
      have hbS : Hid ((i + 1) * (1 + g) = i * (1 + g) + 1 + g) := by show _ = _; rw [Nat.add_mul]; omega
      obtain ⟨u, hu⟩ : ∃ u, i * (1 + g) = u := ⟨_, rfl⟩
      rw [hu] at ho hb ⊢
      have HU : Hid (i * (1 + g) = u) := hu
      clear hu
      have b3 : RowKit.Below w1.heap.size w1 (wr.alloc (.cells #[.int .i64 c] 3)) := balloc b2 _
      have ho2 := ho.alloc (.cells #[.int .i64 c] 3)
      have hsz2 : w1.heap.size ≤ (wr.alloc (.cells #[.int .i64 c] 3)).heap.size := b3.size
      go_wp2_with (first | (at_builtin; refine wpList_append_own _ rfl (.tmp 47) (.tmp 49) 22 rfl w1.heap.size 3 i3 _ 1 8 Try.underlying22 hi3 hy0 hy1 hy2 rfl (by decide) _ u ((evenL c g i).map (Value.int .i64)) rfl ho2 ⟨wr.heap.size, 0, none⟩ 1 1 [.int .i64 c] rfl rfl ?e1 ?e2 ?e3 ?e4 hsz2 ?_))
      case e1 =>
        intro q y hq
        rw [Addr.add_lit, Nat.zero_add]
        exact cell_of (heap_new wr _) (by simpa using hq)
      case e2 => intro y hy; rw [List.mem_singleton.1 hy]; rfl
      case e3 => unfold maxLen; omega
      case e4 => omega
      intro v3 w4 ho4 hg4 _
      have b4 : RowKit.Below w1.heap.size w1 w4 := b3.grown hg4 hsz2 (own_ge ho2)
      have ho5 : w4.ownsRow w1.heap.size 3 1 v3 (u + 1 + 0) ((evenL c g i ++ c :: List.replicate 0 0).map (Value.int .i64)) := by
        rw [List.map_append]
        exact ho4
      obtain ⟨A5, c5, rfl, -⟩ := own_form ho5
      clear ho ho2 b2 b3 hg4 ho4 hsz2
      go_wp2
      go_loopg [7, 9] g (fun kx s7 s9 wr => ∃ k : Nat, k ≤ g ∧ g - k ≤ kx ∧ s9 = .int .i64 k ∧ wr.ownsRow w1.heap.size 3 1 s7 (u + 1 + k) ((evenL c g i ++ c :: List.replicate k 0).map (Value.int .i64)) ∧ RowKit.Below w1.heap.size w1 wr)
      case atStart => exact ⟨0, Nat.zero_le _, Nat.le_refl _, rfl, ho5, b4⟩
      case round =>
        clear ho5 b4
        obtain ⟨k, hk, hkx2, rfl, ho, b2⟩ := hrel
        obtain ⟨A6, c6, rfl, -⟩ := own_form ho
        by_cases hlt2 : k < g
        · have hltz2 : (k : Int) < (g : Int) := by omega
          have b3 : RowKit.Below w1.heap.size w1 (wr.alloc (.cells #[.int .i64 0] 3)) := balloc b2 _
          have ho2 := ho.alloc (.cells #[.int .i64 0] 3)
          have hsz2 : w1.heap.size ≤ (wr.alloc (.cells #[.int .i64 0] 3)).heap.size := b3.size
          have zk : IntKind.i64.wrap ((k : Int) + 1) = (k : Int) + 1 := by rw [IntKind.wrap_i64]; omega
          go_wp2_with (first | (at_builtin; refine wpList_append_own _ rfl (.tmp 56) (.tmp 57) 22 rfl w1.heap.size 3 i3 _ 1 8 Try.underlying22 hi3 hy0 hy1 hy2 rfl (by decide) _ (u + 1 + k) ((evenL c g i ++ c :: List.replicate k 0).map (Value.int .i64)) rfl ho2 ⟨wr.heap.size, 0, none⟩ 1 1 [.int .i64 0] rfl rfl ?e1 ?e2 ?e3 ?e4 hsz2 ?_))
          case e1 =>
            intro q y hq
            rw [Addr.add_lit, Nat.zero_add]
            exact cell_of (heap_new wr _) (by simpa using hq)
          case e2 => intro y hy; rw [List.mem_singleton.1 hy]; rfl
          case e3 => unfold maxLen; omega
          case e4 => omega
          intro v5 w5 ho6 hg6 _
          have b5 : RowKit.Below w1.heap.size w1 w5 := b3.grown hg6 hsz2 (own_ge ho2)
          have ho7 : w5.ownsRow w1.heap.size 3 1 v5 (u + 1 + (k + 1)) ((evenL c g i ++ c :: List.replicate (k + 1) 0).map (Value.int .i64)) := by
            have e : (evenL c g i ++ c :: List.replicate (k + 1) 0).map (Value.int .i64) = (evenL c g i ++ c :: List.replicate k 0).map (Value.int .i64) ++ [.int .i64 0] := by
              rw [List.replicate_succ']
              simp
            rw [e, ← Nat.add_assoc]
            simpa using ho6
          obtain ⟨A9, c9, rfl, -⟩ := own_form ho7
          clear ho ho2 b2 b3 hg6 ho6 hsz2
          go_wp2
          go_roundg (g - (k + 1))
          case measure => omega
          case rel => exact ⟨k + 1, hlt2, Nat.le_refl _, rfl, ho7, b5⟩
        · have hltz2 : ¬ (k : Int) < (g : Int) := by omega
          obtain rfl : k = g := by omega
          have ho3 : wr.ownsRow w1.heap.size 3 1 (.slice A6 (u + 1 + k) c6) ((i + 1) * (1 + k)) ((evenL c k (i + 1)).map (Value.int .i64)) := by
            rw [hbS.out, HU.out]
            exact ho
          have zi : IntKind.i64.wrap ((i : Int) + 1) = (i : Int) + 1 := by rw [IntKind.wrap_i64]; omega
          clear ho
          go_wp2
          go_roundg (P2 - (i + 1))
          case measure => omega
          case rel => exact ⟨i + 1, hlt, Nat.le_refl _, rfl, ho3, b2⟩
    · have hltz : ¬ (i : Int) < (P2 : Int) := by omega
      obtain rfl : i = P2 := by omega
      have hin := (ints_own ho)
      have hlen : i * (1 + g) = n := by rw [hin.1, HN.out]
      rw [hlen]
      have hat := hin.2
      have hof := OF.out A7 c7 wr hat
      have b3 := bstep b1 b2
      clear hin ho hlen b1 b2
      go_wp2_with fail
      refine hof.mono ?_
      rintro e w2 ⟨A, cA, rfl, hA, b4⟩
      have hat2 := hat.below b4
      have b5 := bstep b3 b4
      have dnn : ((n : Int) != (n : Int)) = false := by simp
      clear hof hat b3 b4
      go_wp2
      go_loopg [12, 75] n (fun kx s12 s75 wr => ∃ k : Nat, k ≤ n ∧ n - k ≤ kx ∧ s75 = .int .i64 k ∧ w2 = wr)
      case atStart => exact ⟨0, Nat.zero_le _, Nat.le_refl _, rfl, rfl⟩
      case round =>
        obtain ⟨k, hk, hkx3, rfl, rfl⟩ := hrel
        by_cases hlt3 : k < n
        · have hltz3 : (k : Int) < (n : Int) := by omega
          have q1 := HN.out
          have q2 := HLN.out
          obtain ⟨bv, ov, rfl, -, cv⟩ := hat2 (by omega)
          obtain ⟨ba, oa, rfl, -, ca⟩ := hA (by rw [intsOf_length]; omega)
          have x1 := cv k (by omega)
          have y1 := ca k (by rw [intsOf_length]; omega)
          rw [intsOf_getD] at y1
          have hl := HF.out k (by omega)
          generalize (evenL c g i).getD k 0 = Z at x1 hl
          have zk : IntKind.i64.wrap ((k : Int) + 1) = (k : Int) + 1 := by rw [IntKind.wrap_i64]; omega
          clear q1 q2 cv ca
          by_cases hZ : Z > 0
          · have t1 : decide (Z > 0) = true := decide_eq_true hZ
            have t2 : (Z == 0) = false := by simp; omega
            have t3 : ((p : Int) != (p : Int)) = false := by simp
            rw [hl.1 hZ] at y1
            clear hl
            go_wp2
            go_roundg (n - (k + 1))
            case measure => omega
            case rel => exact ⟨k + 1, hlt3, Nat.le_refl _, rfl, rfl⟩
          · have t1 : decide (Z > 0) = false := decide_eq_false hZ
            obtain ⟨l1, l2⟩ := hl.2 (by omega)
            rw [l1] at y1
            rw [l2] at x1
            clear hl l1 l2 t1 hZ
            go_wp2
            go_roundg (n - (k + 1))
            case measure => omega
            case rel => exact ⟨k + 1, hlt3, Nat.le_refl _, rfl, rfl⟩
        · have hltz3 : ¬ (k : Int) < (n : Int) := by omega
          have hw := WT.out A A7 cA c7 w2 hA hat2
          clear hA hat2
          go_wp2_with fail
          refine hw.mono ?_
          rintro e w3 ⟨rfl, b6⟩
          have b7 := bstep b5 b6
          clear hw b5 b6
          go_wp2
          go_ret
          exact ⟨rfl, b7⟩

set_option maxHeartbeats 1000000 in
set_option maxRecDepth 100000 in
theorem even_walk (p c g : Int) (w : World) (_h1 : (Lit.int .i64 p).wf = true) (_h2 : (Lit.int .i64 c).wf = true) (_h3 : (Lit.int .i64 g).wf = true) :
    Calls Try.prog 7 #[.int .i64 p, .int .i64 c, .int .i64 g] w fun e w' => e = .returned (.bool true) ∧ RowKit.Below w.heap.size w w' := by
  clear _h1 _h2 _h3
  by_cases h0 : p < 1
  · have d0 : decide (p < 1) = true := decide_eq_true h0
    go_enter Try.func7, Try.ntmps7
    go_wp2_with fail
    refine (alive_call _).mono ?_
    rintro e w1 ⟨rfl, b1⟩
    go_wp2
    go_ret
    exact ⟨rfl, b1⟩
  have d0 : decide (p < 1) = false := decide_eq_false h0
  by_cases h1 : p > 7
  · have d1 : decide (p > 7) = true := decide_eq_true h1
    go_enter Try.func7, Try.ntmps7
    go_wp2_with fail
    refine (alive_call _).mono ?_
    rintro e w1 ⟨rfl, b1⟩
    go_wp2
    go_ret
    exact ⟨rfl, b1⟩
  have d1 : decide (p > 7) = false := decide_eq_false h1
  by_cases h2 : c < 1
  · have d2 : decide (c < 1) = true := decide_eq_true h2
    go_enter Try.func7, Try.ntmps7
    go_wp2_with fail
    refine (alive_call _).mono ?_
    rintro e w1 ⟨rfl, b1⟩
    go_wp2
    go_ret
    exact ⟨rfl, b1⟩
  have d2 : decide (c < 1) = false := decide_eq_false h2
  by_cases h3 : c > 1000
  · have d3 : decide (c > 1000) = true := decide_eq_true h3
    go_enter Try.func7, Try.ntmps7
    go_wp2_with fail
    refine (alive_call _).mono ?_
    rintro e w1 ⟨rfl, b1⟩
    go_wp2
    go_ret
    exact ⟨rfl, b1⟩
  have d3 : decide (c > 1000) = false := decide_eq_false h3
  by_cases h4 : g < 0
  · have d4 : decide (g < 0) = true := decide_eq_true h4
    go_enter Try.func7, Try.ntmps7
    go_wp2_with fail
    refine (alive_call _).mono ?_
    rintro e w1 ⟨rfl, b1⟩
    go_wp2
    go_ret
    exact ⟨rfl, b1⟩
  have d4 : decide (g < 0) = false := decide_eq_false h4
  by_cases h5 : g > 1
  · have d5 : decide (g > 1) = true := decide_eq_true h5
    go_enter Try.func7, Try.ntmps7
    go_wp2_with fail
    refine (alive_call _).mono ?_
    rintro e w1 ⟨rfl, b1⟩
    go_wp2
    go_ret
    exact ⟨rfl, b1⟩
  have d5 : decide (g > 1) = false := decide_eq_false h5
  obtain ⟨q, rfl⟩ : ∃ q : Nat, p = (q : Int) := ⟨p.toNat, by omega⟩
  obtain ⟨k, rfl⟩ : ∃ k : Nat, g = (k : Int) := ⟨g.toNat, by omega⟩
  exact even_in q k c w (by omega) (by omega) (by omega) (by omega) (by omega)
end Go.Proofs.Ythgidcfgelpkhaa
