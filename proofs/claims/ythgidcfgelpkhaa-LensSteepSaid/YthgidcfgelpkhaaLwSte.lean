/- LensSteep: the walk. -/
import Derived.Test.YthgidcfgelpkhaaLwBnd
import Derived.Test.YthgidcfgelpkhaaLpK
set_option linter.unusedVariables false
set_option linter.unusedSimpArgs false
namespace Go.Proofs.Ythgidcfgelpkhaa
open Go Go.Shelf Go.RowKit Go.Lib Go.Sort Go.Proofs Go.Proofs.Ythgidcfgelpkhaa.Base

/-- Counts that double. -/
def steepL : Nat → List Int
  | 0 => []
  | 1 => [1]
  | k + 2 => steepL (k + 1) ++ [2 ^ k]
theorem steep_length : ∀ k, (steepL k).length = k
  | 0 => rfl
  | 1 => rfl
  | k + 2 => by rw [steepL, List.length_append, steep_length (k + 1)]; rfl
theorem steep_next {k : Nat} (h : 1 ≤ k) : steepL (k + 1) = steepL k ++ [2 ^ (k - 1)] := by
  obtain ⟨q, rfl⟩ : ∃ q, k = q + 1 := ⟨k - 1, by omega⟩
  rfl
def termS (n i : Nat) (c : Int) : Int := c * min ((n : Int) - max (i : Int) 1) ((n : Int) - 1)
def sumS (n : Nat) : Nat → Int
  | 0 => 0
  | k + 1 => sumS n k + termS n k ((steepL n).getD k 0)
set_option maxRecDepth 100000 in
theorem steep_reckon : ((List.range 17).all fun n => decide (n < 2) || (weightP (intsOf (lensR 15 (steepL n))) (steepL n) == sumS n n && (steepL n).all fun z => decide (1 ≤ z) && decide (z ≤ 16384))) = true := by decide +kernel
theorem steep_at {n : Nat} (h2 : 2 ≤ n) (h16 : n ≤ 16) : weightP (intsOf (lensP 15 (steepL n))) (steepL n) = sumS n n ∧ ∀ z ∈ steepL n, 1 ≤ z ∧ z ≤ 16384 := by
  have h := List.all_eq_true.1 steep_reckon n (by simp; omega)
  rw [decide_eq_false (by omega), Bool.false_or, Bool.and_eq_true, beq_iff_eq] at h
  refine ⟨by rw [lensP_eq_R]; exact h.1, fun z hz => ?_⟩
  have := List.all_eq_true.1 h.2 z hz
  simp at this
  exact this
theorem raw_all : ∀ (zs : List Int) (s : Nat), (∀ z ∈ zs, 0 < z) → (rawFrom s zs).length = zs.length
  | [], _, _ => rfl
  | z :: zs, s, h => by
    rw [rawFrom, List.length_append, raw_all zs (s + 1) (fun y hy => h y (List.mem_cons_of_mem _ hy)), List.length_cons]
    unfold rawAt
    rw [if_pos (h z (List.mem_cons_self ..))]
    simp; omega
theorem steep_facts {n : Nat} (h2 : 2 ≤ n) (h16 : n ≤ 16) : errP (15 : Nat) (steepL n) = 0 ∧ kraftP (intsOf (lensP 15 (steepL n))) = 32768 := by
  obtain ⟨_, hz⟩ := steep_at h2 h16
  have hm : (singleP (steepL n)).length = n := by rw [single_length, raw_all _ _ (fun z h => by have := hz z h; omega), steep_length]
  have hf : (singleP (steepL n)).length ≤ 2 ^ 15 := by rw [hm]; omega
  exact ⟨err_ok (by omega) (by omega) (fun z h => by have := hz z h; omega) (by rw [steep_length]; omega) hf, kraft_full (by omega) (by omega) (by omega) (fits_of (by omega) hf)⟩
theorem sum_bound {n : Nat} (h2 : 2 ≤ n) (h16 : n ≤ 16) : ∀ k, k ≤ n → 0 ≤ sumS n k ∧ sumS n k ≤ k * 262144
  | 0, _ => by simp [sumS]
  | k + 1, h => by
    have ih := sum_bound h2 h16 k (by omega)
    have hz := (steep_at h2 h16).2 _ (getD_mem (xs := steepL n) (k := k) (by rw [steep_length]; omega))
    have m1 : 0 ≤ termS n k ((steepL n).getD k 0) := Int.mul_nonneg (by omega) (by omega)
    have m2 : termS n k ((steepL n).getD k 0) ≤ 16384 * 16 := Int.mul_le_mul hz.2 (by omega) (by omega) (by omega)
    rw [sumS]
    omega

set_option maxHeartbeats 1000000 in
set_option maxRecDepth 100000 in
theorem steep_in (n : Nat) (w : World) (h2 : 2 ≤ n) (h16 : n ≤ 16) : Calls Try.prog 12 #[.int .i64 n] w fun e w' => e = .returned (.bool true) ∧ RowKit.Below w.heap.size w w' := by
  obtain ⟨i3, hi3, hy0, hy1, hy2⟩ := info_parts info3
  have a1 : decide ((n : Int) < 2) = false := decide_eq_false (by omega)
  have a2 : decide ((n : Int) > 16) = false := decide_eq_false (by omega)
  obtain ⟨f1, f2⟩ := steep_facts h2 h16
  obtain ⟨f3, f4⟩ := steep_at h2 h16
  have hlen := steep_length n
  have OF : Aside (∀ (A : Option Addr) (cap : Nat) W, IntsAt W A (steepL n) → Calls Try.prog 15 #[.int .i64 15, .slice A n cap] W fun e w' => ∃ A c', e = .returned (.tuple #[.slice A n c', .int .i64 0]) ∧ IntsAt w' A (intsOf (lensP 15 (steepL n))) ∧ RowKit.Below W.heap.size W w') := by
    intro A cap W h
    refine (of_good (mo := 15) A n cap _ W hlen.symm h f1).mono ?_
    rintro e w' ⟨A, c', rfl, ho, hb⟩
    exact ⟨A, c', rfl, (ints_of_own ho).2, hb⟩
  have WT : Aside (∀ (A V : Option Addr) (c1 c2 : Nat) W, IntsAt W A (intsOf (lensP 15 (steepL n))) → IntsAt W V (steepL n) → Calls Try.prog 20 #[.slice A n c1, .slice V n c2] W fun e w' => e = .returned (.int .i64 (weightP (intsOf (lensP 15 (steepL n))) (steepL n))) ∧ RowKit.Below W.heap.size W w') :=
    fun A V c1 c2 W h h' => weight_of (most := 15) f1 hlen.symm rfl h h' (fun z hz => by have := f4 z hz; omega)
  have KR : Aside (∀ (A : Option Addr) (c1 : Nat) W, IntsAt W A (intsOf (lensP 15 (steepL n))) → Calls Try.prog 21 #[.slice A n c1] W fun e w' => e = .returned (.int .i64 (kraftP (intsOf (lensP 15 (steepL n))))) ∧ RowKit.Below W.heap.size W w') :=
    fun A c1 W h => kraft_call A n c1 _ W (by rw [intsOf_length, lensP_length, hlen]) h (by omega)
  rw [f3] at WT
  rw [f2] at KR
  have HSB : Hid (∀ k, k ≤ n → 0 ≤ sumS n k ∧ sumS n k ≤ k * 262144) := sum_bound h2 h16
  have HZ : Hid _ := f4
  have HL : Hid _ := hlen
  clear f1 f2 f3 f4 hlen
  go_enter Try.func12, Try.ntmps12
  go_wp2_with fail
  refine (alive_call _).mono ?_
  rintro e w1 ⟨rfl, b1⟩
  have hst : (w1.alloc (.cells #[.int .i64 1] 3)).ownsRow w1.heap.size 3 1 (.slice (some ⟨w1.heap.size, 0, none⟩) 1 1) 1 ((steepL 1).map (Value.int .i64)) :=
    ⟨rfl, .inr ⟨w1.heap.size, 1, #[.int .i64 1], rfl, Nat.le_refl _, heap_new w1 _, Nat.le_refl _, by unfold maxLen; omega, rfl, rfl⟩⟩
  have b0 := below_alloc w1 (.cells #[.int .i64 1] 3)
  go_wp2
  go_loopg [3] n (fun kx s3 wr => ∃ k : Nat, 1 ≤ k ∧ k ≤ n ∧ n - k ≤ kx ∧ wr.ownsRow w1.heap.size 3 1 s3 k ((steepL k).map (Value.int .i64)) ∧ RowKit.Below w1.heap.size w1 wr)
  case atStart => exact ⟨1, Nat.le_refl _, by omega, by omega, hst, b0⟩
  case round =>
    clear hst b0
    obtain ⟨k, hk1, hk, hkx, ho, b2⟩ := hrel
    obtain ⟨A7, c7, rfl, -⟩ := own_form ho
    by_cases hlt : k < n
    · have hltz : (k : Int) < (n : Int) := by omega
      obtain ⟨q, hq⟩ : ∃ q, k - 1 = q := ⟨_, rfl⟩
      have hqk : q + 1 ≤ k ∧ k ≤ q + 1 := by omega
      obtain ⟨P2, hP2⟩ : ∃ P2 : Nat, 2 ^ q = P2 := ⟨_, rfl⟩
      have hP : P2 ≤ 32768 := by rw [← hP2]; exact Nat.le_trans (Nat.pow_le_pow_right (by omega) (show q ≤ 15 by omega)) (by decide)
      have z1 : IntKind.i64.wrap ((k : Int) - 1) = (q : Int) := by rw [IntKind.wrap_i64]; omega
      have z2 : IntKind.u64.wrap (q : Int) = (q : Int) := by rw [IntKind.wrap_u64]; omega
      have z3 : IntKind.i64.wrap ((2 : Int) ^ q) = (P2 : Int) := by
        have e : ((2 : Int) ^ q) = ((2 ^ q : Nat) : Int) := by simp
        rw [e, hP2, IntKind.wrap_i64]; omega
      have hnx : steepL (k + 1) = steepL k ++ [(P2 : Int)] := by rw [steep_next hk1, hq, ← hP2]; simp
      have HNX : Hid _ := hnx
      have b3 : RowKit.Below w1.heap.size w1 (wr.alloc (.cells #[.int .i64 (P2 : Int)] 3)) := balloc b2 _
      have ho2 := ho.alloc (.cells #[.int .i64 (P2 : Int)] 3)
      have hsz2 : w1.heap.size ≤ (wr.alloc (.cells #[.int .i64 (P2 : Int)] 3)).heap.size := b3.size
      clear hq hP2 hnx
      go_wp2_with (first | (at_builtin; refine wpList_append_own _ rfl (.tmp 24) (.tmp 30) 22 rfl w1.heap.size 3 i3 _ 1 8 Try.underlying22 hi3 hy0 hy1 hy2 rfl (by decide) _ k ((steepL k).map (Value.int .i64)) rfl ho2 ⟨wr.heap.size, 0, none⟩ 1 1 [.int .i64 (P2 : Int)] rfl rfl ?e1 ?e2 ?e3 ?e4 hsz2 ?_))
      case e1 =>
        intro q y hq
        rw [Addr.add_lit, Nat.zero_add]
        exact cell_of (heap_new wr _) (by simpa using hq)
      case e2 => intro y hy; rw [List.mem_singleton.1 hy]; rfl
      case e3 => unfold maxLen; omega
      case e4 => omega
      intro v3 w4 ho4 hg4 _
      have b4 : RowKit.Below w1.heap.size w1 w4 := b3.grown hg4 hsz2 (own_ge ho2)
      have ho5 : w4.ownsRow w1.heap.size 3 1 v3 (k + 1) ((steepL (k + 1)).map (Value.int .i64)) := by
        rw [HNX.out, List.map_append]
        exact ho4
      obtain ⟨A5, c5, rfl, -⟩ := own_form ho5
      clear ho ho2 b2 b3 hg4 ho4 hsz2 HNX
      go_wp2
      go_roundg (n - (k + 1))
      case measure => omega
      case rel => exact ⟨k + 1, by omega, hlt, Nat.le_refl _, ho5, b4⟩
    · have hltz : ¬ (k : Int) < (n : Int) := by omega
      obtain rfl : k = n := by omega
      have hat := (ints_own ho).2
      have hof := OF.out A7 c7 wr hat
      have b3 := bstep b1 b2
      clear ho b1 b2
      go_wp2_with fail
      refine hof.mono ?_
      rintro e w2 ⟨A, cA, rfl, hA, b4⟩
      have hat2 := hat.below b4
      have b5 := bstep b3 b4
      have dnn : ((k : Int) != (k : Int)) = false := by simp
      clear hof hat b3 b4
      go_wp2
      go_loopg [6, 7, 47] k (fun kx s6 s7 s47 wr => ∃ (i : Nat) (x : Int), i ≤ k ∧ k - i ≤ kx ∧ s47 = .int .i64 i ∧ s6 = .int .i64 x ∧ Hid (x = sumS k i) ∧ w2 = wr)
      case atStart => exact ⟨0, 0, Nat.zero_le _, Nat.le_refl _, rfl, rfl, (rfl : (0 : Int) = sumS k 0), rfl⟩
      case round =>
        obtain ⟨i, x, hi, hkx3, rfl, rfl, HX, rfl⟩ := hrel
        by_cases hlt3 : i < k
        · have hltz3 : (i : Int) < (k : Int) := by omega
          have q1 := HL.out
          obtain ⟨bv, ov, rfl, -, cv⟩ := hat2 (by omega)
          have x1 := cv i (by omega)
          have hzr := HZ.out _ (getD_mem (xs := steepL k) (k := i) (by omega))
          have hxb := HSB.out i (by omega)
          rw [← HX.out] at hxb
          have hnx : sumS k (i + 1) = x + termS k i ((steepL k).getD i 0) := by rw [sumS, ← HX.out]
          generalize (steepL k).getD i 0 = Z at x1 hzr hnx
          obtain ⟨mx, hmx⟩ : ∃ mx : Int, max (i : Int) 1 = mx := ⟨_, rfl⟩
          obtain ⟨mn, hmn⟩ : ∃ mn : Int, min ((k : Int) - mx) ((k : Int) - 1) = mn := ⟨_, rfl⟩
          have hmx2 : 1 ≤ mx ∧ mx ≤ k := by omega
          have hmn2 : 0 ≤ mn ∧ mn ≤ 16 := by omega
          have z1 : IntKind.i64.wrap ((k : Int) - mx) = (k : Int) - mx := by rw [IntKind.wrap_i64]; omega
          have z2 : IntKind.i64.wrap ((k : Int) - 1) = (k : Int) - 1 := by rw [IntKind.wrap_i64]; omega
          have m1 : 0 ≤ Z * mn := Int.mul_nonneg (by omega) (by omega)
          have m2 : Z * mn ≤ 16384 * 16 := Int.mul_le_mul hzr.2 hmn2.2 hmn2.1 (by omega)
          have z3 : IntKind.i64.wrap (Z * mn) = Z * mn := by rw [IntKind.wrap_i64]; omega
          have z4 : IntKind.i64.wrap (x + Z * mn) = x + Z * mn := by rw [IntKind.wrap_i64]; omega
          have zk : IntKind.i64.wrap ((i : Int) + 1) = (i : Int) + 1 := by rw [IntKind.wrap_i64]; omega
          have hnx2 : sumS k (i + 1) = x + Z * mn := by rw [hnx]; unfold termS; rw [hmx, hmn]
          have HNX : Hid _ := hnx2
          clear cv q1 hnx hnx2 hzr hxb m1 m2 hmx2 hmn2 HX
          go_wp2
          go_roundg (k - (i + 1))
          case measure => omega
          case rel => exact ⟨i + 1, _, hlt3, Nat.le_refl _, rfl, rfl, HNX.out.symm, rfl⟩
        · have hltz3 : ¬ (i : Int) < (k : Int) := by omega
          obtain rfl : i = k := by omega
          have hw := WT.out A A7 cA c7 w2 hA hat2
          rw [← HX.out] at hw
          have dx : (x == x) = true := by simp
          clear hat2 HX
          go_wp2_with fail
          refine hw.mono ?_
          rintro e w3 ⟨rfl, b6⟩
          have hA3 := hA.below b6
          have b7 := bstep b5 b6
          have hk := KR.out A cA w3 hA3
          clear hw b5 b6 hA
          go_wp2_with fail
          refine hk.mono ?_
          rintro e w4 ⟨rfl, b8⟩
          have b9 := bstep b7 b8
          clear hk b7 b8 hA3
          go_wp2
          go_ret
          exact ⟨rfl, b9⟩

set_option maxHeartbeats 1000000 in
set_option maxRecDepth 100000 in
theorem steep_walk (n : Int) (w : World) (_h : (Lit.int .i64 n).wf = true) : Calls Try.prog 12 #[.int .i64 n] w fun e w' => e = .returned (.bool true) ∧ RowKit.Below w.heap.size w w' := by
  clear _h
  by_cases h1 : n < 2
  · have d1 : decide (n < 2) = true := decide_eq_true h1
    go_enter Try.func12, Try.ntmps12
    go_wp2_with fail
    refine (alive_call _).mono ?_
    rintro e w1 ⟨rfl, b1⟩
    go_wp2
    go_ret
    exact ⟨rfl, b1⟩
  have d1 : decide (n < 2) = false := decide_eq_false h1
  by_cases h2 : n > 16
  · have d2 : decide (n > 16) = true := decide_eq_true h2
    go_enter Try.func12, Try.ntmps12
    go_wp2_with fail
    refine (alive_call _).mono ?_
    rintro e w1 ⟨rfl, b1⟩
    go_wp2
    go_ret
    exact ⟨rfl, b1⟩
  obtain ⟨q, rfl⟩ : ∃ q : Nat, n = (q : Int) := ⟨n.toNat, by omega⟩
  exact steep_in q w (by omega) (by omega)
end Go.Proofs.Ythgidcfgelpkhaa
