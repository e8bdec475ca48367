/- Weight, Kraft, and whether two lists are alike: the walks. -/
import Derived.Test.YthgidcfgelpkhaaLnE
import Derived.BigQuiet
set_option linter.unusedVariables false
set_option linter.unusedSimpArgs false
namespace Go.Proofs.Ythgidcfgelpkhaa
open Go Go.Shelf Go.RowKit Go.Lib Go.Sort Go.Proofs Go.Proofs.Ythgidcfgelpkhaa.Base

def weightP : List Int → List Int → Int
  | x :: xs, z :: zs => x * z + weightP xs zs
  | _, _ => 0
theorem weightP_take : ∀ (xs zs : List Int) (k : Nat), k < xs.length → k < zs.length → weightP (xs.take (k + 1)) (zs.take (k + 1)) = weightP (xs.take k) (zs.take k) + xs.getD k 0 * zs.getD k 0
  | [], _, _, h, _ => by simp at h
  | _ :: _, [], _, _, h => by simp at h
  | x :: xs, z :: zs, 0, _, _ => by simp [weightP]
  | x :: xs, z :: zs, k + 1, h1, h2 => by
    have := weightP_take xs zs k (by simpa using h1) (by simpa using h2)
    simp only [List.take_succ_cons, weightP, this, List.getD_cons_succ]
    omega
theorem weightP_min : ∀ (xs zs : List Int), weightP (xs.take (min xs.length zs.length)) (zs.take (min xs.length zs.length)) = weightP xs zs
  | [], _ => by simp [weightP]
  | _ :: _, [] => by simp [weightP]
  | x :: xs, z :: zs => by
    have := weightP_min xs zs
    rw [List.length_cons, List.length_cons, Nat.succ_min_succ]
    simp only [List.take_succ_cons, weightP, this]
theorem weightP_bound : ∀ (xs zs : List Int), (∀ x ∈ xs, 0 ≤ x ∧ x ≤ 1000) → (∀ z ∈ zs, 0 ≤ z ∧ z ≤ 4294967296) → 0 ≤ weightP xs zs ∧ weightP xs zs ≤ xs.length * 4294967296000
  | [], _, _, _ => by simp [weightP]
  | _ :: _, [], _, _ => by simp [weightP]; omega
  | x :: xs, z :: zs, h1, h2 => by
    have := weightP_bound xs zs (fun x hx => h1 x (List.mem_cons_of_mem _ hx)) (fun x hx => h2 x (List.mem_cons_of_mem _ hx))
    obtain ⟨a1, a2⟩ := h1 x (List.mem_cons_self ..)
    obtain ⟨b1, b2⟩ := h2 z (List.mem_cons_self ..)
    have m1 : 0 ≤ x * z := Int.mul_nonneg a1 b1
    have m2 : x * z ≤ 1000 * 4294967296 := Int.mul_le_mul a2 b2 b1 (by omega)
    rw [weightP, List.length_cons]
    omega

def kraft1 (x : Int) : Int := if 1 ≤ x ∧ x ≤ 15 then 2 ^ (15 - x.toNat) else 0
def kraftP (xs : List Int) : Int := (xs.map kraft1).sum
theorem kraft1_le (x : Int) : 0 ≤ kraft1 x ∧ kraft1 x ≤ 16384 := by
  unfold kraft1
  split
  · have h1 : (2 : Nat) ^ (15 - x.toNat) ≤ 2 ^ 14 := Nat.pow_le_pow_right (by omega) (by omega)
    have e : ((2 : Int) ^ (15 - x.toNat)) = ((2 ^ (15 - x.toNat) : Nat) : Int) := by simp
    rw [e]
    generalize (2 : Nat) ^ (15 - x.toNat) = t at h1 ⊢
    have h2 : (2 : Nat) ^ 14 = 16384 := by decide
    omega
  · omega
theorem kraftP_bound : ∀ xs : List Int, 0 ≤ kraftP xs ∧ kraftP xs ≤ xs.length * 16384
  | [] => by simp [kraftP]
  | x :: xs => by
    have := kraftP_bound xs
    have := kraft1_le x
    unfold kraftP at *
    rw [List.map_cons, List.sum_cons, List.length_cons]
    omega
theorem kraftP_take {xs : List Int} {k : Nat} (hk : k < xs.length) : kraftP (xs.take (k + 1)) = kraftP (xs.take k) + kraft1 (xs.getD k 0) := by
  unfold kraftP
  rw [List.take_succ_eq_append_getElem hk, List.map_append, List.sum_append]
  simp [List.getD_eq_getElem?_getD, hk]

theorem getD_mem {xs : List Int} {k : Nat} (hk : k < xs.length) : xs.getD k 0 ∈ xs := by
  rw [List.getD_eq_getElem?_getD, List.getElem?_eq_getElem hk]; exact List.getElem_mem _

set_option maxHeartbeats 2000000 in
set_option maxRecDepth 100000 in
theorem weight_call (A V : Option Addr) (n1 n2 c1 c2 : Nat) (xs zs : List Int) (w : World) (h1 : n1 = xs.length) (h2 : n2 = zs.length) (ha : IntsAt w A xs) (hv : IntsAt w V zs) (hle : n1 ≤ 1000) (hle2 : n2 ≤ 1000)
    (hx : ∀ x ∈ xs, 0 ≤ x ∧ x ≤ 1000) (hz : ∀ z ∈ zs, 0 ≤ z ∧ z ≤ 4294967296) :
    Calls Try.prog 20 #[.slice A n1 c1, .slice V n2 c2] w fun e w' => e = .returned (.int .i64 (weightP xs zs)) ∧ RowKit.Below w.heap.size w w' := by
  have mixed : Try.prog.follows .mixedOrders = true := by kernel_rfl
  have H1 : Hid (n1 = xs.length) := h1
  have H2 : Hid (n2 = zs.length) := h2
  have HX : Hid (∀ x ∈ xs, 0 ≤ x ∧ x ≤ 1000) := hx
  have HZ : Hid (∀ z ∈ zs, 0 ≤ z ∧ z ≤ 4294967296) := hz
  obtain ⟨M, hM⟩ : ∃ M, min n1 n2 = M := ⟨_, rfl⟩
  have bM : M ≤ n1 ∧ M ≤ n2 ∧ (n1 ≤ M ∨ n2 ≤ M) := by omega
  have hmz : min (n1 : Int) (n2 : Int) = (M : Int) := by omega
  have HM : Hid (weightP (xs.take M) (zs.take M) = weightP xs zs) := by show _ = _; rw [← weightP_min xs zs, ← h1, ← h2, hM]
  clear hM h1 h2 hx hz
  go_enter Try.func20, Try.ntmps20
  go_wp2
  go_loopg [5, 12] M (fun kx s5 s12 wr => ∃ (k : Nat) (x : Int), k ≤ M ∧ M - k ≤ kx ∧ s12 = .int .i64 k ∧ s5 = .int .i64 x ∧ Hid (x = weightP (xs.take k) (zs.take k)) ∧ RowKit.Below w.heap.size w wr)
  case atStart => exact ⟨0, 0, Nat.zero_le _, Nat.le_refl _, rfl, rfl, (by simp [weightP] : (0 : Int) = weightP (xs.take 0) (zs.take 0)), Below.refl _ _⟩
  case round =>
    obtain ⟨k, x, hk, hkx, rfl, rfl, HE, bel⟩ := hrel
    by_cases hlt : k < M
    · have hltz : (k : Int) < (M : Int) := by omega
      have q1 := H1.out
      have q2 := H2.out
      obtain ⟨ba, oa, rfl, _, ca⟩ := ha (by omega)
      obtain ⟨bv, ov, rfl, _, cv⟩ := hv (by omega)
      have l1 := pw_cell_below bel (ca k (by omega))
      have l2 := pw_cell_below bel (cv k (by omega))
      have hT := weightP_take xs zs k (by omega) (by omega)
      have hb1 := HX.out _ (getD_mem (xs := xs) (k := k) (by omega))
      have hb2 := HZ.out _ (getD_mem (xs := zs) (k := k) (by omega))
      have hb3 := weightP_bound (xs.take k) (zs.take k) (fun x hx => HX.out x (List.mem_of_mem_take hx)) (fun x hx => HZ.out x (List.mem_of_mem_take hx))
      rw [List.length_take_of_le (by omega), ← HE.out] at hb3
      rw [← HE.out] at hT
      generalize xs.getD k 0 = X at l1 hT hb1
      generalize zs.getD k 0 = Z at l2 hT hb2
      have m1 : 0 ≤ X * Z := Int.mul_nonneg hb1.1 hb2.1
      have m2 : X * Z ≤ 1000 * 4294967296 := Int.mul_le_mul hb1.2 hb2.2 hb2.1 (by omega)
      have w1 : IntKind.i64.wrap (X * Z) = X * Z := by rw [IntKind.wrap_i64]; omega
      have w2 : IntKind.i64.wrap (x + X * Z) = x + X * Z := by rw [IntKind.wrap_i64]; omega
      have HT : Hid _ := hT
      have lt1 : (k : Int) < (n1 : Int) := by omega
      have lt2 : (k : Int) < (n2 : Int) := by omega
      have zk : IntKind.i64.wrap ((k : Int) + 1) = (k : Int) + 1 := by rw [IntKind.wrap_i64]; omega
      clear ca cv ha hv hT hb1 hb2 hb3 m1 m2 q1 q2
      go_wp2_with fail
      go_quiet_o (fail)
      have bel2 : RowKit.Below w.heap.size w _ := below_drewN' bel nq
      clear bel
      go_wp2
      go_roundg (M - (k + 1))
      case measure => omega
      case rel => exact ⟨k + 1, _, hlt, Nat.le_refl _, rfl, rfl, HT.out.symm, bel2⟩
    · have hltz : ¬ (k : Int) < (M : Int) := by omega
      obtain rfl : k = M := by omega
      have hfin : Hid (x = weightP xs zs) := by show _ = _; rw [HE.out, HM.out]
      clear HE HM ha hv
      go_wp2
      go_ret
      exact ⟨by rw [← hfin.out]; rfl, bel⟩

set_option maxHeartbeats 2000000 in
set_option maxRecDepth 100000 in
theorem kraft_call (A : Option Addr) (n c : Nat) (xs : List Int) (w : World) (h1 : n = xs.length) (ha : IntsAt w A xs) (hle : n ≤ 1000000) :
    Calls Try.prog 21 #[.slice A n c] w fun e w' => e = .returned (.int .i64 (kraftP xs)) ∧ RowKit.Below w.heap.size w w' := by
  have H1 : Hid (n = xs.length) := h1
  clear h1
  go_enter Try.func21, Try.ntmps21
  go_wp2
  go_loopg [3, 8] n (fun kx s3 s8 wr => ∃ (k : Nat) (x : Int), k ≤ n ∧ n - k ≤ kx ∧ s8 = .int .i64 k ∧ s3 = .int .i64 x ∧ Hid (x = kraftP (xs.take k)) ∧ RowKit.Below w.heap.size w wr)
  case atStart => exact ⟨0, 0, Nat.zero_le _, Nat.le_refl _, rfl, rfl, (by simp [kraftP] : (0 : Int) = kraftP (xs.take 0)), Below.refl _ _⟩
  case round =>
    obtain ⟨k, x, hk, hkx, rfl, rfl, HE, bel⟩ := hrel
    by_cases hlt : k < n
    · have hltz : (k : Int) < (n : Int) := by omega
      have q1 := H1.out
      obtain ⟨ba, oa, rfl, _, ca⟩ := ha (by omega)
      have l1 := pw_cell_below bel (ca k (by omega))
      have hT := kraftP_take (xs := xs) (k := k) (by omega)
      have hb3 := kraftP_bound (xs.take k)
      rw [List.length_take_of_le (by omega), ← HE.out] at hb3
      rw [← HE.out] at hT
      generalize xs.getD k 0 = X at l1 hT
      have hk1 := kraft1_le X
      have zk : IntKind.i64.wrap ((k : Int) + 1) = (k : Int) + 1 := by rw [IntKind.wrap_i64]; omega
      by_cases hX : 1 ≤ X
      · have d1 : decide (X ≥ 1) = true := decide_eq_true hX
        by_cases hX2 : X ≤ 15
        · have d2 : decide (X ≤ 15) = true := decide_eq_true hX2
          obtain ⟨m, rfl⟩ : ∃ m : Nat, X = (m : Int) := ⟨X.toNat, by omega⟩
          obtain ⟨t, ht⟩ : ∃ t : Nat, (15 : Int) - (m : Int) = (t : Int) := ⟨15 - m, by omega⟩
          have hkv : kraft1 (m : Int) = (2 : Int) ^ t := by
            unfold kraft1
            rw [if_pos ⟨hX, hX2⟩]
            congr 1
            omega
          have zt : IntKind.i64.wrap (15 - (m : Int)) = (t : Int) := by rw [← ht, IntKind.wrap_i64]; omega
          have zt0 : (0 : Int) ≤ (t : Int) := by omega
          have zt64 : (t : Int) ≤ 64 := by omega
          rw [hkv] at hT hk1
          obtain ⟨y, hy⟩ : ∃ y, (2 : Int) ^ t = y := ⟨_, rfl⟩
          rw [hy] at hT hk1
          have zp : IntKind.i64.wrap ((2 : Int) ^ t) = y := by rw [hy, IntKind.wrap_i64]; omega
          have zs : IntKind.i64.wrap (x + y) = x + y := by rw [IntKind.wrap_i64]; omega
          have HT : Hid _ := hT
          clear ca ha hT hb3 hk1 q1 ht hkv hy
          go_wp2
          go_roundg (n - (k + 1))
          case measure => omega
          case rel => exact ⟨k + 1, _, hlt, Nat.le_refl _, rfl, rfl, HT.out.symm, bel⟩
        · have d2 : decide (X ≤ 15) = false := decide_eq_false hX2
          rw [show kraft1 X = 0 from if_neg (fun h => hX2 h.2), Int.add_zero] at hT
          have HT : Hid _ := hT
          clear ca ha hT hb3 hk1 q1
          go_wp2
          go_roundg (n - (k + 1))
          case measure => omega
          case rel => exact ⟨k + 1, _, hlt, Nat.le_refl _, rfl, rfl, HT.out.symm, bel⟩
      · have d1 : decide (X ≥ 1) = false := decide_eq_false hX
        rw [show kraft1 X = 0 from if_neg (fun h => hX h.1), Int.add_zero] at hT
        have HT : Hid _ := hT
        clear ca ha hT hb3 hk1 q1
        go_wp2
        go_roundg (n - (k + 1))
        case measure => omega
        case rel => exact ⟨k + 1, _, hlt, Nat.le_refl _, rfl, rfl, HT.out.symm, bel⟩
    · have hltz : ¬ (k : Int) < (n : Int) := by omega
      obtain rfl : k = n := by omega
      have hfin : Hid (x = kraftP xs) := by show _ = _; rw [HE.out, H1.out, List.take_length]
      clear HE ha
      go_wp2
      go_ret
      exact ⟨by rw [← hfin.out]; rfl, bel⟩

theorem same_aux {xs ys : List Int} (hl : xs.length = ys.length) (h : ∀ j, j < xs.length → xs.getD j 0 = ys.getD j 0) : xs = ys := by
  refine List.ext_getElem hl fun j h1 h2 => ?_
  have := h j h1
  simpa [List.getD_eq_getElem?_getD, h1, h2] using this

set_option maxHeartbeats 2000000 in
set_option maxRecDepth 100000 in
theorem same_call (A V : Option Addr) (n1 n2 c1 c2 : Nat) (xs ys : List Int) (w : World) (h1 : n1 = xs.length) (h2 : n2 = ys.length) (ha : IntsAt w A xs) (hv : IntsAt w V ys) (hle : n1 ≤ 4611686018427387904) (hle2 : n2 ≤ 4611686018427387904) :
    Calls Try.prog 18 #[.slice A n1 c1, .slice V n2 c2] w fun e w' => e = .returned (.bool (decide (xs = ys))) ∧ RowKit.Below w.heap.size w w' := by
  have mixed : Try.prog.follows .mixedOrders = true := by kernel_rfl
  have H1 : Hid (n1 = xs.length) := h1
  have H2 : Hid (n2 = ys.length) := h2
  by_cases hnn : n1 = n2
  · subst hnn
    have hd : ((n1 : Int) != (n1 : Int)) = false := by simp
    clear h1 h2
    go_enter Try.func18, Try.ntmps18
    go_wp2
    go_loopg [5] n1 (fun kx s5 wr => ∃ (k : Nat), k ≤ n1 ∧ n1 - k ≤ kx ∧ s5 = .int .i64 k ∧ Hid (∀ j, j < k → xs.getD j 0 = ys.getD j 0) ∧ RowKit.Below w.heap.size w wr)
    case atStart => exact ⟨0, Nat.zero_le _, Nat.le_refl _, rfl, (fun j hj => absurd hj (Nat.not_lt_zero _) : ∀ j, j < 0 → xs.getD j 0 = ys.getD j 0), Below.refl _ _⟩
    case round =>
      obtain ⟨k, hk, hkx, rfl, HE, bel⟩ := hrel
      by_cases hlt : k < n1
      · have hltz : (k : Int) < (n1 : Int) := by omega
        have q1 := H1.out
        have q2 := H2.out
        obtain ⟨ba, oa, rfl, _, ca⟩ := ha (by omega)
        obtain ⟨bv, ov, rfl, _, cv⟩ := hv (by omega)
        have l1 := pw_cell_below bel (ca k (by omega))
        have l2 := pw_cell_below bel (cv k (by omega))
        have hne : xs.getD k 0 ≠ ys.getD k 0 → xs ≠ ys := fun h e => h (by rw [e])
        have hnx : xs.getD k 0 = ys.getD k 0 → ∀ j, j < k + 1 → xs.getD j 0 = ys.getD j 0 := fun h j hj => by
          by_cases e : j = k
          · rw [e]; exact h
          · exact HE.out j (by omega)
        generalize xs.getD k 0 = X at l1 hne hnx
        generalize ys.getD k 0 = Z at l2 hne hnx
        have zk : IntKind.i64.wrap ((k : Int) + 1) = (k : Int) + 1 := by rw [IntKind.wrap_i64]; omega
        by_cases hXZ : X = Z
        · subst hXZ
          have HN : Hid _ := hnx rfl
          have hdx : (X != X) = false := by simp
          clear ca cv ha hv hne hnx q1 q2 HE
          go_wp2_with fail
          go_quiet_o (fail)
          have bel2 : RowKit.Below w.heap.size w _ := below_drewN' bel nq
          clear bel
          go_wp2
          go_roundg (n1 - (k + 1))
          case measure => omega
          case rel => exact ⟨k + 1, hlt, Nat.le_refl _, rfl, HN, bel2⟩
        · have hfin : Hid (decide (xs = ys) = false) := decide_eq_false (hne hXZ)
          have hdx : (X != Z) = true := by simp [hXZ]
          clear ca cv ha hv hne hnx q1 q2 HE
          go_wp2_with fail
          go_quiet_o (fail)
          have bel2 : RowKit.Below w.heap.size w _ := below_drewN' bel nq
          clear bel
          go_wp2
          go_ret
          exact ⟨by rw [hfin.out]; rfl, bel2⟩
      · have hltz : ¬ (k : Int) < (n1 : Int) := by omega
        obtain rfl : k = n1 := by omega
        have hfin : Hid (decide (xs = ys) = true) := decide_eq_true (same_aux (by rw [← H1.out, ← H2.out]) (fun j hj => HE.out j (by rw [H1.out]; exact hj)))
        clear HE ha hv
        go_wp2
        go_ret
        exact ⟨by rw [hfin.out]; rfl, bel⟩
  · have hfin : Hid (decide (xs = ys) = false) := decide_eq_false (fun e => hnn (by rw [h1, h2, e]))
    have hd : ((n1 : Int) != (n2 : Int)) = true := by simp; omega
    clear h1 h2
    go_enter Try.func18, Try.ntmps18
    go_wp2
    go_ret
    exact ⟨by rw [hfin.out]; rfl, Below.refl _ _⟩
end Go.Proofs.Ythgidcfgelpkhaa
