/- What a bound costs. Plain Lean. -/
import Derived.Test.YthgidcfgelpkhaaLpH
namespace Go.Proofs.Ythgidcfgelpkhaa
open Go.Sort

theorem take_snoc_sum (l : List Nat) {n : Nat} (h : n < l.length) : (l.take (n + 1)).sum = (l.take n).sum + l[n] := by
  rw [List.take_succ_eq_append_getElem h, List.sum_append]
  simp
/-- No other choice of as many weighs less than the first of the two lists, merged. -/
theorem mrg_min : ∀ (xs ys : List Nat) (n a p : Nat), xs.Pairwise (· ≤ ·) → ys.Pairwise (· ≤ ·) → a + p = n → a ≤ xs.length → p ≤ ys.length → ((mrg ltN xs ys).take n).sum ≤ (xs.take a).sum + (ys.take p).sum
  | [], ys, n, a, p, _, _, h, ha, _ => by
    have : a = 0 := by simpa using ha
    subst this
    simp [mrg, ← h]
  | x :: xs, [], n, a, p, _, _, h, _, hp => by
    have : p = 0 := by simpa using hp
    subst this
    rw [mrg_nil, ← h]; simp
  | x :: xs, y :: ys, 0, a, p, _, _, h, _, _ => by simp
  | x :: xs, y :: ys, n + 1, a, p, hx, hy, h, ha, hp => by
    rw [mrg]
    cases hc : ltN y x with
    | true =>
      rw [if_pos rfl, List.take_succ_cons, List.sum_cons]
      have hlt : y < x := by simpa [ltN] using hc
      cases p with
      | succ p =>
        have := mrg_min (x :: xs) ys n a p hx hy.of_cons (by omega) ha (by simpa using hp)
        rw [List.take_succ_cons, List.sum_cons]
        omega
      | zero =>
        obtain rfl : a = n + 1 := by omega
        have := mrg_min (x :: xs) ys n n 0 hx hy.of_cons (by omega) (by omega) (by omega)
        have h2 := take_snoc_sum (x :: xs) (n := n) (by omega)
        have h3 : x ≤ (x :: xs)[n]'(by omega) := by
          rcases List.mem_cons.1 (List.getElem_mem (l := x :: xs) (n := n) (by omega)) with q | q
          · omega
          · exact List.rel_of_pairwise_cons hx q
        simp only [List.take_zero, List.sum_nil] at this ⊢
        omega
    | false =>
      rw [if_neg (by decide), List.take_succ_cons, List.sum_cons]
      have hle : x ≤ y := by simpa [ltN] using hc
      cases a with
      | succ a =>
        have := mrg_min xs (y :: ys) n a p hx.of_cons hy (by omega) (by simpa using ha) hp
        rw [List.take_succ_cons, List.sum_cons]
        omega
      | zero =>
        obtain rfl : p = n + 1 := by omega
        have := mrg_min xs (y :: ys) n 0 n hx.of_cons hy (by omega) (by omega) (by omega)
        have h2 := take_snoc_sum (y :: ys) (n := n) (by omega)
        have h3 : y ≤ (y :: ys)[n]'(by omega) := by
          rcases List.mem_cons.1 (List.getElem_mem (l := y :: ys) (n := n) (by omega)) with q | q
          · omega
          · exact List.rel_of_pairwise_cons hy q
        simp only [List.take_zero, List.sum_nil] at this ⊢
        omega
termination_by xs ys => xs.length + ys.length
theorem packN_order {l : List Nat} (h : l.Pairwise (· ≤ ·)) : (packN l).Pairwise (· ≤ ·) := by
  have h1 : InOrder ltP (l.map fun x => ((x, []) : PC)) := by
    unfold InOrder
    rw [List.pairwise_map]
    exact h.imp (fun hab => by simpa [ltP] using hab)
  have h2 := packP_order h1
  have h3 : (packP (l.map fun x => ((x, []) : PC))).map (·.1) = packN l := by rw [packP_map, map_tag]
  rw [← h3, List.pairwise_map]
  exact h2.imp (fun hab => by simpa [ltP] using hab)
theorem mrgN_order {xs ys : List Nat} (hx : xs.Pairwise (· ≤ ·)) (hy : ys.Pairwise (· ≤ ·)) : (mrg ltN xs ys).Pairwise (· ≤ ·) := by
  have o : ∀ {l : List Nat}, l.Pairwise (· ≤ ·) → InOrder ltN l := fun h => h.imp (fun hab => by simpa [ltN] using hab)
  have h1 := insS_mrg swoN (o hx) (o hy)
  have h2 := sortedBy_order swoN (xs ++ ys)
  rw [sortedBy_ins swoN, h1] at h2
  exact h2.imp (fun hab => by simpa [ltN] using hab)
theorem levelN_order {f : List Nat} (h : f.Pairwise (· ≤ ·)) : ∀ k, (levelN f k).Pairwise (· ≤ ·)
  | 0 => h
  | k + 1 => mrgN_order h (packN_order (levelN_order h k))
/-- The weight of the first n of a level. -/
def costN (f : List Nat) (k n : Nat) : Nat := ((levelN f k).take n).sum
theorem cost_min {f : List Nat} (h : f.Pairwise (· ≤ ·)) {k n a p : Nat} (hn : a + p = n) (ha : a ≤ f.length) (hp : 2 * p ≤ (levelN f k).length) : costN f (k + 1) n ≤ (f.take a).sum + costN f k (2 * p) := by
  have := mrg_min f (packN (levelN f k)) n a p h (packN_order (levelN_order h k)) hn ha (by rw [packN_length]; omega)
  rw [pack_sum _ _ hp] at this
  exact this
theorem cost_part (f : List Nat) {k n : Nat} (hn : n ≤ (levelN f (k + 1)).length) : ∃ t p, t + p = n ∧ t ≤ f.length ∧ 2 * p ≤ (levelN f k).length ∧ costN f (k + 1) n = (f.take t).sum + costN f k (2 * p) ∧ profN f (k + 1) n = t :: profN f k (2 * p) := by
  have hle := tkN_le n f (packN (levelN f k))
  have hr := tkN_rest n f (packN (levelN f k)) (by rw [packN_length]; rw [levelN_length] at hn; exact hn)
  rw [packN_length] at hr
  refine ⟨tkN n f (packN (levelN f k)), n - tkN n f (packN (levelN f k)), by omega, hle.2, by omega, ?_, rfl⟩
  unfold costN
  rw [levelN, perm_sumN (takeN_mrg n f (packN (levelN f k))), List.sum_append, pack_sum _ _ (by omega)]
theorem level_grows (f : List Nat) : ∀ k, (levelN f k).length ≤ (levelN f (k + 1)).length
  | 0 => by rw [levelN_length]; show f.length ≤ _; omega
  | k + 1 => by
    have := level_grows f k
    rw [levelN_length, levelN_length f (k + 1)]
    omega
theorem cost_less {f : List Nat} (h : f.Pairwise (· ≤ ·)) : ∀ (k n : Nat), n ≤ (levelN f k).length → costN f (k + 1) n ≤ costN f k n
  | 0, n, hn => by
    have := cost_min h (k := 0) (n := n) (a := n) (p := 0) (by omega) hn (by omega)
    simpa [costN, levelN] using this
  | k + 1, n, hn => by
    obtain ⟨t, p, h1, h2, h3, h4, _⟩ := cost_part f hn
    have hp : 2 * p ≤ (levelN f (k + 1)).length := Nat.le_trans h3 (level_grows f k)
    have a1 := cost_min h (k := k + 1) h1 h2 hp
    have a2 := cost_less h k (2 * p) h3
    omega
theorem cost_same {f : List Nat} (h : f.Pairwise (· ≤ ·)) : ∀ (k n : Nat), n ≤ (levelN f (k + 1)).length → (profN f (k + 1) n).getLastD 0 = 0 → n ≤ (levelN f k).length ∧ costN f k n ≤ costN f (k + 1) n
  | 0, n, hn, hl => by
    obtain ⟨t, p, h1, h2, h3, h4, h5⟩ := cost_part f hn
    rw [h5] at hl
    simp [profN] at hl
    obtain rfl : p = 0 := by omega
    have : t = n := by omega
    subst this
    exact ⟨h2, by rw [h4]; simp [costN, levelN]⟩
  | k + 1, n, hn, hl => by
    obtain ⟨t, p, h1, h2, h3, h4, h5⟩ := cost_part f hn
    rw [h5] at hl
    have hl' : (profN f (k + 1) (2 * p)).getLastD 0 = 0 := by
      have hne : profN f (k + 1) (2 * p) ≠ [] := by
        intro e
        have := profN_length f (k + 1) (2 * p)
        rw [e] at this; simp at this
      cases hp : profN f (k + 1) (2 * p) with
      | nil => exact absurd hp hne
      | cons a l => rw [hp] at hl; simpa using hl
    obtain ⟨i1, i2⟩ := cost_same h k (2 * p) h3 hl'
    have a1 := cost_min h (k := k) h1 h2 i1
    refine ⟨?_, by omega⟩
    rw [levelN_length]; omega
theorem last_zero {f : List Nat} (hs : f.Pairwise (· ≤ ·)) : ∀ (k n : Nat), n ≤ (levelN f k).length → lenAt (profN f k n) 0 < k + 1 → (profN f k n).getLastD 0 = 0
  | 0, n, _, h => by
    simp [profN, lenAt] at h ⊢
    omega
  | k + 1, n, hn, h => by
    obtain ⟨t, p, h1, h2, h3, h4, h5⟩ := cost_part f hn
    have hm := (prof_le hs (k + 1) n hn).1
    rw [h5] at h hm ⊢
    have e : (t :: profN f k (2 * p)).getLastD 0 = (profN f k (2 * p)).getLastD 0 := by
      have hl := profN_length f k (2 * p)
      cases hp : profN f k (2 * p) with
      | nil => rw [hp] at hl; simp at hl
      | cons a l => simp
    rw [e]
    by_cases h0 : t = 0
    · have hall : ∀ x ∈ profN f k (2 * p), x = 0 := fun x hx => by
        have := hm x (List.mem_cons_of_mem _ hx)
        simp only [headN, List.headD_cons] at this
        omega
      have hl := profN_length f k (2 * p)
      cases hp : profN f k (2 * p) with
      | nil => rfl
      | cons a l =>
        rw [hp] at hall
        rw [List.getLastD_cons]
        have := hall (l.getLastD a) (by
          cases l with
          | nil => simp
          | cons b l => rw [List.getLastD_cons]; exact List.mem_cons_of_mem _ (by rw [← List.getLast_eq_getLastD (by simp)]; exact List.getLast_mem _))
        exact this
    · refine last_zero hs k (2 * p) h3 ?_
      unfold lenAt at h ⊢
      rw [List.countP_cons, if_pos (by simp; omega)] at h
      omega
/-- With a lesser bound no lengths weigh less; with one that is not reached, as much. -/
theorem weight_bound {m : Nat} {zs : List Int} (h1 : 1 ≤ m) (hf : (singleP zs).length ≤ 2 ^ m) :
    weightP (intsOf (lensP (m + 1) zs)) zs ≤ weightP (intsOf (lensP m zs)) zs ∧ ((∀ x ∈ lensP (m + 1) zs, x < m + 1) → weightP (intsOf (lensP m zs)) zs = weightP (intsOf (lensP (m + 1) zs)) zs) := by
  have hf2 : (singleP zs).length ≤ 2 ^ (m + 1) := Nat.le_trans hf (Nat.pow_le_pow_right (by omega) (by omega))
  have a1 := weight_own (fits_of h1 hf)
  have a2 := weight_own (fits_of (most := m + 1) (by omega) hf2)
  have b1 := fits_of h1 hf
  have b2 := fits_of (most := m + 1) (by omega) hf2
  unfold Fits at b1 b2
  rw [← level_freq, ← freq_length] at b1 b2
  rw [a1, a2, Nat.add_sub_cancel]
  rw [Nat.add_sub_cancel] at b2
  obtain ⟨k, rfl⟩ : ∃ k, m = k + 1 := ⟨m - 1, by omega⟩
  rw [Nat.add_sub_cancel] at b1 ⊢
  have c1 := cost_less (freq_order zs) k _ b1
  unfold costN at c1
  refine ⟨by omega, fun hall => ?_⟩
  have hlast : (profN (freqP zs) (k + 1) (takeN (freqP zs).length)).getLastD 0 = 0 := by
    refine last_zero (freq_order zs) (k + 1) _ b2 ?_
    rcases Nat.eq_zero_or_pos (singleP zs).length with h0 | h0
    · have hz : takeN (freqP zs).length = 0 := by rw [freq_length, h0]; rfl
      rw [hz, lenAt_zero (fun t ht => by rw [prof_zero _ _ t ht]; exact Nat.le_refl _)]
      omega
    · have hr : 0 < (symsP zs).length := by rw [syms_length]; exact h0
      have hs := (mem_syms.1 (List.getElem_mem hr)).1
      have e := lens_rank (fits_of (most := k + 1 + 1) (by omega) hf2) hr
      have hx := hall ((lensP (k + 1 + 1) zs).getD (symsP zs)[0] 0) (by
        rw [List.getD_eq_getElem?_getD, List.getElem?_eq_getElem (by rw [lensP_length]; exact hs)]
        exact List.getElem_mem _)
      rw [e] at hx
      unfold takesP at hx
      rw [Nat.add_sub_cancel] at hx
      rw [freq_length]
      exact hx
  have c2 := (cost_same (freq_order zs) k _ b2 hlast).2
  unfold costN at c2
  omega
end Go.Proofs.Ythgidcfgelpkhaa
