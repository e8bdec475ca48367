/- No other lengths that leave no room weigh less. Plain Lean. -/
import Derived.Test.YthgidcfgelpkhaaLpI
namespace Go.Proofs.Ythgidcfgelpkhaa
open Go.Sort

/-- Are these some of those? -/
def Part (l f : List Nat) : Prop := ∃ r, (l ++ r).Perm f
theorem min_sum : ∀ (f l : List Nat), f.Pairwise (· ≤ ·) → Part l f → (f.take l.length).sum ≤ l.sum ∧ l.length ≤ f.length
  | [], l, _, ⟨r, h⟩ => by
    have := List.append_eq_nil_iff.1 (List.Perm.eq_nil h)
    rw [this.1]; simp
  | x :: f, l, hs, ⟨r, h⟩ => by
    have hm : x ∈ l ++ r := h.mem_iff.2 (List.mem_cons_self ..)
    rcases List.mem_append.1 hm with hl | hr
    · have h1 := List.perm_cons_erase hl
      have h2 : Part (l.erase x) f := ⟨r, List.Perm.cons_inv ((h1.symm.append_right r).trans h)⟩
      obtain ⟨i1, i2⟩ := min_sum f _ hs.of_cons h2
      have hlen := h1.length_eq
      have hsum := perm_sumN h1
      rw [List.length_cons] at hlen
      rw [List.sum_cons] at hsum
      rw [hlen, List.take_succ_cons, List.sum_cons, List.length_cons]
      omega
    · have h1 := List.perm_cons_erase hr
      have h2 : Part l f := ⟨r.erase x, List.Perm.cons_inv ((List.perm_middle.symm.trans ((h1.symm.append_left l))).trans h)⟩
      obtain ⟨i1, i2⟩ := min_sum f _ hs.of_cons h2
      refine ⟨?_, by rw [List.length_cons]; omega⟩
      cases hn : l.length with
      | zero => simp
      | succ n =>
        rw [hn] at i1 i2
        have h3 := take_snoc_sum f (n := n) (by omega)
        have h4 : x ≤ f[n]'(by omega) := List.rel_of_pairwise_cons hs (List.getElem_mem _)
        rw [List.take_succ_cons, List.sum_cons]
        omega
theorem Part.sub {l l' f : List Nat} (h : Part l f) (hs : l'.Sublist l) : Part l' f := by
  obtain ⟨r, hr⟩ := h
  obtain ⟨q, hq⟩ := hs.exists_perm_append
  exact ⟨q ++ r, by rw [← List.append_assoc]; exact (hq.symm.append_right r).trans hr⟩

/-- Lengths with their counts: what they weigh, how much room they take. -/
def wtN (ys : List (Nat × Nat)) : Nat := (ys.map fun y => y.1 * y.2).sum
def useN (M : Nat) (ys : List (Nat × Nat)) : Nat := (ys.map fun y => 2 ^ (M - y.1)).sum
/-- Those that are longer than a bit, a bit shorter. -/
def nextN (ys : List (Nat × Nat)) : List (Nat × Nat) := ys.filterMap fun y => if y.1 = 1 then none else some (y.1 - 1, y.2)
def onesN (ys : List (Nat × Nat)) : Nat := ys.countP fun y => decide (y.1 = 1)
theorem next_cons (y : Nat × Nat) (ys : List (Nat × Nat)) : nextN (y :: ys) = if y.1 = 1 then nextN ys else (y.1 - 1, y.2) :: nextN ys := by
  unfold nextN
  rw [List.filterMap_cons]
  by_cases h : y.1 = 1
  · rw [if_pos h, if_pos h]
  · rw [if_neg h, if_neg h]
theorem ones_cons (y : Nat × Nat) (ys : List (Nat × Nat)) : onesN (y :: ys) = onesN ys + if y.1 = 1 then 1 else 0 := by
  unfold onesN
  rw [List.countP_cons]
  by_cases h : y.1 = 1 <;> simp [h]
theorem next_length : ∀ ys : List (Nat × Nat), (nextN ys).length + onesN ys = ys.length
  | [] => rfl
  | y :: ys => by
    have := next_length ys
    rw [next_cons, ones_cons, List.length_cons]
    split
    · omega
    · rw [List.length_cons]; omega
theorem next_use (k : Nat) : ∀ ys : List (Nat × Nat), (∀ y ∈ ys, 1 ≤ y.1) → useN (k + 2) ys = onesN ys * 2 ^ (k + 1) + useN (k + 1) (nextN ys)
  | [], _ => by simp [useN, onesN, nextN]
  | y :: ys, h => by
    have ih := next_use k ys (fun z hz => h z (List.mem_cons_of_mem _ hz))
    have h1 := h y (List.mem_cons_self ..)
    have e : useN (k + 2) (y :: ys) = 2 ^ (k + 2 - y.1) + useN (k + 2) ys := by simp [useN]
    rw [e, ih, next_cons, ones_cons]
    by_cases hy : y.1 = 1
    · rw [if_pos hy, if_pos hy, hy, Nat.add_mul, show k + 2 - 1 = k + 1 by omega]; omega
    · rw [if_neg hy, if_neg hy]
      have e2 : useN (k + 1) ((y.1 - 1, y.2) :: nextN ys) = 2 ^ (k + 1 - (y.1 - 1)) + useN (k + 1) (nextN ys) := by simp [useN]
      rw [e2, show k + 1 - (y.1 - 1) = k + 2 - y.1 by omega]
      simp only [Nat.add_zero]
      omega
theorem next_wt : ∀ ys : List (Nat × Nat), (∀ y ∈ ys, 1 ≤ y.1) → wtN ys = (ys.map (·.2)).sum + wtN (nextN ys)
  | [], _ => by simp [wtN, nextN]
  | y :: ys, h => by
    have ih := next_wt ys (fun z hz => h z (List.mem_cons_of_mem _ hz))
    have h1 := h y (List.mem_cons_self ..)
    have e : wtN (y :: ys) = y.1 * y.2 + wtN ys := by simp [wtN]
    rw [e, ih, next_cons, List.map_cons, List.sum_cons]
    by_cases hy : y.1 = 1
    · rw [if_pos hy, hy]; omega
    · rw [if_neg hy]
      have e2 : wtN ((y.1 - 1, y.2) :: nextN ys) = (y.1 - 1) * y.2 + wtN (nextN ys) := by simp [wtN]
      obtain ⟨q, hq⟩ : ∃ q, y.1 = q + 1 := ⟨y.1 - 1, by omega⟩
      rw [e2, hq, Nat.add_sub_cancel, Nat.add_mul]
      omega
theorem next_mem {k : Nat} {ys : List (Nat × Nat)} (h : ∀ y ∈ ys, 1 ≤ y.1 ∧ y.1 ≤ k + 2) : ∀ y ∈ nextN ys, 1 ≤ y.1 ∧ y.1 ≤ k + 1 := by
  intro y hy
  unfold nextN at hy
  obtain ⟨z, hz, he⟩ := List.mem_filterMap.1 hy
  have := h z hz
  split at he
  · cases he
  · injection he with he
    rw [← he]
    simp only
    omega
theorem next_sub (ys : List (Nat × Nat)) : ((nextN ys).map (·.2)).Sublist (ys.map (·.2)) := by
  induction ys with
  | nil => exact List.Sublist.refl _
  | cons y ys ih =>
    rw [next_cons]
    split
    · rw [List.map_cons]; exact ih.cons _
    · rw [List.map_cons, List.map_cons]; exact ih.cons_cons _
theorem use_le (k : Nat) : ∀ ys : List (Nat × Nat), (∀ y ∈ ys, 1 ≤ y.1) → useN (k + 1) ys ≤ ys.length * 2 ^ k
  | [], _ => by simp [useN]
  | y :: ys, h => by
    have ih := use_le k ys (fun z hz => h z (List.mem_cons_of_mem _ hz))
    have h1 := h y (List.mem_cons_self ..)
    have e : useN (k + 1) (y :: ys) = 2 ^ (k + 1 - y.1) + useN (k + 1) ys := by simp [useN]
    have h2 : 2 ^ (k + 1 - y.1) ≤ 2 ^ k := Nat.pow_le_pow_right (by omega) (by omega)
    rw [e, List.length_cons, Nat.add_mul, Nat.one_mul]
    omega
/-- The bound: so many packages weigh no more. -/
theorem least_cost {f : List Nat} (hf : f.Pairwise (· ≤ ·)) : ∀ (k E : Nat) (ys : List (Nat × Nat)), (∀ y ∈ ys, 1 ≤ y.1 ∧ y.1 ≤ k + 1) → useN (k + 1) ys = E * 2 ^ k → Part (ys.map (·.2)) f →
    E ≤ ys.length ∧ 2 * ys.length - E ≤ (levelN f k).length ∧ costN f k (2 * ys.length - E) ≤ wtN ys
  | 0, E, ys, h1, h2, h3 => by
    have hall : ∀ l : List (Nat × Nat), (∀ y ∈ l, 1 ≤ y.1 ∧ y.1 ≤ 0 + 1) → useN 1 l = l.length ∧ wtN l = (l.map (·.2)).sum := by
      intro l
      induction l with
      | nil => intro _; simp [useN, wtN]
      | cons y l ih =>
        intro h
        obtain ⟨i1, i2⟩ := ih (fun z hz => h z (List.mem_cons_of_mem _ hz))
        have hy := h y (List.mem_cons_self ..)
        have hy1 : y.1 = 1 := by omega
        unfold useN wtN at *
        simp only [List.map_cons, List.sum_cons, List.length_cons, hy1, i1, i2]
        omega
    obtain ⟨a1, a2⟩ := hall ys h1
    rw [a1] at h2
    simp only [Nat.pow_zero, Nat.mul_one] at h2
    obtain ⟨m1, m2⟩ := min_sum f _ hf h3
    rw [List.length_map] at m1 m2
    have e : 2 * ys.length - E = ys.length := by omega
    rw [e, a2]
    exact ⟨by omega, m2, m1⟩
  | k + 1, E, ys, h1, h2, h3 => by
    have hge : ∀ y ∈ ys, 1 ≤ y.1 := fun y hy => (h1 y hy).1
    have hu := next_use k ys hge
    rw [h2] at hu
    have hub := use_le (k + 1) ys hge
    rw [h2] at hub
    have hpos : 0 < 2 ^ (k + 1) := Nat.pow_pos (by omega)
    have hE : E ≤ ys.length := Nat.le_of_mul_le_mul_right hub hpos
    have hb : onesN ys ≤ E := by
      refine Nat.le_of_mul_le_mul_right ?_ hpos
      rw [hu]; exact Nat.le_add_right _ _
    have hu2 : useN (k + 1) (nextN ys) = 2 * (E - onesN ys) * 2 ^ k := by
      have e : E * 2 ^ (k + 1) = onesN ys * 2 ^ (k + 1) + (E - onesN ys) * 2 ^ (k + 1) := by rw [← Nat.add_mul]; congr 1; omega
      rw [e] at hu
      have : (E - onesN ys) * 2 ^ (k + 1) = useN (k + 1) (nextN ys) := by omega
      rw [← this, Nat.pow_succ, Nat.mul_comm 2, Nat.mul_assoc, Nat.mul_comm 2]
    obtain ⟨i1, i2, i3⟩ := least_cost hf k (2 * (E - onesN ys)) (nextN ys) (next_mem h1) hu2 (h3.sub (next_sub ys))
    have hl := next_length ys
    have e1 : 2 * (nextN ys).length - 2 * (E - onesN ys) = 2 * (ys.length - E) := by omega
    rw [e1] at i2 i3
    obtain ⟨m1, m2⟩ := min_sum f _ hf h3
    rw [List.length_map] at m1 m2
    have hc := cost_min hf (k := k) (n := 2 * ys.length - E) (a := ys.length) (p := ys.length - E) (by omega) m2 i2
    have hw := next_wt ys hge
    refine ⟨hE, ?_, by omega⟩
    rw [levelN_length]; omega

/-- No other lengths within the bound that leave no room weigh less. -/
theorem lens_least {mo : Nat} {zs : List Int} {xs : List Nat} (h1 : 1 ≤ mo) (h15 : mo ≤ 15) (hfit : Fits mo zs) (h2 : 2 ≤ (singleP zs).length) (hl : xs.length = zs.length)
    (hx : ∀ s, s < zs.length → 0 < zs.getD s 0 → 1 ≤ xs.getD s 0 ∧ xs.getD s 0 ≤ mo) (hx0 : ∀ s, s < zs.length → ¬ 0 < zs.getD s 0 → xs.getD s 0 = 0) (hk : kraftP (intsOf xs) = 32768) :
    weightP (intsOf (lensP mo zs)) zs ≤ weightP (intsOf xs) zs := by
  have hmem : ∀ s ∈ symsP zs, s < zs.length ∧ 0 < zs.getD s 0 := fun s hs => mem_syms.1 hs
  obtain ⟨k, rfl⟩ : ∃ k, mo = k + 1 := ⟨mo - 1, by omega⟩
  -- the lengths with their counts, by rank
  have hfl : (freqP zs).length = (symsP zs).length := by rw [freq_length, syms_length]
  have hsnd : ((symsP zs).map fun s => (xs.getD s 0, (zs.getD s 0).toNat)).map (·.2) = freqP zs := by
    refine List.ext_getElem (by rw [List.length_map, List.length_map, hfl]) fun r a1 a2 => ?_
    rw [List.getElem_map, List.getElem_map]
    have := freq_at zs (r := r) (by simpa using a1) a2
    simp only
    omega
  have huse : useN (k + 1) ((symsP zs).map fun s => (xs.getD s 0, (zs.getD s 0).toNat)) = 2 * 2 ^ k := by
    have e1 : kraftP (intsOf xs) = ((List.range zs.length).map fun s => kraft1 (xs.getD s 0)).sum := by
      unfold kraftP intsOf
      congr 1
      refine List.ext_getElem (by simp [hl]) fun s a1 a2 => ?_
      have hs : s < xs.length := by simpa using a1
      simp [List.getD_eq_getElem?_getD, hs]
    rw [e1, sum_sub (syms_nodup zs) (fun s hs => (hmem s hs).1) (fun s => kraft1 (xs.getD s 0)) (fun s hs hn => by rw [hx0 s hs (fun h => hn (mem_syms.2 ⟨hs, h⟩))]; decide)] at hk
    have e2 : ∀ l : List Nat, (∀ s ∈ l, s < zs.length ∧ 0 < zs.getD s 0) → (l.map fun s => kraft1 (xs.getD s 0)).sum = ((2 ^ (14 - k) * useN (k + 1) (l.map fun s => (xs.getD s 0, (zs.getD s 0).toNat)) : Nat) : Int) := by
      intro l
      induction l with
      | nil => intro _; simp [useN]
      | cons s l ih =>
        intro h
        have hs := hx s (h s (List.mem_cons_self ..)).1 (h s (List.mem_cons_self ..)).2
        have ih' := ih (fun z hz => h z (List.mem_cons_of_mem _ hz))
        have e3 : useN (k + 1) ((s :: l).map fun s => (xs.getD s 0, (zs.getD s 0).toNat)) = 2 ^ (k + 1 - xs.getD s 0) + useN (k + 1) (l.map fun s => (xs.getD s 0, (zs.getD s 0).toNat)) := by simp [useN]
        rw [e3, List.map_cons, List.sum_cons, ih', Nat.mul_add, ← Nat.pow_add]
        unfold kraft1
        rw [if_pos (by omega), Int.toNat_natCast, show 14 - k + (k + 1 - xs.getD s 0) = 15 - xs.getD s 0 by omega]
        simp
    rw [e2 _ hmem] at hk
    have h3 : 2 ^ (14 - k) * useN (k + 1) ((symsP zs).map fun s => (xs.getD s 0, (zs.getD s 0).toNat)) = 32768 := by omega
    have h4 : 2 ^ (14 - k) * (2 * 2 ^ k) = 32768 := by
      rw [← Nat.pow_succ', ← Nat.pow_add, show 14 - k + (k + 1) = 15 by omega]
    exact Nat.eq_of_mul_eq_mul_left (Nat.pow_pos (by omega)) (h3.trans h4.symm)
  have hmemy : ∀ y ∈ (symsP zs).map fun s => (xs.getD s 0, (zs.getD s 0).toNat), 1 ≤ y.1 ∧ y.1 ≤ k + 1 := by
    intro y hy
    obtain ⟨s, hs, rfl⟩ := List.mem_map.1 hy
    exact hx s (hmem s hs).1 (hmem s hs).2
  obtain ⟨_, _, hc⟩ := least_cost (freq_order zs) k 2 _ hmemy huse ⟨[], by rw [hsnd, List.append_nil]⟩
  rw [List.length_map, syms_length] at hc
  have ho := weight_own hfit
  rw [Nat.add_sub_cancel, freq_length] at ho
  have ht : takeN (singleP zs).length = 2 * (singleP zs).length - 2 := by unfold takeN; rw [if_neg (by omega)]
  rw [ht] at ho
  unfold costN at hc
  rw [ho]
  have hw : weightP (intsOf xs) zs = (wtN ((symsP zs).map fun s => (xs.getD s 0, (zs.getD s 0).toNat)) : Nat) := by
    rw [weightP_range _ _ (by rw [intsOf_length, hl]), sum_sub (syms_nodup zs) (fun s hs => (hmem s hs).1) (fun s => (intsOf xs).getD s 0 * zs.getD s 0) (fun s hs hn => by rw [intsOf_getD, hx0 s hs (fun h => hn (mem_syms.2 ⟨hs, h⟩))]; simp)]
    have : ∀ l : List Nat, (∀ s ∈ l, s < zs.length ∧ 0 < zs.getD s 0) → (l.map fun s => (intsOf xs).getD s 0 * zs.getD s 0).sum = (wtN (l.map fun s => (xs.getD s 0, (zs.getD s 0).toNat)) : Nat) := by
      intro l
      induction l with
      | nil => intro _; simp [wtN]
      | cons s l ih =>
        intro h
        have ih' := ih (fun z hz => h z (List.mem_cons_of_mem _ hz))
        have hs := (h s (List.mem_cons_self ..)).2
        have e3 : wtN ((s :: l).map fun s => (xs.getD s 0, (zs.getD s 0).toNat)) = xs.getD s 0 * (zs.getD s 0).toNat + wtN (l.map fun s => (xs.getD s 0, (zs.getD s 0).toNat)) := by simp [wtN]
        rw [e3, List.map_cons, List.sum_cons, ih', intsOf_getD, Int.natCast_add, Int.natCast_mul, Int.toNat_of_nonneg (by omega)]
    exact this _ hmem
  rw [hw]
  omega
end Go.Proofs.Ythgidcfgelpkhaa
