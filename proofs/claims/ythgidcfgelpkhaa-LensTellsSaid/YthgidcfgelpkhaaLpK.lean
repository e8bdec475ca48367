/- Counts all alike; a count of nothing put in; counts in another order. Plain Lean. -/
import Derived.Test.YthgidcfgelpkhaaLpJ
namespace Go.Proofs.Ythgidcfgelpkhaa
open Go.Sort

/-! ### All alike -/
theorem even_prof {c p m : Nat} (hm : m = 2 ^ p) {r : Nat} (hr : r < m) : ∀ (k j : Nat), 1 ≤ j → j ≤ p + 1 → p + 1 - j ≤ k + 1 → lenAt (profN (List.replicate m c) k (2 * m - 2 ^ j)) r = p + 1 - j
  | 0, j, h1, h2, h3 => by
    by_cases hj : j = p + 1
    · subst hj
      have e : 2 * m - 2 ^ (p + 1) = 0 := by rw [Nat.pow_succ, ← hm]; omega
      rw [e, profN]
      simp [lenAt]
    · obtain rfl : j = p := by omega
      have e : 2 * m - 2 ^ j = m := by rw [← hm]; omega
      rw [e, profN]
      unfold lenAt
      simp [hr]
  | k + 1, j, h1, h2, h3 => by
    by_cases hj : j = p + 1
    · subst hj
      have e : 2 * m - 2 ^ (p + 1) = 0 := by rw [Nat.pow_succ, ← hm]; omega
      rw [e, lenAt_zero (fun t ht => by rw [prof_zero _ _ t ht]; exact Nat.zero_le _)]
      omega
    · have hle : 2 ^ j ≤ m := by rw [hm]; exact Nat.pow_le_pow_right (by omega) (by omega)
      have ht := tk_all (n := 2 * m - 2 ^ j) (c := c) m (packN (levelN (List.replicate m c) k)) (fun y hy => by
        have := level_min.mem_packN (level_min (f := List.replicate m c) (x := c) (by intro y hy; rw [(List.mem_replicate.1 hy).2]; exact Nat.le_refl _) k) y hy
        omega)
      rw [profN, ht, show min (2 * m - 2 ^ j) m = m by omega]
      have e : 2 * (2 * m - 2 ^ j - m) = 2 * m - 2 ^ (j + 1) := by rw [Nat.pow_succ]; omega
      simp only [e]
      have ih := even_prof (c := c) hm hr k (j + 1) (by omega) (by omega) (by omega)
      unfold lenAt at ih ⊢
      rw [List.countP_cons, ih, if_pos (by simpa using hr)]
      omega
theorem lens_even {p : Nat} {c : Int} {zs : List Int} (h1 : 1 ≤ p) (h15 : p ≤ 15) (hall : ∀ z ∈ zs, z = 0 ∨ z = c) (hm : (singleP zs).length = 2 ^ p) {s : Nat} (hs : s < zs.length) (h0 : 0 < zs.getD s 0) : (lensP 15 zs).getD s 0 = p := by
  have hfit : Fits 15 zs := fits_of (by omega) (by rw [hm]; exact Nat.pow_le_pow_right (by omega) h15)
  obtain ⟨r, hr, e⟩ := rank_of hs h0
  have a := lens_rank hfit hr
  rw [e] at a
  rw [a]
  have hf : freqP zs = List.replicate (2 ^ p) c.toNat := by
    rw [List.eq_replicate_iff]
    refine ⟨by rw [freq_length, hm], fun b hb => ?_⟩
    unfold freqP at hb
    obtain ⟨q, hq, rfl⟩ := List.mem_map.1 hb
    obtain ⟨i, hi, hi0, rfl⟩ := single_alone zs q hq
    have hmem : zs.getD i 0 ∈ zs := by rw [List.getD_eq_getElem?_getD, List.getElem?_eq_getElem hi]; exact List.getElem_mem _
    rcases hall _ hmem with h | h
    · omega
    · simp only; rw [h]
  have hr' : r < 2 ^ p := by rw [← hm, ← syms_length]; exact hr
  have hp2 : 2 ≤ 2 ^ p := Nat.le_trans (by decide) (Nat.pow_le_pow_right (by omega) h1)
  have := even_prof (c := c.toNat) (p := p) rfl hr' 14 1 (by omega) (by omega) (by omega)
  unfold takesP takeN
  rw [hf, hm, if_neg (by omega)]
  simpa using this
/-- So many times a count, and zeros behind it. -/
def evenL (c : Int) (g : Nat) : Nat → List Int
  | 0 => []
  | j + 1 => evenL c g j ++ c :: List.replicate g 0
theorem even_length (c : Int) (g : Nat) : ∀ j, (evenL c g j).length = j * (1 + g)
  | 0 => by simp [evenL]
  | j + 1 => by rw [evenL, List.length_append, even_length c g j, List.length_cons, List.length_replicate, Nat.add_mul]; omega
theorem even_mem (c : Int) (g : Nat) : ∀ j, ∀ z ∈ evenL c g j, z = 0 ∨ z = c
  | 0 => by simp [evenL]
  | j + 1 => by
    intro z hz
    rw [evenL, List.mem_append, List.mem_cons, List.mem_replicate] at hz
    rcases hz with hz | hz | hz
    · exact even_mem c g j z hz
    · exact .inr hz
    · exact .inl hz.2
theorem raw_zeros (g : Nat) : ∀ s, rawFrom s (List.replicate g (0 : Int)) = [] := by
  induction g with
  | zero => intro s; rfl
  | succ g ih => intro s; rw [List.replicate_succ, rawFrom, ih]; simp [rawAt]
theorem even_raw {c : Int} (hc : 0 < c) (g : Nat) : ∀ j, (rawFrom 0 (evenL c g j)).length = j
  | 0 => by simp [evenL, rawFrom]
  | j + 1 => by
    rw [evenL, rawFrom_append, List.length_append, even_raw hc g j, rawFrom, raw_zeros, List.append_nil]
    simp [rawAt, hc]
theorem even_sum (c : Int) (g : Nat) : ∀ j : Nat, (evenL c g j).sum = j * c
  | 0 => by simp [evenL]
  | j + 1 => by
    have hz : (List.replicate g (0 : Int)).sum = 0 := by
      induction g with
      | zero => rfl
      | succ g ih => rw [List.replicate_succ, List.sum_cons, ih]; rfl
    rw [evenL, List.sum_append, even_sum c g j, List.sum_cons, hz, Int.natCast_add, Int.add_mul]
    simp
theorem weight_even {p : Nat} {c : Int} {zs : List Int} (h1 : 1 ≤ p) (h15 : p ≤ 15) (hall : ∀ z ∈ zs, z = 0 ∨ z = c) (hc : 0 < c) (hm : (singleP zs).length = 2 ^ p) : weightP (intsOf (lensP 15 zs)) zs = p * zs.sum := by
  rw [weightP_range _ _ (by rw [intsOf_length, lensP_length])]
  have e : (List.range zs.length).map (fun s => (intsOf (lensP 15 zs)).getD s 0 * zs.getD s 0) = (List.range zs.length).map fun s => (p : Int) * zs.getD s 0 := by
    refine List.map_congr_left fun s hs => ?_
    have hs' : s < zs.length := by simpa using hs
    rw [intsOf_getD]
    by_cases h : 0 < zs.getD s 0
    · rw [lens_even h1 h15 hall hm hs' h]
    · have hmem : zs.getD s 0 ∈ zs := by rw [List.getD_eq_getElem?_getD, List.getElem?_eq_getElem hs']; exact List.getElem_mem _
      rcases hall _ hmem with h2 | h2
      · rw [h2]; simp
      · omega
  rw [e]
  have e2 : zs = (List.range zs.length).map fun s => zs.getD s 0 := by
    refine List.ext_getElem (by simp) fun i a b => ?_
    simp [List.getD_eq_getElem?_getD, a]
  conv => rhs; rw [e2]
  generalize List.range zs.length = l
  induction l with
  | nil => simp
  | cons a l ih => simp only [List.map_cons, List.sum_cons, ih, Int.mul_add]

/-! ### A count of nothing -/
def putZ (k : Nat) (zs : List Int) : List Int := zs.take k ++ 0 :: zs.drop k
def shiftP (k s : Nat) : Nat := if s < k then s else s + 1
theorem raw_shift : ∀ (l : List Int) (s : Nat), rawFrom (s + 1) l = (rawFrom s l).map fun p => (p.1, p.2.map (· + 1))
  | [], _ => rfl
  | z :: l, s => by
    rw [rawFrom, rawFrom, List.map_append, raw_shift l (s + 1)]
    congr 1
    unfold rawAt
    split <;> simp
theorem raw_put {k : Nat} {zs : List Int} (hk : k ≤ zs.length) : rawFrom 0 (putZ k zs) = (rawFrom 0 zs).map fun p => (p.1, p.2.map (shiftP k)) := by
  have hl : (zs.take k).length = k := List.length_take_of_le hk
  have e1 : rawFrom 0 (putZ k zs) = rawFrom 0 (zs.take k) ++ rawFrom (k + 1) (zs.drop k) := by
    unfold putZ
    rw [rawFrom_append, hl, Nat.zero_add, rawFrom]
    simp [rawAt]
  have e2 : rawFrom 0 zs = rawFrom 0 (zs.take k) ++ rawFrom k (zs.drop k) := by
    conv => lhs; rw [← List.take_append_drop k zs]
    rw [rawFrom_append, hl, Nat.zero_add]
  rw [e1, e2, List.map_append, raw_shift]
  congr 1
  · conv => lhs; rw [← List.map_id (rawFrom 0 (zs.take k))]
    refine List.map_congr_left fun p hp => ?_
    obtain ⟨i, hi, _, rfl⟩ := raw_alone hp
    rw [hl] at hi
    simp [shiftP, hi]
  · refine List.map_congr_left fun p hp => ?_
    obtain ⟨i, hi, _, rfl⟩ := raw_alone hp
    simp [shiftP]
theorem single_put {k : Nat} {zs : List Int} (hk : k ≤ zs.length) : singleP (putZ k zs) = (singleP zs).map fun p => (p.1, p.2.map (shiftP k)) := by
  unfold singleP
  rw [raw_put hk]
  unfold sortedBy
  symm
  refine List.map_mergeSort fun a _ b _ => rfl
theorem freq_put {k : Nat} {zs : List Int} (hk : k ≤ zs.length) : freqP (putZ k zs) = freqP zs := by
  unfold freqP
  rw [single_put hk, List.map_map]
  rfl
theorem syms_put {k : Nat} {zs : List Int} (hk : k ≤ zs.length) : symsP (putZ k zs) = (symsP zs).map (shiftP k) := by
  unfold symsP
  rw [single_put hk]
  generalize singleP zs = l
  induction l with
  | nil => rfl
  | cons a l ih => rw [List.map_cons, List.flatMap_cons, ih, List.flatMap_cons, List.map_append]
theorem put_length {k : Nat} {zs : List Int} (hk : k ≤ zs.length) : (putZ k zs).length = zs.length + 1 := by
  unfold putZ
  rw [List.length_append, List.length_take_of_le hk, List.length_cons, List.length_drop]; omega
theorem put_at {k s : Nat} {zs : List Int} (hk : k ≤ zs.length) : (putZ k zs).getD (shiftP k s) 0 = zs.getD s 0 := by
  unfold putZ shiftP
  have hl : (zs.take k).length = k := List.length_take_of_le hk
  rw [List.getD_eq_getElem?_getD, List.getD_eq_getElem?_getD]
  by_cases h : s < k
  · rw [if_pos h, List.getElem?_append_left (by omega), List.getElem?_take, if_pos h]
  · rw [if_neg h, List.getElem?_append_right (by omega), hl, show s + 1 - k = (s - k) + 1 by omega, List.getElem?_cons_succ, List.getElem?_drop, show k + (s - k) = s by omega]
theorem put_hole {k : Nat} {zs : List Int} (hk : k ≤ zs.length) : (putZ k zs).getD k 0 = 0 := by
  unfold putZ
  have hl : (zs.take k).length = k := List.length_take_of_le hk
  rw [List.getD_eq_getElem?_getD, List.getElem?_append_right (by omega), hl, Nat.sub_self]
  rfl
theorem single_put_length {k : Nat} {zs : List Int} (hk : k ≤ zs.length) : (singleP (putZ k zs)).length = (singleP zs).length := by rw [single_put hk, List.length_map]
theorem err_put {mo : Int} {k : Nat} {zs : List Int} (hk : k ≤ zs.length) (hl : zs.length ≤ 355) : errP mo (putZ k zs) = errP mo zs := by
  have hb : badP (putZ k zs) = badP zs := by
    have e : badP zs = badP (zs.take k ++ zs.drop k) := by rw [List.take_append_drop]
    rw [e]
    unfold badP putZ
    rw [List.any_append, List.any_append, List.any_cons]
    simp
  unfold errP
  rw [hb, single_put_length hk, put_length hk]
  have a1 : decide (zs.length + 1 > 356) = false := decide_eq_false (by omega)
  have a2 : decide (zs.length > 356) = false := decide_eq_false (by omega)
  rw [a1, a2]
theorem lens_put {most k : Nat} {zs : List Int} (h1 : 1 ≤ most) (hf : (singleP zs).length ≤ 2 ^ most) (hk : k ≤ zs.length) :
    (∀ s, s < zs.length → (lensP most (putZ k zs)).getD (shiftP k s) 0 = (lensP most zs).getD s 0) ∧ (lensP most (putZ k zs)).getD k 0 = 0 := by
  have hfit := fits_of h1 hf
  have hfit2 : Fits most (putZ k zs) := fits_of h1 (by rw [single_put_length hk]; exact hf)
  have hT : takesP most (putZ k zs) = takesP most zs := by unfold takesP; rw [freq_put hk, single_put_length hk]
  have hsh : ∀ s, s < zs.length → shiftP k s < (putZ k zs).length := fun s hs => by rw [put_length hk]; unfold shiftP; split <;> omega
  refine ⟨fun s hs => ?_, lens_none (by rw [put_length hk]; omega) (by rw [put_hole hk]; omega)⟩
  by_cases h0 : 0 < zs.getD s 0
  · obtain ⟨r, hr, e⟩ := rank_of hs h0
    have a := lens_rank hfit hr
    have hr2 : r < (symsP (putZ k zs)).length := by rw [syms_put hk, List.length_map]; exact hr
    have b := lens_rank hfit2 hr2
    have e2 : (symsP (putZ k zs))[r] = shiftP k s := by
      have : (symsP (putZ k zs))[r] = ((symsP zs).map (shiftP k))[r]'(by rw [List.length_map]; exact hr) := by congr 1; exact syms_put hk
      rw [this, List.getElem_map, e]
    rw [e] at a
    rw [e2] at b
    rw [a, b, hT]
  · rw [lens_none hs h0, lens_none (hsh s hs) (by rw [put_at hk]; exact h0)]

/-! ### Another order -/
theorem freq_sorted (zs : List Int) : freqP zs = sortedBy ltN ((rawFrom 0 zs).map (·.1)) := by
  unfold freqP singleP sortedBy
  exact List.map_mergeSort fun a _ b _ => rfl
theorem raw_counts : ∀ (zs : List Int) (s : Nat), (rawFrom s zs).map (·.1) = (zs.filter (fun z => decide (0 < z))).map Int.toNat
  | [], _ => rfl
  | z :: zs, s => by
    rw [rawFrom, List.map_append, raw_counts zs (s + 1), List.filter_cons]
    unfold rawAt
    by_cases h : 0 < z
    · simp [h]
    · simp [h]
theorem sortedN_same {l1 l2 : List Nat} (h : l1.Perm l2) : sortedBy ltN l1 = sortedBy ltN l2 := by
  have o : ∀ l : List Nat, (sortedBy ltN l).Pairwise (· ≤ ·) := fun l => (sortedBy_order swoN l).imp (fun hab => by simpa [ltN] using hab)
  have p : ∀ l : List Nat, (sortedBy ltN l).Perm l := fun l => by unfold sortedBy; exact List.mergeSort_perm _ _
  exact List.Perm.eq_of_pairwise (fun a b _ _ h1 h2 => Nat.le_antisymm h1 h2) (o l1) (o l2) ((p l1).trans (h.trans (p l2).symm))
theorem freq_perm {zs ys : List Int} (h : zs.Perm ys) : freqP zs = freqP ys := by
  rw [freq_sorted, freq_sorted]
  refine sortedN_same ?_
  rw [raw_counts, raw_counts]
  exact (h.filter _).map _
theorem err_perm {mo : Int} {zs ys : List Int} (h : zs.Perm ys) : errP mo zs = errP mo ys := by
  have hb : badP zs = badP ys := by
    unfold badP
    exact Bool.eq_iff_iff.2 (by rw [List.any_eq_true, List.any_eq_true]; exact ⟨fun ⟨x, hx, hq⟩ => ⟨x, h.mem_iff.1 hx, hq⟩, fun ⟨x, hx, hq⟩ => ⟨x, h.mem_iff.2 hx, hq⟩⟩)
  unfold errP
  rw [hb, ← freq_length, ← freq_length, freq_perm h, h.length_eq]
theorem lens_perm {most : Nat} {zs ys : List Int} (h1 : 1 ≤ most) (hf : (singleP zs).length ≤ 2 ^ most) (h : zs.Perm ys) :
    weightP (intsOf (lensP most ys)) ys = weightP (intsOf (lensP most zs)) zs ∧ kraftP (intsOf (lensP most ys)) = kraftP (intsOf (lensP most zs)) := by
  have hl : (singleP ys).length = (singleP zs).length := by rw [← freq_length, ← freq_length, freq_perm h]
  have hfit := fits_of h1 hf
  have hfit2 : Fits most ys := fits_of h1 (by rw [hl]; exact hf)
  refine ⟨by rw [weight_own hfit, weight_own hfit2, freq_perm h], ?_⟩
  unfold kraftP
  rw [lens_sum hfit kraft1 (by decide), lens_sum hfit2 kraft1 (by decide)]
  have hT : takesP most ys = takesP most zs := by unfold takesP; rw [freq_perm h, hl]
  rw [hT, freq_perm h]
end Go.Proofs.Ythgidcfgelpkhaa
