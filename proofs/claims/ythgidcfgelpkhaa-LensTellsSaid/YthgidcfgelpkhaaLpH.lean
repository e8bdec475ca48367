/- Lengths in order, full room, few symbols. Plain Lean. -/
import Derived.Test.YthgidcfgelpkhaaLpG
namespace Go.Proofs.Ythgidcfgelpkhaa
open Go.Sort

def Fits (most : Nat) (zs : List Int) : Prop := takeN (singleP zs).length ≤ (levelP (singleP zs) (most - 1)).length
theorem fits_of {most : Nat} {zs : List Int} (h1 : 1 ≤ most) (h : (singleP zs).length ≤ 2 ^ most) : Fits most zs := take_fits _ most h1 h
theorem err_zero {mo : Int} {zs : List Int} (h : errP mo zs = 0) : ∃ m : Nat, mo = (m : Int) ∧ 1 ≤ m ∧ m ≤ 15 ∧ badP zs = false ∧ zs.length ≤ 356 ∧ (singleP zs).length ≤ 2 ^ m := by
  unfold errP at h
  by_cases h1 : ((decide (mo < 1) || decide (mo > 15)) || badP zs) = true
  · rw [if_pos h1] at h; cases h
  · rw [if_neg h1] at h
    by_cases h2 : (decide (zs.length > 356) || decide ((singleP zs).length > 2 ^ mo.toNat)) = true
    · rw [if_pos h2] at h; cases h
    · simp only [Bool.or_eq_true, decide_eq_true_eq, not_or] at h1 h2
      exact ⟨mo.toNat, by omega, by omega, by omega, by simpa using h1.2, by omega, by omega⟩
theorem bad_each {zs : List Int} (h : badP zs = false) : ∀ z ∈ zs, 0 ≤ z ∧ z ≤ 1073741824 := by
  intro z hz
  have := List.any_eq_false.1 h z hz
  simp at this
  omega
theorem err_ok {m : Nat} {zs : List Int} (h1 : 1 ≤ m) (h2 : m ≤ 15) (h3 : ∀ z ∈ zs, 0 ≤ z ∧ z ≤ 1073741824) (h4 : zs.length ≤ 356) (h5 : (singleP zs).length ≤ 2 ^ m) : errP (m : Int) zs = 0 := by
  have hb : badP zs = false := by
    unfold badP
    rw [List.any_eq_false]
    intro z hz
    have := h3 z hz
    simp; omega
  unfold errP
  rw [if_neg, if_neg]
  · simp only [Bool.or_eq_true, decide_eq_true_eq, not_or]
    exact ⟨by omega, by show ¬ _ > 2 ^ (m : Int).toNat; rw [Int.toNat_natCast]; omega⟩
  · rw [hb]
    simp; omega
theorem takes_length {most : Nat} (h : 1 ≤ most) (zs : List Int) : (takesP most zs).length = most := by unfold takesP; rw [profN_length]; omega
theorem rank_of {zs : List Int} {s : Nat} (hs : s < zs.length) (h0 : 0 < zs.getD s 0) : ∃ r, ∃ h : r < (symsP zs).length, (symsP zs)[r] = s := List.getElem_of_mem (mem_syms.2 ⟨hs, h0⟩)
theorem lens_le {most : Nat} {zs : List Int} (h1 : 1 ≤ most) (hfit : Fits most zs) : ∀ x ∈ lensP most zs, x ≤ most := by
  intro x hx
  obtain ⟨s, hs, rfl⟩ := List.getElem_of_mem hx
  rw [lensP_length] at hs
  have e : (lensP most zs)[s] = (lensP most zs).getD s 0 := by rw [List.getD_eq_getElem?_getD, List.getElem?_eq_getElem]; rfl
  rw [e]
  by_cases h0 : 0 < zs.getD s 0
  · obtain ⟨r, hr, hrs⟩ := rank_of hs h0
    have := lens_rank hfit hr
    rw [hrs] at this
    rw [this]
    have h2 := lenAt_le (takesP most zs) r
    rw [takes_length h1] at h2
    exact h2
  · rw [lens_none hs h0]; exact Nat.zero_le _
/-- What is there more often never has a longer code. -/
theorem lens_order {most : Nat} {zs : List Int} (hfit : Fits most zs) {i k : Nat} (hi : i < zs.length) (hk : k < zs.length) (h0 : 0 < zs.getD k 0) (hlt : zs.getD k 0 < zs.getD i 0) : (lensP most zs).getD i 0 ≤ (lensP most zs).getD k 0 := by
  obtain ⟨ri, hri, e1⟩ := rank_of hi (by omega)
  obtain ⟨rk, hrk, e2⟩ := rank_of hk h0
  have a1 := lens_rank hfit hri
  have a2 := lens_rank hfit hrk
  have hl : (freqP zs).length = (symsP zs).length := by rw [freq_length, syms_length]
  have b1 := freq_at zs hri (by omega)
  have b2 := freq_at zs hrk (by omega)
  rw [e1] at a1 b1
  rw [e2] at a2 b2
  rw [a1, a2]
  refine lenAt_mono _ (Nat.le_of_not_lt fun hlt' => ?_)
  have := List.pairwise_iff_getElem.1 (freq_order zs) ri rk (by omega) (by omega) hlt'
  omega

theorem head_takes {most : Nat} {zs : List Int} (h2 : 2 ≤ (singleP zs).length) (hfit : Fits most zs) : headN (takesP most zs) = (singleP zs).length := by
  have h := prof_all (freq_order zs) (most - 1) (by rw [freq_length]; exact h2) (by
    rw [level_freq, freq_length]
    unfold Fits takeN at hfit
    rw [if_neg (by omega)] at hfit
    exact hfit)
  rw [freq_length] at h
  unfold takesP takeN
  rw [if_neg (by omega)]
  exact h
theorem lenAt_pos {T : List Nat} {r : Nat} (h : r < headN T) : 0 < lenAt T r := by
  cases T with
  | nil => simp [headN] at h
  | cons t T =>
    simp only [headN, List.headD_cons] at h
    unfold lenAt
    rw [List.countP_cons, if_pos (by simpa using h)]
    omega
theorem room_sum (M : Nat) (T : List Nat) : ∀ c, (roomN M T c : Int) = ((List.range c).map fun r => (2 : Int) ^ (M - lenAt T r)).sum
  | 0 => rfl
  | c + 1 => by
    rw [List.range_succ, List.map_append, List.sum_append, ← room_sum M T c, roomN]
    simp
/-- The lengths leave no room. -/
theorem kraft_full {most : Nat} {zs : List Int} (h1 : 1 ≤ most) (h15 : most ≤ 15) (h2 : 2 ≤ (singleP zs).length) (hfit : Fits most zs) : kraftP (intsOf (lensP most zs)) = 32768 := by
  have hh := head_takes h2 hfit
  have hlen := takes_length h1 zs
  unfold kraftP
  rw [lens_sum hfit kraft1 (by decide), freq_length]
  have hfit' : 2 * (freqP zs).length - 2 ≤ (levelN (freqP zs) (most - 1)).length := by
    rw [level_freq, freq_length]
    have := hfit
    unfold Fits takeN at this
    rw [if_neg (by omega)] at this
    exact this
  have hroom := room_prof (freq_order zs) (most - 1) _ hfit'
  have eT : profN (freqP zs) (most - 1) (2 * (freqP zs).length - 2) = takesP most zs := by
    unfold takesP takeN
    rw [if_neg (by omega), freq_length]
  rw [eT, hh, freq_length, show most - 1 + 1 = most by omega] at hroom
  have e : ((List.range (singleP zs).length).map fun r => kraft1 (lenAt (takesP most zs) r)) = (List.range (singleP zs).length).map fun r => (2 : Int) ^ (15 - most) * (2 : Int) ^ (most - lenAt (takesP most zs) r) := by
    refine List.map_congr_left fun r hr => ?_
    have hr' : r < (singleP zs).length := by simpa using hr
    have p1 := lenAt_pos (T := takesP most zs) (r := r) (by rw [hh]; exact hr')
    have p2 := lenAt_le (takesP most zs) r
    rw [hlen] at p2
    unfold kraft1
    rw [if_pos (by omega), Int.toNat_natCast, ← Int.pow_add]
    congr 1
    omega
  rw [e]
  have hs : ∀ l : List Nat, (l.map fun r => (2 : Int) ^ (15 - most) * (2 : Int) ^ (most - lenAt (takesP most zs) r)).sum = (2 : Int) ^ (15 - most) * (l.map fun r => (2 : Int) ^ (most - lenAt (takesP most zs) r)).sum := by
    intro l
    induction l with
    | nil => simp
    | cons a l ih => simp only [List.map_cons, List.sum_cons, ih, Int.mul_add]
  rw [hs, ← room_sum]
  have hr : roomN most (takesP most zs) (singleP zs).length = 2 ^ most := by
    obtain ⟨q, hq⟩ : ∃ q, most = q + 1 := ⟨most - 1, by omega⟩
    obtain ⟨u, hu⟩ : ∃ u, (singleP zs).length = u + 2 := ⟨(singleP zs).length - 2, by omega⟩
    rw [hu] at hroom ⊢
    rw [hq, Nat.add_sub_cancel, show 2 * (u + 2) - 2 = 2 * u + 2 by omega] at hroom
    rw [hq, Nat.pow_succ]
    generalize roomN (q + 1) (takesP (q + 1) zs) (u + 2) = R at hroom ⊢
    simp only [Nat.add_mul, Nat.mul_add] at hroom
    omega
  rw [hr]
  have : ((2 ^ most : Nat) : Int) = (2 : Int) ^ most := by simp
  rw [this, ← Int.pow_add, show 15 - most + most = 15 by omega]
  rfl

theorem prof_zero (f : List Nat) : ∀ k, ∀ t ∈ profN f k 0, t = 0
  | 0 => by simp [profN]
  | k + 1 => by
    intro t ht
    simp only [profN, tkN, List.mem_cons, Nat.sub_zero, Nat.mul_zero] at ht
    rcases ht with ht | ht
    · exact ht
    · exact prof_zero f k t ht
theorem level_min {f : List Nat} {x : Nat} (h : ∀ y ∈ f, x ≤ y) : ∀ k, ∀ y ∈ levelN f k, x ≤ y
  | 0 => h
  | k + 1 => by
    intro y hy
    rw [levelN, mem_mrg] at hy
    rcases hy with hy | hy
    · exact h y hy
    · have := mem_packN (level_min h k) y hy
      omega
where
  mem_packN {x : Nat} : ∀ {l : List Nat}, (∀ y ∈ l, x ≤ y) → ∀ y ∈ packN l, x + x ≤ y
    | [], _, y, hy => by simp [packN] at hy
    | [_], _, y, hy => by simp [packN] at hy
    | a :: b :: l, h, y, hy => by
      rw [packN] at hy
      have h1 := h a (List.mem_cons_self ..)
      have h2 := h b (List.mem_cons_of_mem _ (List.mem_cons_self ..))
      rcases List.mem_cons.1 hy with hy | hy
      · omega
      · exact mem_packN (fun z hz => h z (List.mem_cons_of_mem _ (List.mem_cons_of_mem _ hz))) y hy
theorem tk_all {n c : Nat} : ∀ (m : Nat) (ys : List Nat), (∀ y ∈ ys, c ≤ y) → tkN n (List.replicate m c) ys = min n m := by
  induction n with
  | zero => intro m ys _; simp [tkN]
  | succ n ih =>
    intro m ys hy
    cases m with
    | zero => simp [tkN]
    | succ m =>
      rw [List.replicate_succ]
      cases ys with
      | nil => rw [tkN, ih m [] (fun y hy => by cases hy)]; omega
      | cons y ys =>
        have h0 := hy y (List.mem_cons_self ..)
        rw [tkN, if_neg (by simp [ltN]; omega), ih m (y :: ys) hy]
        omega
/-- One symbol, or two: a bit each. -/
theorem lens_few {most : Nat} {zs : List Int} (h1 : 1 ≤ most) (h2 : (singleP zs).length ≤ 2) {s : Nat} (hs : s < zs.length) (h0 : 0 < zs.getD s 0) : (lensP most zs).getD s 0 = 1 := by
  have hp : (singleP zs).length ≤ 2 ^ most := Nat.le_trans h2 (Nat.le_trans (by decide) (Nat.pow_le_pow_right (by omega) h1))
  have hfit := fits_of h1 hp
  obtain ⟨r, hr, e⟩ := rank_of hs h0
  have a := lens_rank hfit hr
  rw [e] at a
  rw [a]
  have hrl : r < (singleP zs).length := by rw [← syms_length]; exact hr
  have key : ∃ t T, takesP most zs = t :: T ∧ r < t ∧ ∀ x ∈ T, x = 0 := by
    unfold takesP
    obtain ⟨k, hk⟩ : ∃ k, most - 1 = k := ⟨_, rfl⟩
    rw [hk]
    by_cases hm : (singleP zs).length = 1
    · rw [hm, show takeN 1 = 1 from rfl]
      cases k with
      | zero => exact ⟨1, [], rfl, by omega, fun x hx => by cases hx⟩
      | succ k =>
        obtain ⟨c, hc⟩ := List.length_eq_one_iff.1 (show (freqP zs).length = 1 by rw [freq_length, hm])
        rw [hc, profN]
        have := tk_all (n := 1) (c := c) 1 (packN (levelN [c] k)) (fun y hy => by
          have := level_min.mem_packN (level_min (f := [c]) (x := c) (by simp) k) y hy
          omega)
        rw [show List.replicate 1 c = [c] from rfl] at this
        rw [this]
        exact ⟨1, _, rfl, by omega, prof_zero _ k⟩
    · have hm2 : (singleP zs).length = 2 := by omega
      have hh := head_takes (most := most) (by omega) hfit
      unfold takesP at hh
      rw [hk] at hh
      rw [hm2] at hh ⊢
      rw [show takeN 2 = 2 from rfl] at hh ⊢
      cases k with
      | zero => exact ⟨2, [], rfl, by omega, fun x hx => by cases hx⟩
      | succ k =>
        rw [profN] at hh ⊢
        simp only [headN, List.headD_cons] at hh
        rw [hh]
        exact ⟨2, _, rfl, by omega, prof_zero _ k⟩
  obtain ⟨t, T, hT, hrt, hz⟩ := key
  rw [hT]
  have : lenAt T r = 0 := lenAt_zero (fun x hx => by rw [hz x hx]; exact Nat.zero_le _)
  unfold lenAt at this ⊢
  rw [List.countP_cons, this, if_pos (by simpa using hrt)]
end Go.Proofs.Ythgidcfgelpkhaa
