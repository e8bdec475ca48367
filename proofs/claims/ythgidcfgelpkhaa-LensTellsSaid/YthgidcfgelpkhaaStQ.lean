/- The stable merging sort: pieces merged are in order, and the whole list is the one that a merge sort of the standard kind gives. Plain Lean, no program in sight. -/
import Derived.Test.YthgidcfgelpkhaaStP
namespace Go.Proofs.Ythgidcfgelpkhaa
open Go.Sort
variable {α : Type} [Inhabited α] {lt bef : α → α → Bool}

theorem sorted_join {a c b : Nat} {d : Array α} (h1 : SortedIn bef a c d) (h2 : SortedIn bef c b d) (h : ∀ i j, a ≤ i → i < c → c ≤ j → j < b → bef d[j]! d[i]! = false) : SortedIn bef a b d := by
  intro i j hi hij hj
  by_cases ci : i < c
  · by_cases cj : j < c
    · exact h1 i j hi hij cj
    · exact h i j hi ci (by omega) hj
  · exact h2 i j (by omega) hij hj

theorem sorted_same {a b s : Nat} {d d' : Array α} (h : SortedIn bef s (s + (b - a)) d) (e : ∀ i, a ≤ i → i < b → d'[i]! = d[i - a + s]!) : SortedIn bef a b d' := by
  intro i j hi hij hj
  rw [e i hi (by omega), e j (by omega) hj]
  exact h _ _ (by omega) (by omega) (by omega)

theorem sorted_part {a b a' b' : Nat} {d : Array α} (ha : a ≤ a') (hb : b' ≤ b) (h : SortedIn bef a b d) : SortedIn bef a' b' d := fun i j h1 h2 h3 => h i j (by omega) h2 (by omega)

theorem symS_spec (hO : SWO bef) {a m b : Nat} {d : Array α} (h1 : a < m) (h2 : m < b) (hl : SortedIn bef a m d) (hr : SortedIn bef m b d) (hC : Cross lt bef a m b d) :
    a ≤ symS lt d a m b ∧ symS lt d a m b ≤ m ∧ symS lt d a m b ≤ (a + b) / 2 ∧ (a + b) / 2 + m ≤ b + symS lt d a m b ∧
    (symS lt d a m b = a ∨ (a + b) / 2 + m - symS lt d a m b = b ∨ bef d[(a + b) / 2 + m - symS lt d a m b]! d[symS lt d a m b - 1]! = false) ∧
    (symS lt d a m b = m ∨ (a + b) / 2 + m - symS lt d a m b = m ∨ bef d[symS lt d a m b]! d[(a + b) / 2 + m - symS lt d a m b - 1]! = false) := by
  obtain ⟨mid, hmid⟩ : ∃ x, (a + b) / 2 = x := ⟨_, rfl⟩
  have hmono : ∀ L H, (∀ c, L ≤ c → c < H → a ≤ c ∧ c < m ∧ m ≤ mid + m - 1 - c ∧ mid + m - 1 - c < b) → ∀ c e, L ≤ c → c < e → e < H → (!lt d[mid + m - 1 - e]! d[e]!) = true → (!lt d[mid + m - 1 - c]! d[c]!) = true := by
    intro L H hin c e hLc hce heH hq
    obtain ⟨c1, c2, c3, c4⟩ := hin c hLc (by omega)
    obtain ⟨e1, e2, e3, e4⟩ := hin e (by omega) heH
    rw [Bool.not_eq_true'] at hq ⊢
    rw [hC e _ e1 e2 e3 e4] at hq
    rw [hC c _ c1 c2 c3 c4]
    exact hO.ntrans _ _ _ (sortedIn_le hO hr e3 (by omega : mid + m - 1 - e ≤ mid + m - 1 - c) c4) (hO.ntrans _ _ _ hq (sortedIn_le hO hl c1 (Nat.le_of_lt hce) e2))
  unfold symS
  rw [hmid]
  by_cases hc : mid < m
  · rw [if_pos hc]
    have hin : ∀ c, mid + m - b ≤ c → c < mid → a ≤ c ∧ c < m ∧ m ≤ mid + m - 1 - c ∧ mid + m - 1 - c < b := fun c u v => by omega
    have hs := halve_spec (fun c => !lt d[mid + m - 1 - c]! d[c]!) (mid + m - b) mid (hmono _ _ hin) (b - a) (mid + m - b) mid (by omega) (Nat.le_refl _) (by omega) (Nat.le_refl _) (fun c u v => by omega) (fun c u v => by omega)
    generalize halve (fun c => !lt d[mid + m - 1 - c]! d[c]!) (b - a) (mid + m - b) mid = s at hs ⊢
    obtain ⟨s1, s2, s3, s4⟩ := hs
    refine ⟨by omega, by omega, s2, by omega, ?_, ?_⟩
    · by_cases h : s = mid + m - b
      · exact .inr (.inl (by omega))
      · refine .inr (.inr ?_)
        have := s3 (s - 1) (by omega) (by omega)
        simp only [Bool.not_eq_true'] at this
        rw [hC (s - 1) _ (by omega) (by omega) (by omega) (by omega), show mid + m - 1 - (s - 1) = mid + m - s by omega] at this
        exact this
    · by_cases h : s = mid
      · exact .inr (.inl (by omega))
      · refine .inr (.inr ?_)
        have := s4 s (Nat.le_refl _) (by omega)
        simp only [Bool.not_eq_false'] at this
        rw [hC s _ (by omega) (by omega) (by omega) (by omega), show mid + m - 1 - s = mid + m - s - 1 by omega] at this
        exact hO.asymmA this
  · rw [if_neg hc]
    have hin : ∀ c, a ≤ c → c < m → a ≤ c ∧ c < m ∧ m ≤ mid + m - 1 - c ∧ mid + m - 1 - c < b := fun c u v => by omega
    have hs := halve_spec (fun c => !lt d[mid + m - 1 - c]! d[c]!) a m (hmono _ _ hin) (b - a) a m (by omega) (Nat.le_refl _) (by omega) (Nat.le_refl _) (fun c u v => by omega) (fun c u v => by omega)
    generalize halve (fun c => !lt d[mid + m - 1 - c]! d[c]!) (b - a) a m = s at hs ⊢
    obtain ⟨s1, s2, s3, s4⟩ := hs
    refine ⟨by omega, by omega, by omega, by omega, ?_, ?_⟩
    · by_cases h : s = a
      · exact .inl h
      · refine .inr (.inr ?_)
        have := s3 (s - 1) (by omega) (by omega)
        simp only [Bool.not_eq_true'] at this
        rw [hC (s - 1) _ (by omega) (by omega) (by omega) (by omega), show mid + m - 1 - (s - 1) = mid + m - s by omega] at this
        exact this
    · by_cases h : s = m
      · exact .inl h
      · refine .inr (.inr ?_)
        have := s4 s (Nat.le_refl _) (by omega)
        simp only [Bool.not_eq_false'] at this
        rw [hC s _ (by omega) (by omega) (by omega) (by omega), show mid + m - 1 - s = mid + m - s - 1 by omega] at this
        exact hO.asymmA this

theorem symT_turned {a m b : Nat} {d : Array α} {s e : Nat} (hb : b ≤ d.size) (hs : symS lt d a m b = s) (he : (a + b) / 2 + m - s = e) (h2 : s ≤ m) (h3 : m ≤ e) (h4 : e ≤ b) : Turned s m e d (symT lt d a m b) := by
  unfold symT
  rw [hs, he]
  by_cases h : s < m ∧ m < e
  · rw [if_pos h]; exact rot_turned d h.1 h.2 (by omega)
  · rw [if_neg h]; exact turned_none d h2 h3 (by omega)

theorem symM_sorts (hO : SWO bef) : ∀ (f a m b : Nat) (d : Array α), b - a ≤ f → a < m → m < b → b ≤ d.size → SortedIn bef a m d → SortedIn bef m b d → Cross lt bef a m b d →
    PermIn a b d (symM lt f a m b d) ∧ SortedIn bef a b (symM lt f a m b d)
  | 0, a, m, b, d, hf, h1, h2, _, _, _, _ => by omega
  | f + 1, a, m, b, d, hf, h1, h2, hb, hl, hr, hC => by
    rw [symM]
    by_cases c1 : m - a = 1
    · rw [if_pos c1]
      obtain rfl : m = a + 1 := by omega
      have hs := halve_spec (fun h => lt d[h]! d[a]!) (a + 1) b (fun c e hc hce he hq => by
        rw [hC a c (Nat.le_refl _) (by omega) hc (by omega)]
        rw [hC a e (Nat.le_refl _) (by omega) (by omega) he] at hq
        cases hh : bef d[c]! d[a]!
        · rw [hO.ntrans _ _ _ (hr c e hc hce he) hh] at hq; cases hq
        · rfl) (b - a) (a + 1) b (by omega) (Nat.le_refl _) (by omega) (Nat.le_refl _) (fun c u v => by omega) (fun c u v => by omega)
      generalize halve (fun h => lt d[h]! d[a]!) (b - a) (a + 1) b = i at hs ⊢
      obtain ⟨s1, s2, s3, s4⟩ := hs
      have hT := upR_turned (i - 1 - a) a d (by omega)
      rw [show a + 1 + (i - 1 - a) = i by omega] at hT
      have hm := merged_of_turn hO (Nat.le_refl a) (Nat.le_succ a) s1 s2 hl hr hT (.inl rfl) (by
        by_cases h : i = a + 1
        · exact .inr (.inl h)
        · refine .inr (.inr (hO.asymmA ?_))
          have := s3 (i - 1) (by omega) (by omega)
          rw [hC a _ (Nat.le_refl _) (by omega) (by omega) (by omega)] at this
          exact this)
      refine ⟨permIn_up (Nat.le_refl _) s2 hb hT.perm, sorted_join (c := a + (i - (a + 1))) ?_ ?_ hm.2.2.2.2⟩
      · exact sorted_same (s := a + 1) (sorted_part (Nat.le_refl _) (by omega) hr) hm.2.1
      · intro p q hp hpq hq
        rw [hm.2.2.2.1 q (by omega)]
        by_cases h : p < i
        · rw [hm.2.2.1 p hp h, show p - (a + (i - (a + 1))) + a = a by omega, ← hC a q (Nat.le_refl _) (by omega) (by omega) hq]
          exact s4 q (by omega) hq
        · rw [hm.2.2.2.1 p (by omega)]
          exact hr p q (by omega) hpq hq
    · rw [if_neg c1]
      by_cases c2 : b - m = 1
      · rw [if_pos c2]
        obtain rfl : b = m + 1 := by omega
        have hs := halve_spec (fun h => !lt d[m]! d[h]!) a m (fun c e hc hce he hq => by
          simp only [Bool.not_eq_true'] at hq ⊢
          rw [hC c m hc (by omega) (Nat.le_refl _) (by omega)]
          rw [hC e m (by omega) he (Nat.le_refl _) (by omega)] at hq
          exact hO.ntrans _ _ _ hq (hl c e hc hce he)) (m + 1 - a) a m (by omega) (Nat.le_refl _) (by omega) (Nat.le_refl _) (fun c u v => by omega) (fun c u v => by omega)
        generalize halve (fun h => !lt d[m]! d[h]!) (m + 1 - a) a m = i at hs ⊢
        obtain ⟨s1, s2, s3, s4⟩ := hs
        have hT := dnR_turned (m - i) m d (by omega) (by omega)
        rw [show m - (m - i) = i by omega] at hT
        have hm := merged_of_turn hO s1 s2 (Nat.le_succ m) (Nat.le_refl _) hl hr hT (.inr (.inl rfl)) (by
          by_cases h : i = m
          · exact .inl h
          · refine .inr (.inr (hO.asymmA ?_))
            have := s4 i (Nat.le_refl _) (by omega)
            simp only [Bool.not_eq_false'] at this
            rw [hC i m s1 (by omega) (Nat.le_refl _) (by omega)] at this
            exact this)
        refine ⟨permIn_up s1 (Nat.le_refl _) hb hT.perm, sorted_join (c := i + (m + 1 - m)) ?_ ?_ hm.2.2.2.2⟩
        · intro p q hp hpq hq
          rw [hm.1 p hp (by omega)]
          by_cases h : q < i
          · rw [hm.1 q (by omega) h]; exact hl p q hp hpq (by omega)
          · rw [hm.2.1 q (by omega) hq, show q - i + m = m by omega, ← hC p m hp (by omega) (Nat.le_refl _) (by omega)]
            have := s3 p hp (by omega)
            simp only [Bool.not_eq_true'] at this
            exact this
        · exact sorted_same (s := i) (sorted_part s1 (by omega) hl) hm.2.2.1
      · rw [if_neg c2]
        obtain ⟨mid, hmid⟩ : ∃ x, (a + b) / 2 = x := ⟨_, rfl⟩
        have hS := symS_spec (lt := lt) hO h1 h2 hl hr hC
        obtain ⟨s, hs⟩ : ∃ s, symS lt d a m b = s := ⟨_, rfl⟩
        have hT := symT_turned (lt := lt) (a := a) (m := m) (b := b) (d := d) hb hs rfl (by rw [hs] at hS; exact hS.2.1) (by rw [hs] at hS; omega) (by rw [hs] at hS; omega)
        rw [hs, hmid] at hS
        rw [hs, hmid]
        rw [hmid] at hT
        obtain ⟨e, he⟩ : ∃ e, mid + m - s = e := ⟨_, rfl⟩
        rw [he] at hS hT ⊢
        obtain ⟨t1, t2, t3, t4, t5, t6⟩ := hS
        have hsz : e ≤ b := by omega
        have hmd : s + (e - m) = mid := by omega
        have hm := merged_of_turn hO t1 t2 (by omega) hsz hl hr hT t5 t6
        rw [hmd] at hm
        obtain ⟨g1, g2, g3, g4, g5⟩ := hm
        have hp1 : PermIn a b d (symT lt d a m b) := permIn_up t1 hsz hb hT.perm
        generalize symT lt d a m b = d1 at g1 g2 g3 g4 g5 hp1 ⊢
        clear hT
        have z1 : d1.size = d.size := hp1.1
        -- the first half
        have H2 : ∀ d2, d2 = (if a < s ∧ s < mid then symM lt f a s mid d1 else d1) → PermIn a mid d1 d2 ∧ SortedIn bef a mid d2 := by
          rintro d2 rfl
          by_cases h : a < s ∧ s < mid
          · rw [if_pos h]
            refine symM_sorts hO f a s mid d1 (by omega) h.1 h.2 (by omega) ?_ ?_ ?_
            · intro p q hp hpq hq
              rw [g1 p hp (by omega), g1 q (by omega) hq]; exact hl p q hp hpq (by omega)
            · exact sorted_same (s := m) (sorted_part (Nat.le_refl _) (by omega) hr) g2
            · intro p q hp hps hq hqm
              rw [g1 p hp hps, g2 q hq hqm]; exact hC _ _ hp (by omega) (by omega) (by omega)
          · rw [if_neg h]
            refine ⟨permIn_id _ _ _, ?_⟩
            by_cases h' : s = a
            · subst h'; exact sorted_same (s := m) (sorted_part (Nat.le_refl _) (by omega) hr) g2
            · intro p q hp hpq hq
              rw [g1 p hp (by omega), g1 q (by omega) (by omega)]; exact hl p q hp hpq (by omega)
        obtain ⟨d2, hd2⟩ : ∃ d2, d2 = (if a < s ∧ s < mid then symM lt f a s mid d1 else d1) := ⟨_, rfl⟩
        obtain ⟨hp2, hs2⟩ := H2 d2 hd2
        clear H2
        rw [← hd2]
        clear hd2
        have z2 : d2.size = d1.size := hp2.1
        have k3 : ∀ i, mid ≤ i → i < e → d2[i]! = d[i - mid + s]! := fun i u v => by rw [hp2.2.1 i (.inr u), g3 i u v]
        have k4 : ∀ i, e ≤ i → d2[i]! = d[i]! := fun i u => by rw [hp2.2.1 i (.inr (by omega)), g4 i u]
        have k5 : ∀ i j, a ≤ i → i < mid → mid ≤ j → j < b → bef d2[j]! d2[i]! = false := fun i j u v u' v' => by
          rw [hp2.2.1 j (.inr u')]
          exact permIn_every (fun x => bef d1[j]! x = false) (by omega) hp2 (fun i' x y => g5 i' j x y u' v') i u v
        have H3 : ∀ d3, d3 = (if mid < e ∧ e < b then symM lt f mid e b d2 else d2) → PermIn mid b d2 d3 ∧ SortedIn bef mid b d3 := by
          rintro d3 rfl
          have q1 : SortedIn bef mid e d2 := sorted_same (s := s) (sorted_part t1 (by omega) hl) k3
          have q2 : SortedIn bef e b d2 := fun p q hp hpq hq => by rw [k4 p hp, k4 q (by omega)]; exact hr p q (by omega) hpq hq
          by_cases h : mid < e ∧ e < b
          · rw [if_pos h]
            refine symM_sorts hO f mid e b d2 (by omega) h.1 h.2 (by omega) q1 q2 ?_
            intro p q hp hpe hq hqb
            rw [k3 p hp hpe, k4 q hq]; exact hC _ _ (by omega) (by omega) (by omega) hqb
          · rw [if_neg h]
            refine ⟨permIn_id _ _ _, ?_⟩
            by_cases h' : e = b
            · subst h'; exact q1
            · obtain rfl : e = mid := by omega
              exact q2
        have hite : (if mid < e ∧ e < b then symM lt f mid e b d2 else d2) = (if mid < e ∧ e < b then symM lt f mid e b d2 else d2) := rfl
        obtain ⟨hp3, hs3⟩ := H3 _ hite
        generalize (if mid < e ∧ e < b then symM lt f mid e b d2 else d2) = d3 at hp3 hs3 ⊢
        refine ⟨permIn_tr hp1 (permIn_tr (permIn_up (Nat.le_refl _) (by omega) (by omega) hp2) (permIn_up (by omega) (Nat.le_refl _) (by omega) hp3)), sorted_join (c := mid) ?_ hs3 ?_⟩
        · intro p q hp hpq hq
          rw [hp3.2.1 p (.inl (by omega)), hp3.2.1 q (.inl hq)]; exact hs2 p q hp hpq hq
        · intro p q hp hpm hq hqb
          rw [hp3.2.1 p (.inl hpm)]
          exact permIn_every (fun y => bef y d2[p]! = false) (by omega) hp3 (fun q' x y => k5 p q' hp hpm x y) q hq hqb

/-! ### The insertions -/
theorem insInner_same (a : Nat) : ∀ (j : Nat) (d : Array α), j < d.size → (∀ i, a ≤ i → i < j → lt d[j]! d[i]! = bef d[j]! d[i]!) → insInner lt a j d = insInner bef a j d
  | 0, d, _, _ => rfl
  | j + 1, d, hs, h => by
    unfold insInner
    by_cases hc : j + 1 > a
    · rw [h j (by omega) (by omega)]
      split
      · refine insInner_same a j _ (by rw [size_swp]; omega) fun i hi hij => ?_
        rw [swp_get d hs (by omega), swp_get d hs (by omega), if_pos rfl, if_neg (by omega), if_neg (by omega)]
        exact h i hi (by omega)
      · rfl
    · simp [hc]

theorem insInner_perm (a b i : Nat) (hib : i < b) : ∀ (j : Nat) (d : Array α), j ≤ i → b ≤ d.size → PermIn a b d (insInner bef a j d)
  | 0, d, _, _ => permIn_id _ _ _
  | j + 1, d, hji, hb => by
    unfold insInner
    split
    · rename_i hc
      simp only [Bool.and_eq_true, decide_eq_true_eq] at hc
      exact permIn_tr (permIn_swp (by omega) (by omega) (by omega) (by omega) hb) (insInner_perm a b i hib j _ (by omega) (by rw [size_swp]; exact hb))
    · exact permIn_id _ _ _

theorem insOuter_same (a b : Nat) : ∀ (n i : Nat) (d : Array α), b - i = n → b ≤ d.size → a ≤ i → (∀ i' j, a ≤ i' → i' < j → i ≤ j → j < b → lt d[j]! d[i']! = bef d[j]! d[i']!) → insOuter lt a b i d = insOuter bef a b i d
  | 0, i, d, hn, _, _, _ => by rw [insOuter, if_neg (by omega), insOuter, if_neg (by omega)]
  | n + 1, i, d, hn, hb, hai, h => by
    have hlt : i < b := by omega
    have e1 : ∀ r : α → α → Bool, insOuter r a b i d = insOuter r a b (i + 1) (insInner r a i d) := fun r => by
      conv => lhs; rw [insOuter, if_pos hlt]
    rw [e1 lt, e1 bef, insInner_same (bef := bef) a i d (by omega) (fun i' u v => h i' i u v (Nat.le_refl _) hlt)]
    have hp := insInner_perm (bef := bef) a (i + 1) i (by omega) i d (Nat.le_refl _) (by omega)
    refine insOuter_same a b n (i + 1) _ (by omega) (by rw [hp.1]; exact hb) (by omega) fun i' j u v x y => ?_
    rw [hp.2.1 j (.inr x)]
    by_cases hi : i' < i + 1
    · exact permIn_every (fun z => lt d[j]! z = bef d[j]! z) (by omega) hp (fun k p q => h k j p (by omega) (by omega) y) i' u hi
    · rw [hp.2.1 i' (.inr (by omega))]; exact h i' j u v (by omega) y

theorem ins_sorts (hO : SWO bef) {a b : Nat} {d : Array α} (hab : a ≤ b) (hb : b ≤ d.size) (h : ∀ i j, a ≤ i → i < j → j < b → lt d[j]! d[i]! = bef d[j]! d[i]!) :
    PermIn a b d (insertionSort lt d a b) ∧ SortedIn bef a b (insertionSort lt d a b) := by
  have e : insertionSort lt d a b = insertionSort bef d a b := insOuter_same a b _ (a + 1) d rfl hb (by omega) fun i' j u v _ y => h i' j u v y
  rw [e]
  exact insertionSort_holds hO d a b hab hb
end Go.Proofs.Ythgidcfgelpkhaa
