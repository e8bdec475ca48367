/- A stable merging sort over arrays, step by step as slices.SortStableFunc takes them, in plain Lean: under a strict weak order whose answers on a left and a right element agree with the test, the pieces come out merged. No program in sight. -/
import Derived.Sort.AssemblyPlain
namespace Go.Proofs.Ythgidcfgelpkhaa
open Go.Sort
variable {α : Type} [Inhabited α]

theorem permIn_id (d : Array α) (a b : Nat) : PermIn a b d d := permIn_refl (α := α) d a b
theorem permIn_tr {a b : Nat} {d d' d'' : Array α} (h : PermIn a b d d') (g : PermIn a b d' d'') : PermIn a b d d'' := permIn_trans (α := α) d d' d'' a b h g
theorem permIn_up {a b a' b' : Nat} {d d' : Array α} (ha : a' ≤ a) (hb : b ≤ b') (hs : b' ≤ d.size) (h : PermIn a b d d') : PermIn a' b' d d' := permIn_mono (α := α) d d' a b a' b' ha hb hs h
theorem permIn_swp {a b i j : Nat} {d : Array α} (h1 : a ≤ i) (h2 : i < b) (h3 : a ≤ j) (h4 : j < b) (hs : b ≤ d.size) : PermIn a b d (swp d i j) := swp_permIn (α := α) d a b i j h1 h2 h3 h4 hs
theorem permIn_every {a b : Nat} {d d' : Array α} (p : α → Prop) (hs : b ≤ d.size) (h : PermIn a b d d') (hp : ∀ i, a ≤ i → i < b → p d[i]!) : ∀ i, a ≤ i → i < b → p d'[i]! := permIn_all (α := α) d d' a b p hs h hp

/-! ### Stretches exchanged -/
def swapR : Nat → Nat → Nat → Array α → Array α
  | _, _, 0, d => d
  | a, b, k + 1, d => swapR (a + 1) (b + 1) k (swp d a b)

theorem swapR_perm (lo hi : Nat) : ∀ (k a b : Nat) (d : Array α), lo ≤ a → a + k ≤ hi → lo ≤ b → b + k ≤ hi → hi ≤ d.size → PermIn lo hi d (swapR a b k d)
  | 0, _, _, d, _, _, _, _, _ => permIn_id d _ _
  | k + 1, a, b, d, h1, h2, h3, h4, hs =>
    permIn_tr (permIn_swp h1 (by omega) h3 (by omega) hs) (swapR_perm lo hi k (a + 1) (b + 1) _ (by omega) (by omega) (by omega) (by omega) (by rw [size_swp]; exact hs))

theorem swapR_get : ∀ (k a b : Nat) (d : Array α), a + k ≤ b → b + k ≤ d.size → ∀ t, (swapR a b k d)[t]! = if a ≤ t ∧ t < a + k then d[t - a + b]! else if b ≤ t ∧ t < b + k then d[t - b + a]! else d[t]!
  | 0, a, b, d, _, _, t => by rw [if_neg (by omega), if_neg (by omega)]; rfl
  | k + 1, a, b, d, h1, h2, t => by
    rw [swapR, swapR_get k (a + 1) (b + 1) (swp d a b) (by omega) (by rw [size_swp]; omega) t]
    simp only [swp_get d (show a < d.size by omega) (show b < d.size by omega)]
    by_cases c1 : a + 1 ≤ t ∧ t < a + 1 + k
    · rw [if_pos c1, if_neg (by omega), if_neg (by omega), if_pos (by omega)]; congr 1; omega
    · rw [if_neg c1]
      by_cases c2 : b + 1 ≤ t ∧ t < b + 1 + k
      · rw [if_pos c2, if_neg (by omega), if_neg (by omega), if_neg (by omega), if_pos (by omega)]; congr 1; omega
      · rw [if_neg c2]
        by_cases c3 : t = a
        · subst c3
          rw [if_pos (by omega : t ≤ t ∧ t < t + (k + 1))]
          by_cases c4 : t = b
          · omega
          · first
              | (rw [if_neg c4, if_pos rfl]; congr 1; omega)
              | (rw [if_pos rfl]; congr 1; omega)
        · by_cases c4 : t = b
          · subst c4
            rw [if_neg (by omega : ¬ (a ≤ t ∧ t < a + (k + 1))), if_pos (by omega : t ≤ t ∧ t < t + (k + 1))]
            first
              | (rw [if_pos rfl]; congr 1; omega)
              | (rw [if_neg c3, if_pos rfl]; congr 1; omega)
          · rw [if_neg (by omega : ¬ (a ≤ t ∧ t < a + (k + 1))), if_neg (by omega : ¬ (b ≤ t ∧ t < b + (k + 1)))]
            first
              | rw [if_neg c4, if_neg c3]
              | rw [if_neg c3, if_neg c4]

/-- [a, m) and [m, b) have changed places. -/
structure Turned (a m b : Nat) (d d' : Array α) : Prop where
  perm : PermIn a b d d'
  at' : ∀ t, d'[t]! = if a ≤ t ∧ t < a + (b - m) then d[t - a + m]! else if a + (b - m) ≤ t ∧ t < b then d[t - (a + (b - m)) + a]! else d[t]!

def rotL (m : Nat) : Nat → Nat → Nat → Array α → Array α
  | 0, i, _, d => swapR (m - i) m i d
  | f + 1, i, j, d => if i = j then swapR (m - i) m i d else if j < i then rotL m f (i - j) j (swapR (m - i) m j d) else rotL m f i (j - i) (swapR (m - i) (m + j - i) i d)

theorem rotL_turned (m : Nat) : ∀ (f i j : Nat) (d : Array α), i + j ≤ f → 0 < i → 0 < j → i ≤ m → m + j ≤ d.size → Turned (m - i) m (m + j) d (rotL m f i j d)
  | 0, i, j, d, hf, hi, _, _, _ => by omega
  | f + 1, i, j, d, hf, hi, hj, him, hs => by
    rw [rotL]
    by_cases e : i = j
    · rw [if_pos e]
      subst e
      refine ⟨swapR_perm _ _ i (m - i) m d (Nat.le_refl _) (by omega) (by omega) (by omega) hs, fun t => ?_⟩
      rw [swapR_get i (m - i) m d (by omega) hs t]
      by_cases c1 : m - i ≤ t ∧ t < m - i + i
      · rw [if_pos c1, if_pos (by omega)]
      · rw [if_neg c1]
        by_cases c2 : m ≤ t ∧ t < m + i
        · rw [if_pos c2, if_neg (by omega), if_pos (by omega)]; congr 1; omega
        · rw [if_neg c2, if_neg (by omega), if_neg (by omega)]
    · rw [if_neg e]
      by_cases h : j < i
      · rw [if_pos h]
        have ih := rotL_turned m f (i - j) j (swapR (m - i) m j d) (by omega) (by omega) hj (by omega) (by rw [(swapR_perm (m - i) (m + j) j (m - i) m d (Nat.le_refl _) (by omega) (by omega) (by omega) hs).1]; exact hs)
        have hp := swapR_perm (m - i) (m + j) j (m - i) m d (Nat.le_refl _) (by omega) (by omega) (by omega) hs
        refine ⟨permIn_tr hp (permIn_up (by omega) (Nat.le_refl _) (by rw [hp.1]; exact hs) ih.perm), fun t => ?_⟩
        rw [ih.at' t]
        simp only [swapR_get j (m - i) m d (by omega) hs]
        by_cases c1 : m - i ≤ t ∧ t < m - i + j
        · rw [if_neg (by omega), if_neg (by omega), if_pos c1, if_pos (by omega)]
        · rw [if_neg (by omega : ¬ (m - i ≤ t ∧ t < m - i + (m + j - m)))]
          by_cases c2 : m - (i - j) ≤ t ∧ t < m - (i - j) + (m + j - m)
          · rw [if_pos c2, if_neg (by omega), if_pos (by omega), if_pos (by omega)]; congr 1; omega
          · rw [if_neg c2]
            by_cases c3 : m - (i - j) + (m + j - m) ≤ t ∧ t < m + j
            · rw [if_pos c3, if_neg (by omega), if_neg (by omega), if_pos (by omega)]; congr 1; omega
            · rw [if_neg c3, if_neg c1, if_neg (by omega), if_neg (by omega)]
      · rw [if_neg h]
        have hp := swapR_perm (m - i) (m + j) i (m - i) (m + j - i) d (Nat.le_refl _) (by omega) (by omega) (by omega) hs
        have ih := rotL_turned m f i (j - i) (swapR (m - i) (m + j - i) i d) (by omega) hi (by omega) him (by rw [hp.1]; omega)
        refine ⟨permIn_tr hp (permIn_up (Nat.le_refl _) (by omega) (by rw [hp.1]; exact hs) ih.perm), fun t => ?_⟩
        rw [ih.at' t]
        simp only [swapR_get i (m - i) (m + j - i) d (by omega) (show m + j - i + i ≤ d.size by omega)]
        by_cases c1 : m - i ≤ t ∧ t < m - i + (m + (j - i) - m)
        · rw [if_pos c1, if_pos (by omega : m - i ≤ t ∧ t < m - i + (m + j - m)), if_neg (by omega)]
          by_cases c2 : m + j - i ≤ t - (m - i) + m ∧ t - (m - i) + m < m + j - i + i
          · omega
          · rw [if_neg c2]
        · rw [if_neg c1]
          by_cases c2 : m - i + (m + (j - i) - m) ≤ t ∧ t < m + (j - i)
          · rw [if_pos c2, if_pos (by omega), if_pos (by omega)]; congr 1; omega
          · rw [if_neg c2]
            by_cases c3 : m + j - i ≤ t ∧ t < m + j - i + i
            · rw [if_neg (by omega), if_pos c3, if_neg (by omega), if_pos (by omega)]; congr 1; omega
            · rw [if_neg (by omega), if_neg c3, if_neg (by omega), if_neg (by omega)]

def rot (d : Array α) (a m b : Nat) : Array α := rotL m (b - a) (m - a) (b - m) d

theorem rot_turned (d : Array α) {a m b : Nat} (h1 : a < m) (h2 : m < b) (hs : b ≤ d.size) : Turned a m b d (rot d a m b) := by
  have h := rotL_turned m (b - a) (m - a) (b - m) d (by omega) (by omega) (by omega) (by omega) (by omega)
  rw [show m - (m - a) = a by omega, show m + (b - m) = b by omega] at h
  exact h

theorem turned_none (d : Array α) {a m b : Nat} (h1 : a ≤ m) (h2 : m ≤ b) (h : m = a ∨ m = b) : Turned a m b d d :=
  ⟨permIn_id _ _ _, fun t => by
    rcases h with h | h
    · subst h
      by_cases c : m ≤ t ∧ t < m + (b - m)
      · rw [if_pos c]; congr 1; omega
      · rw [if_neg c, if_neg (by omega)]
    · subst h
      rw [if_neg (by omega)]
      by_cases c : a + (m - m) ≤ t ∧ t < m
      · rw [if_pos c]; congr 1; omega
      · rw [if_neg c]⟩

/-! ### One element carried -/
def upR : Nat → Nat → Array α → Array α
  | _, 0, d => d
  | a, k + 1, d => upR (a + 1) k (swp d a (a + 1))

theorem upR_turned : ∀ (k a : Nat) (d : Array α), a + k < d.size → Turned a (a + 1) (a + 1 + k) d (upR a k d)
  | 0, a, d, _ => turned_none d (by omega) (by omega) (.inr (by omega))
  | k + 1, a, d, h => by
    have ih := upR_turned k (a + 1) (swp d a (a + 1)) (by rw [size_swp]; omega)
    have hp : PermIn a (a + 1 + (k + 1)) d (swp d a (a + 1)) := permIn_swp (by omega) (by omega) (by omega) (by omega) (by omega)
    refine ⟨permIn_tr hp (permIn_up (by omega) (by omega) (by rw [size_swp]; omega) ih.perm), fun t => ?_⟩
    rw [upR, ih.at' t]
    simp only [swp_get d (show a < d.size by omega) (show a + 1 < d.size by omega)]
    by_cases c1 : a + 1 ≤ t ∧ t < a + 1 + (a + 1 + 1 + k - (a + 1 + 1))
    · rw [if_pos c1, if_neg (by omega), if_neg (by omega), if_pos (by omega)]; congr 1; omega
    · rw [if_neg c1]
      by_cases c2 : a + 1 + (a + 1 + 1 + k - (a + 1 + 1)) ≤ t ∧ t < a + 1 + 1 + k
      · rw [if_pos c2, if_pos (by omega), if_neg (by omega), if_pos (by omega)]; congr 1; omega
      · rw [if_neg c2]
        by_cases c3 : t = a
        · subst c3; rw [if_neg (by omega), if_pos rfl, if_pos (by omega)]; congr 1; omega
        · rw [if_neg (by omega), if_neg c3, if_neg (by omega), if_neg (by omega)]

def dnR : Nat → Nat → Array α → Array α
  | _, 0, d => d
  | m, k + 1, d => dnR (m - 1) k (swp d m (m - 1))

theorem dnR_turned : ∀ (k m : Nat) (d : Array α), k ≤ m → m < d.size → Turned (m - k) m (m + 1) d (dnR m k d)
  | 0, m, d, _, _ => turned_none d (by omega) (by omega) (.inl (by omega))
  | k + 1, m, d, h, hs => by
    have ih := dnR_turned k (m - 1) (swp d m (m - 1)) (by omega) (by rw [size_swp]; omega)
    have hp : PermIn (m - (k + 1)) (m + 1) d (swp d m (m - 1)) := permIn_swp (by omega) (by omega) (by omega) (by omega) (by omega)
    refine ⟨permIn_tr hp (permIn_up (by omega) (by omega) (by rw [size_swp]; omega) ih.perm), fun t => ?_⟩
    rw [dnR, ih.at' t]
    simp only [swp_get d (show m < d.size by omega) (show m - 1 < d.size by omega)]
    by_cases c1 : m - 1 - k ≤ t ∧ t < m - 1 - k + (m - 1 + 1 - (m - 1))
    · rw [if_pos c1, if_pos (by omega), if_pos (by omega)]; congr 1; omega
    · rw [if_neg c1]
      by_cases c2 : m - 1 - k + (m - 1 + 1 - (m - 1)) ≤ t ∧ t < m - 1 + 1
      · rw [if_pos c2, if_neg (by omega), if_neg (by omega), if_neg (by omega), if_pos (by omega)]; congr 1; omega
      · rw [if_neg c2]
        by_cases c3 : t = m
        · subst c3; rw [if_neg (by omega), if_pos rfl, if_neg (by omega), if_pos (by omega)]; congr 1; omega
        · rw [if_neg (by omega), if_neg c3, if_neg (by omega), if_neg (by omega)]

/-! ### Halving -/
def halve (q : Nat → Bool) : Nat → Nat → Nat → Nat
  | 0, lo, _ => lo
  | f + 1, lo, hi => if lo < hi then (if q ((lo + hi) / 2) then halve q f ((lo + hi) / 2 + 1) hi else halve q f lo ((lo + hi) / 2)) else lo

theorem halve_spec (q : Nat → Bool) (L H : Nat) (hq : ∀ c e, L ≤ c → c < e → e < H → q e = true → q c = true) : ∀ (f lo hi : Nat), hi - lo ≤ f → L ≤ lo → lo ≤ hi → hi ≤ H → (∀ c, L ≤ c → c < lo → q c = true) → (∀ c, hi ≤ c → c < H → q c = false) →
    lo ≤ halve q f lo hi ∧ halve q f lo hi ≤ hi ∧ (∀ c, L ≤ c → c < halve q f lo hi → q c = true) ∧ (∀ c, halve q f lo hi ≤ c → c < H → q c = false)
  | 0, lo, hi, hf, _, hlh, _, h1, h2 => by
    obtain rfl : lo = hi := by omega
    exact ⟨Nat.le_refl _, Nat.le_refl _, h1, h2⟩
  | f + 1, lo, hi, hf, hL, hlh, hH, h1, h2 => by
    rw [halve]
    by_cases hlt : lo < hi
    · rw [if_pos hlt]
      obtain ⟨c, hc⟩ : ∃ c, (lo + hi) / 2 = c := ⟨_, rfl⟩
      rw [hc]
      cases hqc : q c
      · rw [if_neg (by simp)]
        have := halve_spec q L H hq f lo c (by omega) hL (by omega) (by omega) h1 (fun e he heH => by
          rcases Nat.eq_or_lt_of_le he with rfl | hlt'
          · exact hqc
          · cases hqe : q e
            · rfl
            · rw [hq c e (by omega) hlt' heH hqe] at hqc; cases hqc)
        exact ⟨this.1, by omega, this.2.2⟩
      · rw [if_pos rfl]
        have := halve_spec q L H hq f (c + 1) hi (by omega) (by omega) (by omega) hH (fun e he heH => by
          rcases Nat.eq_or_lt_of_le (Nat.le_of_lt_succ heH) with rfl | hlt'
          · exact hqc
          · exact hq e c he hlt' (by omega) hqc) h2
        exact ⟨by omega, this.2.1, this.2.2⟩
    · rw [if_neg hlt]
      obtain rfl : lo = hi := by omega
      exact ⟨Nat.le_refl _, Nat.le_refl _, h1, h2⟩

theorem halve_ends (q : Nat → Bool) : ∀ (f lo hi : Nat), lo ≤ hi → lo ≤ halve q f lo hi ∧ halve q f lo hi ≤ hi
  | 0, lo, hi, h => ⟨Nat.le_refl _, h⟩
  | f + 1, lo, hi, h => by
    rw [halve]
    split
    · split
      · have := halve_ends q f ((lo + hi) / 2 + 1) hi (by omega); exact ⟨by omega, this.2⟩
      · have := halve_ends q f lo ((lo + hi) / 2) (by omega); exact ⟨this.1, by omega⟩
    · exact ⟨Nat.le_refl _, h⟩

/-! ### Merging -/
section
variable (lt : α → α → Bool)

def symS (d : Array α) (a m b : Nat) : Nat :=
  if (a + b) / 2 < m then halve (fun c => !lt d[(a + b) / 2 + m - 1 - c]! d[c]!) (b - a) ((a + b) / 2 + m - b) ((a + b) / 2)
  else halve (fun c => !lt d[(a + b) / 2 + m - 1 - c]! d[c]!) (b - a) a m

def symT (d : Array α) (a m b : Nat) : Array α :=
  if symS lt d a m b < m ∧ m < (a + b) / 2 + m - symS lt d a m b then rot d (symS lt d a m b) m ((a + b) / 2 + m - symS lt d a m b) else d

def symM : Nat → Nat → Nat → Nat → Array α → Array α
  | 0, _, _, _, d => d
  | f + 1, a, m, b, d =>
    if m - a = 1 then upR a (halve (fun h => lt d[h]! d[a]!) (b - a) m b - 1 - a) d
    else if b - m = 1 then dnR m (m - halve (fun h => !lt d[m]! d[h]!) (b - a) a m) d
    else
      if (a + b) / 2 < (a + b) / 2 + m - symS lt d a m b ∧ (a + b) / 2 + m - symS lt d a m b < b then
        symM f ((a + b) / 2) ((a + b) / 2 + m - symS lt d a m b) b (if a < symS lt d a m b ∧ symS lt d a m b < (a + b) / 2 then symM f a (symS lt d a m b) ((a + b) / 2) (symT lt d a m b) else symT lt d a m b)
      else if a < symS lt d a m b ∧ symS lt d a m b < (a + b) / 2 then symM f a (symS lt d a m b) ((a + b) / 2) (symT lt d a m b) else symT lt d a m b

/-- A left element and a right one: the test says what the order says. -/
def Cross (bef : α → α → Bool) (a m b : Nat) (d : Array α) : Prop := ∀ i j, a ≤ i → i < m → m ≤ j → j < b → lt d[j]! d[i]! = bef d[j]! d[i]!

variable {lt}
variable {bef : α → α → Bool}

theorem sortedIn_le (hO : SWO bef) {a b : Nat} {d : Array α} (h : SortedIn bef a b d) {i j : Nat} (hi : a ≤ i) (hij : i ≤ j) (hj : j < b) : bef d[j]! d[i]! = false := by
  rcases Nat.eq_or_lt_of_le hij with rfl | hlt
  · exact hO.irrefl _
  · exact h i j hi hlt hj

/-- What a turn brings: with the two parts of each half in order, and each of the first half ahead of each of the second. -/
theorem merged_of_turn (hO : SWO bef) {a s m e b : Nat} {d d' : Array α} (h1 : a ≤ s) (h2 : s ≤ m) (h3 : m ≤ e) (h4 : e ≤ b)
    (hl : SortedIn bef a m d) (hr : SortedIn bef m b d) (hT : Turned s m e d d')
    (hA : s = a ∨ e = b ∨ bef d[e]! d[s - 1]! = false) (hB : s = m ∨ e = m ∨ bef d[s]! d[e - 1]! = false) :
    (∀ i, a ≤ i → i < s → d'[i]! = d[i]!) ∧ (∀ i, s ≤ i → i < s + (e - m) → d'[i]! = d[i - s + m]!) ∧ (∀ i, s + (e - m) ≤ i → i < e → d'[i]! = d[i - (s + (e - m)) + s]!) ∧ (∀ i, e ≤ i → d'[i]! = d[i]!) ∧
    (∀ i j, a ≤ i → i < s + (e - m) → s + (e - m) ≤ j → j < b → bef d'[j]! d'[i]! = false) := by
  have g1 : ∀ i, i < s → d'[i]! = d[i]! := fun i hi => by rw [hT.at' i, if_neg (by omega), if_neg (by omega)]
  have g2 : ∀ i, s ≤ i → i < s + (e - m) → d'[i]! = d[i - s + m]! := fun i h h' => by rw [hT.at' i, if_pos ⟨h, h'⟩]
  have g3 : ∀ i, s + (e - m) ≤ i → i < e → d'[i]! = d[i - (s + (e - m)) + s]! := fun i h h' => by rw [hT.at' i, if_neg (by omega), if_pos ⟨h, h'⟩]
  have g4 : ∀ i, e ≤ i → d'[i]! = d[i]! := fun i h => by rw [hT.at' i, if_neg (by omega), if_neg (by omega)]
  refine ⟨fun i _ h => g1 i h, g2, g3, g4, fun i j hi his hj hjb => ?_⟩
  by_cases ci : i < s
  · rw [g1 i ci]
    by_cases cj : j < e
    · rw [g3 j hj cj]; exact sortedIn_le hO hl hi (by omega) (by omega)
    · rw [g4 j (by omega)]
      rcases hA with h | h | h
      · omega
      · omega
      · exact hO.ntrans _ _ _ (sortedIn_le hO hr (by omega) (by omega : e ≤ j) hjb) (hO.ntrans _ _ _ h (sortedIn_le hO hl hi (by omega : i ≤ s - 1) (by omega)))
  · rw [g2 i (by omega) his]
    by_cases cj : j < e
    · rw [g3 j hj cj]
      rcases hB with h | h | h
      · omega
      · omega
      · exact hO.ntrans _ _ _ (sortedIn_le hO hl (by omega) (by omega : s ≤ j - (s + (e - m)) + s) (by omega)) (hO.ntrans _ _ _ h (sortedIn_le hO hr (by omega) (by omega : i - s + m ≤ e - 1) (by omega)))
    · rw [g4 j (by omega)]; exact sortedIn_le hO hr (by omega) (by omega) hjb
end
end Go.Proofs.Ythgidcfgelpkhaa
