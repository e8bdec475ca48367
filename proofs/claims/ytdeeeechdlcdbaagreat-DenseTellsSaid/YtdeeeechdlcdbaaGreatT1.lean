/- A stable merging sort over arrays, step by step as slices.SortStableFunc takes them, in plain Lean: under a strict weak order whose answers on a left and a right element agree with the test, the pieces come out merged. No program in sight. -/
import Derived.Sort.AssemblyPlain
import Derived.Test.YtdeeeechdlcdbaaGreatProg
import Derived.Shelf.SlSortCmp.Kit1
import Derived.Sort.WalkB2
import Derived.Sort.WalkB12
import Derived.Deep.LoopGhost
import Derived.Shelf.SlSortCmp.Insertion1
namespace Go.Proofs.YtdeeeechdlcdbaaGreat
open Go.Sort
variable {α : Type} [Inhabited α]

theorem permIn_id (d : Array α) (a b : Nat) : PermIn a b d d := permIn_refl (α := α) d a b
theorem permIn_tr {a b : Nat} {d d' d'' : Array α} (h : PermIn a b d d') (g : PermIn a b d' d'') : PermIn a b d d'' := permIn_trans (α := α) d d' d'' a b h g
theorem permIn_up {a b a' b' : Nat} {d d' : Array α} (ha : a' ≤ a) (hb : b ≤ b') (hs : b' ≤ d.size) (h : PermIn a b d d') : PermIn a' b' d d' := permIn_mono (α := α) d d' a b a' b' ha hb hs h
theorem permIn_swp {a b i j : Nat} {d : Array α} (h1 : a ≤ i) (h2 : i < b) (h3 : a ≤ j) (h4 : j < b) (hs : b ≤ d.size) : PermIn a b d (swp d i j) := swp_permIn (α := α) d a b i j h1 h2 h3 h4 hs
theorem permIn_every {a b : Nat} {d d' : Array α} (p : α → Prop) (hs : b ≤ d.size) (h : PermIn a b d d') (hp : ∀ i, a ≤ i → i < b → p d[i]!) : ∀ i, a ≤ i → i < b → p d'[i]! := permIn_all (α := α) d d' a b p hs h hp

/-! ### Stretches exchanged -/
def swapR : Nat → Nat → Nat → Array α → Array α
  | _, _, 0, d => d
  | a, b, k + 1, d => swapR (a + 1) (b + 1) k (swp d a b)

theorem swapR_perm (lo hi : Nat) : ∀ (k a b : Nat) (d : Array α), lo ≤ a → a + k ≤ hi → lo ≤ b → b + k ≤ hi → hi ≤ d.size → PermIn lo hi d (swapR a b k d)
  | 0, _, _, d, _, _, _, _, _ => permIn_id d _ _
  | k + 1, a, b, d, h1, h2, h3, h4, hs =>
    permIn_tr (permIn_swp h1 (by omega) h3 (by omega) hs) (swapR_perm lo hi k (a + 1) (b + 1) _ (by omega) (by omega) (by omega) (by omega) (by rw [size_swp]; exact hs))

theorem swapR_get : ∀ (k a b : Nat) (d : Array α), a + k ≤ b → b + k ≤ d.size → ∀ t, (swapR a b k d)[t]! = if a ≤ t ∧ t < a + k then d[t - a + b]! else if b ≤ t ∧ t < b + k then d[t - b + a]! else d[t]!
  | 0, a, b, d, _, _, t => by rw [if_neg (by omega), if_neg (by omega)]; rfl
  | k + 1, a, b, d, h1, h2, t => by
    rw [swapR, swapR_get k (a + 1) (b + 1) (swp d a b) (by omega) (by rw [size_swp]; omega) t]
    simp only [swp_get d (show a < d.size by omega) (show b < d.size by omega)]
    by_cases c1 : a + 1 ≤ t ∧ t < a + 1 + k
    · rw [if_pos c1, if_neg (by omega), if_neg (by omega), if_pos (by omega)]; congr 1; omega
    · rw [if_neg c1]
      by_cases c2 : b + 1 ≤ t ∧ t < b + 1 + k
      · rw [if_pos c2, if_neg (by omega), if_neg (by omega), if_neg (by omega), if_pos (by omega)]; congr 1; omega
      · rw [if_neg c2]
        by_cases c3 : t = a
        · subst c3
          rw [if_pos (by omega : t ≤ t ∧ t < t + (k + 1))]
          by_cases c4 : t = b
          · omega
          · first
              | (rw [if_neg c4, if_pos rfl]; congr 1; omega)
              | (rw [if_pos rfl]; congr 1; omega)
        · by_cases c4 : t = b
          · subst c4
            rw [if_neg (by omega : ¬ (a ≤ t ∧ t < a + (k + 1))), if_pos (by omega : t ≤ t ∧ t < t + (k + 1))]
            first
              | (rw [if_pos rfl]; congr 1; omega)
              | (rw [if_neg c3, if_pos rfl]; congr 1; omega)
          · rw [if_neg (by omega : ¬ (a ≤ t ∧ t < a + (k + 1))), if_neg (by omega : ¬ (b ≤ t ∧ t < b + (k + 1)))]
            first
              | rw [if_neg c4, if_neg c3]
              | rw [if_neg c3, if_neg c4]

/-- [a, m) and [m, b) have changed places. -/
structure Turned (a m b : Nat) (d d' : Array α) : Prop where
  perm : PermIn a b d d'
  at' : ∀ t, d'[t]! = if a ≤ t ∧ t < a + (b - m) then d[t - a + m]! else if a + (b - m) ≤ t ∧ t < b then d[t - (a + (b - m)) + a]! else d[t]!

def rotL (m : Nat) : Nat → Nat → Nat → Array α → Array α
  | 0, i, _, d => swapR (m - i) m i d
  | f + 1, i, j, d => if i = j then swapR (m - i) m i d else if j < i then rotL m f (i - j) j (swapR (m - i) m j d) else rotL m f i (j - i) (swapR (m - i) (m + j - i) i d)

theorem rotL_turned (m : Nat) : ∀ (f i j : Nat) (d : Array α), i + j ≤ f → 0 < i → 0 < j → i ≤ m → m + j ≤ d.size → Turned (m - i) m (m + j) d (rotL m f i j d)
  | 0, i, j, d, hf, hi, _, _, _ => by omega
  | f + 1, i, j, d, hf, hi, hj, him, hs => by
    rw [rotL]
    by_cases e : i = j
    · rw [if_pos e]
      subst e
      refine ⟨swapR_perm _ _ i (m - i) m d (Nat.le_refl _) (by omega) (by omega) (by omega) hs, fun t => ?_⟩
      rw [swapR_get i (m - i) m d (by omega) hs t]
      by_cases c1 : m - i ≤ t ∧ t < m - i + i
      · rw [if_pos c1, if_pos (by omega)]
      · rw [if_neg c1]
        by_cases c2 : m ≤ t ∧ t < m + i
        · rw [if_pos c2, if_neg (by omega), if_pos (by omega)]; congr 1; omega
        · rw [if_neg c2, if_neg (by omega), if_neg (by omega)]
    · rw [if_neg e]
      by_cases h : j < i
      · rw [if_pos h]
        have ih := rotL_turned m f (i - j) j (swapR (m - i) m j d) (by omega) (by omega) hj (by omega) (by rw [(swapR_perm (m - i) (m + j) j (m - i) m d (Nat.le_refl _) (by omega) (by omega) (by omega) hs).1]; exact hs)
        have hp := swapR_perm (m - i) (m + j) j (m - i) m d (Nat.le_refl _) (by omega) (by omega) (by omega) hs
        refine ⟨permIn_tr hp (permIn_up (by omega) (Nat.le_refl _) (by rw [hp.1]; exact hs) ih.perm), fun t => ?_⟩
        rw [ih.at' t]
        simp only [swapR_get j (m - i) m d (by omega) hs]
        by_cases c1 : m - i ≤ t ∧ t < m - i + j
        · rw [if_neg (by omega), if_neg (by omega), if_pos c1, if_pos (by omega)]
        · rw [if_neg (by omega : ¬ (m - i ≤ t ∧ t < m - i + (m + j - m)))]
          by_cases c2 : m - (i - j) ≤ t ∧ t < m - (i - j) + (m + j - m)
          · rw [if_pos c2, if_neg (by omega), if_pos (by omega), if_pos (by omega)]; congr 1; omega
          · rw [if_neg c2]
            by_cases c3 : m - (i - j) + (m + j - m) ≤ t ∧ t < m + j
            · rw [if_pos c3, if_neg (by omega), if_neg (by omega), if_pos (by omega)]; congr 1; omega
            · rw [if_neg c3, if_neg c1, if_neg (by omega), if_neg (by omega)]
      · rw [if_neg h]
        have hp := swapR_perm (m - i) (m + j) i (m - i) (m + j - i) d (Nat.le_refl _) (by omega) (by omega) (by omega) hs
        have ih := rotL_turned m f i (j - i) (swapR (m - i) (m + j - i) i d) (by omega) hi (by omega) him (by rw [hp.1]; omega)
        refine ⟨permIn_tr hp (permIn_up (Nat.le_refl _) (by omega) (by rw [hp.1]; exact hs) ih.perm), fun t => ?_⟩
        rw [ih.at' t]
        simp only [swapR_get i (m - i) (m + j - i) d (by omega) (show m + j - i + i ≤ d.size by omega)]
        by_cases c1 : m - i ≤ t ∧ t < m - i + (m + (j - i) - m)
        · rw [if_pos c1, if_pos (by omega : m - i ≤ t ∧ t < m - i + (m + j - m)), if_neg (by omega)]
          by_cases c2 : m + j - i ≤ t - (m - i) + m ∧ t - (m - i) + m < m + j - i + i
          · omega
          · rw [if_neg c2]
        · rw [if_neg c1]
          by_cases c2 : m - i + (m + (j - i) - m) ≤ t ∧ t < m + (j - i)
          · rw [if_pos c2, if_pos (by omega), if_pos (by omega)]; congr 1; omega
          · rw [if_neg c2]
            by_cases c3 : m + j - i ≤ t ∧ t < m + j - i + i
            · rw [if_neg (by omega), if_pos c3, if_neg (by omega), if_pos (by omega)]; congr 1; omega
            · rw [if_neg (by omega), if_neg c3, if_neg (by omega), if_neg (by omega)]

def rot (d : Array α) (a m b : Nat) : Array α := rotL m (b - a) (m - a) (b - m) d

theorem rot_turned (d : Array α) {a m b : Nat} (h1 : a < m) (h2 : m < b) (hs : b ≤ d.size) : Turned a m b d (rot d a m b) := by
  have h := rotL_turned m (b - a) (m - a) (b - m) d (by omega) (by omega) (by omega) (by omega) (by omega)
  rw [show m - (m - a) = a by omega, show m + (b - m) = b by omega] at h
  exact h

theorem turned_none (d : Array α) {a m b : Nat} (h1 : a ≤ m) (h2 : m ≤ b) (h : m = a ∨ m = b) : Turned a m b d d :=
  ⟨permIn_id _ _ _, fun t => by
    rcases h with h | h
    · subst h
      by_cases c : m ≤ t ∧ t < m + (b - m)
      · rw [if_pos c]; congr 1; omega
      · rw [if_neg c, if_neg (by omega)]
    · subst h
      rw [if_neg (by omega)]
      by_cases c : a + (m - m) ≤ t ∧ t < m
      · rw [if_pos c]; congr 1; omega
      · rw [if_neg c]⟩

/-! ### One element carried -/
def upR : Nat → Nat → Array α → Array α
  | _, 0, d => d
  | a, k + 1, d => upR (a + 1) k (swp d a (a + 1))

theorem upR_turned : ∀ (k a : Nat) (d : Array α), a + k < d.size → Turned a (a + 1) (a + 1 + k) d (upR a k d)
  | 0, a, d, _ => turned_none d (by omega) (by omega) (.inr (by omega))
  | k + 1, a, d, h => by
    have ih := upR_turned k (a + 1) (swp d a (a + 1)) (by rw [size_swp]; omega)
    have hp : PermIn a (a + 1 + (k + 1)) d (swp d a (a + 1)) := permIn_swp (by omega) (by omega) (by omega) (by omega) (by omega)
    refine ⟨permIn_tr hp (permIn_up (by omega) (by omega) (by rw [size_swp]; omega) ih.perm), fun t => ?_⟩
    rw [upR, ih.at' t]
    simp only [swp_get d (show a < d.size by omega) (show a + 1 < d.size by omega)]
    by_cases c1 : a + 1 ≤ t ∧ t < a + 1 + (a + 1 + 1 + k - (a + 1 + 1))
    · rw [if_pos c1, if_neg (by omega), if_neg (by omega), if_pos (by omega)]; congr 1; omega
    · rw [if_neg c1]
      by_cases c2 : a + 1 + (a + 1 + 1 + k - (a + 1 + 1)) ≤ t ∧ t < a + 1 + 1 + k
      · rw [if_pos c2, if_pos (by omega), if_neg (by omega), if_pos (by omega)]; congr 1; omega
      · rw [if_neg c2]
        by_cases c3 : t = a
        · subst c3; rw [if_neg (by omega), if_pos rfl, if_pos (by omega)]; congr 1; omega
        · rw [if_neg (by omega), if_neg c3, if_neg (by omega), if_neg (by omega)]

def dnR : Nat → Nat → Array α → Array α
  | _, 0, d => d
  | m, k + 1, d => dnR (m - 1) k (swp d m (m - 1))

theorem dnR_turned : ∀ (k m : Nat) (d : Array α), k ≤ m → m < d.size → Turned (m - k) m (m + 1) d (dnR m k d)
  | 0, m, d, _, _ => turned_none d (by omega) (by omega) (.inl (by omega))
  | k + 1, m, d, h, hs => by
    have ih := dnR_turned k (m - 1) (swp d m (m - 1)) (by omega) (by rw [size_swp]; omega)
    have hp : PermIn (m - (k + 1)) (m + 1) d (swp d m (m - 1)) := permIn_swp (by omega) (by omega) (by omega) (by omega) (by omega)
    refine ⟨permIn_tr hp (permIn_up (by omega) (by omega) (by rw [size_swp]; omega) ih.perm), fun t => ?_⟩
    rw [dnR, ih.at' t]
    simp only [swp_get d (show m < d.size by omega) (show m - 1 < d.size by omega)]
    by_cases c1 : m - 1 - k ≤ t ∧ t < m - 1 - k + (m - 1 + 1 - (m - 1))
    · rw [if_pos c1, if_pos (by omega), if_pos (by omega)]; congr 1; omega
    · rw [if_neg c1]
      by_cases c2 : m - 1 - k + (m - 1 + 1 - (m - 1)) ≤ t ∧ t < m - 1 + 1
      · rw [if_pos c2, if_neg (by omega), if_neg (by omega), if_neg (by omega), if_pos (by omega)]; congr 1; omega
      · rw [if_neg c2]
        by_cases c3 : t = m
        · subst c3; rw [if_neg (by omega), if_pos rfl, if_neg (by omega), if_pos (by omega)]; congr 1; omega
        · rw [if_neg (by omega), if_neg c3, if_neg (by omega), if_neg (by omega)]

/-! ### Halving -/
def halve (q : Nat → Bool) : Nat → Nat → Nat → Nat
  | 0, lo, _ => lo
  | f + 1, lo, hi => if lo < hi then (if q ((lo + hi) / 2) then halve q f ((lo + hi) / 2 + 1) hi else halve q f lo ((lo + hi) / 2)) else lo

theorem halve_spec (q : Nat → Bool) (L H : Nat) (hq : ∀ c e, L ≤ c → c < e → e < H → q e = true → q c = true) : ∀ (f lo hi : Nat), hi - lo ≤ f → L ≤ lo → lo ≤ hi → hi ≤ H → (∀ c, L ≤ c → c < lo → q c = true) → (∀ c, hi ≤ c → c < H → q c = false) →
    lo ≤ halve q f lo hi ∧ halve q f lo hi ≤ hi ∧ (∀ c, L ≤ c → c < halve q f lo hi → q c = true) ∧ (∀ c, halve q f lo hi ≤ c → c < H → q c = false)
  | 0, lo, hi, hf, _, hlh, _, h1, h2 => by
    obtain rfl : lo = hi := by omega
    exact ⟨Nat.le_refl _, Nat.le_refl _, h1, h2⟩
  | f + 1, lo, hi, hf, hL, hlh, hH, h1, h2 => by
    rw [halve]
    by_cases hlt : lo < hi
    · rw [if_pos hlt]
      obtain ⟨c, hc⟩ : ∃ c, (lo + hi) / 2 = c := ⟨_, rfl⟩
      rw [hc]
      cases hqc : q c
      · rw [if_neg (by simp)]
        have := halve_spec q L H hq f lo c (by omega) hL (by omega) (by omega) h1 (fun e he heH => by
          rcases Nat.eq_or_lt_of_le he with rfl | hlt'
          · exact hqc
          · cases hqe : q e
            · rfl
            · rw [hq c e (by omega) hlt' heH hqe] at hqc; cases hqc)
        exact ⟨this.1, by omega, this.2.2⟩
      · rw [if_pos rfl]
        have := halve_spec q L H hq f (c + 1) hi (by omega) (by omega) (by omega) hH (fun e he heH => by
          rcases Nat.eq_or_lt_of_le (Nat.le_of_lt_succ heH) with rfl | hlt'
          · exact hqc
          · exact hq e c he hlt' (by omega) hqc) h2
        exact ⟨by omega, this.2.1, this.2.2⟩
    · rw [if_neg hlt]
      obtain rfl : lo = hi := by omega
      exact ⟨Nat.le_refl _, Nat.le_refl _, h1, h2⟩

theorem halve_ends (q : Nat → Bool) : ∀ (f lo hi : Nat), lo ≤ hi → lo ≤ halve q f lo hi ∧ halve q f lo hi ≤ hi
  | 0, lo, hi, h => ⟨Nat.le_refl _, h⟩
  | f + 1, lo, hi, h => by
    rw [halve]
    split
    · split
      · have := halve_ends q f ((lo + hi) / 2 + 1) hi (by omega); exact ⟨by omega, this.2⟩
      · have := halve_ends q f lo ((lo + hi) / 2) (by omega); exact ⟨this.1, by omega⟩
    · exact ⟨Nat.le_refl _, h⟩

/-! ### Merging -/
section
variable (lt : α → α → Bool)

def symS (d : Array α) (a m b : Nat) : Nat :=
  if (a + b) / 2 < m then halve (fun c => !lt d[(a + b) / 2 + m - 1 - c]! d[c]!) (b - a) ((a + b) / 2 + m - b) ((a + b) / 2)
  else halve (fun c => !lt d[(a + b) / 2 + m - 1 - c]! d[c]!) (b - a) a m

def symT (d : Array α) (a m b : Nat) : Array α :=
  if symS lt d a m b < m ∧ m < (a + b) / 2 + m - symS lt d a m b then rot d (symS lt d a m b) m ((a + b) / 2 + m - symS lt d a m b) else d

def symM : Nat → Nat → Nat → Nat → Array α → Array α
  | 0, _, _, _, d => d
  | f + 1, a, m, b, d =>
    if m - a = 1 then upR a (halve (fun h => lt d[h]! d[a]!) (b - a) m b - 1 - a) d
    else if b - m = 1 then dnR m (m - halve (fun h => !lt d[m]! d[h]!) (b - a) a m) d
    else
      if (a + b) / 2 < (a + b) / 2 + m - symS lt d a m b ∧ (a + b) / 2 + m - symS lt d a m b < b then
        symM f ((a + b) / 2) ((a + b) / 2 + m - symS lt d a m b) b (if a < symS lt d a m b ∧ symS lt d a m b < (a + b) / 2 then symM f a (symS lt d a m b) ((a + b) / 2) (symT lt d a m b) else symT lt d a m b)
      else if a < symS lt d a m b ∧ symS lt d a m b < (a + b) / 2 then symM f a (symS lt d a m b) ((a + b) / 2) (symT lt d a m b) else symT lt d a m b

/-- A left element and a right one: the test says what the order says. -/
def Cross (bef : α → α → Bool) (a m b : Nat) (d : Array α) : Prop := ∀ i j, a ≤ i → i < m → m ≤ j → j < b → lt d[j]! d[i]! = bef d[j]! d[i]!

variable {lt}
variable {bef : α → α → Bool}

theorem sortedIn_le (hO : SWO bef) {a b : Nat} {d : Array α} (h : SortedIn bef a b d) {i j : Nat} (hi : a ≤ i) (hij : i ≤ j) (hj : j < b) : bef d[j]! d[i]! = false := by
  rcases Nat.eq_or_lt_of_le hij with rfl | hlt
  · exact hO.irrefl _
  · exact h i j hi hlt hj

/-- What a turn brings: with the two parts of each half in order, and each of the first half ahead of each of the second. -/
theorem merged_of_turn (hO : SWO bef) {a s m e b : Nat} {d d' : Array α} (h1 : a ≤ s) (h2 : s ≤ m) (h3 : m ≤ e) (h4 : e ≤ b)
    (hl : SortedIn bef a m d) (hr : SortedIn bef m b d) (hT : Turned s m e d d')
    (hA : s = a ∨ e = b ∨ bef d[e]! d[s - 1]! = false) (hB : s = m ∨ e = m ∨ bef d[s]! d[e - 1]! = false) :
    (∀ i, a ≤ i → i < s → d'[i]! = d[i]!) ∧ (∀ i, s ≤ i → i < s + (e - m) → d'[i]! = d[i - s + m]!) ∧ (∀ i, s + (e - m) ≤ i → i < e → d'[i]! = d[i - (s + (e - m)) + s]!) ∧ (∀ i, e ≤ i → d'[i]! = d[i]!) ∧
    (∀ i j, a ≤ i → i < s + (e - m) → s + (e - m) ≤ j → j < b → bef d'[j]! d'[i]! = false) := by
  have g1 : ∀ i, i < s → d'[i]! = d[i]! := fun i hi => by rw [hT.at' i, if_neg (by omega), if_neg (by omega)]
  have g2 : ∀ i, s ≤ i → i < s + (e - m) → d'[i]! = d[i - s + m]! := fun i h h' => by rw [hT.at' i, if_pos ⟨h, h'⟩]
  have g3 : ∀ i, s + (e - m) ≤ i → i < e → d'[i]! = d[i - (s + (e - m)) + s]! := fun i h h' => by rw [hT.at' i, if_neg (by omega), if_pos ⟨h, h'⟩]
  have g4 : ∀ i, e ≤ i → d'[i]! = d[i]! := fun i h => by rw [hT.at' i, if_neg (by omega), if_neg (by omega)]
  refine ⟨fun i _ h => g1 i h, g2, g3, g4, fun i j hi his hj hjb => ?_⟩
  by_cases ci : i < s
  · rw [g1 i ci]
    by_cases cj : j < e
    · rw [g3 j hj cj]; exact sortedIn_le hO hl hi (by omega) (by omega)
    · rw [g4 j (by omega)]
      rcases hA with h | h | h
      · omega
      · omega
      · exact hO.ntrans _ _ _ (sortedIn_le hO hr (by omega) (by omega : e ≤ j) hjb) (hO.ntrans _ _ _ h (sortedIn_le hO hl hi (by omega : i ≤ s - 1) (by omega)))
  · rw [g2 i (by omega) his]
    by_cases cj : j < e
    · rw [g3 j hj cj]
      rcases hB with h | h | h
      · omega
      · omega
      · exact hO.ntrans _ _ _ (sortedIn_le hO hl (by omega) (by omega : s ≤ j - (s + (e - m)) + s) (by omega)) (hO.ntrans _ _ _ h (sortedIn_le hO hr (by omega) (by omega : i - s + m ≤ e - 1) (by omega)))
    · rw [g4 j (by omega)]; exact sortedIn_le hO hr (by omega) (by omega) hjb
end
end Go.Proofs.YtdeeeechdlcdbaaGreat
/- The stable merging sort: pieces merged are in order, and the whole list is the one that a merge sort of the standard kind gives. Plain Lean, no program in sight. -/
namespace Go.Proofs.YtdeeeechdlcdbaaGreat
open Go.Sort
variable {α : Type} [Inhabited α] {lt bef : α → α → Bool}

theorem sorted_join {a c b : Nat} {d : Array α} (h1 : SortedIn bef a c d) (h2 : SortedIn bef c b d) (h : ∀ i j, a ≤ i → i < c → c ≤ j → j < b → bef d[j]! d[i]! = false) : SortedIn bef a b d := by
  intro i j hi hij hj
  by_cases ci : i < c
  · by_cases cj : j < c
    · exact h1 i j hi hij cj
    · exact h i j hi ci (by omega) hj
  · exact h2 i j (by omega) hij hj

theorem sorted_same {a b s : Nat} {d d' : Array α} (h : SortedIn bef s (s + (b - a)) d) (e : ∀ i, a ≤ i → i < b → d'[i]! = d[i - a + s]!) : SortedIn bef a b d' := by
  intro i j hi hij hj
  rw [e i hi (by omega), e j (by omega) hj]
  exact h _ _ (by omega) (by omega) (by omega)

theorem sorted_part {a b a' b' : Nat} {d : Array α} (ha : a ≤ a') (hb : b' ≤ b) (h : SortedIn bef a b d) : SortedIn bef a' b' d := fun i j h1 h2 h3 => h i j (by omega) h2 (by omega)

theorem symS_spec (hO : SWO bef) {a m b : Nat} {d : Array α} (h1 : a < m) (h2 : m < b) (hl : SortedIn bef a m d) (hr : SortedIn bef m b d) (hC : Cross lt bef a m b d) :
    a ≤ symS lt d a m b ∧ symS lt d a m b ≤ m ∧ symS lt d a m b ≤ (a + b) / 2 ∧ (a + b) / 2 + m ≤ b + symS lt d a m b ∧
    (symS lt d a m b = a ∨ (a + b) / 2 + m - symS lt d a m b = b ∨ bef d[(a + b) / 2 + m - symS lt d a m b]! d[symS lt d a m b - 1]! = false) ∧
    (symS lt d a m b = m ∨ (a + b) / 2 + m - symS lt d a m b = m ∨ bef d[symS lt d a m b]! d[(a + b) / 2 + m - symS lt d a m b - 1]! = false) := by
  obtain ⟨mid, hmid⟩ : ∃ x, (a + b) / 2 = x := ⟨_, rfl⟩
  have hmono : ∀ L H, (∀ c, L ≤ c → c < H → a ≤ c ∧ c < m ∧ m ≤ mid + m - 1 - c ∧ mid + m - 1 - c < b) → ∀ c e, L ≤ c → c < e → e < H → (!lt d[mid + m - 1 - e]! d[e]!) = true → (!lt d[mid + m - 1 - c]! d[c]!) = true := by
    intro L H hin c e hLc hce heH hq
    obtain ⟨c1, c2, c3, c4⟩ := hin c hLc (by omega)
    obtain ⟨e1, e2, e3, e4⟩ := hin e (by omega) heH
    rw [Bool.not_eq_true'] at hq ⊢
    rw [hC e _ e1 e2 e3 e4] at hq
    rw [hC c _ c1 c2 c3 c4]
    exact hO.ntrans _ _ _ (sortedIn_le hO hr e3 (by omega : mid + m - 1 - e ≤ mid + m - 1 - c) c4) (hO.ntrans _ _ _ hq (sortedIn_le hO hl c1 (Nat.le_of_lt hce) e2))
  unfold symS
  rw [hmid]
  by_cases hc : mid < m
  · rw [if_pos hc]
    have hin : ∀ c, mid + m - b ≤ c → c < mid → a ≤ c ∧ c < m ∧ m ≤ mid + m - 1 - c ∧ mid + m - 1 - c < b := fun c u v => by omega
    have hs := halve_spec (fun c => !lt d[mid + m - 1 - c]! d[c]!) (mid + m - b) mid (hmono _ _ hin) (b - a) (mid + m - b) mid (by omega) (Nat.le_refl _) (by omega) (Nat.le_refl _) (fun c u v => by omega) (fun c u v => by omega)
    generalize halve (fun c => !lt d[mid + m - 1 - c]! d[c]!) (b - a) (mid + m - b) mid = s at hs ⊢
    obtain ⟨s1, s2, s3, s4⟩ := hs
    refine ⟨by omega, by omega, s2, by omega, ?_, ?_⟩
    · by_cases h : s = mid + m - b
      · exact .inr (.inl (by omega))
      · refine .inr (.inr ?_)
        have := s3 (s - 1) (by omega) (by omega)
        simp only [Bool.not_eq_true'] at this
        rw [hC (s - 1) _ (by omega) (by omega) (by omega) (by omega), show mid + m - 1 - (s - 1) = mid + m - s by omega] at this
        exact this
    · by_cases h : s = mid
      · exact .inr (.inl (by omega))
      · refine .inr (.inr ?_)
        have := s4 s (Nat.le_refl _) (by omega)
        simp only [Bool.not_eq_false'] at this
        rw [hC s _ (by omega) (by omega) (by omega) (by omega), show mid + m - 1 - s = mid + m - s - 1 by omega] at this
        exact hO.asymmA this
  · rw [if_neg hc]
    have hin : ∀ c, a ≤ c → c < m → a ≤ c ∧ c < m ∧ m ≤ mid + m - 1 - c ∧ mid + m - 1 - c < b := fun c u v => by omega
    have hs := halve_spec (fun c => !lt d[mid + m - 1 - c]! d[c]!) a m (hmono _ _ hin) (b - a) a m (by omega) (Nat.le_refl _) (by omega) (Nat.le_refl _) (fun c u v => by omega) (fun c u v => by omega)
    generalize halve (fun c => !lt d[mid + m - 1 - c]! d[c]!) (b - a) a m = s at hs ⊢
    obtain ⟨s1, s2, s3, s4⟩ := hs
    refine ⟨by omega, by omega, by omega, by omega, ?_, ?_⟩
    · by_cases h : s = a
      · exact .inl h
      · refine .inr (.inr ?_)
        have := s3 (s - 1) (by omega) (by omega)
        simp only [Bool.not_eq_true'] at this
        rw [hC (s - 1) _ (by omega) (by omega) (by omega) (by omega), show mid + m - 1 - (s - 1) = mid + m - s by omega] at this
        exact this
    · by_cases h : s = m
      · exact .inl h
      · refine .inr (.inr ?_)
        have := s4 s (Nat.le_refl _) (by omega)
        simp only [Bool.not_eq_false'] at this
        rw [hC s _ (by omega) (by omega) (by omega) (by omega), show mid + m - 1 - s = mid + m - s - 1 by omega] at this
        exact hO.asymmA this

theorem symT_turned {a m b : Nat} {d : Array α} {s e : Nat} (hb : b ≤ d.size) (hs : symS lt d a m b = s) (he : (a + b) / 2 + m - s = e) (h2 : s ≤ m) (h3 : m ≤ e) (h4 : e ≤ b) : Turned s m e d (symT lt d a m b) := by
  unfold symT
  rw [hs, he]
  by_cases h : s < m ∧ m < e
  · rw [if_pos h]; exact rot_turned d h.1 h.2 (by omega)
  · rw [if_neg h]; exact turned_none d h2 h3 (by omega)

theorem symM_sorts (hO : SWO bef) : ∀ (f a m b : Nat) (d : Array α), b - a ≤ f → a < m → m < b → b ≤ d.size → SortedIn bef a m d → SortedIn bef m b d → Cross lt bef a m b d →
    PermIn a b d (symM lt f a m b d) ∧ SortedIn bef a b (symM lt f a m b d)
  | 0, a, m, b, d, hf, h1, h2, _, _, _, _ => by omega
  | f + 1, a, m, b, d, hf, h1, h2, hb, hl, hr, hC => by
    rw [symM]
    by_cases c1 : m - a = 1
    · rw [if_pos c1]
      obtain rfl : m = a + 1 := by omega
      have hs := halve_spec (fun h => lt d[h]! d[a]!) (a + 1) b (fun c e hc hce he hq => by
        rw [hC a c (Nat.le_refl _) (by omega) hc (by omega)]
        rw [hC a e (Nat.le_refl _) (by omega) (by omega) he] at hq
        cases hh : bef d[c]! d[a]!
        · rw [hO.ntrans _ _ _ (hr c e hc hce he) hh] at hq; cases hq
        · rfl) (b - a) (a + 1) b (by omega) (Nat.le_refl _) (by omega) (Nat.le_refl _) (fun c u v => by omega) (fun c u v => by omega)
      generalize halve (fun h => lt d[h]! d[a]!) (b - a) (a + 1) b = i at hs ⊢
      obtain ⟨s1, s2, s3, s4⟩ := hs
      have hT := upR_turned (i - 1 - a) a d (by omega)
      rw [show a + 1 + (i - 1 - a) = i by omega] at hT
      have hm := merged_of_turn hO (Nat.le_refl a) (Nat.le_succ a) s1 s2 hl hr hT (.inl rfl) (by
        by_cases h : i = a + 1
        · exact .inr (.inl h)
        · refine .inr (.inr (hO.asymmA ?_))
          have := s3 (i - 1) (by omega) (by omega)
          rw [hC a _ (Nat.le_refl _) (by omega) (by omega) (by omega)] at this
          exact this)
      refine ⟨permIn_up (Nat.le_refl _) s2 hb hT.perm, sorted_join (c := a + (i - (a + 1))) ?_ ?_ hm.2.2.2.2⟩
      · exact sorted_same (s := a + 1) (sorted_part (Nat.le_refl _) (by omega) hr) hm.2.1
      · intro p q hp hpq hq
        rw [hm.2.2.2.1 q (by omega)]
        by_cases h : p < i
        · rw [hm.2.2.1 p hp h, show p - (a + (i - (a + 1))) + a = a by omega, ← hC a q (Nat.le_refl _) (by omega) (by omega) hq]
          exact s4 q (by omega) hq
        · rw [hm.2.2.2.1 p (by omega)]
          exact hr p q (by omega) hpq hq
    · rw [if_neg c1]
      by_cases c2 : b - m = 1
      · rw [if_pos c2]
        obtain rfl : b = m + 1 := by omega
        have hs := halve_spec (fun h => !lt d[m]! d[h]!) a m (fun c e hc hce he hq => by
          simp only [Bool.not_eq_true'] at hq ⊢
          rw [hC c m hc (by omega) (Nat.le_refl _) (by omega)]
          rw [hC e m (by omega) he (Nat.le_refl _) (by omega)] at hq
          exact hO.ntrans _ _ _ hq (hl c e hc hce he)) (m + 1 - a) a m (by omega) (Nat.le_refl _) (by omega) (Nat.le_refl _) (fun c u v => by omega) (fun c u v => by omega)
        generalize halve (fun h => !lt d[m]! d[h]!) (m + 1 - a) a m = i at hs ⊢
        obtain ⟨s1, s2, s3, s4⟩ := hs
        have hT := dnR_turned (m - i) m d (by omega) (by omega)
        rw [show m - (m - i) = i by omega] at hT
        have hm := merged_of_turn hO s1 s2 (Nat.le_succ m) (Nat.le_refl _) hl hr hT (.inr (.inl rfl)) (by
          by_cases h : i = m
          · exact .inl h
          · refine .inr (.inr (hO.asymmA ?_))
            have := s4 i (Nat.le_refl _) (by omega)
            simp only [Bool.not_eq_false'] at this
            rw [hC i m s1 (by omega) (Nat.le_refl _) (by omega)] at this
            exact this)
        refine ⟨permIn_up s1 (Nat.le_refl _) hb hT.perm, sorted_join (c := i + (m + 1 - m)) ?_ ?_ hm.2.2.2.2⟩
        · intro p q hp hpq hq
          rw [hm.1 p hp (by omega)]
          by_cases h : q < i
          · rw [hm.1 q (by omega) h]; exact hl p q hp hpq (by omega)
          · rw [hm.2.1 q (by omega) hq, show q - i + m = m by omega, ← hC p m hp (by omega) (Nat.le_refl _) (by omega)]
            have := s3 p hp (by omega)
            simp only [Bool.not_eq_true'] at this
            exact this
        · exact sorted_same (s := i) (sorted_part s1 (by omega) hl) hm.2.2.1
      · rw [if_neg c2]
        obtain ⟨mid, hmid⟩ : ∃ x, (a + b) / 2 = x := ⟨_, rfl⟩
        have hS := symS_spec (lt := lt) hO h1 h2 hl hr hC
        obtain ⟨s, hs⟩ : ∃ s, symS lt d a m b = s := ⟨_, rfl⟩
        have hT := symT_turned (lt := lt) (a := a) (m := m) (b := b) (d := d) hb hs rfl (by rw [hs] at hS; exact hS.2.1) (by rw [hs] at hS; omega) (by rw [hs] at hS; omega)
        rw [hs, hmid] at hS
        rw [hs, hmid]
        rw [hmid] at hT
        obtain ⟨e, he⟩ : ∃ e, mid + m - s = e := ⟨_, rfl⟩
        rw [he] at hS hT ⊢
        obtain ⟨t1, t2, t3, t4, t5, t6⟩ := hS
        have hsz : e ≤ b := by omega
        have hmd : s + (e - m) = mid := by omega
        have hm := merged_of_turn hO t1 t2 (by omega) hsz hl hr hT t5 t6
        rw [hmd] at hm
        obtain ⟨g1, g2, g3, g4, g5⟩ := hm
        have hp1 : PermIn a b d (symT lt d a m b) := permIn_up t1 hsz hb hT.perm
        generalize symT lt d a m b = d1 at g1 g2 g3 g4 g5 hp1 ⊢
        clear hT
        have z1 : d1.size = d.size := hp1.1
        -- the first half
        have H2 : ∀ d2, d2 = (if a < s ∧ s < mid then symM lt f a s mid d1 else d1) → PermIn a mid d1 d2 ∧ SortedIn bef a mid d2 := by
          rintro d2 rfl
          by_cases h : a < s ∧ s < mid
          · rw [if_pos h]
            refine symM_sorts hO f a s mid d1 (by omega) h.1 h.2 (by omega) ?_ ?_ ?_
            · intro p q hp hpq hq
              rw [g1 p hp (by omega), g1 q (by omega) hq]; exact hl p q hp hpq (by omega)
            · exact sorted_same (s := m) (sorted_part (Nat.le_refl _) (by omega) hr) g2
            · intro p q hp hps hq hqm
              rw [g1 p hp hps, g2 q hq hqm]; exact hC _ _ hp (by omega) (by omega) (by omega)
          · rw [if_neg h]
            refine ⟨permIn_id _ _ _, ?_⟩
            by_cases h' : s = a
            · subst h'; exact sorted_same (s := m) (sorted_part (Nat.le_refl _) (by omega) hr) g2
            · intro p q hp hpq hq
              rw [g1 p hp (by omega), g1 q (by omega) (by omega)]; exact hl p q hp hpq (by omega)
        obtain ⟨d2, hd2⟩ : ∃ d2, d2 = (if a < s ∧ s < mid then symM lt f a s mid d1 else d1) := ⟨_, rfl⟩
        obtain ⟨hp2, hs2⟩ := H2 d2 hd2
        clear H2
        rw [← hd2]
        clear hd2
        have z2 : d2.size = d1.size := hp2.1
        have k3 : ∀ i, mid ≤ i → i < e → d2[i]! = d[i - mid + s]! := fun i u v => by rw [hp2.2.1 i (.inr u), g3 i u v]
        have k4 : ∀ i, e ≤ i → d2[i]! = d[i]! := fun i u => by rw [hp2.2.1 i (.inr (by omega)), g4 i u]
        have k5 : ∀ i j, a ≤ i → i < mid → mid ≤ j → j < b → bef d2[j]! d2[i]! = false := fun i j u v u' v' => by
          rw [hp2.2.1 j (.inr u')]
          exact permIn_every (fun x => bef d1[j]! x = false) (by omega) hp2 (fun i' x y => g5 i' j x y u' v') i u v
        have H3 : ∀ d3, d3 = (if mid < e ∧ e < b then symM lt f mid e b d2 else d2) → PermIn mid b d2 d3 ∧ SortedIn bef mid b d3 := by
          rintro d3 rfl
          have q1 : SortedIn bef mid e d2 := sorted_same (s := s) (sorted_part t1 (by omega) hl) k3
          have q2 : SortedIn bef e b d2 := fun p q hp hpq hq => by rw [k4 p hp, k4 q (by omega)]; exact hr p q (by omega) hpq hq
          by_cases h : mid < e ∧ e < b
          · rw [if_pos h]
            refine symM_sorts hO f mid e b d2 (by omega) h.1 h.2 (by omega) q1 q2 ?_
            intro p q hp hpe hq hqb
            rw [k3 p hp hpe, k4 q hq]; exact hC _ _ (by omega) (by omega) (by omega) hqb
          · rw [if_neg h]
            refine ⟨permIn_id _ _ _, ?_⟩
            by_cases h' : e = b
            · subst h'; exact q1
            · obtain rfl : e = mid := by omega
              exact q2
        have hite : (if mid < e ∧ e < b then symM lt f mid e b d2 else d2) = (if mid < e ∧ e < b then symM lt f mid e b d2 else d2) := rfl
        obtain ⟨hp3, hs3⟩ := H3 _ hite
        generalize (if mid < e ∧ e < b then symM lt f mid e b d2 else d2) = d3 at hp3 hs3 ⊢
        refine ⟨permIn_tr hp1 (permIn_tr (permIn_up (Nat.le_refl _) (by omega) (by omega) hp2) (permIn_up (by omega) (Nat.le_refl _) (by omega) hp3)), sorted_join (c := mid) ?_ hs3 ?_⟩
        · intro p q hp hpq hq
          rw [hp3.2.1 p (.inl (by omega)), hp3.2.1 q (.inl hq)]; exact hs2 p q hp hpq hq
        · intro p q hp hpm hq hqb
          rw [hp3.2.1 p (.inl hpm)]
          exact permIn_every (fun y => bef y d2[p]! = false) (by omega) hp3 (fun q' x y => k5 p q' hp hpm x y) q hq hqb

/-! ### The insertions -/
theorem insInner_same (a : Nat) : ∀ (j : Nat) (d : Array α), j < d.size → (∀ i, a ≤ i → i < j → lt d[j]! d[i]! = bef d[j]! d[i]!) → insInner lt a j d = insInner bef a j d
  | 0, d, _, _ => rfl
  | j + 1, d, hs, h => by
    unfold insInner
    by_cases hc : j + 1 > a
    · rw [h j (by omega) (by omega)]
      split
      · refine insInner_same a j _ (by rw [size_swp]; omega) fun i hi hij => ?_
        rw [swp_get d hs (by omega), swp_get d hs (by omega), if_pos rfl, if_neg (by omega), if_neg (by omega)]
        exact h i hi (by omega)
      · rfl
    · simp [hc]

theorem insInner_perm (a b i : Nat) (hib : i < b) : ∀ (j : Nat) (d : Array α), j ≤ i → b ≤ d.size → PermIn a b d (insInner bef a j d)
  | 0, d, _, _ => permIn_id _ _ _
  | j + 1, d, hji, hb => by
    unfold insInner
    split
    · rename_i hc
      simp only [Bool.and_eq_true, decide_eq_true_eq] at hc
      exact permIn_tr (permIn_swp (by omega) (by omega) (by omega) (by omega) hb) (insInner_perm a b i hib j _ (by omega) (by rw [size_swp]; exact hb))
    · exact permIn_id _ _ _

theorem insOuter_same (a b : Nat) : ∀ (n i : Nat) (d : Array α), b - i = n → b ≤ d.size → a ≤ i → (∀ i' j, a ≤ i' → i' < j → i ≤ j → j < b → lt d[j]! d[i']! = bef d[j]! d[i']!) → insOuter lt a b i d = insOuter bef a b i d
  | 0, i, d, hn, _, _, _ => by rw [insOuter, if_neg (by omega), insOuter, if_neg (by omega)]
  | n + 1, i, d, hn, hb, hai, h => by
    have hlt : i < b := by omega
    have e1 : ∀ r : α → α → Bool, insOuter r a b i d = insOuter r a b (i + 1) (insInner r a i d) := fun r => by
      conv => lhs; rw [insOuter, if_pos hlt]
    rw [e1 lt, e1 bef, insInner_same (bef := bef) a i d (by omega) (fun i' u v => h i' i u v (Nat.le_refl _) hlt)]
    have hp := insInner_perm (bef := bef) a (i + 1) i (by omega) i d (Nat.le_refl _) (by omega)
    refine insOuter_same a b n (i + 1) _ (by omega) (by rw [hp.1]; exact hb) (by omega) fun i' j u v x y => ?_
    rw [hp.2.1 j (.inr x)]
    by_cases hi : i' < i + 1
    · exact permIn_every (fun z => lt d[j]! z = bef d[j]! z) (by omega) hp (fun k p q => h k j p (by omega) (by omega) y) i' u hi
    · rw [hp.2.1 i' (.inr (by omega))]; exact h i' j u v (by omega) y

theorem ins_sorts (hO : SWO bef) {a b : Nat} {d : Array α} (hab : a ≤ b) (hb : b ≤ d.size) (h : ∀ i j, a ≤ i → i < j → j < b → lt d[j]! d[i]! = bef d[j]! d[i]!) :
    PermIn a b d (insertionSort lt d a b) ∧ SortedIn bef a b (insertionSort lt d a b) := by
  have e : insertionSort lt d a b = insertionSort bef d a b := insOuter_same a b _ (a + 1) d rfl hb (by omega) fun i' j u v _ y => h i' j u v y
  rw [e]
  exact insertionSort_holds hO d a b hab hb
end Go.Proofs.YtdeeeechdlcdbaaGreat
/- The stable merging sort as a whole: insertion in stretches of twenty, then merging stretch by stretch, gives the list that a stable merge sort of the standard kind gives. Plain Lean, no program in sight. -/
namespace Go.Proofs.YtdeeeechdlcdbaaGreat
open Go.Sort

section
variable {α : Type} [Inhabited α]
def insB (lt : α → α → Bool) (n : Nat) : Nat → Nat → Array α → Array α
  | 0, _, d => d
  | f + 1, a, d => if a + 20 ≤ n then insB lt n f (a + 20) (insertionSort lt d a (a + 20)) else insertionSort lt d a n

def mergeP (lt : α → α → Bool) (n bs : Nat) : Nat → Nat → Array α → Array α
  | 0, _, d => d
  | f + 1, a, d => if a + 2 * bs ≤ n then mergeP lt n bs f (a + 2 * bs) (symM lt n a (a + bs) (a + 2 * bs) d) else if a + bs < n then symM lt n a (a + bs) n d else d

def merges (lt : α → α → Bool) (n : Nat) : Nat → Nat → Array α → Array α
  | 0, _, d => d
  | f + 1, bs, d => if bs < n then merges lt n f (2 * bs) (mergeP lt n bs (n + 1) 0 d) else d

def stableS (lt : α → α → Bool) (d : Array α) : Array α := merges lt d.size (d.size + 1) 20 (insB lt d.size (d.size + 1) 0 d)

variable {lt bef : α → α → Bool} {tag : α → Nat}

/-- Stretches of length s: each element stays in its own, and each is in order. -/
structure Laid (bef : α → α → Bool) (tag : α → Nat) (s n : Nat) (d0 d : Array α) : Prop where
  perm : PermIn 0 n d0 d
  tags : ∀ i, i < n → tag d[i]! / s = i / s
  sorted : ∀ i j, i < j → j < n → i / s = j / s → bef d[j]! d[i]! = false

theorem div_in {s q i : Nat} (h1 : q * s ≤ i) (h2 : i < q * s + s) : i / s = q :=
  Nat.div_eq_of_lt_le h1 (by rw [Nat.add_mul, Nat.one_mul]; exact h2)

theorem insB_laid (hO : SWO bef) (hX : ∀ x y, tag x < tag y → lt y x = bef y x) {n : Nat} {d0 : Array α} (hn : n = d0.size) (_h0 : ∀ i, i < n → tag d0[i]! = i) :
    ∀ (f q : Nat) (d : Array α), n < q * 20 + f → q * 20 ≤ n → PermIn 0 n d0 d → (∀ i, i < n → tag d[i]! / 20 = i / 20) → (∀ i, q * 20 ≤ i → i < n → tag d[i]! = i) → (∀ i j, i < j → j < q * 20 → i / 20 = j / 20 → bef d[j]! d[i]! = false) →
    Laid bef tag 20 n d0 (insB lt n f (q * 20) d)
  | 0, q, d, hf, hq, _, _, _, _ => by omega
  | f + 1, q, d, hf, hq, hp, ht, ho, hs => by
    have hz : d.size = n := by rw [hp.1, hn]
    have block : ∀ b, q * 20 ≤ b → b ≤ n → b ≤ q * 20 + 20 → PermIn 0 n d0 (insertionSort lt d (q * 20) b) ∧ (∀ i, i < n → tag (insertionSort lt d (q * 20) b)[i]! / 20 = i / 20) ∧ (∀ i, b ≤ i → i < n → tag (insertionSort lt d (q * 20) b)[i]! = i) ∧
        (∀ i j, i < j → j < b → i / 20 = j / 20 → bef (insertionSort lt d (q * 20) b)[j]! (insertionSort lt d (q * 20) b)[i]! = false) := by
      intro b h1 h2 h3
      have hI := ins_sorts (lt := lt) hO h1 (by omega : b ≤ d.size) (fun i j u v w => hX _ _ (by rw [ho i u (by omega), ho j (by omega) (by omega)]; exact v))
      generalize insertionSort lt d (q * 20) b = e at hI ⊢
      obtain ⟨hp', hs'⟩ := hI
      refine ⟨permIn_tr hp (permIn_up (Nat.zero_le _) (by omega) (by omega) hp'), fun i hi => ?_, fun i u v => by rw [hp'.2.1 i (.inr u)]; exact ho i (by omega) v, fun i j u v w => ?_⟩
      · by_cases c : q * 20 ≤ i ∧ i < b
        · have := permIn_every (fun x => tag x / 20 = q) (by omega) hp' (fun k x y => by rw [ht k (by omega)]; omega) i c.1 c.2
          rw [this]; omega
        · rw [hp'.2.1 i (by omega)]; exact ht i hi
      · by_cases c : q * 20 ≤ i
        · exact hs' i j c u v
        · rw [hp'.2.1 i (.inl (by omega)), hp'.2.1 j (.inl (by omega))]; exact hs i j u (by omega) w
    rw [insB]
    by_cases h : q * 20 + 20 ≤ n
    · rw [if_pos h, show q * 20 + 20 = (q + 1) * 20 by omega]
      obtain ⟨b1, b2, b3, b4⟩ := block ((q + 1) * 20) (by omega) (by omega) (by omega)
      exact insB_laid hO hX hn _h0 f (q + 1) _ (by omega) (by omega) b1 b2 b3 b4
    · rw [if_neg h]
      obtain ⟨b1, b2, _, b4⟩ := block n (by omega) (Nat.le_refl _) (by omega)
      exact ⟨b1, b2, b4⟩

theorem mergeP_laid (hO : SWO bef) (hX : ∀ x y, tag x < tag y → lt y x = bef y x) {n s : Nat} (hs0 : 0 < s) {d0 : Array α} (hn : n = d0.size) :
    ∀ (f q : Nat) (d : Array α), n < q * (2 * s) + f → q * (2 * s) ≤ n → PermIn 0 n d0 d → (∀ i, i < n → tag d[i]! / (2 * s) = i / (2 * s)) → (∀ i, q * (2 * s) ≤ i → i < n → tag d[i]! / s = i / s) →
      (∀ i j, i < j → j < q * (2 * s) → i / (2 * s) = j / (2 * s) → bef d[j]! d[i]! = false) → (∀ i j, q * (2 * s) ≤ i → i < j → j < n → i / s = j / s → bef d[j]! d[i]! = false) →
    Laid bef tag (2 * s) n d0 (mergeP lt n s f (q * (2 * s)) d)
  | 0, q, d, hf, hq, _, _, _, _, _ => by omega
  | f + 1, q, d, hf, hq, hp, ht2, ht1, hs2, hs1 => by
    have hz : d.size = n := by rw [hp.1, hn]
    have e2 : q * 2 * s = q * (2 * s) := Nat.mul_assoc q 2 s
    have e3 : (q * 2 + 1) * s = q * (2 * s) + s := by rw [Nat.add_mul, Nat.one_mul, e2]
    have lo : ∀ i, q * (2 * s) ≤ i → i < q * (2 * s) + s → i / s = q * 2 := fun i u v => div_in (by rw [e2]; exact u) (by rw [e2]; exact v)
    have hi : ∀ i, q * (2 * s) + s ≤ i → i < q * (2 * s) + 2 * s → i / s = q * 2 + 1 := fun i u v => div_in (by rw [e3]; exact u) (by rw [e3]; omega)
    have both : ∀ i, q * (2 * s) ≤ i → i < q * (2 * s) + 2 * s → i / (2 * s) = q := fun i u v => div_in u v
    have block : ∀ b, q * (2 * s) + s < b → b ≤ n → b ≤ q * (2 * s) + 2 * s → PermIn 0 n d0 (symM lt n (q * (2 * s)) (q * (2 * s) + s) b d) ∧ (∀ i, i < n → tag (symM lt n (q * (2 * s)) (q * (2 * s) + s) b d)[i]! / (2 * s) = i / (2 * s)) ∧
        (∀ i, b ≤ i → (symM lt n (q * (2 * s)) (q * (2 * s) + s) b d)[i]! = d[i]!) ∧ (∀ i j, i < j → j < b → i / (2 * s) = j / (2 * s) → bef (symM lt n (q * (2 * s)) (q * (2 * s) + s) b d)[j]! (symM lt n (q * (2 * s)) (q * (2 * s) + s) b d)[i]! = false) := by
      intro b h1 h2 h3
      have hM := symM_sorts (lt := lt) hO n (q * (2 * s)) (q * (2 * s) + s) b d (by omega) (by omega) h1 (by omega)
        (fun i j u v w => hs1 i j u v (by omega) (by rw [lo i u (by omega), lo j (by omega) w]))
        (fun i j u v w => hs1 i j (by omega) v (by omega) (by rw [hi i u (by omega), hi j (by omega) (by omega)]))
        (fun i j u v u' v' => hX _ _ (by
          have a1 := ht1 i u (by omega)
          have a2 := ht1 j (by omega) (by omega)
          rw [lo i u v] at a1
          rw [hi j u' (by omega)] at a2
          exact Nat.lt_of_not_le fun hle => by
            have := Nat.div_le_div_right (c := s) hle
            omega))
      generalize symM lt n (q * (2 * s)) (q * (2 * s) + s) b d = e at hM ⊢
      obtain ⟨hp', hs'⟩ := hM
      refine ⟨permIn_tr hp (permIn_up (Nat.zero_le _) (by omega) (by omega) hp'), fun i hi' => ?_, fun i u => hp'.2.1 i (.inr u), fun i j u v w => ?_⟩
      · by_cases c : q * (2 * s) ≤ i ∧ i < b
        · have := permIn_every (fun x => tag x / (2 * s) = q) (by omega) hp' (fun k x y => by rw [ht2 k (by omega)]; exact both k x (by omega)) i c.1 c.2
          rw [this, both i c.1 (by omega)]
        · rw [hp'.2.1 i (by omega)]; exact ht2 i hi'
      · by_cases c : q * (2 * s) ≤ i
        · exact hs' i j c u v
        · by_cases c' : q * (2 * s) ≤ j
          · rw [both j c' (by omega)] at w
            have h9 := Nat.div_mul_le_self i (2 * s)
            rw [w] at h9
            omega
          · rw [hp'.2.1 i (.inl (by omega)), hp'.2.1 j (.inl (by omega))]; exact hs2 i j u (by omega) w
    rw [mergeP]
    by_cases h : q * (2 * s) + 2 * s ≤ n
    · have e4 : q * (2 * s) + 2 * s = (q + 1) * (2 * s) := by rw [Nat.add_mul, Nat.one_mul]
      rw [if_pos h]
      obtain ⟨b1, b2, b3, b4⟩ := block (q * (2 * s) + 2 * s) (by omega) h (Nat.le_refl _)
      rw [e4] at b1 b2 b3 b4 h ⊢
      refine mergeP_laid hO hX hs0 hn f (q + 1) _ (by omega) h b1 b2 (fun i u v => ?_) b4 (fun i j u v w x => ?_)
      · rw [b3 i u]; exact ht1 i (by omega) v
      · rw [b3 i u, b3 j (by omega)]; exact hs1 i j (by omega) v w x
    · rw [if_neg h]
      by_cases h' : q * (2 * s) + s < n
      · rw [if_pos h']
        obtain ⟨b1, b2, _, b4⟩ := block n h' (Nat.le_refl _) (by omega)
        exact ⟨b1, b2, b4⟩
      · rw [if_neg h']
        refine ⟨hp, ht2, fun i j u v w => ?_⟩
        by_cases c : q * (2 * s) ≤ i
        · exact hs1 i j c u v (by rw [lo i c (by omega), lo j (by omega) (by omega)])
        · by_cases c' : q * (2 * s) ≤ j
          · rw [both j c' (by omega)] at w
            have h9 := Nat.div_mul_le_self i (2 * s)
            rw [w] at h9
            omega
          · exact hs2 i j u (by omega) w

theorem merges_laid (hO : SWO bef) (hX : ∀ x y, tag x < tag y → lt y x = bef y x) {n : Nat} {d0 : Array α} (hn : n = d0.size) :
    ∀ (f s : Nat) (d : Array α), n < s + f → 0 < s → Laid bef tag s n d0 d → PermIn 0 n d0 (merges lt n f s d) ∧ SortedIn bef 0 n (merges lt n f s d)
  | 0, s, d, hf, hs, h => ⟨h.perm, fun i j _ u v => h.sorted i j u v (by rw [Nat.div_eq_of_lt (by omega), Nat.div_eq_of_lt (by omega)])⟩
  | f + 1, s, d, hf, hs, h => by
    rw [merges]
    by_cases c : s < n
    · rw [if_pos c]
      have h2 : ∀ x : Nat, x / (2 * s) = x / s / 2 := fun x => by rw [Nat.div_div_eq_div_mul, Nat.mul_comm]
      have hM := mergeP_laid (lt := lt) hO hX hs hn (n + 1) 0 d (by omega) (by omega) h.perm (fun i hi => by rw [h2, h2, h.tags i hi]) (fun i _ hi => h.tags i hi) (fun i j u v _ => by omega) (fun i j _ u v w => h.sorted i j u v w)
      rw [Nat.zero_mul] at hM
      exact merges_laid hO hX hn f (2 * s) _ (by omega) (by omega) hM
    · rw [if_neg c]
      exact ⟨h.perm, fun i j _ u v => h.sorted i j u v (by rw [Nat.div_eq_of_lt (by omega), Nat.div_eq_of_lt (by omega)])⟩

theorem stableS_sorts (hO : SWO bef) (hX : ∀ x y, tag x < tag y → lt y x = bef y x) (d : Array α) (h0 : ∀ i, i < d.size → tag d[i]! = i) :
    PermIn 0 d.size d (stableS lt d) ∧ SortedIn bef 0 d.size (stableS lt d) := by
  have hI := insB_laid (lt := lt) hO hX (n := d.size) rfl h0 (d.size + 1) 0 d (by omega) (by omega) (permIn_id _ _ _) (fun i hi => by rw [h0 i hi]) (fun i _ hi => h0 i hi) (fun i j u v _ => by omega)
  rw [Nat.zero_mul] at hI
  exact merges_laid hO hX rfl (d.size + 1) 20 _ (by omega) (by omega) hI
end

/-! ### With each element's first place beside it -/
section
variable {β : Type}
/-- Ahead by the order, or, where the order says nothing, by the first place. -/
def befT (lt : β → β → Bool) (x y : β × Nat) : Bool := lt x.1 y.1 || (!lt y.1 x.1 && decide (x.2 < y.2))

theorem befT_iff (lt : β → β → Bool) (x y : β × Nat) : befT lt x y = true ↔ lt x.1 y.1 = true ∨ (lt y.1 x.1 = false ∧ x.2 < y.2) := by
  simp [befT]
theorem befT_not (lt : β → β → Bool) (x y : β × Nat) : befT lt x y = false ↔ lt x.1 y.1 = false ∧ (lt y.1 x.1 = true ∨ y.2 ≤ x.2) := by
  simp only [befT, Bool.or_eq_false_iff, Bool.and_eq_false_iff, Bool.not_eq_false', decide_eq_false_iff_not, Nat.not_lt]

theorem swo_befT {lt : β → β → Bool} (h : SWO lt) : SWO (befT lt) where
  irrefl x := (befT_not _ _ _).2 ⟨h.irrefl _, .inr (Nat.le_refl _)⟩
  trans x y z h1 h2 := by
    rw [befT_iff] at h1 h2 ⊢
    rcases h1 with a | ⟨a, a'⟩
    · rcases h2 with b | ⟨b, b'⟩
      · exact .inl (h.trans _ _ _ a b)
      · refine .inl ?_
        cases c : lt x.1 z.1
        · rw [h.ntrans _ _ _ c b] at a; cases a
        · rfl
    · rcases h2 with b | ⟨b, b'⟩
      · refine .inl ?_
        cases c : lt x.1 z.1
        · rw [h.ntrans _ _ _ a c] at b; cases b
        · rfl
      · exact .inr ⟨h.ntrans _ _ _ b a, by omega⟩
  ntrans x y z h1 h2 := by
    rw [befT_not] at h1 h2 ⊢
    obtain ⟨a, a'⟩ := h1
    obtain ⟨b, b'⟩ := h2
    refine ⟨h.ntrans _ _ _ a b, ?_⟩
    rcases a' with a' | a'
    · refine .inl ?_
      cases c : lt z.1 x.1
      · rw [h.ntrans _ _ _ b c] at a'; cases a'
      · rfl
    · rcases b' with b' | b'
      · refine .inl ?_
        cases c : lt z.1 x.1
        · rw [h.ntrans _ _ _ c a] at b'; cases b'
        · rfl
      · exact .inr (by omega)

/-- Each element with its place. -/
def placed (d : Array β) : Array (β × Nat) := d.toList.zipIdx.toArray

theorem size_placed (d : Array β) : (placed d).size = d.size := by simp [placed]
theorem placed_at [Inhabited β] (d : Array β) (i : Nat) (hi : i < d.size) : (placed d)[i]! = (d[i]!, i) := by
  rw [getElem!_pos (placed d) i (by rw [size_placed]; exact hi), getElem!_pos d i hi]
  simp [placed]

/-- What a stable sort makes of a list. -/
def sortedBy (lt : β → β → Bool) (l : List β) : List β := l.mergeSort (fun x y => !lt y x)

theorem stable_list [Inhabited β] {lt : β → β → Bool} (h : SWO lt) (d : Array β) :
    ((stableS (fun x y : β × Nat => lt x.1 y.1) (placed d)).toList.map (·.1)) = sortedBy lt d.toList := by
  have hS := stableS_sorts (lt := fun x y : β × Nat => lt x.1 y.1) (bef := befT lt) (tag := (·.2)) (swo_befT h) (fun x y hxy => by
    show lt y.1 x.1 = befT lt y x
    have : decide (y.2 < x.2) = false := by simp; omega
    rw [befT, this]; simp) (placed d) (fun i hi => by rw [placed_at d i (by rw [size_placed] at hi; exact hi)])
  generalize stableS (fun x y : β × Nat => lt x.1 y.1) (placed d) = e at hS ⊢
  obtain ⟨⟨hsz, _, hperm⟩, hs⟩ := hS
  rw [← hsz, Array.extract_size, hsz, Array.extract_size] at hperm
  have htl : (placed d).toList = d.toList.zipIdx := by simp [placed]
  rw [htl] at hperm
  rw [sortedBy, ← List.mergeSort_zipIdx]
  congr 1
  refine List.Perm.eq_of_pairwise (le := fun x y => (!befT lt y x) = true) ?_ ?_ ?_ (hperm.trans (List.mergeSort_perm _ _).symm)
  · intro x y hx hy h1 h2
    simp only [Bool.not_eq_true'] at h1 h2
    rw [befT_not] at h1 h2
    have hxm := hperm.mem_iff.1 hx
    have hym := (List.mergeSort_perm _ _).mem_iff.1 hy
    have ht : x.2 = y.2 := by
      rcases h1.2 with a | a
      · rw [h2.1] at a; cases a
      · rcases h2.2 with b | b
        · rw [h1.1] at b; cases b
        · omega
    obtain ⟨x1, x2⟩ := x
    obtain ⟨y1, y2⟩ := y
    simp only at ht
    subst ht
    have a := List.mem_zipIdx' hxm
    have b := List.mem_zipIdx' hym
    rw [a.2, b.2]
  · rw [List.pairwise_iff_getElem]
    intro i j hi hj hij
    have hi' : i < e.size := by simpa using hi
    have hj' : j < e.size := by simpa using hj
    have := hs i j (Nat.zero_le _) hij (by omega)
    rw [getElem!_pos e j hj', getElem!_pos e i hi'] at this
    simpa using this
  · have key : ∀ x y : β × Nat, List.zipIdxLE (fun x y => !lt y x) x y = !befT lt y x := by
      intro x y
      simp only [List.zipIdxLE, befT]
      have g : ∀ u v : Bool, (if (!u) = true then if (!v) = true then decide (x.2 ≤ y.2) else true else false) = !(u || !v && decide (y.2 < x.2)) := by
        intro u v
        cases u <;> cases v <;> simp [← Nat.not_lt]
      exact g _ _
    have hp := List.pairwise_mergeSort (le := List.zipIdxLE (fun x y => !lt y x)) (by
      intro x y z
      rw [key, key, key]
      simp only [Bool.not_eq_true']
      intro a b
      exact (swo_befT h).ntrans _ _ _ b a) (by
      intro x y
      rw [key, key]
      cases c : befT lt y x
      · simp
      · simp [(swo_befT h).asymmA c]) d.toList.zipIdx
    exact hp.imp (fun {x y} hxy => by rw [key] at hxy; exact hxy)
end
end Go.Proofs.YtdeeeechdlcdbaaGreat
/- What the stable sort's functions need of the program they stand in, and the first two of them: stretches exchanged, stretches turned. -/
set_option linter.unusedVariables false
namespace Go.Proofs.YtdeeeechdlcdbaaGreat
open Go Go.RowKit Go.Lib Go.Sort Go.Proofs

/-- The program's side of the sort: its functions, and what it says of the types that they name. -/
structure Sits (P : Program) : Prop where
  mixed : P.follows .mixedOrders = true
  f29 : P.funcs[83]? = some Tryz.f83
  f55 : P.funcs[109]? = some Tryz.f109
  f67 : P.funcs[121]? = some Tryz.f121
  f68 : P.funcs[122]? = some Tryz.f122
  f70 : P.funcs[134]? = some Tryz.f134
  f71 : P.funcs[149]? = some Tryz.f149
  t0 : P.underlying 0 = some (.tuple #[])
  a0 : ∀ w, (isAgg 0).run P w = .ok false w
  z0 : ∀ w, (Go.sizeOf 0).run P w = .ok 1 w
  v0 : ∀ w, (zeroValue 0).run P w = .ok (.tuple #[]) w
  t3 : P.underlying 3 = some (.int .i64)
  a3 : ∀ w, (isAgg 3).run P w = .ok false w
  z3 : ∀ w, (Go.sizeOf 3).run P w = .ok 1 w
  v3 : ∀ w, (zeroValue 3).run P w = .ok (.int .i64 0) w
  t4 : P.underlying 4 = some .bool
  a4 : ∀ w, (isAgg 4).run P w = .ok false w
  z4 : ∀ w, (Go.sizeOf 4).run P w = .ok 1 w
  v4 : ∀ w, (zeroValue 4).run P w = .ok (.bool false) w
  t44 : P.underlying 146 = some (.int .u64)
  a44 : ∀ w, (isAgg 146).run P w = .ok false w
  z44 : ∀ w, (Go.sizeOf 146).run P w = .ok 1 w
  v44 : ∀ w, (zeroValue 146).run P w = .ok (.int .u64 0) w
  t50 : P.underlying 31 = some (.slice 3)
  a50 : ∀ w, (isAgg 31).run P w = .ok false w
  z50 : ∀ w, (Go.sizeOf 31).run P w = .ok 1 w
  v50 : ∀ w, (zeroValue 31).run P w = .ok (.slice none 0 0) w
  t56 : P.underlying 112 = some (.func #[3, 3] #[3] false)
  a56 : ∀ w, (isAgg 112).run P w = .ok false w
  z56 : ∀ w, (Go.sizeOf 112).run P w = .ok 1 w
  v56 : ∀ w, (zeroValue 112).run P w = .ok .nilFunc w
  aE : ∀ w, (isAgg 3).run P w = .ok false w
  zE : ∀ w, (Go.sizeOf 3).run P w = .ok 1 w

theorem sits : Sits Tryz.prog where
  mixed := by kernel_rfl
  f29 := Tryz.func83
  f55 := Tryz.func109
  f67 := Tryz.func121
  f68 := Tryz.func122
  f70 := Tryz.func134
  f71 := Tryz.func149
  t0 := Tryz.underlying0
  a0 := Tryz.isAgg0
  z0 := Tryz.sizeOf0
  v0 := Tryz.zeroValue0
  t3 := Tryz.underlying3
  a3 := Tryz.isAgg3
  z3 := Tryz.sizeOf3
  v3 := Tryz.zeroValue3
  t4 := Tryz.underlying4
  a4 := Tryz.isAgg4
  z4 := Tryz.sizeOf4
  v4 := Tryz.zeroValue4
  t44 := Tryz.underlying146
  a44 := Tryz.isAgg146
  z44 := Tryz.sizeOf146
  v44 := Tryz.zeroValue146
  t50 := Tryz.underlying31
  a50 := Tryz.isAgg31
  z50 := Tryz.sizeOf31
  v50 := Tryz.zeroValue31
  t56 := Tryz.underlying112
  a56 := Tryz.isAgg112
  z56 := Tryz.sizeOf112
  v56 := Tryz.zeroValue112
  aE := Tryz.isAgg3
  zE := Tryz.sizeOf3

variable {P : Program} {α : Type} [Inhabited α]

set_option maxHeartbeats 4000000 in
set_option maxRecDepth 1000000 in
theorem swapRange_call (L : Sits P) (enc : α → Value) (g : Nat) (cb : Array Value) (blk off cap a b n : Nat) (d0 d : Array α) (w0 w : World)
    (R : Row1 enc w0 blk off d0) (hs : d0.size = d.size) (S : SW enc w0 blk off d w) (ha : a + n ≤ d.size) (hb : b + n ≤ d.size) (hsz : d.size < 4611686018427387904) :
    Calls P 149 #[.slice (some ⟨blk, off, none⟩) d.size cap, .int .i64 a, .int .i64 b, .int .i64 n, .func (.func g) #[] cb] w fun e w' => e = .returned (.tuple #[]) ∧ SW enc w0 blk off (swapR a b n d) w' := by
  have mixed := L.mixed; have t0 := L.t0; have a0 := L.a0; have z0 := L.z0; have v0 := L.v0; have t3 := L.t3; have a3 := L.a3; have z3 := L.z3; have v3 := L.v3; have t4 := L.t4; have a4 := L.a4; have z4 := L.z4; have v4 := L.v4; have t50 := L.t50; have a50 := L.a50; have z50 := L.z50; have v50 := L.v50; have t56 := L.t56; have a56 := L.a56; have z56 := L.z56; have v56 := L.v56
  have aE := L.aE; have zE := L.zE
  have hcl0 := R.hO.cells
  simp only [Value.cells] at hcl0
  have hst := R.hO.store P
  have S0 : Aside (SW enc w0 blk off d w) := S
  clear S
  go_enter L.f71, Tryz.ntmps149
  go_wp2
  go_loopg [10] n (fun kx s10 wr => ∃ (i : Nat) (dk : Array α), s10 = .int .i64 i ∧ i ≤ n ∧ n - i ≤ kx ∧ dk.size = d.size ∧ Aside (SW enc w0 blk off dk wr) ∧ swapR (a + i) (b + i) (n - i) dk = swapR a b n d)
  case atStart => exact ⟨0, d, rfl, Nat.zero_le _, by omega, rfl, S0, rfl⟩
  case round =>
    clear S0
    obtain ⟨i, dk, rfl, hin, hkx, hds, S1, heq⟩ := hrel
    by_cases hlt : (i : Int) < (n : Int)
    · have hij : i < n := by omega
      go_wp2_with fail
      have wa : IntKind.i64.wrap ((a : Int) + (i : Int)) = ((a + i : Nat) : Int) := by rw [IntKind.wrap_i64]; omega
      have wb : IntKind.i64.wrap ((b : Int) + (i : Int)) = ((b + i : Nat) : Int) := by rw [IntKind.wrap_i64]; omega
      have la : ((a + i : Nat) : Int) < (d.size : Int) := by omega
      have lb : ((b + i : Nat) : Int) < (d.size : Int) := by omega
      have na : ((a + i : Nat) : Int).toNat = a + i := by omega
      have nb : ((b + i : Nat) : Int).toNat = b + i := by omega
      have pa : (0 : Int) ≤ ((a + i : Nat) : Int) := by omega
      have pb : (0 : Int) ≤ ((b + i : Nat) : Int) := by omega
      obtain ⟨iN, hiN⟩ : ∃ q, q = (a + i) := ⟨_, rfl⟩
      obtain ⟨jN, hjN⟩ : ∃ q, q = (b + i) := ⟨_, rfl⟩
      obtain ⟨xV, hxV⟩ : ∃ x, x = dk[(a + i)]! := ⟨_, rfl⟩
      obtain ⟨yV, hyV⟩ : ∃ x, x = dk[(b + i)]! := ⟨_, rfl⟩
      have S2 : Aside (SW enc w0 blk off (swp dk (a + i) (b + i)) ((wr.setCell ⟨blk, off + iN, none⟩ (enc yV)).setCell ⟨blk, off + jN, none⟩ (enc xV)).drew) := by rw [hiN, hjN, hxV, hyV]; exact S1.out.swapped R (a + i) (b + i) (by omega) (by omega)
      have cA := S1.out.c1 R (by omega) (a + i) (by omega)
      have cB := S1.out.c1 R (by omega) (b + i) (by omega)
      have fA := S1.out.f1 R (by omega) (a + i) (by omega)
      have fB := S1.out.f1 R (by omega) (b + i) (by omega)
      obtain ⟨uC, cC⟩ := S1.out.c2 R (by omega) (a + i) (b + i) (by omega) (by omega) (enc yV)
      rw [← hjN, ← hiN] at cC
      rw [← hxV, ← hiN] at cA
      rw [← hyV, ← hjN] at cB
      rw [← hiN] at fA
      rw [← hjN] at fB
      have HE : Hid (swapR (a + i) (b + i) (n - (i + 1) + 1) dk = swapR a b n d) := by rw [show n - (i + 1) + 1 = n - i by omega]; exact heq
      have qiN : ((a : Int) + (i : Int)).toNat = iN := by omega
      have tiN : (((a + i : Nat)) : Int).toNat = iN := by omega
      have qjN : ((b : Int) + (i : Int)).toNat = jN := by omega
      have tjN : (((b + i : Nat)) : Int).toNat = jN := by omega
      have hxi : Hid (iN = (a + i)) := hiN
      have hyj : Hid (jN = (b + i)) := hjN
      clear S1 hxV hyV hiN hjN
      go_wp2_with fail
      go_big_region_o
      clear cA cB cC fA fB
      generalize ((wr.setCell ⟨blk, off + iN, none⟩ (enc yV)).setCell ⟨blk, off + jN, none⟩ (enc xV)).drew = w2 at S2 ⊢
      go_wp2
      go_roundg (n - (i + 1))
      case measure => omega
      case rel =>
        have h := HE.out
        rw [swapR] at h
        exact ⟨i + 1, swp dk (a + i) (b + i), by simp, hij, Nat.le_refl _, by rw [size_swp]; exact hds, S2, h⟩
    · obtain rfl : i = n := by omega
      go_wp2
      go_end0
      refine ⟨rfl, ?_⟩
      rw [Nat.sub_self, swapR] at heq
      rw [← heq]
      exact S1.out
end Go.Proofs.YtdeeeechdlcdbaaGreat
/- The walk of the stretches' turn. -/
set_option linter.unusedVariables false
namespace Go.Proofs.YtdeeeechdlcdbaaGreat
open Go Go.RowKit Go.Lib Go.Sort Go.Proofs
variable {P : Program} {α : Type} [Inhabited α]

theorem size_swapR : ∀ (k a b : Nat) (d : Array α), (swapR a b k d).size = d.size
  | 0, _, _, _ => rfl
  | k + 1, a, b, d => by rw [swapR, size_swapR k, size_swp]

theorem int_at {x y : Int} (h : x = y) : Value.int .i64 x = .int .i64 y := by rw [h]

theorem rotL_end (m : Nat) (f i : Nat) (d : Array α) : rotL m f i i d = swapR (m - i) m i d := by
  cases f with
  | zero => rfl
  | succ f => rw [rotL, if_pos rfl]

set_option maxHeartbeats 4000000 in
set_option maxRecDepth 1000000 in
theorem rotate_call (L : Sits P) (enc : α → Value) (g : Nat) (cb : Array Value) (blk off cap a m b : Nat) (d0 d : Array α) (w0 w : World)
    (R : Row1 enc w0 blk off d0) (hs : d0.size = d.size) (S : SW enc w0 blk off d w) (ham : a < m) (hmb : m < b) (hb : b ≤ d.size) (hsz : d.size < 4611686018427387904) :
    Calls P 134 #[.slice (some ⟨blk, off, none⟩) d.size cap, .int .i64 a, .int .i64 m, .int .i64 b, .func (.func g) #[] cb] w fun e w' => e = .returned (.tuple #[]) ∧ SW enc w0 blk off (rot d a m b) w' := by
  have mixed := L.mixed; have t0 := L.t0; have a0 := L.a0; have z0 := L.z0; have v0 := L.v0; have t3 := L.t3; have a3 := L.a3; have z3 := L.z3; have v3 := L.v3; have t4 := L.t4; have a4 := L.a4; have z4 := L.z4; have v4 := L.v4; have t50 := L.t50; have a50 := L.a50; have z50 := L.z50; have v50 := L.v50; have t56 := L.t56; have a56 := L.a56; have z56 := L.z56; have v56 := L.v56
  have e71 : ∀ args w, (callFunc 149 args).run P w = .ok (.enter 149 args) w := enters_of L.f71 (by kernel_rfl) rfl
  have S0 : Aside (SW enc w0 blk off d w) := S
  have hsw : ∀ (n : Nat), d.size = n → Aside (∀ (x y u : Nat) (X Y U : Int) (dk : Array α) (W : World), dk.size = n → SW enc w0 blk off dk W → x + u ≤ n → y + u ≤ n → X = x → Y = y → U = u →
      Calls P 149 #[.slice (some ⟨blk, off, none⟩) n cap, .int .i64 X, .int .i64 Y, .int .i64 U, .func (.func g) #[] cb] W fun e w' => e = .returned (.tuple #[]) ∧ SW enc w0 blk off (swapR x y u dk) w') := by
    rintro n rfl x y u X Y U dk W hz SW h1 h2 rfl rfl rfl
    rw [← hz]
    exact swapRange_call L enc g cb blk off cap x y u d0 dk w0 W R (by omega) SW (by omega) (by omega) (by omega)
  obtain ⟨n, hn⟩ : ∃ n, d.size = n := ⟨_, rfl⟩
  replace hsw := hsw n hn
  clear S
  rw [hn] at hb hsz ⊢
  have HN : Hid (d.size = n) := hn
  clear hn hs
  go_enter L.f70, Tryz.ntmps134
  have w1 : IntKind.i64.wrap ((m : Int) - (a : Int)) = (m : Int) - (a : Int) := by rw [IntKind.wrap_i64]; omega
  have w2 : IntKind.i64.wrap ((b : Int) - (m : Int)) = (b : Int) - (m : Int) := by rw [IntKind.wrap_i64]; omega
  go_wp2
  clear w1 w2
  go_loopg [10, 11] (b - a) (fun kx s10 s11 wr => ∃ (i j f : Nat) (dk : Array α), s10 = .int .i64 i ∧ s11 = .int .i64 j ∧ f ≤ kx ∧ i + j ≤ f ∧ 0 < i ∧ 0 < j ∧ i ≤ m ∧ m + j ≤ n ∧ dk.size = n ∧ Aside (SW enc w0 blk off dk wr) ∧ Hid (rotL m f i j dk = rotL m (b - a) (m - a) (b - m) d))
  case atStart => exact ⟨m - a, b - m, b - a, d, int_at (by omega), int_at (by omega), Nat.le_refl _, by omega, by omega, by omega, by omega, by omega, HN.out, S0, rfl⟩
  case round =>
    clear S0
    obtain ⟨i, j, f, dk, rfl, rfl, hkx, hf, h0i, h0j, him, hjm, hds, S1, HE⟩ := hrel
    obtain ⟨f, rfl⟩ : ∃ q, f = q + 1 := ⟨f - 1, by omega⟩
    have wI : IntKind.i64.wrap ((m : Int) - (i : Int)) = (m : Int) - (i : Int) := by rw [IntKind.wrap_i64]; omega
    by_cases heq : i = j
    · subst heq
      have hc := hsw.out (m - i) m i ((m : Int) - (i : Int)) m i dk wr hds S1.out (by omega) (by omega) (by omega) rfl rfl
      go_wp2_with (go_at_fn 149; refine hc.mono ?_; rintro e w1 ⟨rfl, S2⟩)
      go_end0
      refine ⟨rfl, ?_⟩
      have h := HE.out
      rw [rotL_end] at h
      rw [h] at S2
      exact S2
    · have heqz : ¬ (i : Int) = (j : Int) := by omega
      by_cases hgt : (j : Int) < (i : Int)
      · have wJ : IntKind.i64.wrap ((i : Int) - (j : Int)) = (i : Int) - (j : Int) := by rw [IntKind.wrap_i64]; omega
        have hc := hsw.out (m - i) m j ((m : Int) - (i : Int)) m j dk wr hds S1.out (by omega) (by omega) (by omega) rfl rfl
        go_wp2_with (go_at_fn 149; refine hc.mono ?_; rintro e w1 ⟨rfl, S2⟩)
        go_roundg f
        case measure => omega
        case rel =>
          refine ⟨i - j, j, f, swapR (m - i) m j dk, int_at (by omega), rfl, Nat.le_refl _, by omega, by omega, h0j, by omega, hjm, by rw [size_swapR]; exact hds, S2, (show Hid _ from ?_)⟩
          show _ = _
          rw [← HE.out, rotL, if_neg (by omega), if_pos (by omega)]
      · have wJ : IntKind.i64.wrap ((j : Int) - (i : Int)) = (j : Int) - (i : Int) := by rw [IntKind.wrap_i64]; omega
        have wK : IntKind.i64.wrap ((m : Int) + (j : Int)) = (m : Int) + (j : Int) := by rw [IntKind.wrap_i64]; omega
        have wL : IntKind.i64.wrap ((m : Int) + (j : Int) - (i : Int)) = (m : Int) + (j : Int) - (i : Int) := by rw [IntKind.wrap_i64]; omega
        have hc := hsw.out (m - i) (m + j - i) i ((m : Int) - (i : Int)) ((m : Int) + (j : Int) - (i : Int)) i dk wr hds S1.out (by omega) (by omega) (by omega) (by omega) rfl
        go_wp2_with (go_at_fn 149; refine hc.mono ?_; rintro e w1 ⟨rfl, S2⟩)
        go_roundg f
        case measure => omega
        case rel =>
          refine ⟨i, j - i, f, swapR (m - i) (m + j - i) i dk, rfl, int_at (by omega), Nat.le_refl _, by omega, h0i, by omega, him, by omega, by rw [size_swapR]; exact hds, S2, (show Hid _ from ?_)⟩
          show _ = _
          rw [← HE.out, rotL, if_neg (by omega), if_neg (by omega)]
end Go.Proofs.YtdeeeechdlcdbaaGreat
/- The walk of a merge where one side is a single element. -/
set_option linter.unusedVariables false
namespace Go.Proofs.YtdeeeechdlcdbaaGreat
open Go Go.RowKit Go.Lib Go.Sort Go.Proofs
variable {P : Program} {α : Type} [Inhabited α]

theorem halve_go {q : Nat → Bool} {f lo hi : Nat} (h : lo < hi) : halve q (f + 1) lo hi = if q ((lo + hi) / 2) then halve q f ((lo + hi) / 2 + 1) hi else halve q f lo ((lo + hi) / 2) := by rw [halve, if_pos h]
theorem halve_stop (q : Nat → Bool) (f lo : Nat) : halve q f lo lo = lo := by
  cases f with
  | zero => rfl
  | succ f => rw [halve, if_neg (Nat.lt_irrefl _)]

set_option maxHeartbeats 4000000 in
set_option maxRecDepth 1000000 in
theorem symLeft_call (L : Sits P) (enc : α → Value) (cf : α → α → Int) (g : Nat) (cb : Array Value) (blk off cap a b f : Nat) (d0 d : Array α) (w0 w : World)
    (eg : ∀ args w, (callFunc g args).run P w = .ok (.enter g args) w) (hcmp : CmpLays1 P g cb enc cf blk off d.size w0)
    (R : Row1 enc w0 blk off d0) (hs : d0.size = d.size) (S : SW enc w0 blk off d w) (hmb : a + 1 < b) (hb : b ≤ d.size) (hsz : d.size < 4611686018427387904) :
    Calls P 122 #[.slice (some ⟨blk, off, none⟩) d.size cap, .int .i64 a, .int .i64 (a + 1 : Nat), .int .i64 b, .func (.func g) #[] cb] w fun e w' => e = .returned (.tuple #[]) ∧ SW enc w0 blk off (symM (ltOf cf) (f + 1) a (a + 1) b d) w' := by
  have mixed := L.mixed; have t0 := L.t0; have a0 := L.a0; have z0 := L.z0; have v0 := L.v0; have t3 := L.t3; have a3 := L.a3; have z3 := L.z3; have v3 := L.v3; have t4 := L.t4; have a4 := L.a4; have z4 := L.z4; have v4 := L.v4; have t50 := L.t50; have a50 := L.a50; have z50 := L.z50; have v50 := L.v50; have t56 := L.t56; have a56 := L.a56; have z56 := L.z56; have v56 := L.v56
  have t44 := L.t44; have a44 := L.a44; have z44 := L.z44; have v44 := L.v44
  have aE := L.aE; have zE := L.zE
  have hcl0 := R.hO.cells
  simp only [Value.cells] at hcl0
  have hst := R.hO.store P
  have u3 := run_underlying L.t3; have u44 := run_underlying L.t44
  have S0 : Aside (SW enc w0 blk off d w) := S
  have HC : Aside _ := hcmp
  obtain ⟨n, hn⟩ : ∃ n, d.size = n := ⟨_, rfl⟩
  rw [hn] at hb hsz hs HC ⊢
  have HN : Hid (d.size = n) := hn
  have HS : Hid (d0.size = n) := hs
  clear hn hs S hcmp
  obtain ⟨X, hX⟩ : ∃ X, symM (ltOf cf) (f + 1) a (a + 1) b d = X := ⟨_, rfl⟩
  have HX : Hid (upR a (halve (fun h => ltOf cf d[h]! d[a]!) (b - a) (a + 1) b - 1 - a) d = X) := by
    show _ = _
    rw [← hX, symM, if_pos (by omega)]
  rw [hX]
  clear hX
  go_enter L.f68, Tryz.ntmps122
  have w1 : IntKind.i64.wrap (((a + 1 : Nat) : Int) - (a : Int)) = 1 := by rw [IntKind.wrap_i64]; omega
  obtain ⟨m, hm⟩ : ∃ m, a + 1 = m := ⟨_, rfl⟩
  have HM : Hid (a + 1 = m) := hm
  rw [hm] at hmb w1 HX ⊢
  have ham : a < m := by omega
  have hma : m ≤ a + 1 := by omega
  clear hm
  go_wp2
  clear w1
  go_loopg [10, 11] (b - a) (fun kx s10 s11 wr => ∃ (lo hi e : Nat), s10 = .int .i64 lo ∧ s11 = .int .i64 hi ∧ m ≤ lo ∧ lo ≤ hi ∧ hi ≤ b ∧ hi - lo ≤ e ∧ e ≤ kx ∧ Aside (SW enc w0 blk off d wr) ∧
    Hid (halve (fun h => ltOf cf d[h]! d[a]!) e lo hi = halve (fun h => ltOf cf d[h]! d[a]!) (b - a) m b))
  case atStart => exact ⟨m, b, b - a, rfl, rfl, Nat.le_refl _, by omega, Nat.le_refl _, by omega, Nat.le_refl _, S0, rfl⟩
  case round =>
    clear S0
    obtain ⟨lo, hi, e, rfl, rfl, hml, hlh, hhb, hle, hek, S1, HE⟩ := hrel
    by_cases hlt : lo < hi
    · obtain ⟨e, rfl⟩ : ∃ q, e = q + 1 := ⟨e - 1, by omega⟩
      obtain ⟨c, hc⟩ : ∃ c, (lo + hi) / 2 = c := ⟨_, rfl⟩
      have hcz : ((lo : Int) + (hi : Int)) / 2 = (c : Int) := by omega
      have hcn : (c : Int) < (n : Int) := by omega
      have han : (a : Int) < (n : Int) := by omega
      obtain ⟨x1, hx1⟩ : ∃ x, x = d[c]! := ⟨_, rfl⟩
      obtain ⟨y1, hy1⟩ : ∃ x, x = d[a]! := ⟨_, rfl⟩
      have l1 := S1.out.cl R (by rw [HN.out, HS.out]) c (by rw [HN.out]; omega)
      have l2 := S1.out.cl R (by rw [HN.out, HS.out]) a (by rw [HN.out]; omega)
      rw [← hx1] at l1
      rw [← hy1] at l2
      have hcc := S1.out.cmp HC.out HN.out x1 y1
      have HXY : Hid (x1 = d[c]! ∧ y1 = d[a]!) := ⟨hx1, hy1⟩
      have HCC : Hid ((lo + hi) / 2 = c) := hc
      have hci : lo ≤ c ∧ c < hi := by omega
      clear hx1 hy1 hc
      by_cases hv : cf x1 y1 < 0
      · have hd : decide (cf x1 y1 < 0) = true := decide_eq_true hv
        go_wp2_with fail
        go_quiet_grown (first | (go_at_fn g; refine Calls.grown_of (hcc _ _)))
        have S2 : Aside (SW enc w0 blk off d (grow (wr.drewN nq) osq)) := S1.out.grown nq osq
        clear l1 l2 hcc S1
        generalize grow (wr.drewN nq) osq = w2 at S2 ⊢
        clear nq osq
        go_wp2
        go_roundg e
        case measure => omega
        case rel =>
          refine ⟨c + 1, hi, e, int_at (by omega), rfl, by omega, by omega, hhb, by omega, Nat.le_refl _, S2, (show Hid _ from ?_)⟩
          show _ = _
          rw [← HE.out, halve_go hlt, HCC.out, if_pos]
          rw [← HXY.out.1, ← HXY.out.2]; exact hd
      · have hd : decide (cf x1 y1 < 0) = false := decide_eq_false hv
        go_wp2_with fail
        go_quiet_grown (first | (go_at_fn g; refine Calls.grown_of (hcc _ _)))
        have S2 : Aside (SW enc w0 blk off d (grow (wr.drewN nq) osq)) := S1.out.grown nq osq
        clear l1 l2 hcc S1
        generalize grow (wr.drewN nq) osq = w2 at S2 ⊢
        clear nq osq
        go_wp2
        go_roundg e
        case measure => omega
        case rel =>
          refine ⟨lo, c, e, rfl, int_at (by omega), by omega, by omega, by omega, by omega, Nat.le_refl _, S2, (show Hid _ from ?_)⟩
          show _ = _
          rw [← HE.out, halve_go hlt, HCC.out, if_neg]
          rw [← HXY.out.1, ← HXY.out.2]; show ¬ decide (cf x1 y1 < 0) = true; rw [hd]; decide
    · obtain rfl : lo = hi := by omega
      have HU : Hid (upR a (lo - 1 - a) d = X) := by
        show _ = _
        rw [← HX.out, ← HE.out, halve_stop]
      clear HE HX
      have wl : IntKind.i64.wrap ((lo : Int) - 1) = (lo : Int) - 1 := by rw [IntKind.wrap_i64]; omega
      go_wp2
      go_loopg [13] (lo - 1 - a) (fun kx s13 wr => ∃ (i : Nat) (dk : Array α), s13 = .int .i64 i ∧ i ≤ lo - 1 ∧ lo - 1 - i ≤ kx ∧ dk.size = n ∧ Aside (SW enc w0 blk off dk wr) ∧ Hid (upR i (lo - 1 - i) dk = X))
      case atStart => exact ⟨a, d, rfl, by omega, Nat.le_refl _, HN.out, S1, HU⟩
      case round =>
        clear S1
        obtain ⟨i, dk, rfl, hi1, hkx, hds, S1, HE⟩ := hrel
        by_cases hlt : (i : Int) < (lo : Int) - 1
        · have wi : IntKind.i64.wrap ((i : Int) + 1) = (i : Int) + 1 := by rw [IntKind.wrap_i64]; omega
          have li : (i : Int) < (n : Int) := by omega
          have li1 : (i : Int) + 1 < (n : Int) := by omega
          obtain ⟨iN, hiN⟩ : ∃ q, q = i := ⟨_, rfl⟩
          obtain ⟨jN, hjN⟩ : ∃ q, q = (i + 1) := ⟨_, rfl⟩
          obtain ⟨xV, hxV⟩ : ∃ x, x = dk[i]! := ⟨_, rfl⟩
          obtain ⟨yV, hyV⟩ : ∃ x, x = dk[(i + 1)]! := ⟨_, rfl⟩
          have S2 : Aside (SW enc w0 blk off (swp dk i (i + 1)) ((wr.setCell ⟨blk, off + iN, none⟩ (enc yV)).setCell ⟨blk, off + jN, none⟩ (enc xV)).drew) := by rw [hiN, hjN, hxV, hyV]; exact S1.out.swapped R i (i + 1) (by omega) (by omega)
          have cA := S1.out.c1 R (by rw [hds, HS.out]) i (by omega)
          have cB := S1.out.c1 R (by rw [hds, HS.out]) (i + 1) (by omega)
          have fA := S1.out.f1 R (by rw [hds, HS.out]) i (by omega)
          have fB := S1.out.f1 R (by rw [hds, HS.out]) (i + 1) (by omega)
          obtain ⟨uC, cC⟩ := S1.out.c2 R (by rw [hds, HS.out]) i (i + 1) (by omega) (by omega) (enc yV)
          rw [← hjN, ← hiN] at cC
          rw [← hxV, ← hiN] at cA
          rw [← hyV, ← hjN] at cB
          rw [← hiN] at fA
          rw [← hjN] at fB
          have qiN : ((i : Int)).toNat = iN := by omega
          have qjN : ((i : Int) + 1).toNat = jN := by omega
          have hxi : Hid (iN = i) := hiN
          have hyj : Hid (jN = (i + 1)) := hjN
          clear S1 hxV hyV hiN hjN
          go_wp2_with fail
          go_big_region_o
          clear cA cB cC fA fB
          generalize ((wr.setCell ⟨blk, off + iN, none⟩ (enc yV)).setCell ⟨blk, off + jN, none⟩ (enc xV)).drew = w2 at S2 ⊢
          go_wp2
          go_roundg (lo - 1 - (i + 1))
          case measure => omega
          case rel =>
            refine ⟨i + 1, swp dk i (i + 1), int_at (by omega), by omega, Nat.le_refl _, by rw [size_swp]; exact hds, S2, (show Hid _ from ?_)⟩
            show _ = _
            rw [← HE.out, show lo - 1 - i = lo - 1 - (i + 1) + 1 by omega, upR]
        · go_wp2
          refine bodyPost_ret (results_none rfl _ _ _) rfl ?_
          refine ⟨rfl, ?_⟩
          have h := HE.out
          rw [show lo - 1 - i = 0 by omega, upR] at h
          rw [← h]
          exact S1.out
end Go.Proofs.YtdeeeechdlcdbaaGreat
/- The walk of a merge where the right side is a single element. -/
set_option linter.unusedVariables false
namespace Go.Proofs.YtdeeeechdlcdbaaGreat
open Go Go.RowKit Go.Lib Go.Sort Go.Proofs
variable {P : Program} {α : Type} [Inhabited α]

set_option maxHeartbeats 4000000 in
set_option maxRecDepth 1000000 in
theorem symRight_call (L : Sits P) (enc : α → Value) (cf : α → α → Int) (g : Nat) (cb : Array Value) (blk off cap a m f : Nat) (d0 d : Array α) (w0 w : World)
    (eg : ∀ args w, (callFunc g args).run P w = .ok (.enter g args) w) (hcmp : CmpLays1 P g cb enc cf blk off d.size w0)
    (R : Row1 enc w0 blk off d0) (hs : d0.size = d.size) (S : SW enc w0 blk off d w) (ham : a + 1 < m) (hb : m + 1 ≤ d.size) (hsz : d.size < 4611686018427387904) :
    Calls P 122 #[.slice (some ⟨blk, off, none⟩) d.size cap, .int .i64 a, .int .i64 m, .int .i64 (m + 1 : Nat), .func (.func g) #[] cb] w fun e w' => e = .returned (.tuple #[]) ∧ SW enc w0 blk off (symM (ltOf cf) (f + 1) a m (m + 1) d) w' := by
  have mixed := L.mixed; have t0 := L.t0; have a0 := L.a0; have z0 := L.z0; have v0 := L.v0; have t3 := L.t3; have a3 := L.a3; have z3 := L.z3; have v3 := L.v3; have t4 := L.t4; have a4 := L.a4; have z4 := L.z4; have v4 := L.v4; have t50 := L.t50; have a50 := L.a50; have z50 := L.z50; have v50 := L.v50; have t56 := L.t56; have a56 := L.a56; have z56 := L.z56; have v56 := L.v56
  have t44 := L.t44; have a44 := L.a44; have z44 := L.z44; have v44 := L.v44
  have aE := L.aE; have zE := L.zE
  have hcl0 := R.hO.cells
  simp only [Value.cells] at hcl0
  have hst := R.hO.store P
  have u3 := run_underlying L.t3; have u44 := run_underlying L.t44
  have S0 : Aside (SW enc w0 blk off d w) := S
  have HC : Aside _ := hcmp
  obtain ⟨n, hn⟩ : ∃ n, d.size = n := ⟨_, rfl⟩
  rw [hn] at hb hsz hs HC ⊢
  have HN : Hid (d.size = n) := hn
  have HS : Hid (d0.size = n) := hs
  clear hn hs S hcmp
  obtain ⟨X, hX⟩ : ∃ X, symM (ltOf cf) (f + 1) a m (m + 1) d = X := ⟨_, rfl⟩
  have HX : Hid (dnR m (m - halve (fun h => !ltOf cf d[m]! d[h]!) (m + 1 - a) a m) d = X) := by
    show _ = _
    rw [← hX, symM, if_neg (by omega), if_pos (by omega)]
  rw [hX]
  clear hX
  go_enter L.f68, Tryz.ntmps122
  have w1 : IntKind.i64.wrap (((m + 1 : Nat) : Int) - (m : Int)) = 1 := by rw [IntKind.wrap_i64]; omega
  have w2 : IntKind.i64.wrap ((m : Int) - (a : Int)) = (m : Int) - (a : Int) := by rw [IntKind.wrap_i64]; omega
  have w3 : (((m : Int) - (a : Int)) == 1) = false := by simp; omega
  obtain ⟨b, hm⟩ : ∃ b, m + 1 = b := ⟨_, rfl⟩
  have HM : Hid (m + 1 = b) := hm
  rw [hm] at hb w1 HX ⊢
  have hmn : m < n := by omega
  clear hm
  go_wp2
  clear w1 w2 w3
  go_loopg [14, 15] (b - a) (fun kx s10 s11 wr => ∃ (lo hi e : Nat), s10 = .int .i64 lo ∧ s11 = .int .i64 hi ∧ a ≤ lo ∧ lo ≤ hi ∧ hi ≤ m ∧ hi - lo ≤ e ∧ e ≤ kx ∧ Aside (SW enc w0 blk off d wr) ∧
    Hid (halve (fun h => !ltOf cf d[m]! d[h]!) e lo hi = halve (fun h => !ltOf cf d[m]! d[h]!) (b - a) a m))
  case atStart => exact ⟨a, m, b - a, rfl, rfl, Nat.le_refl _, by omega, Nat.le_refl _, by have := HM.out; omega, Nat.le_refl _, S0, rfl⟩
  case round =>
    clear S0
    obtain ⟨lo, hi, e, rfl, rfl, hml, hlh, hhb, hle, hek, S1, HE⟩ := hrel
    by_cases hlt : lo < hi
    · obtain ⟨e, rfl⟩ : ∃ q, e = q + 1 := ⟨e - 1, by omega⟩
      obtain ⟨c, hc⟩ : ∃ c, (lo + hi) / 2 = c := ⟨_, rfl⟩
      have hcz : ((lo : Int) + (hi : Int)) / 2 = (c : Int) := by omega
      have hcn : (c : Int) < (n : Int) := by omega
      have han : (m : Int) < (n : Int) := by omega
      obtain ⟨x1, hx1⟩ : ∃ x, x = d[m]! := ⟨_, rfl⟩
      obtain ⟨y1, hy1⟩ : ∃ x, x = d[c]! := ⟨_, rfl⟩
      have l1 := S1.out.cl R (by rw [HN.out, HS.out]) m (by rw [HN.out]; omega)
      have l2 := S1.out.cl R (by rw [HN.out, HS.out]) c (by rw [HN.out]; omega)
      rw [← hx1] at l1
      rw [← hy1] at l2
      have hcc := S1.out.cmp HC.out HN.out x1 y1
      have HXY : Hid (x1 = d[m]! ∧ y1 = d[c]!) := ⟨hx1, hy1⟩
      have HCC : Hid ((lo + hi) / 2 = c) := hc
      have hci : lo ≤ c ∧ c < hi := by omega
      clear hx1 hy1 hc
      by_cases hv : cf x1 y1 < 0
      · have hd : decide (cf x1 y1 < 0) = true := decide_eq_true hv
        go_wp2_with fail
        go_quiet_grown (first | (go_at_fn g; refine Calls.grown_of (hcc _ _)))
        have S2 : Aside (SW enc w0 blk off d (grow (wr.drewN nq) osq)) := S1.out.grown nq osq
        clear l1 l2 hcc S1
        generalize grow (wr.drewN nq) osq = w2 at S2 ⊢
        clear nq osq
        go_wp2
        go_roundg e
        case measure => omega
        case rel =>
          refine ⟨lo, c, e, rfl, int_at (by omega), by omega, by omega, by omega, by omega, Nat.le_refl _, S2, (show Hid _ from ?_)⟩
          show _ = _
          rw [← HE.out, halve_go hlt, HCC.out, if_neg]
          rw [← HXY.out.1, ← HXY.out.2]; show ¬ (!decide (cf x1 y1 < 0)) = true; rw [hd]; decide
      · have hd : decide (cf x1 y1 < 0) = false := decide_eq_false hv
        go_wp2_with fail
        go_quiet_grown (first | (go_at_fn g; refine Calls.grown_of (hcc _ _)))
        have S2 : Aside (SW enc w0 blk off d (grow (wr.drewN nq) osq)) := S1.out.grown nq osq
        clear l1 l2 hcc S1
        generalize grow (wr.drewN nq) osq = w2 at S2 ⊢
        clear nq osq
        go_wp2
        go_roundg e
        case measure => omega
        case rel =>
          refine ⟨c + 1, hi, e, int_at (by omega), rfl, by omega, by omega, hhb, by omega, Nat.le_refl _, S2, (show Hid _ from ?_)⟩
          show _ = _
          rw [← HE.out, halve_go hlt, HCC.out, if_pos]
          rw [← HXY.out.1, ← HXY.out.2]; show (!decide (cf x1 y1 < 0)) = true; rw [hd]; decide
    · obtain rfl : lo = hi := by omega
      have HU : Hid (dnR m (m - lo) d = X) := by
        show _ = _
        rw [← HX.out, ← HE.out, halve_stop]
      clear HE HX
      go_wp2
      go_loopg [17] (m - lo) (fun kx s13 wr => ∃ (i : Nat) (dk : Array α), s13 = .int .i64 i ∧ lo ≤ i ∧ i ≤ m ∧ i - lo ≤ kx ∧ dk.size = n ∧ Aside (SW enc w0 blk off dk wr) ∧ Hid (dnR i (i - lo) dk = X))
      case atStart => exact ⟨m, d, rfl, hhb, Nat.le_refl _, Nat.le_refl _, HN.out, S1, HU⟩
      case round =>
        clear S1
        obtain ⟨i, dk, rfl, hli, him, hkx, hds, S1, HE⟩ := hrel
        by_cases hlt : (lo : Int) < (i : Int)
        · obtain ⟨j, rfl⟩ : ∃ j, i = j + 1 := ⟨i - 1, by omega⟩
          have wj : IntKind.i64.wrap (j : Int) = (j : Int) := by rw [IntKind.wrap_i64]; omega
          have lj : (j : Int) < (n : Int) := by omega
          have lj1 : (j : Int) + 1 < (n : Int) := by omega
          obtain ⟨iN, hiN⟩ : ∃ q, q = (j + 1) := ⟨_, rfl⟩
          obtain ⟨jN, hjN⟩ : ∃ q, q = j := ⟨_, rfl⟩
          obtain ⟨xV, hxV⟩ : ∃ x, x = dk[(j + 1)]! := ⟨_, rfl⟩
          obtain ⟨yV, hyV⟩ : ∃ x, x = dk[j]! := ⟨_, rfl⟩
          have S2 : Aside (SW enc w0 blk off (swp dk (j + 1) j) ((wr.setCell ⟨blk, off + iN, none⟩ (enc yV)).setCell ⟨blk, off + jN, none⟩ (enc xV)).drew) := by rw [hiN, hjN, hxV, hyV]; exact S1.out.swapped R (j + 1) j (by omega) (by omega)
          have cA := S1.out.c1 R (by rw [hds, HS.out]) (j + 1) (by omega)
          have cB := S1.out.c1 R (by rw [hds, HS.out]) j (by omega)
          have fA := S1.out.f1 R (by rw [hds, HS.out]) (j + 1) (by omega)
          have fB := S1.out.f1 R (by rw [hds, HS.out]) j (by omega)
          obtain ⟨uC, cC⟩ := S1.out.c2 R (by rw [hds, HS.out]) (j + 1) j (by omega) (by omega) (enc yV)
          rw [← hiN] at cC
          rw [← hjN] at cC
          rw [← hxV, ← hiN] at cA
          rw [← hyV, ← hjN] at cB
          rw [← hiN] at fA
          rw [← hjN] at fB
          have qiN : ((j : Int) + 1).toNat = iN := by omega
          have qjN : ((j : Int)).toNat = jN := by omega
          have hxi : Hid (iN = (j + 1)) := hiN
          have hyj : Hid (jN = j) := hjN
          clear S1 hxV hyV hiN hjN
          go_wp2_with fail
          go_big_region_o
          clear cA cB cC fA fB
          generalize ((wr.setCell ⟨blk, off + iN, none⟩ (enc yV)).setCell ⟨blk, off + jN, none⟩ (enc xV)).drew = w2 at S2 ⊢
          go_wp2
          go_roundg (j - lo)
          case measure => omega
          case rel =>
            refine ⟨j, swp dk (j + 1) j, rfl, by omega, by omega, Nat.le_refl _, by rw [size_swp]; exact hds, S2, (show Hid _ from ?_)⟩
            show _ = _
            rw [← HE.out, show j + 1 - lo = j - lo + 1 by omega, dnR]; rfl
        · go_wp2
          refine bodyPost_ret (results_none rfl _ _ _) rfl ?_
          refine ⟨rfl, ?_⟩
          have h := HE.out
          rw [show i - lo = 0 by omega, dnR] at h
          rw [← h]
          exact S1.out
end Go.Proofs.YtdeeeechdlcdbaaGreat
/- The walk of a merge of two stretches, and of the whole. -/
set_option linter.unusedVariables false
set_option linter.unusedSimpArgs false
namespace Go.Proofs.YtdeeeechdlcdbaaGreat
open Go Go.RowKit Go.Lib Go.Sort Go.Proofs
variable {P : Program} {α : Type} [Inhabited α]

theorem size_upR : ∀ (k a : Nat) (d : Array α), (upR a k d).size = d.size
  | 0, _, _ => rfl
  | k + 1, a, d => by rw [upR, size_upR k, size_swp]
theorem size_dnR : ∀ (k m : Nat) (d : Array α), (dnR m k d).size = d.size
  | 0, _, _ => rfl
  | k + 1, m, d => by rw [dnR, size_dnR k, size_swp]
theorem size_rotL (m : Nat) : ∀ (f i j : Nat) (d : Array α), (rotL m f i j d).size = d.size
  | 0, i, j, d => by rw [rotL, size_swapR]
  | f + 1, i, j, d => by
    rw [rotL]
    split
    · exact size_swapR _ _ _ _
    · split
      · rw [size_rotL m f, size_swapR]
      · rw [size_rotL m f, size_swapR]
theorem size_rot (d : Array α) (a m b : Nat) : (rot d a m b).size = d.size := size_rotL _ _ _ _ _
theorem size_symT (lt : α → α → Bool) (d : Array α) (a m b : Nat) : (symT lt d a m b).size = d.size := by
  unfold symT; split
  · exact size_rot _ _ _ _
  · rfl
theorem size_symM (lt : α → α → Bool) : ∀ (f a m b : Nat) (d : Array α), (symM lt f a m b d).size = d.size
  | 0, _, _, _, _ => rfl
  | f + 1, a, m, b, d => by
    rw [symM]
    split
    · exact size_upR _ _ _
    · split
      · exact size_dnR _ _ _
      · split
        · rw [size_symM lt f]
          split
          · rw [size_symM lt f, size_symT]
          · exact size_symT _ _ _ _ _
        · split
          · rw [size_symM lt f, size_symT]
          · exact size_symT _ _ _ _ _

theorem symM_main (lt : α → α → Bool) {f a m b M s e : Nat} {d d1 d2 d3 : Array α} (h1 : ¬ m - a = 1) (h2 : ¬ b - m = 1) (hM : (a + b) / 2 = M) (hs : symS lt d a m b = s) (he : M + m - s = e)
    (a1 : s < m ∧ m < e → d1 = rot d s m e) (b1 : ¬ (s < m ∧ m < e) → d1 = d) (a2 : a < s ∧ s < M → d2 = symM lt f a s M d1) (b2 : ¬ (a < s ∧ s < M) → d2 = d1) (a3 : M < e ∧ e < b → d3 = symM lt f M e b d2) (b3 : ¬ (M < e ∧ e < b) → d3 = d2) :
    symM lt (f + 1) a m b d = d3 := by
  have e1 : symT lt d a m b = d1 := by
    unfold symT
    rw [hM, hs, he]
    by_cases c : s < m ∧ m < e
    · rw [if_pos c, a1 c]
    · rw [if_neg c, b1 c]
  rw [symM, if_neg h1, if_neg h2, hM, hs, he, e1]
  have e2 : (if a < s ∧ s < M then symM lt f a s M d1 else d1) = d2 := by
    by_cases c : a < s ∧ s < M
    · rw [if_pos c, a2 c]
    · rw [if_neg c, b2 c]
  rw [e2]
  by_cases c : M < e ∧ e < b
  · rw [if_pos c, a3 c]
  · rw [if_neg c, b3 c]

set_option maxHeartbeats 8000000 in
set_option maxRecDepth 1000000 in
theorem symMain_call (L : Sits P) (enc : α → Value) (cf : α → α → Int) (g : Nat) (cb : Array Value) (blk off cap a m b f n : Nat) (d0 d : Array α) (w0 w : World)
    (eg : ∀ args w, (callFunc g args).run P w = .ok (.enter g args) w) (hcmp : CmpLays1 P g cb enc cf blk off n w0)
    (R : Row1 enc w0 blk off d0) (hs : d0.size = n) (hn : d.size = n) (S : SW enc w0 blk off d w) (ham : a + 1 < m) (hmb : m + 1 < b) (hb : b ≤ n) (hsz : n < 4611686018427387904)
    (ih : ∀ (a m b : Nat) (d : Array α) (w : World), d.size = n → SW enc w0 blk off d w → a < m → m < b → b ≤ n → b - a ≤ f →
      Calls P 122 #[.slice (some ⟨blk, off, none⟩) n cap, .int .i64 a, .int .i64 m, .int .i64 b, .func (.func g) #[] cb] w fun e w' => e = .returned (.tuple #[]) ∧ SW enc w0 blk off (symM (ltOf cf) f a m b d) w')
    (hf : b - a ≤ f + 1) :
    Calls P 122 #[.slice (some ⟨blk, off, none⟩) n cap, .int .i64 a, .int .i64 m, .int .i64 b, .func (.func g) #[] cb] w fun e w' => e = .returned (.tuple #[]) ∧ SW enc w0 blk off (symM (ltOf cf) (f + 1) a m b d) w' := by
  have mixed := L.mixed; have t0 := L.t0; have a0 := L.a0; have z0 := L.z0; have v0 := L.v0; have t3 := L.t3; have a3 := L.a3; have z3 := L.z3; have v3 := L.v3; have t4 := L.t4; have a4 := L.a4; have z4 := L.z4; have v4 := L.v4; have t50 := L.t50; have a50 := L.a50; have z50 := L.z50; have v50 := L.v50; have t56 := L.t56; have a56 := L.a56; have z56 := L.z56; have v56 := L.v56
  have t44 := L.t44; have a44 := L.a44; have z44 := L.z44; have v44 := L.v44
  have aE := L.aE; have zE := L.zE
  have hcl0 := R.hO.cells
  simp only [Value.cells] at hcl0
  have hst := R.hO.store P
  have u3 := run_underlying L.t3; have u44 := run_underlying L.t44
  have e70 : ∀ args w, (callFunc 134 args).run P w = .ok (.enter 134 args) w := enters_of L.f70 (by kernel_rfl) rfl
  have e68 : ∀ args w, (callFunc 122 args).run P w = .ok (.enter 122 args) w := enters_of L.f68 (by kernel_rfl) rfl
  have S0 : Aside (SW enc w0 blk off d w) := S
  have HC : Aside _ := hcmp
  have IH : Aside _ := ih
  have HN : Hid (d.size = n) := hn
  have HS : Hid (d0.size = n) := hs
  have ROT : Aside (∀ (x y z : Nat) (W : World), SW enc w0 blk off d W → x < y → y < z → z ≤ n →
      Calls P 134 #[.slice (some ⟨blk, off, none⟩) n cap, .int .i64 x, .int .i64 y, .int .i64 z, .func (.func g) #[] cb] W fun e w' => e = .returned (.tuple #[]) ∧ SW enc w0 blk off (rot d x y z) w') := by
    intro x y z W hS h1 h2 h3
    rw [← hn]
    exact rotate_call L enc g cb blk off cap x y z d0 d w0 W R (by rw [hs, hn]) hS h1 h2 (by rw [hn]; exact h3) (by rw [hn]; exact hsz)
  clear hn hs S hcmp ih
  obtain ⟨M, hM⟩ : ∃ M, (a + b) / 2 = M := ⟨_, rfl⟩
  obtain ⟨N, hN⟩ : ∃ N, M + m = N := ⟨_, rfl⟩
  obtain ⟨Q, hQ⟩ : ∃ Q, N - 1 = Q := ⟨_, rfl⟩
  have zM : ((a : Int) + (b : Int)) / 2 = (M : Int) := by omega
  have zN : IntKind.i64.wrap ((M : Int) + (m : Int)) = (N : Int) := by rw [IntKind.wrap_i64]; omega
  have zQ : IntKind.i64.wrap ((N : Int) - 1) = (Q : Int) := by rw [IntKind.wrap_i64]; omega
  have HM : Hid ((a + b) / 2 = M) := hM
  have HNN : Hid (M + m = N) := hN
  have HQ : Hid (N - 1 = Q) := hQ
  have w2 : IntKind.i64.wrap ((m : Int) - (a : Int)) = (m : Int) - (a : Int) := by rw [IntKind.wrap_i64]; omega
  have w3 : (((m : Int) - (a : Int)) == 1) = false := by simp; omega
  have w4 : IntKind.i64.wrap ((b : Int) - (m : Int)) = (b : Int) - (m : Int) := by rw [IntKind.wrap_i64]; omega
  have w5 : (((b : Int) - (m : Int)) == 1) = false := by simp; omega
  have bM : a < M ∧ M < b := by omega
  have bN : N ≤ M + m ∧ M + m ≤ N ∧ Q + 1 ≤ N ∧ N ≤ Q + 1 := by omega
  clear hM hN hQ
  have HX : Hid (∀ s, halve (fun c => !ltOf cf d[Q - c]! d[c]!) (b - a) (if M < m then N - b else a) (if M < m then M else m) = s → symS (ltOf cf) d a m b = s) := by
    intro s h
    unfold symS
    have e1 := HM.out; have e2 := HNN.out; have e3 := HQ.out
    rw [e1]
    rw [e2, e3]
    by_cases c : M < m
    · rw [if_pos c]; rw [if_pos c, if_pos c] at h; exact h
    · rw [if_neg c]; rw [if_neg c, if_neg c] at h; exact h
  go_enter L.f68, Tryz.ntmps122
  by_cases hc : M < m
  · have hcz : (M : Int) < (m : Int) := by omega
    obtain ⟨T, hT⟩ : ∃ T, N - b = T := ⟨_, rfl⟩
    have zT : IntKind.i64.wrap ((N : Int) - (b : Int)) = (T : Int) := by rw [IntKind.wrap_i64]; omega
    have bT : T + b ≤ N ∧ N ≤ T + b ∧ a ≤ T ∧ T ≤ M := by omega
    rw [hT] at HX
    clear hT
    go_wp2
    go_loopg [20, 21] (b - a) (fun kx s20 s21 wr => ∃ (lo hi e : Nat), s20 = .int .i64 lo ∧ s21 = .int .i64 hi ∧ T ≤ lo ∧ lo ≤ hi ∧ hi ≤ M ∧ hi - lo ≤ e ∧ e ≤ kx ∧ Aside (SW enc w0 blk off d wr) ∧
      Hid (halve (fun c => !ltOf cf d[Q - c]! d[c]!) e lo hi = halve (fun c => !ltOf cf d[Q - c]! d[c]!) (b - a) T M))
    case atStart => exact ⟨T, M, b - a, rfl, rfl, Nat.le_refl _, by omega, Nat.le_refl _, by omega, Nat.le_refl _, S0, rfl⟩
    case round =>
      clear S0
      obtain ⟨lo, hi, e, rfl, rfl, hml, hlh, hhb, hle, hek, S1, HE⟩ := hrel
      by_cases hlt : lo < hi
      · obtain ⟨e, rfl⟩ : ∃ q, e = q + 1 := ⟨e - 1, by omega⟩
        obtain ⟨c, hc'⟩ : ∃ c, (lo + hi) / 2 = c := ⟨_, rfl⟩
        obtain ⟨U, hU⟩ : ∃ U, Q - c = U := ⟨_, rfl⟩
        have hczz : ((lo : Int) + (hi : Int)) / 2 = (c : Int) := by omega
        have hin : lo ≤ c ∧ c < hi ∧ c ≤ Q ∧ U < n ∧ c < n := by omega
        have zU : IntKind.i64.wrap ((Q : Int) - (c : Int)) = (U : Int) := by rw [IntKind.wrap_i64]; omega
        have hcn : (c : Int) < (n : Int) := by omega
        have hUn : (U : Int) < (n : Int) := by omega
        obtain ⟨x1, hx1⟩ : ∃ x, x = d[U]! := ⟨_, rfl⟩
        obtain ⟨y1, hy1⟩ : ∃ x, x = d[c]! := ⟨_, rfl⟩
        have l1 := S1.out.cl R (by rw [HN.out, HS.out]) U (by rw [HN.out]; omega)
        have l2 := S1.out.cl R (by rw [HN.out, HS.out]) c (by rw [HN.out]; omega)
        rw [← hx1] at l1
        rw [← hy1] at l2
        have hcc := S1.out.cmp HC.out HN.out x1 y1
        have HXY : Hid (x1 = d[Q - c]! ∧ y1 = d[c]!) := ⟨by rw [hU]; exact hx1, hy1⟩
        have HCC : Hid ((lo + hi) / 2 = c) := hc'
        clear hx1 hy1 hc' hU
        by_cases hv : cf x1 y1 < 0
        · have hd : decide (cf x1 y1 < 0) = true := decide_eq_true hv
          go_wp2_with fail
          go_quiet_grown (first | (go_at_fn g; refine Calls.grown_of (hcc _ _)))
          have S2 : Aside (SW enc w0 blk off d (grow (wr.drewN nq) osq)) := S1.out.grown nq osq
          clear l1 l2 hcc S1
          generalize grow (wr.drewN nq) osq = w2 at S2 ⊢
          clear nq osq
          go_wp2
          go_roundg e
          case measure => omega
          case rel =>
            refine ⟨lo, c, e, rfl, int_at (by omega), by omega, by omega, by omega, by omega, Nat.le_refl _, S2, (show Hid _ from ?_)⟩
            show _ = _
            rw [← HE.out, halve_go hlt, HCC.out, if_neg]
            rw [← HXY.out.1, ← HXY.out.2]; show ¬ (!decide (cf x1 y1 < 0)) = true; rw [hd]; decide
        · have hd : decide (cf x1 y1 < 0) = false := decide_eq_false hv
          go_wp2_with fail
          go_quiet_grown (first | (go_at_fn g; refine Calls.grown_of (hcc _ _)))
          have S2 : Aside (SW enc w0 blk off d (grow (wr.drewN nq) osq)) := S1.out.grown nq osq
          clear l1 l2 hcc S1
          generalize grow (wr.drewN nq) osq = w2 at S2 ⊢
          clear nq osq
          go_wp2
          go_roundg e
          case measure => omega
          case rel =>
            refine ⟨c + 1, hi, e, int_at (by omega), rfl, by omega, by omega, hhb, by omega, Nat.le_refl _, S2, (show Hid _ from ?_)⟩
            show _ = _
            rw [← HE.out, halve_go hlt, HCC.out, if_pos]
            rw [← HXY.out.1, ← HXY.out.2]; show (!decide (cf x1 y1 < 0)) = true; rw [hd]; decide
      · obtain rfl : lo = hi := by omega
        obtain ⟨E, hE⟩ : ∃ E, N - lo = E := ⟨_, rfl⟩
        have zE' : IntKind.i64.wrap ((N : Int) - (lo : Int)) = (E : Int) := by rw [IntKind.wrap_i64]; omega
        have bE : E + lo ≤ N ∧ N ≤ E + lo ∧ E ≤ b ∧ M ≤ E + m ∧ lo ≤ m ∧ lo ≤ M ∧ m ≤ E ∧ a ≤ lo := by omega
        have HSS : Hid (symS (ltOf cf) d a m b = lo) := HX.out lo (by
          rw [if_pos hc, if_pos hc, ← HE.out, halve_stop])
        have HEE : Hid (M + m - lo = E) := by show _ = _; omega
        clear hE HE HX
        rcases Nat.lt_or_ge lo m with hA | hA
        · rcases Nat.lt_or_ge lo M with hB | hB
          · rcases Nat.lt_or_ge a lo with hC | hC
            · rcases Nat.lt_or_ge E b with hD | hD
              · have z0 : (lo : Int) < (m : Int) := by omega
                have z1 : (m : Int) < (E : Int) := by omega
                have z2 : (a : Int) < (lo : Int) := by omega
                have z3 : (lo : Int) < (M : Int) := by omega
                have z4 : (M : Int) < (E : Int) := by omega
                have z5 : (E : Int) < (b : Int) := by omega
                have hc0 := ROT.out lo m E wr S1.out (by omega) (by omega) (by omega)
                go_wp2_with fail
                refine hc0.mono ?_
                rintro e wr0 ⟨rfl, S2⟩
                clear hc0 S1
                have S1 : Aside _ := S2
                clear S2
                have hc1 := IH.out a lo M (rot d lo m E) wr0 (by first | exact HN.out | (simp only [size_symM, size_rot]; exact HN.out)) S1.out (by omega) (by omega) (by omega) (by omega)
                go_wp2_with fail
                refine hc1.mono ?_
                rintro e wr1 ⟨rfl, S2⟩
                clear hc1 S1
                have S1 : Aside _ := S2
                clear S2
                have hc2 := IH.out M E b (symM (ltOf cf) f a lo M (rot d lo m E)) wr1 (by first | exact HN.out | (simp only [size_symM, size_rot]; exact HN.out)) S1.out (by omega) (by omega) (by omega) (by omega)
                go_wp2_with fail
                refine hc2.mono ?_
                rintro e wr2 ⟨rfl, S2⟩
                clear hc2 S1
                have S1 : Aside _ := S2
                clear S2
                go_wp2
                all_goals go_end0
                all_goals have hfin := symM_main (ltOf cf) (f := f) (d := d) (d1 := (rot d lo m E)) (d2 := (symM (ltOf cf) f a lo M (rot d lo m E))) (d3 := (symM (ltOf cf) f M E b (symM (ltOf cf) f a lo M (rot d lo m E)))) (by omega) (by omega) HM.out HSS.out HEE.out (fun _ => rfl) (fun h => absurd ⟨by omega, by omega⟩ h) (fun _ => rfl) (fun h => absurd ⟨by omega, by omega⟩ h) (fun _ => rfl) (fun h => absurd ⟨by omega, by omega⟩ h)
                all_goals refine ⟨rfl, ?_⟩
                all_goals rw [hfin]
                all_goals exact S1.out
              · have z0 : (lo : Int) < (m : Int) := by omega
                have z1 : (m : Int) < (E : Int) := by omega
                have z2 : (a : Int) < (lo : Int) := by omega
                have z3 : (lo : Int) < (M : Int) := by omega
                have z4 : (M : Int) < (E : Int) := by omega
                have z5 : ¬ (E : Int) < (b : Int) := by omega
                have hc0 := ROT.out lo m E wr S1.out (by omega) (by omega) (by omega)
                go_wp2_with fail
                refine hc0.mono ?_
                rintro e wr0 ⟨rfl, S2⟩
                clear hc0 S1
                have S1 : Aside _ := S2
                clear S2
                have hc1 := IH.out a lo M (rot d lo m E) wr0 (by first | exact HN.out | (simp only [size_symM, size_rot]; exact HN.out)) S1.out (by omega) (by omega) (by omega) (by omega)
                go_wp2_with fail
                refine hc1.mono ?_
                rintro e wr1 ⟨rfl, S2⟩
                clear hc1 S1
                have S1 : Aside _ := S2
                clear S2
                go_wp2
                all_goals go_end0
                all_goals have hfin := symM_main (ltOf cf) (f := f) (d := d) (d1 := (rot d lo m E)) (d2 := (symM (ltOf cf) f a lo M (rot d lo m E))) (d3 := (symM (ltOf cf) f a lo M (rot d lo m E))) (by omega) (by omega) HM.out HSS.out HEE.out (fun _ => rfl) (fun h => absurd ⟨by omega, by omega⟩ h) (fun _ => rfl) (fun h => absurd ⟨by omega, by omega⟩ h) (fun h => by omega) (fun _ => rfl)
                all_goals refine ⟨rfl, ?_⟩
                all_goals rw [hfin]
                all_goals exact S1.out
            · rcases Nat.lt_or_ge E b with hD | hD
              · exfalso; omega
              · have z0 : (lo : Int) < (m : Int) := by omega
                have z1 : (m : Int) < (E : Int) := by omega
                have z2 : ¬ (a : Int) < (lo : Int) := by omega
                have z3 : (lo : Int) < (M : Int) := by omega
                have z4 : (M : Int) < (E : Int) := by omega
                have z5 : ¬ (E : Int) < (b : Int) := by omega
                have hc0 := ROT.out lo m E wr S1.out (by omega) (by omega) (by omega)
                go_wp2_with fail
                refine hc0.mono ?_
                rintro e wr0 ⟨rfl, S2⟩
                clear hc0 S1
                have S1 : Aside _ := S2
                clear S2
                go_wp2
                all_goals go_end0
                all_goals have hfin := symM_main (ltOf cf) (f := f) (d := d) (d1 := (rot d lo m E)) (d2 := (rot d lo m E)) (d3 := (rot d lo m E)) (by omega) (by omega) HM.out HSS.out HEE.out (fun _ => rfl) (fun h => absurd ⟨by omega, by omega⟩ h) (fun h => by omega) (fun _ => rfl) (fun h => by omega) (fun _ => rfl)
                all_goals refine ⟨rfl, ?_⟩
                all_goals rw [hfin]
                all_goals exact S1.out
          · have z0 : (lo : Int) < (m : Int) := by omega
            have z1 : ¬ (m : Int) < (E : Int) := by omega
            have z2 : (a : Int) < (lo : Int) := by omega
            have z3 : ¬ (lo : Int) < (M : Int) := by omega
            have z4 : (M : Int) < (E : Int) := by omega
            have z5 : (E : Int) < (b : Int) := by omega
            have hc0 := IH.out M E b d wr (by first | exact HN.out | (simp only [size_symM, size_rot]; exact HN.out)) S1.out (by omega) (by omega) (by omega) (by omega)
            go_wp2_with fail
            refine hc0.mono ?_
            rintro e wr0 ⟨rfl, S2⟩
            clear hc0 S1
            have S1 : Aside _ := S2
            clear S2
            go_wp2
            all_goals go_end0
            all_goals have hfin := symM_main (ltOf cf) (f := f) (d := d) (d1 := d) (d2 := d) (d3 := (symM (ltOf cf) f M E b d)) (by omega) (by omega) HM.out HSS.out HEE.out (fun h => by omega) (fun _ => rfl) (fun h => by omega) (fun _ => rfl) (fun _ => rfl) (fun h => absurd ⟨by omega, by omega⟩ h)
            all_goals refine ⟨rfl, ?_⟩
            all_goals rw [hfin]
            all_goals exact S1.out
        · rcases Nat.lt_or_ge lo M with hB | hB
          · have z0 : ¬ (lo : Int) < (m : Int) := by omega
            have z1 : (m : Int) < (E : Int) := by omega
            have z2 : (a : Int) < (lo : Int) := by omega
            have z3 : (lo : Int) < (M : Int) := by omega
            have z4 : ¬ (M : Int) < (E : Int) := by omega
            have z5 : (E : Int) < (b : Int) := by omega
            have hc0 := IH.out a lo M d wr (by first | exact HN.out | (simp only [size_symM, size_rot]; exact HN.out)) S1.out (by omega) (by omega) (by omega) (by omega)
            go_wp2_with fail
            refine hc0.mono ?_
            rintro e wr0 ⟨rfl, S2⟩
            clear hc0 S1
            have S1 : Aside _ := S2
            clear S2
            go_wp2
            all_goals go_end0
            all_goals have hfin := symM_main (ltOf cf) (f := f) (d := d) (d1 := d) (d2 := (symM (ltOf cf) f a lo M d)) (d3 := (symM (ltOf cf) f a lo M d)) (by omega) (by omega) HM.out HSS.out HEE.out (fun h => by omega) (fun _ => rfl) (fun _ => rfl) (fun h => absurd ⟨by omega, by omega⟩ h) (fun h => by omega) (fun _ => rfl)
            all_goals refine ⟨rfl, ?_⟩
            all_goals rw [hfin]
            all_goals exact S1.out
          · have z0 : ¬ (lo : Int) < (m : Int) := by omega
            have z1 : ¬ (m : Int) < (E : Int) := by omega
            have z2 : (a : Int) < (lo : Int) := by omega
            have z3 : ¬ (lo : Int) < (M : Int) := by omega
            have z4 : ¬ (M : Int) < (E : Int) := by omega
            have z5 : (E : Int) < (b : Int) := by omega
            go_wp2
            all_goals go_end0
            all_goals have hfin := symM_main (ltOf cf) (f := f) (d := d) (d1 := d) (d2 := d) (d3 := d) (by omega) (by omega) HM.out HSS.out HEE.out (fun h => by omega) (fun _ => rfl) (fun h => by omega) (fun _ => rfl) (fun h => by omega) (fun _ => rfl)
            all_goals refine ⟨rfl, ?_⟩
            all_goals rw [hfin]
            all_goals exact S1.out
  · have hcz : ¬ (M : Int) < (m : Int) := by omega
    go_wp2
    go_loopg [20, 21] (b - a) (fun kx s20 s21 wr => ∃ (lo hi e : Nat), s20 = .int .i64 lo ∧ s21 = .int .i64 hi ∧ a ≤ lo ∧ lo ≤ hi ∧ hi ≤ m ∧ hi - lo ≤ e ∧ e ≤ kx ∧ Aside (SW enc w0 blk off d wr) ∧
      Hid (halve (fun c => !ltOf cf d[Q - c]! d[c]!) e lo hi = halve (fun c => !ltOf cf d[Q - c]! d[c]!) (b - a) a m))
    case atStart => exact ⟨a, m, b - a, rfl, rfl, Nat.le_refl _, by omega, Nat.le_refl _, by omega, Nat.le_refl _, S0, rfl⟩
    case round =>
      clear S0
      obtain ⟨lo, hi, e, rfl, rfl, hml, hlh, hhb, hle, hek, S1, HE⟩ := hrel
      by_cases hlt : lo < hi
      · obtain ⟨e, rfl⟩ : ∃ q, e = q + 1 := ⟨e - 1, by omega⟩
        obtain ⟨c, hc'⟩ : ∃ c, (lo + hi) / 2 = c := ⟨_, rfl⟩
        obtain ⟨U, hU⟩ : ∃ U, Q - c = U := ⟨_, rfl⟩
        have hczz : ((lo : Int) + (hi : Int)) / 2 = (c : Int) := by omega
        have hin : lo ≤ c ∧ c < hi ∧ c ≤ Q ∧ U < n ∧ c < n := by omega
        have zU : IntKind.i64.wrap ((Q : Int) - (c : Int)) = (U : Int) := by rw [IntKind.wrap_i64]; omega
        have hcn : (c : Int) < (n : Int) := by omega
        have hUn : (U : Int) < (n : Int) := by omega
        obtain ⟨x1, hx1⟩ : ∃ x, x = d[U]! := ⟨_, rfl⟩
        obtain ⟨y1, hy1⟩ : ∃ x, x = d[c]! := ⟨_, rfl⟩
        have l1 := S1.out.cl R (by rw [HN.out, HS.out]) U (by rw [HN.out]; omega)
        have l2 := S1.out.cl R (by rw [HN.out, HS.out]) c (by rw [HN.out]; omega)
        rw [← hx1] at l1
        rw [← hy1] at l2
        have hcc := S1.out.cmp HC.out HN.out x1 y1
        have HXY : Hid (x1 = d[Q - c]! ∧ y1 = d[c]!) := ⟨by rw [hU]; exact hx1, hy1⟩
        have HCC : Hid ((lo + hi) / 2 = c) := hc'
        clear hx1 hy1 hc' hU
        by_cases hv : cf x1 y1 < 0
        · have hd : decide (cf x1 y1 < 0) = true := decide_eq_true hv
          go_wp2_with fail
          go_quiet_grown (first | (go_at_fn g; refine Calls.grown_of (hcc _ _)))
          have S2 : Aside (SW enc w0 blk off d (grow (wr.drewN nq) osq)) := S1.out.grown nq osq
          clear l1 l2 hcc S1
          generalize grow (wr.drewN nq) osq = w2 at S2 ⊢
          clear nq osq
          go_wp2
          go_roundg e
          case measure => omega
          case rel =>
            refine ⟨lo, c, e, rfl, int_at (by omega), by omega, by omega, by omega, by omega, Nat.le_refl _, S2, (show Hid _ from ?_)⟩
            show _ = _
            rw [← HE.out, halve_go hlt, HCC.out, if_neg]
            rw [← HXY.out.1, ← HXY.out.2]; show ¬ (!decide (cf x1 y1 < 0)) = true; rw [hd]; decide
        · have hd : decide (cf x1 y1 < 0) = false := decide_eq_false hv
          go_wp2_with fail
          go_quiet_grown (first | (go_at_fn g; refine Calls.grown_of (hcc _ _)))
          have S2 : Aside (SW enc w0 blk off d (grow (wr.drewN nq) osq)) := S1.out.grown nq osq
          clear l1 l2 hcc S1
          generalize grow (wr.drewN nq) osq = w2 at S2 ⊢
          clear nq osq
          go_wp2
          go_roundg e
          case measure => omega
          case rel =>
            refine ⟨c + 1, hi, e, int_at (by omega), rfl, by omega, by omega, hhb, by omega, Nat.le_refl _, S2, (show Hid _ from ?_)⟩
            show _ = _
            rw [← HE.out, halve_go hlt, HCC.out, if_pos]
            rw [← HXY.out.1, ← HXY.out.2]; show (!decide (cf x1 y1 < 0)) = true; rw [hd]; decide
      · obtain rfl : lo = hi := by omega
        obtain ⟨E, hE⟩ : ∃ E, N - lo = E := ⟨_, rfl⟩
        have zE' : IntKind.i64.wrap ((N : Int) - (lo : Int)) = (E : Int) := by rw [IntKind.wrap_i64]; omega
        have bE : E + lo ≤ N ∧ N ≤ E + lo ∧ E ≤ b ∧ M ≤ E + m ∧ lo ≤ m ∧ lo ≤ M ∧ m ≤ E ∧ a ≤ lo := by omega
        have HSS : Hid (symS (ltOf cf) d a m b = lo) := HX.out lo (by
          rw [if_neg hc, if_neg hc, ← HE.out, halve_stop])
        have HEE : Hid (M + m - lo = E) := by show _ = _; omega
        clear hE HE HX
        rcases Nat.lt_or_ge lo m with hA | hA
        · rcases Nat.lt_or_ge lo M with hB | hB
          · rcases Nat.lt_or_ge a lo with hC | hC
            · rcases Nat.lt_or_ge E b with hD | hD
              · have z0 : (lo : Int) < (m : Int) := by omega
                have z1 : (m : Int) < (E : Int) := by omega
                have z2 : (a : Int) < (lo : Int) := by omega
                have z3 : (lo : Int) < (M : Int) := by omega
                have z4 : (M : Int) < (E : Int) := by omega
                have z5 : (E : Int) < (b : Int) := by omega
                have hc0 := ROT.out lo m E wr S1.out (by omega) (by omega) (by omega)
                go_wp2_with fail
                refine hc0.mono ?_
                rintro e wr0 ⟨rfl, S2⟩
                clear hc0 S1
                have S1 : Aside _ := S2
                clear S2
                have hc1 := IH.out a lo M (rot d lo m E) wr0 (by first | exact HN.out | (simp only [size_symM, size_rot]; exact HN.out)) S1.out (by omega) (by omega) (by omega) (by omega)
                go_wp2_with fail
                refine hc1.mono ?_
                rintro e wr1 ⟨rfl, S2⟩
                clear hc1 S1
                have S1 : Aside _ := S2
                clear S2
                have hc2 := IH.out M E b (symM (ltOf cf) f a lo M (rot d lo m E)) wr1 (by first | exact HN.out | (simp only [size_symM, size_rot]; exact HN.out)) S1.out (by omega) (by omega) (by omega) (by omega)
                go_wp2_with fail
                refine hc2.mono ?_
                rintro e wr2 ⟨rfl, S2⟩
                clear hc2 S1
                have S1 : Aside _ := S2
                clear S2
                go_wp2
                all_goals go_end0
                all_goals have hfin := symM_main (ltOf cf) (f := f) (d := d) (d1 := (rot d lo m E)) (d2 := (symM (ltOf cf) f a lo M (rot d lo m E))) (d3 := (symM (ltOf cf) f M E b (symM (ltOf cf) f a lo M (rot d lo m E)))) (by omega) (by omega) HM.out HSS.out HEE.out (fun _ => rfl) (fun h => absurd ⟨by omega, by omega⟩ h) (fun _ => rfl) (fun h => absurd ⟨by omega, by omega⟩ h) (fun _ => rfl) (fun h => absurd ⟨by omega, by omega⟩ h)
                all_goals refine ⟨rfl, ?_⟩
                all_goals rw [hfin]
                all_goals exact S1.out
              · have z0 : (lo : Int) < (m : Int) := by omega
                have z1 : (m : Int) < (E : Int) := by omega
                have z2 : (a : Int) < (lo : Int) := by omega
                have z3 : (lo : Int) < (M : Int) := by omega
                have z4 : (M : Int) < (E : Int) := by omega
                have z5 : ¬ (E : Int) < (b : Int) := by omega
                have hc0 := ROT.out lo m E wr S1.out (by omega) (by omega) (by omega)
                go_wp2_with fail
                refine hc0.mono ?_
                rintro e wr0 ⟨rfl, S2⟩
                clear hc0 S1
                have S1 : Aside _ := S2
                clear S2
                have hc1 := IH.out a lo M (rot d lo m E) wr0 (by first | exact HN.out | (simp only [size_symM, size_rot]; exact HN.out)) S1.out (by omega) (by omega) (by omega) (by omega)
                go_wp2_with fail
                refine hc1.mono ?_
                rintro e wr1 ⟨rfl, S2⟩
                clear hc1 S1
                have S1 : Aside _ := S2
                clear S2
                go_wp2
                all_goals go_end0
                all_goals have hfin := symM_main (ltOf cf) (f := f) (d := d) (d1 := (rot d lo m E)) (d2 := (symM (ltOf cf) f a lo M (rot d lo m E))) (d3 := (symM (ltOf cf) f a lo M (rot d lo m E))) (by omega) (by omega) HM.out HSS.out HEE.out (fun _ => rfl) (fun h => absurd ⟨by omega, by omega⟩ h) (fun _ => rfl) (fun h => absurd ⟨by omega, by omega⟩ h) (fun h => by omega) (fun _ => rfl)
                all_goals refine ⟨rfl, ?_⟩
                all_goals rw [hfin]
                all_goals exact S1.out
            · rcases Nat.lt_or_ge E b with hD | hD
              · have z0 : (lo : Int) < (m : Int) := by omega
                have z1 : (m : Int) < (E : Int) := by omega
                have z2 : ¬ (a : Int) < (lo : Int) := by omega
                have z3 : (lo : Int) < (M : Int) := by omega
                have z4 : (M : Int) < (E : Int) := by omega
                have z5 : (E : Int) < (b : Int) := by omega
                have hc0 := ROT.out lo m E wr S1.out (by omega) (by omega) (by omega)
                go_wp2_with fail
                refine hc0.mono ?_
                rintro e wr0 ⟨rfl, S2⟩
                clear hc0 S1
                have S1 : Aside _ := S2
                clear S2
                have hc1 := IH.out M E b (rot d lo m E) wr0 (by first | exact HN.out | (simp only [size_symM, size_rot]; exact HN.out)) S1.out (by omega) (by omega) (by omega) (by omega)
                go_wp2_with fail
                refine hc1.mono ?_
                rintro e wr1 ⟨rfl, S2⟩
                clear hc1 S1
                have S1 : Aside _ := S2
                clear S2
                go_wp2
                all_goals go_end0
                all_goals have hfin := symM_main (ltOf cf) (f := f) (d := d) (d1 := (rot d lo m E)) (d2 := (rot d lo m E)) (d3 := (symM (ltOf cf) f M E b (rot d lo m E))) (by omega) (by omega) HM.out HSS.out HEE.out (fun _ => rfl) (fun h => absurd ⟨by omega, by omega⟩ h) (fun h => by omega) (fun _ => rfl) (fun _ => rfl) (fun h => absurd ⟨by omega, by omega⟩ h)
                all_goals refine ⟨rfl, ?_⟩
                all_goals rw [hfin]
                all_goals exact S1.out
              · have z0 : (lo : Int) < (m : Int) := by omega
                have z1 : (m : Int) < (E : Int) := by omega
                have z2 : ¬ (a : Int) < (lo : Int) := by omega
                have z3 : (lo : Int) < (M : Int) := by omega
                have z4 : (M : Int) < (E : Int) := by omega
                have z5 : ¬ (E : Int) < (b : Int) := by omega
                have hc0 := ROT.out lo m E wr S1.out (by omega) (by omega) (by omega)
                go_wp2_with fail
                refine hc0.mono ?_
                rintro e wr0 ⟨rfl, S2⟩
                clear hc0 S1
                have S1 : Aside _ := S2
                clear S2
                go_wp2
                all_goals go_end0
                all_goals have hfin := symM_main (ltOf cf) (f := f) (d := d) (d1 := (rot d lo m E)) (d2 := (rot d lo m E)) (d3 := (rot d lo m E)) (by omega) (by omega) HM.out HSS.out HEE.out (fun _ => rfl) (fun h => absurd ⟨by omega, by omega⟩ h) (fun h => by omega) (fun _ => rfl) (fun h => by omega) (fun _ => rfl)
                all_goals refine ⟨rfl, ?_⟩
                all_goals rw [hfin]
                all_goals exact S1.out
          · have z0 : (lo : Int) < (m : Int) := by omega
            have z1 : ¬ (m : Int) < (E : Int) := by omega
            have z2 : (a : Int) < (lo : Int) := by omega
            have z3 : ¬ (lo : Int) < (M : Int) := by omega
            have z4 : (M : Int) < (E : Int) := by omega
            have z5 : (E : Int) < (b : Int) := by omega
            have hc0 := IH.out M E b d wr (by first | exact HN.out | (simp only [size_symM, size_rot]; exact HN.out)) S1.out (by omega) (by omega) (by omega) (by omega)
            go_wp2_with fail
            refine hc0.mono ?_
            rintro e wr0 ⟨rfl, S2⟩
            clear hc0 S1
            have S1 : Aside _ := S2
            clear S2
            go_wp2
            all_goals go_end0
            all_goals have hfin := symM_main (ltOf cf) (f := f) (d := d) (d1 := d) (d2 := d) (d3 := (symM (ltOf cf) f M E b d)) (by omega) (by omega) HM.out HSS.out HEE.out (fun h => by omega) (fun _ => rfl) (fun h => by omega) (fun _ => rfl) (fun _ => rfl) (fun h => absurd ⟨by omega, by omega⟩ h)
            all_goals refine ⟨rfl, ?_⟩
            all_goals rw [hfin]
            all_goals exact S1.out
        · rcases Nat.lt_or_ge lo M with hB | hB
          · have z0 : ¬ (lo : Int) < (m : Int) := by omega
            have z1 : (m : Int) < (E : Int) := by omega
            have z2 : (a : Int) < (lo : Int) := by omega
            have z3 : (lo : Int) < (M : Int) := by omega
            have z4 : ¬ (M : Int) < (E : Int) := by omega
            have z5 : (E : Int) < (b : Int) := by omega
            have hc0 := IH.out a lo M d wr (by first | exact HN.out | (simp only [size_symM, size_rot]; exact HN.out)) S1.out (by omega) (by omega) (by omega) (by omega)
            go_wp2_with fail
            refine hc0.mono ?_
            rintro e wr0 ⟨rfl, S2⟩
            clear hc0 S1
            have S1 : Aside _ := S2
            clear S2
            go_wp2
            all_goals go_end0
            all_goals have hfin := symM_main (ltOf cf) (f := f) (d := d) (d1 := d) (d2 := (symM (ltOf cf) f a lo M d)) (d3 := (symM (ltOf cf) f a lo M d)) (by omega) (by omega) HM.out HSS.out HEE.out (fun h => by omega) (fun _ => rfl) (fun _ => rfl) (fun h => absurd ⟨by omega, by omega⟩ h) (fun h => by omega) (fun _ => rfl)
            all_goals refine ⟨rfl, ?_⟩
            all_goals rw [hfin]
            all_goals exact S1.out
          · have z0 : ¬ (lo : Int) < (m : Int) := by omega
            have z1 : ¬ (m : Int) < (E : Int) := by omega
            have z2 : (a : Int) < (lo : Int) := by omega
            have z3 : ¬ (lo : Int) < (M : Int) := by omega
            have z4 : ¬ (M : Int) < (E : Int) := by omega
            have z5 : (E : Int) < (b : Int) := by omega
            go_wp2
            all_goals go_end0
            all_goals have hfin := symM_main (ltOf cf) (f := f) (d := d) (d1 := d) (d2 := d) (d3 := d) (by omega) (by omega) HM.out HSS.out HEE.out (fun h => by omega) (fun _ => rfl) (fun h => by omega) (fun _ => rfl) (fun h => by omega) (fun _ => rfl)
            all_goals refine ⟨rfl, ?_⟩
            all_goals rw [hfin]
            all_goals exact S1.out

theorem symM_call (L : Sits P) (enc : α → Value) (cf : α → α → Int) (g : Nat) (cb : Array Value) (blk off cap n : Nat) (d0 : Array α) (w0 : World)
    (eg : ∀ args w, (callFunc g args).run P w = .ok (.enter g args) w) (hcmp : CmpLays1 P g cb enc cf blk off n w0) (R : Row1 enc w0 blk off d0) (hs : d0.size = n) (hsz : n < 4611686018427387904) :
    ∀ (f a m b : Nat) (d : Array α) (w : World), d.size = n → SW enc w0 blk off d w → a < m → m < b → b ≤ n → b - a ≤ f →
      Calls P 122 #[.slice (some ⟨blk, off, none⟩) n cap, .int .i64 a, .int .i64 m, .int .i64 b, .func (.func g) #[] cb] w fun e w' => e = .returned (.tuple #[]) ∧ SW enc w0 blk off (symM (ltOf cf) f a m b d) w'
  | 0, a, m, b, d, w, _, _, _, _, _, _ => by omega
  | f + 1, a, m, b, d, w, hn, S, ham, hmb, hb, hf => by
    by_cases h1 : m = a + 1
    · subst h1
      rw [← hn] at hcmp hs hb hsz ⊢
      exact symLeft_call L enc cf g cb blk off cap a b f d0 d w0 w eg hcmp R hs S hmb hb hsz
    · by_cases h2 : b = m + 1
      · subst h2
        rw [← hn] at hcmp hs hb hsz ⊢
        exact symRight_call L enc cf g cb blk off cap a m f d0 d w0 w eg hcmp R hs S (by omega) hb hsz
      · exact symMain_call L enc cf g cb blk off cap a m b f n d0 d w0 w eg hcmp R hs hn S (by omega) (by omega) hb hsz
          (fun a m b d w h1 h2 h3 h4 h5 h6 => symM_call L enc cf g cb blk off cap n d0 w0 eg hcmp R hs hsz f a m b d w h1 h2 h3 h4 h5 h6) hf
end Go.Proofs.YtdeeeechdlcdbaaGreat
/- The walk of the stable sort as a whole: insertion in stretches of twenty, then merging. -/
set_option linter.unusedVariables false
set_option linter.unusedSimpArgs false
namespace Go.Proofs.YtdeeeechdlcdbaaGreat
open Go Go.RowKit Go.Lib Go.Sort Go.Proofs
variable {P : Program} {α : Type} [Inhabited α]

theorem insB_go (lt : α → α → Bool) {n f a : Nat} {d : Array α} (h : a + 20 ≤ n) : insB lt n (f + 1) a d = insB lt n f (a + 20) (insertionSort lt d a (a + 20)) := by rw [insB, if_pos h]
theorem insB_stop (lt : α → α → Bool) {n f a : Nat} {d : Array α} (h : ¬ a + 20 ≤ n) : insB lt n (f + 1) a d = insertionSort lt d a n := by rw [insB, if_neg h]
theorem mergeP_go (lt : α → α → Bool) {n s f a : Nat} {d : Array α} (h : a + 2 * s ≤ n) : mergeP lt n s (f + 1) a d = mergeP lt n s f (a + 2 * s) (symM lt n a (a + s) (a + 2 * s) d) := by rw [mergeP, if_pos h]
theorem mergeP_last (lt : α → α → Bool) {n s f a : Nat} {d : Array α} (h : ¬ a + 2 * s ≤ n) (h' : a + s < n) : mergeP lt n s (f + 1) a d = symM lt n a (a + s) n d := by rw [mergeP, if_neg h, if_pos h']
theorem mergeP_stop (lt : α → α → Bool) {n s f a : Nat} {d : Array α} (h : ¬ a + 2 * s ≤ n) (h' : ¬ a + s < n) : mergeP lt n s (f + 1) a d = d := by rw [mergeP, if_neg h, if_neg h']
theorem merges_go (lt : α → α → Bool) {n f s : Nat} {d : Array α} (h : s < n) : merges lt n (f + 1) s d = merges lt n f (2 * s) (mergeP lt n s (n + 1) 0 d) := by rw [merges, if_pos h]
theorem merges_stop (lt : α → α → Bool) {n f s : Nat} {d : Array α} (h : ¬ s < n) : merges lt n (f + 1) s d = d := by rw [merges, if_neg h]

set_option maxHeartbeats 8000000 in
set_option maxRecDepth 1000000 in
theorem stable_call (L : Sits P) (enc : α → Value) (cf : α → α → Int) (hO : SWO (ltOf cf)) (g : Nat) (cb : Array Value) (blk off cap n : Nat) (d0 d : Array α) (w0 w : World)
    (eg : ∀ args w, (callFunc g args).run P w = .ok (.enter g args) w) (hcmp : CmpLays1 P g cb enc cf blk off n w0)
    (R : Row1 enc w0 blk off d0) (hs : d0.size = n) (hn : d.size = n) (S : SW enc w0 blk off d w) (hsz : n < 1152921504606846976)
    (ins : ∀ (a b : Nat) (d : Array α) (w : World), d.size = n → SW enc w0 blk off d w → a ≤ b → b ≤ n →
      Calls P 121 #[.slice (some ⟨blk, off, none⟩) n cap, .int .i64 a, .int .i64 b, .func (.func g) #[] cb] w fun e w' => e = .returned (.tuple #[]) ∧ SW enc w0 blk off (insertionSort (ltOf cf) d a b) w') :
    Calls P 109 #[.slice (some ⟨blk, off, none⟩) n cap, .int .i64 n, .func (.func g) #[] cb] w fun e w' => e = .returned (.tuple #[]) ∧ SW enc w0 blk off (stableS (ltOf cf) d) w' := by
  have mixed := L.mixed; have t0 := L.t0; have a0 := L.a0; have z0 := L.z0; have v0 := L.v0; have t3 := L.t3; have a3 := L.a3; have z3 := L.z3; have v3 := L.v3; have t4 := L.t4; have a4 := L.a4; have z4 := L.z4; have v4 := L.v4; have t50 := L.t50; have a50 := L.a50; have z50 := L.z50; have v50 := L.v50; have t56 := L.t56; have a56 := L.a56; have z56 := L.z56; have v56 := L.v56
  have u3 := run_underlying L.t3
  have e67 : ∀ args w, (callFunc 121 args).run P w = .ok (.enter 121 args) w := enters_of L.f67 (by kernel_rfl) rfl
  have e68 : ∀ args w, (callFunc 122 args).run P w = .ok (.enter 122 args) w := enters_of L.f68 (by kernel_rfl) rfl
  have S0 : Aside (SW enc w0 blk off d w) := S
  have INS : Aside _ := ins
  have SYM : Aside _ := symM_call L enc cf g cb blk off cap n d0 w0 eg hcmp R hs (by omega : n < 4611686018427387904)
  have SI : Aside (∀ (a b : Nat) (d : Array α), d.size = n → a ≤ b → b ≤ n → (insertionSort (ltOf cf) d a b).size = n) := fun a b d h1 h2 h3 => by rw [(insertionSort_holds hO d a b h2 (by omega)).1.1, h1]
  have SM : Aside (∀ (a m b : Nat) (d : Array α), d.size = n → (symM (ltOf cf) n a m b d).size = n) := fun a m b d h1 => by rw [size_symM, h1]
  have HN : Hid (d.size = n) := hn
  obtain ⟨X, hX⟩ : ∃ X, insB (ltOf cf) n (n + 1) 0 d = X := ⟨_, rfl⟩
  obtain ⟨Y, hY⟩ : ∃ Y, merges (ltOf cf) n (n + 1) 20 X = Y := ⟨_, rfl⟩
  have HY : Hid (stableS (ltOf cf) d = Y) := by show _ = _; unfold stableS; rw [hn, hX, hY]
  have HX : Hid (insB (ltOf cf) n (n + 1) 0 d = X) := hX
  have HZ : Hid (merges (ltOf cf) n (n + 1) 20 X = Y) := hY
  have hg : stableS (ltOf cf) d = Y := HY.out
  rw [hg]
  clear hg hX hY hcmp hs hn S ins HY
  go_enter L.f55, Tryz.ntmps109
  go_wp2
  go_loopg [7, 8] n (fun kx s7 s8 wr => ∃ (a f : Nat) (dk : Array α), s7 = .int .i64 a ∧ s8 = .int .i64 (a + 20 : Nat) ∧ a ≤ n ∧ n - a ≤ kx ∧ n < a + f ∧ dk.size = n ∧ Aside (SW enc w0 blk off dk wr) ∧ Hid (insB (ltOf cf) n f a dk = X))
  case atStart => exact ⟨0, n + 1, d, rfl, rfl, by omega, by omega, by omega, HN.out, S0, HX⟩
  case round =>
    clear S0 HX
    obtain ⟨a, f, dk, rfl, rfl, han, hkx, hf, hds, S1, HE⟩ := hrel
    obtain ⟨f, rfl⟩ : ∃ q, f = q + 1 := ⟨f - 1, by omega⟩
    obtain ⟨b, hb⟩ : ∃ b, a + 20 = b := ⟨_, rfl⟩
    rw [hb]
    have HB : Hid (a + 20 = b) := hb
    have bB : a + 20 ≤ b ∧ b ≤ a + 20 := by omega
    clear hb
    by_cases hlt : b ≤ n
    · have hltz : (b : Int) ≤ (n : Int) := by omega
      have wb : IntKind.i64.wrap ((b : Int) + 20) = ((b + 20 : Nat) : Int) := by rw [IntKind.wrap_i64]; omega
      have hc := INS.out a b dk wr hds S1.out (by omega) (by omega)
      go_wp2_with fail
      refine hc.mono ?_
      rintro e wr2 ⟨rfl, S2⟩
      have S3 : Aside _ := S2
      clear hc S1 S2
      go_wp2
      go_roundg (n - b)
      case measure => omega
      case rel =>
        refine ⟨b, f, _, rfl, int_at (by omega), hlt, Nat.le_refl _, by omega, SI.out a b dk hds (by omega) hlt, S3, (show Hid _ from ?_)⟩
        show _ = _
        rw [← HE.out, insB_go _ (by omega : a + 20 ≤ n), HB.out]
    · have hltz : ¬ (b : Int) ≤ (n : Int) := by omega
      have hc := INS.out a n dk wr hds S1.out (by omega) (by omega)
      have hE : insertionSort (ltOf cf) dk a n = X := by rw [← HE.out, insB_stop _ (by omega : ¬ a + 20 ≤ n)]
      have hXs : X.size = n := by rw [← hE]; exact SI.out a n dk hds (by omega) (Nat.le_refl _)
      rw [hE] at hc
      clear hE HE
      go_wp2_with fail
      refine hc.mono ?_
      rintro e wr2 ⟨rfl, S2⟩
      have S3 : Aside _ := S2
      have HXS : Hid (X.size = n) := hXs
      clear hc S1 S2 hds hXs
      go_wp2
      go_loopg [6, 7, 8, 9] n (fun kx s6 s7 s8 s9 wr => ∃ (s f : Nat) (dk : Array α), s6 = .int .i64 s ∧ 20 ≤ s ∧ s ≤ 2 * n + 20 ∧ n - s ≤ kx ∧ n < s + f ∧ dk.size = n ∧ Aside (SW enc w0 blk off dk wr) ∧ Hid (merges (ltOf cf) n f s dk = Y))
      case atStart => exact ⟨20, n + 1, X, rfl, by omega, by omega, by omega, by omega, HXS.out, S3, HZ⟩
      case round =>
        clear S3 HZ HXS
        obtain ⟨s, f, dk, rfl, h20, hsn, hkx, hf, hds, S1, HE⟩ := hrel
        by_cases hlt : s < n
        · have hltz : (s : Int) < (n : Int) := by omega
          obtain ⟨f, rfl⟩ : ∃ q, f = q + 1 := ⟨f - 1, by omega⟩
          obtain ⟨D, hD⟩ : ∃ D, 2 * s = D := ⟨_, rfl⟩
          obtain ⟨Z, hZ⟩ : ∃ Z, mergeP (ltOf cf) n s (n + 1) 0 dk = Z := ⟨_, rfl⟩
          have HF : Hid (merges (ltOf cf) n f D Z = Y) := by show _ = _; rw [← HE.out, merges_go _ hlt, hD, hZ]
          have HD : Hid (2 * s = D) := hD
          have HZ : Hid (mergeP (ltOf cf) n s (n + 1) 0 dk = Z) := hZ
          have bD : 2 * s ≤ D ∧ D ≤ 2 * s := by omega
          have wD : IntKind.i64.wrap (2 * (s : Int)) = (D : Int) := by rw [IntKind.wrap_i64]; omega
          have wD' : IntKind.i64.wrap ((s : Int) * 2) = (D : Int) := by rw [IntKind.wrap_i64]; omega
          clear hD hZ HE
          go_wp2
          go_loopg [7, 8] n (fun kx s7 s8 wr => ∃ (a b f : Nat) (dk : Array α), s7 = .int .i64 a ∧ s8 = .int .i64 b ∧ a + D ≤ b ∧ b ≤ a + D ∧ a ≤ n ∧ n - a ≤ kx ∧ n < a + f ∧ dk.size = n ∧ Aside (SW enc w0 blk off dk wr) ∧ Hid (mergeP (ltOf cf) n s f a dk = Z))
          case atStart => exact ⟨0, D, n + 1, dk, rfl, rfl, by omega, by omega, by omega, by omega, by omega, hds, S1, HZ⟩
          case round =>
            clear S1 HZ hds
            obtain ⟨a, b, f2, dk, rfl, rfl, hb1, hb2, han, hkx2, hf2, hds, S1, HE⟩ := hrel
            obtain ⟨f2, rfl⟩ : ∃ q, f2 = q + 1 := ⟨f2 - 1, by omega⟩
            obtain ⟨M, hM⟩ : ∃ M, a + s = M := ⟨_, rfl⟩
            have zM : IntKind.i64.wrap ((a : Int) + (s : Int)) = (M : Int) := by rw [IntKind.wrap_i64]; omega
            have HM : Hid (a + s = M) := hM
            have bM : a + s ≤ M ∧ M ≤ a + s := by omega
            clear hM
            by_cases hlt2 : b ≤ n
            · have hltz2 : (b : Int) ≤ (n : Int) := by omega
              have wb : IntKind.i64.wrap ((b : Int) + (D : Int)) = ((b + D : Nat) : Int) := by rw [IntKind.wrap_i64]; omega
              have hc := SYM.out n a M b dk wr hds S1.out (by omega) (by omega) (by omega) (by omega)
              go_wp2_with fail
              refine hc.mono ?_
              rintro e wr2 ⟨rfl, S2⟩
              have S3 : Aside _ := S2
              clear hc S1 S2
              go_wp2
              go_roundg (n - b)
              case measure => omega
              case rel =>
                refine ⟨b, b + D, f2, _, rfl, rfl, by omega, by omega, hlt2, Nat.le_refl _, by omega, SM.out a M b dk hds, S3, (show Hid _ from ?_)⟩
                show _ = _
                rw [← HE.out, mergeP_go _ (by omega : a + 2 * s ≤ n), HM.out, show a + 2 * s = b by omega]
            · have hltz2 : ¬ (b : Int) ≤ (n : Int) := by omega
              by_cases hlt3 : M < n
              · have hltz3 : (M : Int) < (n : Int) := by omega
                have hc := SYM.out n a M n dk wr hds S1.out (by omega) (by omega) (by omega) (by omega)
                have hE : symM (ltOf cf) n a M n dk = Z := by rw [← HE.out, mergeP_last _ (by omega : ¬ a + 2 * s ≤ n) (by omega), HM.out]
                have hZs : Z.size = n := by rw [← hE]; exact SM.out a M n dk hds
                rw [hE] at hc
                clear hE HE
                go_wp2_with fail
                refine hc.mono ?_
                rintro e wr2 ⟨rfl, S2⟩
                have S3 : Aside _ := S2
                clear hc S1 S2
                go_wp2
                go_roundg (n - D)
                case measure => omega
                case rel => exact ⟨D, f, Z, rfl, by omega, by omega, Nat.le_refl _, by omega, hZs, S3, HF⟩
              · have hltz3 : ¬ (M : Int) < (n : Int) := by omega
                have hE : dk = Z := by rw [← HE.out, mergeP_stop _ (by omega : ¬ a + 2 * s ≤ n) (by omega)]
                have S3 : Aside (SW enc w0 blk off Z wr) := by rw [← hE]; exact S1.out
                have hZs : Z.size = n := by rw [← hE]; exact hds
                clear hE HE S1
                go_wp2
                go_roundg (n - D)
                case measure => omega
                case rel => exact ⟨D, f, Z, rfl, by omega, by omega, Nat.le_refl _, by omega, hZs, S3, HF⟩
        · have hltz : ¬ (s : Int) < (n : Int) := by omega
          have hE : dk = Y := by
            rw [← HE.out]
            cases f with
            | zero => rfl
            | succ f => rw [merges_stop _ hlt]
          have S3 : Aside (SW enc w0 blk off Y wr) := by rw [← hE]; exact S1.out
          clear hE HE S1
          go_wp2
          go_end0
          exact ⟨rfl, S3.out⟩

theorem sort_call (L : Sits P) (enc : α → Value) (cf : α → α → Int) (hO : SWO (ltOf cf)) (g : Nat) (cb : Array Value) (blk off cap n : Nat) (d0 d : Array α) (w0 w : World)
    (eg : ∀ args w, (callFunc g args).run P w = .ok (.enter g args) w) (hcmp : CmpLays1 P g cb enc cf blk off n w0)
    (R : Row1 enc w0 blk off d0) (hs : d0.size = n) (hn : d.size = n) (S : SW enc w0 blk off d w) (hsz : n < 1152921504606846976)
    (ins : ∀ (a b : Nat) (d : Array α) (w : World), d.size = n → SW enc w0 blk off d w → a ≤ b → b ≤ n →
      Calls P 121 #[.slice (some ⟨blk, off, none⟩) n cap, .int .i64 a, .int .i64 b, .func (.func g) #[] cb] w fun e w' => e = .returned (.tuple #[]) ∧ SW enc w0 blk off (insertionSort (ltOf cf) d a b) w') :
    Calls P 83 #[.slice (some ⟨blk, off, none⟩) n cap, .func (.func g) #[] cb] w fun e w' => e = .returned (.tuple #[]) ∧ SW enc w0 blk off (stableS (ltOf cf) d) w' := by
  have mixed := L.mixed; have t0 := L.t0; have a0 := L.a0; have z0 := L.z0; have v0 := L.v0; have t3 := L.t3; have a3 := L.a3; have z3 := L.z3; have v3 := L.v3; have t50 := L.t50; have a50 := L.a50; have z50 := L.z50; have v50 := L.v50; have t56 := L.t56; have a56 := L.a56; have z56 := L.z56; have v56 := L.v56
  have e55 : ∀ args w, (callFunc 109 args).run P w = .ok (.enter 109 args) w := enters_of L.f55 (by kernel_rfl) rfl
  have hc := stable_call L enc cf hO g cb blk off cap n d0 d w0 w eg hcmp R hs hn S hsz ins
  generalize stableS (ltOf cf) d = Y at hc ⊢
  clear hcmp hs hn S ins R
  go_enter L.f29, Tryz.ntmps83
  go_wp2_with fail
  refine hc.mono ?_
  rintro e wr2 ⟨rfl, S2⟩
  have S3 : Aside _ := S2
  clear hc S2
  go_wp2
  go_end0
  exact ⟨rfl, S3.out⟩
end Go.Proofs.YtdeeeechdlcdbaaGreat
/- The stable sort of this program's own slices, one cell an element: the row then holds what a stable merge sort of its elements gives. -/
set_option linter.unusedVariables false
namespace Go.Proofs.YtdeeeechdlcdbaaGreat
open Go Go.Shelf Go.RowKit Go.Lib Go.Sort Go.Proofs
def laysIns_ren : Go.Shelf.Ren := ⟨fun | 20 => 121 | n => n, fun | 24 => 3 | 22 => 31 | 3 => 3 | 25 => 112 | 4 => 4 | 0 => 0 | n => n, fun | n => n⟩
theorem laysIns : Go.Proofs.SlLaysF.n20 Tryz.prog laysIns_ren := {
  mixed := by kernel_rfl
  f20 := ⟨Tryz.f121.name, by decide, Tryz.func121.trans (congrArg some (by kernel_rfl))⟩
  t0 := Tryz.underlying0
  a0 := Tryz.isAgg0
  z0 := Tryz.sizeOf0
  v0 := Tryz.zeroValue0
  t3 := Tryz.underlying3
  a3 := Tryz.isAgg3
  z3 := Tryz.sizeOf3
  v3 := Tryz.zeroValue3
  t4 := Tryz.underlying4
  a4 := Tryz.isAgg4
  z4 := Tryz.sizeOf4
  v4 := Tryz.zeroValue4
  t22 := Tryz.underlying31
  a22 := Tryz.isAgg31
  z22 := Tryz.sizeOf31
  v22 := Tryz.zeroValue31
  a24 := Tryz.isAgg3
  z24 := Tryz.sizeOf3
  t25 := Tryz.underlying112
  a25 := Tryz.isAgg112
  z25 := Tryz.sizeOf112
  v25 := Tryz.zeroValue112 }
variable {β : Type} [Inhabited β]

def firsts (D : Array (β × Nat)) : Array β := D.map (·.1)
omit [Inhabited β] in
theorem size_firsts (D : Array (β × Nat)) : (firsts D).size = D.size := by simp [firsts]
theorem at_firsts (D : Array (β × Nat)) (i : Nat) (h : i < D.size) : (firsts D)[i]! = (D[i]!).1 := by simp [firsts, h]

theorem putRow_firsts (enc : β → Value) (w : World) (blk off : Nat) (D : Array (β × Nat)) : putRow (fun x : β × Nat => enc x.1) w blk off D = putRow enc w blk off (firsts D) := by
  unfold putRow
  congr 1
  funext cs
  unfold putCells
  refine Array.ext (by simp) fun i h1 h2 => ?_
  simp only [Array.getElem_mapIdx, size_firsts]
  by_cases h : off ≤ i ∧ i < off + D.size
  · rw [if_pos h, if_pos h, at_firsts D _ (by omega)]
  · rw [if_neg h, if_neg h]

theorem sortWorld_firsts (enc : β → Value) (w : World) (blk off m : Nat) (D : Array (β × Nat)) (os : Array Obj) :
    sortWorld (fun x : β × Nat => enc x.1) w blk off m D os = sortWorld enc w blk off m (firsts D) os := by
  unfold sortWorld
  rw [putRow_firsts]

theorem SW_firsts {enc : β → Value} {w0 W : World} {blk off : Nat} {D : Array (β × Nat)} (h : SW (fun x : β × Nat => enc x.1) w0 blk off D W) : SW enc w0 blk off (firsts D) W := by
  obtain ⟨n, os, rfl⟩ := h
  exact ⟨n, os, sortWorld_firsts enc w0 blk off n D os⟩

theorem firsts_placed (d : Array β) : firsts (placed d) = d := by
  refine Array.ext (by rw [size_firsts, size_placed]) fun i h1 h2 => ?_
  have h := at_firsts (placed d) i (by rw [size_placed]; exact h2)
  rw [placed_at d i h2] at h
  rw [getElem!_pos (firsts (placed d)) i h1, getElem!_pos d i h2] at h
  exact h

omit [Inhabited β] in
theorem swo_firsts {cf : β → β → Int} (h : SWO (ltOf cf)) : SWO (ltOf (fun x y : β × Nat => cf x.1 y.1)) where
  irrefl := fun x => h.irrefl x.1
  trans := fun x y z => h.trans x.1 y.1 z.1
  ntrans := fun x y z => h.ntrans x.1 y.1 z.1

theorem sorted_call (enc : β → Value) (h1 : OneCell enc) (cf : β → β → Int) (hO : SWO (ltOf cf)) (g : Nat) (cb : Array Value) (blk off cap : Nat) (d : Array β) (w : World)
    (eg : ∀ args w, (callFunc g args).run Tryz.prog w = .ok (.enter g args) w) (hcmp : CmpLays1 Tryz.prog g cb enc cf blk off d.size w) (hH : Holds enc w blk off d) (hblk : blk < w.heap.size) (hsz : d.size < 1152921504606846976) :
    Calls Tryz.prog 83 #[.slice (some ⟨blk, off, none⟩) d.size cap, .func (.func g) #[] cb] w fun e w' => e = .returned (.tuple #[]) ∧ ∃ d' : Array β, d'.toList = sortedBy (ltOf cf) d.toList ∧ SW enc w blk off d' w' := by
  have hO' := swo_firsts hO
  have hHp : Holds (fun x : β × Nat => enc x.1) w blk off (placed d) := by
    intro j hj
    rw [size_placed] at hj
    rw [placed_at d j hj]
    exact hH j hj
  have R : Row1 (fun x : β × Nat => enc x.1) w blk off (placed d) := ⟨fun x => h1 x.1, hHp, hblk⟩
  have hC : CmpLays1 Tryz.prog g cb (fun x : β × Nat => enc x.1) (fun x y : β × Nat => cf x.1 y.1) blk off d.size w := fun m os D hD x y => by
    rw [sortWorld_firsts]
    exact hcmp m os (firsts D) (by rw [size_firsts, hD]) x.1 y.1
  refine (sort_call sits (fun x : β × Nat => enc x.1) (fun x y : β × Nat => cf x.1 y.1) hO' g cb blk off cap d.size (placed d) (placed d) w w eg hC R (size_placed d) (size_placed d) (SW.start R.hH) hsz ?_).mono ?_
  · intro a b D W hD S hab hb
    have := Any.insertionSortCmpFunc_s laysIns (fun x : β × Nat => enc x.1) (fun x y : β × Nat => cf x.1 y.1) g cb blk off cap a b (placed d) D w W eg (by rw [size_placed]; exact hC) R (by rw [size_placed, hD]) S hab (by omega) (by omega)
    rw [hD] at this
    exact this
  · rintro e w' ⟨rfl, S⟩
    refine ⟨rfl, firsts (stableS (ltOf fun x y : β × Nat => cf x.1 y.1) (placed d)), ?_, SW_firsts S⟩
    rw [← stable_list hO d]
    simp [firsts]
    rfl
end Go.Proofs.YtdeeeechdlcdbaaGreat
