/- The stable merging sort as a whole: insertion in stretches of twenty, then merging stretch by stretch, gives the list that a stable merge sort of the standard kind gives. Plain Lean, no program in sight. -/
import Derived.Test.YthgidcfgelpkhaaStQ
namespace Go.Proofs.Ythgidcfgelpkhaa
open Go.Sort

section
variable {α : Type} [Inhabited α]
def insB (lt : α → α → Bool) (n : Nat) : Nat → Nat → Array α → Array α
  | 0, _, d => d
  | f + 1, a, d => if a + 20 ≤ n then insB lt n f (a + 20) (insertionSort lt d a (a + 20)) else insertionSort lt d a n

def mergeP (lt : α → α → Bool) (n bs : Nat) : Nat → Nat → Array α → Array α
  | 0, _, d => d
  | f + 1, a, d => if a + 2 * bs ≤ n then mergeP lt n bs f (a + 2 * bs) (symM lt n a (a + bs) (a + 2 * bs) d) else if a + bs < n then symM lt n a (a + bs) n d else d

def merges (lt : α → α → Bool) (n : Nat) : Nat → Nat → Array α → Array α
  | 0, _, d => d
  | f + 1, bs, d => if bs < n then merges lt n f (2 * bs) (mergeP lt n bs (n + 1) 0 d) else d

def stableS (lt : α → α → Bool) (d : Array α) : Array α := merges lt d.size (d.size + 1) 20 (insB lt d.size (d.size + 1) 0 d)

variable {lt bef : α → α → Bool} {tag : α → Nat}

/-- Stretches of length s: each element stays in its own, and each is in order. -/
structure Laid (bef : α → α → Bool) (tag : α → Nat) (s n : Nat) (d0 d : Array α) : Prop where
  perm : PermIn 0 n d0 d
  tags : ∀ i, i < n → tag d[i]! / s = i / s
  sorted : ∀ i j, i < j → j < n → i / s = j / s → bef d[j]! d[i]! = false

theorem div_in {s q i : Nat} (h1 : q * s ≤ i) (h2 : i < q * s + s) : i / s = q :=
  Nat.div_eq_of_lt_le h1 (by rw [Nat.add_mul, Nat.one_mul]; exact h2)

theorem insB_laid (hO : SWO bef) (hX : ∀ x y, tag x < tag y → lt y x = bef y x) {n : Nat} {d0 : Array α} (hn : n = d0.size) (_h0 : ∀ i, i < n → tag d0[i]! = i) :
    ∀ (f q : Nat) (d : Array α), n < q * 20 + f → q * 20 ≤ n → PermIn 0 n d0 d → (∀ i, i < n → tag d[i]! / 20 = i / 20) → (∀ i, q * 20 ≤ i → i < n → tag d[i]! = i) → (∀ i j, i < j → j < q * 20 → i / 20 = j / 20 → bef d[j]! d[i]! = false) →
    Laid bef tag 20 n d0 (insB lt n f (q * 20) d)
  | 0, q, d, hf, hq, _, _, _, _ => by omega
  | f + 1, q, d, hf, hq, hp, ht, ho, hs => by
    have hz : d.size = n := by rw [hp.1, hn]
    have block : ∀ b, q * 20 ≤ b → b ≤ n → b ≤ q * 20 + 20 → PermIn 0 n d0 (insertionSort lt d (q * 20) b) ∧ (∀ i, i < n → tag (insertionSort lt d (q * 20) b)[i]! / 20 = i / 20) ∧ (∀ i, b ≤ i → i < n → tag (insertionSort lt d (q * 20) b)[i]! = i) ∧
        (∀ i j, i < j → j < b → i / 20 = j / 20 → bef (insertionSort lt d (q * 20) b)[j]! (insertionSort lt d (q * 20) b)[i]! = false) := by
      intro b h1 h2 h3
      have hI := ins_sorts (lt := lt) hO h1 (by omega : b ≤ d.size) (fun i j u v w => hX _ _ (by rw [ho i u (by omega), ho j (by omega) (by omega)]; exact v))
      generalize insertionSort lt d (q * 20) b = e at hI ⊢
      obtain ⟨hp', hs'⟩ := hI
      refine ⟨permIn_tr hp (permIn_up (Nat.zero_le _) (by omega) (by omega) hp'), fun i hi => ?_, fun i u v => by rw [hp'.2.1 i (.inr u)]; exact ho i (by omega) v, fun i j u v w => ?_⟩
      · by_cases c : q * 20 ≤ i ∧ i < b
        · have := permIn_every (fun x => tag x / 20 = q) (by omega) hp' (fun k x y => by rw [ht k (by omega)]; omega) i c.1 c.2
          rw [this]; omega
        · rw [hp'.2.1 i (by omega)]; exact ht i hi
      · by_cases c : q * 20 ≤ i
        · exact hs' i j c u v
        · rw [hp'.2.1 i (.inl (by omega)), hp'.2.1 j (.inl (by omega))]; exact hs i j u (by omega) w
    rw [insB]
    by_cases h : q * 20 + 20 ≤ n
    · rw [if_pos h, show q * 20 + 20 = (q + 1) * 20 by omega]
      obtain ⟨b1, b2, b3, b4⟩ := block ((q + 1) * 20) (by omega) (by omega) (by omega)
      exact insB_laid hO hX hn _h0 f (q + 1) _ (by omega) (by omega) b1 b2 b3 b4
    · rw [if_neg h]
      obtain ⟨b1, b2, _, b4⟩ := block n (by omega) (Nat.le_refl _) (by omega)
      exact ⟨b1, b2, b4⟩

theorem mergeP_laid (hO : SWO bef) (hX : ∀ x y, tag x < tag y → lt y x = bef y x) {n s : Nat} (hs0 : 0 < s) {d0 : Array α} (hn : n = d0.size) :
    ∀ (f q : Nat) (d : Array α), n < q * (2 * s) + f → q * (2 * s) ≤ n → PermIn 0 n d0 d → (∀ i, i < n → tag d[i]! / (2 * s) = i / (2 * s)) → (∀ i, q * (2 * s) ≤ i → i < n → tag d[i]! / s = i / s) →
      (∀ i j, i < j → j < q * (2 * s) → i / (2 * s) = j / (2 * s) → bef d[j]! d[i]! = false) → (∀ i j, q * (2 * s) ≤ i → i < j → j < n → i / s = j / s → bef d[j]! d[i]! = false) →
    Laid bef tag (2 * s) n d0 (mergeP lt n s f (q * (2 * s)) d)
  | 0, q, d, hf, hq, _, _, _, _, _ => by omega
  | f + 1, q, d, hf, hq, hp, ht2, ht1, hs2, hs1 => by
    have hz : d.size = n := by rw [hp.1, hn]
    have e2 : q * 2 * s = q * (2 * s) := Nat.mul_assoc q 2 s
    have e3 : (q * 2 + 1) * s = q * (2 * s) + s := by rw [Nat.add_mul, Nat.one_mul, e2]
    have lo : ∀ i, q * (2 * s) ≤ i → i < q * (2 * s) + s → i / s = q * 2 := fun i u v => div_in (by rw [e2]; exact u) (by rw [e2]; exact v)
    have hi : ∀ i, q * (2 * s) + s ≤ i → i < q * (2 * s) + 2 * s → i / s = q * 2 + 1 := fun i u v => div_in (by rw [e3]; exact u) (by rw [e3]; omega)
    have both : ∀ i, q * (2 * s) ≤ i → i < q * (2 * s) + 2 * s → i / (2 * s) = q := fun i u v => div_in u v
    have block : ∀ b, q * (2 * s) + s < b → b ≤ n → b ≤ q * (2 * s) + 2 * s → PermIn 0 n d0 (symM lt n (q * (2 * s)) (q * (2 * s) + s) b d) ∧ (∀ i, i < n → tag (symM lt n (q * (2 * s)) (q * (2 * s) + s) b d)[i]! / (2 * s) = i / (2 * s)) ∧
        (∀ i, b ≤ i → (symM lt n (q * (2 * s)) (q * (2 * s) + s) b d)[i]! = d[i]!) ∧ (∀ i j, i < j → j < b → i / (2 * s) = j / (2 * s) → bef (symM lt n (q * (2 * s)) (q * (2 * s) + s) b d)[j]! (symM lt n (q * (2 * s)) (q * (2 * s) + s) b d)[i]! = false) := by
      intro b h1 h2 h3
      have hM := symM_sorts (lt := lt) hO n (q * (2 * s)) (q * (2 * s) + s) b d (by omega) (by omega) h1 (by omega)
        (fun i j u v w => hs1 i j u v (by omega) (by rw [lo i u (by omega), lo j (by omega) w]))
        (fun i j u v w => hs1 i j (by omega) v (by omega) (by rw [hi i u (by omega), hi j (by omega) (by omega)]))
        (fun i j u v u' v' => hX _ _ (by
          have a1 := ht1 i u (by omega)
          have a2 := ht1 j (by omega) (by omega)
          rw [lo i u v] at a1
          rw [hi j u' (by omega)] at a2
          exact Nat.lt_of_not_le fun hle => by
            have := Nat.div_le_div_right (c := s) hle
            omega))
      generalize symM lt n (q * (2 * s)) (q * (2 * s) + s) b d = e at hM ⊢
      obtain ⟨hp', hs'⟩ := hM
      refine ⟨permIn_tr hp (permIn_up (Nat.zero_le _) (by omega) (by omega) hp'), fun i hi' => ?_, fun i u => hp'.2.1 i (.inr u), fun i j u v w => ?_⟩
      · by_cases c : q * (2 * s) ≤ i ∧ i < b
        · have := permIn_every (fun x => tag x / (2 * s) = q) (by omega) hp' (fun k x y => by rw [ht2 k (by omega)]; exact both k x (by omega)) i c.1 c.2
          rw [this, both i c.1 (by omega)]
        · rw [hp'.2.1 i (by omega)]; exact ht2 i hi'
      · by_cases c : q * (2 * s) ≤ i
        · exact hs' i j c u v
        · by_cases c' : q * (2 * s) ≤ j
          · rw [both j c' (by omega)] at w
            have h9 := Nat.div_mul_le_self i (2 * s)
            rw [w] at h9
            omega
          · rw [hp'.2.1 i (.inl (by omega)), hp'.2.1 j (.inl (by omega))]; exact hs2 i j u (by omega) w
    rw [mergeP]
    by_cases h : q * (2 * s) + 2 * s ≤ n
    · have e4 : q * (2 * s) + 2 * s = (q + 1) * (2 * s) := by rw [Nat.add_mul, Nat.one_mul]
      rw [if_pos h]
      obtain ⟨b1, b2, b3, b4⟩ := block (q * (2 * s) + 2 * s) (by omega) h (Nat.le_refl _)
      rw [e4] at b1 b2 b3 b4 h ⊢
      refine mergeP_laid hO hX hs0 hn f (q + 1) _ (by omega) h b1 b2 (fun i u v => ?_) b4 (fun i j u v w x => ?_)
      · rw [b3 i u]; exact ht1 i (by omega) v
      · rw [b3 i u, b3 j (by omega)]; exact hs1 i j (by omega) v w x
    · rw [if_neg h]
      by_cases h' : q * (2 * s) + s < n
      · rw [if_pos h']
        obtain ⟨b1, b2, _, b4⟩ := block n h' (Nat.le_refl _) (by omega)
        exact ⟨b1, b2, b4⟩
      · rw [if_neg h']
        refine ⟨hp, ht2, fun i j u v w => ?_⟩
        by_cases c : q * (2 * s) ≤ i
        · exact hs1 i j c u v (by rw [lo i c (by omega), lo j (by omega) (by omega)])
        · by_cases c' : q * (2 * s) ≤ j
          · rw [both j c' (by omega)] at w
            have h9 := Nat.div_mul_le_self i (2 * s)
            rw [w] at h9
            omega
          · exact hs2 i j u (by omega) w

theorem merges_laid (hO : SWO bef) (hX : ∀ x y, tag x < tag y → lt y x = bef y x) {n : Nat} {d0 : Array α} (hn : n = d0.size) :
    ∀ (f s : Nat) (d : Array α), n < s + f → 0 < s → Laid bef tag s n d0 d → PermIn 0 n d0 (merges lt n f s d) ∧ SortedIn bef 0 n (merges lt n f s d)
  | 0, s, d, hf, hs, h => ⟨h.perm, fun i j _ u v => h.sorted i j u v (by rw [Nat.div_eq_of_lt (by omega), Nat.div_eq_of_lt (by omega)])⟩
  | f + 1, s, d, hf, hs, h => by
    rw [merges]
    by_cases c : s < n
    · rw [if_pos c]
      have h2 : ∀ x : Nat, x / (2 * s) = x / s / 2 := fun x => by rw [Nat.div_div_eq_div_mul, Nat.mul_comm]
      have hM := mergeP_laid (lt := lt) hO hX hs hn (n + 1) 0 d (by omega) (by omega) h.perm (fun i hi => by rw [h2, h2, h.tags i hi]) (fun i _ hi => h.tags i hi) (fun i j u v _ => by omega) (fun i j _ u v w => h.sorted i j u v w)
      rw [Nat.zero_mul] at hM
      exact merges_laid hO hX hn f (2 * s) _ (by omega) (by omega) hM
    · rw [if_neg c]
      exact ⟨h.perm, fun i j _ u v => h.sorted i j u v (by rw [Nat.div_eq_of_lt (by omega), Nat.div_eq_of_lt (by omega)])⟩

theorem stableS_sorts (hO : SWO bef) (hX : ∀ x y, tag x < tag y → lt y x = bef y x) (d : Array α) (h0 : ∀ i, i < d.size → tag d[i]! = i) :
    PermIn 0 d.size d (stableS lt d) ∧ SortedIn bef 0 d.size (stableS lt d) := by
  have hI := insB_laid (lt := lt) hO hX (n := d.size) rfl h0 (d.size + 1) 0 d (by omega) (by omega) (permIn_id _ _ _) (fun i hi => by rw [h0 i hi]) (fun i _ hi => h0 i hi) (fun i j u v _ => by omega)
  rw [Nat.zero_mul] at hI
  exact merges_laid hO hX rfl (d.size + 1) 20 _ (by omega) (by omega) hI
end

/-! ### With each element's first place beside it -/
section
variable {β : Type}
/-- Ahead by the order, or, where the order says nothing, by the first place. -/
def befT (lt : β → β → Bool) (x y : β × Nat) : Bool := lt x.1 y.1 || (!lt y.1 x.1 && decide (x.2 < y.2))

theorem befT_iff (lt : β → β → Bool) (x y : β × Nat) : befT lt x y = true ↔ lt x.1 y.1 = true ∨ (lt y.1 x.1 = false ∧ x.2 < y.2) := by
  simp [befT]
theorem befT_not (lt : β → β → Bool) (x y : β × Nat) : befT lt x y = false ↔ lt x.1 y.1 = false ∧ (lt y.1 x.1 = true ∨ y.2 ≤ x.2) := by
  simp only [befT, Bool.or_eq_false_iff, Bool.and_eq_false_iff, Bool.not_eq_false', decide_eq_false_iff_not, Nat.not_lt]

theorem swo_befT {lt : β → β → Bool} (h : SWO lt) : SWO (befT lt) where
  irrefl x := (befT_not _ _ _).2 ⟨h.irrefl _, .inr (Nat.le_refl _)⟩
  trans x y z h1 h2 := by
    rw [befT_iff] at h1 h2 ⊢
    rcases h1 with a | ⟨a, a'⟩
    · rcases h2 with b | ⟨b, b'⟩
      · exact .inl (h.trans _ _ _ a b)
      · refine .inl ?_
        cases c : lt x.1 z.1
        · rw [h.ntrans _ _ _ c b] at a; cases a
        · rfl
    · rcases h2 with b | ⟨b, b'⟩
      · refine .inl ?_
        cases c : lt x.1 z.1
        · rw [h.ntrans _ _ _ a c] at b; cases b
        · rfl
      · exact .inr ⟨h.ntrans _ _ _ b a, by omega⟩
  ntrans x y z h1 h2 := by
    rw [befT_not] at h1 h2 ⊢
    obtain ⟨a, a'⟩ := h1
    obtain ⟨b, b'⟩ := h2
    refine ⟨h.ntrans _ _ _ a b, ?_⟩
    rcases a' with a' | a'
    · refine .inl ?_
      cases c : lt z.1 x.1
      · rw [h.ntrans _ _ _ b c] at a'; cases a'
      · rfl
    · rcases b' with b' | b'
      · refine .inl ?_
        cases c : lt z.1 x.1
        · rw [h.ntrans _ _ _ c a] at b'; cases b'
        · rfl
      · exact .inr (by omega)

/-- Each element with its place. -/
def placed (d : Array β) : Array (β × Nat) := d.toList.zipIdx.toArray

theorem size_placed (d : Array β) : (placed d).size = d.size := by simp [placed]
theorem placed_at [Inhabited β] (d : Array β) (i : Nat) (hi : i < d.size) : (placed d)[i]! = (d[i]!, i) := by
  rw [getElem!_pos (placed d) i (by rw [size_placed]; exact hi), getElem!_pos d i hi]
  simp [placed]

/-- What a stable sort makes of a list. -/
def sortedBy (lt : β → β → Bool) (l : List β) : List β := l.mergeSort (fun x y => !lt y x)

theorem stable_list [Inhabited β] {lt : β → β → Bool} (h : SWO lt) (d : Array β) :
    ((stableS (fun x y : β × Nat => lt x.1 y.1) (placed d)).toList.map (·.1)) = sortedBy lt d.toList := by
  have hS := stableS_sorts (lt := fun x y : β × Nat => lt x.1 y.1) (bef := befT lt) (tag := (·.2)) (swo_befT h) (fun x y hxy => by
    show lt y.1 x.1 = befT lt y x
    have : decide (y.2 < x.2) = false := by simp; omega
    rw [befT, this]; simp) (placed d) (fun i hi => by rw [placed_at d i (by rw [size_placed] at hi; exact hi)])
  generalize stableS (fun x y : β × Nat => lt x.1 y.1) (placed d) = e at hS ⊢
  obtain ⟨⟨hsz, _, hperm⟩, hs⟩ := hS
  rw [← hsz, Array.extract_size, hsz, Array.extract_size] at hperm
  have htl : (placed d).toList = d.toList.zipIdx := by simp [placed]
  rw [htl] at hperm
  rw [sortedBy, ← List.mergeSort_zipIdx]
  congr 1
  refine List.Perm.eq_of_pairwise (le := fun x y => (!befT lt y x) = true) ?_ ?_ ?_ (hperm.trans (List.mergeSort_perm _ _).symm)
  · intro x y hx hy h1 h2
    simp only [Bool.not_eq_true'] at h1 h2
    rw [befT_not] at h1 h2
    have hxm := hperm.mem_iff.1 hx
    have hym := (List.mergeSort_perm _ _).mem_iff.1 hy
    have ht : x.2 = y.2 := by
      rcases h1.2 with a | a
      · rw [h2.1] at a; cases a
      · rcases h2.2 with b | b
        · rw [h1.1] at b; cases b
        · omega
    obtain ⟨x1, x2⟩ := x
    obtain ⟨y1, y2⟩ := y
    simp only at ht
    subst ht
    have a := List.mem_zipIdx' hxm
    have b := List.mem_zipIdx' hym
    rw [a.2, b.2]
  · rw [List.pairwise_iff_getElem]
    intro i j hi hj hij
    have hi' : i < e.size := by simpa using hi
    have hj' : j < e.size := by simpa using hj
    have := hs i j (Nat.zero_le _) hij (by omega)
    rw [getElem!_pos e j hj', getElem!_pos e i hi'] at this
    simpa using this
  · have key : ∀ x y : β × Nat, List.zipIdxLE (fun x y => !lt y x) x y = !befT lt y x := by
      intro x y
      simp only [List.zipIdxLE, befT]
      have g : ∀ u v : Bool, (if (!u) = true then if (!v) = true then decide (x.2 ≤ y.2) else true else false) = !(u || !v && decide (y.2 < x.2)) := by
        intro u v
        cases u <;> cases v <;> simp [← Nat.not_lt]
      exact g _ _
    have hp := List.pairwise_mergeSort (le := List.zipIdxLE (fun x y => !lt y x)) (by
      intro x y z
      rw [key, key, key]
      simp only [Bool.not_eq_true']
      intro a b
      exact (swo_befT h).ntrans _ _ _ b a) (by
      intro x y
      rw [key, key]
      cases c : befT lt y x
      · simp
      · simp [(swo_befT h).asymmA c]) d.toList.zipIdx
    exact hp.imp (fun {x y} hxy => by rw [key] at hxy; exact hxy)
end
end Go.Proofs.Ythgidcfgelpkhaa
