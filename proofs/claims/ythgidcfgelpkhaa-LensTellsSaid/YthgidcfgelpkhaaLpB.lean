/- Plain facts on the levels: how long they are, which symbols are in them; counts of what was chosen. -/
import Derived.Test.YthgidcfgelpkhaaLpA
namespace Go.Proofs.Ythgidcfgelpkhaa
open Go.Sort

theorem level_succ (first : List PC) (k : Nat) : (levelP first (k + 1)).length = first.length + (levelP first k).length / 2 := by
  rw [levelP, sortedBy_length, List.length_append, packP_length]
theorem level_le (first : List PC) : ∀ k, (levelP first k).length ≤ 2 * first.length
  | 0 => by rw [levelP]; omega
  | k + 1 => by
    have := level_le first k
    rw [level_succ]
    omega
theorem level_ge (first : List PC) : ∀ k, first.length ≤ (levelP first k).length
  | 0 => Nat.le_refl _
  | k + 1 => by rw [level_succ]; omega
theorem level_len (first : List PC) : ∀ (k d : Nat), first.length ≤ d * 2 ^ k → 2 * first.length ≤ (levelP first k).length + d
  | 0, d, h => by rw [levelP]; omega
  | k + 1, d, h => by
    have := level_len first k (d * 2) (by rw [Nat.pow_succ, Nat.mul_comm (2 ^ k) 2, ← Nat.mul_assoc] at h; exact h)
    rw [level_succ]
    omega
theorem take_fits (first : List PC) (mo : Nat) (h1 : 1 ≤ mo) (h : first.length ≤ 2 ^ mo) : takeN first.length ≤ (levelP first (mo - 1)).length := by
  unfold takeN
  have hg := level_ge first (mo - 1)
  have hl := level_len first (mo - 1) 2 (by rw [← Nat.pow_succ', show (mo - 1).succ = mo by omega]; exact h)
  split <;> omega

theorem mem_rawFrom {p : PC} : ∀ {zs : List Int} {s : Nat}, p ∈ rawFrom s zs → ∀ x ∈ p.2, x < s + zs.length
  | [], _, h => by cases h
  | z :: zs, s, h => by
    rw [rawFrom, List.mem_append] at h
    intro x hx
    rw [List.length_cons]
    rcases h with h | h
    · unfold rawAt at h
      split at h
      · rw [List.mem_singleton.1 h] at hx
        rw [List.mem_singleton.1 hx]; omega
      · cases h
    · have := mem_rawFrom h x hx
      omega
theorem mem_sortedBy {β : Type} {lt : β → β → Bool} {l : List β} {x : β} : x ∈ sortedBy lt l ↔ x ∈ l := by unfold sortedBy; exact List.mem_mergeSort
theorem mem_packP {Q : PC → Prop} (hQ : ∀ a b : PC, Q a → Q b → Q (a.1 + b.1, a.2 ++ b.2)) : ∀ {l : List PC}, (∀ p ∈ l, Q p) → ∀ p ∈ packP l, Q p
  | [], _, p, h => by simp [packP] at h
  | [_], _, p, h => by simp [packP] at h
  | a :: b :: l, hl, p, h => by
    rw [packP] at h
    rcases List.mem_cons.1 h with h | h
    · rw [h]; exact hQ a b (hl a (List.mem_cons_self ..)) (hl b (List.mem_cons_of_mem _ (List.mem_cons_self ..)))
    · exact mem_packP hQ (fun p hp => hl p (List.mem_cons_of_mem _ (List.mem_cons_of_mem _ hp))) p h
theorem level_all {Q : PC → Prop} (hQ : ∀ a b : PC, Q a → Q b → Q (a.1 + b.1, a.2 ++ b.2)) {first : List PC} (hf : ∀ p ∈ first, Q p) : ∀ k, ∀ p ∈ levelP first k, Q p
  | 0 => hf
  | k + 1 => by
    intro p hp
    rw [levelP, mem_sortedBy, List.mem_append] at hp
    rcases hp with hp | hp
    · exact hf p hp
    · exact mem_packP hQ (level_all hQ hf k) p hp
theorem level_syms (zs : List Int) (k : Nat) : ∀ p ∈ levelP (singleP zs) k, ∀ x ∈ p.2, x < zs.length := by
  refine level_all (Q := fun p => ∀ x ∈ p.2, x < zs.length) (fun a b ha hb x hx => ?_) (fun p hp x hx => ?_) k
  · rcases List.mem_append.1 hx with h | h
    · exact ha x h
    · exact hb x h
  · rw [singleP, mem_sortedBy] at hp
    have := mem_rawFrom hp x hx
    omega

/-- How often each symbol is among those. -/
def counts (n : Nat) (occ : List Nat) : List Nat := (List.range n).map fun s => occ.count s
theorem counts_nil (n : Nat) : counts n [] = List.replicate n 0 := by
  unfold counts
  refine List.ext_getElem? fun i => ?_
  by_cases h : i < n
  · simp [h]
  · simp [h]
theorem counts_push {n : Nat} (occ : List Nat) {s : Nat} : (counts n occ).set s (occ.count s + 1) = counts n (occ ++ [s]) := by
  unfold counts
  refine List.ext_getElem? fun i => ?_
  by_cases h : i < n
  · by_cases e : s = i
    · subst e
      simp [h, List.count_append]
    · rw [List.getElem?_set_ne e]
      simp [h, List.count_append, List.count_cons, e]
  · rw [List.getElem?_eq_none (by simp; omega), List.getElem?_eq_none (by simp; omega)]
theorem counts_at {n : Nat} (occ : List Nat) {s : Nat} (hs : s < n) : (counts n occ)[s]? = some (occ.count s) := by
  unfold counts
  simp [hs]
theorem lensP_eq (most : Nat) (zs : List Int) : lensP most zs = counts zs.length (chosenP most zs) := rfl
end Go.Proofs.Ythgidcfgelpkhaa
