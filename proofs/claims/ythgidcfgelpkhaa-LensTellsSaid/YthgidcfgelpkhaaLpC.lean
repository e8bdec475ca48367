/- A stable sort, as one that can be reckoned: by insertion. -/
import Derived.Test.YthgidcfgelpkhaaLpB
namespace Go.Proofs.Ythgidcfgelpkhaa
open Go.Sort

section
variable {β : Type} (lt : β → β → Bool)
/-- Ahead of the first that is not less. -/
def insA (a : β) : List β → List β
  | [] => [a]
  | b :: l => if lt b a then b :: insA a l else a :: b :: l
def insS : List β → List β
  | [] => []
  | a :: l => insA lt a (insS l)
variable {lt}
theorem insA_at {a : β} : ∀ {l1 l2 : List β}, (∀ b ∈ l1, lt b a = true) → (∀ b ∈ l2, lt b a = false) → insA lt a (l1 ++ l2) = l1 ++ a :: l2
  | [], [], _, _ => rfl
  | [], b :: l, _, h => by
    have := h b (List.mem_cons_self ..)
    simp [insA, this]
  | b :: l1, l2, h1, h2 => by
    have := h1 b (List.mem_cons_self ..)
    simp only [List.cons_append, insA, this, if_true]
    rw [insA_at (fun c hc => h1 c (List.mem_cons_of_mem _ hc)) h2]
theorem sortedBy_ins (h : SWO lt) : ∀ l : List β, sortedBy lt l = insS lt l
  | [] => by simp [sortedBy, insS]
  | a :: l => by
    have tr : ∀ a b c : β, (!lt b a) = true → (!lt c b) = true → (!lt c a) = true := by
      intro a b c h1 h2
      simp only [Bool.not_eq_true'] at h1 h2 ⊢
      exact h.ntrans c b a h2 h1
    have to : ∀ a b : β, (!lt b a || !lt a b) = true := by
      intro a b
      cases h1 : lt b a with
      | false => rfl
      | true =>
        cases h2 : lt a b with
        | false => rfl
        | true =>
          have := h.trans _ _ _ h1 h2
          rw [h.irrefl] at this
          cases this
    obtain ⟨l1, l2, e1, e2, e3⟩ := List.mergeSort_cons tr to a l
    have hs : (a :: l).mergeSort (fun x y => !lt y x) |>.Pairwise fun x y => (!lt y x) = true := List.pairwise_mergeSort tr to _
    rw [insS, ← sortedBy_ins h l]
    unfold sortedBy
    rw [e1, e2, insA_at]
    · intro b hb
      have := e3 b hb
      simpa using this
    · intro b hb
      rw [e1, List.pairwise_append] at hs
      have := List.rel_of_pairwise_cons hs.2.1 hb
      simpa using this
end
theorem swoP : SWO ltP where
  irrefl := fun x => by simp [ltP]
  trans := fun x y z => by simp only [ltP, decide_eq_true_eq]; omega
  ntrans := fun x y z => by simp only [ltP, decide_eq_false_iff_not]; omega

/-- The levels, so that they can be reckoned. -/
def levelR (first : List PC) : Nat → List PC
  | 0 => first
  | k + 1 => insS ltP (first ++ packP (levelR first k))
theorem levelP_eq (first : List PC) : ∀ k, levelP first k = levelR first k
  | 0 => rfl
  | k + 1 => by rw [levelP, levelR, levelP_eq first k, sortedBy_ins swoP]
def lensR (most : Nat) (zs : List Int) : List Nat :=
  let first := insS ltP (rawFrom 0 zs)
  let occ := ((levelR first (most - 1)).take (takeN first.length)).flatMap (·.2)
  (List.range zs.length).map fun s => occ.count s
theorem lensP_eq_R (most : Nat) (zs : List Int) : lensP most zs = lensR most zs := by
  unfold lensP lensR chosenP singleP
  rw [levelP_eq, sortedBy_ins swoP]
end Go.Proofs.Ythgidcfgelpkhaa
