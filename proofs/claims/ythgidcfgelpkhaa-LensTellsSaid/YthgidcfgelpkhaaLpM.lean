/- The reference's way: one symbol more among those in order; merging by hand. Plain Lean. -/
import Derived.Test.YthgidcfgelpkhaaLpH
namespace Go.Proofs.Ythgidcfgelpkhaa
open Go.Sort

section
variable {β : Type} (lt : β → β → Bool)
/-- Behind all that are not greater. -/
def insZ (x : β) : List β → List β
  | [] => [x]
  | b :: l => if lt x b then x :: b :: l else b :: insZ x l
variable {lt}
theorem insA_insZ (h : SWO lt) (a x : β) : ∀ l : List β, insA lt a (insZ lt x l) = insZ lt x (insA lt a l)
  | [] => by
    simp only [insZ, insA]
  | b :: l => by
    have ih := insA_insZ h a x l
    cases hxb : lt x b with
    | true =>
      cases hba : lt b a with
      | true =>
        have hxa := h.trans _ _ _ hxb hba
        simp [insZ, insA, hxb, hba, hxa]
      | false =>
        cases hxa : lt x a <;> simp [insZ, insA, hxb, hba, hxa]
    | false =>
      cases hba : lt b a with
      | true => simp [insZ, insA, hxb, hba, ih]
      | false =>
        have hxa := h.ntrans x b a hxb hba
        simp [insZ, insA, hxb, hba, hxa]
theorem insS_snoc (h : SWO lt) (x : β) : ∀ l : List β, insS lt (l ++ [x]) = insZ lt x (insS lt l)
  | [] => rfl
  | a :: l => by rw [List.cons_append, insS, insS_snoc h x l, insA_insZ h, insS]
theorem insZ_at {x : β} : ∀ {l1 l2 : List β}, (∀ b ∈ l1, lt x b = false) → (∀ b ∈ l2, lt x b = true) → insZ lt x (l1 ++ l2) = l1 ++ x :: l2
  | [], [], _, _ => rfl
  | [], b :: l, _, h => by
    have := h b (List.mem_cons_self ..)
    simp [insZ, this]
  | b :: l1, l2, h1, h2 => by
    have := h1 b (List.mem_cons_self ..)
    simp only [List.cons_append, insZ, this]
    rw [insZ_at (fun c hc => h1 c (List.mem_cons_of_mem _ hc)) h2]
    simp
end

theorem single_snoc {raw S : List PC} (hS : S = sortedBy ltP raw) {k : Nat} {x : PC} (h1 : ∀ b ∈ S.drop k, x.1 < b.1) (h2 : ∀ b ∈ S.take k, b.1 ≤ x.1) :
    sortedBy ltP (raw ++ [x]) = S.take k ++ [x] ++ S.drop k := by
  rw [sortedBy_ins swoP, insS_snoc swoP, ← sortedBy_ins swoP, ← hS]
  have e : S = S.take k ++ S.drop k := (List.take_append_drop k S).symm
  conv => lhs; rw [e]
  rw [insZ_at]
  · simp
  · intro b hb
    have := h2 b hb
    simp only [ltP, decide_eq_false_iff_not]; omega
  · intro b hb
    have := h1 b hb
    simp only [ltP, decide_eq_true_eq]; exact this
theorem order_take {S : List PC} (h : InOrder ltP S) {k : Nat} {c : PC} (hc : S[k]? = some c) : ∀ b ∈ S.take (k + 1), b.1 ≤ c.1 := by
  intro b hb
  obtain ⟨hk, rfl⟩ := List.getElem?_eq_some_iff.1 hc
  obtain ⟨j, hj, rfl⟩ := List.mem_iff_getElem.1 hb
  rw [List.length_take] at hj
  rw [List.getElem_take]
  rcases Nat.lt_or_ge j k with hjk | hjk
  · have := List.pairwise_iff_getElem.1 h j k (by omega) hk hjk
    simp only [ltP, decide_eq_false_iff_not] at this
    omega
  · have : j = k := by omega
    subst this
    exact Nat.le_refl _
theorem mrg_low {x p : PC} {xs ps : List PC} (h : x.1 ≤ p.1) : mrg ltP (x :: xs) (p :: ps) = x :: mrg ltP xs (p :: ps) := by
  rw [mrg, if_neg]
  simp only [ltP, decide_eq_true_eq]; omega
theorem mrg_high {p : PC} {xs ps : List PC} (h : ∀ x, xs.head? = some x → p.1 < x.1) : mrg ltP xs (p :: ps) = p :: mrg ltP xs ps := by
  cases xs with
  | nil => simp [mrg]
  | cons x xs =>
    have := h x rfl
    rw [mrg, if_pos]
    simp only [ltP, decide_eq_true_eq]; exact this
theorem pack_two {l : List PC} {i : Nat} {x y : PC} (hx : l[i]? = some x) (hy : l[i + 1]? = some y) : packP (l.drop i) = (x.1 + y.1, x.2 ++ y.2) :: packP (l.drop (i + 2)) := by
  obtain ⟨h1, rfl⟩ := List.getElem?_eq_some_iff.1 hx
  obtain ⟨h2, rfl⟩ := List.getElem?_eq_some_iff.1 hy
  rw [List.drop_eq_getElem_cons h1, List.drop_eq_getElem_cons h2, packP]
theorem pack_none {l : List PC} {i : Nat} (h : l.length ≤ i + 1) : packP (l.drop i) = [] := by
  have : (l.drop i).length ≤ 1 := by rw [List.length_drop]; omega
  match e : l.drop i, this with
  | [], _ => rfl
  | [_], _ => rfl
  | _ :: _ :: _, h => simp at h
theorem rawAt_pos {s : Nat} {z : Nat} (h : 0 < z) : rawAt s (z : Int) = [(z, [s])] := by
  unfold rawAt
  rw [if_pos (by omega), Int.toNat_natCast]
theorem bad_take {zs : List Int} {i : Nat} (hi : i < zs.length) (h : badP (zs.take i) = false) (h0 : 0 ≤ zs.getD i 0) (h1 : zs.getD i 0 ≤ 1073741824) : badP (zs.take (i + 1)) = false := by
  rw [List.take_succ_eq_append_getElem hi]
  unfold badP at h ⊢
  rw [List.any_append, h]
  rw [List.getD_eq_getElem?_getD, List.getElem?_eq_getElem hi, Option.getD_some] at h0 h1
  simp; omega
theorem bad_at {zs : List Int} {i : Nat} (hi : i < zs.length) (h : zs.getD i 0 < 0 ∨ zs.getD i 0 > 1073741824) : badP zs = true := by
  unfold badP
  rw [List.any_eq_true]
  rw [List.getD_eq_getElem?_getD, List.getElem?_eq_getElem hi, Option.getD_some] at h
  exact ⟨zs[i], List.getElem_mem hi, by simpa using h⟩
theorem level_zero : ∀ k, levelP [] k = []
  | 0 => rfl
  | k + 1 => by rw [levelP, level_zero k]; simp [packP, sortedBy]
theorem level_one (p : PC) : ∀ k, levelP [p] k = [p]
  | 0 => rfl
  | k + 1 => by rw [levelP, level_one p k]; simp [packP, sortedBy]
theorem chosen_zero {mo : Nat} {zs : List Int} (h : singleP zs = []) : chosenP mo zs = [] := by
  unfold chosenP
  rw [h, level_zero]; rfl
theorem chosen_one {mo : Nat} {zs : List Int} {p : PC} (h : singleP zs = [p]) : chosenP mo zs = p.2 := by
  unfold chosenP
  rw [h, level_one]; simp [takeN]
end Go.Proofs.Ythgidcfgelpkhaa
