/- Levels as merges; what the first of a level are made of. Plain Lean. -/
import Derived.Test.YthgidcfgelpkhaaLpC
namespace Go.Proofs.Ythgidcfgelpkhaa
open Go.Sort

section
variable {β : Type}
/-- Two lists in order, as one: of alike ones the first list's stand ahead. -/
def mrg (lt : β → β → Bool) : List β → List β → List β
  | [], ys => ys
  | x :: xs, [] => x :: xs
  | x :: xs, y :: ys => if lt y x then y :: mrg lt (x :: xs) ys else x :: mrg lt xs (y :: ys)
termination_by xs ys => xs.length + ys.length
variable {lt : β → β → Bool}
def InOrder (lt : β → β → Bool) (l : List β) : Prop := l.Pairwise fun x y => lt y x = false
theorem mrg_nil (xs : List β) : mrg lt xs [] = xs := by cases xs <;> simp [mrg]
theorem insA_stop {a : β} {l : List β} (h : ∀ b ∈ l, lt b a = false) : insA lt a l = a :: l := insA_at (l1 := []) (fun b hb => by cases hb) h
theorem mem_mrg {x : β} : ∀ (xs ys : List β), x ∈ mrg lt xs ys ↔ x ∈ xs ∨ x ∈ ys
  | [], ys => by simp [mrg]
  | a :: xs, [] => by simp [mrg]
  | a :: xs, y :: ys => by
    rw [mrg]
    split
    · rw [List.mem_cons, mem_mrg (a :: xs) ys]; simp only [List.mem_cons]; grind
    · rw [List.mem_cons, mem_mrg xs (y :: ys)]; simp only [List.mem_cons]; grind
termination_by xs ys => xs.length + ys.length
theorem insA_mrg (h : SWO lt) {a : β} : ∀ (xs ys : List β), (∀ b ∈ xs, lt b a = false) → InOrder lt ys → insA lt a (mrg lt xs ys) = mrg lt (a :: xs) ys
  | xs, [], h1, _ => by rw [mrg_nil, mrg_nil, insA_stop h1]
  | xs, y :: ys, h1, h2 => by
    have h3 : ∀ b ∈ ys, lt b y = false := fun b hb => List.rel_of_pairwise_cons h2 hb
    rw [mrg]
    cases hy : lt y a with
    | true =>
      rw [if_pos rfl]
      have e : mrg lt xs (y :: ys) = y :: mrg lt xs ys := by
        cases xs with
        | nil => simp [mrg]
        | cons x xs =>
          rw [mrg, if_pos]
          cases hx : lt y x with
          | true => rfl
          | false =>
            have := h.ntrans y x a hx (h1 x (List.mem_cons_self ..))
            rw [this] at hy; cases hy
      rw [e, insA, hy, if_pos rfl, insA_mrg h xs ys h1 h2.of_cons]
    | false =>
      rw [if_neg (by decide), insA_stop]
      intro b hb
      rcases (mem_mrg _ _).1 hb with hb | hb
      · exact h1 b hb
      · rcases List.mem_cons.1 hb with hb | hb
        · rw [hb]; exact hy
        · exact h.ntrans b y a (h3 b hb) hy
theorem insS_order : ∀ {l : List β}, InOrder lt l → insS lt l = l
  | [], _ => rfl
  | a :: l, h => by rw [insS, insS_order h.of_cons, insA_stop (fun b hb => List.rel_of_pairwise_cons h hb)]
theorem insS_mrg (h : SWO lt) : ∀ {xs ys : List β}, InOrder lt xs → InOrder lt ys → insS lt (xs ++ ys) = mrg lt xs ys
  | [], ys, _, h2 => by rw [List.nil_append, insS_order h2]; simp [mrg]
  | a :: xs, ys, h1, h2 => by
    rw [List.cons_append, insS, insS_mrg h h1.of_cons h2, insA_mrg h xs ys (fun b hb => List.rel_of_pairwise_cons h1 hb) h2]
theorem sortedBy_order (h : SWO lt) (l : List β) : InOrder lt (sortedBy lt l) := by
  have tr : ∀ a b c : β, (!lt b a) = true → (!lt c b) = true → (!lt c a) = true := by
    intro a b c h1 h2
    simp only [Bool.not_eq_true'] at h1 h2 ⊢
    exact h.ntrans c b a h2 h1
  have to : ∀ a b : β, (!lt b a || !lt a b) = true := by
    intro a b
    cases h1 : lt b a with
    | false => rfl
    | true =>
      cases h2 : lt a b with
      | false => rfl
      | true =>
        have := h.trans _ _ _ h1 h2
        rw [h.irrefl] at this
        cases this
  have := List.pairwise_mergeSort (le := fun x y => !lt y x) tr to l
  unfold sortedBy InOrder
  refine this.imp ?_
  intro a b hab
  simpa using hab
end

/-! ### Counts alone -/
def ltN (a b : Nat) : Bool := decide (a < b)
theorem swoN : SWO ltN where
  irrefl := fun x => by simp [ltN]
  trans := fun x y z => by simp only [ltN, decide_eq_true_eq]; omega
  ntrans := fun x y z => by simp only [ltN, decide_eq_false_iff_not]; omega
def packN : List Nat → List Nat
  | a :: b :: l => (a + b) :: packN l
  | _ => []
def levelN (f : List Nat) : Nat → List Nat
  | 0 => f
  | k + 1 => mrg ltN f (packN (levelN f k))
theorem mrg_map : ∀ xs ys : List PC, (mrg ltP xs ys).map (·.1) = mrg ltN (xs.map (·.1)) (ys.map (·.1))
  | [], ys => by simp [mrg]
  | a :: xs, [] => by simp [mrg]
  | a :: xs, y :: ys => by
    rw [mrg, List.map_cons, List.map_cons, mrg, show ltN y.1 a.1 = ltP y a from rfl]
    split
    · rw [List.map_cons, mrg_map (a :: xs) ys, List.map_cons]
    · rw [List.map_cons, mrg_map xs (y :: ys), List.map_cons]
termination_by xs ys => xs.length + ys.length
theorem packP_map : ∀ l : List PC, (packP l).map (·.1) = packN (l.map (·.1))
  | [] => by simp [packP, packN]
  | [_] => by simp [packP, packN]
  | a :: b :: l => by simp only [packP, List.map_cons, packN, packP_map l]
theorem packP_order : ∀ {l : List PC}, InOrder ltP l → InOrder ltP (packP l)
  | [], _ => by simp [packP, InOrder]
  | [_], _ => by simp [packP, InOrder]
  | a :: b :: l, h => by
    have hl : InOrder ltP l := h.of_cons.of_cons
    unfold InOrder
    rw [packP, List.pairwise_cons]
    refine ⟨fun p hp => ?_, packP_order hl⟩
    have ha : ∀ x ∈ l, a.1 ≤ x.1 := fun x hx => by
      have := List.rel_of_pairwise_cons h (List.mem_cons_of_mem _ hx)
      simpa [ltP] using this
    have hb : ∀ x ∈ l, b.1 ≤ x.1 := fun x hx => by
      have := List.rel_of_pairwise_cons h.of_cons hx
      simpa [ltP] using this
    have hab : a.1 ≤ b.1 := by
      have := List.rel_of_pairwise_cons h (List.mem_cons_self ..)
      simpa [ltP] using this
    have := mem_packQ (m := b.1) l hb p hp
    simp only [ltP, decide_eq_false_iff_not]
    omega
where
  mem_packQ {m : Nat} : ∀ (l : List PC), (∀ x ∈ l, m ≤ x.1) → ∀ p ∈ packP l, m + m ≤ p.1
    | [], _, p, hp => by simp [packP] at hp
    | [_], _, p, hp => by simp [packP] at hp
    | a :: b :: l, h, p, hp => by
      rw [packP] at hp
      rcases List.mem_cons.1 hp with hp | hp
      · rw [hp]
        have h1 := h a (List.mem_cons_self ..)
        have h2 := h b (List.mem_cons_of_mem _ (List.mem_cons_self ..))
        show m + m ≤ a.1 + b.1
        omega
      · exact mem_packQ l (fun x hx => h x (List.mem_cons_of_mem _ (List.mem_cons_of_mem _ hx))) p hp
theorem single_order (zs : List Int) : InOrder ltP (singleP zs) := sortedBy_order swoP _
theorem level_order {first : List PC} (h : InOrder ltP first) : ∀ k, InOrder ltP (levelP first k)
  | 0 => h
  | _ + 1 => sortedBy_order swoP _
/-- A level is the symbols and the packages, merged. -/
theorem level_mrg {first : List PC} (h : InOrder ltP first) (k : Nat) : levelP first (k + 1) = mrg ltP first (packP (levelP first k)) := by
  rw [levelP, sortedBy_ins swoP, insS_mrg swoP h (packP_order (level_order h k))]
theorem level_map {first : List PC} (h : InOrder ltP first) : ∀ k, (levelP first k).map (·.1) = levelN (first.map (·.1)) k
  | 0 => rfl
  | k + 1 => by rw [level_mrg h, mrg_map, packP_map, level_map h k]; rfl

/-! ### What the first of a level are made of -/
/-- How many of the first n are the first list's. -/
def tkN : Nat → List Nat → List Nat → Nat
  | 0, _, _ => 0
  | _ + 1, [], _ => 0
  | n + 1, _ :: xs, [] => 1 + tkN n xs []
  | n + 1, x :: xs, y :: ys => if ltN y x then tkN n (x :: xs) ys else 1 + tkN n xs (y :: ys)
theorem tkN_le : ∀ (n : Nat) (xs ys : List Nat), tkN n xs ys ≤ n ∧ tkN n xs ys ≤ xs.length
  | 0, _, _ => by simp [tkN]
  | _ + 1, [], _ => by simp [tkN]
  | n + 1, x :: xs, [] => by
    have := tkN_le n xs []
    simp only [tkN, List.length_cons]; omega
  | n + 1, x :: xs, y :: ys => by
    rw [tkN]
    split
    · have := tkN_le n (x :: xs) ys; omega
    · have := tkN_le n xs (y :: ys)
      rw [List.length_cons]; omega
theorem tkN_rest : ∀ (n : Nat) (xs ys : List Nat), n ≤ xs.length + ys.length → n - tkN n xs ys ≤ ys.length
  | 0, _, _, _ => by simp
  | n + 1, [], ys, h => by simp [tkN] at h ⊢; omega
  | n + 1, _ :: xs, [], h => by
    have := tkN_rest n xs [] (by simpa using h)
    simp only [tkN, List.length_nil] at this ⊢; omega
  | n + 1, x :: xs, y :: ys, h => by
    rw [tkN]
    split
    · have := tkN_rest n (x :: xs) ys (by simp at h ⊢; omega)
      rw [List.length_cons]; omega
    · have := tkN_rest n xs (y :: ys) (by simp at h ⊢; omega)
      rw [List.length_cons] at this ⊢; omega
theorem take_mrg : ∀ (n : Nat) (xs ys : List PC), ((mrg ltP xs ys).take n).Perm (xs.take (tkN n (xs.map (·.1)) (ys.map (·.1))) ++ ys.take (n - tkN n (xs.map (·.1)) (ys.map (·.1))))
  | 0, xs, ys => by simp [tkN]
  | n + 1, [], ys => by simp [mrg, tkN]
  | n + 1, x :: xs, [] => by
    have := take_mrg n xs []
    rw [mrg_nil] at this ⊢
    simp only [List.map_cons, List.map_nil, tkN, List.take_nil, List.append_nil] at this ⊢
    rw [List.take_succ_cons, Nat.add_comm 1, List.take_succ_cons]
    exact List.Perm.cons _ this
  | n + 1, x :: xs, y :: ys => by
    rw [mrg, List.map_cons, List.map_cons, tkN, show ltN y.1 x.1 = ltP y x from rfl]
    cases hy : ltP y x with
    | true =>
      simp only [if_true]
      have := take_mrg n (x :: xs) ys
      have hle := (tkN_le n ((x :: xs).map (·.1)) (ys.map (·.1))).1
      rw [List.map_cons] at this hle
      rw [List.take_succ_cons]
      generalize tkN n (x.1 :: xs.map (·.1)) (ys.map (·.1)) = t at this hle ⊢
      rw [show n + 1 - t = (n - t) + 1 by omega, List.take_succ_cons]
      exact (List.Perm.cons y this).trans List.perm_middle.symm
    | false =>
      simp only [Bool.false_eq_true, if_false]
      have := take_mrg n xs (y :: ys)
      rw [List.map_cons] at this
      rw [List.take_succ_cons]
      generalize tkN n (xs.map (·.1)) (y.1 :: ys.map (·.1)) = t at this ⊢
      rw [Nat.add_comm 1, List.take_succ_cons, show n + 1 - (t + 1) = n - t by omega]
      exact List.Perm.cons x this
theorem take_packP : ∀ (l : List PC) (p : Nat), 2 * p ≤ l.length → ((packP l).take p).flatMap (·.2) = (l.take (2 * p)).flatMap (·.2)
  | _, 0, _ => by simp
  | [], p + 1, h => by simp at h
  | [_], p + 1, h => by simp at h; omega
  | a :: b :: l, p + 1, h => by
    have := take_packP l p (by simp at h; omega)
    rw [packP, List.take_succ_cons, List.flatMap_cons, this, show 2 * (p + 1) = 2 * p + 1 + 1 by omega, List.take_succ_cons, List.take_succ_cons, List.flatMap_cons, List.flatMap_cons, List.append_assoc]
theorem packN_length : ∀ l : List Nat, (packN l).length = l.length / 2
  | [] => by simp [packN]
  | [_] => by simp [packN]
  | a :: b :: l => by rw [packN, List.length_cons, packN_length l, List.length_cons, List.length_cons]; omega
theorem mrg_length {β : Type} {lt : β → β → Bool} : ∀ xs ys : List β, (mrg lt xs ys).length = xs.length + ys.length
  | [], ys => by simp [mrg]
  | a :: xs, [] => by simp [mrg]
  | a :: xs, y :: ys => by
    rw [mrg]
    split
    · rw [List.length_cons, mrg_length (a :: xs) ys]; simp; omega
    · rw [List.length_cons, mrg_length xs (y :: ys)]; simp; omega
termination_by xs ys => xs.length + ys.length
theorem levelN_length (f : List Nat) (k : Nat) : (levelN f (k + 1)).length = f.length + (levelN f k).length / 2 := by rw [levelN, mrg_length, packN_length]

/-- How many of the symbols are taken at each level, the last level first. -/
def profN (f : List Nat) : Nat → Nat → List Nat
  | 0, n => [n]
  | k + 1, n => let t := tkN n f (packN (levelN f k)); t :: profN f k (2 * (n - t))
theorem profN_length (f : List Nat) : ∀ k n, (profN f k n).length = k + 1
  | 0, _ => rfl
  | k + 1, n => by rw [profN, List.length_cons, profN_length f k]
/-- What was chosen, as symbols: of each level a beginning of the symbols by count. -/
theorem chosen_perm {first : List PC} (h : InOrder ltP first) : ∀ (k n : Nat), n ≤ (levelP first k).length →
    (((levelP first k).take n).flatMap (·.2)).Perm ((profN (first.map (·.1)) k n).flatMap fun t => (first.take t).flatMap (·.2))
  | 0, n, _ => by simp [levelP, profN]
  | k + 1, n, hn => by
    rw [level_mrg h]
    have hp := take_mrg n first (packP (levelP first k))
    rw [packP_map, level_map h k] at hp
    rw [profN]
    have hlen : (levelN (first.map (·.1)) k).length = (levelP first k).length := by rw [← level_map h, List.length_map]
    have hr := tkN_rest n (first.map (·.1)) (packN (levelN (first.map (·.1)) k)) (by
      rw [packN_length, hlen, List.length_map]
      rw [level_succ] at hn; exact hn)
    rw [packN_length, hlen] at hr
    generalize tkN n (first.map (·.1)) (packN (levelN (first.map (·.1)) k)) = t at hp hr ⊢
    have h2 : 2 * (n - t) ≤ (levelP first k).length := by omega
    refine (hp.flatMap_right (fun p => p.2)).trans ?_
    rw [List.flatMap_append, take_packP _ _ h2]
    simp only [List.flatMap_cons]
    exact List.Perm.append (List.Perm.refl _) (chosen_perm h k _ h2)
end Go.Proofs.Ythgidcfgelpkhaa
