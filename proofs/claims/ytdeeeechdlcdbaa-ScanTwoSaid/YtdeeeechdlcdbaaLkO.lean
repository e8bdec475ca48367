/- An order by a number and then by place, in plain Lean. -/

set_option linter.unusedVariables false
set_option linter.unusedSimpArgs false
namespace Go.Proofs.Ytdeeeechdlcdbaa.LkO
theorem both_ways {α : Type} {a b : α} : ∀ {L : List α}, L.Nodup → List.Sublist [a, b] L → List.Sublist [b, a] L → False
  | [], _, h, _ => by cases h
  | x :: L, hn, h, k => by
    have hx : x ∉ L := (List.nodup_cons.1 hn).1
    have hL := (List.nodup_cons.1 hn).2
    cases h with
    | cons _ h =>
      cases k with
      | cons _ k => exact both_ways hL h k
      | cons_cons _ k =>
        exact hx (h.subset (by simp))
    | cons_cons _ h =>
      cases k with
      | cons _ k => exact hx (k.subset (by simp))
      | cons_cons _ k => exact hx (h.subset (by simp))
theorem pair_in {a b : Nat} : ∀ {L : List Nat}, L.Pairwise (· < ·) → a ∈ L → b ∈ L → a < b → List.Sublist [a, b] L
  | [], _, h, _, _ => by cases h
  | x :: L, hp, ha, hb, hab => by
    have h1 := (List.pairwise_cons.1 hp).1
    have h2 := (List.pairwise_cons.1 hp).2
    rcases List.mem_cons.1 ha with rfl | ha'
    · rcases List.mem_cons.1 hb with rfl | hb'
      · omega
      · exact List.Sublist.cons_cons _ (List.singleton_sublist.2 hb')
    · rcases List.mem_cons.1 hb with rfl | hb'
      · have := h1 a ha'; omega
      · exact List.Sublist.cons _ (pair_in h2 ha' hb' hab)
def ordL (D : Nat → Nat) (n : Nat) : List Nat := (List.range n).mergeSort (fun x y => decide (D x ≤ D y))
section
variable (D : Nat → Nat) (n : Nat)
theorem ord_perm : (ordL D n).Perm (List.range n) := List.mergeSort_perm _ _
theorem ord_length : (ordL D n).length = n := by rw [(ord_perm D n).length_eq, List.length_range]
theorem ord_nodup : (ordL D n).Nodup := (ord_perm D n).nodup_iff.2 List.nodup_range
theorem ord_mem {x : Nat} : x ∈ ordL D n ↔ x < n := by rw [(ord_perm D n).mem_iff, List.mem_range]
def lexD (x y : Nat) : Prop := D x < D y ∨ (D x = D y ∧ x < y)
theorem ord_pw : (ordL D n).Pairwise (lexD D) := by
  refine List.pairwise_iff_forall_sublist.2 fun {a b} h => ?_
  have tr : ∀ a b c : Nat, decide (D a ≤ D b) = true → decide (D b ≤ D c) = true → decide (D a ≤ D c) = true := fun a b c h1 h2 => by simp at *; omega
  have to : ∀ a b : Nat, (decide (D a ≤ D b) || decide (D b ≤ D a)) = true := fun a b => by simp; omega
  have h1 : decide (D a ≤ D b) = true := List.pairwise_iff_forall_sublist.1 (List.pairwise_mergeSort tr to (List.range n)) h
  have h2 : D a ≤ D b := of_decide_eq_true h1
  have h3 : a ≠ b := List.pairwise_iff_forall_sublist.1 (ord_nodup D n) h
  rcases Nat.lt_or_ge (D a) (D b) with h4 | h4
  · exact .inl h4
  · refine .inr ⟨by omega, ?_⟩
    rcases Nat.lt_or_ge a b with h5 | h5
    · exact h5
    · exfalso
      have ha : a < n := (ord_mem D n).1 (h.subset (by simp))
      have hb : b < n := (ord_mem D n).1 (h.subset (by simp))
      have h6 : List.Sublist [b, a] (List.range n) := pair_in List.pairwise_lt_range (List.mem_range.2 hb) (List.mem_range.2 ha) (by omega)
      have h7 : List.Sublist [b, a] (ordL D n) := List.pair_sublist_mergeSort tr to (decide_eq_true (by omega)) h6
      exact both_ways (ord_nodup D n) h h7
/-- All of one number, up to the greatest one. -/
def byNum (k : Nat) : List Nat := (List.range k).flatMap fun d => (List.range n).filter fun i => D i == d
theorem byNum_succ (k : Nat) : byNum D n (k + 1) = byNum D n k ++ (List.range n).filter fun i => D i == k := by
  unfold byNum
  rw [List.range_succ, List.flatMap_append]
  simp
theorem mem_byNum (k : Nat) {x : Nat} : x ∈ byNum D n k ↔ x < n ∧ D x < k := by
  unfold byNum
  rw [List.mem_flatMap]
  constructor
  · rintro ⟨d, h1, h2⟩
    rw [List.mem_filter] at h2
    have := List.mem_range.1 h1
    have h3 := beq_iff_eq.1 h2.2
    exact ⟨List.mem_range.1 h2.1, by omega⟩
  · rintro ⟨h1, h2⟩
    exact ⟨D x, List.mem_range.2 h2, List.mem_filter.2 ⟨List.mem_range.2 h1, by simp⟩⟩
theorem byNum_pw : ∀ k, (byNum D n k).Pairwise (lexD D)
  | 0 => by simp [byNum]
  | k + 1 => by
    rw [byNum_succ, List.pairwise_append]
    refine ⟨byNum_pw k, ?_, fun a ha b hb => ?_⟩
    · refine ((List.pairwise_lt_range (n := n)).filter _).imp_of_mem fun {a b} ha hb h => ?_
      have h1 := beq_iff_eq.1 (List.mem_filter.1 ha).2
      have h2 := beq_iff_eq.1 (List.mem_filter.1 hb).2
      exact .inr ⟨by omega, h⟩
    · have h1 := ((mem_byNum D n k).1 ha).2
      have h2 := beq_iff_eq.1 (List.mem_filter.1 hb).2
      exact .inl (by omega)
theorem lex_ne {x y : Nat} (h : lexD D x y) : x ≠ y := by
  rintro rfl
  rcases h with h | ⟨_, h⟩ <;> omega
theorem byNum_ord {k : Nat} (h : ∀ i, i < n → D i < k) : byNum D n k = ordL D n := by
  have n1 : (byNum D n k).Nodup := (byNum_pw D n k).imp (lex_ne D)
  have hp : (byNum D n k).Perm (ordL D n) := (List.perm_ext_iff_of_nodup n1 (ord_nodup D n)).2 fun x => by
    rw [mem_byNum, ord_mem]
    exact ⟨fun h => h.1, fun h1 => ⟨h1, h x h1⟩⟩
  refine List.Perm.eq_of_pairwise (fun a b _ _ h1 h2 => ?_) (byNum_pw D n k) (ord_pw D n) hp
  exfalso
  rcases h1 with h1 | ⟨h1, h3⟩ <;> rcases h2 with h2 | ⟨h2, h4⟩ <;> omega
end
end Go.Proofs.Ytdeeeechdlcdbaa.LkO
