/- The lengths by the symbols' ranks; weights by what was chosen. Plain Lean. -/
import Derived.Test.YthgidcfgelpkhaaLpE
namespace Go.Proofs.Ythgidcfgelpkhaa
open Go.Sort

/-- The symbols that are there, by count. -/
def symsP (zs : List Int) : List Nat := (singleP zs).flatMap (·.2)
/-- Their counts. -/
def freqP (zs : List Int) : List Nat := (singleP zs).map (·.1)
/-- A symbol alone, and its count. -/
def Alone (zs : List Int) (p : PC) : Prop := ∃ s, s < zs.length ∧ 0 < zs.getD s 0 ∧ p = ((zs.getD s 0).toNat, [s])
theorem raw_alone {p : PC} : ∀ {zs : List Int} {s : Nat}, p ∈ rawFrom s zs → ∃ i, i < zs.length ∧ 0 < zs.getD i 0 ∧ p = ((zs.getD i 0).toNat, [s + i])
  | [], _, h => by cases h
  | z :: zs, s, h => by
    rw [rawFrom, List.mem_append] at h
    rcases h with h | h
    · unfold rawAt at h
      split at h
      · rename_i hz
        exact ⟨0, by simp, by simpa using hz, by simpa using h⟩
      · cases h
    · obtain ⟨i, h1, h2, h3⟩ := raw_alone h
      exact ⟨i + 1, by simpa using h1, by simpa using h2, by rw [h3]; simp; omega⟩
theorem single_alone (zs : List Int) : ∀ p ∈ singleP zs, Alone zs p := by
  intro p hp
  rw [singleP, mem_sortedBy] at hp
  obtain ⟨i, h1, h2, h3⟩ := raw_alone hp
  exact ⟨i, h1, h2, by rw [h3, Nat.zero_add]⟩
theorem raw_syms : ∀ (zs : List Int) (s : Nat), ((rawFrom s zs).flatMap (·.2)).Nodup ∧ ∀ x, x ∈ (rawFrom s zs).flatMap (·.2) ↔ ∃ i, i < zs.length ∧ 0 < zs.getD i 0 ∧ x = s + i
  | [], s => by simp [rawFrom]
  | z :: zs, s => by
    obtain ⟨h1, h2⟩ := raw_syms zs (s + 1)
    rw [rawFrom, List.flatMap_append]
    have hm : ∀ x, x ∈ (rawAt s z).flatMap (·.2) ↔ (0 < z ∧ x = s) := by
      intro x
      unfold rawAt
      split <;> simp [*]
    refine ⟨?_, fun x => ?_⟩
    · rw [List.nodup_append]
      refine ⟨by unfold rawAt; split <;> simp, h1, fun a ha b hb e => ?_⟩
      have ha := ((hm a).1 ha).2
      obtain ⟨i, _, _, hi⟩ := (h2 b).1 hb
      omega
    · rw [List.mem_append, hm, h2]
      constructor
      · rintro (⟨h, rfl⟩ | ⟨i, h3, h4, rfl⟩)
        · exact ⟨0, by simp, by simpa using h, rfl⟩
        · exact ⟨i + 1, by simpa using h3, by simpa using h4, by omega⟩
      · rintro ⟨i, h3, h4, rfl⟩
        cases i with
        | zero => exact .inl ⟨by simpa using h4, rfl⟩
        | succ i => exact .inr ⟨i, by simpa using h3, by simpa using h4, by omega⟩
theorem single_perm (zs : List Int) : (singleP zs).Perm (rawFrom 0 zs) := by unfold singleP sortedBy; exact List.mergeSort_perm _ _
theorem syms_perm (zs : List Int) : (symsP zs).Perm ((rawFrom 0 zs).flatMap (·.2)) := (single_perm zs).flatMap_right _
theorem syms_nodup (zs : List Int) : (symsP zs).Nodup := (syms_perm zs).nodup_iff.2 (raw_syms zs 0).1
theorem mem_syms {zs : List Int} {x : Nat} : x ∈ symsP zs ↔ x < zs.length ∧ 0 < zs.getD x 0 := by
  rw [(syms_perm zs).mem_iff, (raw_syms zs 0).2]
  constructor
  · rintro ⟨i, h1, h2, rfl⟩; rw [Nat.zero_add]; exact ⟨h1, h2⟩
  · rintro ⟨h1, h2⟩; exact ⟨x, h1, h2, (Nat.zero_add x).symm⟩
theorem take_alone : ∀ (l : List PC) (t : Nat), (∀ p ∈ l, p.2.length = 1) → (l.take t).flatMap (·.2) = (l.flatMap (·.2)).take t ∧ (l.flatMap (·.2)).length = l.length
  | [], t, _ => by simp
  | p :: l, 0, h => by
    have := (take_alone l 0 (fun q hq => h q (List.mem_cons_of_mem _ hq))).2
    have hp := h p (List.mem_cons_self ..)
    rw [List.flatMap_cons, List.length_append, this, hp, List.length_cons]
    simp; omega
  | p :: l, t + 1, h => by
    obtain ⟨i1, i2⟩ := take_alone l t (fun q hq => h q (List.mem_cons_of_mem _ hq))
    obtain ⟨a, ha⟩ := List.length_eq_one_iff.1 (h p (List.mem_cons_self ..))
    rw [List.take_succ_cons, List.flatMap_cons, i1, List.flatMap_cons, ha, List.length_append, i2, List.length_cons]
    refine ⟨by simp, by simp; omega⟩
theorem single_one (zs : List Int) : ∀ p ∈ singleP zs, p.2.length = 1 := by
  intro p hp
  obtain ⟨s, _, _, rfl⟩ := single_alone zs p hp
  rfl
theorem syms_length (zs : List Int) : (symsP zs).length = (singleP zs).length := (take_alone _ 0 (single_one zs)).2
theorem freq_length (zs : List Int) : (freqP zs).length = (singleP zs).length := List.length_map _
theorem freq_order (zs : List Int) : (freqP zs).Pairwise (· ≤ ·) := by
  unfold freqP
  rw [List.pairwise_map]
  refine (single_order zs).imp ?_
  intro a b h
  simpa [ltP] using h
theorem level_freq (zs : List Int) (k : Nat) : (levelN (freqP zs) k).length = (levelP (singleP zs) k).length := by
  unfold freqP
  rw [← level_map (single_order zs), List.length_map]
/-- How many are taken at each level. -/
def takesP (most : Nat) (zs : List Int) : List Nat := profN (freqP zs) (most - 1) (takeN (singleP zs).length)
theorem chosen_takes {most : Nat} {zs : List Int} (hfit : takeN (singleP zs).length ≤ (levelP (singleP zs) (most - 1)).length) : (chosenP most zs).Perm ((takesP most zs).flatMap fun t => (symsP zs).take t) := by
  have h := chosen_perm (single_order zs) (most - 1) _ hfit
  have e : (fun t => ((singleP zs).take t).flatMap (·.2)) = fun t => (symsP zs).take t := by
    funext t
    exact (take_alone _ t (single_one zs)).1
  rw [e] at h
  exact h
theorem count_take {ss : List Nat} (hd : ss.Nodup) {r : Nat} (hr : r < ss.length) (t : Nat) : (ss.take t).count ss[r] = if r < t then 1 else 0 := by
  split
  · rename_i h
    have hm : ss[r] ∈ ss.take t := List.mem_take_iff_getElem.2 ⟨r, by omega, rfl⟩
    rw [(hd.sublist (List.take_sublist ..)).count, if_pos hm]
  · rename_i h
    rw [List.count_eq_zero]
    intro hm
    obtain ⟨i, hi, he⟩ := List.mem_take_iff_getElem.1 hm
    have := (List.getElem_inj hd).1 he
    omega
theorem count_takes {ss : List Nat} (hd : ss.Nodup) {r : Nat} (hr : r < ss.length) : ∀ T : List Nat, (T.flatMap fun t => ss.take t).count ss[r] = lenAt T r
  | [] => by simp [lenAt]
  | t :: T => by
    rw [List.flatMap_cons, List.count_append, count_takes hd hr T, count_take hd hr t]
    unfold lenAt
    rw [List.countP_cons]
    simp only [decide_eq_true_eq]
    omega
/-- The length of the symbol of rank r. -/
theorem lens_rank {most : Nat} {zs : List Int} (hfit : takeN (singleP zs).length ≤ (levelP (singleP zs) (most - 1)).length) {r : Nat} (hr : r < (symsP zs).length) : (lensP most zs).getD (symsP zs)[r] 0 = lenAt (takesP most zs) r := by
  have hs := (mem_syms.1 (List.getElem_mem hr)).1
  rw [lensP_eq, List.getD_eq_getElem?_getD, counts_at _ hs, Option.getD_some, (chosen_takes hfit).count_eq, count_takes (syms_nodup zs) hr]
theorem lens_none {most : Nat} {zs : List Int} {s : Nat} (hs : s < zs.length) (h0 : ¬ 0 < zs.getD s 0) : (lensP most zs).getD s 0 = 0 := by
  rw [lensP_eq, List.getD_eq_getElem?_getD, counts_at _ hs, Option.getD_some, List.count_eq_zero]
  intro hm
  unfold chosenP at hm
  obtain ⟨p, hp, hx⟩ := List.mem_flatMap.1 hm
  have := level_all (Q := fun p => ∀ x ∈ p.2, 0 < zs.getD x 0) (fun a b ha hb x hx => by
    rcases List.mem_append.1 hx with h | h
    · exact ha x h
    · exact hb x h) (fun p hp x hx => by
      obtain ⟨i, _, hi, rfl⟩ := single_alone zs p hp
      rw [List.mem_singleton.1 hx]; exact hi) (most - 1) p (List.mem_of_mem_take hp) s hx
  exact h0 this
theorem lensP_length (most : Nat) (zs : List Int) : (lensP most zs).length = zs.length := by simp [lensP]
theorem freq_at (zs : List Int) {r : Nat} (hr : r < (symsP zs).length) (hr' : r < (freqP zs).length) : ((freqP zs)[r] : Int) = zs.getD (symsP zs)[r] 0 := by
  have hr2 : r < (singleP zs).length := by rw [← syms_length]; exact hr
  obtain ⟨s, h1, h2, h3⟩ := single_alone zs _ (List.getElem_mem hr2)
  have e1 : (freqP zs)[r] = (singleP zs)[r].1 := by simp [freqP]
  have e2 : (symsP zs)[r] = s := by
    have ht := (take_alone _ (r + 1) (single_one zs)).1
    have ht0 := (take_alone _ r (single_one zs)).1
    have hl := congrArg List.getLast? ht
    rw [show (singleP zs).flatMap (·.2) = symsP zs from rfl] at hl ht
    rw [List.take_succ_eq_append_getElem hr2, List.flatMap_append, h3, List.take_succ_eq_append_getElem hr, show List.flatMap (fun p : PC => p.2) [((zs.getD s 0).toNat, [s])] = [s] from rfl, List.getLast?_concat, List.getLast?_concat] at hl
    exact (Option.some.inj hl).symm
  rw [e1, e2, h3]
  simp only
  omega

theorem perm_sum {l1 l2 : List Int} (h : l1.Perm l2) : l1.sum = l2.sum := by
  induction h with
  | nil => rfl
  | cons a _ ih => rw [List.sum_cons, List.sum_cons, ih]
  | swap a b l => simp only [List.sum_cons]; omega
  | trans _ _ i1 i2 => rw [i1, i2]
end Go.Proofs.Ythgidcfgelpkhaa
