/- Hits counted, in plain Lean: by ends as many as by starts. -/
import Derived.Test.YtdeeeechdlcdbaaGreatScA
import Derived.Test.YtdeeeechdlcdbaaGreatPhP
set_option linter.unusedVariables false
set_option linter.unusedSimpArgs false
namespace Go.Proofs.YtdeeeechdlcdbaaGreat.ScN
open Go Go.RowKit Go.Proofs.YtdeeeechdlcdbaaGreat.Base Go.Proofs.YtdeeeechdlcdbaaGreat.DiA Go.Proofs.YtdeeeechdlcdbaaGreat.TrP Go.Proofs.YtdeeeechdlcdbaaGreat.LkP Go.Proofs.YtdeeeechdlcdbaaGreat.ScP Go.Proofs.YtdeeeechdlcdbaaGreat.ScF
/-- Phrase k. -/
def zk (zs : List ByteArray) (k : Nat) : List UInt8 := (zs.getD k ByteArray.empty).data.toList
theorem ends_mem {zs : List ByteArray} {s : List UInt8} {k : Nat} : ∀ m, m ≤ s.length → k ∈ ends zs s m → k < zs.length ∧ zk zs k <:+ s ∧ 1 ≤ (zk zs k).length ∧ (zk zs k).length ≤ m
  | 0, _, h => by cases h
  | m + 1, hm, h => by
    cases hf : findL zs (lastN s (m + 1)) with
    | some j =>
      rw [ends_yes hf] at h
      rcases List.mem_cons.1 h with rfl | h
      · obtain ⟨h1, h2⟩ := findL_some hf
        have h3 : zk zs k = lastN s (m + 1) := h2
        rw [h3, lastN_length hm]
        exact ⟨h1, lastN_suf _ _, by omega, Nat.le_refl _⟩
      · obtain ⟨a, b, c, d⟩ := ends_mem m (by omega) h
        exact ⟨a, b, c, by omega⟩
    | none =>
      rw [ends_no hf] at h
      obtain ⟨a, b, c, d⟩ := ends_mem m (by omega) h
      exact ⟨a, b, c, by omega⟩
theorem mem_ends {zs : List ByteArray} {s : List UInt8} {k : Nat} (hd : ∀ i j, i < zs.length → j < zs.length → zk zs i = zk zs j → i = j) (hk : k < zs.length) (hs : zk zs k <:+ s) (h1 : 1 ≤ (zk zs k).length) : ∀ m, m ≤ s.length → (zk zs k).length ≤ m → k ∈ ends zs s m
  | 0, _, h => by omega
  | m + 1, hm, h => by
    rcases Nat.lt_or_ge m (zk zs k).length with h2 | h2
    · have hl : (zk zs k).length = m + 1 := by omega
      have he := lastN_of hs
      rw [hl] at he
      cases hf : findL zs (lastN s (m + 1)) with
      | some j =>
        rw [ends_yes hf]
        obtain ⟨h3, h4⟩ := findL_some hf
        have h5 : zk zs j = zk zs k := by rw [he]; exact h4
        rw [hd j k h3 hk h5]
        exact List.mem_cons_self ..
      | none => exact absurd he (findL_none hf k hk)
    · have := mem_ends hd hk hs h1 m (by omega) h2
      cases hf : findL zs (lastN s (m + 1)) with
      | some j => rw [ends_yes hf]; exact List.mem_cons_of_mem _ this
      | none => rw [ends_no hf]; exact this
theorem ends_order {zs : List ByteArray} {s : List UInt8} : ∀ m, m ≤ s.length → (ends zs s m).Pairwise fun i j => (zk zs j).length < (zk zs i).length
  | 0, _ => List.Pairwise.nil
  | m + 1, hm => by
    have ih := ends_order (zs := zs) m (by omega : m ≤ s.length)
    cases hf : findL zs (lastN s (m + 1)) with
    | some k =>
      rw [ends_yes hf]
      refine List.pairwise_cons.2 ⟨fun j hj => ?_, ih⟩
      obtain ⟨_, h2⟩ := findL_some hf
      have h3 : zk zs k = lastN s (m + 1) := h2
      rw [h3, lastN_length hm]
      have := ends_mem m (by omega) hj
      omega
    | none => rw [ends_no hf]; exact ih
/-- One hit ahead of another. -/
def Ah (zs : List ByteArray) (x y : Nat × Nat) : Prop := x.1 < y.1 ∨ (x.1 = y.1 ∧ (zk zs y.2).length < (zk zs x.2).length)
/-- All hits of B. -/
def hitsL (zs : List ByteArray) (B : List UInt8) : List (Nat × Nat) := feedU zs [] 0 B B.length
theorem take_len {B : List UInt8} {j : Nat} (h : j < B.length) : ([] ++ B.take (j + 1)).length = j + 1 := by rw [List.nil_append, List.length_take]; omega
theorem hits_order (zs : List ByteArray) (B : List UInt8) : (hitsL zs B).Pairwise (Ah zs) := by
  unfold hitsL feedU
  rw [List.pairwise_flatMap]
  refine ⟨fun j hj => ?_, ?_⟩
  · rw [List.pairwise_map]
    exact (ends_order _ (Nat.le_refl _)).imp fun h => .inr ⟨rfl, h⟩
  · refine (List.pairwise_lt_range (n := B.length)).imp fun {a b} hab => ?_
    intro x hx y hy
    obtain ⟨k, _, rfl⟩ := List.mem_map.1 hx
    obtain ⟨k', _, rfl⟩ := List.mem_map.1 hy
    exact .inl (by show 0 + (a + 1) < 0 + (b + 1); omega)
theorem hits_mem {zs : List ByteArray} {B : List UInt8} {x : Nat × Nat} (h : x ∈ hitsL zs B) : x.2 < zs.length ∧ 1 ≤ (zk zs x.2).length ∧ (zk zs x.2).length ≤ x.1 ∧ x.1 ≤ B.length ∧ (B.drop (x.1 - (zk zs x.2).length)).take (zk zs x.2).length = zk zs x.2 := by
  unfold hitsL feedU at h
  obtain ⟨j, hj, h⟩ := List.mem_flatMap.1 h
  obtain ⟨k, hk, rfl⟩ := List.mem_map.1 h
  have hjB := List.mem_range.1 hj
  obtain ⟨a, b, c, d⟩ := ends_mem _ (Nat.le_refl _) hk
  rw [take_len hjB] at d
  rw [List.nil_append] at b
  simp only [Nat.zero_add]
  refine ⟨a, c, d, hjB, ?_⟩
  have e := List.suffix_iff_eq_drop.1 b
  rw [List.length_take, Nat.min_eq_left (by omega), List.drop_take] at e
  rw [show j + 1 - (j + 1 - (zk zs k).length) = (zk zs k).length by omega] at e
  exact e.symm
theorem mem_hits {zs : List ByteArray} {B : List UInt8} (hd : ∀ i j, i < zs.length → j < zs.length → zk zs i = zk zs j → i = j) {at_ k : Nat} (hk : k < zs.length) (h1 : 1 ≤ (zk zs k).length) (hl : at_ + (zk zs k).length ≤ B.length) (he : (B.drop at_).take (zk zs k).length = zk zs k) : (at_ + (zk zs k).length, k) ∈ hitsL zs B := by
  unfold hitsL feedU
  refine List.mem_flatMap.2 ⟨at_ + (zk zs k).length - 1, List.mem_range.2 (by omega), List.mem_map.2 ⟨k, ?_, ?_⟩⟩
  · refine mem_ends hd hk ?_ h1 _ (Nat.le_refl _) ?_
    · rw [List.nil_append, show at_ + (zk zs k).length - 1 + 1 = at_ + (zk zs k).length by omega, List.take_add, he]
      exact List.suffix_append _ _
    · rw [take_len (by omega)]; omega
  · rw [show 0 + (at_ + (zk zs k).length - 1 + 1) = at_ + (zk zs k).length by omega]
/-- Phrase k stands at a place. -/
def stands (zs : List ByteArray) (B : List UInt8) (at_ k : Nat) : Bool := decide (at_ + (zk zs k).length ≤ B.length) && ((B.drop at_).take (zk zs k).length == zk zs k)
/-- All that stand at the first places. -/
def startL (zs : List ByteArray) (B : List UInt8) (i : Nat) : List (Nat × Nat) := (List.range i).flatMap fun a => ((List.range zs.length).filter (stands zs B a)).map fun k => (a, k)
theorem start_nodup (zs : List ByteArray) (B : List UInt8) (i : Nat) : (startL zs B i).Nodup := by
  unfold startL List.Nodup
  rw [List.pairwise_flatMap]
  refine ⟨fun a _ => ?_, ?_⟩
  · rw [List.pairwise_map]
    refine ((List.nodup_range (n := zs.length)).filter _).imp fun h e => h (by injection e)
  · refine (List.pairwise_lt_range (n := i)).imp fun {a b} hab => ?_
    intro x hx y hy e
    obtain ⟨k, _, rfl⟩ := List.mem_map.1 hx
    obtain ⟨k', _, rfl⟩ := List.mem_map.1 hy
    injection e with e1 e2
    omega
theorem count_same {zs : List ByteArray} {B : List UInt8} (hd : ∀ i j, i < zs.length → j < zs.length → zk zs i = zk zs j → i = j) (hp : ∀ k, k < zs.length → 1 ≤ (zk zs k).length) : (startL zs B B.length).length = (hitsL zs B).length := by
  have hnd : ((hitsL zs B).map fun x => (x.1 - (zk zs x.2).length, x.2)).Nodup := by
    unfold List.Nodup
    rw [List.pairwise_map]
    refine (hits_order zs B).imp_of_mem fun {x y} hx hy h e => ?_
    have h1 := hits_mem hx
    have h2 := hits_mem hy
    injection e with e1 e2
    rw [e2] at h1 e1
    rcases h with h | ⟨_, h⟩
    · omega
    · rw [e2] at h; omega
  have hperm : (startL zs B B.length).Perm ((hitsL zs B).map fun x => (x.1 - (zk zs x.2).length, x.2)) := by
    rw [List.perm_ext_iff_of_nodup (start_nodup _ _ _) hnd]
    rintro ⟨a, k⟩
    constructor
    · intro h
      unfold startL at h
      obtain ⟨a', ha, h⟩ := List.mem_flatMap.1 h
      obtain ⟨k', hk, e⟩ := List.mem_map.1 h
      injection e with e1 e2
      subst e1 e2
      obtain ⟨hk1, hk2⟩ := List.mem_filter.1 hk
      unfold stands at hk2
      rw [Bool.and_eq_true, decide_eq_true_eq, beq_iff_eq] at hk2
      have hkl := List.mem_range.1 hk1
      refine List.mem_map.2 ⟨_, mem_hits hd hkl (hp _ hkl) hk2.1 hk2.2, ?_⟩
      simp
    · intro h
      obtain ⟨x, hx, e⟩ := List.mem_map.1 h
      injection e with e1 e2
      obtain ⟨h1, h2, h3, h4, h5⟩ := hits_mem hx
      subst e2
      unfold startL
      refine List.mem_flatMap.2 ⟨a, List.mem_range.2 (by omega), List.mem_map.2 ⟨x.2, List.mem_filter.2 ⟨List.mem_range.2 h1, ?_⟩, rfl⟩⟩
      unfold stands
      rw [Bool.and_eq_true, decide_eq_true_eq, beq_iff_eq, ← e1]
      exact ⟨by omega, h5⟩
  rw [hperm.length_eq, List.length_map]
theorem start_succ (zs : List ByteArray) (B : List UInt8) (i : Nat) : (startL zs B (i + 1)).length = (startL zs B i).length + ((List.range zs.length).filter (stands zs B i)).length := by
  unfold startL
  rw [List.range_succ, List.flatMap_append, List.length_append]
  simp
theorem filt_succ (f : Nat → Bool) (q : Nat) : ((List.range (q + 1)).filter f).length = ((List.range q).filter f).length + if f q then 1 else 0 := by
  rw [List.range_succ, List.filter_append, List.length_append]
  cases hf : f q <;> simp [hf]
end Go.Proofs.YtdeeeechdlcdbaaGreat.ScN
