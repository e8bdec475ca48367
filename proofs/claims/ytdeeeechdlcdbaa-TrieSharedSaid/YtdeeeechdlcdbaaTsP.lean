/- Tries: two phrases that begin alike; no program in sight. -/
import Derived.Test.YtdeeeechdlcdbaaTnP
set_option linter.unusedVariables false
namespace Go.Proofs.Ytdeeeechdlcdbaa.TsP
open Go Go.RowKit Go.Proofs.Ytdeeeechdlcdbaa.Base Go.Proofs.Ytdeeeechdlcdbaa.DiA Go.Proofs.Ytdeeeechdlcdbaa.DiB Go.Proofs.Ytdeeeechdlcdbaa.TrP Go.Proofs.Ytdeeeechdlcdbaa.TrQ Go.Proofs.Ytdeeeechdlcdbaa.TcP
/-- The sons of a node, and its text, are given. -/
def At (S : List Pn) (i : Nat) (t : ByteArray) (f : Int → Option Nat) : Prop := (S.getD i noPn).text = t ∧ (S.getD i noPn).sons = f
def none1 : Int → Option Nat := fun _ => none
def one1 (c : Int) (x : Nat) : Int → Option Nat := fun d => if d = c then some x else none
theorem path (s : ByteArray) : ∀ k, k ≤ s.size → ∃ T, walkS [noPn] s k = (T, k) ∧ T.length = k + 1 ∧ (∀ i, i < k → At T i (s.extract 0 i) (one1 (TrP.byteOf s i) (i + 1))) ∧ At T k (s.extract 0 k) none1
  | 0, _ => by
    refine ⟨[noPn], rfl, rfl, fun i hi => by omega, ?_, rfl⟩
    show (⟨#[]⟩ : ByteArray) = s.extract 0 0
    apply data_inj
    rw [ext_list]; simp
  | k + 1, hk => by
    obtain ⟨T, h1, h2, h3, h4, h5⟩ := path s k (by omega)
    refine ⟨(T ++ [newPn s k]).modify k (setSon (TrP.byteOf s k) T.length), ?_, by simp; omega, fun i hi => ?_, ?_⟩
    · show TrP.step (walkS [noPn] s k) s k = _
      rw [h1]
      unfold TrP.step
      simp only
      rw [h5]
      simp only [none1]
      rw [h2]
    · have hi2 : i < (T ++ [newPn s k]).length := by simp; omega
      have hi3 : i < T.length := by omega
      rcases Nat.lt_or_ge i k with h | h
      · obtain ⟨a1, a2⟩ := h3 i h
        constructor
        · rw [getD_mod _ _ _ _ hi2, if_neg (by omega), getD_app _ _ _ hi3]; exact a1
        · rw [getD_mod _ _ _ _ hi2, if_neg (by omega), getD_app _ _ _ hi3]; exact a2
      · obtain rfl : i = k := by omega
        constructor
        · rw [getD_mod _ _ _ _ hi2, if_pos rfl, getD_app _ _ _ hi3]; exact h4
        · rw [getD_mod _ _ _ _ hi2, if_pos rfl, getD_app _ _ _ hi3]
          show (fun d => if d = TrP.byteOf s i then some T.length else (T.getD i noPn).sons d) = _
          rw [h5, h2]
          rfl
    · have hl : k + 1 = T.length := h2.symm
      have hi2 : T.length < (T ++ [newPn s k]).length := by simp
      rw [hl]
      constructor
      · rw [getD_mod _ _ _ _ hi2, if_neg (by omega), getD_last, ← hl]; rfl
      · rw [getD_mod _ _ _ _ hi2, if_neg (by omega), getD_last]; rfl
theorem follow {S : List Pn} {s r : ByteArray} {n : Nat} (hS : ∀ i, i < n → ((S.getD i noPn).sons (TrP.byteOf s i)) = some (i + 1)) (hb : ∀ i, i < n → TrP.byteOf r i = TrP.byteOf s i) : ∀ k, k ≤ n → walkS S r k = (S, k)
  | 0, _ => rfl
  | k + 1, hk => by
    show TrP.step (walkS S r k) r k = _
    rw [follow hS hb k (by omega)]
    unfold TrP.step
    simp only
    rw [hb k (by omega), hS k (by omega)]
/-- Where the way leaves the tree: one more son there, then a new path. -/
theorem leave {S : List Pn} {r t : ByteArray} {n : Nat} {f : Int → Option Nat} (hw : walkS S r n = (S, n)) (hn : n < S.length) (ha : At S n t f) (hf : f (TrP.byteOf r n) = none) : ∀ k, n < k → k ≤ r.size →
    ∃ T, walkS S r k = (T, T.length - 1) ∧ T.length = S.length + (k - n) ∧ At T n t (fun d => if d = TrP.byteOf r n then some S.length else f d) ∧ (T.getD (T.length - 1) noPn).sons = none1
  | 0, h, _ => by omega
  | k + 1, h, hk => by
    obtain ⟨ha1, ha2⟩ := ha
    rcases Nat.lt_or_ge n k with h1 | h1
    · obtain ⟨T, h2, h3, ⟨h4, h5⟩, h6⟩ := leave hw hn ⟨ha1, ha2⟩ hf k h1 (by omega)
      have hl : T.length - 1 < T.length := by omega
      have hi2 : n < (T ++ [newPn r k]).length := by simp; omega
      have hi3 : T.length < (T ++ [newPn r k]).length := by simp
      refine ⟨(T ++ [newPn r k]).modify (T.length - 1) (setSon (TrP.byteOf r k) T.length), ?_, by simp; omega, ?_, ?_⟩
      · show TrP.step (walkS S r k) r k = _
        rw [h2]
        unfold TrP.step
        simp only
        rw [h6]
        simp only [none1]
        rw [List.length_modify, List.length_append, List.length_singleton, Nat.add_sub_cancel]
      · constructor
        · rw [getD_mod _ _ _ _ hi2, if_neg (by omega), getD_app _ _ _ (by omega)]; exact h4
        · rw [getD_mod _ _ _ _ hi2, if_neg (by omega), getD_app _ _ _ (by omega)]; exact h5
      · rw [List.length_modify, List.length_append, List.length_singleton, Nat.add_sub_cancel, getD_mod _ _ _ _ hi3, if_neg (by omega), getD_last]; rfl
    · obtain rfl : k = n := by omega
      have hi2 : k < (S ++ [newPn r k]).length := by simp; omega
      have hi3 : S.length < (S ++ [newPn r k]).length := by simp
      refine ⟨(S ++ [newPn r k]).modify k (setSon (TrP.byteOf r k) S.length), ?_, by first | (simp; done) | (simp; omega), ?_, ?_⟩
      · show TrP.step (walkS S r k) r k = _
        rw [hw]
        unfold TrP.step
        simp only
        rw [ha2, hf]
        simp only
        rw [List.length_modify, List.length_append, List.length_singleton, Nat.add_sub_cancel]
      · constructor
        · rw [getD_mod _ _ _ _ hi2, if_pos rfl, getD_app _ _ _ hn]; exact ha1
        · rw [getD_mod _ _ _ _ hi2, if_pos rfl, getD_app _ _ _ hn]
          show (fun d => if d = TrP.byteOf r k then some S.length else (S.getD k noPn).sons d) = _
          rw [ha2]
      · rw [List.length_modify, List.length_append, List.length_singleton, Nat.add_sub_cancel, getD_mod _ _ _ _ hi3, if_neg (by omega), getD_last]; rfl
theorem mod_word (S : List Pn) (i j k : Nat) {t : ByteArray} {f : Int → Option Nat} (hj : j < S.length) (h : At S j t f) : At (S.modify i (setWord k)) j t f := by
  obtain ⟨h1, h2⟩ := h
  constructor
  · rw [getD_mod _ _ _ _ hj]; split <;> exact h1
  · rw [getD_mod _ _ _ _ hj]; split <;> exact h2
theorem byte_app (a b : ByteArray) (i : Nat) (h : i < a.size) : TrP.byteOf (a ++ b) i = TrP.byteOf a i := by
  unfold TrP.byteOf
  rw [app_list, List.getD_eq_getElem?_getD, List.getD_eq_getElem?_getD, List.getElem?_append_left (by rw [← size_list]; exact h)]
theorem byte_app2 (a b : ByteArray) : TrP.byteOf (a ++ b) a.size = TrP.byteOf b 0 := by
  unfold TrP.byteOf
  rw [app_list, List.getD_eq_getElem?_getD, List.getD_eq_getElem?_getD, List.getElem?_append_right (by rw [← size_list]; omega), ← size_list, Nat.sub_self]
theorem ext_app (a b : ByteArray) : (a ++ b).extract 0 a.size = a := by
  apply data_inj
  rw [ext_list, app_list, List.drop_zero, Nat.sub_zero, size_list, List.take_append_of_le_length (Nat.le_refl _), List.take_length]
/-- Two phrases that share just a. -/
theorem shared (a b c : ByteArray) (hb : 0 < b.size) (hc : 0 < c.size) (hbc : TrP.byteOf b 0 ≠ TrP.byteOf c 0) :
    (build [a ++ b, a ++ c] 2).length = 1 + a.size + b.size + c.size ∧ a.size < (build [a ++ b, a ++ c] 2).length ∧ ((build [a ++ b, a ++ c] 2).getD a.size noPn).text = a ∧ (sonsL ((build [a ++ b, a ++ c] 2).getD a.size noPn).sons).length = 2 := by
  have hs1 : (a ++ b).size = a.size + b.size := by rw [ByteArray.size_append]
  have hs2 : (a ++ c).size = a.size + c.size := by rw [ByteArray.size_append]
  obtain ⟨T, p1, p2, p3, p4⟩ := path (a ++ b) (a ++ b).size (Nat.le_refl _)
  have e1 : build [a ++ b, a ++ c] 1 = T.modify (a ++ b).size (setWord ((0 : Nat) : Int)) := by
    show addS [noPn] (a ++ b) 0 = _
    unfold addS
    rw [p1]
  have hl1 : (build [a ++ b, a ++ c] 1).length = a.size + b.size + 1 := by rw [e1, List.length_modify, p2, hs1]
  have q1 : ∀ i, i < a.size + b.size → At (build [a ++ b, a ++ c] 1) i ((a ++ b).extract 0 i) (one1 (TrP.byteOf (a ++ b) i) (i + 1)) := by
    intro i hi
    rw [e1]
    exact mod_word _ _ _ _ (by omega) (p3 i (by omega))
  generalize hS : build [a ++ b, a ++ c] 1 = S at hl1 q1
  have hf : walkS S (a ++ c) a.size = (S, a.size) := by
    refine follow (s := a ++ b) (n := a.size) (fun i hi => ?_) (fun i hi => ?_) a.size (Nat.le_refl _)
    · rw [(q1 i (by omega)).2]; simp [one1]
    · rw [byte_app _ _ _ hi, byte_app _ _ _ hi]
  have hA := q1 a.size (by omega)
  rw [ext_app, byte_app2] at hA
  have hr : TrP.byteOf (a ++ c) a.size = TrP.byteOf c 0 := byte_app2 a c
  obtain ⟨T2, r1, r2, r3, r4⟩ := leave hf (by omega) hA (by rw [hr]; exact if_neg (Ne.symm hbc)) (a ++ c).size (by omega) (Nat.le_refl _)
  have e2 : build [a ++ b, a ++ c] 2 = T2.modify (T2.length - 1) (setWord ((1 : Nat) : Int)) := by
    show addS (build [a ++ b, a ++ c] 1) (a ++ c) 1 = _
    rw [hS]
    unfold addS
    rw [r1]
  have hl2 : (build [a ++ b, a ++ c] 2).length = 1 + a.size + b.size + c.size := by rw [e2, List.length_modify, r2, hl1, hs2]; omega
  have r5 := mod_word T2 (T2.length - 1) a.size 1 (by rw [r2]; omega) r3
  rw [← e2, hr] at r5
  refine ⟨hl2, by rw [hl2]; omega, r5.1, ?_⟩
  rw [r5.2]
  have hb0 := byteOf_range b 0
  have hc0 := byteOf_range c 0
  have s1 : (sonsL (one1 (TrP.byteOf b 0) (a.size + 1))).length = 1 := by
    have := sonsL_set (f := none1) hb0 rfl (a.size + 1)
    have e : sonsL none1 = [] := sonsL_none
    rw [e] at this
    exact this
  have s2 := sonsL_set (f := one1 (TrP.byteOf b 0) (a.size + 1)) hc0 (if_neg (Ne.symm hbc)) S.length
  rw [s1] at s2
  exact s2
theorem shared_ok (a b c : ByteArray) (ha : 0 < a.size) (hb : 0 < b.size) (hc : 0 < c.size) (ha2 : a.size ≤ 13) (hb2 : b.size ≤ 13) (hc2 : c.size ≤ 13) (hbc : TrP.byteOf b 0 ≠ TrP.byteOf c 0) : okD [a ++ b, a ++ c] = true ∧ total [a ++ b, a ++ c] ≤ 100 := by
  have hs1 : (a ++ b).size = a.size + b.size := by rw [ByteArray.size_append]
  have hs2 : (a ++ c).size = a.size + c.size := by rw [ByteArray.size_append]
  have ht1 : total [a ++ b] = a.size + b.size := by simp [total, hs1]
  have ht2 : total [a ++ b, a ++ c] = a.size + b.size + (a.size + c.size) := by simp [total, hs1, hs2]
  have hne : a ++ b ≠ a ++ c := by
    intro e
    have := byte_app2 a b
    rw [e, byte_app2] at this
    exact hbc this.symm
  have hcs : Lib.containsS [a ++ b] (a ++ c) = false := by
    cases h : Lib.containsS [a ++ b] (a ++ c) with
    | false => rfl
    | true =>
      have := (Lib.containsS_iff _ _).1 h
      exact absurd (List.mem_singleton.1 this).symm hne
  have hcs0 : Lib.containsS [] (a ++ b) = false := by
    cases h : Lib.containsS [] (a ++ b) with
    | false => rfl
    | true => have := (Lib.containsS_iff _ _).1 h; cases this
  refine ⟨?_, by omega⟩
  unfold okD
  rw [show [a ++ b, a ++ c].length = 2 from rfl, okUpto_succ, okUpto_succ]
  have g0 : goodAt [a ++ b, a ++ c] 0 = true := by
    unfold goodAt
    simp only [List.getD_cons_zero, List.take_succ_cons, List.take_zero, ht1, hs1, hcs0]
    simp; omega
  have g1 : goodAt [a ++ b, a ++ c] 1 = true := by
    unfold goodAt
    simp only [List.getD_cons_succ, List.getD_cons_zero, List.take_succ_cons, List.take_zero, ht2, hs2, hcs]
    simp; omega
  rw [g0, g1]
  rfl
end Go.Proofs.Ytdeeeechdlcdbaa.TsP
