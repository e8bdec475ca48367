/- Tries: sons and counts; no program in sight. -/
import Derived.Test.YtdeeeechdlcdbaaGreatTrP
set_option linter.unusedVariables false
namespace Go.Proofs.YtdeeeechdlcdbaaGreat.TrQ
open Go.Proofs.YtdeeeechdlcdbaaGreat.Base Go.Proofs.YtdeeeechdlcdbaaGreat.TrP
/-- The bytes by which there are sons, in order. -/
def sonsL (f : Int → Option Nat) : List Int := ((List.range 256).map fun (n : Nat) => (n : Int)).filter fun c => (f c).isSome
theorem bytes_nodup : ((List.range 256).map fun (n : Nat) => (n : Int)).Nodup := by
  refine List.Pairwise.map _ (fun a b h => ?_) (List.nodup_range (n := 256))
  omega
theorem mem_bytes {c : Int} : c ∈ ((List.range 256).map fun (n : Nat) => (n : Int)) ↔ 0 ≤ c ∧ c ≤ 255 := by
  rw [List.mem_map]
  constructor
  · rintro ⟨n, hn, rfl⟩
    rw [List.mem_range] at hn; omega
  · intro h
    exact ⟨c.toNat, List.mem_range.2 (by omega), by omega⟩
theorem mem_sonsL {f : Int → Option Nat} {c : Int} : c ∈ sonsL f ↔ (0 ≤ c ∧ c ≤ 255) ∧ (f c).isSome = true := by
  unfold sonsL
  rw [List.mem_filter, mem_bytes]
theorem sonsL_none : sonsL (fun _ => none) = [] := by
  unfold sonsL
  simp
theorem countP_one {c : Int} {p q : Int → Bool} (hp : p c = false) (hq : q c = true) (h : ∀ d, d ≠ c → q d = p d) : ∀ l : List Int, l.Nodup → c ∈ l → l.countP q = l.countP p + 1
  | [], _, hm => by cases hm
  | d :: l, hn, hm => by
    rw [List.nodup_cons] at hn
    rw [List.countP_cons, List.countP_cons]
    by_cases hd : d = c
    · subst hd
      have : l.countP q = l.countP p := List.countP_congr (fun x hx => by rw [h x (fun e => hn.1 (e ▸ hx))])
      rw [this, hp, hq]; simp
    · have hm2 : c ∈ l := by
        rcases List.mem_cons.1 hm with e | e
        · exact absurd e.symm hd
        · exact e
      rw [countP_one hp hq h l hn.2 hm2, h d hd]; omega
theorem sonsL_set {f : Int → Option Nat} {c : Int} (hc : 0 ≤ c ∧ c ≤ 255) (hf : f c = none) (x : Nat) : (sonsL (fun d => if d = c then some x else f d)).length = (sonsL f).length + 1 := by
  unfold sonsL
  rw [← List.countP_eq_length_filter, ← List.countP_eq_length_filter]
  refine countP_one (c := c) (by simp [hf]) (by simp) (fun d hd => by simp [hd]) _ bytes_nodup (mem_bytes.2 hc)
theorem sonsL_len (f : Int → Option Nat) : (sonsL f).length ≤ 256 := by
  unfold sonsL
  refine Nat.le_trans (List.length_filter_le _ _) ?_
  simp
/-- How many sons all nodes have. -/
def cnt (S : List Pn) : Nat := (S.map fun n => (sonsL n.sons).length).sum
/-- How many nodes are phrases. -/
def wcnt (S : List Pn) : Nat := (S.map fun n => if 0 ≤ n.word then 1 else 0).sum
theorem sum_modify (g : Pn → Nat) (f : Pn → Pn) (d : Nat) : ∀ (S : List Pn) (i : Nat), i < S.length → g (f (S.getD i noPn)) = g (S.getD i noPn) + d → ((S.modify i f).map g).sum = (S.map g).sum + d
  | [], i, hi, _ => by simp at hi
  | n :: S, 0, _, h => by
    simp only [List.getD_cons_zero] at h
    simp only [List.modify_zero_cons, List.map_cons, List.sum_cons, h]; omega
  | n :: S, i + 1, hi, h => by
    simp only [List.getD_cons_succ] at h
    simp only [List.modify_succ_cons, List.map_cons, List.sum_cons]
    rw [sum_modify g f d S i (by simpa using hi) h]; omega
/-- Sons lie behind their fathers. -/
def Fwd (S : List Pn) : Prop := ∀ i, i < S.length → ∀ c x, (S.getD i noPn).sons c = some x → i < x
structure Even (S : List Pn) : Prop where
  cnt : S.length = cnt S + 1
  fwd : Fwd S
theorem even_step {T : List Pn} {a : Nat} {s : ByteArray} {k : Nat} (h : Even T) (ha : a < T.length) : Even (TrP.step (T, a) s k).1 ∧ wcnt (TrP.step (T, a) s k).1 = wcnt T := by
  unfold TrP.step
  simp only
  split
  · exact ⟨h, rfl⟩
  · rename_i hx
    have hg : (T ++ [newPn s k]).getD a noPn = T.getD a noPn := getD_app _ _ _ ha
    have hl : a < (T ++ [newPn s k]).length := by simp; omega
    refine ⟨⟨?_, ?_⟩, ?_⟩
    · have e := sum_modify (fun n => (sonsL n.sons).length) (setSon (TrP.byteOf s k) T.length) 1 (T ++ [newPn s k]) a hl (by
        rw [hg]
        exact sonsL_set (TrP.byteOf_range s k) hx T.length)
      have e2 : ((T ++ [newPn s k]).map fun n => (sonsL n.sons).length).sum = cnt T := by
        rw [List.map_append, List.sum_append]
        show cnt T + (List.map (fun n : Pn => (sonsL n.sons).length) [newPn s k]).sum = cnt T
        have : (sonsL (newPn s k).sons).length = 0 := by
          show (sonsL (fun _ => none)).length = 0
          rw [sonsL_none]; rfl
        simp [this]
      show ((T ++ [newPn s k]).modify a (setSon (TrP.byteOf s k) T.length)).length = (((T ++ [newPn s k]).modify a (setSon (TrP.byteOf s k) T.length)).map fun n => (sonsL n.sons).length).sum + 1
      rw [e, e2]
      have := h.cnt
      simp; omega
    · intro i hi c x hc
      rw [List.length_modify, List.length_append, List.length_singleton] at hi
      rw [getD_mod _ _ _ _ (by simp; omega)] at hc
      rcases Nat.lt_or_ge i T.length with hi2 | hi2
      · rw [getD_app _ _ _ hi2] at hc
        split at hc
        · simp only [setSon] at hc
          split at hc
          · injection hc with hc; omega
          · exact h.fwd i hi2 c x hc
        · exact h.fwd i hi2 c x hc
      · have : i = T.length := by omega
        subst this
        rw [getD_last, if_neg (by omega)] at hc
        cases hc
    · have e := sum_modify (fun n => if 0 ≤ n.word then 1 else 0) (setSon (TrP.byteOf s k) T.length) 0 (T ++ [newPn s k]) a hl rfl
      show (((T ++ [newPn s k]).modify a (setSon (TrP.byteOf s k) T.length)).map fun n => if 0 ≤ n.word then 1 else 0).sum = wcnt T
      rw [e, List.map_append, List.sum_append]
      show wcnt T + (List.map (fun n : Pn => if 0 ≤ n.word then 1 else 0) [newPn s k]).sum + 0 = wcnt T
      simp [newPn]
theorem even_walk {zs : List ByteArray} {id : Nat} {S : List Pn} (hS : TrP.Good zs id S) (h : Even S) (s : ByteArray) : ∀ k, k ≤ s.size → Even (walkS S s k).1 ∧ wcnt (walkS S s k).1 = wcnt S
  | 0, _ => ⟨h, rfl⟩
  | k + 1, hk => by
    obtain ⟨h1, h2⟩ := even_walk hS h s k (by omega)
    have h3 := (walk_good hS s k (by omega)).2.1
    obtain ⟨h4, h5⟩ := even_step (s := s) (k := k) h1 h3
    exact ⟨h4, h5.trans h2⟩
theorem even_add {zs : List ByteArray} {k : Nat} {S : List Pn} (hS : TrP.Good zs k S) (h : Even S) (s : ByteArray) (hs : zs.getD k ByteArray.empty = s) (hne : ∀ j, j < k → zs.getD j ByteArray.empty ≠ s) : Even (addS S s k) ∧ wcnt (addS S s k) = wcnt S + 1 := by
  obtain ⟨h1, h2, h3, h4, h5⟩ := walk_good hS s s.size (Nat.le_refl _)
  obtain ⟨e1, e2⟩ := even_walk hS h s s.size (Nat.le_refl _)
  have hfull : s.extract 0 s.size = s := by
    apply data_inj
    rw [ext_list, List.drop_zero, Nat.sub_zero, List.take_of_length_le (by rw [← size_list]; exact Nat.le_refl _)]
  rw [hfull] at h3
  unfold addS
  generalize walkS S s s.size = st at h1 h2 h3 e1 e2
  obtain ⟨T, a⟩ := st
  simp only at h1 h2 h3 e1 e2 ⊢
  have hw : (T.getD a noPn).word = -1 := by
    rcases h1.word a h2 with hw | ⟨j, hj, _, hj2⟩
    · exact hw
    · exact absurd (hj2.symm.trans h3) (hne j hj)
  refine ⟨⟨?_, ?_⟩, ?_⟩
  · have e := sum_modify (fun n => (sonsL n.sons).length) (setWord k) 0 T a h2 rfl
    show (T.modify a (setWord k)).length = ((T.modify a (setWord k)).map fun n => (sonsL n.sons).length).sum + 1
    rw [e]
    have := e1.cnt
    unfold cnt at this
    simp; omega
  · intro i hi c x hc
    rw [List.length_modify] at hi
    rw [getD_mod _ _ _ _ hi] at hc
    split at hc
    · exact e1.fwd i hi c x hc
    · exact e1.fwd i hi c x hc
  · have e := sum_modify (fun n => if 0 ≤ n.word then 1 else 0) (setWord k) 1 T a h2 (by
      show (if 0 ≤ ((k : Nat) : Int) then 1 else 0) = (if 0 ≤ (T.getD a noPn).word then 1 else 0) + 1
      rw [hw]; simp)
    show ((T.modify a (setWord k)).map fun n => if 0 ≤ n.word then 1 else 0).sum = wcnt S + 1
    rw [e, ← e2]; rfl
theorem even_build (zs : List ByteArray) (hd : ∀ j k, j < k → k < zs.length → zs.getD j ByteArray.empty ≠ zs.getD k ByteArray.empty) : ∀ k, k ≤ zs.length → Even (build zs k) ∧ wcnt (build zs k) = k
  | 0, _ => by
    refine ⟨⟨?_, ?_⟩, ?_⟩
    · show 1 = ([noPn].map fun n => (sonsL n.sons).length).sum + 1
      have : (sonsL noPn.sons).length = 0 := by
        show (sonsL (fun _ => none)).length = 0
        rw [sonsL_none]; rfl
      simp [this]
    · intro i hi c x hc
      have : i = 0 := by simp [build] at hi; omega
      subst this; cases hc
    · show ([noPn].map fun n => if 0 ≤ n.word then 1 else 0).sum = 0
      simp [noPn]
  | k + 1, hk => by
    obtain ⟨h1, h2⟩ := even_build zs hd k (by omega)
    obtain ⟨h3, h4⟩ := even_add (build_good zs k) h1 (zs.getD k ByteArray.empty) rfl (fun j hj => hd j k hj (by omega))
    exact ⟨h3, by show wcnt (addS (build zs k) (zs.getD k ByteArray.empty) k) = k + 1; rw [h4, h2]⟩
end Go.Proofs.YtdeeeechdlcdbaaGreat.TrQ
