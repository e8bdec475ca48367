/- Tries, with no program in sight. -/
import Derived.Test.YtdeeeechdlcdbaaGreatBase
set_option linter.unusedVariables false
namespace Go.Proofs.YtdeeeechdlcdbaaGreat.TrP
open Go.Proofs.YtdeeeechdlcdbaaGreat.Base
/-- A node: its text, the phrase that it is (or -1), its sons by bytes. -/
structure Pn where
  text : ByteArray
  word : Int
  sons : Int → Option Nat
def noPn : Pn := ⟨⟨#[]⟩, -1, fun _ => none⟩
def byteOf (s : ByteArray) (i : Nat) : Int := ((s.data.toList.getD i 0).toNat : Int)
def setSon (c : Int) (x : Nat) (n : Pn) : Pn := ⟨n.text, n.word, fun d => if d = c then some x else n.sons d⟩
def setWord (k : Int) (n : Pn) : Pn := ⟨n.text, k, n.sons⟩
/-- A new node. -/
def newPn (s : ByteArray) (i : Nat) : Pn := ⟨s.extract 0 (i + 1), -1, fun _ => none⟩
/-- One byte further. -/
def step (st : List Pn × Nat) (s : ByteArray) (i : Nat) : List Pn × Nat :=
  match (st.1.getD st.2 noPn).sons (byteOf s i) with
  | some x => (st.1, x)
  | none => ((st.1 ++ [newPn s i]).modify st.2 (setSon (byteOf s i) st.1.length), st.1.length)
def walkS (S : List Pn) (s : ByteArray) : Nat → List Pn × Nat
  | 0 => (S, 0)
  | k + 1 => step (walkS S s k) s k
def addS (S : List Pn) (s : ByteArray) (id : Nat) : List Pn := (walkS S s s.size).1.modify (walkS S s s.size).2 (setWord id)
def build (zs : List ByteArray) : Nat → List Pn
  | 0 => [noPn]
  | k + 1 => addS (build zs k) (zs.getD k ByteArray.empty) k

/-- What the nodes are worth at every time: word: of the first k phrases. -/
structure Good (zs : List ByteArray) (k : Nat) (S : List Pn) : Prop where
  pos : 0 < S.length
  root : (S.getD 0 noPn).text = ⟨#[]⟩
  sons : ∀ i, i < S.length → ∀ c x, (S.getD i noPn).sons c = some x → x < S.length ∧ (S.getD x noPn).text.data.toList = (S.getD i noPn).text.data.toList ++ [UInt8.ofNat c.toNat]
  word : ∀ i, i < S.length → (S.getD i noPn).word = -1 ∨ ∃ j, j < k ∧ (S.getD i noPn).word = (j : Int) ∧ (S.getD i noPn).text = zs.getD j ByteArray.empty

theorem getD_mod (S : List Pn) (i j : Nat) (f : Pn → Pn) (hj : j < S.length) : (S.modify i f).getD j noPn = if i = j then f (S.getD j noPn) else S.getD j noPn := by
  rw [List.getD_eq_getElem?_getD, List.getD_eq_getElem?_getD, List.getElem?_modify, List.getElem?_eq_getElem hj]
  by_cases h : i = j
  · simp [h]
  · simp [h]
theorem getD_app (S : List Pn) (n : Pn) (j : Nat) (hj : j < S.length) : (S ++ [n]).getD j noPn = S.getD j noPn := by
  rw [List.getD_eq_getElem?_getD, List.getD_eq_getElem?_getD, List.getElem?_append_left hj]
theorem getD_last (S : List Pn) (n : Pn) : (S ++ [n]).getD S.length noPn = n := by
  rw [List.getD_eq_getElem?_getD]; simp
/-- What one step does. -/
structure Grown (S S' : List Pn) : Prop where
  len : S.length ≤ S'.length
  keep : ∀ i, i < S.length → (S'.getD i noPn).text = (S.getD i noPn).text ∧ (S'.getD i noPn).word = (S.getD i noPn).word
  new : ∀ i, S.length ≤ i → i < S'.length → (S'.getD i noPn).word = -1
theorem Grown.refl (S : List Pn) : Grown S S := ⟨Nat.le_refl _, fun i _ => ⟨rfl, rfl⟩, fun i h1 h2 => by omega⟩
theorem Grown.trans {A B C : List Pn} (h : Grown A B) (k : Grown B C) : Grown A C := by
  refine ⟨Nat.le_trans h.len k.len, fun i hi => ?_, fun i h1 h2 => ?_⟩
  · have := h.len
    exact ⟨(k.keep i (by omega)).1.trans (h.keep i hi).1, (k.keep i (by omega)).2.trans (h.keep i hi).2⟩
  · rcases Nat.lt_or_ge i B.length with h3 | h3
    · exact (k.keep i h3).2.trans (h.new i h1 h3)
    · exact k.new i h3 h2
theorem byteOf_range (s : ByteArray) (i : Nat) : 0 ≤ byteOf s i ∧ byteOf s i ≤ 255 := by
  unfold byteOf
  have := (s.data.toList.getD i 0).toNat_lt
  omega
theorem ext_succ (s : ByteArray) (k : Nat) (h : k < s.size) : (s.extract 0 (k + 1)).data.toList = (s.extract 0 k).data.toList ++ [UInt8.ofNat (byteOf s k).toNat] := by
  rw [ext_list, ext_list, List.drop_zero, Nat.sub_zero, Nat.sub_zero]
  have hl : k < s.data.toList.length := by rw [← size_list]; exact h
  rw [List.take_succ_eq_append_getElem hl]
  congr 2
  unfold byteOf
  rw [List.getD_eq_getElem?_getD, List.getElem?_eq_getElem hl]
  simp
/-- The walk of a phrase: after k bytes one stands at the node of its first k bytes. -/
theorem walk_good {zs : List ByteArray} {id : Nat} {S : List Pn} (hS : Good zs id S) (s : ByteArray) : ∀ k, k ≤ s.size →
    Good zs id (walkS S s k).1 ∧ (walkS S s k).2 < (walkS S s k).1.length ∧ ((walkS S s k).1.getD (walkS S s k).2 noPn).text = s.extract 0 k ∧ Grown S (walkS S s k).1 ∧ (walkS S s k).1.length ≤ S.length + k := by
  intro k
  induction k with
  | zero =>
    intro _
    refine ⟨hS, hS.pos, ?_, Grown.refl _, Nat.le_refl _⟩
    rw [show (walkS S s 0) = (S, 0) from rfl]
    rw [hS.root]
    apply data_inj
    rw [ext_list]; simp
  | succ k ih =>
    intro hk
    obtain ⟨h1, h2, h3, h4, h5⟩ := ih (by omega)
    show Good zs id (step (walkS S s k) s k).1 ∧ (step (walkS S s k) s k).2 < (step (walkS S s k) s k).1.length ∧ ((step (walkS S s k) s k).1.getD (step (walkS S s k) s k).2 noPn).text = s.extract 0 (k + 1) ∧ Grown S (step (walkS S s k) s k).1 ∧ (step (walkS S s k) s k).1.length ≤ S.length + (k + 1)
    generalize walkS S s k = st at h1 h2 h3 h4 h5
    obtain ⟨T, at_⟩ := st
    simp only at h1 h2 h3 h4 h5
    unfold step
    simp only
    have hex := ext_succ s k (by omega)
    split
    · rename_i x hx
      obtain ⟨a1, a2⟩ := h1.sons at_ h2 _ x hx
      refine ⟨h1, a1, ?_, h4, by show T.length ≤ _; omega⟩
      apply data_inj
      rw [a2, h3, hex]
    · rename_i hx
      have hlen : ((T ++ [newPn s k]).modify at_ (setSon (byteOf s k) T.length)).length = T.length + 1 := by simp
      have get : ∀ i, i < T.length → ((T ++ [newPn s k]).modify at_ (setSon (byteOf s k) T.length)).getD i noPn = if at_ = i then setSon (byteOf s k) T.length (T.getD i noPn) else T.getD i noPn := by
        intro i hi
        rw [getD_mod _ _ _ _ (by simp; omega), getD_app _ _ _ hi]
      have glast : ((T ++ [newPn s k]).modify at_ (setSon (byteOf s k) T.length)).getD T.length noPn = newPn s k := by
        rw [getD_mod _ _ _ _ (by simp), if_neg (by omega), getD_last]
      have txt : ∀ i, i < T.length → (((T ++ [newPn s k]).modify at_ (setSon (byteOf s k) T.length)).getD i noPn).text = (T.getD i noPn).text := by
        intro i hi; rw [get i hi]; split <;> rfl
      have wrd : ∀ i, i < T.length → (((T ++ [newPn s k]).modify at_ (setSon (byteOf s k) T.length)).getD i noPn).word = (T.getD i noPn).word := by
        intro i hi; rw [get i hi]; split <;> rfl
      refine ⟨⟨by rw [hlen]; omega, by rw [txt 0 h1.pos]; exact h1.root, fun i hi c x hc => ?_, fun i hi => ?_⟩, by rw [hlen]; omega, ?_, ?_, by rw [hlen]; omega⟩
      · rw [hlen] at hi ⊢
        rcases Nat.lt_or_ge i T.length with hi2 | hi2
        · rw [get i hi2] at hc
          by_cases ha : at_ = i
          · subst ha
            rw [if_pos rfl] at hc
            simp only [setSon] at hc
            by_cases hcc : c = byteOf s k
            · rw [if_pos hcc] at hc
              obtain rfl := Option.some.inj hc
              refine ⟨by omega, ?_⟩
              rw [glast, txt _ h2, h3, hcc]
              exact hex
            · rw [if_neg hcc] at hc
              obtain ⟨b1, b2⟩ := h1.sons _ h2 c x hc
              exact ⟨by omega, by rw [txt x b1, txt _ h2]; exact b2⟩
          · rw [if_neg ha] at hc
            obtain ⟨b1, b2⟩ := h1.sons i hi2 c x hc
            exact ⟨by omega, by rw [txt x b1, txt i hi2]; exact b2⟩
        · have : i = T.length := by omega
          subst this
          rw [glast] at hc
          cases hc
      · rw [hlen] at hi
        rcases Nat.lt_or_ge i T.length with hi2 | hi2
        · rw [wrd i hi2, txt i hi2]; exact h1.word i hi2
        · have : i = T.length := by omega
          subst this
          rw [glast]; exact .inl rfl
      · show (((T ++ [newPn s k]).modify at_ (setSon (byteOf s k) T.length)).getD T.length noPn).text = _; rw [glast]; rfl
      · refine h4.trans ⟨by rw [hlen]; omega, fun i hi => ⟨txt i hi, wrd i hi⟩, fun i a1 a2 => ?_⟩
        rw [hlen] at a2
        have : i = T.length := by omega
        subst this
        rw [glast]; rfl
/-- Behind a phrase. -/
theorem add_good {zs : List ByteArray} {k : Nat} {S : List Pn} (hS : Good zs k S) (s : ByteArray) (hs : zs.getD k ByteArray.empty = s) :
    Good zs (k + 1) (addS S s k) ∧ S.length ≤ (addS S s k).length ∧ (addS S s k).length ≤ S.length + s.size ∧
    (∀ i, i < S.length → ((addS S s k).getD i noPn).text = (S.getD i noPn).text ∧ (((addS S s k).getD i noPn).word = (S.getD i noPn).word ∨ (S.getD i noPn).text = s)) := by
  obtain ⟨h1, h2, h3, h4, h5⟩ := walk_good hS s s.size (Nat.le_refl _)
  have hfull : s.extract 0 s.size = s := by
    apply data_inj
    rw [ext_list, List.drop_zero, Nat.sub_zero, List.take_of_length_le (by rw [← size_list]; exact Nat.le_refl _)]
  rw [hfull] at h3
  unfold addS
  generalize walkS S s s.size = st at h1 h2 h3 h4 h5
  obtain ⟨T, a⟩ := st
  simp only at h1 h2 h3 h4 h5 ⊢
  have hlen : (T.modify a (setWord k)).length = T.length := by simp
  have get : ∀ i, i < T.length → (T.modify a (setWord k)).getD i noPn = if a = i then setWord k (T.getD i noPn) else T.getD i noPn := fun i hi => getD_mod _ _ _ _ hi
  have txt : ∀ i, i < T.length → ((T.modify a (setWord k)).getD i noPn).text = (T.getD i noPn).text := by
    intro i hi; rw [get i hi]; split <;> rfl
  have sn : ∀ i, i < T.length → ((T.modify a (setWord k)).getD i noPn).sons = (T.getD i noPn).sons := by
    intro i hi; rw [get i hi]; split <;> rfl
  refine ⟨⟨by rw [hlen]; exact h1.pos, by rw [txt 0 h1.pos]; exact h1.root, fun i hi c x hc => ?_, fun i hi => ?_⟩, by rw [hlen]; exact h4.len, by rw [hlen]; exact h5, fun i hi => ?_⟩
  · rw [hlen] at hi ⊢
    rw [sn i hi] at hc
    obtain ⟨b1, b2⟩ := h1.sons i hi c x hc
    exact ⟨b1, by rw [txt x b1, txt i hi]; exact b2⟩
  · rw [hlen] at hi
    rw [txt i hi]
    by_cases ha : a = i
    · subst ha
      right
      refine ⟨k, by omega, ?_, ?_⟩
      · rw [get a hi, if_pos rfl]; rfl
      · rw [h3, hs]
    · have : ((T.modify a (setWord k)).getD i noPn).word = (T.getD i noPn).word := by rw [get i hi, if_neg ha]
      rw [this]
      rcases h1.word i hi with h | ⟨j, h6, h7, h8⟩
      · exact .inl h
      · exact .inr ⟨j, by omega, h7, h8⟩
  · have hi2 : i < T.length := Nat.lt_of_lt_of_le hi h4.len
    obtain ⟨k1, k2⟩ := h4.keep i hi
    refine ⟨(txt i hi2).trans k1, ?_⟩
    by_cases ha : a = i
    · subst ha; exact .inr (k1.symm.trans h3)
    · left; rw [get i hi2, if_neg ha]; exact k2
theorem build_good (zs : List ByteArray) : ∀ k, Good zs k (build zs k)
  | 0 => by
    refine ⟨by simp [build], rfl, fun i hi c x hc => ?_, fun i hi => ?_⟩
    · have : i = 0 := by simp [build] at hi; omega
      subst this; cases hc
    · have : i = 0 := by simp [build] at hi; omega
      subst this; exact .inl rfl
  | k + 1 => (add_good (build_good zs k) _ rfl).1
/-- The first phrases alone matter. -/
theorem build_app (l r : List ByteArray) : ∀ k, k ≤ l.length → build (l ++ r) k = build l k
  | 0, _ => rfl
  | k + 1, h => by
    show addS (build (l ++ r) k) ((l ++ r).getD k ByteArray.empty) k = addS (build l k) (l.getD k ByteArray.empty) k
    rw [build_app l r k (by omega), List.getD_eq_getElem?_getD, List.getD_eq_getElem?_getD, List.getElem?_append_left (by omega)]
theorem build_len (zs : List ByteArray) : ∀ k, (build zs k).length ≤ 1 + ((zs.take k).map (·.size)).sum
  | 0 => by simp [build]
  | k + 1 => by
    have h1 := (add_good (build_good zs k) _ rfl).2.2.1
    have h2 := build_len zs k
    show (addS (build zs k) (zs.getD k ByteArray.empty) k).length ≤ _
    by_cases hk : k < zs.length
    · have e : zs.getD k ByteArray.empty = zs[k] := by simp [List.getD_eq_getElem?_getD, hk]
      rw [List.take_succ_eq_append_getElem hk, List.map_append, List.sum_append]
      rw [e] at h1 ⊢
      simp only [List.map_cons, List.map_nil, List.sum_cons, List.sum_nil]
      omega
    · have e : zs.getD k ByteArray.empty = ByteArray.empty := by simp [List.getD_eq_getElem?_getD, List.getElem?_eq_none (show zs.length ≤ k by omega)]
      rw [e] at h1 ⊢
      have h0 : ByteArray.empty.size = 0 := rfl
      rw [List.take_of_length_le (by omega)] at h2 ⊢
      omega
/-- With one phrase more. -/
theorem grows (l : List ByteArray) (s : ByteArray) (hne : ∀ x ∈ l ++ [s], 1 ≤ x.size) (hs : s ∉ l) :
    (build l l.length).length ≤ (build (l ++ [s]) (l.length + 1)).length ∧ (build (l ++ [s]) (l.length + 1)).length ≤ (build l l.length).length + s.size ∧
    (∀ i, i < (build l l.length).length → ((build (l ++ [s]) (l.length + 1)).getD i noPn).text = ((build l l.length).getD i noPn).text ∧ (((build (l ++ [s]) (l.length + 1)).getD i noPn).word = ((build l l.length).getD i noPn).word ∨ ((build l l.length).getD i noPn).word < 0)) ∧
    ((build (l ++ [s]) (l.length + 1)).getD 0 noPn).word = -1 := by
  have hX := build_good l l.length
  have e : build (l ++ [s]) (l.length + 1) = addS (build l l.length) s l.length := by
    show addS (build (l ++ [s]) l.length) ((l ++ [s]).getD l.length ByteArray.empty) l.length = _
    rw [build_app l [s] l.length (Nat.le_refl _)]
    congr 1
    rw [List.getD_eq_getElem?_getD]; simp
  have hs2 : (l ++ [s]).getD l.length ByteArray.empty = s := by rw [List.getD_eq_getElem?_getD]; simp
  have hX2 : Good (l ++ [s]) l.length (build l l.length) := by rw [← build_app l [s] l.length (Nat.le_refl _)]; exact build_good _ _
  obtain ⟨g1, g2, g3, g4⟩ := add_good hX2 s hs2
  rw [e]
  refine ⟨g2, g3, fun i hi => ⟨(g4 i hi).1, ?_⟩, ?_⟩
  · rcases (g4 i hi).2 with h | h
    · exact .inl h
    · rcases hX.word i hi with h1 | ⟨j, h1, h2, h3⟩
      · exact .inr (by rw [h1]; decide)
      · exfalso
        apply hs
        rw [← h, h3, List.getD_eq_getElem?_getD, List.getElem?_eq_getElem h1]
        exact List.getElem_mem _
  · rcases g1.word 0 g1.pos with h | ⟨j, h1, h2, h3⟩
    · exact h
    · exfalso
      rw [g1.root] at h3
      have hj : j < (l ++ [s]).length := by simp; omega
      rw [List.getD_eq_getElem?_getD, List.getElem?_eq_getElem hj] at h3
      have := hne _ (List.getElem_mem hj)
      rw [Option.getD_some] at h3
      rw [← h3] at this
      exact absurd this (by decide)
end Go.Proofs.YtdeeeechdlcdbaaGreat.TrP
