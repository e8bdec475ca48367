/- Tries: the nodes' texts are all beginnings, each once; no program in sight. -/
import Derived.Test.YtdeeeechdlcdbaaGreatTnP
import Derived.Test.YtdeeeechdlcdbaaGreatTw
set_option linter.unusedVariables false
set_option linter.unusedSimpArgs false
namespace Go.Proofs.YtdeeeechdlcdbaaGreat.TtP
open Go Go.RowKit Go.Proofs.YtdeeeechdlcdbaaGreat.Base Go.Proofs.YtdeeeechdlcdbaaGreat.DiA Go.Proofs.YtdeeeechdlcdbaaGreat.TrP Go.Proofs.YtdeeeechdlcdbaaGreat.TrQ Go.Proofs.YtdeeeechdlcdbaaGreat.TcP Go.Proofs.YtdeeeechdlcdbaaGreat.TnP
def tx (S : List Pn) (i : Nat) : List UInt8 := (S.getD i noPn).text.data.toList
structure Fine (S : List Pn) : Prop where
  dist : ∀ i j, i < S.length → j < S.length → tx S i = tx S j → i = j
  full : ∀ i x c, 0 ≤ c ∧ c ≤ 255 → i < S.length → x < S.length → tx S x = tx S i ++ [UInt8.ofNat c.toNat] → (S.getD i noPn).sons c = some x
  dad : ∀ x, 0 < x → x < S.length → ∃ i c, i < S.length ∧ tx S x = tx S i ++ [c]
theorem byte_inj {c d : Int} (hc : 0 ≤ c ∧ c ≤ 255) (hd : 0 ≤ d ∧ d ≤ 255) (h : UInt8.ofNat c.toNat = UInt8.ofNat d.toNat) : c = d := by
  have h1 := congrArg UInt8.toNat h
  rw [UInt8.toNat_ofNat', UInt8.toNat_ofNat'] at h1
  omega
theorem fine_one : Fine [noPn] := by
  refine ⟨fun i j hi hj _ => ?_, fun i x c _ hi hx h => ?_, fun x h0 hx => ?_⟩
  · simp at hi hj; omega
  · simp at hi hx
    subst hi; subst hx
    simp at h
  · simp at hx; omega
theorem fine_mod {S : List Pn} (h : Fine S) (k : Int) (a : Nat) : Fine (S.modify a (setWord k)) := by
  have e : ∀ i, i < S.length → tx (S.modify a (setWord k)) i = tx S i ∧ ((S.modify a (setWord k)).getD i noPn).sons = (S.getD i noPn).sons := by
    intro i hi
    unfold tx
    rw [getD_mod _ _ _ _ hi]
    split <;> exact ⟨rfl, rfl⟩
  have hl : (S.modify a (setWord k)).length = S.length := List.length_modify _ _ _
  refine ⟨fun i j hi hj he => ?_, fun i x c hc hi hx he => ?_, fun x h0 hx => ?_⟩
  · rw [hl] at hi hj
    rw [(e i hi).1, (e j hj).1] at he
    exact h.dist i j hi hj he
  · rw [hl] at hi hx
    rw [(e i hi).1, (e x hx).1] at he
    rw [(e i hi).2]
    exact h.full i x c hc hi hx he
  · rw [hl] at hx
    obtain ⟨i, c, hi, he⟩ := h.dad x h0 hx
    exact ⟨i, c, by rw [hl]; exact hi, by rw [(e i hi).1, (e x hx).1]; exact he⟩
theorem tx_new {T : List Pn} {a : Nat} {s : ByteArray} {k : Nat} (i : Nat) (hi : i < T.length) : tx ((T ++ [newPn s k]).modify a (setSon (TrP.byteOf s k) T.length)) i = tx T i := by
  unfold tx
  rw [getD_mod _ _ _ _ (by simp; omega), getD_app _ _ _ hi]
  split <;> rfl
theorem tx_last {T : List Pn} {a : Nat} (ha : a < T.length) {s : ByteArray} {k : Nat} : tx ((T ++ [newPn s k]).modify a (setSon (TrP.byteOf s k) T.length)) T.length = (s.extract 0 (k + 1)).data.toList := by
  unfold tx
  rw [getD_mod _ _ _ _ (by simp), if_neg (by omega), getD_last]; rfl
open Classical in
theorem fine_step {zs : List ByteArray} {id : Nat} {T : List Pn} {a : Nat} {s : ByteArray} {k : Nat} (hG : TrP.Good zs id T) (h : Fine T) (ha : a < T.length) (ht : (T.getD a noPn).text = s.extract 0 k) (hk : k < s.size) :
    Fine (TrP.step (T, a) s k).1 ∧ (TrP.step (T, a) s k).1.map (·.text) = if s.extract 0 (k + 1) ∈ T.map (·.text) then T.map (·.text) else T.map (·.text) ++ [s.extract 0 (k + 1)] := by
  have hex := ext_succ s k hk
  have hta : tx T a = (s.extract 0 k).data.toList := by unfold tx; rw [ht]
  have hmem : ∀ t : ByteArray, t ∈ T.map (·.text) ↔ ∃ x, x < T.length ∧ tx T x = t.data.toList := by
    intro t
    rw [List.mem_map]
    constructor
    · rintro ⟨n, hn, rfl⟩
      obtain ⟨x, hx, rfl⟩ := List.getElem_of_mem hn
      exact ⟨x, hx, by unfold tx; rw [List.getD_eq_getElem?_getD, List.getElem?_eq_getElem hx]; rfl⟩
    · rintro ⟨x, hx, he⟩
      refine ⟨T[x], List.getElem_mem hx, data_inj ?_⟩
      unfold tx at he
      rw [List.getD_eq_getElem?_getD, List.getElem?_eq_getElem hx] at he
      exact he
  unfold TrP.step
  simp only
  split
  · rename_i x hx
    obtain ⟨h1, h2⟩ := hG.sons a ha _ x hx
    have : s.extract 0 (k + 1) ∈ T.map (·.text) := (hmem _).2 ⟨x, h1, by unfold tx; rw [h2, ht, hex]⟩
    rw [if_pos this]
    exact ⟨h, rfl⟩
  · rename_i hx
    have hno : ∀ x, x < T.length → tx T x ≠ (s.extract 0 (k + 1)).data.toList := by
      intro x hxl he
      have := h.full a x (TrP.byteOf s k) (TrP.byteOf_range s k) ha hxl (by rw [he, hex, hta])
      rw [hx] at this; cases this
    have hnm : s.extract 0 (k + 1) ∉ T.map (·.text) := fun hm => by
      obtain ⟨x, hxl, he⟩ := (hmem _).1 hm
      exact hno x hxl he
    rw [if_neg hnm]
    have hl : ((T ++ [newPn s k]).modify a (setSon (TrP.byteOf s k) T.length)).length = T.length + 1 := by simp
    refine ⟨⟨fun i j hi hj he => ?_, fun i x c hc hi hxl he => ?_, fun x h0 hxl => ?_⟩, ?_⟩
    · rw [hl] at hi hj
      rcases Nat.lt_or_ge i T.length with h1 | h1 <;> rcases Nat.lt_or_ge j T.length with h2 | h2
      · rw [tx_new i h1, tx_new j h2] at he; exact h.dist i j h1 h2 he
      · obtain rfl : j = T.length := by omega
        rw [tx_new i h1, tx_last ha] at he
        exact absurd he (hno i h1)
      · obtain rfl : i = T.length := by omega
        rw [tx_new j h2, tx_last ha] at he
        exact absurd he.symm (hno j h2)
      · omega
    · rw [hl] at hi hxl
      rcases Nat.lt_or_ge i T.length with h1 | h1
      · have hson : (((T ++ [newPn s k]).modify a (setSon (TrP.byteOf s k) T.length)).getD i noPn).sons = if a = i then (fun d => if d = TrP.byteOf s k then some T.length else (T.getD i noPn).sons d) else (T.getD i noPn).sons := by
          rw [getD_mod _ _ _ _ (by simp; omega), getD_app _ _ _ h1]
          split <;> rfl
        rw [hson]
        rcases Nat.lt_or_ge x T.length with h2 | h2
        · rw [tx_new i h1, tx_new x h2] at he
          have hf := h.full i x c hc h1 h2 he
          split
          · rename_i hai
            subst hai
            show (if c = TrP.byteOf s k then some T.length else (T.getD a noPn).sons c) = some x
            rw [if_neg]
            · exact hf
            · rintro rfl
              rw [hx] at hf; cases hf
          · exact hf
        · obtain rfl : x = T.length := by omega
          rw [tx_new i h1, tx_last ha, hex, ← hta] at he
          have h3 := List.append_inj' he rfl
          have h4 : a = i := h.dist a i ha h1 h3.1
          have h5 : c = TrP.byteOf s k := (byte_inj (TrP.byteOf_range s k) hc (by simpa using h3.2)).symm
          rw [if_pos h4]
          show (if c = TrP.byteOf s k then some T.length else (T.getD i noPn).sons c) = some T.length
          rw [if_pos h5]
      · obtain rfl : i = T.length := by omega
        exfalso
        rw [tx_last ha] at he
        rcases Nat.lt_or_ge x T.length with h2 | h2
        · rw [tx_new x h2] at he
          rcases Nat.eq_zero_or_pos x with h3 | h3
          · subst h3
            have : tx T 0 = [] := by unfold tx; rw [hG.root]
            rw [this] at he
            simp at he
          · obtain ⟨i, c', hi', he'⟩ := h.dad x h3 h2
            rw [he'] at he
            have h3 := (List.append_inj' he rfl).1
            exact hno i hi' h3
        · obtain rfl : x = T.length := by omega
          rw [tx_last ha] at he
          have := congrArg List.length he
          simp at this
    · rw [hl] at hxl
      rcases Nat.lt_or_ge x T.length with h2 | h2
      · obtain ⟨i, c, hi, he⟩ := h.dad x h0 h2
        exact ⟨i, c, by rw [hl]; omega, by rw [tx_new x h2, tx_new i hi]; exact he⟩
      · obtain rfl : x = T.length := by omega
        exact ⟨a, _, by rw [hl]; omega, by rw [tx_last ha, tx_new a ha, hex, hta]⟩
    · show ((T ++ [newPn s k]).modify a (setSon (TrP.byteOf s k) T.length)).map (·.text) = T.map (·.text) ++ [s.extract 0 (k + 1)]
      apply List.ext_getElem
      · simp
      · intro i h1 h2
        rw [List.length_map, hl] at h1
        rw [List.getElem_map]
        have hg : ((T ++ [newPn s k]).modify a (setSon (TrP.byteOf s k) T.length))[i]'(by rw [hl]; exact h1) = ((T ++ [newPn s k]).modify a (setSon (TrP.byteOf s k) T.length)).getD i noPn := by
          rw [List.getD_eq_getElem?_getD, List.getElem?_eq_getElem (by rw [hl]; exact h1)]; rfl
        rw [hg]
        apply data_inj
        rcases Nat.lt_or_ge i T.length with h3 | h3
        · rw [List.getElem_append_left (by simpa using h3), List.getElem_map]
          have := tx_new (a := a) (s := s) (k := k) i h3
          unfold tx at this
          rw [this, List.getD_eq_getElem?_getD, List.getElem?_eq_getElem h3]; rfl
        · obtain rfl : i = T.length := by omega
          have := tx_last (s := s) (k := k) ha
          unfold tx at this
          rw [this, List.getElem_append_right (by simp)]
          simp
def texts (S : List Pn) : List ByteArray := S.map (·.text)
theorem fine_walk {zs : List ByteArray} {id : Nat} {S : List Pn} (hS : TrP.Good zs id S) (h : Fine S) (s : ByteArray) : ∀ k, k ≤ s.size → Fine (walkS S s k).1
  | 0, _ => h
  | k + 1, hk => by
    have ih := fine_walk hS h s k (by omega)
    obtain ⟨h1, h2, h3, _, _⟩ := walk_good hS s k (by omega)
    show Fine (TrP.step (walkS S s k) s k).1
    generalize walkS S s k = st at ih h1 h2 h3
    obtain ⟨T, a⟩ := st
    exact (fine_step h1 ih h2 h3 (by omega)).1
open Classical in
theorem texts_walk {zs : List ByteArray} {id : Nat} {S : List Pn} (hS : TrP.Good zs id S) (h : Fine S) (s : ByteArray) (k : Nat) (hk : k < s.size) :
    texts (walkS S s (k + 1)).1 = if s.extract 0 (k + 1) ∈ texts (walkS S s k).1 then texts (walkS S s k).1 else texts (walkS S s k).1 ++ [s.extract 0 (k + 1)] := by
  have ih := fine_walk hS h s k (by omega)
  obtain ⟨h1, h2, h3, _, _⟩ := walk_good hS s k (by omega)
  show texts (TrP.step (walkS S s k) s k).1 = _
  generalize walkS S s k = st at ih h1 h2 h3
  obtain ⟨T, a⟩ := st
  exact (fine_step h1 ih h2 h3 hk).2
theorem texts_mod (S : List Pn) (a : Nat) (k : Int) : texts (S.modify a (setWord k)) = texts S := by
  unfold texts
  apply List.ext_getElem?
  intro i
  rw [List.getElem?_map, List.getElem?_map, List.getElem?_modify]
  cases S[i]? with
  | none => rfl
  | some x => simp only [Option.map_some]; split <;> rfl
theorem texts_add (zs : List ByteArray) (k : Nat) : texts (build zs (k + 1)) = texts (walkS (build zs k) (zs.getD k ByteArray.empty) (zs.getD k ByteArray.empty).size).1 := texts_mod _ _ _
theorem fine_build (zs : List ByteArray) : ∀ k, Fine (build zs k)
  | 0 => fine_one
  | k + 1 => fine_mod (fine_walk (build_good zs k) (fine_build zs k) _ _ (Nat.le_refl _)) _ _
theorem texts_getD {S : List Pn} {i : Nat} (h : i < S.length) : (texts S).getD i ByteArray.empty = (S.getD i noPn).text := by
  unfold texts
  rw [List.getD_eq_getElem?_getD, List.getElem?_map, List.getElem?_eq_getElem h, List.getD_eq_getElem?_getD, List.getElem?_eq_getElem h]; rfl
theorem texts_length (S : List Pn) : (texts S).length = S.length := List.length_map _
theorem texts_apart {S : List Pn} (h : Fine S) : ∀ j k, j < k → k < (texts S).length → (texts S).getD j ByteArray.empty ≠ (texts S).getD k ByteArray.empty := by
  intro j k hjk hk e
  rw [texts_length] at hk
  rw [texts_getD (by omega), texts_getD hk] at e
  have := h.dist j k (by omega) hk (by unfold tx; rw [e])
  omega
/-- Which node a text and one byte more is: the son, or none. -/
theorem find_son {zs : List ByteArray} {id : Nat} {S : List Pn} (hG : TrP.Good zs id S) (h : Fine S) {i : Nat} (hi : i < S.length) {c : Int} (hc : 0 ≤ c ∧ c ≤ 255) {t : ByteArray} (ht : t.data.toList = tx S i ++ [UInt8.ofNat c.toNat]) {r : Int} (hr : FindIs (texts S) t r) :
    r = match (S.getD i noPn).sons c with | some x => (x : Int) | none => -1 := by
  refine find_one (texts_apart h) hr ?_
  cases hs : (S.getD i noPn).sons c with
  | some x =>
    obtain ⟨h1, h2⟩ := hG.sons i hi c x hs
    refine .inr ⟨x, by rw [texts_length]; exact h1, rfl, ?_⟩
    rw [texts_getD h1]
    exact data_inj (by rw [h2, ht]; rfl)
  | none =>
    refine .inl ⟨rfl, fun hm => ?_⟩
    obtain ⟨x, hx, he⟩ := List.getElem_of_mem hm
    rw [texts_length] at hx
    have e2 : (texts S).getD x ByteArray.empty = t := by rw [List.getD_eq_getElem?_getD, List.getElem?_eq_getElem (by rw [texts_length]; exact hx), ← he]; rfl
    rw [texts_getD hx] at e2
    have := h.full i x c hc hi hx (by show (S.getD x noPn).text.data.toList = _; rw [e2, ht])
    rw [hs] at this; cases this
/-- Which phrase a node is. -/
theorem find_word (zs : List ByteArray) (hd : ∀ j k, j < k → k < zs.length → zs.getD j ByteArray.empty ≠ zs.getD k ByteArray.empty) {i : Nat} (hi : i < (build zs zs.length).length) : FindIs zs ((build zs zs.length).getD i noPn).text ((build zs zs.length).getD i noPn).word := by
  have hG := build_good zs zs.length
  have hF := fine_build zs zs.length
  by_cases hm : ((build zs zs.length).getD i noPn).text ∈ zs
  · obtain ⟨j, hj, he⟩ := List.getElem_of_mem hm
    have hz : zs.getD j ByteArray.empty = ((build zs zs.length).getD i noPn).text := by rw [← he, List.getD_eq_getElem?_getD, List.getElem?_eq_getElem hj]; rfl
    obtain ⟨a, ha, _⟩ := build_way zs zs.length j hj
    rw [hz] at ha
    obtain ⟨h1, h2⟩ := way_text hG _ _ a (Nat.le_refl _) ha
    rw [full] at h2
    have hai : a = i := hF.dist a i h1 hi (by unfold tx; rw [h2])
    have := way_find zs _ a ha
    rw [hai] at this
    exact this
  · refine .inl ⟨?_, hm⟩
    rcases hG.word i hi with h | ⟨j, hj, _, h2⟩
    · exact h
    · exfalso; apply hm
      rw [h2, List.getD_eq_getElem?_getD, List.getElem?_eq_getElem hj]
      exact List.getElem_mem hj
end Go.Proofs.YtdeeeechdlcdbaaGreat.TtP
