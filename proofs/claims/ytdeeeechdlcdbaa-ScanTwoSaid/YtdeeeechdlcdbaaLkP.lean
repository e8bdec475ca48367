/- Links, in plain Lean: the longest end that is a beginning, and where one goes on behind a byte. -/
import Derived.Test.YtdeeeechdlcdbaaTtP
set_option linter.unusedVariables false
set_option linter.unusedSimpArgs false
namespace Go.Proofs.Ytdeeeechdlcdbaa.LkP
open Go Go.RowKit Go.Proofs.Ytdeeeechdlcdbaa.Base Go.Proofs.Ytdeeeechdlcdbaa.DiA Go.Proofs.Ytdeeeechdlcdbaa.TrP Go.Proofs.Ytdeeeechdlcdbaa.TrQ Go.Proofs.Ytdeeeechdlcdbaa.TnP Go.Proofs.Ytdeeeechdlcdbaa.TtP
/-- r is the node of the longest end of s, of at most m bytes, that is a beginning. -/
structure Lg (X : List Pn) (s : List UInt8) (m r : Nat) : Prop where
  lt : r < X.length
  suf : tx X r <:+ s
  le : (tx X r).length ≤ m
  max : ∀ x, x < X.length → tx X x <:+ s → (tx X x).length ≤ m → (tx X x).length ≤ (tx X r).length
theorem suf_eq {a b s : List UInt8} (h1 : a <:+ s) (h2 : b <:+ s) (hl : a.length = b.length) : a = b :=
  (List.suffix_of_suffix_length_le h1 h2 (by omega)).eq_of_length hl
theorem suf_of {a b s : List UInt8} (h1 : a <:+ s) (h2 : b <:+ s) (hl : a.length ≤ b.length) : a <:+ b := List.suffix_of_suffix_length_le h1 h2 hl
theorem suf_snoc {a b : List UInt8} (c : UInt8) (h : a <:+ b) : a ++ [c] <:+ b ++ [c] := by
  obtain ⟨t, rfl⟩ := h
  exact ⟨t, by rw [List.append_assoc]⟩
theorem snoc_suf {a b : List UInt8} {c d : UInt8} (h : a ++ [c] <:+ b ++ [d]) : a <:+ b ∧ c = d := by
  obtain ⟨t, ht⟩ := h
  rw [← List.append_assoc] at ht
  have := List.append_inj' ht rfl
  exact ⟨⟨t, this.1⟩, by simpa using this.2⟩
theorem nil_suf (s : List UInt8) : ([] : List UInt8) <:+ s := ⟨s, by simp⟩
section
variable {X : List Pn} {s : List UInt8} {m r r' : Nat}
theorem Lg.one (hF : Fine X) (h : Lg X s m r) (h' : Lg X s m r') : r = r' :=
  hF.dist r r' h.lt h'.lt (suf_eq h.suf h'.suf (Nat.le_antisymm (h'.max r h.lt h.suf h.le) (h.max r' h'.lt h'.suf h'.le)))
theorem tx0 {zs : List ByteArray} {id : Nat} (hG : TrP.Good zs id X) : tx X 0 = [] := by unfold tx; rw [hG.root]
theorem ex_lg {zs : List ByteArray} {id : Nat} (hG : TrP.Good zs id X) (s : List UInt8) : ∀ m, ∃ r, Lg X s m r
  | 0 => ⟨0, hG.pos, by rw [tx0 hG]; exact nil_suf _, by rw [tx0 hG]; exact Nat.le_refl _, fun x hx h1 h2 => by omega⟩
  | m + 1 => by
    by_cases h : ∃ x, x < X.length ∧ tx X x <:+ s ∧ (tx X x).length = m + 1
    · obtain ⟨x, h1, h2, h3⟩ := h
      exact ⟨x, h1, h2, by omega, fun y hy h4 h5 => by omega⟩
    · obtain ⟨r, h1⟩ := ex_lg hG s m
      refine ⟨r, h1.lt, h1.suf, Nat.le_succ_of_le h1.le, fun y hy h4 h5 => h1.max y hy h4 ?_⟩
      have : (tx X y).length ≠ m + 1 := fun e => h ⟨y, hy, h4, e⟩
      omega
theorem tx_pos {zs : List ByteArray} {id : Nat} (hG : TrP.Good zs id X) (hF : Fine X) {x : Nat} (hx : x < X.length) : 0 < x ↔ 0 < (tx X x).length := by
  constructor
  · intro h
    obtain ⟨i, c, hi, he⟩ := hF.dad x h hx
    rw [he]; simp
  · intro h
    rcases Nat.eq_zero_or_pos x with h0 | h0
    · subst h0; rw [tx0 hG] at h; simp at h
    · exact h0
end
section
variable {zs : List ByteArray} {id : Nat} {X : List Pn} (hG : TrP.Good zs id X) (hF : Fine X)
def byte (c : Int) : UInt8 := UInt8.ofNat c.toNat
include hG in
/-- A son. -/
theorem lg_son {i : Nat} (hi : i < X.length) {c : Int} {x : Nat} (hx : (X.getD i noPn).sons c = some x) : x < X.length ∧ tx X x = tx X i ++ [byte c] ∧ Lg X (tx X i ++ [byte c]) ((tx X i).length + 1) x := by
  obtain ⟨h1, h2⟩ := hG.sons i hi c x hx
  have h3 : tx X x = tx X i ++ [byte c] := h2
  refine ⟨h1, h3, h1, by rw [h3]; exact List.suffix_refl _, by rw [h3]; simp, fun y hy h4 h5 => ?_⟩
  rw [h3]
  have := h4.length_le
  simpa using this
include hG hF in
/-- The root, without a son. -/
theorem lg_root {c : Int} (hc : 0 ≤ c ∧ c ≤ 255) (hn : (X.getD 0 noPn).sons c = none) : Lg X [byte c] 1 0 := by
  refine ⟨hG.pos, by rw [tx0 hG]; exact nil_suf _, by rw [tx0 hG]; simp, fun y hy h4 h5 => ?_⟩
  rcases Nat.eq_zero_or_pos y with h0 | h0
  · subst h0; exact Nat.le_refl _
  · exfalso
    have hp := (tx_pos hG hF hy).1 h0
    have he : tx X y = [byte c] := h4.eq_of_length (by simp; omega)
    have := hF.full 0 y c hc hG.pos hy (by rw [tx0 hG, he]; rfl)
    rw [hn] at this; cases this
/-- What is an end of a text and a byte, is an end of the text, and the byte. -/
theorem end_dad (hF : Fine X) {y : Nat} (hy : y < X.length) (h0 : 0 < y) {t : List UInt8} {b : UInt8} (h : tx X y <:+ t ++ [b]) : ∃ j, j < X.length ∧ tx X y = tx X j ++ [b] ∧ tx X j <:+ t := by
  obtain ⟨j, c', hj, he⟩ := hF.dad y h0 hy
  rw [he] at h
  obtain ⟨h1, rfl⟩ := snoc_suf h
  exact ⟨j, hj, he, h1⟩
include hG hF in
/-- Where no son is one goes on from where one goes on. -/
theorem lg_up {i f r M : Nat} {c : Int} (hf : Lg X (tx X i) ((tx X i).length - 1) f) (hr : Lg X (tx X f ++ [byte c]) ((tx X f).length + 1) r)
    (hM : (tx X f).length + 1 ≤ M) (hno : ∀ y, y < X.length → tx X y = tx X i ++ [byte c] → ¬ (tx X y).length ≤ M) : Lg X (tx X i ++ [byte c]) M r := by
  refine ⟨hr.lt, hr.suf.trans (suf_snoc _ hf.suf), Nat.le_trans hr.le hM, fun y hy h4 h5 => ?_⟩
  rcases Nat.eq_zero_or_pos y with h0 | h0
  · subst h0; rw [tx0 hG]; exact Nat.zero_le _
  · obtain ⟨j, hj, he, hs⟩ := end_dad hF hy h0 h4
    have hl := hs.length_le
    have hlt : (tx X j).length ≠ (tx X i).length := by
      intro e
      have : tx X j = tx X i := hs.eq_of_length e
      exact hno y hy (by rw [he, this]) h5
    have h6 := hf.max j hj hs (by omega)
    refine hr.max y hy (by rw [he]; exact suf_snoc _ (suf_of hs hf.suf h6)) (by rw [he]; simp; omega)
include hG hF in
theorem lg_step {i f r : Nat} (hi : i < X.length) {c : Int} (hc : 0 ≤ c ∧ c ≤ 255) (hn : (X.getD i noPn).sons c = none) (hf : Lg X (tx X i) ((tx X i).length - 1) f) (hr : Lg X (tx X f ++ [byte c]) ((tx X f).length + 1) r) : Lg X (tx X i ++ [byte c]) ((tx X i).length + 1) r := by
  refine lg_up hG hF hf hr (by have := hf.le; omega) fun y hy he _ => ?_
  have := hF.full i y c hc hi hy he
  rw [hn] at this; cases this
include hG hF in
theorem lg_fail {i f r : Nat} (hi : i < X.length) (h0 : 0 < i) {c : Int} (hf : Lg X (tx X i) ((tx X i).length - 1) f) (hr : Lg X (tx X f ++ [byte c]) ((tx X f).length + 1) r) : Lg X (tx X i ++ [byte c]) (tx X i).length r := by
  have hp := (tx_pos hG hF hi).1 h0
  refine lg_up hG hF hf hr (by have := hf.le; omega) fun y hy he hl => ?_
  rw [he] at hl
  simp at hl; omega
include hG in
theorem lg_none (s : List UInt8) : Lg X s 0 0 := ⟨hG.pos, by rw [tx0 hG]; exact nil_suf _, by rw [tx0 hG]; simp, fun y hy h4 h5 => by omega⟩
include hG hF in
/-- The bytes ahead do not matter. -/
theorem lg_feed {s : List UInt8} {n r : Nat} {b : UInt8} (hn : Lg X s s.length n) (hr : Lg X (tx X n ++ [b]) ((tx X n).length + 1) r) : Lg X (s ++ [b]) (s.length + 1) r := by
  refine ⟨hr.lt, hr.suf.trans (suf_snoc _ hn.suf), ?_, fun y hy h4 h5 => ?_⟩
  · have := hr.le
    have := hn.le
    omega
  · rcases Nat.eq_zero_or_pos y with h0 | h0
    · subst h0; rw [tx0 hG]; exact Nat.zero_le _
    · obtain ⟨j, hj, he, hs⟩ := end_dad hF hy h0 h4
      have h6 := hn.max j hj hs hs.length_le
      exact hr.max y hy (by rw [he]; exact suf_snoc _ (suf_of hs hn.suf h6)) (by rw [he]; simp; omega)
/-- The search of a link: at is where one looks on from; whatever is found from there is where the son goes on. -/
structure Look (X : List Pn) (son at_ : Nat) (c : Int) : Prop where
  lt : at_ < X.length
  none : at_ = 0 → Lg X (tx X son) ((tx X son).length - 1) 0
  some : 0 < at_ → ∀ f r, Lg X (tx X at_) ((tx X at_).length - 1) f → Lg X (tx X f ++ [byte c]) ((tx X f).length + 1) r → Lg X (tx X son) ((tx X son).length - 1) r
include hG hF in
theorem look_start {i x : Nat} (hi : i < X.length) {c : Int} (hx : tx X x = tx X i ++ [byte c]) : Look X x i c := by
  refine ⟨hi, fun h0 => ?_, fun h0 f r hf hr => ?_⟩
  · subst h0
    rw [hx, tx0 hG]
    exact lg_none hG _
  · rw [hx]
    have := lg_fail hG hF hi h0 hf hr
    simpa using this
include hG in
theorem look_found {x at_ f nx : Nat} {c : Int} (h : Look X x at_ c) (h0 : 0 < at_) (hf : Lg X (tx X at_) ((tx X at_).length - 1) f) (hn : (X.getD f noPn).sons c = some nx) : Lg X (tx X x) ((tx X x).length - 1) nx :=
  h.some h0 f nx hf (lg_son hG hf.lt hn).2.2
include hG hF in
theorem look_on {x at_ f : Nat} {c : Int} (hc : 0 ≤ c ∧ c ≤ 255) (h : Look X x at_ c) (h0 : 0 < at_) (hf : Lg X (tx X at_) ((tx X at_).length - 1) f) (hn : (X.getD f noPn).sons c = none) : Look X x f c ∧ (tx X f).length < (tx X at_).length := by
  have hp := (tx_pos hG hF h.lt).1 h0
  refine ⟨⟨hf.lt, fun hz => ?_, fun hz f' r hf' hr => ?_⟩, by have := hf.le; omega⟩
  · subst hz
    refine h.some h0 0 0 hf ?_
    rw [tx0 hG]
    exact lg_root hG hF hc hn
  · exact h.some h0 f r hf (lg_step hG hF hf.lt hc hn hf' hr)
/-- o is the node of the longest end of s, of at most m bytes, that is a phrase; the root, if there is none. -/
structure Ot (X : List Pn) (s : List UInt8) (m o : Nat) : Prop where
  lt : o < X.length
  is : o = 0 ∨ (0 ≤ (X.getD o noPn).word ∧ tx X o <:+ s ∧ (tx X o).length ≤ m)
  max : ∀ x, x < X.length → 0 ≤ (X.getD x noPn).word → tx X x <:+ s → (tx X x).length ≤ m → (tx X x).length ≤ (tx X o).length
include hG in
theorem ot_none (s : List UInt8) : Ot X s 0 0 := ⟨hG.pos, .inl rfl, fun y hy _ h4 h5 => by omega⟩
include hF in
theorem ot_step {x f o : Nat} (hf : Lg X (tx X x) ((tx X x).length - 1) f) (ho : Ot X (tx X f) ((tx X f).length - 1) o) : Ot X (tx X x) ((tx X x).length - 1) (if 0 ≤ (X.getD f noPn).word then f else o) := by
  split
  · rename_i h
    exact ⟨hf.lt, .inr ⟨h, hf.suf, hf.le⟩, fun y hy _ h4 h5 => hf.max y hy h4 h5⟩
  · rename_i h
    refine ⟨ho.lt, ?_, fun y hy hw h4 h5 => ?_⟩
    · rcases ho.is with h1 | ⟨h1, h2, h3⟩
      · exact .inl h1
      · exact .inr ⟨h1, h2.trans hf.suf, by have := hf.le; omega⟩
    · have h6 := hf.max y hy h4 h5
      have h7 := suf_of h4 hf.suf h6
      refine ho.max y hy hw h7 ?_
      have h8 : (tx X y).length ≠ (tx X f).length := by
        intro e
        have := hF.dist y f hy hf.lt (h7.eq_of_length e)
        subst this
        exact h hw
      omega
include hG hF in
theorem Ot.one {s : List UInt8} {m o o' : Nat} (hw0 : (X.getD 0 noPn).word < 0) (h : Ot X s m o) (h' : Ot X s m o') : o = o' := by
  rcases h.is with h1 | ⟨h1, h2, h3⟩ <;> rcases h'.is with k1 | ⟨k1, k2, k3⟩
  · rw [h1, k1]
  · exfalso
    have h5 := h.max o' h'.lt k1 k2 k3
    rw [h1, tx0 hG] at h5
    have h0 : ¬ 0 < o' := fun h0 => by
      have h6 := (tx_pos hG hF h'.lt).1 h0
      have h7 : (tx X o').length ≤ 0 := h5
      omega
    have : o' = 0 := by omega
    subst this; omega
  · exfalso
    have h5 := h'.max o h.lt h1 h2 h3
    rw [k1, tx0 hG] at h5
    have h0 : ¬ 0 < o := fun h0 => by
      have h6 := (tx_pos hG hF h.lt).1 h0
      have h7 : (tx X o).length ≤ 0 := h5
      omega
    have : o = 0 := by omega
    subst this; omega
  · exact hF.dist o o' h.lt h'.lt (suf_eq h2 k2 (Nat.le_antisymm (h'.max o h.lt h1 h2 h3) (h.max o' h'.lt k1 k2 k3)))
end
end Go.Proofs.Ytdeeeechdlcdbaa.LkP
