/- Hits, in plain Lean: by links alone one comes to all phrases that are ends of what was fed, the longest first. -/
import Derived.Test.YtdeeeechdlcdbaaLkP
set_option linter.unusedVariables false
set_option linter.unusedSimpArgs false
namespace Go.Proofs.Ytdeeeechdlcdbaa.ScP
open Go Go.RowKit Go.Proofs.Ytdeeeechdlcdbaa.Base Go.Proofs.Ytdeeeechdlcdbaa.DiA Go.Proofs.Ytdeeeechdlcdbaa.TrP Go.Proofs.Ytdeeeechdlcdbaa.TrQ Go.Proofs.Ytdeeeechdlcdbaa.TnP Go.Proofs.Ytdeeeechdlcdbaa.TtP Go.Proofs.Ytdeeeechdlcdbaa.LkP
/-- Where a text stands among the phrases. -/
def findL (zs : List ByteArray) (t : List UInt8) : Option Nat := zs.findIdx? fun z => z.data.toList == t
theorem findL_some {zs : List ByteArray} {t : List UInt8} {k : Nat} (h : findL zs t = some k) : k < zs.length ∧ (zs.getD k ByteArray.empty).data.toList = t := by
  unfold findL at h
  obtain ⟨h1, h2, _⟩ := List.findIdx?_eq_some_iff_getElem.1 h
  refine ⟨h1, ?_⟩
  rw [List.getD_eq_getElem?_getD, List.getElem?_eq_getElem h1]
  exact beq_iff_eq.1 h2
theorem findL_none {zs : List ByteArray} {t : List UInt8} (h : findL zs t = none) : ∀ k, k < zs.length → (zs.getD k ByteArray.empty).data.toList ≠ t := by
  intro k hk e
  unfold findL at h
  have := List.findIdx?_eq_none_iff.1 h (zs[k]) (List.getElem_mem hk)
  rw [List.getD_eq_getElem?_getD, List.getElem?_eq_getElem hk] at e
  simp at this
  exact this e
/-- The last n bytes. -/
def lastN (s : List UInt8) (n : Nat) : List UInt8 := s.drop (s.length - n)
theorem lastN_length {s : List UInt8} {n : Nat} (h : n ≤ s.length) : (lastN s n).length = n := by unfold lastN; rw [List.length_drop]; omega
theorem lastN_suf (s : List UInt8) (n : Nat) : lastN s n <:+ s := List.drop_suffix _ _
theorem lastN_of {s t : List UInt8} (h : t <:+ s) : t = lastN s t.length := suf_eq h (lastN_suf s _) (lastN_length h.length_le).symm
/-- The phrases that are ends of s, of at most m bytes, the longest first. -/
def ends (zs : List ByteArray) (s : List UInt8) : Nat → List Nat
  | 0 => []
  | m + 1 => (match findL zs (lastN s (m + 1)) with | some k => [k] | none => []) ++ ends zs s m
theorem ends_yes {zs : List ByteArray} {s : List UInt8} {m k : Nat} (h : findL zs (lastN s (m + 1)) = some k) : ends zs s (m + 1) = k :: ends zs s m := by
  show (match findL zs (lastN s (m + 1)) with | some k => [k] | none => []) ++ ends zs s m = _
  rw [h]; rfl
theorem ends_no {zs : List ByteArray} {s : List UInt8} {m : Nat} (h : findL zs (lastN s (m + 1)) = none) : ends zs s (m + 1) = ends zs s m := by
  show (match findL zs (lastN s (m + 1)) with | some k => [k] | none => []) ++ ends zs s m = _
  rw [h]; rfl
theorem ends_length (zs : List ByteArray) (s : List UInt8) : ∀ m, (ends zs s m).length ≤ m
  | 0 => Nat.le_refl _
  | m + 1 => by
    have := ends_length zs s m
    unfold ends
    split <;> simp <;> omega
/-- A trie of phrases, as one needs it. -/
structure Tr (zs : List ByteArray) (X : List Pn) : Prop where
  good : TrP.Good zs zs.length X
  fine : Fine X
  word : ∀ i, i < X.length → ((X.getD i noPn).word < 0 ∧ findL zs (tx X i) = none) ∨ ∃ k : Nat, (X.getD i noPn).word = (k : Int) ∧ findL zs (tx X i) = some k
  has : ∀ k, k < zs.length → ∃ a, a < X.length ∧ tx X a = (zs.getD k ByteArray.empty).data.toList
  zero : (X.getD 0 noPn).word < 0
  short : ∀ i, i < X.length → (tx X i).length ≤ 40
section
variable {zs : List ByteArray} {X : List Pn} (hT : Tr zs X)
include hT in
theorem Tr.node {t : List UInt8} {k : Nat} (h : findL zs t = some k) : ∃ x, x < X.length ∧ tx X x = t ∧ (X.getD x noPn).word = (k : Int) := by
  obtain ⟨h1, h2⟩ := findL_some h
  obtain ⟨a, h3, h4⟩ := hT.has k h1
  refine ⟨a, h3, by rw [h4, h2], ?_⟩
  rcases hT.word a h3 with ⟨_, h5⟩ | ⟨j, h5, h6⟩
  · rw [h4, h2, h] at h5; cases h5
  · rw [h4, h2, h] at h6
    obtain rfl := Option.some.inj h6
    exact h5
include hT in
theorem Tr.is_word {x : Nat} (hx : x < X.length) (hw : 0 ≤ (X.getD x noPn).word) : ∃ k : Nat, (X.getD x noPn).word = (k : Int) ∧ findL zs (tx X x) = some k := by
  rcases hT.word x hx with ⟨h, _⟩ | h
  · omega
  · exact h
include hT in
theorem ot_yes {s : List UInt8} {m o k : Nat} (hm : m + 1 ≤ s.length) (ho : Ot X s (m + 1) o) (hf : findL zs (lastN s (m + 1)) = some k) : o ≠ 0 ∧ tx X o = lastN s (m + 1) ∧ (X.getD o noPn).word = (k : Int) := by
  have hl := lastN_length hm
  obtain ⟨x, h1, h2, h3⟩ := hT.node hf
  have h4 : tx X x <:+ s := by rw [h2]; exact lastN_suf _ _
  have h5 := ho.max x h1 (by omega) h4 (by rw [h2, hl]; exact Nat.le_refl _)
  rw [h2, hl] at h5
  have h0 : o ≠ 0 := by
    rintro rfl
    rw [tx0 hT.good] at h5; simp at h5
  obtain ⟨k1, k2, k3⟩ := ho.is.resolve_left h0
  have h6 : o = x := hT.fine.dist o x ho.lt h1 (suf_eq k2 h4 (by rw [h2, hl]; omega))
  subst h6
  exact ⟨h0, h2, h3⟩
include hT in
theorem ot_no {s : List UInt8} {m o : Nat} (ho : Ot X s (m + 1) o) (hf : findL zs (lastN s (m + 1)) = none) : Ot X s m o := by
  refine ⟨ho.lt, ?_, fun y hy hw h4 h5 => ho.max y hy hw h4 (by omega)⟩
  rcases ho.is with h | ⟨k1, k2, k3⟩
  · exact .inl h
  · refine .inr ⟨k1, k2, ?_⟩
    have : (tx X o).length ≠ m + 1 := by
      intro e
      obtain ⟨k, _, h6⟩ := hT.is_word ho.lt k1
      have h7 := lastN_of k2
      rw [e] at h7
      rw [h7, hf] at h6; cases h6
    omega
include hT in
theorem ot_zero {s : List UInt8} {o : Nat} (ho : Ot X s 0 o) : o = 0 := by
  rcases ho.is with h | ⟨h1, h2, h3⟩
  · exact h
  · rcases Nat.eq_zero_or_pos o with h0 | h0
    · exact h0
    · have := (tx_pos hT.good hT.fine ho.lt).1 h0
      omega
include hT in
/-- All that ends at the longest phrase, and then all that ends there and is shorter. -/
theorem ends_out {s : List UInt8} : ∀ {m o : Nat}, m ≤ s.length → Ot X s m o → ends zs s m = if o = 0 then [] else (X.getD o noPn).word.toNat :: ends zs s ((tx X o).length - 1)
  | 0, o, _, ho => by
    have : o = 0 := by
      rcases ho.is with h | ⟨h1, h2, h3⟩
      · exact h
      · rcases Nat.eq_zero_or_pos o with h0 | h0
        · exact h0
        · have := (tx_pos hT.good hT.fine ho.lt).1 h0
          omega
    rw [if_pos this]; rfl
  | m + 1, o, hm, ho => by
    have hl := lastN_length hm
    cases hf : findL zs (lastN s (m + 1)) with
    | some k =>
      obtain ⟨x, h1, h2, h3⟩ := hT.node hf
      have h4 : tx X x <:+ s := by rw [h2]; exact lastN_suf _ _
      have h5 := ho.max x h1 (by omega) h4 (by rw [h2, hl]; exact Nat.le_refl _)
      rw [h2, hl] at h5
      have h0 : o ≠ 0 := by
        rintro rfl
        rw [tx0 hT.good] at h5; simp at h5
      obtain ⟨k1, k2, k3⟩ := ho.is.resolve_left h0
      have h6 : o = x := hT.fine.dist o x ho.lt h1 (suf_eq k2 h4 (by rw [h2, hl]; omega))
      subst h6
      rw [if_neg h0]
      rw [ends_yes hf, h3, h2, hl]
      rfl
    | none =>
      have h1 : Ot X s m o := by
        refine ⟨ho.lt, ?_, fun y hy hw h4 h5 => ho.max y hy hw h4 (by omega)⟩
        rcases ho.is with h | ⟨k1, k2, k3⟩
        · exact .inl h
        · refine .inr ⟨k1, k2, ?_⟩
          have : (tx X o).length ≠ m + 1 := by
            intro e
            obtain ⟨k, _, h6⟩ := hT.is_word ho.lt k1
            have h7 := lastN_of k2
            rw [e] at h7
            rw [h7, hf] at h6; cases h6
          omega
      rw [ends_no hf]
      exact ends_out (by omega) h1
/-- Of a longer text that ends so the same stands. -/
theorem Ot.up {t s : List UInt8} {m o : Nat} (h : Ot X t m o) (hs : t <:+ s) (hm : m ≤ t.length) : Ot X s m o := by
  refine ⟨h.lt, ?_, fun y hy hw h4 h5 => h.max y hy hw (suf_of h4 hs (by omega)) h5⟩
  rcases h.is with h1 | ⟨h1, h2, h3⟩
  · exact .inl h1
  · exact .inr ⟨h1, h2.trans hs, h3⟩
/-- Where one is, or else where a phrase ends, too. -/
theorem ot_first {s : List UInt8} {n o : Nat} (hF : Fine X) (hn : Lg X s s.length n) (ho : Ot X (tx X n) ((tx X n).length - 1) o) : Ot X s s.length (if 0 ≤ (X.getD n noPn).word then n else o) := by
  split
  · rename_i h
    exact ⟨hn.lt, .inr ⟨h, hn.suf, hn.le⟩, fun y hy _ h4 h5 => hn.max y hy h4 h5⟩
  · rename_i h
    refine ⟨ho.lt, ?_, fun y hy hw h4 h5 => ?_⟩
    · rcases ho.is with h1 | ⟨h1, h2, h3⟩
      · exact .inl h1
      · exact .inr ⟨h1, h2.trans hn.suf, by have := hn.le; omega⟩
    · have h6 := hn.max y hy h4 h5
      have h7 := suf_of h4 hn.suf h6
      refine ho.max y hy hw h7 ?_
      have h8 : (tx X y).length ≠ (tx X n).length := by
        intro e
        have := hF.dist y n hy hn.lt (h7.eq_of_length e)
        subst this
        exact h hw
      omega
include hT in
theorem ends_more {s : List UInt8} : ∀ d, 40 + d ≤ s.length → ends zs s (40 + d) = ends zs s 40
  | 0, _ => rfl
  | d + 1, h => by
    rw [← ends_more d (by omega)]
    show ends zs s (40 + d + 1) = _
    have hl := lastN_length (s := s) (n := 40 + d + 1) (by omega)
    cases hf : findL zs (lastN s (40 + d + 1)) with
    | some k =>
      obtain ⟨x, h1, h2, _⟩ := hT.node hf
      have := hT.short x h1
      rw [h2, hl] at this
      omega
    | none => exact ends_no hf
include hT in
/-- No phrase is longer than 40 bytes. -/
theorem ends_40 (s : List UInt8) : ends zs s s.length = ends zs s (min s.length 40) := by
  rcases Nat.lt_or_ge 40 s.length with h | h
  · rw [Nat.min_eq_right (by omega)]
    have := ends_more hT (s := s) (s.length - 40) (by omega)
    rw [show 40 + (s.length - 40) = s.length by omega] at this
    exact this
  · rw [Nat.min_eq_left h]
end
end Go.Proofs.Ytdeeeechdlcdbaa.ScP
