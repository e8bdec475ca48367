/- Which phrases may be, step by step; in plain Lean. -/
import Derived.Test.YtdeeeechdlcdbaaGreatLp
set_option linter.unusedVariables false
set_option linter.unusedSimpArgs false
namespace Go.Proofs.YtdeeeechdlcdbaaGreat.PhP
open Go Go.RowKit Go.Proofs.YtdeeeechdlcdbaaGreat.Base Go.Proofs.YtdeeeechdlcdbaaGreat.DiA Go.Proofs.YtdeeeechdlcdbaaGreat.DiB Go.Proofs.YtdeeeechdlcdbaaGreat.TrP Go.Proofs.YtdeeeechdlcdbaaGreat.TcP Go.Proofs.YtdeeeechdlcdbaaGreat.TnP Go.Proofs.YtdeeeechdlcdbaaGreat.TtP Go.Proofs.YtdeeeechdlcdbaaGreat.LkP Go.Proofs.YtdeeeechdlcdbaaGreat.ScP
theorem good_iff {zs : List ByteArray} {k : Nat} : goodAt zs k = true ↔ 1 ≤ (zs.getD k ByteArray.empty).size ∧ (zs.getD k ByteArray.empty).size ≤ 40 ∧ total (zs.take (k + 1)) ≤ 1000 ∧ zs.getD k ByteArray.empty ∉ zs.take k := by
  unfold goodAt
  rw [Bool.and_eq_true, Bool.and_eq_true, Bool.and_eq_true, decide_eq_true_eq, decide_eq_true_eq, decide_eq_true_eq, Bool.not_eq_true', ← Bool.not_eq_true, Lib.containsS_iff]
theorem not_good {zs : List ByteArray} {k : Nat} (hk : k < zs.length) (h : ¬ (1 ≤ (zs.getD k ByteArray.empty).size ∧ (zs.getD k ByteArray.empty).size ≤ 40 ∧ total (zs.take (k + 1)) ≤ 1000 ∧ zs.getD k ByteArray.empty ∉ zs.take k)) : okD zs = false := by
  refine bad_at hk ?_
  cases hg : goodAt zs k with
  | false => rfl
  | true => exact absurd (good_iff.1 hg) h
theorem okUpto_next {zs : List ByteArray} {k : Nat} (h : okUpto zs k = true) (hg : 1 ≤ (zs.getD k ByteArray.empty).size ∧ (zs.getD k ByteArray.empty).size ≤ 40 ∧ total (zs.take (k + 1)) ≤ 1000 ∧ zs.getD k ByteArray.empty ∉ zs.take k) : okUpto zs (k + 1) = true := by
  rw [okUpto_succ, h, good_iff.2 hg]; rfl
theorem okUpto_zero (zs : List ByteArray) : okUpto zs 0 = true := rfl
theorem okD_all {zs : List ByteArray} (hl : zs.length ≤ 100) (h : okUpto zs zs.length = true) : okD zs = true := by
  unfold okD; rw [h, decide_eq_true hl]; rfl
theorem okD_many {zs : List ByteArray} (hl : 100 < zs.length) : okD zs = false := by
  unfold okD; rw [decide_eq_false (by omega)]; rfl
theorem okD_len {zs : List ByteArray} (h : okD zs = true) : zs.length ≤ 100 := by
  unfold okD at h
  rw [Bool.and_eq_true] at h
  exact of_decide_eq_true h.1
theorem okD_at {zs : List ByteArray} (h : okD zs = true) {k : Nat} (hk : k < zs.length) : 1 ≤ (zs.getD k ByteArray.empty).size ∧ (zs.getD k ByteArray.empty).size ≤ 40 ∧ total (zs.take (k + 1)) ≤ 1000 ∧ zs.getD k ByteArray.empty ∉ zs.take k := by
  unfold okD at h
  rw [Bool.and_eq_true] at h
  have := okUpto_le (k := k + 1) (by omega) h.2
  rw [okUpto_succ, Bool.and_eq_true] at this
  exact good_iff.1 this.2
theorem okD_total {zs : List ByteArray} (h : okD zs = true) : total zs ≤ 1000 := by
  rcases Nat.eq_zero_or_pos zs.length with h0 | h0
  · have : zs = [] := List.eq_nil_of_length_eq_zero h0
    subst this; decide
  · have := (okD_at h (k := zs.length - 1) (by omega)).2.2.1
    rw [List.take_of_length_le (by omega)] at this
    exact this
/-- Which phrase a text is, by the reference. -/
def findI (zs : List ByteArray) (t : List UInt8) : Int := match findL zs t with | some k => (k : Int) | none => -1
theorem findL_first {zs : List ByteArray} {x : ByteArray} {k : Nat} (hk : k < zs.length) (he : zs.getD k ByteArray.empty = x) (hn : x ∉ zs.take k) : findL zs x.data.toList = some k := by
  unfold findL
  rw [List.getD_eq_getElem?_getD, List.getElem?_eq_getElem hk] at he
  have he2 : zs[k] = x := he
  refine List.findIdx?_eq_some_iff_getElem.2 ⟨hk, by rw [he2]; simp, fun j hj => ?_⟩
  have : zs[j] ≠ x := by
    intro e
    exact hn (e ▸ List.mem_take_iff_getElem.2 ⟨j, by omega, rfl⟩)
  simp only [beq_iff_eq, Bool.not_eq_true]
  intro e
  exact this (data_inj e)
theorem findL_no {zs : List ByteArray} {x : ByteArray} (hn : x ∉ zs) : findL zs x.data.toList = none := by
  unfold findL
  refine List.findIdx?_eq_none_iff.2 fun y hy => ?_
  cases h : (y.data.toList == x.data.toList) with
  | false => rfl
  | true => exact absurd (data_inj (beq_iff_eq.1 h) ▸ hy) hn
theorem findI_lt {zs : List ByteArray} {k : Nat} (hk : k < zs.length) : findI zs (zs.getD k ByteArray.empty).data.toList < (k : Int) ↔ zs.getD k ByteArray.empty ∈ zs.take k := by
  constructor
  · intro h
    unfold findI at h
    cases hf : findL zs (zs.getD k ByteArray.empty).data.toList with
    | none => exact absurd rfl (findL_none hf k hk)
    | some j =>
      rw [hf] at h
      simp only at h
      obtain ⟨h1, h2⟩ := findL_some hf
      rw [← data_inj h2, List.getD_eq_getElem?_getD, List.getElem?_eq_getElem h1]
      exact List.mem_take_iff_getElem.2 ⟨j, by omega, rfl⟩
  · intro h
    obtain ⟨j, hj, he⟩ := List.mem_take_iff_getElem.1 h
    have hz : zs.getD j ByteArray.empty = zs.getD k ByteArray.empty := by
      rw [← he, List.getD_eq_getElem?_getD, List.getElem?_eq_getElem (by omega)]; rfl
    unfold findI
    cases hf : findL zs (zs.getD k ByteArray.empty).data.toList with
    | none => exact absurd (congrArg (fun b : ByteArray => b.data.toList) hz) (findL_none hf j (by omega))
    | some i =>
      simp only
      unfold findL at hf
      obtain ⟨h1, h2, h3⟩ := List.findIdx?_eq_some_iff_getElem.1 hf
      have : ¬ j < i := fun hji => by
        have h4 := h3 j hji
        rw [he] at h4
        exact h4 (beq_self_eq_true _)
      omega
/-- What the trie of phrases that may be is worth. -/
theorem tr_build {zs : List ByteArray} (h : okD zs = true) : Tr zs (build zs zs.length) := by
  have hd := okD_apart h
  have hG := build_good zs zs.length
  have hF := fine_build zs zs.length
  have hs : Small 40 (build zs zs.length) := small_build zs (fun k => by
    rcases Nat.lt_or_ge k zs.length with hk | hk
    · exact (okD_at h hk).2.1
    · rw [List.getD_eq_getElem?_getD, List.getElem?_eq_none hk]; decide) _
  have hhas : ∀ k, k < zs.length → ∃ a, a < (build zs zs.length).length ∧ tx (build zs zs.length) a = (zs.getD k ByteArray.empty).data.toList := fun k hk => by
    obtain ⟨a, ha, _⟩ := build_way zs zs.length k hk
    obtain ⟨h1, h2⟩ := way_text hG _ _ a (Nat.le_refl _) ha
    rw [full] at h2
    exact ⟨a, h1, by unfold tx; rw [h2]⟩
  refine ⟨hG, hF, fun i hi => ?_, hhas, ?_, fun i hi => ?_⟩
  · rcases find_word zs hd hi with ⟨h1, h2⟩ | ⟨j, h1, h2, h3⟩
    · exact .inl ⟨by omega, findL_no h2⟩
    · refine .inr ⟨j, h2, ?_⟩
      unfold tx
      refine findL_first h1 h3 ?_
      rw [← h3]
      exact (okD_at h h1).2.2.2
  · rcases hG.word 0 hG.pos with h1 | ⟨j, h1, h2, h3⟩
    · omega
    · have := (okD_at h h1).1
      rw [← h3, hG.root] at this
      exact absurd this (by decide)
  · have := hs i hi
    unfold tx
    rw [← size_list]; exact this
end Go.Proofs.YtdeeeechdlcdbaaGreat.PhP
