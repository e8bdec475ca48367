/- The walk of TrieGrows. -/
import Derived.Test.YtdeeeechdlcdbaaGreatTr
import Derived.Laws.AppendOwnNone
set_option linter.unusedSimpArgs false
set_option linter.unusedVariables false
namespace Go.Proofs.YtdeeeechdlcdbaaGreat.TgU
open Go Go.RowKit Go.Proofs.YtdeeeechdlcdbaaGreat.Base Go.Proofs.YtdeeeechdlcdbaaGreat.DiA Go.Proofs.YtdeeeechdlcdbaaGreat.DiB Go.Proofs.YtdeeeechdlcdbaaGreat.DiC Go.Proofs.YtdeeeechdlcdbaaGreat.DiD Go.Proofs.YtdeeeechdlcdbaaGreat.TrP Go.Proofs.YtdeeeechdlcdbaaGreat.TrM Go.Proofs.YtdeeeechdlcdbaaGreat.TrA Go.Proofs.YtdeeeechdlcdbaaGreat.TrB Go.Proofs.YtdeeeechdlcdbaaGreat.TrD Go.Proofs.YtdeeeechdlcdbaaGreat.TrE
theorem okD_size {zs : List ByteArray} (h : okD zs = true) : ∀ x ∈ zs, 1 ≤ x.size := by
  intro x hx
  obtain ⟨k, hk, rfl⟩ := List.mem_iff_getElem.1 hx
  unfold okD at h
  rw [Bool.and_eq_true] at h
  have := okUpto_le (k := k + 1) (by omega) h.2
  rw [okUpto_succ, Bool.and_eq_true] at this
  have h2 := this.2
  unfold goodAt at h2
  have e : zs.getD k ByteArray.empty = zs[k] := by simp [List.getD_eq_getElem?_getD, hk]
  rw [e] at h2
  simp at h2
  exact h2.1
theorem okD_last {zs : List ByteArray} {s : ByteArray} (h : okD (zs ++ [s]) = true) : s ∉ zs := by
  unfold okD at h
  rw [Bool.and_eq_true] at h
  have := okUpto_le (k := zs.length + 1) (by simp) h.2
  rw [okUpto_succ, Bool.and_eq_true] at this
  have h2 := this.2
  unfold goodAt at h2
  have e : (zs ++ [s]).getD zs.length ByteArray.empty = s := by rw [List.getD_eq_getElem?_getD]; simp
  have e2 : (zs ++ [s]).take zs.length = zs := by simp
  rw [e, e2] at h2
  simp only [Bool.and_eq_true, Bool.not_eq_true', decide_eq_true_eq] at h2
  intro hm
  have := (Lib.containsS_iff zs s).2 hm
  rw [h2.2.2.2] at this
  cases this
theorem total_app (zs : List ByteArray) (s : ByteArray) : total (zs ++ [s]) = total zs + s.size := by
  unfold total; simp
theorem own_strs {w : World} {A : Option Addr} {zs : List ByteArray} (h : StrsAt w A zs) (hz : 0 < zs.length) : ∃ ad, A = some ad ∧ ∀ j u, (zs.map Value.string)[j]? = some u → w.cell? (ad.add j) = some u := by
  obtain ⟨b, off, rfl, _, hc⟩ := h hz
  refine ⟨_, rfl, fun j u hu => ?_⟩
  rw [List.getElem?_map] at hu
  cases hj : zs[j]? with
  | none => rw [hj] at hu; cases hu
  | some x =>
    rw [hj] at hu
    have hjl := (List.getElem?_eq_some_iff.1 hj).1
    have := hc j hjl
    rw [List.getD_eq_getElem?_getD, hj, Option.getD_some] at this
    simp at hu
    subst hu
    rw [← this]
    unfold Addr.add
    by_cases h0 : j = 0
    · subst h0; rfl
    · rw [if_neg h0]
end Go.Proofs.YtdeeeechdlcdbaaGreat.TgU
