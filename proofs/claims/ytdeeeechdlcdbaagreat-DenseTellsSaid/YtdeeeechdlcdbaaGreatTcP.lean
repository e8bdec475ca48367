/- The sons of a trie's node, for a walk; counts up to a place. -/
import Derived.Test.YtdeeeechdlcdbaaGreatSn
import Derived.Test.YtdeeeechdlcdbaaGreatTgU
set_option linter.unusedVariables false
set_option linter.unusedSimpArgs false
namespace Go.Proofs.YtdeeeechdlcdbaaGreat.TcP
open Go Go.RowKit Go.Proofs.YtdeeeechdlcdbaaGreat.Base Go.Proofs.YtdeeeechdlcdbaaGreat.DiA Go.Proofs.YtdeeeechdlcdbaaGreat.DiB Go.Proofs.YtdeeeechdlcdbaaGreat.DiC Go.Proofs.YtdeeeechdlcdbaaGreat.DiD Go.Proofs.YtdeeeechdlcdbaaGreat.TrP Go.Proofs.YtdeeeechdlcdbaaGreat.TrM Go.Proofs.YtdeeeechdlcdbaaGreat.TrA Go.Proofs.YtdeeeechdlcdbaaGreat.TrB Go.Proofs.YtdeeeechdlcdbaaGreat.TrD Go.Proofs.YtdeeeechdlcdbaaGreat.TrE Go.Proofs.YtdeeeechdlcdbaaGreat.TgU Go.Proofs.YtdeeeechdlcdbaaGreat.TrQ
theorem okD_apart {zs : List ByteArray} (h : okD zs = true) : ∀ j k, j < k → k < zs.length → zs.getD j ByteArray.empty ≠ zs.getD k ByteArray.empty := by
  intro j k hjk hk e
  unfold okD at h
  rw [Bool.and_eq_true] at h
  have := okUpto_le (k := k + 1) (by omega) h.2
  rw [okUpto_succ, Bool.and_eq_true] at this
  have h2 := this.2
  unfold goodAt at h2
  simp only [Bool.and_eq_true, Bool.not_eq_true', decide_eq_true_eq] at h2
  have hm : zs.getD k ByteArray.empty ∈ zs.take k := by
    rw [← e, List.getD_eq_getElem?_getD, List.getElem?_eq_getElem (by omega)]
    exact List.mem_take_iff_getElem.2 ⟨j, by omega, rfl⟩
  have := (Lib.containsS_iff (zs.take k) (zs.getD k ByteArray.empty)).2 hm
  rw [h2.2.2.2] at this
  cases this
theorem sons_call {B p m : Nat} {N : List Nd} {w : World} (h : TrieAt B w p N m) (hbig : N.length ≤ 1000000) {S : List Pn} (hS : N.map (·.p) = S) (k : Nat) (hk : k < S.length) {L : List Int} (hL : sonsL (S.getD k noPn).sons = L) :
    Calls Tryz.prog 77 #[.pointer (some ⟨p, 0, none⟩), .int .i64 (k : Int)] w fun e w' => ∃ V cp, e = .returned (.slice V L.length cp) ∧ Hid (0 < L.length → ∃ g, V = some ⟨g, 0, none⟩ ∧ ∀ j, j < L.length → w'.cell? ⟨g, j, none⟩ = some (.int .u8 (L.getD j 0))) ∧ Below w.heap.size w w' := by
  have hl : k < N.length := by rw [← hS, List.length_map] at hk; exact hk
  have hn : N[k]? = some N[k] := List.getElem?_eq_getElem hl
  rw [getD_of hS hn] at hL
  refine (Sn.sons_in h hbig hn).mono ?_
  rintro e w' ⟨v, rfl, hrow, hb⟩
  rw [hL] at hrow
  obtain ⟨V, cp, rfl, hc⟩ := own_form hrow
  refine ⟨V, cp, rfl, fun h0 => ?_, hb⟩
  obtain ⟨g, hV, _, hcell⟩ := hc h0
  refine ⟨g, hV, fun j hj => hcell j _ ?_⟩
  rw [List.getElem?_map, List.getElem?_eq_getElem hj, List.getD_eq_getElem?_getD, List.getElem?_eq_getElem hj]
  rfl
theorem take_getD {α : Type} (S : List α) (d : α) {k : Nat} (h : k < S.length) : S.take (k + 1) = S.take k ++ [S.getD k d] := by
  rw [List.take_succ_eq_append_getElem h, List.getD_eq_getElem?_getD, List.getElem?_eq_getElem h]; rfl
theorem cnt_succ (S : List Pn) {k : Nat} (h : k < S.length) : cnt (S.take (k + 1)) = cnt (S.take k) + (sonsL (S.getD k noPn).sons).length := by
  rw [take_getD S noPn h]
  simp [cnt]
theorem wcnt_succ (S : List Pn) {k : Nat} (h : k < S.length) : wcnt (S.take (k + 1)) = wcnt (S.take k) + (if 0 ≤ (S.getD k noPn).word then 1 else 0) := by
  rw [take_getD S noPn h]
  simp [wcnt]
theorem cnt_le (S : List Pn) : ∀ k, k ≤ S.length → cnt (S.take k) ≤ 256 * k
  | 0, _ => by simp [cnt]
  | k + 1, h => by
    rw [cnt_succ S (by omega)]
    have := cnt_le S k (by omega)
    have := sonsL_len (S.getD k noPn).sons
    omega
theorem wcnt_le (S : List Pn) : ∀ k, k ≤ S.length → wcnt (S.take k) ≤ k
  | 0, _ => by simp [wcnt]
  | k + 1, h => by
    rw [wcnt_succ S (by omega)]
    have := wcnt_le S k (by omega)
    split <;> omega
theorem total_le (zs : List ByteArray) (k : Nat) : total (zs.take k) ≤ total zs := by
  unfold total
  conv => rhs; rw [← List.take_append_drop k zs]
  rw [List.map_append, List.sum_append]; omega
theorem sons_lt {L : List Int} (h : L.Pairwise (· < ·)) {j : Nat} (hj : j + 1 < L.length) : L.getD j 0 < L.getD (j + 1) 0 := by
  rw [List.getD_eq_getElem?_getD, List.getD_eq_getElem?_getD, List.getElem?_eq_getElem hj, List.getElem?_eq_getElem (by omega)]
  exact List.pairwise_iff_getElem.1 h j (j + 1) (by omega) hj (by omega)
theorem drewN_below {B n : Nat} {w W : World} (h : Below B w W) : Below B w (W.drewN n) := ⟨h.os, h.tape, h.output, h.size, h.block⟩
end Go.Proofs.YtdeeeechdlcdbaaGreat.TcP
