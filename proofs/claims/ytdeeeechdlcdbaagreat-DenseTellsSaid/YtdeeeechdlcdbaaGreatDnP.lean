/- All steps laid out, in plain Lean: a node's row out of the row where one goes on, and the node's sons. -/
import Derived.Test.YtdeeeechdlcdbaaGreatLp
import Derived.Test.YtdeeeechdlcdbaaGreatLkQ
set_option linter.unusedVariables false
set_option linter.unusedSimpArgs false
namespace Go.Proofs.YtdeeeechdlcdbaaGreat.DnP
open Go Go.RowKit Go.Proofs.YtdeeeechdlcdbaaGreat.Base Go.Proofs.YtdeeeechdlcdbaaGreat.TrP Go.Proofs.YtdeeeechdlcdbaaGreat.TrQ Go.Proofs.YtdeeeechdlcdbaaGreat.TtP Go.Proofs.YtdeeeechdlcdbaaGreat.LkP Go.Proofs.YtdeeeechdlcdbaaGreat.LkO Go.Proofs.YtdeeeechdlcdbaaGreat.LkA Go.Proofs.YtdeeeechdlcdbaaGreat.LkQ Go.Proofs.YtdeeeechdlcdbaaGreat.ScP
/-- A step from node n by byte c leads to r. -/
def Goes (X : List Pn) (n : Nat) (c : Int) (r : Nat) : Prop := Lg X (tx X n ++ [byte c]) ((tx X n).length + 1) r
/-- A node's row: where each byte leads. -/
structure RowOk (X : List Pn) (n : Nat) (row : List Nat) : Prop where
  len : row.length = 256
  goes : ∀ c : Nat, c ≤ 255 → Goes X n (c : Int) (row.getD c 0)
/-- A row of which the sons by the bytes S are laid. -/
structure RowIn (X : List Pn) (n : Nat) (S : List Int) (row : List Nat) : Prop where
  len : row.length = 256
  son : ∀ (c x : Nat), (c : Int) ∈ S → c ≤ 255 → (X.getD n noPn).sons (c : Int) = some x → row.getD c 0 = x
  none : ∀ c : Nat, c ≤ 255 → (X.getD n noPn).sons (c : Int) = none → Goes X n (c : Int) (row.getD c 0)
/-- Of the first k nodes of the order the rows are laid. -/
structure TabIn (X : List Pn) (k : Nat) (R : List (List Nat)) : Prop where
  len : R.length = X.length
  row : ∀ j, j < k → j < X.length → RowOk X ((ordL (dep X) X.length).getD j 0) (R.getD ((ordL (dep X) X.length).getD j 0) [])
def TabOk (X : List Pn) (R : List (List Nat)) : Prop := R.length = X.length ∧ ∀ n, n < X.length → RowOk X n (R.getD n [])
def zeroRow : List Nat := List.replicate 256 0
theorem zeroRow_len : zeroRow.length = 256 := by unfold zeroRow; exact List.length_replicate
theorem zeroRow_at (c : Nat) : zeroRow.getD c 0 = 0 := by unfold zeroRow; exact getD_rep _ _
theorem getD_set3 {l : List (List Nat)} {i j : Nat} {x : List Nat} (hi : i < l.length) : (l.set i x).getD j [] = if i = j then x else l.getD j [] := by
  rw [List.getD_eq_getElem?_getD, List.getD_eq_getElem?_getD, List.getElem?_set]
  by_cases h : i = j
  · subst h; simp [hi]
  · simp [h]
section
variable {zs : List ByteArray} {X : List Pn} (hT : Tr zs X)
include hT in
theorem row_zero : RowIn X 0 [] zeroRow := by
  refine ⟨zeroRow_len, fun c x h => (by cases h), fun c hc hn => ?_⟩
  rw [zeroRow_at]
  unfold Goes
  rw [tx0 hT.good]
  exact lg_root hT.good hT.fine (by omega) hn
include hT in
theorem row_from {F O L : List Nat} (hok : LkOk X F O L) {n : Nat} (hn : n < X.length) {row : List Nat} (h : RowOk X (F.getD n 0) row) : RowIn X n [] row :=
  ⟨h.len, fun c x h => (by cases h), fun c hc hno => lg_step hT.good hT.fine hn (by omega) hno (hok.lg n hn) (h.goes c hc)⟩
theorem row_son {n c x : Nat} {S : List Int} {row : List Nat} (h : RowIn X n S row) (hc : c ≤ 255) (hx : (X.getD n noPn).sons (c : Int) = some x) : RowIn X n (S ++ [(c : Int)]) (row.set c x) := by
  have hl : c < row.length := by rw [h.len]; omega
  refine ⟨by rw [List.length_set]; exact h.len, fun d y hd hd2 hy => ?_, fun d hd hn => ?_⟩
  · rw [getD_set2 hl]
    by_cases e : c = d
    · subst e
      rw [if_pos rfl]
      rw [hx] at hy
      exact Option.some.inj hy
    · rw [if_neg e]
      rcases List.mem_append.1 hd with h1 | h1
      · exact h.son d y h1 hd2 hy
      · rw [List.mem_singleton] at h1; omega
  · rw [getD_set2 hl]
    by_cases e : c = d
    · subst e; rw [hx] at hn; cases hn
    · rw [if_neg e]; exact h.none d hd hn
include hT in
theorem row_end {n : Nat} (hn : n < X.length) {row : List Nat} (h : RowIn X n (sonsL (X.getD n noPn).sons) row) : RowOk X n row := by
  refine ⟨h.len, fun c hc => ?_⟩
  cases hs : (X.getD n noPn).sons (c : Int) with
  | none => exact h.none c hc hs
  | some x =>
    rw [h.son c x (mem_sonsL.2 ⟨by omega, by rw [hs]; rfl⟩) hc hs]
    exact (lg_son hT.good hn hs).2.2
theorem tab_start {R : List (List Nat)} (h : R.length = X.length) : TabIn X 0 R := ⟨h, fun j hj => absurd hj (Nat.not_lt_zero _)⟩
include hT in
/-- Where one goes on from the next node, a row is laid. -/
theorem tab_fail {F O L : List Nat} (hok : LkOk X F O L) {k : Nat} (hk : k < X.length) {R : List (List Nat)} (h : TabIn X k R) (h0 : (ordL (dep X) X.length).getD k 0 ≠ 0) :
    F.getD ((ordL (dep X) X.length).getD k 0) 0 < X.length ∧ RowOk X (F.getD ((ordL (dep X) X.length).getD k 0) 0) (R.getD (F.getD ((ordL (dep X) X.length).getD k 0) 0) []) := by
  have hn := ord_at (D := dep X) hk
  generalize hN : (ordL (dep X) X.length).getD k 0 = n at hn h0
  have hf := hok.lg n hn
  have hp := (tx_pos hT.good hT.fine hn).1 (by omega)
  have hle := hf.le
  refine ⟨hf.lt, ?_⟩
  obtain ⟨j, hj, he⟩ := ord_has (D := dep X) hf.lt
  have hjk : j < k := ord_lt (D := dep X) hj hk (by rw [he, hN, dep_tx, dep_tx]; omega)
  have := h.row j hjk hj
  rw [he] at this
  exact this
theorem tab_next {k : Nat} (hk : k < X.length) {R : List (List Nat)} (h : TabIn X k R) {row : List Nat} (hr : RowOk X ((ordL (dep X) X.length).getD k 0) row) : TabIn X (k + 1) (R.set ((ordL (dep X) X.length).getD k 0) row) := by
  have hn := ord_at (D := dep X) hk
  have hl : (ordL (dep X) X.length).getD k 0 < R.length := by rw [h.len]; exact hn
  refine ⟨by rw [List.length_set]; exact h.len, fun j hj hjX => ?_⟩
  have e : ∀ i, (R.set ((ordL (dep X) X.length).getD k 0) row).getD i [] = if (ordL (dep X) X.length).getD k 0 = i then row else R.getD i [] := fun i => by
    exact getD_set3 hl
  rw [e]
  by_cases hij : (ordL (dep X) X.length).getD k 0 = (ordL (dep X) X.length).getD j 0
  · rw [if_pos hij, ← hij]; exact hr
  · rw [if_neg hij]
    refine h.row j ?_ hjX
    have : j ≠ k := fun e => hij (by rw [e])
    omega
theorem tab_end {R : List (List Nat)} (h : TabIn X X.length R) : TabOk X R := by
  refine ⟨h.len, fun n hn => ?_⟩
  obtain ⟨j, hj, he⟩ := ord_has (D := dep X) hn
  have := h.row j hj hj
  rw [he] at this
  exact this
end
end Go.Proofs.YtdeeeechdlcdbaaGreat.DnP
