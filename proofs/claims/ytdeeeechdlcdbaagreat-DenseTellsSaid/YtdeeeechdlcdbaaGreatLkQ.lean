/- Which nodes are linked, step by step, in plain Lean. -/
import Derived.Test.YtdeeeechdlcdbaaGreatLp
import Derived.Test.YtdeeeechdlcdbaaGreatLm
set_option linter.unusedVariables false
set_option linter.unusedSimpArgs false
namespace Go.Proofs.YtdeeeechdlcdbaaGreat.LkQ
open Go Go.RowKit Go.Proofs.YtdeeeechdlcdbaaGreat.Base Go.Proofs.YtdeeeechdlcdbaaGreat.TrP Go.Proofs.YtdeeeechdlcdbaaGreat.TrQ Go.Proofs.YtdeeeechdlcdbaaGreat.TtP Go.Proofs.YtdeeeechdlcdbaaGreat.LkP Go.Proofs.YtdeeeechdlcdbaaGreat.LkO Go.Proofs.YtdeeeechdlcdbaaGreat.LkA
theorem dep_tx (X : List Pn) (k : Nat) : dep X k = (tx X k).length := by unfold dep tx; exact size_list _
/-- Linked: the root, the sons of the first k nodes of the order, the sons of the next one by the bytes S. -/
def Done (X : List Pn) (L : List Nat) (k : Nat) (S : List Int) (x : Nat) : Prop :=
  x = 0 ∨ (∃ j c, j < k ∧ (0 ≤ c ∧ c ≤ 255) ∧ (X.getD (L.getD j 0) noPn).sons c = some x) ∨ ∃ c, c ∈ S ∧ (0 ≤ c ∧ c ≤ 255) ∧ (X.getD (L.getD k 0) noPn).sons c = some x
structure LkInv (X : List Pn) (L : List Nat) (k : Nat) (S : List Int) (F O : List Nat) : Prop where
  lg : ∀ x, x < X.length → Done X L k S x → Lg X (tx X x) ((tx X x).length - 1) (F.getD x 0)
  ot : ∀ x, x < X.length → Done X L k S x → Ot X (tx X x) ((tx X x).length - 1) (O.getD x 0)
  zero : ∀ x, x < X.length → ¬ Done X L k S x → F.getD x 0 = 0
section
variable {zs : List ByteArray} {id : Nat} {X : List Pn} (hG : TrP.Good zs id X) (hF : Fine X)
theorem getD_rep (n x : Nat) : (List.replicate n 0).getD x 0 = 0 := by
  rw [List.getD_eq_getElem?_getD, List.getElem?_replicate]; split <;> rfl
include hG in
theorem inv_start (n : Nat) : LkInv X (ordL (dep X) X.length) 0 [] (List.replicate n 0) (List.replicate n 0) := by
  have hd : ∀ x, Done X (ordL (dep X) X.length) 0 [] x → x = 0 := by
    rintro x (h | ⟨j, c, h, _⟩ | ⟨c, h, _⟩)
    · exact h
    · omega
    · cases h
  refine ⟨fun x hx h => ?_, fun x hx h => ?_, fun x _ _ => getD_rep _ _⟩
  · obtain rfl := hd x h
    rw [getD_rep, tx0 hG]; exact lg_none hG _
  · obtain rfl := hd x h
    rw [getD_rep, tx0 hG]; exact ot_none hG _
theorem ord_at {D : Nat → Nat} {n k : Nat} (hk : k < n) : (ordL D n).getD k 0 < n := by
  have hl : k < (ordL D n).length := by rw [ord_length]; exact hk
  rw [List.getD_eq_getElem?_getD, List.getElem?_eq_getElem hl]
  exact (ord_mem D n).1 (List.getElem_mem hl)
theorem ord_has {D : Nat → Nat} {n x : Nat} (hx : x < n) : ∃ j, j < n ∧ (ordL D n).getD j 0 = x := by
  obtain ⟨j, hj, he⟩ := List.getElem_of_mem ((ord_mem D n).2 hx)
  refine ⟨j, by rw [ord_length] at hj; exact hj, ?_⟩
  rw [List.getD_eq_getElem?_getD, List.getElem?_eq_getElem hj]; exact he
theorem ord_lt {D : Nat → Nat} {n j k : Nat} (hj : j < n) (hk : k < n) (h : D ((ordL D n).getD j 0) < D ((ordL D n).getD k 0)) : j < k := by
  have hl : ∀ i, i < n → i < (ordL D n).length := fun i hi => by rw [ord_length]; exact hi
  rcases Nat.lt_trichotomy j k with h1 | h1 | h1
  · exact h1
  · subst h1; omega
  · exfalso
    have := List.pairwise_iff_getElem.1 (ord_pw D n) k j (hl k hk) (hl j hj) h1
    rw [List.getD_eq_getElem?_getD, List.getElem?_eq_getElem (hl j hj), List.getD_eq_getElem?_getD, List.getElem?_eq_getElem (hl k hk)] at h
    simp only [Option.getD_some] at h
    rcases this with h2 | ⟨h2, _⟩ <;> omega
theorem ord_inj {D : Nat → Nat} {n j k : Nat} (hj : j < n) (hk : k < n) (h : (ordL D n).getD j 0 = (ordL D n).getD k 0) : j = k := by
  have hl : ∀ i, i < n → i < (ordL D n).length := fun i hi => by rw [ord_length]; exact hi
  rw [List.getD_eq_getElem?_getD, List.getElem?_eq_getElem (hl j hj), List.getD_eq_getElem?_getD, List.getElem?_eq_getElem (hl k hk)] at h
  have h2 : (ordL D n)[j]'(hl j hj) = (ordL D n)[k]'(hl k hk) := h
  have hn := List.pairwise_iff_getElem.1 (ord_nodup D n)
  rcases Nat.lt_trichotomy j k with h1 | h1 | h1
  · exact absurd h2 (hn j k (hl j hj) (hl k hk) h1)
  · exact h1
  · exact absurd h2.symm (hn k j (hl k hk) (hl j hj) h1)
theorem byte_of (b : UInt8) : byte ((b.toNat : Nat) : Int) = b := by
  unfold byte
  simp
include hF in
/-- Each node but the root is a node's son. -/
theorem has_dad {x : Nat} (hx : x < X.length) (h0 : 0 < x) : ∃ i c, i < X.length ∧ (0 ≤ c ∧ c ≤ 255) ∧ (X.getD i noPn).sons c = some x ∧ (tx X x).length = (tx X i).length + 1 := by
  obtain ⟨i, b, hi, he⟩ := hF.dad x h0 hx
  have hb := b.toNat_lt
  refine ⟨i, ((b.toNat : Nat) : Int), hi, by omega, hF.full i x _ (by omega) hi hx ?_, by rw [he]; simp⟩
  rw [he]
  congr 2
  exact (byte_of b).symm
include hF in
/-- What is no deeper than the next node is linked. -/
theorem inv_pre {k : Nat} (hk : k < X.length) {S : List Int} {y : Nat} (hy : y < X.length) (hl : (tx X y).length ≤ (tx X ((ordL (dep X) X.length).getD k 0)).length) : Done X (ordL (dep X) X.length) k S y := by
  rcases Nat.eq_zero_or_pos y with h0 | h0
  · exact .inl h0
  · obtain ⟨i, c, hi, hc, hs, hln⟩ := has_dad hF hy h0
    obtain ⟨j, hj, he⟩ := ord_has (D := dep X) hi
    refine .inr (.inl ⟨j, c, ord_lt (D := dep X) hj hk ?_, hc, by rw [he]; exact hs⟩)
    rw [he, dep_tx, dep_tx]; omega
include hG hF in
theorem sons_one {i i' x : Nat} {c c' : Int} (hi : i < X.length) (hi' : i' < X.length) (hc : 0 ≤ c ∧ c ≤ 255) (hc' : 0 ≤ c' ∧ c' ≤ 255) (h : (X.getD i noPn).sons c = some x) (h' : (X.getD i' noPn).sons c' = some x) : i = i' ∧ c = c' := by
  have h1 := (lg_son hG hi h).2.1
  have h2 := (lg_son hG hi' h').2.1
  rw [h1] at h2
  have h3 := List.append_inj' h2 rfl
  refine ⟨hF.dist i i' hi hi' h3.1, byte_inj hc hc' ?_⟩
  simpa [byte] using h3.2
include hG hF in
/-- The next son is not linked yet. -/
theorem inv_new {k x : Nat} (hk : k < X.length) {S : List Int} {c : Int} (hc : 0 ≤ c ∧ c ≤ 255) (hS : c ∉ S) (hx : (X.getD ((ordL (dep X) X.length).getD k 0) noPn).sons c = some x) : ¬ Done X (ordL (dep X) X.length) k S x := by
  have hi := ord_at (D := dep X) hk
  rintro (h | ⟨j, c', hj, hc', h⟩ | ⟨c', hm, hc', h⟩)
  · subst h
    have := (lg_son hG hi hx).2.1
    rw [tx0 hG] at this
    simp at this
  · have hj' := ord_at (D := dep X) (show j < X.length by omega)
    have := (sons_one hG hF hi hj' hc hc' hx h).1
    have := ord_inj hk (by omega) this
    omega
  · have := (sons_one hG hF hi hi hc hc' hx h).2
    subst this
    exact hS hm
theorem done_snoc {L : List Nat} {k x y : Nat} {S : List Int} {c : Int} (hc : 0 ≤ c ∧ c ≤ 255) (hx : (X.getD (L.getD k 0) noPn).sons c = some x) : Done X L k (S ++ [c]) y ↔ Done X L k S y ∨ y = x := by
  constructor
  · rintro (h | h | ⟨c', hm, hc', h⟩)
    · exact .inl (.inl h)
    · exact .inl (.inr (.inl h))
    · rcases List.mem_append.1 hm with h1 | h1
      · exact .inl (.inr (.inr ⟨c', h1, hc', h⟩))
      · rw [List.mem_singleton] at h1
        subst h1
        rw [hx] at h
        exact .inr (Option.some.inj h).symm
  · rintro ((h | h | ⟨c', hm, hc', h⟩) | h)
    · exact .inl h
    · exact .inr (.inl h)
    · exact .inr (.inr ⟨c', List.mem_append_left _ hm, hc', h⟩)
    · subst h
      exact .inr (.inr ⟨c, by simp, hc, hx⟩)
theorem getD_set2 {F : List Nat} {i j x : Nat} (hi : i < F.length) : (F.set i x).getD j 0 = if i = j then x else F.getD j 0 := by
  rw [List.getD_eq_getElem?_getD, List.getD_eq_getElem?_getD, List.getElem?_set]
  by_cases h : i = j
  · subst h; simp [hi]
  · simp [h]
/-- One son more. -/
theorem inv_next {L : List Nat} {k x f o : Nat} {S : List Int} {F O : List Nat} {c : Int} (h : LkInv X L k S F O) (hc : 0 ≤ c ∧ c ≤ 255) (hx : (X.getD (L.getD k 0) noPn).sons c = some x) (hlF : x < F.length) (hlO : x < O.length)
    (hf : Lg X (tx X x) ((tx X x).length - 1) f) (ho : Ot X (tx X x) ((tx X x).length - 1) o) : LkInv X L k (S ++ [c]) (F.set x f) (O.set x o) := by
  refine ⟨fun y hy hd => ?_, fun y hy hd => ?_, fun y hy hd => ?_⟩
  · rw [getD_set2 hlF]
    by_cases hxy : x = y
    · subst hxy; rw [if_pos rfl]; exact hf
    · rw [if_neg hxy]
      exact h.lg y hy (((done_snoc hc hx).1 hd).resolve_right (fun e => hxy e.symm))
  · rw [getD_set2 hlO]
    by_cases hxy : x = y
    · subst hxy; rw [if_pos rfl]; exact ho
    · rw [if_neg hxy]
      exact h.ot y hy (((done_snoc hc hx).1 hd).resolve_right (fun e => hxy e.symm))
  · rw [getD_set2 hlF]
    have hxy : x ≠ y := fun e => hd ((done_snoc hc hx).2 (.inr e.symm))
    rw [if_neg hxy]
    exact h.zero y hy (fun hdd => hd ((done_snoc hc hx).2 (.inl hdd)))
/-- A node's sons are all linked. -/
theorem inv_row {L : List Nat} {k : Nat} {F O : List Nat} (h : LkInv X L k (sonsL (X.getD (L.getD k 0) noPn).sons) F O) : LkInv X L (k + 1) [] F O := by
  have e : ∀ x, Done X L (k + 1) [] x ↔ Done X L k (sonsL (X.getD (L.getD k 0) noPn).sons) x := by
    intro x
    constructor
    · rintro (h1 | ⟨j, c, hj, hc, h1⟩ | ⟨c, hm, _⟩)
      · exact .inl h1
      · rcases Nat.lt_or_ge j k with h2 | h2
        · exact .inr (.inl ⟨j, c, h2, hc, h1⟩)
        · have : j = k := by omega
          subst this
          exact .inr (.inr ⟨c, mem_sonsL.2 ⟨hc, by rw [h1]; rfl⟩, hc, h1⟩)
      · cases hm
    · rintro (h1 | ⟨j, c, hj, hc, h1⟩ | ⟨c, hm, hc, h1⟩)
      · exact .inl h1
      · exact .inr (.inl ⟨j, c, by omega, hc, h1⟩)
      · exact .inr (.inl ⟨k, c, by omega, hc, h1⟩)
  exact ⟨fun x hx hd => h.lg x hx ((e x).1 hd), fun x hx hd => h.ot x hx ((e x).1 hd), fun x hx hd => h.zero x hx (fun hdd => hd ((e x).2 hdd))⟩
/-- What links are worth. -/
structure LkOk (X : List Pn) (F O L : List Nat) : Prop where
  lg : ∀ x, x < X.length → Lg X (tx X x) ((tx X x).length - 1) (F.getD x 0)
  ot : ∀ x, x < X.length → Ot X (tx X x) ((tx X x).length - 1) (O.getD x 0)
  ord : L = ordL (dep X) X.length
include hF in
theorem inv_end {F O : List Nat} (h : LkInv X (ordL (dep X) X.length) X.length [] F O) : LkOk X F O (ordL (dep X) X.length) := by
  have hd : ∀ x, x < X.length → Done X (ordL (dep X) X.length) X.length [] x := by
    intro x hx
    rcases Nat.eq_zero_or_pos x with h0 | h0
    · exact .inl h0
    · obtain ⟨i, c, hi, hc, hs, _⟩ := has_dad hF hx h0
      obtain ⟨j, hj, he⟩ := ord_has (D := dep X) hi
      exact .inr (.inl ⟨j, c, hj, hc, by rw [he]; exact hs⟩)
  exact ⟨fun x hx => h.lg x hx (hd x hx), fun x hx => h.ot x hx (hd x hx), rfl⟩
end
end Go.Proofs.YtdeeeechdlcdbaaGreat.LkQ
