/- What a store into a trie does to it. -/
import Derived.Test.YtdeeeechdlcdbaaTrB
set_option linter.unusedSimpArgs false
set_option linter.unusedVariables false
namespace Go.Proofs.Ytdeeeechdlcdbaa.TrC
open Go Go.RowKit Go.Proofs.Ytdeeeechdlcdbaa.Base Go.Proofs.Ytdeeeechdlcdbaa.TrP Go.Proofs.Ytdeeeechdlcdbaa.TrM Go.Proofs.Ytdeeeechdlcdbaa.TrA Go.Proofs.Ytdeeeechdlcdbaa.TrB
def setNd (f : Pn → Pn) (n : Nd) : Nd := ⟨f n.p, n.mp⟩
theorem map_modify (N : List Nd) (k : Nat) (f : Pn → Pn) : (N.modify k (setNd f)).map (·.p) = (N.map (·.p)).modify k f := by
  apply List.ext_getElem?
  intro i
  rw [List.getElem?_map, List.getElem?_modify, List.getElem?_modify, List.getElem?_map]
  cases N[i]? with
  | none => rfl
  | some x => by_cases h : k = i <;> simp [h, setNd]
theorem mps_modify (N : List Nd) (k : Nat) (f : Pn → Pn) : (N.modify k (setNd f)).map (·.mp) = N.map (·.mp) := by
  apply List.ext_getElem?
  intro i
  rw [List.getElem?_map, List.getElem?_modify, List.getElem?_map]
  cases N[i]? with
  | none => rfl
  | some x => by_cases h : k = i <;> simp [h, setNd]
theorem flat_set : ∀ (N : List Nd) (k : Nat) (x : Int), k < N.length → (N.flatMap cells3).set (k * 3 + 1) (.int .i64 x) = (N.modify k (setNd (setWord x))).flatMap cells3
  | [], k, x, h => by simp at h
  | n :: N, 0, x, _ => by
    have e : (n :: N).modify 0 (setNd (setWord x)) = setNd (setWord x) n :: N := rfl
    rw [e, List.flatMap_cons, List.flatMap_cons]
    rfl
  | n :: N, k + 1, x, h => by
    have e : (n :: N).modify (k + 1) (setNd (setWord x)) = n :: N.modify k (setNd (setWord x)) := rfl
    rw [e, List.flatMap_cons, List.flatMap_cons, List.set_append_right _ _ (by simp [cells3]; omega), ← flat_set N k x (by simpa using h)]
    congr 2
    simp [cells3]; omega
theorem flat_same : ∀ (N : List Nd) (k : Nat) (f : Pn → Pn), (∀ q mp, cells3 ⟨f q, mp⟩ = cells3 ⟨q, mp⟩) → (N.modify k (setNd f)).flatMap cells3 = N.flatMap cells3
  | [], k, f, _ => by cases k <;> rfl
  | n :: N, 0, f, hf => by
    have e : (n :: N).modify 0 (setNd f) = setNd f n :: N := rfl
    rw [e, List.flatMap_cons, List.flatMap_cons]
    congr 1
    exact hf n.p n.mp
  | n :: N, k + 1, f, hf => by
    have e : (n :: N).modify (k + 1) (setNd f) = n :: N.modify k (setNd f) := rfl
    rw [e, List.flatMap_cons, List.flatMap_cons, flat_same N k f hf]
section
variable {B p m : Nat} {N : List Nd} {w : World}
/-- The phrase's number, stored into its node. -/
theorem word_set (h : TrieAt B w p N m) {k : Nat} {g cp : Nat} (hk : k < N.length) (hc : w.cell? ⟨p, 0, none⟩ = some (.slice (some ⟨g, 0, none⟩) N.length cp)) (x : Int) :
    TrieAt B (w.setCell ⟨g, k * 3 + 1, none⟩ (.int .i64 x)) p (N.modify k (setNd (setWord x))) m ∧ Keeps w (w.setCell ⟨g, k * 3 + 1, none⟩ (.int .i64 x)) ∧ Below B w (w.setCell ⟨g, k * 3 + 1, none⟩ (.int .i64 x)) := by
  obtain ⟨v, hv, hr⟩ := h.row
  have hvv : v = .slice (some ⟨g, 0, none⟩) N.length cp := by
    have := cell_of (i := 0) hv rfl
    rw [hc] at this
    exact (Option.some.inj this).symm
  subst hvv
  have hge := own_ge hr g rfl
  have hne : g ≠ p := fun e => own_ne hr hv (by decide) (by rw [e]; rfl)
  have hgh : ∃ cur, w.heap[g]? = some (.cells cur 106 (0, 0)) := by
    rcases hr.2 with ⟨h1, _⟩ | ⟨g', cap, cur, h1, _, h3, _⟩
    · cases h1
    · injection h1 with h1 _ _
      obtain rfl : g = g' := by injection h1 with h1; injection h1
      exact ⟨cur, h3⟩
  obtain ⟨cur, hgh⟩ := hgh
  have hst := (World.ownsRow.stored hr (k * 3 + 1) (.int .i64 x)).1
  rw [flat_set N k x hk] at hst
  refine ⟨⟨h.ge, ⟨.slice (some ⟨g, 0, none⟩) N.length cp, ?_, ?_⟩, fun nd hn => ?_, ?_⟩, Keeps.of_set _ hgh (.inr rfl), (Below.refl _ _).setCell hge _⟩
  · rw [Below.heap_setCell _ _ _ _ (fun e => hne e.symm)]; exact hv
  · rw [List.length_modify]; exact hst
  · have hmp : nd.mp ∈ N.map (·.mp) := by rw [← mps_modify N k (setWord x)]; exact List.mem_map.2 ⟨nd, hn, rfl⟩
    obtain ⟨j, hj⟩ := List.mem_iff_getElem?.1 hn
    rw [List.getElem?_modify] at hj
    cases hNj : N[j]? with
    | none => rw [hNj] at hj; cases hj
    | some n0 =>
      rw [hNj] at hj
      obtain ⟨h1, h2⟩ := h.maps n0 (List.mem_of_getElem? hNj)
      have h3 : MapAt (w.setCell ⟨g, k * 3 + 1, none⟩ (.int .i64 x)) m n0.mp n0.p.sons := h2.setCell (h2.ne hgh) _
      by_cases hkj : k = j
      · simp [hkj] at hj; subst hj; exact ⟨h1, h3⟩
      · simp [hkj] at hj; subst hj; exact ⟨h1, h3⟩
  · rw [mps_modify]; exact h.apart
/-- A son, stored into a node's map. -/
theorem put_set (h : TrieAt B w p N m) {k : Nat} {nd : Nd} (hk : N[k]? = some nd) {w' : World} {c : Int} {x : Nat} (hm : MapAt w' (m + 1) nd.mp (fun d => if d = c then some x else nd.p.sons d)) (hg : w.grownBy w' (some nd.mp)) :
    TrieAt B w' p (N.modify k (setNd (setSon c x))) (m + 1) ∧ Keeps w w' ∧ Below B w w' := by
  obtain ⟨v, hv, hr⟩ := h.row
  obtain ⟨hB, hmk⟩ := h.maps nd (List.mem_of_getElem? hk)
  have kp : Keeps w w' := Keeps.of_grown hg (fun cs t hcs => absurd rfl (hmk.ne hcs))
  have bl : Below B w w' := ⟨hg.os, hg.tape, hg.output, hg.size, fun i hi => hg.block i (Nat.lt_of_lt_of_le hi (Nat.le_of_lt (Nat.lt_of_le_of_lt hB hmk.lt))) (fun e => by have := Option.some.inj e; omega)⟩
  have hrow : w'.ownsRow B 106 3 v N.length (N.flatMap cells3) := by
    refine ⟨hr.1, ?_⟩
    rcases hr.2 with h1 | ⟨g, cap, cur, h1, h2, h3, h4⟩
    · exact .inl h1
    · refine .inr ⟨g, cap, cur, h1, h2, (hg.block g (heap_lt h3) ?_).trans h3, h4⟩
      intro e
      exact hmk.ne h3 (Option.some.inj e).symm
  refine ⟨⟨h.ge, ⟨v, (hg.block p (heap_lt hv) (fun e => hmk.ne hv (Option.some.inj e).symm)).trans hv, ?_⟩, fun n1 hn => ?_, ?_⟩, kp, bl⟩
  · rw [List.length_modify, flat_same N k (setSon c x) (fun q mp => rfl)]; exact hrow
  · obtain ⟨j, hj⟩ := List.mem_iff_getElem?.1 hn
    rw [List.getElem?_modify] at hj
    cases hNj : N[j]? with
    | none => rw [hNj] at hj; cases hj
    | some n0 =>
      rw [hNj] at hj
      obtain ⟨h1, h2⟩ := h.maps n0 (List.mem_of_getElem? hNj)
      by_cases hkj : k = j
      · subst hkj
        rw [hk] at hNj
        obtain rfl := Option.some.inj hNj
        simp at hj; subst hj
        exact ⟨h1, hm⟩
      · simp [hkj] at hj; subst hj
        refine ⟨h1, (h2.kept hg ?_).mono (by omega)⟩
        intro e
        have e := Option.some.inj e
        have hjl : j < (N.map (·.mp)).length := by have := (List.getElem?_eq_some_iff.1 hNj).1; simpa using this
        have hkl : k < (N.map (·.mp)).length := by have := (List.getElem?_eq_some_iff.1 hk).1; simpa using this
        have a1 : (N.map (·.mp))[j] = n0.mp := by
          have q : (N.map (·.mp))[j]? = some n0.mp := by rw [List.getElem?_map, hNj]; rfl
          rw [List.getElem?_eq_getElem hjl] at q
          exact Option.some.inj q
        have a2 : (N.map (·.mp))[k] = nd.mp := by
          have q : (N.map (·.mp))[k]? = some nd.mp := by rw [List.getElem?_map, hk]; rfl
          rw [List.getElem?_eq_getElem hkl] at q
          exact Option.some.inj q
        have hap := List.pairwise_iff_getElem.1 h.apart
        rcases Nat.lt_or_ge j k with hlt | hge
        · exact hap j k hjl hkl hlt (by rw [a1, a2, e])
        · exact hap k j hkl hjl (by omega) (by rw [a1, a2, e])
  · rw [mps_modify]; exact h.apart
end
end Go.Proofs.Ytdeeeechdlcdbaa.TrC
