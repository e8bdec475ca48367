/- What a law's arguments are when the call begins: slices of numbers, bools and strings, as lists. -/
import Derived.WalkKit
import Derived.ProofKit
import Derived.OpenShut
import Derived.ShutString
import Derived.ChangeOld
import Derived.Below
import Derived.SizedLaws
import Derived.SliceStrings
import Derived.Deep.Grids
namespace Go.Proofs.YtdeeeechdlcdbaaGreat.Args
open Go Go.ChangeShapes Go.WideShapes Go.ChangeAt Go.RowKit

/-- A slice of whole numbers that came in. -/
structure IntsIn (k : IntKind) (w : World) (A : Option Addr) (n cap : Nat) (zs : List Int) : Prop where
  len : zs.length = n
  le : n ≤ cap
  size : n ≤ 140737488351232
  at_ : 0 < n → ∃ ad : Addr, A = some ad ∧ ∀ j, j < n → w.cell? (ad.add j) = some (.int k (zs.getD j 0))
  wf : ∀ x ∈ zs, (Lit.int k x).wf = true
/-- A slice of strings that came in. -/
structure StrsIn (w : World) (A : Option Addr) (n cap : Nat) (zs : List ByteArray) : Prop where
  len : zs.length = n
  le : n ≤ cap
  size : n ≤ 140737488351232
  at_ : 0 < n → ∃ ad : Addr, A = some ad ∧ ∀ j, j < n → w.cell? (ad.add j) = some (.string (zs.getD j ByteArray.empty))
  each : ∀ x ∈ zs, x.size ≤ 140737488351232
  nil : A = none → n = 0 ∧ cap = 0

/-- A slice of bools that came in. -/
structure BoolsIn (w : World) (A : Option Addr) (n cap : Nat) (B : Nat → Bool) : Prop where
  le : n ≤ cap
  size : cap ≤ 9223372036854775807
  at_ : 0 < n → ∃ ad : Addr, A = some ad ∧ ∀ j, j < n → w.cell? (ad.add j) = some (.bool (B j))

section
variable {H : Type} {enc : TypeId × Value → H} {P : Program} {W : World} {base : Nat} {spare : Nat → Bool} {held : Bool} {t e : TypeId} {v : Value} {d : DataW H} {ps : List MemPlace} {ts : List TypeId} {ds : List (DataW H)} {j : Nat} {r : Reach} {b0 : Nat}

theorem ints_in {k : IntKind} (hsz : (DataW.weightsEach P ts ds).all (· ≤ reachBytes) = true) (ht : ts[j]? = some t) (hd : ds[j]? = some d) (hu : P.underlying t = some (.slice e)) (he : P.underlying e = some (.int k)) (hc : P.cellsOf e = 1) (hB : 1 ≤ P.bytesOf e)
    (hv : Value.okWide P W r base t v) (h : DataW.Trod enc P W b0 spare held t v d ps) : ∃ A n cap zs, v = .slice A n cap ∧ IntsIn k W A n cap zs := by
  obtain ⟨A, n, cap, rfl⟩ := okWide_slice hu hv
  refine ⟨A, n, cap, ?_⟩
  obtain ⟨fuel, hf⟩ := h
  rcases open_ints hu he hc hf with ⟨hcs, _⟩ | ⟨x, l, c, zs, hcs, _, hl, hm, hz, hx, hcell, hwz⟩
  · simp [Value.cells] at hcs
    obtain ⟨rfl, rfl, rfl⟩ := hcs
    exact ⟨[], rfl, ⟨rfl, Nat.le_refl _, by omega, fun h => by omega, fun x hx => by cases hx⟩⟩
  · simp [Value.cells] at hcs
    obtain ⟨rfl, rfl, rfl⟩ := hcs
    obtain ⟨hx, _⟩ := Prod.mk.inj hx
    subst hx
    have hl2 : n ≤ zs.length := by
      rw [hz]
      split
      · exact hl
      · exact Nat.le_refl _
    have z := sized_slice hsz ht hd hu
    have h1 : (lits (H := H) k (zs.take n)).length + (lits (H := H) k (zs.drop n)).length = zs.length := by
      simp [lits]
      omega
    rw [h1] at z
    have hr : reachBytes = 140737488351232 := by decide
    have hm := Nat.mul_le_mul_left zs.length hB
    refine ⟨zs.take n, rfl, ⟨by simp; omega, hl, by omega, fun _ => ⟨x, rfl, fun i hi => ?_⟩, fun y hy => hwz y (List.mem_of_mem_take hy)⟩⟩
    rw [hcell i (by omega)]
    simp [List.getD_eq_getElem?_getD, hi]

theorem bools_in (_hsz : (DataW.weightsEach P ts ds).all (· ≤ reachBytes) = true) (_ht : ts[j]? = some t) (_hd : ds[j]? = some d) (hu : P.underlying t = some (.slice e)) (he : P.underlying e = some .bool) (hc : P.cellsOf e = 1) (_hB : 1 ≤ P.bytesOf e)
    (hv : Value.okWide P W r base t v) (h : DataW.Trod enc P W b0 (fun _ => true) held t v d ps) : ∃ A n cap B, v = .slice A n cap ∧ BoolsIn W A n cap B := by
  obtain ⟨A, n, cap, rfl⟩ := okWide_slice hu hv
  refine ⟨A, n, cap, ?_⟩
  obtain ⟨fuel, hf⟩ := h
  rcases Go.Deep.open_bools hu he hc hf with ⟨hcs, _⟩ | ⟨a, len, c, B, hcs, _, hl, hm, _, hcell⟩
  · simp [Value.cells] at hcs
    obtain ⟨rfl, rfl, rfl⟩ := hcs
    exact ⟨fun _ => false, rfl, ⟨Nat.le_refl _, by omega, fun h => by omega⟩⟩
  · simp [Value.cells] at hcs
    obtain ⟨rfl, rfl, rfl⟩ := hcs
    exact ⟨B, rfl, ⟨hl, by simp only [maxLen] at hm; omega, fun _ => ⟨a, rfl, fun i hi => hcell i (by omega)⟩⟩⟩
theorem weightsAll_mem {P : Program} {e : TypeId} : ∀ {l : List (DataW H)} {d : DataW H}, d ∈ l → ∀ n ∈ d.weights P e, n ∈ DataW.weightsAll P e l
  | d0 :: l, d, hd, n, hn => by
    simp only [DataW.weightsAll, List.mem_append]
    rcases List.mem_cons.1 hd with rfl | hd
    · exact Or.inl hn
    · exact Or.inr (weightsAll_mem hd n hn)

theorem strs_in (hsz : (DataW.weightsEach P ts ds).all (· ≤ reachBytes) = true) (ht : ts[j]? = some t) (hd : ds[j]? = some d) (hu : P.underlying t = some (.slice e)) (he : P.underlying e = some .string) (hc : P.cellsOf e = 1) (hB : 1 ≤ P.bytesOf e)
    (hv : Value.okWide P W r base t v) (h : DataW.Trod enc P W b0 spare held t v d ps) : ∃ A n cap zs, v = .slice A n cap ∧ StrsIn W A n cap zs := by
  obtain ⟨A, n, cap, rfl⟩ := okWide_slice hu hv
  refine ⟨A, n, cap, ?_⟩
  obtain ⟨fuel, hf⟩ := h
  rcases open_strings hu he hc hf with ⟨hcs, _⟩ | ⟨x, l, c, zs, hcs, _, hl, hm, hz, hx, hcell, hwz⟩
  · simp [Value.cells] at hcs
    obtain ⟨rfl, rfl, rfl⟩ := hcs
    exact ⟨[], rfl, ⟨rfl, Nat.le_refl _, by omega, fun h => by omega, (fun x hx => by cases hx), fun _ => ⟨rfl, rfl⟩⟩⟩
  · simp [Value.cells] at hcs
    obtain ⟨rfl, rfl, rfl⟩ := hcs
    obtain ⟨hx, _⟩ := Prod.mk.inj hx
    subst hx
    have hl2 : n ≤ zs.length := by
      rw [hz]
      split
      · exact hl
      · exact Nat.le_refl _
    have z := sized_slice hsz ht hd hu
    have h1 : (strs (H := H) (zs.take n)).length + (strs (H := H) (zs.drop n)).length = zs.length := by
      simp [strs]
      omega
    rw [h1] at z
    have hr : reachBytes = 140737488351232 := by decide
    have hm := Nat.mul_le_mul_left zs.length hB
    refine ⟨zs.take n, rfl, ⟨by simp; omega, hl, by omega, fun _ => ⟨x, rfl, fun i hi => ?_⟩, fun y hy => ?_, fun h => by cases h⟩⟩
    · rw [hcell i (by omega)]
      simp [List.getD_eq_getElem?_getD, hi]
    · have hmem : y.size ∈ DataW.weights P t (.slice (strs (H := H) (zs.take n)) (strs (zs.drop n))) := by
        simp only [DataW.weights, hu]
        refine List.mem_cons_of_mem _ (List.mem_append_left _ ?_)
        refine weightsAll_mem (d := .lit (.string y.data.toList)) (List.mem_map.2 ⟨y, hy, rfl⟩) _ ?_
        simp [DataW.weights]
      have := List.all_eq_true.1 hsz _ (DataW.weights_mem_each ht hd _ hmem)
      simp at this
      omega
end
end Go.Proofs.YtdeeeechdlcdbaaGreat.Args
