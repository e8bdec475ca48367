/- Rws of numbers in memory: a slice of slices, each nil or a block of its own. -/
import Derived.Test.YtdeeeechdlcdbaaGreatLkN
set_option linter.unusedVariables false
set_option linter.unusedSimpArgs false
namespace Go.Proofs.YtdeeeechdlcdbaaGreat.RwA
open Go Go.RowKit Go.Sort Go.Lib Go.Proofs Go.Proofs.YtdeeeechdlcdbaaGreat Go.Proofs.YtdeeeechdlcdbaaGreat.Base Go.Proofs.YtdeeeechdlcdbaaGreat.LkM Go.Proofs.YtdeeeechdlcdbaaGreat.LkL Go.Proofs.YtdeeeechdlcdbaaGreat.LkN
/-- Block g has rows: the slice vs i holds the numbers L i. -/
structure RowsV (B g : Nat) (w : World) (L : List (List Nat)) (vs : List Value) : Prop where
  len : vs.length = L.length
  head : w.heap[g]? = some (.cells vs.toArray 31 (0, 0))
  own : ∀ i, i < L.length → w.ownsRow B 3 1 (vs.getD i undef) (L.getD i []).length ((L.getD i []).map encN)
  apart : ∀ i j k, i < L.length → j < L.length → i ≠ j → (vs.getD i undef).ownBlock = some k → (vs.getD j undef).ownBlock ≠ some k
def Rws (B g : Nat) (w : World) (L : List (List Nat)) : Prop := ∃ vs, RowsV B g w L vs
theorem own_kept {w w' : World} {base : Nat} {e : TypeId} {size n : Nat} {v : Value} {xs : List Value} (h : w.ownsRow base e size v n xs) (hk : ∀ k, v.ownBlock = some k → w'.heap[k]? = w.heap[k]?) : w'.ownsRow base e size v n xs := by
  refine ⟨h.1, ?_⟩
  rcases h.2 with h2 | ⟨g, cap, cur, h1, h2, h3, h4⟩
  · exact .inl h2
  · exact .inr ⟨g, cap, cur, h1, h2, (hk g (by rw [h1]; rfl)).trans h3, h4⟩
theorem own_at {w : World} {base : Nat} {e : TypeId} {size n : Nat} {v : Value} {xs : List Value} (h : w.ownsRow base e size v n xs) {k : Nat} (hk : v.ownBlock = some k) : base ≤ k ∧ k < w.heap.size := ⟨own_ge h k hk, own_lt h k hk⟩
section
variable {B g : Nat} {w w' : World} {L : List (List Nat)} {vs : List Value}
theorem RowsV.lt (h : RowsV B g w L vs) : g < w.heap.size := heap_lt h.head
theorem RowsV.ne (h : RowsV B g w L vs) {i : Nat} (hi : i < L.length) : (vs.getD i undef).ownBlock ≠ some g := own_ne (h.own i hi) h.head (by decide)
theorem RowsV.kept (h : RowsV B g w L vs) (hg : w'.heap[g]? = w.heap[g]?) (hk : ∀ i k, i < L.length → (vs.getD i undef).ownBlock = some k → w'.heap[k]? = w.heap[k]?) : RowsV B g w' L vs :=
  ⟨h.len, hg.trans h.head, fun i hi => own_kept (h.own i hi) (fun k hk' => hk i k hi hk'), h.apart⟩
theorem RowsV.below (h : RowsV B g w L vs) (hb : Below w.heap.size w w') : RowsV B g w' L vs :=
  h.kept (hb.block g h.lt) fun i k hi hk => hb.block k (own_at (h.own i hi) hk).2
theorem Rws.below (h : Rws B g w L) (hb : Below w.heap.size w w') : Rws B g w' L := by
  obtain ⟨vs, h⟩ := h; exact ⟨vs, h.below hb⟩
theorem Rws.lt (h : Rws B g w L) : g < w.heap.size := by obtain ⟨vs, h⟩ := h; exact h.lt
theorem RowsV.cell (h : RowsV B g w L vs) {i : Nat} (hi : i < L.length) : w.cell? ⟨g, i, none⟩ = some (vs.getD i undef) := by
  have hl : i < vs.length := by rw [h.len]; exact hi
  refine cell_of h.head ?_
  rw [List.getElem?_toArray, List.getD_eq_getElem?_getD, List.getElem?_eq_getElem hl]; rfl
theorem RowsV.frozen (h : RowsV B g w L vs) (i : Nat) : w.frozen? ⟨g, i, none⟩ = false := frozen_of h.head
theorem getD_setV {l : List Value} {i j : Nat} {x : Value} (hi : i < l.length) : (l.set i x).getD j undef = if i = j then x else l.getD j undef := by
  rw [List.getD_eq_getElem?_getD, List.getD_eq_getElem?_getD, List.getElem?_set]
  by_cases h : i = j
  · subst h; simp [hi]
  · simp [h]
theorem getD_setL {l : List (List Nat)} {i j : Nat} {x : List Nat} (hi : i < l.length) : (l.set i x).getD j [] = if i = j then x else l.getD j [] := by
  rw [List.getD_eq_getElem?_getD, List.getD_eq_getElem?_getD, List.getElem?_set]
  by_cases h : i = j
  · subst h; simp [hi]
  · simp [h]
/-- Row i is another one, in another world: all other blocks are as they were. -/
theorem RowsV.put (h : RowsV B g w L vs) {i : Nat} (hi : i < L.length) {v : Value} {r : List Nat} {w1 : World}
    (hk : ∀ k, k < w.heap.size → some k ≠ (vs.getD i undef).ownBlock → w1.heap[k]? = w.heap[k]?)
    (hv : w1.ownsRow B 3 1 v r.length (r.map encN)) (hl : ∀ k, v.ownBlock = some k → some k = (vs.getD i undef).ownBlock ∨ w.heap.size ≤ k) :
    RowsV B g (w1.setCell ⟨g, i, none⟩ v) (L.set i r) (vs.set i v) := by
  have hlv : i < vs.length := by rw [h.len]; exact hi
  have hg1 : w1.heap[g]? = some (.cells vs.toArray 31 (0, 0)) := (hk g h.lt (fun e => h.ne hi e.symm)).trans h.head
  have hne : ∀ j k, j < L.length → j ≠ i → (vs.getD j undef).ownBlock = some k → (w1.setCell ⟨g, i, none⟩ v).heap[k]? = w.heap[k]? := by
    intro j k hj hji hjk
    have h1 : k ≠ g := fun e => h.ne hj (by rw [hjk, e])
    rw [Below.heap_setCell _ _ _ _ h1]
    exact hk k (own_at (h.own j hj) hjk).2 (fun e => h.apart j i k hj hi hji hjk e.symm)
  refine ⟨by rw [List.length_set, List.length_set]; exact h.len, ?_, fun j hj => ?_, fun j j' k hj hj' hjj hjk => ?_⟩
  · rw [heap_setN hg1]
    simp
  · rw [List.length_set] at hj
    rw [getD_setV hlv, getD_setL hi]
    by_cases e : i = j
    · rw [if_pos e, if_pos e]
      refine own_kept hv fun k hk' => ?_
      have h1 : k ≠ g := by
        rintro rfl
        rcases hl k hk' with h2 | h2
        · exact h.ne hi h2.symm
        · exact absurd h.lt (by omega)
      exact Below.heap_setCell _ _ _ _ h1
    · rw [if_neg e, if_neg e]
      exact own_kept (h.own j hj) fun k hk' => hne j k hj (Ne.symm e) hk'
  · rw [List.length_set] at hj hj'
    rw [getD_setV hlv] at hjk ⊢
    by_cases e : i = j
    · rw [if_pos e] at hjk
      rw [if_neg (fun e2 => hjj (e.symm.trans e2))]
      intro h2
      rcases hl k hjk with h3 | h3
      · exact h.apart j' i k hj' hi (fun q => hjj (by rw [← e, q])) h2 h3.symm
      · have := (own_at (h.own j' hj') h2).2; omega
    · rw [if_neg e] at hjk
      by_cases e2 : i = j'
      · rw [if_pos e2]
        intro h2
        rcases hl k h2 with h3 | h3
        · exact h.apart j i k hj hi (Ne.symm e) hjk h3.symm
        · have := (own_at (h.own j hj) hjk).2; omega
      · rw [if_neg e2]
        exact h.apart j j' k hj hj' hjj hjk
/-- Row i holds other numbers, where it lies. -/
theorem RowsV.turned (h : RowsV B g w L vs) {i : Nat} (hi : i < L.length) {r : List Nat} {w1 : World}
    (hk : ∀ k, k < w.heap.size → some k ≠ (vs.getD i undef).ownBlock → w1.heap[k]? = w.heap[k]?)
    (hv : w1.ownsRow B 3 1 (vs.getD i undef) r.length (r.map encN)) : RowsV B g w1 (L.set i r) vs := by
  refine ⟨by rw [List.length_set]; exact h.len, (hk g h.lt (fun e => h.ne hi e.symm)).trans h.head, fun j hj => ?_, fun j j' k hj hj' hjj hjk => ?_⟩
  · rw [List.length_set] at hj
    rw [getD_setL hi]
    by_cases e : i = j
    · rw [if_pos e, ← e]; exact hv
    · rw [if_neg e]
      exact own_kept (h.own j hj) fun k hk' => hk k (own_at (h.own j hj) hk').2 (fun e2 => h.apart j i k hj hi (Ne.symm e) hk' e2.symm)
  · rw [List.length_set] at hj hj'
    exact h.apart j j' k hj hj' hjj hjk
end
/-- Rws, all nil. -/
def nilRows (n : Nat) : Array Value := (List.replicate n (Value.slice none 0 0)).toArray
theorem info36 : (Tryz.prog.info? 31).map (fun i => (i.zero, i.size, i.bytes)) = some (some (.slice none 0 0), 1, 24) := by kernel_rfl
theorem made_nil (n : Nat) : madeCells (Value.slice none 0 0).cells (n * 1) = nilRows n := by
  unfold madeCells nilRows
  refine Array.ext (by simp) fun i h1 h2 => ?_
  simp [Value.cells, Nat.mod_one]
theorem make_rows {n : Nat} (hn : n ≤ 1000000) (W : World) : (Instr.makeSlice 36 (.int .i64 (n : Int)) (.int .i64 (n : Int))).run Tryz.prog W = .ok (.slice (some ⟨W.heap.size, 0, none⟩) n n) (W.alloc (.cells (nilRows n) 31)) := by
  obtain ⟨i0, hi, hz0, hz1, hz2⟩ := info_parts info36
  have h := run_make (P := Tryz.prog) W 36 31 i0 (.slice none 0 0) Tryz.underlying36 hi hz0 .i64 .i64 (n : Int) (n : Int) (by omega) (Int.le_refl _) (by rw [hz2]; omega) (by omega)
  rw [hz1, Int.toNat_natCast, made_nil] at h
  exact h
theorem rows_made {B n : Nat} {w : World} (hb : B ≤ w.heap.size) : RowsV B w.heap.size (w.alloc (.cells (nilRows n) 31)) (List.replicate n []) (List.replicate n (.slice none 0 0)) := by
  have e : ∀ i, i < n → (List.replicate n (Value.slice none 0 0)).getD i undef = .slice none 0 0 := fun i hi => by
    rw [List.getD_eq_getElem?_getD, List.getElem?_replicate, if_pos hi]; rfl
  have e2 : ∀ i, (List.replicate n ([] : List Nat)).getD i [] = [] := fun i => by
    rw [List.getD_eq_getElem?_getD, List.getElem?_replicate]; split <;> rfl
  refine ⟨by simp, heap_new _ _, fun i hi => ?_, fun i j k hi hj _ hik => ?_⟩
  · rw [List.length_replicate] at hi
    rw [e i hi, e2]
    exact World.ownsRow_nil _ _ _ _
  · rw [List.length_replicate] at hi
    rw [e i hi] at hik; cases hik
end Go.Proofs.YtdeeeechdlcdbaaGreat.RwA
