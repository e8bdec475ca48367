/- Which phrases begin where, in plain Lean: hits laid by their starts, each once, the longest first. No program in sight. -/

set_option linter.unusedVariables false
namespace Go.Proofs.YtdeeeechdlcdbaaGreat.HiP
theorem getD_set_eq {α : Type} {L : List α} {i : Nat} (h : i < L.length) (x d : α) : (L.set i x).getD i d = x := by
  rw [List.getD_eq_getElem?_getD, List.getElem?_set, if_pos rfl, if_pos h]; rfl
theorem getD_set_of_ne {α : Type} {L : List α} {i j : Nat} (h : i ≠ j) (x d : α) : (L.set i x).getD j d = L.getD j d := by
  rw [List.getD_eq_getElem?_getD, List.getElem?_set, if_neg h, List.getD_eq_getElem?_getD]
section
variable (sz : Nat → Nat) (N n : Nat)
/-- A hit that lies within, of a phrase that there is. -/
def okHit (x : Int × Int) : Bool := decide (0 ≤ x.2 ∧ x.2 < (N : Int) ∧ (sz x.2.toNat : Int) ≤ x.1 ∧ x.1 ≤ (n : Int))
/-- Where it begins. -/
def hitAt (x : Int × Int) : Nat := (x.1 - (sz x.2.toNat : Int)).toNat
def addHit (L : List (List Nat)) (x : Int × Int) : List (List Nat) :=
  if okHit sz N n x = true then (if x.2.toNat ∈ L.getD (hitAt sz x) [] then L else L.set (hitAt sz x) (L.getD (hitAt sz x) [] ++ [x.2.toNat])) else L
def startsF (H : List (Int × Int)) : List (List Nat) := H.foldl (addHit sz N n) (List.replicate n [])
/-- The hits that count, each once. -/
def addHas (S : List (Int × Int)) (x : Int × Int) : List (Int × Int) := if okHit sz N n x = true then (if x ∈ S then S else S ++ [x]) else S
def hasL (H : List (Int × Int)) : List (Int × Int) := H.foldl (addHas sz N n) []
/-- The longest first. -/
def rowS (l : List Nat) : List Nat := l.mergeSort (fun x y => decide (sz y ≤ sz x))
def startsL (H : List (Int × Int)) : List (List Nat) := (startsF sz N n H).map (rowS sz)
def sumL (L : List (List Nat)) : Nat := (L.map List.length).sum
theorem sum_set : ∀ (L : List (List Nat)) (i x : Nat), i < L.length → sumL (L.set i (L.getD i [] ++ [x])) = sumL L + 1
  | [], i, x, h => by simp at h
  | l :: L, 0, x, _ => by simp [sumL]; omega
  | l :: L, i + 1, x, h => by
    have := sum_set L i x (by simpa using h)
    simp [sumL] at this ⊢
    omega
variable {sz N n}
theorem okHit_iff {x : Int × Int} : okHit sz N n x = true ↔ 0 ≤ x.2 ∧ x.2 < (N : Int) ∧ (sz x.2.toNat : Int) ≤ x.1 ∧ x.1 ≤ (n : Int) := by
  unfold okHit; exact decide_eq_true_iff
/-- What holds along the hits. -/
structure Inv (sz : Nat → Nat) (N n : Nat) (L : List (List Nat)) (S : List (Int × Int)) : Prop where
  len : L.length = n
  mem : ∀ x, okHit sz N n x = true → (x ∈ S ↔ x.2.toNat ∈ L.getD (hitAt sz x) [])
  ok : ∀ x ∈ S, okHit sz N n x = true
  sum : sumL L = S.length
  row : ∀ i k, k ∈ L.getD i [] → k < N ∧ i + sz k ≤ n
  nd : ∀ i, (L.getD i []).Nodup
theorem inv_start : Inv sz N n (List.replicate n []) [] := by
  have e : ∀ i, (List.replicate n ([] : List Nat)).getD i [] = [] := fun i => by
    rw [List.getD_eq_getElem?_getD, List.getElem?_replicate]; split <;> rfl
  refine ⟨by simp, fun x _ => (by rw [e]; simp), (by simp), ?_, fun i k h => absurd h (by rw [e]; simp), fun i => (by rw [e]; exact List.nodup_nil)⟩
  simp [sumL]
theorem hit_ext {x y : Int × Int} (hx : okHit sz N n x = true) (hy : okHit sz N n y = true) (h1 : hitAt sz x = hitAt sz y) (h2 : x.2.toNat = y.2.toNat) : x = y := by
  rw [okHit_iff] at hx hy
  have e : x.2 = y.2 := by omega
  unfold hitAt at h1
  rw [h2] at h1 hx
  exact Prod.ext (by omega) e
theorem inv_step (hp : ∀ k, k < N → 1 ≤ sz k) {L : List (List Nat)} {S : List (Int × Int)} (h : Inv sz N n L S) (x : Int × Int) : Inv sz N n (addHit sz N n L x) (addHas sz N n S x) := by
  unfold addHit addHas
  by_cases ho : okHit sz N n x = true
  · rw [if_pos ho, if_pos ho]
    by_cases hm : x.2.toNat ∈ L.getD (hitAt sz x) []
    · rw [if_pos hm, if_pos ((h.mem x ho).2 hm)]
      exact h
    · rw [if_neg hm, if_neg (fun e => hm ((h.mem x ho).1 e))]
      have hi := okHit_iff.1 ho
      have hk : x.2.toNat < N := by omega
      have h1 := hp _ hk
      have hat : hitAt sz x < L.length := by rw [h.len]; unfold hitAt; omega
      have hatn : hitAt sz x + sz x.2.toNat ≤ n := by unfold hitAt; omega
      refine ⟨by rw [List.length_set]; exact h.len, fun y hy => ?_, fun y hy => ?_, ?_, fun i k hik => ?_, fun i => ?_⟩
      · rw [List.mem_append, List.mem_singleton]
        by_cases e : hitAt sz x = hitAt sz y
        · rw [← e, getD_set_eq hat, List.mem_append, List.mem_singleton, h.mem y hy, e]
          exact ⟨fun q => q.imp id fun q => by rw [q], fun q => q.imp id fun q => hit_ext hy ho e.symm q⟩
        · rw [getD_set_of_ne e, h.mem y hy]
          exact ⟨fun q => q.elim id fun q => absurd (by rw [q]) e, .inl⟩
      · rcases List.mem_append.1 hy with hy | hy
        · exact h.ok y hy
        · rw [List.mem_singleton.1 hy]; exact ho
      · rw [sum_set _ _ _ hat, h.sum, List.length_append]; rfl
      · by_cases e : hitAt sz x = i
        · rw [← e, getD_set_eq hat, List.mem_append, List.mem_singleton] at hik
          rcases hik with q | q
          · rw [← e]; exact h.row _ _ q
          · rw [q, ← e]; exact ⟨hk, hatn⟩
        · rw [getD_set_of_ne e] at hik; exact h.row i k hik
      · by_cases e : hitAt sz x = i
        · rw [← e, getD_set_eq hat]
          refine List.nodup_append.2 ⟨h.nd _, by simp, fun a ha b hb => ?_⟩
          rw [List.mem_singleton.1 hb]
          intro q; rw [q] at ha; exact hm ha
        · rw [getD_set_of_ne e]; exact h.nd i
  · rw [if_neg ho, if_neg ho]
    exact h
theorem inv_all (hp : ∀ k, k < N → 1 ≤ sz k) : ∀ (H : List (Int × Int)) (L : List (List Nat)) (S : List (Int × Int)), Inv sz N n L S → Inv sz N n (H.foldl (addHit sz N n) L) (H.foldl (addHas sz N n) S)
  | [], _, _, h => h
  | x :: H, L, S, h => inv_all hp H _ _ (inv_step hp h x)
theorem inv_starts (hp : ∀ k, k < N → 1 ≤ sz k) (H : List (Int × Int)) : Inv sz N n (startsF sz N n H) (hasL sz N n H) := inv_all hp H _ _ inv_start
theorem mem_has : ∀ (H : List (Int × Int)) (S : List (Int × Int)) (x : Int × Int), x ∈ H.foldl (addHas sz N n) S ↔ x ∈ S ∨ (x ∈ H ∧ okHit sz N n x = true)
  | [], S, x => by simp
  | y :: H, S, x => by
    rw [List.foldl_cons, mem_has H]
    unfold addHas
    by_cases ho : okHit sz N n y = true
    · rw [if_pos ho]
      by_cases hm : y ∈ S
      · rw [if_pos hm]
        constructor
        · rintro (h | ⟨h1, h2⟩)
          · exact .inl h
          · exact .inr ⟨List.mem_cons_of_mem _ h1, h2⟩
        · rintro (h | ⟨h1, h2⟩)
          · exact .inl h
          · rcases List.mem_cons.1 h1 with rfl | h1
            · exact .inl hm
            · exact .inr ⟨h1, h2⟩
      · rw [if_neg hm]
        constructor
        · rintro (h | ⟨h1, h2⟩)
          · rcases List.mem_append.1 h with h | h
            · exact .inl h
            · rw [List.mem_singleton.1 h]; exact .inr ⟨List.mem_cons_self .., ho⟩
          · exact .inr ⟨List.mem_cons_of_mem _ h1, h2⟩
        · rintro (h | ⟨h1, h2⟩)
          · exact .inl (List.mem_append_left _ h)
          · rcases List.mem_cons.1 h1 with rfl | h1
            · exact .inl (List.mem_append_right _ (by simp))
            · exact .inr ⟨h1, h2⟩
    · rw [if_neg ho]
      constructor
      · rintro (h | ⟨h1, h2⟩)
        · exact .inl h
        · exact .inr ⟨List.mem_cons_of_mem _ h1, h2⟩
      · rintro (h | ⟨h1, h2⟩)
        · exact .inl h
        · rcases List.mem_cons.1 h1 with rfl | h1
          · exact absurd h2 ho
          · exact .inr ⟨h1, h2⟩
/-- The hit of phrase k that begins at i. -/
def hitOf (sz : Nat → Nat) (i k : Nat) : Int × Int := (((i + sz k : Nat) : Int), (k : Int))
theorem hitOf_at (i k : Nat) : hitAt sz (hitOf sz i k) = i := by unfold hitAt hitOf; simp only [Int.toNat_natCast]; omega
theorem hitOf_ok {i k : Nat} (hk : k < N) (h : i + sz k ≤ n) : okHit sz N n (hitOf sz i k) = true := by
  rw [okHit_iff]; unfold hitOf; simp only [Int.toNat_natCast]; omega
/-- Which phrases are told at place i. -/
theorem mem_starts (hp : ∀ k, k < N → 1 ≤ sz k) {H : List (Int × Int)} {i k : Nat} : k ∈ (startsF sz N n H).getD i [] ↔ hitOf sz i k ∈ hasL sz N n H := by
  have I := inv_starts hp (n := n) H
  constructor
  · intro h
    obtain ⟨h1, h2⟩ := I.row i k h
    refine (I.mem _ (hitOf_ok h1 h2)).2 ?_
    rw [hitOf_at]
    exact h
  · intro h
    have := (I.mem _ (I.ok _ h)).1 h
    rw [hitOf_at] at this
    exact this
theorem mem_hasL {H : List (Int × Int)} {x : Int × Int} : x ∈ hasL sz N n H ↔ x ∈ H ∧ okHit sz N n x = true := by
  unfold hasL; rw [mem_has]; simp
theorem rowS_perm (l : List Nat) : (rowS sz l).Perm l := List.mergeSort_perm _ _
theorem rowS_sorted (l : List Nat) : (rowS sz l).Pairwise fun x y => sz y ≤ sz x := by
  have := List.pairwise_mergeSort (le := fun x y => decide (sz y ≤ sz x)) (fun a b c h1 h2 => by simp at *; omega) (fun a b => by simp; omega) l
  exact this.imp fun h => of_decide_eq_true h
theorem len_startsF (hp : ∀ k, k < N → 1 ≤ sz k) (H : List (Int × Int)) : (startsF sz N n H).length = n := (inv_starts hp H).len
theorem len_startsL (hp : ∀ k, k < N → 1 ≤ sz k) (H : List (Int × Int)) : (startsL sz N n H).length = n := by unfold startsL; rw [List.length_map, len_startsF hp]
theorem startsL_at {H : List (Int × Int)} (i : Nat) : (startsL sz N n H).getD i [] = rowS sz ((startsF sz N n H).getD i []) := by
  unfold startsL
  rw [List.getD_eq_getElem?_getD, List.getElem?_map, List.getD_eq_getElem?_getD]
  cases (startsF sz N n H)[i]? with
  | none => show [] = rowS sz []; unfold rowS; rw [List.mergeSort_nil]
  | some l => rfl
theorem mem_startsL (hp : ∀ k, k < N → 1 ≤ sz k) {H : List (Int × Int)} {i k : Nat} : k ∈ (startsL sz N n H).getD i [] ↔ (hitOf sz i k ∈ H ∧ k < N ∧ i + sz k ≤ n) := by
  rw [startsL_at, (rowS_perm _).mem_iff, mem_starts hp, mem_hasL]
  constructor
  · rintro ⟨h1, h2⟩
    refine ⟨h1, ?_⟩
    rw [okHit_iff] at h2; unfold hitOf at h2; simp only [Int.toNat_natCast] at h2; omega
  · rintro ⟨h1, h2, h3⟩
    exact ⟨h1, hitOf_ok h2 h3⟩
theorem nd_startsL (hp : ∀ k, k < N → 1 ≤ sz k) (H : List (Int × Int)) (i : Nat) : ((startsL sz N n H).getD i []).Nodup := by
  rw [startsL_at]
  exact (rowS_perm _).nodup_iff.2 ((inv_starts hp H).nd i)
theorem so_startsL (H : List (Int × Int)) (i : Nat) : ((startsL sz N n H).getD i []).Pairwise fun x y => sz y ≤ sz x := by rw [startsL_at]; exact rowS_sorted _
/-- As many as hits that count. -/
theorem sum_startsL (hp : ∀ k, k < N → 1 ≤ sz k) (H : List (Int × Int)) : sumL (startsL sz N n H) = (hasL sz N n H).length := by
  rw [← (inv_starts hp H).sum]
  unfold startsL sumL
  rw [List.map_map]
  congr 1
  apply List.map_congr_left
  intro l _
  exact (rowS_perm l).length_eq
/-- Two rows of the same phrases, no two of one length, are one. -/
theorem row_one {a b : List Nat} (ha : a.Nodup) (hb : b.Nodup) (sa : a.Pairwise fun x y => sz y ≤ sz x) (sb : b.Pairwise fun x y => sz y ≤ sz x) (hm : ∀ k, k ∈ a ↔ k ∈ b) (hi : ∀ x ∈ a, ∀ y ∈ a, sz x = sz y → x = y) : a = b :=
  List.Perm.eq_of_pairwise (fun x y hx hy h1 h2 => hi x hx y ((hm y).2 hy) (Nat.le_antisymm h2 h1)) sa sb ((List.perm_ext_iff_of_nodup ha hb).2 hm)
end
end Go.Proofs.YtdeeeechdlcdbaaGreat.HiP
