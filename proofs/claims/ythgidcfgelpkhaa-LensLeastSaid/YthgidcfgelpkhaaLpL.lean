/- Other counts, and lengths that are turned. Plain Lean. -/
import Derived.Test.YthgidcfgelpkhaaLpJ
namespace Go.Proofs.Ythgidcfgelpkhaa
open Go.Sort

/-- The symbols that are there, in their order. -/
def thereP (zs : List Int) : List Nat := (rawFrom 0 zs).flatMap (·.2)
theorem there_nodup (zs : List Int) : (thereP zs).Nodup := (raw_syms zs 0).1
theorem mem_there {zs : List Int} {x : Nat} : x ∈ thereP zs ↔ x < zs.length ∧ 0 < zs.getD x 0 := by
  unfold thereP
  rw [(raw_syms zs 0).2]
  constructor
  · rintro ⟨i, h1, h2, rfl⟩; rw [Nat.zero_add]; exact ⟨h1, h2⟩
  · rintro ⟨h1, h2⟩; exact ⟨x, h1, h2, (Nat.zero_add x).symm⟩
theorem there_perm (zs : List Int) : (symsP zs).Perm (thereP zs) := syms_perm zs
theorem there_length (zs : List Int) : (thereP zs).length = (singleP zs).length := by rw [← (there_perm zs).length_eq, syms_length]
theorem there_take {zs : List Int} {k : Nat} (hk : k < zs.length) : thereP (zs.take (k + 1)) = thereP (zs.take k) ++ if 0 < zs.getD k 0 then [k] else [] := by
  unfold thereP
  rw [rawFrom_take hk, List.flatMap_append]
  congr 1
  unfold rawAt
  split <;> simp
theorem idx_at {T : List Nat} (hd : T.Nodup) {j : Nat} (hj : j < T.length) : T.idxOf T[j] = j := by
  have h1 : T.idxOf T[j] < T.length := List.idxOf_lt_length_iff.2 (List.getElem_mem hj)
  exact (List.getElem_inj hd).1 (List.getElem_idxOf h1)
/-- A list in which the first j of the places T hold what v tells. -/
def laidL (n : Nat) (T : List Nat) (v : Nat → Int) (j : Nat) : List Int := (List.range n).map fun s => if T.idxOf s < j then v (T.idxOf s) else 0
theorem laid_zero (n : Nat) (T : List Nat) (v : Nat → Int) : laidL n T v 0 = List.replicate n 0 := by
  unfold laidL
  refine List.ext_getElem (by simp) fun i h1 h2 => by simp
theorem laid_length (n : Nat) (T : List Nat) (v : Nat → Int) (j : Nat) : (laidL n T v j).length = n := by simp [laidL]
theorem laid_at {n : Nat} {T : List Nat} {v : Nat → Int} {j s : Nat} (hs : s < n) : (laidL n T v j).getD s 0 = if T.idxOf s < j then v (T.idxOf s) else 0 := by
  unfold laidL
  simp [List.getD_eq_getElem?_getD, hs]
theorem laid_get {n : Nat} {T : List Nat} {v : Nat → Int} {j i : Nat} : (laidL n T v j)[i]? = if i < n then some (if T.idxOf i < j then v (T.idxOf i) else 0) else none := by
  unfold laidL
  by_cases h : i < n
  · simp [h]
  · simp [h]
theorem laid_set {n : Nat} {T : List Nat} {v : Nat → Int} (hd : T.Nodup) {j : Nat} (hj : j < T.length) : (laidL n T v j).set T[j] (v j) = laidL n T v (j + 1) := by
  refine List.ext_getElem? fun i => ?_
  rw [List.getElem?_set, laid_get, laid_get, laid_length]
  by_cases hi : i < n
  · rw [if_pos hi, if_pos hi]
    by_cases e : T[j] = i
    · subst e
      rw [if_pos rfl, if_pos hi, idx_at hd hj, if_pos (by omega)]
    · rw [if_neg e]
      have hne : T.idxOf i ≠ j := by
        intro h
        by_cases hm : i ∈ T
        · have h1 : T.idxOf i < T.length := List.idxOf_lt_length_iff.2 hm
          have h2 := List.getElem_idxOf h1
          simp only [h] at h2
          exact e h2
        · have := List.idxOf_eq_length hm
          omega
      by_cases h : T.idxOf i < j
      · rw [if_pos h, if_pos (by omega)]
      · rw [if_neg h, if_neg (by omega)]
  · rw [if_neg hi, if_neg hi]
    split
    · rename_i h; rw [if_neg (by omega)]
    · rfl
theorem laid_there {n : Nat} {T : List Nat} {v : Nat → Int} {s : Nat} (hs : s < n) : (laidL n T v T.length).getD s 0 = if s ∈ T then v (T.idxOf s) else 0 := by
  rw [laid_at hs]
  by_cases h : s ∈ T
  · rw [if_pos (List.idxOf_lt_length_iff.2 h), if_pos h]
  · rw [if_neg (by rw [List.idxOf_eq_length h]; omega), if_neg h]

/-- What is added to a count. -/
def addP (os : List Int) (i : Nat) : Int := if i < os.length then min (max (os.getD i 0) 0) 1048576 else 0
def otherP (zs os : List Int) : List Int := laidL zs.length (thereP zs) (fun i => 1 + addP os i) (thereP zs).length
theorem addP_range (os : List Int) (i : Nat) : 0 ≤ addP os i ∧ addP os i ≤ 1048576 := by
  unfold addP
  split <;> omega
theorem other_length (zs os : List Int) : (otherP zs os).length = zs.length := laid_length _ _ _ _
theorem other_at {zs os : List Int} {s : Nat} (hs : s < zs.length) : (0 < zs.getD s 0 → 1 ≤ (otherP zs os).getD s 0 ∧ (otherP zs os).getD s 0 ≤ 1048577) ∧ (¬ 0 < zs.getD s 0 → (otherP zs os).getD s 0 = 0) := by
  unfold otherP
  rw [laid_there hs]
  refine ⟨fun h => ?_, fun h => ?_⟩
  · rw [if_pos (mem_there.2 ⟨hs, h⟩)]
    have := addP_range os ((thereP zs).idxOf s)
    omega
  · rw [if_neg (fun hm => h (mem_there.1 hm).2)]
theorem other_pos {zs os : List Int} {s : Nat} (hs : s < zs.length) : 0 < (otherP zs os).getD s 0 ↔ 0 < zs.getD s 0 := by
  obtain ⟨h1, h2⟩ := other_at (os := os) hs
  constructor
  · intro h
    refine Classical.byContradiction fun hn => ?_
    rw [h2 hn] at h; omega
  · intro h; have := (h1 h).1; omega
theorem other_mem {zs os : List Int} : ∀ z ∈ otherP zs os, 0 ≤ z ∧ z ≤ 1048577 := by
  intro z hz
  obtain ⟨s, hs, rfl⟩ := List.getElem_of_mem hz
  have hs' : s < zs.length := by rw [other_length] at hs; exact hs
  obtain ⟨h1, h2⟩ := other_at (os := os) hs'
  have e : (otherP zs os)[s] = (otherP zs os).getD s 0 := by rw [List.getD_eq_getElem?_getD, List.getElem?_eq_getElem hs]; rfl
  rw [e]
  by_cases h : 0 < zs.getD s 0
  · have := h1 h; omega
  · rw [h2 h]; omega
theorem other_single (zs os : List Int) : (singleP (otherP zs os)).length = (singleP zs).length := by
  rw [← there_length, ← there_length]
  refine List.Perm.length_eq ?_
  rw [List.perm_ext_iff_of_nodup (there_nodup _) (there_nodup _)]
  intro s
  rw [mem_there, mem_there, other_length]
  constructor
  · rintro ⟨h1, h2⟩; exact ⟨h1, (other_pos h1).1 h2⟩
  · rintro ⟨h1, h2⟩; exact ⟨h1, (other_pos h1).2 h2⟩

/-- The lengths, turned among the symbols that are there. -/
def turnedP (zs : List Int) (l : List Nat) : List Int := laidL zs.length (thereP zs) (fun i => ((l.getD ((thereP zs).getD ((thereP zs).length - 1 - i) 0) 0 : Nat) : Int)) (thereP zs).length
def turnedN (zs : List Int) (l : List Nat) : List Nat := (List.range zs.length).map fun s => if s ∈ thereP zs then l.getD ((thereP zs).getD ((thereP zs).length - 1 - (thereP zs).idxOf s) 0) 0 else 0
theorem turned_eq (zs : List Int) (l : List Nat) : turnedP zs l = intsOf (turnedN zs l) := by
  unfold turnedP laidL intsOf turnedN
  rw [List.map_map]
  refine List.map_congr_left fun s _ => ?_
  show _ = (((if s ∈ thereP zs then _ else 0 : Nat)) : Int)
  by_cases h : s ∈ thereP zs
  · rw [if_pos (List.idxOf_lt_length_iff.2 h), if_pos h]
  · rw [if_neg (by rw [List.idxOf_eq_length h]; omega), if_neg h]; rfl
theorem turned_at {zs : List Int} {l : List Nat} {s : Nat} (hs : s < zs.length) : (turnedN zs l).getD s 0 = if s ∈ thereP zs then l.getD ((thereP zs).getD ((thereP zs).length - 1 - (thereP zs).idxOf s) 0) 0 else 0 := by
  unfold turnedN
  simp [List.getD_eq_getElem?_getD, hs]
theorem turned_length (zs : List Int) (l : List Nat) : (turnedN zs l).length = zs.length := by simp [turnedN]
theorem kraft_places {n : Nat} {xs : List Nat} (hl : xs.length = n) {T : List Nat} (hd : T.Nodup) (ht : ∀ s ∈ T, s < n) (h0 : ∀ s, s < n → s ∉ T → xs.getD s 0 = 0) : kraftP (intsOf xs) = (T.map fun s => kraft1 (xs.getD s 0)).sum := by
  have e1 : kraftP (intsOf xs) = ((List.range n).map fun s => kraft1 (xs.getD s 0)).sum := by
    unfold kraftP intsOf
    congr 1
    refine List.ext_getElem (by simp [hl]) fun s a1 a2 => ?_
    have hs : s < xs.length := by simpa using a1
    simp [List.getD_eq_getElem?_getD, hs]
  rw [e1, sum_sub hd ht (fun s => kraft1 (xs.getD s 0)) (fun s hs hn => by rw [h0 s hs hn]; decide)]
theorem turned_kraft {zs : List Int} {l : List Nat} (hl : l.length = zs.length) (h0 : ∀ s, s < zs.length → ¬ 0 < zs.getD s 0 → l.getD s 0 = 0) : kraftP (intsOf (turnedN zs l)) = kraftP (intsOf l) := by
  have hlt : ∀ s ∈ thereP zs, s < zs.length := fun s hs => (mem_there.1 hs).1
  rw [kraft_places (turned_length zs l) (there_nodup zs) hlt (fun s hs hn => by rw [turned_at hs, if_neg hn]), kraft_places hl (there_nodup zs) hlt (fun s hs hn => h0 s hs (fun h => hn (mem_there.2 ⟨hs, h⟩)))]
  have e : ((thereP zs).map fun s => kraft1 ((turnedN zs l).getD s 0)) = (thereP zs).reverse.map fun s => kraft1 (l.getD s 0) := by
    refine List.ext_getElem (by simp) fun i h1 h2 => ?_
    have hi : i < (thereP zs).length := by simpa using h1
    rw [List.getElem_map, List.getElem_map, List.getElem_reverse, turned_at (hlt _ (List.getElem_mem hi)), if_pos (List.getElem_mem hi), idx_at (there_nodup zs) hi]
    congr 3
    simp [List.getD_eq_getElem?_getD, show (thereP zs).length - 1 - i < (thereP zs).length by omega]
  rw [e, List.map_reverse]
  exact perm_sum (List.reverse_perm _)
/-- What LensLeast looks at. -/
theorem least_all {mo : Nat} {zs os : List Int} (he : errP (mo : Int) zs = 0) (h2 : 2 ≤ (singleP zs).length) :
    errP (mo : Int) (otherP zs os) = 0 ∧ kraftP (intsOf (lensP mo zs)) = 32768 ∧ kraftP (intsOf (lensP mo (otherP zs os))) = 32768 ∧
    weightP (intsOf (lensP mo zs)) zs ≤ weightP (intsOf (lensP mo (otherP zs os))) zs ∧ weightP (intsOf (lensP mo zs)) zs ≤ weightP (turnedP zs (lensP mo zs)) zs ∧
    weightP (intsOf (lensP mo (otherP zs os))) (otherP zs os) ≤ weightP (intsOf (lensP mo zs)) (otherP zs os) := by
  obtain ⟨m, hm, h1, h15, hbad, hlen, hf⟩ := err_zero he
  obtain rfl : mo = m := by omega
  have hf2 : (singleP (otherP zs os)).length ≤ 2 ^ mo := by rw [other_single]; exact hf
  have hfit := fits_of h1 hf
  have hfit2 := fits_of h1 hf2
  have h22 : 2 ≤ (singleP (otherP zs os)).length := by rw [other_single]; exact h2
  have ho : errP (mo : Int) (otherP zs os) = 0 := err_ok h1 h15 (fun z hz => by have := other_mem z hz; omega) (by rw [other_length]; exact hlen) hf2
  have k1 := kraft_full h1 h15 h2 hfit
  have k2 := kraft_full h1 h15 h22 hfit2
  have pos : ∀ {zs : List Int}, Fits mo zs → 2 ≤ (singleP zs).length → ∀ s, s < zs.length → 0 < zs.getD s 0 → 1 ≤ (lensP mo zs).getD s 0 ∧ (lensP mo zs).getD s 0 ≤ mo := by
    intro zs hfit h2 s hs h0
    obtain ⟨r, hr, e⟩ := rank_of hs h0
    have a := lens_rank hfit hr
    rw [e] at a
    have hh := head_takes h2 hfit
    have p1 := lenAt_pos (T := takesP mo zs) (r := r) (by rw [hh, ← syms_length]; exact hr)
    have p2 := lenAt_le (takesP mo zs) r
    rw [takes_length h1] at p2
    omega
  refine ⟨ho, k1, k2, ?_, ?_, ?_⟩
  · refine lens_least h1 h15 hfit h2 (by rw [lensP_length, other_length]) (fun s hs h0 => ?_) (fun s hs h0 => ?_) k2
    · exact pos hfit2 h22 s (by rw [other_length]; exact hs) ((other_pos hs).2 h0)
    · exact lens_none (by rw [other_length]; exact hs) (fun h => h0 ((other_pos hs).1 h))
  · rw [turned_eq]
    refine lens_least h1 h15 hfit h2 (turned_length _ _) (fun s hs h0 => ?_) (fun s hs h0 => ?_) (by rw [turned_kraft (lensP_length _ _) (fun s hs h => lens_none hs h)]; exact k1)
    · rw [turned_at hs, if_pos (mem_there.2 ⟨hs, h0⟩)]
      have hpos : 0 < (thereP zs).length := List.length_pos_of_mem (mem_there.2 ⟨hs, h0⟩)
      have hi : (thereP zs).length - 1 - (thereP zs).idxOf s < (thereP zs).length := by omega
      have hm := mem_there.1 (List.getElem_mem hi)
      rw [show (thereP zs).getD ((thereP zs).length - 1 - (thereP zs).idxOf s) 0 = (thereP zs)[(thereP zs).length - 1 - (thereP zs).idxOf s] by simp [List.getD_eq_getElem?_getD, hi]]
      exact pos hfit h2 _ hm.1 hm.2
    · rw [turned_at hs, if_neg (fun hm => h0 (mem_there.1 hm).2)]
  · refine lens_least h1 h15 hfit2 h22 (by rw [lensP_length, other_length]) (fun s hs h0 => ?_) (fun s hs h0 => ?_) k1
    · have hs' : s < zs.length := by rw [other_length] at hs; exact hs
      exact pos hfit h2 s hs' ((other_pos hs').1 h0)
    · have hs' : s < zs.length := by rw [other_length] at hs; exact hs
      exact lens_none hs' (fun h => h0 ((other_pos hs').2 h))
end Go.Proofs.Ythgidcfgelpkhaa
