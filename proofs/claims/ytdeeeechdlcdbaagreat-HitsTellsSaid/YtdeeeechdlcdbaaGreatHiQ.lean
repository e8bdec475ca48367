/- Which phrases stand where, in plain Lean: their lengths, the greatest first; the longest one. -/
import Derived.Test.YtdeeeechdlcdbaaGreatScN
import Derived.Test.YtdeeeechdlcdbaaGreatHiP
set_option linter.unusedVariables false
set_option linter.unusedSimpArgs false
namespace Go.Proofs.YtdeeeechdlcdbaaGreat.HiQ
open Go Go.RowKit Go.Proofs.YtdeeeechdlcdbaaGreat.Base Go.Proofs.YtdeeeechdlcdbaaGreat.DiA Go.Proofs.YtdeeeechdlcdbaaGreat.DiB Go.Proofs.YtdeeeechdlcdbaaGreat.TcP Go.Proofs.YtdeeeechdlcdbaaGreat.PhP Go.Proofs.YtdeeeechdlcdbaaGreat.ScP Go.Proofs.YtdeeeechdlcdbaaGreat.ScF Go.Proofs.YtdeeeechdlcdbaaGreat.ScN Go.Proofs.YtdeeeechdlcdbaaGreat.HiP
/-- How long phrase k is. -/
def szk (zs : List ByteArray) (k : Nat) : Nat := (zs.getD k ByteArray.empty).size
theorem szk_len (zs : List ByteArray) (k : Nat) : (zk zs k).length = szk zs k := by unfold zk szk; rw [size_list]
theorem szk_pos {zs : List ByteArray} (h : okD zs = true) : ∀ k, k < zs.length → 1 ≤ szk zs k := fun k hk => (okD_at h hk).1
theorem zk_inj {zs : List ByteArray} (h : okD zs = true) : ∀ i j, i < zs.length → j < zs.length → zk zs i = zk zs j → i = j := by
  intro i j hi hj e
  have e2 : zs.getD i ByteArray.empty = zs.getD j ByteArray.empty := data_inj e
  rcases Nat.lt_trichotomy i j with h1 | h1 | h1
  · exact absurd e2 (okD_apart h i j h1 hj)
  · exact h1
  · exact absurd e2.symm (okD_apart h j i h1 hi)
theorem stands_iff {zs : List ByteArray} {B : List UInt8} {i k : Nat} : stands zs B i k = true ↔ i + szk zs k ≤ B.length ∧ (B.drop i).take (szk zs k) = zk zs k := by
  unfold stands
  rw [szk_len, Bool.and_eq_true, decide_eq_true_eq, beq_iff_eq]
theorem stands_one {zs : List ByteArray} (h : okD zs = true) {B : List UInt8} {i j k : Nat} (hj : j < zs.length) (hk : k < zs.length) (sj : stands zs B i j = true) (sk : stands zs B i k = true) (e : szk zs j = szk zs k) : j = k := by
  obtain ⟨_, h1⟩ := stands_iff.1 sj
  obtain ⟨_, h2⟩ := stands_iff.1 sk
  rw [e] at h1
  exact zk_inj h j k hj hk (h1.symm.trans h2)
/-- The lengths of the first m phrases that stand at i. -/
def lenU (zs : List ByteArray) (B : List UInt8) (i m : Nat) : List Nat := ((List.range m).filter (stands zs B i)).map (szk zs)
theorem lenU_succ (zs : List ByteArray) (B : List UInt8) (i m : Nat) : lenU zs B i (m + 1) = lenU zs B i m ++ (if stands zs B i m = true then [szk zs m] else []) := by
  unfold lenU
  rw [List.range_succ, List.filter_append, List.map_append]
  congr 1
  by_cases h : stands zs B i m = true
  · rw [if_pos h]; simp [h]
  · rw [if_neg h]; simp [h]
theorem lenU_len (zs : List ByteArray) (B : List UInt8) (i m : Nat) : (lenU zs B i m).length ≤ m := by
  unfold lenU
  rw [List.length_map]
  exact Nat.le_trans (List.length_filter_le _ _) (by simp)
/-- The greatest first. -/
def lensS (l : List Nat) : List Nat := l.mergeSort (fun x y => decide (y ≤ x))
def lensL (zs : List ByteArray) (B : List UInt8) (i : Nat) : List Nat := lensS (lenU zs B i zs.length)
theorem mem_lensL {zs : List ByteArray} {B : List UInt8} {i x : Nat} : x ∈ lensL zs B i ↔ ∃ k, k < zs.length ∧ stands zs B i k = true ∧ szk zs k = x := by
  unfold lensL lensS
  rw [(List.mergeSort_perm _ _).mem_iff]
  unfold lenU
  simp [and_assoc]
theorem lensL_strict {zs : List ByteArray} (h : okD zs = true) (B : List UInt8) (i : Nat) : (lensL zs B i).Pairwise fun x y => y < x := by
  have h1 : (lensL zs B i).Pairwise fun x y => y ≤ x := by
    have := List.pairwise_mergeSort (le := fun (x y : Nat) => decide (y ≤ x)) (fun a b c h1 h2 => by simp at *; omega) (fun a b => by simp; omega) (lenU zs B i zs.length)
    exact this.imp fun h => of_decide_eq_true h
  have h2 : (lensL zs B i).Nodup := by
    unfold lensL lensS
    rw [(List.mergeSort_perm _ _).nodup_iff]
    unfold lenU
    refine List.pairwise_map.2 ?_
    have hn : ((List.range zs.length).filter (stands zs B i)).Nodup := List.nodup_range.filter _
    refine List.Pairwise.imp_of_mem (fun {a b} ha hb hab => ?_) hn
    rw [List.mem_filter, List.mem_range] at ha hb
    exact fun e => hab (stands_one h ha.1 hb.1 ha.2 hb.2 e)
  have h3 := List.pairwise_and_iff.2 ⟨h1, h2⟩
  exact h3.imp fun {a b} h => by
    have h4 := h.1
    have h5 : a ≠ b := h.2
    omega
/-- Of the first m phrases the longest that stands at i: its number, its length. -/
def Lon (zs : List ByteArray) (B : List UInt8) (i m : Nat) (id : Int) (long : Nat) : Prop :=
  (id = -1 ∧ long = 0 ∧ ∀ k, k < m → stands zs B i k = false) ∨ (∃ k, k < m ∧ id = (k : Int) ∧ long = szk zs k ∧ stands zs B i k = true ∧ ∀ j, j < m → stands zs B i j = true → szk zs j ≤ long)
theorem lon_start (zs : List ByteArray) (B : List UInt8) (i : Nat) : Lon zs B i 0 (-1) 0 := .inl ⟨rfl, rfl, fun k h => absurd h (Nat.not_lt_zero _)⟩
theorem lon_yes {zs : List ByteArray} {B : List UInt8} {i m long : Nat} {id : Int} (h : Lon zs B i m id long) (hl : long < szk zs m) (hs : stands zs B i m = true) : Lon zs B i (m + 1) (m : Int) (szk zs m) := by
  refine .inr ⟨m, Nat.lt_succ_self _, rfl, rfl, hs, fun j hj sj => ?_⟩
  rcases Nat.lt_or_eq_of_le (Nat.le_of_lt_succ hj) with h1 | rfl
  · rcases h with ⟨_, _, h2⟩ | ⟨k, _, _, _, _, h2⟩
    · rw [h2 j h1] at sj; cases sj
    · have := h2 j h1 sj; omega
  · exact Nat.le_refl _
theorem lon_no {zs : List ByteArray} {B : List UInt8} {i m long : Nat} {id : Int} (h : Lon zs B i m id long) (hm : 1 ≤ szk zs m) (hn : szk zs m ≤ long ∨ stands zs B i m = false) : Lon zs B i (m + 1) id long := by
  rcases h with ⟨h1, h2, h3⟩ | ⟨k, h1, h2, h3, h4, h5⟩
  · refine .inl ⟨h1, h2, fun k hk => ?_⟩
    rcases Nat.lt_or_eq_of_le (Nat.le_of_lt_succ hk) with h4 | rfl
    · exact h3 k h4
    · exact hn.resolve_left (by omega)
  · refine .inr ⟨k, by omega, h2, h3, h4, fun j hj sj => ?_⟩
    rcases Nat.lt_or_eq_of_le (Nat.le_of_lt_succ hj) with h6 | rfl
    · exact h5 j h6 sj
    · rcases hn with h7 | h7
      · exact h7
      · rw [h7] at sj; cases sj
/-- The longest one and the lengths: the first of these is that one's. -/
theorem lon_first {zs : List ByteArray} (h : okD zs = true) {B : List UInt8} {i long : Nat} {id : Int} (hl : Lon zs B i zs.length id long) :
    (lensL zs B i = [] ∧ id = -1 ∧ long = 0) ∨ (∃ k, k < zs.length ∧ id = (k : Int) ∧ long = szk zs k ∧ stands zs B i k = true ∧ 0 < (lensL zs B i).length ∧ (lensL zs B i).getD 0 0 = long) := by
  rcases hl with ⟨h1, h2, h3⟩ | ⟨k, h1, h2, h3, h4, h5⟩
  · refine .inl ⟨List.eq_nil_iff_forall_not_mem.2 fun x hx => ?_, h1, h2⟩
    obtain ⟨k, hk, hs, _⟩ := mem_lensL.1 hx
    rw [h3 k hk] at hs; cases hs
  · refine .inr ⟨k, h1, h2, h3, h4, ?_⟩
    have hm : long ∈ lensL zs B i := mem_lensL.2 ⟨k, h1, h4, h3.symm⟩
    have hs := lensL_strict h B i
    have hall : ∀ x ∈ lensL zs B i, x ≤ long := fun x hx => by
      obtain ⟨j, hj, sj, e⟩ := mem_lensL.1 hx
      rw [← e]; exact h5 j hj sj
    cases hL : lensL zs B i with
    | nil => rw [hL] at hm; cases hm
    | cons a l =>
      rw [hL] at hm hs hall
      refine ⟨by simp, ?_⟩
      show a = long
      have h6 := hall a (List.mem_cons_self ..)
      rcases List.mem_cons.1 hm with e | e
      · exact e.symm
      · have := (List.pairwise_cons.1 hs).1 _ e; omega
/-- The hits of bytes, laid by their starts: at each place the phrases that stand there. -/
def asInt (H : List (Nat × Nat)) : List (Int × Int) := H.map fun x => ((x.1 : Int), (x.2 : Int))
theorem mem_asInt {H : List (Nat × Nat)} {i k s : Nat} : (((i + s : Nat) : Int), (k : Int)) ∈ asInt H ↔ (i + s, k) ∈ H := by
  unfold asInt
  rw [List.mem_map]
  constructor
  · rintro ⟨⟨a, b⟩, h, e⟩
    injection e with e1 e2
    have e3 : a = i + s := by simp at e1; omega
    have e4 : b = k := by simp at e2; omega
    rw [← e3, ← e4]; exact h
  · exact fun h => ⟨_, h, rfl⟩
theorem starts_hits {zs : List ByteArray} (h : okD zs = true) {B : List UInt8} {H : List (Int × Int)} (hH : ∀ x, x ∈ H ↔ x ∈ asInt (hitsL zs B)) {i k : Nat} : k ∈ (startsL (szk zs) zs.length B.length H).getD i [] ↔ k < zs.length ∧ stands zs B i k = true := by
  rw [mem_startsL (szk_pos h), hH]
  unfold hitOf
  rw [mem_asInt]
  constructor
  · rintro ⟨h1, h2, h3⟩
    obtain ⟨_, _, _, _, h4⟩ := hits_mem h1
    refine ⟨h2, stands_iff.2 ⟨h3, ?_⟩⟩
    simp only [szk_len, Nat.add_sub_cancel] at h4
    exact h4
  · rintro ⟨h1, h2⟩
    obtain ⟨h3, h4⟩ := stands_iff.1 h2
    refine ⟨?_, h1, h3⟩
    have := mem_hits (B := B) (zk_inj h) (at_ := i) h1 (by rw [szk_len]; exact szk_pos h k h1) (by rw [szk_len]; exact h3) (by rw [szk_len]; exact h4)
    rw [szk_len] at this
    exact this
/-- In whichever order, and however often: the lists are the same. -/
theorem starts_same {zs : List ByteArray} (h : okD zs = true) {B : List UInt8} {H G : List (Int × Int)} (hH : ∀ x, x ∈ H ↔ x ∈ asInt (hitsL zs B)) (hG : ∀ x, x ∈ G ↔ x ∈ asInt (hitsL zs B)) (i : Nat) : (startsL (szk zs) zs.length B.length H).getD i [] = (startsL (szk zs) zs.length B.length G).getD i [] := by
  refine row_one (nd_startsL (szk_pos h) _ _) (nd_startsL (szk_pos h) _ _) (so_startsL _ _) (so_startsL _ _) (fun k => ?_) (fun x hx y hy e => ?_)
  · rw [starts_hits h hH, starts_hits h hG]
  · rw [starts_hits h hH] at hx hy
    exact stands_one h hx.1 hy.1 hx.2 hy.2 e
/-- The lengths of the phrases told are those of the phrases that stand there. -/
theorem starts_lens {zs : List ByteArray} (h : okD zs = true) {B : List UInt8} {H : List (Int × Int)} (hH : ∀ x, x ∈ H ↔ x ∈ asInt (hitsL zs B)) (i : Nat) : ((startsL (szk zs) zs.length B.length H).getD i []).map (szk zs) = lensL zs B i := by
  have hs : (((startsL (szk zs) zs.length B.length H).getD i []).map (szk zs)).Pairwise fun x y => y < x := by
    refine List.pairwise_map.2 ?_
    refine List.Pairwise.imp_of_mem (fun {a b} ha hb hab => ?_) (List.pairwise_and_iff.2 ⟨so_startsL (sz := szk zs) (N := zs.length) (n := B.length) H i, nd_startsL (szk_pos h) H i⟩)
    rw [starts_hits h hH] at ha hb
    have h1 := hab.1
    have h2 : a ≠ b := hab.2
    rcases Nat.lt_or_eq_of_le h1 with h3 | h3
    · exact h3
    · exact absurd (stands_one h ha.1 hb.1 ha.2 hb.2 h3.symm) h2
  have hl := lensL_strict h B i
  refine List.Perm.eq_of_pairwise (le := fun x y => y < x) (fun x y _ _ h1 h2 => by omega) hs hl ?_
  refine (List.perm_ext_iff_of_nodup (hs.imp fun {a b} h => by omega) (hl.imp fun {a b} h => by omega)).2 fun x => ?_
  rw [mem_lensL, List.mem_map]
  constructor
  · rintro ⟨k, hk, e⟩
    rw [starts_hits h hH] at hk
    exact ⟨k, hk.1, hk.2, e⟩
  · rintro ⟨k, h1, h2, e⟩
    exact ⟨k, (starts_hits h hH).2 ⟨h1, h2⟩, e⟩
end Go.Proofs.YtdeeeechdlcdbaaGreat.HiQ
