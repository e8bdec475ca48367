/- Links, in plain Lean: the longest end that is a beginning, and where one goes on behind a byte. -/
import Derived.Test.YtdeeeechdlcdbaaGreatTtP
set_option linter.unusedVariables false
set_option linter.unusedSimpArgs false
namespace Go.Proofs.YtdeeeechdlcdbaaGreat.LkP
open Go Go.RowKit Go.Proofs.YtdeeeechdlcdbaaGreat.Base Go.Proofs.YtdeeeechdlcdbaaGreat.DiA Go.Proofs.YtdeeeechdlcdbaaGreat.TrP Go.Proofs.YtdeeeechdlcdbaaGreat.TrQ Go.Proofs.YtdeeeechdlcdbaaGreat.TnP Go.Proofs.YtdeeeechdlcdbaaGreat.TtP
/-- r is the node of the longest end of s, of at most m bytes, that is a beginning. -/
structure Lg (X : List Pn) (s : List UInt8) (m r : Nat) : Prop where
  lt : r < X.length
  suf : tx X r <:+ s
  le : (tx X r).length ≤ m
  max : ∀ x, x < X.length → tx X x <:+ s → (tx X x).length ≤ m → (tx X x).length ≤ (tx X r).length
theorem suf_eq {a b s : List UInt8} (h1 : a <:+ s) (h2 : b <:+ s) (hl : a.length = b.length) : a = b :=
  (List.suffix_of_suffix_length_le h1 h2 (by omega)).eq_of_length hl
theorem suf_of {a b s : List UInt8} (h1 : a <:+ s) (h2 : b <:+ s) (hl : a.length ≤ b.length) : a <:+ b := List.suffix_of_suffix_length_le h1 h2 hl
theorem suf_snoc {a b : List UInt8} (c : UInt8) (h : a <:+ b) : a ++ [c] <:+ b ++ [c] := by
  obtain ⟨t, rfl⟩ := h
  exact ⟨t, by rw [List.append_assoc]⟩
theorem snoc_suf {a b : List UInt8} {c d : UInt8} (h : a ++ [c] <:+ b ++ [d]) : a <:+ b ∧ c = d := by
  obtain ⟨t, ht⟩ := h
  rw [← List.append_assoc] at ht
  have := List.append_inj' ht rfl
  exact ⟨⟨t, this.1⟩, by simpa using this.2⟩
theorem nil_suf (s : List UInt8) : ([] : List UInt8) <:+ s := ⟨s, by simp⟩
section
variable {X : List Pn} {s : List UInt8} {m r r' : Nat}
theorem Lg.one (hF : Fine X) (h : Lg X s m r) (h' : Lg X s m r') : r = r' :=
  hF.dist r r' h.lt h'.lt (suf_eq h.suf h'.suf (Nat.le_antisymm (h'.max r h.lt h.suf h.le) (h.max r' h'.lt h'.suf h'.le)))
theorem tx0 {zs : List ByteArray} {id : Nat} (hG : TrP.Good zs id X) : tx X 0 = [] := by unfold tx; rw [hG.root]
theorem ex_lg {zs : List ByteArray} {id : Nat} (hG : TrP.Good zs id X) (s : List UInt8) : ∀ m, ∃ r, Lg X s m r
  | 0 => ⟨0, hG.pos, by rw [tx0 hG]; exact nil_suf _, by rw [tx0 hG]; exact Nat.le_refl _, fun x hx h1 h2 => by omega⟩
  | m + 1 => by
    by_cases h : ∃ x, x < X.length ∧ tx X x <:+ s ∧ (tx X x).length = m + 1
    · obtain ⟨x, h1, h2, h3⟩ := h
      exact ⟨x, h1, h2, by omega, fun y hy h4 h5 => by omega⟩
    · obtain ⟨r, h1⟩ := ex_lg hG s m
      refine ⟨r, h1.lt, h1.suf, Nat.le_succ_of_le h1.le, fun y hy h4 h5 => h1.max y hy h4 ?_⟩
      have : (tx X y).length ≠ m + 1 := fun e => h ⟨y, hy, h4, e⟩
      omega
theorem tx_pos {zs : List ByteArray} {id : Nat} (hG : TrP.Good zs id X) (hF : Fine X) {x : Nat} (hx : x < X.length) : 0 < x ↔ 0 < (tx X x).length := by
  constructor
  · intro h
    obtain ⟨i, c, hi, he⟩ := hF.dad x h hx
    rw [he]; simp
  · intro h
    rcases Nat.eq_zero_or_pos x with h0 | h0
    · subst h0; rw [tx0 hG] at h; simp at h
    · exact h0
end
section
variable {zs : List ByteArray} {id : Nat} {X : List Pn} (hG : TrP.Good zs id X) (hF : Fine X)
def byte (c : Int) : UInt8 := UInt8.ofNat c.toNat
include hG in
/-- A son. -/
theorem lg_son {i : Nat} (hi : i < X.length) {c : Int} {x : Nat} (hx : (X.getD i noPn).sons c = some x) : x < X.length ∧ tx X x = tx X i ++ [byte c] ∧ Lg X (tx X i ++ [byte c]) ((tx X i).length + 1) x := by
  obtain ⟨h1, h2⟩ := hG.sons i hi c x hx
  have h3 : tx X x = tx X i ++ [byte c] := h2
  refine ⟨h1, h3, h1, by rw [h3]; exact List.suffix_refl _, by rw [h3]; simp, fun y hy h4 h5 => ?_⟩
  rw [h3]
  have := h4.length_le
  simpa using this
include hG hF in
/-- The root, without a son. -/
theorem lg_root {c : Int} (hc : 0 ≤ c ∧ c ≤ 255) (hn : (X.getD 0 noPn).sons c = none) : Lg X [byte c] 1 0 := by
  refine ⟨hG.pos, by rw [tx0 hG]; exact nil_suf _, by rw [tx0 hG]; simp, fun y hy h4 h5 => ?_⟩
  rcases Nat.eq_zero_or_pos y with h0 | h0
  · subst h0; exact Nat.le_refl _
  · exfalso
    have hp := (tx_pos hG hF hy).1 h0
    have he : tx X y = [byte c] := h4.eq_of_length (by simp; omega)
    have := hF.full 0 y c hc hG.pos hy (by rw [tx0 hG, he]; rfl)
    rw [hn] at this; cases this
/-- What is an end of a text and a byte, is an end of the text, and the byte. -/
theorem end_dad (hF : Fine X) {y : Nat} (hy : y < X.length) (h0 : 0 < y) {t : List UInt8} {b : UInt8} (h : tx X y <:+ t ++ [b]) : ∃ j, j < X.length ∧ tx X y = tx X j ++ [b] ∧ tx X j <:+ t := by
  obtain ⟨j, c', hj, he⟩ := hF.dad y h0 hy
  rw [he] at h
  obtain ⟨h1, rfl⟩ := snoc_suf h
  exact ⟨j, hj, he, h1⟩
include hG hF in
/-- Where no son is one goes on from where one goes on. -/
theorem lg_up {i f r M : Nat} {c : Int} (hf : Lg X (tx X i) ((tx X i).length - 1) f) (hr : Lg X (tx X f ++ [byte c]) ((tx X f).length + 1) r)
    (hM : (tx X f).length + 1 ≤ M) (hno : ∀ y, y < X.length → tx X y = tx X i ++ [byte c] → ¬ (tx X y).length ≤ M) : Lg X (tx X i ++ [byte c]) M r := by
  refine ⟨hr.lt, hr.suf.trans (suf_snoc _ hf.suf), Nat.le_trans hr.le hM, fun y hy h4 h5 => ?_⟩
  rcases Nat.eq_zero_or_pos y with h0 | h0
  · subst h0; rw [tx0 hG]; exact Nat.zero_le _
  · obtain ⟨j, hj, he, hs⟩ := end_dad hF hy h0 h4
    have hl := hs.length_le
    have hlt : (tx X j).length ≠ (tx X i).length := by
      intro e
      have : tx X j = tx X i := hs.eq_of_length e
      exact hno y hy (by rw [he, this]) h5
    have h6 := hf.max j hj hs (by omega)
    refine hr.max y hy (by rw [he]; exact suf_snoc _ (suf_of hs hf.suf h6)) (by rw [he]; simp; omega)
include hG hF in
theorem lg_step {i f r : Nat} (hi : i < X.length) {c : Int} (hc : 0 ≤ c ∧ c ≤ 255) (hn : (X.getD i noPn).sons c = none) (hf : Lg X (tx X i) ((tx X i).length - 1) f) (hr : Lg X (tx X f ++ [byte c]) ((tx X f).length + 1) r) : Lg X (tx X i ++ [byte c]) ((tx X i).length + 1) r := by
  refine lg_up hG hF hf hr (by have := hf.le; omega) fun y hy he _ => ?_
  have := hF.full i y c hc hi hy he
  rw [hn] at this; cases this
include hG hF in
theorem lg_fail {i f r : Nat} (hi : i < X.length) (h0 : 0 < i) {c : Int} (hf : Lg X (tx X i) ((tx X i).length - 1) f) (hr : Lg X (tx X f ++ [byte c]) ((tx X f).length + 1) r) : Lg X (tx X i ++ [byte c]) (tx X i).length r := by
  have hp := (tx_pos hG hF hi).1 h0
  refine lg_up hG hF hf hr (by have := hf.le; omega) fun y hy he hl => ?_
  rw [he] at hl
  simp at hl; omega
include hG in
theorem lg_none (s : List UInt8) : Lg X s 0 0 := ⟨hG.pos, by rw [tx0 hG]; exact nil_suf _, by rw [tx0 hG]; simp, fun y hy h4 h5 => by omega⟩
include hG hF in
/-- The bytes ahead do not matter. -/
theorem lg_feed {s : List UInt8} {n r : Nat} {b : UInt8} (hn : Lg X s s.length n) (hr : Lg X (tx X n ++ [b]) ((tx X n).length + 1) r) : Lg X (s ++ [b]) (s.length + 1) r := by
  refine ⟨hr.lt, hr.suf.trans (suf_snoc _ hn.suf), ?_, fun y hy h4 h5 => ?_⟩
  · have := hr.le
    have := hn.le
    omega
  · rcases Nat.eq_zero_or_pos y with h0 | h0
    · subst h0; rw [tx0 hG]; exact Nat.zero_le _
    · obtain ⟨j, hj, he, hs⟩ := end_dad hF hy h0 h4
      have h6 := hn.max j hj hs hs.length_le
      exact hr.max y hy (by rw [he]; exact suf_snoc _ (suf_of hs hn.suf h6)) (by rw [he]; simp; omega)
/-- The search of a link: at is where one looks on from; whatever is found from there is where the son goes on. -/
structure Look (X : List Pn) (son at_ : Nat) (c : Int) : Prop where
  lt : at_ < X.length
  none : at_ = 0 → Lg X (tx X son) ((tx X son).length - 1) 0
  some : 0 < at_ → ∀ f r, Lg X (tx X at_) ((tx X at_).length - 1) f → Lg X (tx X f ++ [byte c]) ((tx X f).length + 1) r → Lg X (tx X son) ((tx X son).length - 1) r
include hG hF in
theorem look_start {i x : Nat} (hi : i < X.length) {c : Int} (hx : tx X x = tx X i ++ [byte c]) : Look X x i c := by
  refine ⟨hi, fun h0 => ?_, fun h0 f r hf hr => ?_⟩
  · subst h0
    rw [hx, tx0 hG]
    exact lg_none hG _
  · rw [hx]
    have := lg_fail hG hF hi h0 hf hr
    simpa using this
include hG in
theorem look_found {x at_ f nx : Nat} {c : Int} (h : Look X x at_ c) (h0 : 0 < at_) (hf : Lg X (tx X at_) ((tx X at_).length - 1) f) (hn : (X.getD f noPn).sons c = some nx) : Lg X (tx X x) ((tx X x).length - 1) nx :=
  h.some h0 f nx hf (lg_son hG hf.lt hn).2.2
include hG hF in
theorem look_on {x at_ f : Nat} {c : Int} (hc : 0 ≤ c ∧ c ≤ 255) (h : Look X x at_ c) (h0 : 0 < at_) (hf : Lg X (tx X at_) ((tx X at_).length - 1) f) (hn : (X.getD f noPn).sons c = none) : Look X x f c ∧ (tx X f).length < (tx X at_).length := by
  have hp := (tx_pos hG hF h.lt).1 h0
  refine ⟨⟨hf.lt, fun hz => ?_, fun hz f' r hf' hr => ?_⟩, by have := hf.le; omega⟩
  · subst hz
    refine h.some h0 0 0 hf ?_
    rw [tx0 hG]
    exact lg_root hG hF hc hn
  · exact h.some h0 f r hf (lg_step hG hF hf.lt hc hn hf' hr)
/-- o is the node of the longest end of s, of at most m bytes, that is a phrase; the root, if there is none. -/
structure Ot (X : List Pn) (s : List UInt8) (m o : Nat) : Prop where
  lt : o < X.length
  is : o = 0 ∨ (0 ≤ (X.getD o noPn).word ∧ tx X o <:+ s ∧ (tx X o).length ≤ m)
  max : ∀ x, x < X.length → 0 ≤ (X.getD x noPn).word → tx X x <:+ s → (tx X x).length ≤ m → (tx X x).length ≤ (tx X o).length
include hG in
theorem ot_none (s : List UInt8) : Ot X s 0 0 := ⟨hG.pos, .inl rfl, fun y hy _ h4 h5 => by omega⟩
include hF in
theorem ot_step {x f o : Nat} (hf : Lg X (tx X x) ((tx X x).length - 1) f) (ho : Ot X (tx X f) ((tx X f).length - 1) o) : Ot X (tx X x) ((tx X x).length - 1) (if 0 ≤ (X.getD f noPn).word then f else o) := by
  split
  · rename_i h
    exact ⟨hf.lt, .inr ⟨h, hf.suf, hf.le⟩, fun y hy _ h4 h5 => hf.max y hy h4 h5⟩
  · rename_i h
    refine ⟨ho.lt, ?_, fun y hy hw h4 h5 => ?_⟩
    · rcases ho.is with h1 | ⟨h1, h2, h3⟩
      · exact .inl h1
      · exact .inr ⟨h1, h2.trans hf.suf, by have := hf.le; omega⟩
    · have h6 := hf.max y hy h4 h5
      have h7 := suf_of h4 hf.suf h6
      refine ho.max y hy hw h7 ?_
      have h8 : (tx X y).length ≠ (tx X f).length := by
        intro e
        have := hF.dist y f hy hf.lt (h7.eq_of_length e)
        subst this
        exact h hw
      omega
include hG hF in
theorem Ot.one {s : List UInt8} {m o o' : Nat} (hw0 : (X.getD 0 noPn).word < 0) (h : Ot X s m o) (h' : Ot X s m o') : o = o' := by
  rcases h.is with h1 | ⟨h1, h2, h3⟩ <;> rcases h'.is with k1 | ⟨k1, k2, k3⟩
  · rw [h1, k1]
  · exfalso
    have h5 := h.max o' h'.lt k1 k2 k3
    rw [h1, tx0 hG] at h5
    have h0 : ¬ 0 < o' := fun h0 => by
      have h6 := (tx_pos hG hF h'.lt).1 h0
      have h7 : (tx X o').length ≤ 0 := h5
      omega
    have : o' = 0 := by omega
    subst this; omega
  · exfalso
    have h5 := h'.max o h.lt h1 h2 h3
    rw [k1, tx0 hG] at h5
    have h0 : ¬ 0 < o := fun h0 => by
      have h6 := (tx_pos hG hF h.lt).1 h0
      have h7 : (tx X o).length ≤ 0 := h5
      omega
    have : o = 0 := by omega
    subst this; omega
  · exact hF.dist o o' h.lt h'.lt (suf_eq h2 k2 (Nat.le_antisymm (h'.max o h.lt h1 h2 h3) (h.max o' h'.lt k1 k2 k3)))
end
end Go.Proofs.YtdeeeechdlcdbaaGreat.LkP
/- An order by a number and then by place, in plain Lean. -/
set_option linter.unusedVariables false
set_option linter.unusedSimpArgs false
namespace Go.Proofs.YtdeeeechdlcdbaaGreat.LkO
theorem both_ways {α : Type} {a b : α} : ∀ {L : List α}, L.Nodup → List.Sublist [a, b] L → List.Sublist [b, a] L → False
  | [], _, h, _ => by cases h
  | x :: L, hn, h, k => by
    have hx : x ∉ L := (List.nodup_cons.1 hn).1
    have hL := (List.nodup_cons.1 hn).2
    cases h with
    | cons _ h =>
      cases k with
      | cons _ k => exact both_ways hL h k
      | cons_cons _ k =>
        exact hx (h.subset (by simp))
    | cons_cons _ h =>
      cases k with
      | cons _ k => exact hx (k.subset (by simp))
      | cons_cons _ k => exact hx (h.subset (by simp))
theorem pair_in {a b : Nat} : ∀ {L : List Nat}, L.Pairwise (· < ·) → a ∈ L → b ∈ L → a < b → List.Sublist [a, b] L
  | [], _, h, _, _ => by cases h
  | x :: L, hp, ha, hb, hab => by
    have h1 := (List.pairwise_cons.1 hp).1
    have h2 := (List.pairwise_cons.1 hp).2
    rcases List.mem_cons.1 ha with rfl | ha'
    · rcases List.mem_cons.1 hb with rfl | hb'
      · omega
      · exact List.Sublist.cons_cons _ (List.singleton_sublist.2 hb')
    · rcases List.mem_cons.1 hb with rfl | hb'
      · have := h1 a ha'; omega
      · exact List.Sublist.cons _ (pair_in h2 ha' hb' hab)
def ordL (D : Nat → Nat) (n : Nat) : List Nat := (List.range n).mergeSort (fun x y => decide (D x ≤ D y))
section
variable (D : Nat → Nat) (n : Nat)
theorem ord_perm : (ordL D n).Perm (List.range n) := List.mergeSort_perm _ _
theorem ord_length : (ordL D n).length = n := by rw [(ord_perm D n).length_eq, List.length_range]
theorem ord_nodup : (ordL D n).Nodup := (ord_perm D n).nodup_iff.2 List.nodup_range
theorem ord_mem {x : Nat} : x ∈ ordL D n ↔ x < n := by rw [(ord_perm D n).mem_iff, List.mem_range]
def lexD (x y : Nat) : Prop := D x < D y ∨ (D x = D y ∧ x < y)
theorem ord_pw : (ordL D n).Pairwise (lexD D) := by
  refine List.pairwise_iff_forall_sublist.2 fun {a b} h => ?_
  have tr : ∀ a b c : Nat, decide (D a ≤ D b) = true → decide (D b ≤ D c) = true → decide (D a ≤ D c) = true := fun a b c h1 h2 => by simp at *; omega
  have to : ∀ a b : Nat, (decide (D a ≤ D b) || decide (D b ≤ D a)) = true := fun a b => by simp; omega
  have h1 : decide (D a ≤ D b) = true := List.pairwise_iff_forall_sublist.1 (List.pairwise_mergeSort tr to (List.range n)) h
  have h2 : D a ≤ D b := of_decide_eq_true h1
  have h3 : a ≠ b := List.pairwise_iff_forall_sublist.1 (ord_nodup D n) h
  rcases Nat.lt_or_ge (D a) (D b) with h4 | h4
  · exact .inl h4
  · refine .inr ⟨by omega, ?_⟩
    rcases Nat.lt_or_ge a b with h5 | h5
    · exact h5
    · exfalso
      have ha : a < n := (ord_mem D n).1 (h.subset (by simp))
      have hb : b < n := (ord_mem D n).1 (h.subset (by simp))
      have h6 : List.Sublist [b, a] (List.range n) := pair_in List.pairwise_lt_range (List.mem_range.2 hb) (List.mem_range.2 ha) (by omega)
      have h7 : List.Sublist [b, a] (ordL D n) := List.pair_sublist_mergeSort tr to (decide_eq_true (by omega)) h6
      exact both_ways (ord_nodup D n) h h7
/-- All of one number, up to the greatest one. -/
def byNum (k : Nat) : List Nat := (List.range k).flatMap fun d => (List.range n).filter fun i => D i == d
theorem byNum_succ (k : Nat) : byNum D n (k + 1) = byNum D n k ++ (List.range n).filter fun i => D i == k := by
  unfold byNum
  rw [List.range_succ, List.flatMap_append]
  simp
theorem mem_byNum (k : Nat) {x : Nat} : x ∈ byNum D n k ↔ x < n ∧ D x < k := by
  unfold byNum
  rw [List.mem_flatMap]
  constructor
  · rintro ⟨d, h1, h2⟩
    rw [List.mem_filter] at h2
    have := List.mem_range.1 h1
    have h3 := beq_iff_eq.1 h2.2
    exact ⟨List.mem_range.1 h2.1, by omega⟩
  · rintro ⟨h1, h2⟩
    exact ⟨D x, List.mem_range.2 h2, List.mem_filter.2 ⟨List.mem_range.2 h1, by simp⟩⟩
theorem byNum_pw : ∀ k, (byNum D n k).Pairwise (lexD D)
  | 0 => by simp [byNum]
  | k + 1 => by
    rw [byNum_succ, List.pairwise_append]
    refine ⟨byNum_pw k, ?_, fun a ha b hb => ?_⟩
    · refine ((List.pairwise_lt_range (n := n)).filter _).imp_of_mem fun {a b} ha hb h => ?_
      have h1 := beq_iff_eq.1 (List.mem_filter.1 ha).2
      have h2 := beq_iff_eq.1 (List.mem_filter.1 hb).2
      exact .inr ⟨by omega, h⟩
    · have h1 := ((mem_byNum D n k).1 ha).2
      have h2 := beq_iff_eq.1 (List.mem_filter.1 hb).2
      exact .inl (by omega)
theorem lex_ne {x y : Nat} (h : lexD D x y) : x ≠ y := by
  rintro rfl
  rcases h with h | ⟨_, h⟩ <;> omega
theorem byNum_ord {k : Nat} (h : ∀ i, i < n → D i < k) : byNum D n k = ordL D n := by
  have n1 : (byNum D n k).Nodup := (byNum_pw D n k).imp (lex_ne D)
  have hp : (byNum D n k).Perm (ordL D n) := (List.perm_ext_iff_of_nodup n1 (ord_nodup D n)).2 fun x => by
    rw [mem_byNum, ord_mem]
    exact ⟨fun h => h.1, fun h1 => ⟨h1, h x h1⟩⟩
  refine List.Perm.eq_of_pairwise (fun a b _ _ h1 h2 => ?_) (byNum_pw D n k) (ord_pw D n) hp
  exfalso
  rcases h1 with h1 | ⟨h1, h3⟩ <;> rcases h2 with h2 | ⟨h2, h4⟩ <;> omega
end
end Go.Proofs.YtdeeeechdlcdbaaGreat.LkO
/- Hits, in plain Lean: by links alone one comes to all phrases that are ends of what was fed, the longest first. -/
set_option linter.unusedVariables false
set_option linter.unusedSimpArgs false
namespace Go.Proofs.YtdeeeechdlcdbaaGreat.ScP
open Go Go.RowKit Go.Proofs.YtdeeeechdlcdbaaGreat.Base Go.Proofs.YtdeeeechdlcdbaaGreat.DiA Go.Proofs.YtdeeeechdlcdbaaGreat.TrP Go.Proofs.YtdeeeechdlcdbaaGreat.TrQ Go.Proofs.YtdeeeechdlcdbaaGreat.TnP Go.Proofs.YtdeeeechdlcdbaaGreat.TtP Go.Proofs.YtdeeeechdlcdbaaGreat.LkP
/-- Where a text stands among the phrases. -/
def findL (zs : List ByteArray) (t : List UInt8) : Option Nat := zs.findIdx? fun z => z.data.toList == t
theorem findL_some {zs : List ByteArray} {t : List UInt8} {k : Nat} (h : findL zs t = some k) : k < zs.length ∧ (zs.getD k ByteArray.empty).data.toList = t := by
  unfold findL at h
  obtain ⟨h1, h2, _⟩ := List.findIdx?_eq_some_iff_getElem.1 h
  refine ⟨h1, ?_⟩
  rw [List.getD_eq_getElem?_getD, List.getElem?_eq_getElem h1]
  exact beq_iff_eq.1 h2
theorem findL_none {zs : List ByteArray} {t : List UInt8} (h : findL zs t = none) : ∀ k, k < zs.length → (zs.getD k ByteArray.empty).data.toList ≠ t := by
  intro k hk e
  unfold findL at h
  have := List.findIdx?_eq_none_iff.1 h (zs[k]) (List.getElem_mem hk)
  rw [List.getD_eq_getElem?_getD, List.getElem?_eq_getElem hk] at e
  simp at this
  exact this e
/-- The last n bytes. -/
def lastN (s : List UInt8) (n : Nat) : List UInt8 := s.drop (s.length - n)
theorem lastN_length {s : List UInt8} {n : Nat} (h : n ≤ s.length) : (lastN s n).length = n := by unfold lastN; rw [List.length_drop]; omega
theorem lastN_suf (s : List UInt8) (n : Nat) : lastN s n <:+ s := List.drop_suffix _ _
theorem lastN_of {s t : List UInt8} (h : t <:+ s) : t = lastN s t.length := suf_eq h (lastN_suf s _) (lastN_length h.length_le).symm
/-- The phrases that are ends of s, of at most m bytes, the longest first. -/
def ends (zs : List ByteArray) (s : List UInt8) : Nat → List Nat
  | 0 => []
  | m + 1 => (match findL zs (lastN s (m + 1)) with | some k => [k] | none => []) ++ ends zs s m
theorem ends_yes {zs : List ByteArray} {s : List UInt8} {m k : Nat} (h : findL zs (lastN s (m + 1)) = some k) : ends zs s (m + 1) = k :: ends zs s m := by
  show (match findL zs (lastN s (m + 1)) with | some k => [k] | none => []) ++ ends zs s m = _
  rw [h]; rfl
theorem ends_no {zs : List ByteArray} {s : List UInt8} {m : Nat} (h : findL zs (lastN s (m + 1)) = none) : ends zs s (m + 1) = ends zs s m := by
  show (match findL zs (lastN s (m + 1)) with | some k => [k] | none => []) ++ ends zs s m = _
  rw [h]; rfl
theorem ends_length (zs : List ByteArray) (s : List UInt8) : ∀ m, (ends zs s m).length ≤ m
  | 0 => Nat.le_refl _
  | m + 1 => by
    have := ends_length zs s m
    unfold ends
    split <;> simp <;> omega
/-- A trie of phrases, as one needs it. -/
structure Tr (zs : List ByteArray) (X : List Pn) : Prop where
  good : TrP.Good zs zs.length X
  fine : Fine X
  word : ∀ i, i < X.length → ((X.getD i noPn).word < 0 ∧ findL zs (tx X i) = none) ∨ ∃ k : Nat, (X.getD i noPn).word = (k : Int) ∧ findL zs (tx X i) = some k
  has : ∀ k, k < zs.length → ∃ a, a < X.length ∧ tx X a = (zs.getD k ByteArray.empty).data.toList
  zero : (X.getD 0 noPn).word < 0
  short : ∀ i, i < X.length → (tx X i).length ≤ 40
section
variable {zs : List ByteArray} {X : List Pn} (hT : Tr zs X)
include hT in
theorem Tr.node {t : List UInt8} {k : Nat} (h : findL zs t = some k) : ∃ x, x < X.length ∧ tx X x = t ∧ (X.getD x noPn).word = (k : Int) := by
  obtain ⟨h1, h2⟩ := findL_some h
  obtain ⟨a, h3, h4⟩ := hT.has k h1
  refine ⟨a, h3, by rw [h4, h2], ?_⟩
  rcases hT.word a h3 with ⟨_, h5⟩ | ⟨j, h5, h6⟩
  · rw [h4, h2, h] at h5; cases h5
  · rw [h4, h2, h] at h6
    obtain rfl := Option.some.inj h6
    exact h5
include hT in
theorem Tr.is_word {x : Nat} (hx : x < X.length) (hw : 0 ≤ (X.getD x noPn).word) : ∃ k : Nat, (X.getD x noPn).word = (k : Int) ∧ findL zs (tx X x) = some k := by
  rcases hT.word x hx with ⟨h, _⟩ | h
  · omega
  · exact h
include hT in
theorem ot_yes {s : List UInt8} {m o k : Nat} (hm : m + 1 ≤ s.length) (ho : Ot X s (m + 1) o) (hf : findL zs (lastN s (m + 1)) = some k) : o ≠ 0 ∧ tx X o = lastN s (m + 1) ∧ (X.getD o noPn).word = (k : Int) := by
  have hl := lastN_length hm
  obtain ⟨x, h1, h2, h3⟩ := hT.node hf
  have h4 : tx X x <:+ s := by rw [h2]; exact lastN_suf _ _
  have h5 := ho.max x h1 (by omega) h4 (by rw [h2, hl]; exact Nat.le_refl _)
  rw [h2, hl] at h5
  have h0 : o ≠ 0 := by
    rintro rfl
    rw [tx0 hT.good] at h5; simp at h5
  obtain ⟨k1, k2, k3⟩ := ho.is.resolve_left h0
  have h6 : o = x := hT.fine.dist o x ho.lt h1 (suf_eq k2 h4 (by rw [h2, hl]; omega))
  subst h6
  exact ⟨h0, h2, h3⟩
include hT in
theorem ot_no {s : List UInt8} {m o : Nat} (ho : Ot X s (m + 1) o) (hf : findL zs (lastN s (m + 1)) = none) : Ot X s m o := by
  refine ⟨ho.lt, ?_, fun y hy hw h4 h5 => ho.max y hy hw h4 (by omega)⟩
  rcases ho.is with h | ⟨k1, k2, k3⟩
  · exact .inl h
  · refine .inr ⟨k1, k2, ?_⟩
    have : (tx X o).length ≠ m + 1 := by
      intro e
      obtain ⟨k, _, h6⟩ := hT.is_word ho.lt k1
      have h7 := lastN_of k2
      rw [e] at h7
      rw [h7, hf] at h6; cases h6
    omega
include hT in
theorem ot_zero {s : List UInt8} {o : Nat} (ho : Ot X s 0 o) : o = 0 := by
  rcases ho.is with h | ⟨h1, h2, h3⟩
  · exact h
  · rcases Nat.eq_zero_or_pos o with h0 | h0
    · exact h0
    · have := (tx_pos hT.good hT.fine ho.lt).1 h0
      omega
include hT in
/-- All that ends at the longest phrase, and then all that ends there and is shorter. -/
theorem ends_out {s : List UInt8} : ∀ {m o : Nat}, m ≤ s.length → Ot X s m o → ends zs s m = if o = 0 then [] else (X.getD o noPn).word.toNat :: ends zs s ((tx X o).length - 1)
  | 0, o, _, ho => by
    have : o = 0 := by
      rcases ho.is with h | ⟨h1, h2, h3⟩
      · exact h
      · rcases Nat.eq_zero_or_pos o with h0 | h0
        · exact h0
        · have := (tx_pos hT.good hT.fine ho.lt).1 h0
          omega
    rw [if_pos this]; rfl
  | m + 1, o, hm, ho => by
    have hl := lastN_length hm
    cases hf : findL zs (lastN s (m + 1)) with
    | some k =>
      obtain ⟨x, h1, h2, h3⟩ := hT.node hf
      have h4 : tx X x <:+ s := by rw [h2]; exact lastN_suf _ _
      have h5 := ho.max x h1 (by omega) h4 (by rw [h2, hl]; exact Nat.le_refl _)
      rw [h2, hl] at h5
      have h0 : o ≠ 0 := by
        rintro rfl
        rw [tx0 hT.good] at h5; simp at h5
      obtain ⟨k1, k2, k3⟩ := ho.is.resolve_left h0
      have h6 : o = x := hT.fine.dist o x ho.lt h1 (suf_eq k2 h4 (by rw [h2, hl]; omega))
      subst h6
      rw [if_neg h0]
      rw [ends_yes hf, h3, h2, hl]
      rfl
    | none =>
      have h1 : Ot X s m o := by
        refine ⟨ho.lt, ?_, fun y hy hw h4 h5 => ho.max y hy hw h4 (by omega)⟩
        rcases ho.is with h | ⟨k1, k2, k3⟩
        · exact .inl h
        · refine .inr ⟨k1, k2, ?_⟩
          have : (tx X o).length ≠ m + 1 := by
            intro e
            obtain ⟨k, _, h6⟩ := hT.is_word ho.lt k1
            have h7 := lastN_of k2
            rw [e] at h7
            rw [h7, hf] at h6; cases h6
          omega
      rw [ends_no hf]
      exact ends_out (by omega) h1
/-- Of a longer text that ends so the same stands. -/
theorem Ot.up {t s : List UInt8} {m o : Nat} (h : Ot X t m o) (hs : t <:+ s) (hm : m ≤ t.length) : Ot X s m o := by
  refine ⟨h.lt, ?_, fun y hy hw h4 h5 => h.max y hy hw (suf_of h4 hs (by omega)) h5⟩
  rcases h.is with h1 | ⟨h1, h2, h3⟩
  · exact .inl h1
  · exact .inr ⟨h1, h2.trans hs, h3⟩
/-- Where one is, or else where a phrase ends, too. -/
theorem ot_first {s : List UInt8} {n o : Nat} (hF : Fine X) (hn : Lg X s s.length n) (ho : Ot X (tx X n) ((tx X n).length - 1) o) : Ot X s s.length (if 0 ≤ (X.getD n noPn).word then n else o) := by
  split
  · rename_i h
    exact ⟨hn.lt, .inr ⟨h, hn.suf, hn.le⟩, fun y hy _ h4 h5 => hn.max y hy h4 h5⟩
  · rename_i h
    refine ⟨ho.lt, ?_, fun y hy hw h4 h5 => ?_⟩
    · rcases ho.is with h1 | ⟨h1, h2, h3⟩
      · exact .inl h1
      · exact .inr ⟨h1, h2.trans hn.suf, by have := hn.le; omega⟩
    · have h6 := hn.max y hy h4 h5
      have h7 := suf_of h4 hn.suf h6
      refine ho.max y hy hw h7 ?_
      have h8 : (tx X y).length ≠ (tx X n).length := by
        intro e
        have := hF.dist y n hy hn.lt (h7.eq_of_length e)
        subst this
        exact h hw
      omega
include hT in
theorem ends_more {s : List UInt8} : ∀ d, 40 + d ≤ s.length → ends zs s (40 + d) = ends zs s 40
  | 0, _ => rfl
  | d + 1, h => by
    rw [← ends_more d (by omega)]
    show ends zs s (40 + d + 1) = _
    have hl := lastN_length (s := s) (n := 40 + d + 1) (by omega)
    cases hf : findL zs (lastN s (40 + d + 1)) with
    | some k =>
      obtain ⟨x, h1, h2, _⟩ := hT.node hf
      have := hT.short x h1
      rw [h2, hl] at this
      omega
    | none => exact ends_no hf
include hT in
/-- No phrase is longer than 40 bytes. -/
theorem ends_40 (s : List UInt8) : ends zs s s.length = ends zs s (min s.length 40) := by
  rcases Nat.lt_or_ge 40 s.length with h | h
  · rw [Nat.min_eq_right (by omega)]
    have := ends_more hT (s := s) (s.length - 40) (by omega)
    rw [show 40 + (s.length - 40) = s.length by omega] at this
    exact this
  · rw [Nat.min_eq_left h]
end
end Go.Proofs.YtdeeeechdlcdbaaGreat.ScP
