/- HitsAny, in plain Lean: what is in the map; what Starts tells. -/
import Derived.Test.YtdeeeechdlcdbaaHnW
import Derived.Test.YtdeeeechdlcdbaaSeH
set_option linter.unusedVariables false
set_option linter.unusedSimpArgs false
namespace Go.Proofs.Ytdeeeechdlcdbaa.HaP
open Go Go.RowKit Go.Proofs.Ytdeeeechdlcdbaa.Base Go.Proofs.Ytdeeeechdlcdbaa.DiA Go.Proofs.Ytdeeeechdlcdbaa.DiB Go.Proofs.Ytdeeeechdlcdbaa.TcP Go.Proofs.Ytdeeeechdlcdbaa.PhP Go.Proofs.Ytdeeeechdlcdbaa.ScP Go.Proofs.Ytdeeeechdlcdbaa.HiP Go.Proofs.Ytdeeeechdlcdbaa.HiQ Go.Proofs.Ytdeeeechdlcdbaa.HiA Go.Proofs.Ytdeeeechdlcdbaa.HiW Go.Proofs.Ytdeeeechdlcdbaa.RwA Go.Proofs.Ytdeeeechdlcdbaa.SeH Go.Proofs.Ytdeeeechdlcdbaa.HnW
def Tst (zs : List ByteArray) (n0 : Int) (x : Int × Int) : Prop := 0 ≤ x.2 ∧ x.2 < (zs.length : Int) ∧ 0 ≤ x.1 ∧ x.1 ≤ n0 ∧ (szk zs x.2.toNat : Int) ≤ x.1
instance (zs : List ByteArray) (n0 : Int) (x : Int × Int) : Decidable (Tst zs n0 x) := by unfold Tst; exact inferInstance
/-- One hit looked at. -/
def addT (zs : List ByteArray) (n0 : Int) (S : List (Int × Int)) (x : Int × Int) : List (Int × Int) := if Tst zs n0 x then addIf S x else S
def hasT (zs : List ByteArray) (n0 : Int) (H : List (Int × Int)) : List (Int × Int) := H.foldl (addT zs n0) []
theorem addT_eq (zs : List ByteArray) (n : Nat) : addT zs (n : Int) = addHas (szk zs) zs.length n := by
  funext S x
  unfold addT addHas addIf
  by_cases h : Tst zs (n : Int) x
  · rw [if_pos h, if_pos (okHit_iff.2 ⟨h.1, h.2.1, h.2.2.2.2, h.2.2.2.1⟩)]
  · rw [if_neg h, if_neg]
    intro h2
    obtain ⟨h3, h4, h5, h6⟩ := okHit_iff.1 h2
    exact h ⟨h3, h4, by omega, h6, h5⟩
theorem hasT_eq (zs : List ByteArray) (n : Nat) (H : List (Int × Int)) : hasT zs (n : Int) H = hasL (szk zs) zs.length n H := by
  unfold hasT hasL; rw [addT_eq]
theorem hasT_neg {zs : List ByteArray} {n0 : Int} (h : n0 < 0) (H : List (Int × Int)) : hasT zs n0 H = [] := by
  unfold hasT
  have : ∀ (H S : List (Int × Int)), H.foldl (addT zs n0) S = S := by
    intro H
    induction H with
    | nil => intro S; rfl
    | cons x H ih =>
      intro S
      rw [List.foldl_cons, show addT zs n0 S x = S from if_neg (fun h2 => by have := h2.2.2.1; have := h2.2.2.2.1; omega)]
      exact ih S
  exact this H []
/-- Behind Starts, at whatever length that is no more than a block's. -/
structure GotIs (zs : List ByteArray) (n0 : Int) (H : List (Int × Int)) (L : List (List Nat)) : Prop where
  len : (L.length : Int) = max n0 0
  has : ∀ i k, k ∈ L.getD i [] → hitOf (szk zs) i k ∈ hasT zs n0 H ∧ k < zs.length
  nodup : ∀ i, (L.getD i []).Nodup
  sorted : ∀ i, (L.getD i []).Pairwise fun x y => szk zs y ≤ szk zs x
  sum : sumL L = (hasT zs n0 H).length
theorem got_neg {zs : List ByteArray} {n0 : Int} (h : n0 < 0) (H : List (Int × Int)) : GotIs zs n0 H [] := by
  have e : ∀ i, ([] : List (List Nat)).getD i [] = [] := fun i => by simp
  refine ⟨by simp; omega, fun i k hk => ?_, fun i => ?_, fun i => ?_, by rw [hasT_neg h]; rfl⟩
  · rw [e] at hk; cases hk
  · rw [e]; exact List.nodup_nil
  · rw [e]; exact List.Pairwise.nil
theorem got_in {zs : List ByteArray} (hp : ∀ k, k < zs.length → 1 ≤ szk zs k) (n : Nat) (H : List (Int × Int)) : GotIs zs (n : Int) H (startsL (szk zs) zs.length n H) := by
  refine ⟨by rw [len_startsL hp]; omega, fun i k hk => ?_, nd_startsL hp H, so_startsL H, by rw [hasT_eq]; exact sum_startsL hp H⟩
  obtain ⟨h1, h2, h3⟩ := (mem_startsL hp).1 hk
  refine ⟨?_, h2⟩
  rw [hasT_eq]
  exact mem_hasL.2 ⟨h1, hitOf_ok h2 h3⟩
theorem starts_gen {Bd : Nat} {w : World} {pd : Option Addr} {zs : List ByteArray} {V : Option Addr} {m cp : Nat} {n0 : Int} {H : List (Int × Int)} (hD0 : DV Bd w (.pointer pd) zs) (hp0 : ∀ k, k < zs.length → 1 ≤ szk zs k) (hs0 : ∀ k, szk zs k ≤ 1000) (hz0 : zs.length ≤ 1000) (hn : n0 ≤ 1024) (hm0 : m = H.length) (hbig : m ≤ 100000) (hH0 : HIn w V H) :
    Calls Try.prog 27 #[.pointer pd, .int .i64 n0, .slice V m cp] w fun e w' => Below w.heap.size w w' ∧ ∃ gv ln L B, e = .returned (.slice gv ln ln) ∧ L.length = ln ∧ GotIs zs n0 H L ∧ (0 < ln → ∃ g, gv = some ⟨g, 0, none⟩ ∧ Rws B g w' L) := by
  by_cases h0 : n0 < 0
  · refine (starts_out pd n0 V m cp w (.inl h0)).mono ?_
    rintro e w' ⟨rfl, hb⟩
    exact ⟨hb, none, 0, [], 0, rfl, rfl, got_neg h0 H, fun h => absurd h (Nat.lt_irrefl 0)⟩
  · obtain ⟨n, rfl⟩ : ∃ n : Nat, n0 = (n : Int) := ⟨n0.toNat, by omega⟩
    refine (starts_any (n := n) (cp := cp) hD0 hp0 hs0 hz0 (by omega) hm0 hbig hH0).mono ?_
    rintro e w' ⟨hb, g, B, rfl, _, _, hR⟩
    exact ⟨hb, _, n, _, B, rfl, len_startsL hp0 H, got_in hp0 n H, fun _ => ⟨g, rfl, hR⟩⟩
/-- A row's numbers, one after another: how many there are ahead. -/
theorem sum_succ {L : List (List Nat)} {i : Nat} (h : i < L.length) : sumL (L.take (i + 1)) = sumL (L.take i) + (L.getD i []).length := by
  unfold sumL
  rw [List.take_succ_eq_append_getElem h, List.map_append, List.sum_append, List.getD_eq_getElem?_getD, List.getElem?_eq_getElem h]
  simp
theorem sum_le {L : List (List Nat)} (i : Nat) : sumL (L.take i) ≤ sumL L := by
  have h : sumL L = sumL (L.take i) + sumL (L.drop i) := by
    unfold sumL
    rw [← List.sum_append, ← List.map_append, List.take_append_drop]
  omega
theorem addIf_len (S : List (Int × Int)) (x : Int × Int) : (addIf S x).length ≤ S.length + 1 := by
  unfold addIf; split
  · omega
  · simp
theorem hasT_len (zs : List ByteArray) (n0 : Int) (H : List (Int × Int)) : (hasT zs n0 H).length ≤ H.length := by
  have : ∀ (H S : List (Int × Int)), (H.foldl (addT zs n0) S).length ≤ S.length + H.length := by
    intro H
    induction H with
    | nil => intro S; exact Nat.le_refl _
    | cons x H ih =>
      intro S
      rw [List.foldl_cons]
      refine Nat.le_trans (ih _) ?_
      have : (addT zs n0 S x).length ≤ S.length + 1 := by
        unfold addT; split
        · exact addIf_len S x
        · omega
      rw [List.length_cons]; omega
  have h := this H []
  simpa [hasT] using h
theorem rws_row2 {B g : Nat} {w : World} {L : List (List Nat)} (h : Rws B g w L) {i : Nat} (hi : i < L.length) : ∃ V cp, w.cell? ⟨g, i, none⟩ = some (.slice V (L.getD i []).length cp) ∧ LkS.At w V (LkS.toI (L.getD i [])) ∧ (L.getD i []).length ≤ cp := by
  obtain ⟨V, cp, h1, h2⟩ := HiV.rws_row h hi
  refine ⟨V, cp, h1, h2, ?_⟩
  obtain ⟨vs, hR⟩ := h
  have hc := hR.cell hi
  have ho := hR.own i hi
  rw [h1] at hc
  have hc := Option.some.inj hc
  rcases ho.2 with ⟨e, h0⟩ | ⟨g2, cap, cur, e, _, _, h4, _⟩
  · omega
  · rw [e] at hc
    injection hc with _ _ hc
    omega
end Go.Proofs.Ytdeeeechdlcdbaa.HaP
