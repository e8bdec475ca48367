/- For DenseTells: where a byte leads from the root, by the reference's look; rows as a book's lists. -/
import Derived.Test.YtdeeeechdlcdbaaGreatMxA
import Derived.Test.YtdeeeechdlcdbaaGreatRhA
import Derived.Test.YtdeeeechdlcdbaaGreatDnV
import Derived.Test.YtdeeeechdlcdbaaGreatDnS
import Derived.Test.YtdeeeechdlcdbaaGreatPhW
import Derived.Test.YtdeeeechdlcdbaaGreatTtN
set_option linter.unusedVariables false
set_option linter.unusedSimpArgs false
namespace Go.Proofs.YtdeeeechdlcdbaaGreat.DtA
open Go Go.RowKit Go.Lib Go.Sort Go.Proofs Go.Proofs.YtdeeeechdlcdbaaGreat Go.Proofs.YtdeeeechdlcdbaaGreat.Base Go.Proofs.YtdeeeechdlcdbaaGreat.DiA Go.Proofs.YtdeeeechdlcdbaaGreat.TrP Go.Proofs.YtdeeeechdlcdbaaGreat.TcP Go.Proofs.YtdeeeechdlcdbaaGreat.TtP Go.Proofs.YtdeeeechdlcdbaaGreat.TwA Go.Proofs.YtdeeeechdlcdbaaGreat.LkA Go.Proofs.YtdeeeechdlcdbaaGreat.LkM Go.Proofs.YtdeeeechdlcdbaaGreat.LkS Go.Proofs.YtdeeeechdlcdbaaGreat.LkP Go.Proofs.YtdeeeechdlcdbaaGreat.PhP Go.Proofs.YtdeeeechdlcdbaaGreat.ScP Go.Proofs.YtdeeeechdlcdbaaGreat.ScF Go.Proofs.YtdeeeechdlcdbaaGreat.DnP Go.Proofs.YtdeeeechdlcdbaaGreat.DnS
theorem root_find {zs : List ByteArray} {id : Nat} {X : List Pn} (hG : TrP.Good zs id X) (hF : Fine X) {c : Int} {r : Nat} (h : Goes X 0 c r) : max (findI (texts X) [byte c]) 0 = (r : Int) := by
  unfold Goes at h
  rw [tx0 hG] at h
  have hle : (tx X r).length ≤ 1 := h.le
  unfold findI
  cases hf : findL (texts X) [byte c] with
  | some j =>
    obtain ⟨h1, h2⟩ := findL_some hf
    rw [texts_length] at h1
    rw [texts_getD h1] at h2
    have h3 : tx X j = [byte c] := h2
    have h4 := h.max j h1 (by rw [h3]; exact List.suffix_refl _) (by rw [h3]; exact Nat.le_refl _)
    rw [h3] at h4
    have h5 : tx X r = [byte c] := h.suf.eq_of_length (by simp at h4 ⊢; omega)
    have := hF.dist r j h.lt h1 (by rw [h3]; exact h5)
    subst this
    show max (r : Int) 0 = _
    omega
  | none =>
    have h5 : tx X r ≠ [byte c] := fun e => findL_none hf r (by rw [texts_length]; exact h.lt) (by rw [texts_getD h.lt]; exact e)
    have h6 : (tx X r).length ≠ 1 := fun e => h5 (h.suf.eq_of_length (by simpa using e))
    have h7 : r = 0 := by
      rcases Nat.eq_zero_or_pos r with h0 | h0
      · exact h0
      · have := (tx_pos hG hF h.lt).1 h0
        omega
    subst h7; rfl
theorem get_some {L : List Nat} {j : Nat} (h : j < L.length) : L[j]? = some (L.getD j 0) := by rw [List.getD_eq_getElem?_getD, List.getElem?_eq_getElem h]; rfl
def toB (L : List Nat) : List Int := L.map fun (x : Nat) => (x : Int)
theorem toB_len (L : List Nat) : (toB L).length = L.length := List.length_map _
theorem rowI {B n : Nat} {w : World} {v : Value} {L : List Nat} (h : w.ownsRow B 3 1 v n (L.map encN)) (hn : L.length = n) : MInts.Row B w (v, toI L) := by
  show w.ownsRow B 3 1 v (toI L).length _
  unfold toI
  rw [List.length_map, hn, List.map_map]; exact h
theorem rowB {B n : Nat} {w : World} {v : Value} {L : List Nat} (h : w.ownsRow B 5 1 v n (L.map encB)) (hn : L.length = n) : MBytes.Row B w (v, toB L) := by
  show w.ownsRow B 5 1 v (toB L).length _
  rw [toB_len, hn]; unfold toB; rw [List.map_map]; exact h
def asI (F : List (Nat × Nat)) : List MHits.E := F.map fun x => ((x.1 : Int), (x.2 : Int))
theorem asI_len (F : List (Nat × Nat)) : (asI F).length = F.length := List.length_map _
theorem rowH {B n : Nat} {w : World} {v : Value} {F : List (Nat × Nat)} (h : w.ownsRow B 93 2 v n (hitC F)) (hn : F.length = n) : MHits.Row B w (v, asI F) := by
  show w.ownsRow B 93 2 v (asI F).length (MHits.hc (asI F))
  rw [asI_len, hn]
  unfold MHits.hc asI
  rw [List.flatMap_map]; exact h
end Go.Proofs.YtdeeeechdlcdbaaGreat.DtA
