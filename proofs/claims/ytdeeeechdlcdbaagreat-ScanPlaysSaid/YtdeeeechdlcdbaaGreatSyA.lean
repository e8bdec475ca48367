/- For ScanPlays: a scanner, and rows, where a book grows; a book where a scanner goes on; hits as pairs of numbers. -/
import Derived.Test.YtdeeeechdlcdbaaGreatRhA
import Derived.Test.YtdeeeechdlcdbaaGreatScX
import Derived.Test.YtdeeeechdlcdbaaGreatBkHF
set_option linter.unusedVariables false
set_option linter.unusedSimpArgs false
namespace Go.Proofs.YtdeeeechdlcdbaaGreat.SyA
open Go Go.RowKit Go.Lib Go.Sort Go.Proofs Go.Proofs.YtdeeeechdlcdbaaGreat Go.Proofs.YtdeeeechdlcdbaaGreat.Base Go.Proofs.YtdeeeechdlcdbaaGreat.DiA Go.Proofs.YtdeeeechdlcdbaaGreat.TrP Go.Proofs.YtdeeeechdlcdbaaGreat.ScP Go.Proofs.YtdeeeechdlcdbaaGreat.ScH Go.Proofs.YtdeeeechdlcdbaaGreat.ScF Go.Proofs.YtdeeeechdlcdbaaGreat.ScE Go.Proofs.YtdeeeechdlcdbaaGreat.ScX Go.Proofs.YtdeeeechdlcdbaaGreat.ScA
def asI (F : List (Nat × Nat)) : List BkHits.E := F.map fun x => ((x.1 : Int), (x.2 : Int))
theorem asI_len (F : List (Nat × Nat)) : (asI F).length = F.length := List.length_map _
theorem hc_asI (F : List (Nat × Nat)) : hitC F = BkHits.hc (asI F) := by
  unfold hitC BkHits.hc asI
  rw [List.flatMap_map]
theorem row_of {B : Nat} {w : World} {v : Value} {F : List (Nat × Nat)} (h : w.ownsRow B 93 2 v F.length (hitC F)) : BkHits.Row B w (v, asI F) := by
  show w.ownsRow B 93 2 v (asI F).length (BkHits.hc (asI F))
  rw [asI_len, ← hc_asI]; exact h
theorem sc_stays {W0 w w' : World} {p q n : Nat} {X : List Pn} {s : List UInt8} (h : Sc W0 p q X s n w) (hs : BkHits.Stays w w') (hb : Below W0.heap.size w w') : Sc W0 p q X s n w' := by
  obtain ⟨x, h1, h2⟩ := h.node
  refine ⟨h.ge, ⟨x, hs q _ h1 (fun cs m e => ?_) (fun cs m e => ?_), h2⟩, h.bel.trans hb⟩
  · injection e with _ e; cases e
  · injection e with _ e; cases e
theorem row_twin {B q : Nat} {w w' : World} {x : BkHits.L} (h : BkHits.Row B w x) (ht : LkL.Twin q q w w') (hq : q < B) : BkHits.Row B w' x := own_twin h ht (fun e => by have := own_ge h q e; omega)
theorem book_twin {B q pb : Nat} {w w' : World} {ls : List BkHits.L} (h : BkHits.Book B B w pb ls) (ht : LkL.Twin q q w w') (hq : q < B) : BkHits.Book B B w' pb ls := by
  obtain ⟨V, W, cs, h⟩ := h
  have hne : pb ≠ q := by have := h.ge; omega
  refine ⟨V, W, cs, h.ge, (ht.block pb (heap_lt h.book) hne hne).trans h.book, own_twin h.lists ht (fun e => by have := own_ge h.lists q e; omega), own_twin h.copies ht (fun e => by have := own_ge h.copies q e; omega), h.apt, fun j x hj => ?_, ⟨fun x hx => row_twin (h.rows.own x hx) ht hq, h.rows.apart⟩⟩
  obtain ⟨c, h1, h2⟩ := h.was j x hj
  exact ⟨c, h1, row_twin h2 ht hq⟩
end Go.Proofs.YtdeeeechdlcdbaaGreat.SyA
