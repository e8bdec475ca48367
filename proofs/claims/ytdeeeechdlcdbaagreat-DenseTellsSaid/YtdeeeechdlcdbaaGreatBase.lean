/- Small words for walks: memory below a number, cells, slices that a call owns. -/
import Derived.WalkKit
import Derived.WalkSpells
import Derived.Below
import Derived.OwnWalk
import Derived.Carry
namespace Go.Proofs.YtdeeeechdlcdbaaGreat.Base
open Go Go.RowKit
theorem bstep {w a b : World} (h : Below w.heap.size w a) (k : Below a.heap.size a b) : Below w.heap.size w b := h.trans (k.mono h.size)
theorem below_drew {B : Nat} {w W : World} (h : Below B w W) : Below B w { heap := W.heap, tape := W.tape, drawn := W.drawn + 1, os := W.os, output := W.output } := ⟨h.os, h.tape, h.output, h.size, h.block⟩
theorem below_undrew {B n : Nat} {w W : World} (h : Below B { heap := w.heap, tape := w.tape, drawn := n, os := w.os, output := w.output } W) : Below B w W := ⟨h.os, h.tape, h.output, h.size, h.block⟩
theorem balloc {w a : World} (h : Below w.heap.size w a) (o : Obj) : Below w.heap.size w (a.alloc o) := h.alloc h.size o
theorem pw_cell_below {w w1 : World} (h : Below w.heap.size w w1) {a : Addr} {v : Value} (hc : w.cell? a = some v) : w1.cell? a = some v := (h.cell (World.block_lt_of_cell? w a hc)).trans hc
theorem cell_same {w : World} {a : Addr} {u v : Value} (h : w.cell? a = some u) : (w.setCell a v).cell? a = some v := by first | exact World.cell?_setCell_same _ _ _ h | exact World.cell?_setCell_same _ _ h | (simp [h]; done)
theorem ret_bool {a b : Bool} (h : a = b) : Ending.returned (.bool a) = .returned (.bool b) := by rw [h]
theorem int_eq {k : IntKind} {a b : Int} (h : a = b) : Value.int k a = .int k b := by rw [h]
theorem data_inj {a b : ByteArray} (h : a.data.toList = b.data.toList) : a = b := ByteArray.ext (Array.toList_inj.1 h)
theorem app_list (a b : ByteArray) : (a ++ b).data.toList = a.data.toList ++ b.data.toList := by simp
theorem ext_list (b : ByteArray) (i j : Nat) : (b.extract i j).data.toList = (b.data.toList.drop i).take (j - i) := by
  rw [ByteArray.data_extract, Array.toList_extract]
theorem size_list (b : ByteArray) : b.size = b.data.toList.length := by rw [Array.length_toList]; rfl
theorem empty_of {t : ByteArray} (h : (!t.toList.isEmpty) = false) : t = ⟨#[]⟩ := by
  rw [ByteArray.toList_eq] at h
  apply ByteArray.ext
  apply Array.toList_inj.1
  simpa using h
theorem nonempty_of {b : ByteArray} (h : 1 ≤ b.size) : b.toList.isEmpty = false := by
  rw [ByteArray.toList_eq]
  cases hb : b.data.toList with
  | nil =>
    have e : ([] : List UInt8).length = b.data.size := by rw [← hb]; exact Array.length_toList
    have e1 : (0 : Nat) = b.data.size := e
    have e2 : b.size = b.data.size := rfl
    omega
  | cons a l => rfl
theorem heap_new (w : World) (o : Obj) : (w.alloc o).heap[w.heap.size]? = some o := by show (w.heap.push o)[w.heap.size]? = _; simp
theorem heap_lt {w : World} {g : Nat} {o : Obj} (h : w.heap[g]? = some o) : g < w.heap.size := (Array.getElem?_eq_some_iff.1 h).1
theorem heap_below {w w1 : World} (h : Below w.heap.size w w1) {g : Nat} {o : Obj} (hc : w.heap[g]? = some o) : w1.heap[g]? = some o := (h.block g (heap_lt hc)).trans hc
theorem cell_of {W : World} {b i : Nat} {cs : Array Value} {t : TypeId} {v : Value} (h : W.heap[b]? = some (.cells cs t (0, 0))) (hi : cs[i]? = some v) : W.cell? ⟨b, i, none⟩ = some v := by
  unfold World.cell?; simp [h, hi]
theorem frozen_of {W : World} {b i : Nat} {cs : Array Value} {t : TypeId} (h : W.heap[b]? = some (.cells cs t (0, 0))) : W.frozen? ⟨b, i, none⟩ = false := by
  unfold World.frozen?; simp [h]
theorem own_below {W W' : World} {base : Nat} {e : TypeId} {size n : Nat} {v : Value} {xs : List Value} (h : W.ownsRow base e size v n xs) (hb : Below W.heap.size W W') : W'.ownsRow base e size v n xs := by
  refine ⟨h.1, ?_⟩
  rcases h.2 with h1 | ⟨g, cap, cur, h1, h2, h3, h4⟩
  · exact .inl h1
  · exact .inr ⟨g, cap, cur, h1, h2, heap_below hb h3, h4⟩
theorem own_ge {W : World} {base : Nat} {e : TypeId} {size n : Nat} {v : Value} {xs : List Value} (h : W.ownsRow base e size v n xs) : ∀ k, v.ownBlock = some k → base ≤ k := by
  intro k hk
  rcases h.2 with ⟨rfl, _⟩ | ⟨g, cap, cur, rfl, h2, _⟩
  · cases hk
  · simp [Value.ownBlock] at hk; omega
theorem own_lt {W : World} {base : Nat} {e : TypeId} {size n : Nat} {v : Value} {xs : List Value} (h : W.ownsRow base e size v n xs) : ∀ k, v.ownBlock = some k → k < W.heap.size := by
  intro k hk
  rcases h.2 with ⟨rfl, _⟩ | ⟨g, cap, cur, rfl, h2, h3, _⟩
  · cases hk
  · have := heap_lt h3
    simp [Value.ownBlock] at hk; omega
theorem own_form {W : World} {base : Nat} {e : TypeId} {size n : Nat} {v : Value} {xs : List Value} (h : W.ownsRow base e size v n xs) :
    ∃ V cp, v = .slice V n cp ∧ (0 < n → ∃ g, V = some ⟨g, 0, none⟩ ∧ g < W.heap.size ∧ ∀ j u, xs[j]? = some u → W.cell? ⟨g, j, none⟩ = some u) := by
  rcases h.2 with ⟨h1, h2⟩ | ⟨g, cap, cur, h1, h2, h3, h4, h5, h6, h7⟩
  · subst h2; exact ⟨none, 0, h1, fun h => absurd h (by omega)⟩
  · refine ⟨some ⟨g, 0, none⟩, cap, h1, fun _ => ⟨g, rfl, heap_lt h3, fun j u hu => ?_⟩⟩
    rw [← h7, List.getElem?_take] at hu
    split at hu
    · simp only [World.cell?, h3, Option.isSome_none, Bool.false_eq_true, if_false]
      simpa using hu
    · cases hu
/-- A block of cells and an owned row of another element type differ. -/
theorem own_ne {W : World} {base : Nat} {e t : TypeId} {size n : Nat} {v : Value} {xs : List Value} {g : Nat} {cs : Array Value} (h : W.ownsRow base e size v n xs) (hg : W.heap[g]? = some (.cells cs t (0, 0))) (hne : e ≠ t) : v.ownBlock ≠ some g := by
  rcases h.2 with ⟨rfl, _⟩ | ⟨g', cap, cur, rfl, _, hh, _⟩
  · simp [Value.ownBlock]
  · intro he
    simp [Value.ownBlock] at he
    subst he
    rw [hh] at hg
    injection hg with hg
    injection hg with _ ht
    exact hne ht
end Go.Proofs.YtdeeeechdlcdbaaGreat.Base
