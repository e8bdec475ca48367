/- The dictionary in memory; small calls. -/
import Derived.Test.YtdeeeechdlcdbaaDiA
import Derived.Test.YtdeeeechdlcdbaaShelf
import Derived.Test.YtdeeeechdlcdbaaStep
set_option linter.unusedSimpArgs false
set_option linter.unusedVariables false
namespace Go.Proofs.Ytdeeeechdlcdbaa.DiB
open Go Go.RowKit Go.Proofs.Ytdeeeechdlcdbaa.Base Go.Proofs.Ytdeeeechdlcdbaa.DiA
theorem info9 : (Try.prog.info? 9).map (fun i => (i.zero, i.size, i.bytes)) = some (some (.string ⟨#[]⟩), 1, 16) := by kernel_rfl
/-- Which phrase may stand at k. -/
def goodAt (zs : List ByteArray) (k : Nat) : Bool := decide (1 ≤ (zs.getD k ByteArray.empty).size) && (decide ((zs.getD k ByteArray.empty).size ≤ 40) && (decide (total (zs.take (k + 1)) ≤ 1000) && !Lib.containsS (zs.take k) (zs.getD k ByteArray.empty)))
def okUpto (zs : List ByteArray) (k : Nat) : Bool := (List.range k).all (goodAt zs)
/-- May the phrases be a dictionary? -/
def okD (zs : List ByteArray) : Bool := decide (zs.length ≤ 100) && okUpto zs zs.length
theorem okUpto_succ (zs : List ByteArray) (k : Nat) : okUpto zs (k + 1) = (okUpto zs k && goodAt zs k) := by
  unfold okUpto; rw [List.range_succ, List.all_append]; simp
theorem okUpto_le {zs : List ByteArray} {k n : Nat} (h : k ≤ n) (hn : okUpto zs n = true) : okUpto zs k = true := by
  unfold okUpto at hn ⊢
  rw [List.all_eq_true] at hn ⊢
  intro i hi
  exact hn i (List.mem_range.2 (Nat.lt_of_lt_of_le (List.mem_range.1 hi) h))
theorem bad_at {zs : List ByteArray} {k : Nat} (hk : k < zs.length) (h : goodAt zs k = false) : okD zs = false := by
  cases ho : okD zs with
  | false => rfl
  | true =>
    unfold okD at ho
    rw [Bool.and_eq_true] at ho
    have := okUpto_le (k := k + 1) (by omega) ho.2
    rw [okUpto_succ, h, Bool.and_false] at this
    cases this
/-- Block p is a dictionary of these phrases; its row lies from B on. -/
def DictAt (B : Nat) (w : World) (p : Nat) (zs : List ByteArray) : Prop := ∃ v, w.heap[p]? = some (.cells #[v] 135 (0, 0)) ∧ w.ownsRow B 9 1 v zs.length (zs.map Value.string)
theorem DictAt.below {B : Nat} {w w' : World} {p : Nat} {zs : List ByteArray} (h : DictAt B w p zs) (hb : Below w.heap.size w w') : DictAt B w' p zs := by
  obtain ⟨v, h1, h2⟩ := h
  exact ⟨v, heap_below hb h1, own_below h2 hb⟩
set_option maxHeartbeats 400000 in
theorem clone_any (s : ByteArray) (w : World) (hs : s.size ≤ 281474976710656) : Calls Try.prog 108 #[.string s] w fun e w' => e = .returned (.string s) ∧ Below w.heap.size w w' := by
  go_enter Try.func108, Try.ntmps108
  go_wp2_with fail
  refine (Try.stringslite_Clone s _ hs).mono ?_
  rintro e w1 ⟨rfl, hb⟩
  go_wp2_with fail
  go_ret
  exact ⟨rfl, hb⟩
theorem own_cells {w : World} {base n : Nat} {v : Value} {zs : List ByteArray} (h : w.ownsRow base 9 1 v n (zs.map Value.string)) (hl : zs.length = n) : ∃ V cp, v = .slice V n cp ∧ StrsAt w V zs := by
  obtain ⟨V, cp, hv, hc⟩ := own_form h
  refine ⟨V, cp, hv, fun hn => ?_⟩
  obtain ⟨g, hV, hg, hcell⟩ := hc (by omega)
  refine ⟨g, 0, hV, hg, fun j hj => ?_⟩
  rw [Nat.zero_add]
  refine hcell j _ ?_
  simp [List.getD_eq_getElem?_getD, hj]
theorem contains_any (V : Option Addr) (n c : Nat) (zs : List ByteArray) (x : ByteArray) (w : World) (hn : n = zs.length) (hbig : n ≤ 1000) (h : StrsAt w V zs) :
    Calls Try.prog 107 #[.slice V n c, .string x] w fun e w' => e = .returned (.bool (Lib.containsS zs x)) ∧ w' = w := by
  rcases Nat.eq_zero_or_pos n with h0 | h0
  · have : zs = [] := List.eq_nil_of_length_eq_zero (by omega)
    subst this
    rw [h0]
    exact (Try.slices_Contains_string_empty V c x w).mono fun e w' he => by
      have e1 : Lib.containsS [] x = false := rfl
      rw [e1]; exact he
  · obtain ⟨b, off, rfl, _, hc⟩ := h (by omega)
    have := Try.slices_Contains_string b off n c zs x w (by omega) (by omega) hc
    rw [List.take_of_length_le (by omega)] at this
    exact this
end Go.Proofs.Ytdeeeechdlcdbaa.DiB
