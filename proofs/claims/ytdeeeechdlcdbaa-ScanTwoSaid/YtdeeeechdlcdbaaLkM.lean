/- Links in memory; the walks of their small functions. -/
import Derived.Test.YtdeeeechdlcdbaaLkA
import Derived.Test.YtdeeeechdlcdbaaLkP
import Derived.Test.YtdeeeechdlcdbaaLkO
set_option linter.unusedVariables false
set_option linter.unusedSimpArgs false
namespace Go.Proofs.Ytdeeeechdlcdbaa.LkM
open Go Go.RowKit Go.Proofs.Ytdeeeechdlcdbaa.Base Go.Proofs.Ytdeeeechdlcdbaa.DiA Go.Proofs.Ytdeeeechdlcdbaa.TrP Go.Proofs.Ytdeeeechdlcdbaa.TrM Go.Proofs.Ytdeeeechdlcdbaa.TrA Go.Proofs.Ytdeeeechdlcdbaa.TrD Go.Proofs.Ytdeeeechdlcdbaa.TrE Go.Proofs.Ytdeeeechdlcdbaa.TtP Go.Proofs.Ytdeeeechdlcdbaa.LkA Go.Proofs.Ytdeeeechdlcdbaa.LkP
def encN (x : Nat) : Value := .int .i64 (x : Int)
/-- Block p has the links of the trie in block px: where one goes on (F), where a phrase ends, too (O), all nodes by their depth (L). -/
structure LkAt (B : Nat) (w : World) (p px : Nat) (N : List Nd) (m : Nat) (F O L : List Nat) : Prop where
  trie : TrieAt B w px N m
  row : ∃ vf vo vl, w.heap[p]? = some (.cells #[.pointer (some ⟨px, 0, none⟩), vf, vo, vl] 126 (0, 0)) ∧ w.ownsRow B 3 1 vf N.length (F.map encN) ∧ w.ownsRow B 3 1 vo N.length (O.map encN) ∧ w.ownsRow B 3 1 vl N.length (L.map encN)
theorem LkAt.below {B p px m : Nat} {w w' : World} {N : List Nd} {F O L : List Nat} (h : LkAt B w p px N m F O L) (hb : Below w.heap.size w w') : LkAt B w' p px N m F O L := by
  obtain ⟨h1, vf, vo, vl, h2, h3, h4, h5⟩ := h
  exact ⟨h1.below hb, vf, vo, vl, heap_below hb h2, own_below h3 hb, own_below h4 hb, own_below h5 hb⟩
theorem ints_form {w : World} {B n : Nat} {v : Value} {F : List Nat} (h : w.ownsRow B 3 1 v n (F.map encN)) : F.length = n ∧ ∃ V cp, v = .slice V n cp ∧ (0 < n → ∃ g, V = some ⟨g, 0, none⟩ ∧ ∀ j, j < n → w.cell? ⟨g, j, none⟩ = some (encN (F.getD j 0))) := by
  have hl : F.length = n := by have := h.1; simpa using this
  obtain ⟨V, cp, hv, hc⟩ := own_form h
  refine ⟨hl, V, cp, hv, fun hn => ?_⟩
  obtain ⟨g, hV, _, hcell⟩ := hc hn
  refine ⟨g, hV, fun j hj => hcell j _ ?_⟩
  rw [List.getElem?_map, List.getElem?_eq_getElem (by omega), List.getD_eq_getElem?_getD, List.getElem?_eq_getElem (by omega)]; rfl
section
variable {B p px m : Nat} {N : List Nd} {F O L : List Nat} {w : World}
theorem LkAt.len (h : LkAt B w p px N m F O L) : F.length = N.length ∧ O.length = N.length ∧ L.length = N.length := by
  obtain ⟨h1, vf, vo, vl, h2, h3, h4, h5⟩ := h
  exact ⟨(ints_form h3).1, (ints_form h4).1, (ints_form h5).1⟩
set_option maxHeartbeats 400000 in
theorem trie_any (h : LkAt B w p px N m F O L) : Calls Try.prog 45 #[.pointer (some ⟨p, 0, none⟩)] w fun e w' => e = .returned (.pointer (some ⟨px, 0, none⟩)) ∧ w' = w := by
  obtain ⟨h1, vf, vo, vl, h2, h3, h4, h5⟩ := h
  have c0 : w.cell? ⟨p, 0, none⟩ = some (.pointer (some ⟨px, 0, none⟩)) := cell_of h2 rfl
  clear h1 h2 h3 h4 h5
  go_enter Try.func45, Try.ntmps45
  go_wp2_with fail
  go_ret
  exact ⟨rfl, rfl⟩
set_option maxHeartbeats 400000 in
theorem trie_nil (w : World) : Calls Try.prog 45 #[.pointer none] w fun e w' => e = .returned (.pointer none) ∧ w' = w := by
  go_enter Try.func45, Try.ntmps45
  go_wp2_with fail
  go_ret
  exact ⟨rfl, rfl⟩
set_option maxHeartbeats 1000000 in
theorem fail_in (h : LkAt B w p px N m F O L) {k : Nat} (hk : k < N.length) : Calls Try.prog 46 #[.pointer (some ⟨p, 0, none⟩), .int .i64 (k : Int)] w fun e w' => e = .returned (.int .i64 (F.getD k 0 : Nat)) ∧ w' = w := by
  obtain ⟨h1, vf, vo, vl, h2, h3, h4, h5⟩ := h
  obtain ⟨hl, V, cp, rfl, hc⟩ := ints_form h3
  obtain ⟨g, rfl, hcell⟩ := hc (by omega)
  have c1 : w.cell? ⟨p, 1, none⟩ = some (.slice (some ⟨g, 0, none⟩) N.length cp) := cell_of h2 rfl
  have c2 := hcell k hk
  unfold encN at c2
  generalize F.getD k 0 = r at c2 ⊢
  have hd : decide ((k : Int) < 0) = false := decide_eq_false (by omega)
  have hd2 : decide ((k : Int) ≥ (N.length : Int)) = false := decide_eq_false (by omega)
  have hki : (k : Int) < (N.length : Int) := by omega
  clear h1 h2 h3 h4 h5 hc hcell hl
  go_enter Try.func46, Try.ntmps46
  go_wp2_with fail
  go_ret
  exact ⟨rfl, rfl⟩
set_option maxHeartbeats 1000000 in
theorem out_in (h : LkAt B w p px N m F O L) {k : Nat} (hk : k < N.length) : Calls Try.prog 47 #[.pointer (some ⟨p, 0, none⟩), .int .i64 (k : Int)] w fun e w' => e = .returned (.int .i64 (O.getD k 0 : Nat)) ∧ w' = w := by
  obtain ⟨h1, vf, vo, vl, h2, h3, h4, h5⟩ := h
  obtain ⟨hl, V, cp, rfl, hc⟩ := ints_form h4
  obtain ⟨g, rfl, hcell⟩ := hc (by omega)
  have c1 : w.cell? ⟨p, 2, none⟩ = some (.slice (some ⟨g, 0, none⟩) N.length cp) := cell_of h2 rfl
  have c2 := hcell k hk
  unfold encN at c2
  generalize O.getD k 0 = r at c2 ⊢
  have hd : decide ((k : Int) < 0) = false := decide_eq_false (by omega)
  have hd2 : decide ((k : Int) ≥ (N.length : Int)) = false := decide_eq_false (by omega)
  have hki : (k : Int) < (N.length : Int) := by omega
  clear h1 h2 h3 h4 h5 hc hcell hl
  go_enter Try.func47, Try.ntmps47
  go_wp2_with fail
  go_ret
  exact ⟨rfl, rfl⟩
set_option maxHeartbeats 1000000 in
theorem fail_out (h : LkAt B w p px N m F O L) {k : Int} (hk : k < 0 ∨ (N.length : Int) ≤ k) : Calls Try.prog 46 #[.pointer (some ⟨p, 0, none⟩), .int .i64 k] w fun e w' => e = .returned (.int .i64 0) ∧ w' = w := by
  obtain ⟨h1, vf, vo, vl, h2, h3, h4, h5⟩ := h
  obtain ⟨hl, V, cp, rfl, hc⟩ := ints_form h3
  have c1 : w.cell? ⟨p, 1, none⟩ = some (.slice V N.length cp) := cell_of h2 rfl
  clear h1 h2 h3 h4 h5 hc hl
  by_cases h0 : k < 0
  · have hd : decide (k < 0) = true := decide_eq_true h0
    clear hk h0
    go_enter Try.func46, Try.ntmps46
    go_wp2_with fail
    go_ret
    exact ⟨rfl, rfl⟩
  · have hd : decide (k < 0) = false := decide_eq_false h0
    have hd2 : decide (k ≥ (N.length : Int)) = true := decide_eq_true (by omega)
    clear hk h0
    go_enter Try.func46, Try.ntmps46
    go_wp2_with fail
    go_ret
    exact ⟨rfl, rfl⟩
set_option maxHeartbeats 1000000 in
theorem out_out (h : LkAt B w p px N m F O L) {k : Int} (hk : k < 0 ∨ (N.length : Int) ≤ k) : Calls Try.prog 47 #[.pointer (some ⟨p, 0, none⟩), .int .i64 k] w fun e w' => e = .returned (.int .i64 0) ∧ w' = w := by
  obtain ⟨h1, vf, vo, vl, h2, h3, h4, h5⟩ := h
  obtain ⟨hl, V, cp, rfl, hc⟩ := ints_form h4
  have c1 : w.cell? ⟨p, 2, none⟩ = some (.slice V N.length cp) := cell_of h2 rfl
  clear h1 h2 h3 h4 h5 hc hl
  by_cases h0 : k < 0
  · have hd : decide (k < 0) = true := decide_eq_true h0
    clear hk h0
    go_enter Try.func47, Try.ntmps47
    go_wp2_with fail
    go_ret
    exact ⟨rfl, rfl⟩
  · have hd : decide (k < 0) = false := decide_eq_false h0
    have hd2 : decide (k ≥ (N.length : Int)) = true := decide_eq_true (by omega)
    clear hk h0
    go_enter Try.func47, Try.ntmps47
    go_wp2_with fail
    go_ret
    exact ⟨rfl, rfl⟩
set_option maxHeartbeats 400000 in
theorem fail_nil (k : Int) (w : World) : Calls Try.prog 46 #[.pointer none, .int .i64 k] w fun e w' => e = .returned (.int .i64 0) ∧ w' = w := by
  go_enter Try.func46, Try.ntmps46
  go_wp2_with fail
  go_ret
  exact ⟨rfl, rfl⟩
set_option maxHeartbeats 400000 in
theorem out_nil (k : Int) (w : World) : Calls Try.prog 47 #[.pointer none, .int .i64 k] w fun e w' => e = .returned (.int .i64 0) ∧ w' = w := by
  go_enter Try.func47, Try.ntmps47
  go_wp2_with fail
  go_ret
  exact ⟨rfl, rfl⟩
end
end Go.Proofs.Ytdeeeechdlcdbaa.LkM
