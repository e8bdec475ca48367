/- The walks of a trie's small functions. -/
import Derived.Test.YtdeeeechdlcdbaaTrM
set_option linter.unusedSimpArgs false
set_option linter.unusedVariables false
namespace Go.Proofs.Ytdeeeechdlcdbaa.TrA
open Go Go.RowKit Go.Proofs.Ytdeeeechdlcdbaa.Base Go.Proofs.Ytdeeeechdlcdbaa.TrP Go.Proofs.Ytdeeeechdlcdbaa.TrM
section
variable {B p m : Nat} {N : List Nd} {w : World}
set_option maxHeartbeats 400000 in
theorem len_any (h : TrieAt B w p N m) : Calls Try.prog 30 #[.pointer (some ⟨p, 0, none⟩)] w fun e w' => e = .returned (.int .i64 (N.length : Int)) ∧ w' = w := by
  obtain ⟨V, cp, hc⟩ := h.head
  clear h
  go_enter Try.func30, Try.ntmps30
  go_wp2_with fail
  go_ret
  exact ⟨rfl, rfl⟩
def atV (t : ByteArray) (x : Int) (mp : Option Nat) : Value := .agg #[.string t, .int .i64 x, .map mp]
theorem field63_0 (t : ByteArray) (x : Int) (mp : Option Nat) (W : World) : (Instr.field 106 (.agg #[.string t, .int .i64 x, .map mp]) 0).run Try.prog W = .ok (.string t) W := by kernel_rfl
theorem field63_1 (t : ByteArray) (x : Int) (mp : Option Nat) (W : World) : (Instr.field 106 (.agg #[.string t, .int .i64 x, .map mp]) 1).run Try.prog W = .ok (.int .i64 x) W := by kernel_rfl
theorem field63_2 (t : ByteArray) (x : Int) (mp : Option Nat) (W : World) : (Instr.field 106 (.agg #[.string t, .int .i64 x, .map mp]) 2).run Try.prog W = .ok (.map mp) W := by kernel_rfl
set_option maxHeartbeats 1000000 in
theorem at_in (h : TrieAt B w p N m) {k : Nat} {nd : Nd} (hk : N[k]? = some nd) (hbig : N.length ≤ 1000000) : Calls Try.prog 78 #[.pointer (some ⟨p, 0, none⟩), .int .i64 (k : Int)] w fun e w' => e = .returned (atV nd.p.text nd.p.word (some nd.mp)) ∧ Below w.heap.size w w' := by
  have hlt : k < N.length := (List.getElem?_eq_some_iff.1 hk).1
  have ha : TrieAt B (w.alloc (.cells #[.string ⟨#[]⟩, .int .i64 0, .map none] 106)) p N m := h.below (balloc (Below.refl _ _) _)
  have hlen := len_any ha
  obtain ⟨g, cp, c0, c1, c2, c3⟩ := ha.node hk
  have hd : decide ((k : Int) < 0) = false := decide_eq_false (by omega)
  have hd2 : decide ((k : Int) ≥ (N.length : Int)) = false := decide_eq_false (by omega)
  have hki : (k : Int) < (N.length : Int) := by omega
  clear ha h hk
  obtain ⟨nd0, mp⟩ := nd
  obtain ⟨tx, wd, sn⟩ := nd0
  simp only at c1 c2 c3
  go_enter Try.func78, Try.ntmps78
  go_wp2_with fail
  refine hlen.mono ?_
  rintro e w1 ⟨rfl, hw⟩
  rw [hw]
  clear hlen hw
  go_wp2_with fail
  refine bodyPost_ret (v := atV tx wd (some mp)) ?_ rfl ⟨rfl, balloc (Below.refl _ _) _⟩
  simp [results, Try.results78, go_sem, atV]
set_option maxHeartbeats 1000000 in
theorem at_out (h : TrieAt B w p N m) {k : Int} (hk : k < 0 ∨ (N.length : Int) ≤ k) : Calls Try.prog 78 #[.pointer (some ⟨p, 0, none⟩), .int .i64 k] w fun e w' => e = .returned (atV ⟨#[]⟩ (-1) none) ∧ Below w.heap.size w w' := by
  have ha : TrieAt B (w.alloc (.cells #[.string ⟨#[]⟩, .int .i64 0, .map none] 106)) p N m := h.below (balloc (Below.refl _ _) _)
  have hlen := len_any ha
  clear ha h
  by_cases h0 : k < 0
  · have hd : decide (k < 0) = true := decide_eq_true h0
    clear hk hlen
    go_enter Try.func78, Try.ntmps78
    go_wp2_with fail
    refine bodyPost_ret (v := atV ⟨#[]⟩ (-1) none) ?_ rfl ⟨rfl, balloc (Below.refl _ _) _⟩
    simp [results, Try.results78, go_sem, atV]
  · have hd : decide (k < 0) = false := decide_eq_false h0
    have hd2 : decide (k ≥ (N.length : Int)) = true := decide_eq_true (by omega)
    clear hk h0
    go_enter Try.func78, Try.ntmps78
    go_wp2_with fail
    refine hlen.mono ?_
    rintro e w1 ⟨rfl, hw⟩
    rw [hw]
    clear hlen hw
    go_wp2_with fail
    refine bodyPost_ret (v := atV ⟨#[]⟩ (-1) none) ?_ rfl ⟨rfl, balloc (Below.refl _ _) _⟩
    simp [results, Try.results78, go_sem, atV]
theorem at_any (h : TrieAt B w p N m) (hbig : N.length ≤ 1000000) (k : Int) : ∃ t x mp, (∀ j nd, k = (j : Nat) → N[j]? = some nd → t = nd.p.text ∧ x = nd.p.word ∧ mp = some nd.mp) ∧ ((k < 0 ∨ (N.length : Int) ≤ k) → t = ⟨#[]⟩ ∧ x = -1 ∧ mp = none) ∧
    Calls Try.prog 78 #[.pointer (some ⟨p, 0, none⟩), .int .i64 k] w fun e w' => e = .returned (atV t x mp) ∧ Below w.heap.size w w' := by
  by_cases hk : k < 0 ∨ (N.length : Int) ≤ k
  · refine ⟨_, _, _, fun j nd hj hn => ?_, fun _ => ⟨rfl, rfl, rfl⟩, at_out h hk⟩
    have := (List.getElem?_eq_some_iff.1 hn).1
    omega
  · obtain ⟨j, rfl⟩ := Int.eq_ofNat_of_zero_le (show 0 ≤ k by omega)
    have hj : j < N.length := by omega
    refine ⟨_, _, _, fun j' nd hj' hn => ?_, fun h => absurd h hk, at_in h (List.getElem?_eq_getElem hj) hbig⟩
    have : j' = j := by omega
    subst this
    rw [List.getElem?_eq_getElem hj] at hn
    obtain rfl := Option.some.inj hn
    exact ⟨rfl, rfl, rfl⟩
set_option maxHeartbeats 400000 in
theorem text_of {t : ByteArray} {x : Int} {mp : Option Nat} {k : Int} (h : Calls Try.prog 78 #[.pointer (some ⟨p, 0, none⟩), .int .i64 k] w fun e w' => e = .returned (atV t x mp) ∧ Below w.heap.size w w') :
    Calls Try.prog 34 #[.pointer (some ⟨p, 0, none⟩), .int .i64 k] w fun e w' => e = .returned (.string t) ∧ Below w.heap.size w w' := by
  go_enter Try.func34, Try.ntmps34
  go_wp2_with fail
  refine h.mono ?_
  rintro e w1 ⟨rfl, hb⟩
  clear h
  simp only [atV]
  have hfd := field63_0 t x mp
  go_wp2_with fail
  go_ret
  exact ⟨rfl, hb⟩
set_option maxHeartbeats 400000 in
theorem word_of {t : ByteArray} {x : Int} {mp : Option Nat} {k : Int} (h : Calls Try.prog 78 #[.pointer (some ⟨p, 0, none⟩), .int .i64 k] w fun e w' => e = .returned (atV t x mp) ∧ Below w.heap.size w w') :
    Calls Try.prog 32 #[.pointer (some ⟨p, 0, none⟩), .int .i64 k] w fun e w' => e = .returned (.int .i64 x) ∧ Below w.heap.size w w' := by
  go_enter Try.func32, Try.ntmps32
  go_wp2_with fail
  refine h.mono ?_
  rintro e w1 ⟨rfl, hb⟩
  clear h
  simp only [atV]
  have hfd := field63_1 t x mp
  go_wp2_with fail
  go_ret
  exact ⟨rfl, hb⟩
end
end Go.Proofs.Ytdeeeechdlcdbaa.TrA
