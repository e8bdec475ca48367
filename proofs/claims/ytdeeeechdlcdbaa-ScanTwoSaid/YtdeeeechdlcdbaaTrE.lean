/- alive; the trie of nothing. -/
import Derived.Test.YtdeeeechdlcdbaaTrD
set_option linter.unusedSimpArgs false
set_option linter.unusedVariables false
namespace Go.Proofs.Ytdeeeechdlcdbaa.TrE
open Go Go.RowKit Go.Proofs.Ytdeeeechdlcdbaa.Base Go.Proofs.Ytdeeeechdlcdbaa.DiA Go.Proofs.Ytdeeeechdlcdbaa.DiB Go.Proofs.Ytdeeeechdlcdbaa.DiC Go.Proofs.Ytdeeeechdlcdbaa.DiD Go.Proofs.Ytdeeeechdlcdbaa.TrP Go.Proofs.Ytdeeeechdlcdbaa.TrM Go.Proofs.Ytdeeeechdlcdbaa.TrA Go.Proofs.Ytdeeeechdlcdbaa.TrB Go.Proofs.Ytdeeeechdlcdbaa.TrD
set_option maxHeartbeats 400000 in
theorem new_nil (w : World) : Calls Try.prog 29 #[.pointer none] w fun e w' => e = .returned (.pointer none) ∧ w' = w := by
  go_enter Try.func29, Try.ntmps29
  go_wp2_with fail
  go_ret
  exact ⟨rfl, rfl⟩
/-- Text and Word of a node that there is. -/
theorem text_in {B p m : Nat} {N : List Nd} {w : World} (h : TrieAt B w p N m) (hbig : N.length ≤ 1000000) {S : List Pn} (hS : N.map (·.p) = S) (k : Nat) (hk : k < S.length) :
    Calls Try.prog 34 #[.pointer (some ⟨p, 0, none⟩), .int .i64 (k : Int)] w fun e w' => e = .returned (.string (S.getD k noPn).text) ∧ Below w.heap.size w w' := by
  have hl : k < N.length := by rw [← hS, List.length_map] at hk; exact hk
  have hn : N[k]? = some N[k] := List.getElem?_eq_getElem hl
  rw [getD_of hS hn]
  exact text_of (at_in h hn hbig)
theorem word_in {B p m : Nat} {N : List Nd} {w : World} (h : TrieAt B w p N m) (hbig : N.length ≤ 1000000) {S : List Pn} (hS : N.map (·.p) = S) (k : Nat) (hk : k < S.length) :
    Calls Try.prog 32 #[.pointer (some ⟨p, 0, none⟩), .int .i64 (k : Int)] w fun e w' => e = .returned (.int .i64 (S.getD k noPn).word) ∧ Below w.heap.size w w' := by
  have hl : k < N.length := by rw [← hS, List.length_map] at hk; exact hk
  have hn : N[k]? = some N[k] := List.getElem?_eq_getElem hl
  rw [getD_of hS hn]
  exact word_of (at_in h hn hbig)
def two : List ByteArray := [⟨#[97, 98]⟩, ⟨#[97]⟩]
theorem two_ok : okD two = true := by kernel_rfl
theorem two_len : (build two 2).length = 3 := by kernel_rfl
theorem two_text : ((build two 2).getD 2 noPn).text = ⟨#[97, 98]⟩ := by kernel_rfl
theorem two_word1 : ((build two 2).getD 1 noPn).word = 1 := by kernel_rfl
theorem two_word2 : ((build two 2).getD 2 noPn).word = 0 := by kernel_rfl
theorem two_word0 : ((build two 2).getD 0 noPn).word = -1 := by kernel_rfl
set_option maxHeartbeats 1000000 in
theorem alive_call (w : World) : Calls Try.prog 28 #[] w fun e w' => e = .returned (.bool true) ∧ Below w.heap.size w w' := by
  have hs : StrsAt (w.alloc (.cells #[.string ⟨#[97, 98]⟩, .string ⟨#[97]⟩] 9)) (some ⟨w.heap.size, 0, none⟩) two := by
    intro _
    refine ⟨w.heap.size, 0, rfl, by simp, fun j hj => ?_⟩
    rw [Nat.zero_add]
    rcases (show j = 0 ∨ j = 1 by simp [two] at hj; omega) with rfl | rfl
    · simp [two]
    · simp [two]
  have hmk := make_any (some ⟨w.heap.size, 0, none⟩) 2 2 two (w.alloc (.cells #[.string ⟨#[97, 98]⟩, .string ⟨#[97]⟩] 9)) rfl hs (by decide)
  clear hs
  go_enter Try.func28, Try.ntmps28
  go_wp2_with fail
  refine hmk.mono ?_
  rintro e w1 ⟨b1, ⟨hok, _⟩ | ⟨_, q, rfl, _, hd⟩⟩
  · rw [two_ok] at hok; cases hok
  have bel : Below w.heap.size w w1 := bstep (balloc (Below.refl _ _) _) b1
  clear hmk b1
  go_wp2_with fail
  refine (TrD.new_any _ q two _ hd (by decide) (by decide)).mono ?_
  rintro e w2 ⟨b2, p, N, m, rfl, ht, hN, _⟩
  have hN : N.map (·.p) = build two 2 := hN
  have hl : N.length = 3 := by have e := congrArg List.length hN; rw [List.length_map, two_len] at e; exact e
  replace bel := bstep bel b2
  clear b2 hd
  go_wp2_with fail
  refine (new_nil _).mono ?_
  rintro e w3 ⟨rfl, rfl⟩
  go_wp2_with fail
  refine (len_any ht).mono ?_
  rintro e w3 ⟨rfl, rfl⟩
  rw [hl]
  have hT := text_in ht (by omega) hN 2 (by rw [two_len]; decide)
  rw [two_text] at hT
  have hlh : Hid (N.length = 3) := hl
  clear hl
  go_wp2_with fail
  refine hT.mono ?_
  rintro e w4 ⟨rfl, b4⟩
  replace bel := bstep bel b4
  replace ht := ht.below b4
  have hW1 := word_in ht (by rw [hlh.out]; decide) hN 1 (by rw [two_len]; decide)
  rw [two_word1] at hW1
  clear hT b4
  go_wp2_with fail
  refine hW1.mono ?_
  rintro e w5 ⟨rfl, b5⟩
  replace bel := bstep bel b5
  replace ht := ht.below b5
  have hW2 := word_in ht (by rw [hlh.out]; decide) hN 2 (by rw [two_len]; decide)
  rw [two_word2] at hW2
  clear hW1 b5
  go_wp2_with fail
  refine hW2.mono ?_
  rintro e w6 ⟨rfl, b6⟩
  replace bel := bstep bel b6
  replace ht := ht.below b6
  have hW0 := word_in ht (by rw [hlh.out]; decide) hN 0 (by rw [two_len]; decide)
  rw [two_word0] at hW0
  clear hW2 b6
  go_wp2_with fail
  refine hW0.mono ?_
  rintro e w7 ⟨rfl, b7⟩
  replace bel := bstep bel b7
  clear hW0 b7 ht hN hlh
  go_wp2_with fail
  go_ret
  exact ⟨rfl, bel⟩
end Go.Proofs.Ytdeeeechdlcdbaa.TrE
