/- The walk of TrieShared. -/
import Derived.Test.YtdeeeechdlcdbaaTsP
import Derived.Deep.QuietTactic
import Derived.BigQuiet
import Derived.IntWalk
import Derived.StillTailTactics
set_option linter.unusedVariables false
set_option linter.unusedSimpArgs false
namespace Go.Proofs.Ytdeeeechdlcdbaa.TsW
open Go Go.RowKit Go.Proofs.Ytdeeeechdlcdbaa.Base Go.Proofs.Ytdeeeechdlcdbaa.DiA Go.Proofs.Ytdeeeechdlcdbaa.DiB Go.Proofs.Ytdeeeechdlcdbaa.DiC Go.Proofs.Ytdeeeechdlcdbaa.DiD Go.Proofs.Ytdeeeechdlcdbaa.TrP Go.Proofs.Ytdeeeechdlcdbaa.TrM Go.Proofs.Ytdeeeechdlcdbaa.TrA Go.Proofs.Ytdeeeechdlcdbaa.TrB Go.Proofs.Ytdeeeechdlcdbaa.TrD Go.Proofs.Ytdeeeechdlcdbaa.TrE Go.Proofs.Ytdeeeechdlcdbaa.TgU Go.Proofs.Ytdeeeechdlcdbaa.TrQ Go.Proofs.Ytdeeeechdlcdbaa.TcP Go.Proofs.Ytdeeeechdlcdbaa.TwA Go.Proofs.Ytdeeeechdlcdbaa.TsP
theorem first_lit (b : ByteArray) (h : 0 < b.size) : ∃ v, b[0]? = some v ∧ ((v.toNat : Nat) : Int) = TrP.byteOf b 0 := by
  refine ⟨b[0], by simp [h], byte_get b 0 h⟩
theorem isEmpty_of {b : ByteArray} (h : b.size = 0) : b.toList.isEmpty = true := by
  rw [ByteArray.toList_eq]
  have e1 : b.data.toList.length = 0 := by rw [← size_list]; exact h
  rw [List.eq_nil_of_length_eq_zero e1]; rfl
theorem undrewN {n : Nat} {w W : World} (h : Below (w.drewN n).heap.size (w.drewN n) W) : Below w.heap.size w W := ⟨h.os, h.tape, h.output, h.size, h.block⟩
set_option maxRecDepth 20000 in
set_option maxHeartbeats 1000000 in
theorem out0 (a b c : ByteArray) (w : World) (h0 : 13 < a.size) :
    Calls Try.prog 5 #[.string a, .string b, .string c] w fun e w' => e = .returned (.bool true) ∧ Below w.heap.size w w' := by
  have q0 : decide ((a.size : Int) > 13) = true := decide_eq_true (by omega)
  have q0b : decide (13 < a.size) = true := decide_eq_true (by omega)
  clear h0
  go_enter Try.func5, Try.ntmps5
  go_wp2_with fail
  go_quiet (fail)
  go_wp2_with fail
  refine (alive_call _).mono ?_
  rintro e w2 ⟨rfl, b2⟩
  go_wp2_with fail
  go_ret
  exact ⟨rfl, undrewN b2⟩
set_option maxRecDepth 20000 in
set_option maxHeartbeats 1000000 in
theorem out1 (a b c : ByteArray) (w : World) (h0 : ¬ (13 < a.size)) (h1 : 13 < b.size) :
    Calls Try.prog 5 #[.string a, .string b, .string c] w fun e w' => e = .returned (.bool true) ∧ Below w.heap.size w w' := by
  have q0 : decide ((a.size : Int) > 13) = false := decide_eq_false (by omega)
  have q0b : decide (13 < a.size) = false := decide_eq_false (by omega)
  have q1 : decide ((b.size : Int) > 13) = true := decide_eq_true (by omega)
  have q1b : decide (13 < b.size) = true := decide_eq_true (by omega)
  clear h0 h1
  go_enter Try.func5, Try.ntmps5
  go_wp2_with fail
  go_quiet (fail)
  go_wp2_with fail
  refine (alive_call _).mono ?_
  rintro e w2 ⟨rfl, b2⟩
  go_wp2_with fail
  go_ret
  exact ⟨rfl, undrewN b2⟩
set_option maxRecDepth 20000 in
set_option maxHeartbeats 1000000 in
theorem out2 (a b c : ByteArray) (w : World) (h0 : ¬ (13 < a.size)) (h1 : ¬ (13 < b.size)) (h2 : 13 < c.size) :
    Calls Try.prog 5 #[.string a, .string b, .string c] w fun e w' => e = .returned (.bool true) ∧ Below w.heap.size w w' := by
  have q0 : decide ((a.size : Int) > 13) = false := decide_eq_false (by omega)
  have q0b : decide (13 < a.size) = false := decide_eq_false (by omega)
  have q1 : decide ((b.size : Int) > 13) = false := decide_eq_false (by omega)
  have q1b : decide (13 < b.size) = false := decide_eq_false (by omega)
  have q2 : decide ((c.size : Int) > 13) = true := decide_eq_true (by omega)
  have q2b : decide (13 < c.size) = true := decide_eq_true (by omega)
  clear h0 h1 h2
  go_enter Try.func5, Try.ntmps5
  go_wp2_with fail
  go_quiet (fail)
  go_wp2_with fail
  refine (alive_call _).mono ?_
  rintro e w2 ⟨rfl, b2⟩
  go_wp2_with fail
  go_ret
  exact ⟨rfl, undrewN b2⟩
set_option maxRecDepth 20000 in
set_option maxHeartbeats 1000000 in
theorem out3 (a b c : ByteArray) (w : World) (h0 : ¬ (13 < a.size)) (h1 : ¬ (13 < b.size)) (h2 : ¬ (13 < c.size)) (h3 : a.size = 0) :
    Calls Try.prog 5 #[.string a, .string b, .string c] w fun e w' => e = .returned (.bool true) ∧ Below w.heap.size w w' := by
  have q0 : decide ((a.size : Int) > 13) = false := decide_eq_false (by omega)
  have q0b : decide (13 < a.size) = false := decide_eq_false (by omega)
  have q1 : decide ((b.size : Int) > 13) = false := decide_eq_false (by omega)
  have q1b : decide (13 < b.size) = false := decide_eq_false (by omega)
  have q2 : decide ((c.size : Int) > 13) = false := decide_eq_false (by omega)
  have q2b : decide (13 < c.size) = false := decide_eq_false (by omega)
  have q3 : a.toList.isEmpty = true := isEmpty_of (by omega)
  clear h0 h1 h2 h3
  go_enter Try.func5, Try.ntmps5
  go_wp2_with fail
  go_quiet (fail)
  go_wp2_with fail
  refine (alive_call _).mono ?_
  rintro e w2 ⟨rfl, b2⟩
  go_wp2_with fail
  go_ret
  exact ⟨rfl, undrewN b2⟩
set_option maxRecDepth 20000 in
set_option maxHeartbeats 1000000 in
theorem out4 (a b c : ByteArray) (w : World) (h0 : ¬ (13 < a.size)) (h1 : ¬ (13 < b.size)) (h2 : ¬ (13 < c.size)) (h3 : ¬ (a.size = 0)) (h4 : b.size = 0) :
    Calls Try.prog 5 #[.string a, .string b, .string c] w fun e w' => e = .returned (.bool true) ∧ Below w.heap.size w w' := by
  have q0 : decide ((a.size : Int) > 13) = false := decide_eq_false (by omega)
  have q0b : decide (13 < a.size) = false := decide_eq_false (by omega)
  have q1 : decide ((b.size : Int) > 13) = false := decide_eq_false (by omega)
  have q1b : decide (13 < b.size) = false := decide_eq_false (by omega)
  have q2 : decide ((c.size : Int) > 13) = false := decide_eq_false (by omega)
  have q2b : decide (13 < c.size) = false := decide_eq_false (by omega)
  have q3 : a.toList.isEmpty = false := nonempty_of (by omega)
  have q4 : b.toList.isEmpty = true := isEmpty_of (by omega)
  clear h0 h1 h2 h3 h4
  go_enter Try.func5, Try.ntmps5
  go_wp2_with fail
  go_quiet (fail)
  go_wp2_with fail
  refine (alive_call _).mono ?_
  rintro e w2 ⟨rfl, b2⟩
  go_wp2_with fail
  go_ret
  exact ⟨rfl, undrewN b2⟩
set_option maxRecDepth 20000 in
set_option maxHeartbeats 1000000 in
theorem out5 (a b c : ByteArray) (w : World) (h0 : ¬ (13 < a.size)) (h1 : ¬ (13 < b.size)) (h2 : ¬ (13 < c.size)) (h3 : ¬ (a.size = 0)) (h4 : ¬ (b.size = 0)) (h5 : c.size = 0) :
    Calls Try.prog 5 #[.string a, .string b, .string c] w fun e w' => e = .returned (.bool true) ∧ Below w.heap.size w w' := by
  have q0 : decide ((a.size : Int) > 13) = false := decide_eq_false (by omega)
  have q0b : decide (13 < a.size) = false := decide_eq_false (by omega)
  have q1 : decide ((b.size : Int) > 13) = false := decide_eq_false (by omega)
  have q1b : decide (13 < b.size) = false := decide_eq_false (by omega)
  have q2 : decide ((c.size : Int) > 13) = false := decide_eq_false (by omega)
  have q2b : decide (13 < c.size) = false := decide_eq_false (by omega)
  have q3 : a.toList.isEmpty = false := nonempty_of (by omega)
  have q4 : b.toList.isEmpty = false := nonempty_of (by omega)
  have q5 : c.toList.isEmpty = true := isEmpty_of (by omega)
  clear h0 h1 h2 h3 h4 h5
  go_enter Try.func5, Try.ntmps5
  go_wp2_with fail
  go_quiet (fail)
  go_wp2_with fail
  refine (alive_call _).mono ?_
  rintro e w2 ⟨rfl, b2⟩
  go_wp2_with fail
  go_ret
  exact ⟨rfl, undrewN b2⟩
set_option maxRecDepth 20000 in
set_option maxHeartbeats 1000000 in
theorem out6 (a b c : ByteArray) (w : World) (h0 : ¬ (13 < a.size)) (h1 : ¬ (13 < b.size)) (h2 : ¬ (13 < c.size)) (h3 : ¬ (a.size = 0)) (h4 : ¬ (b.size = 0)) (h5 : ¬ (c.size = 0)) (h6 : TrP.byteOf b 0 = TrP.byteOf c 0) :
    Calls Try.prog 5 #[.string a, .string b, .string c] w fun e w' => e = .returned (.bool true) ∧ Below w.heap.size w w' := by
  have q0 : decide ((a.size : Int) > 13) = false := decide_eq_false (by omega)
  have q0b : decide (13 < a.size) = false := decide_eq_false (by omega)
  have q1 : decide ((b.size : Int) > 13) = false := decide_eq_false (by omega)
  have q1b : decide (13 < b.size) = false := decide_eq_false (by omega)
  have q2 : decide ((c.size : Int) > 13) = false := decide_eq_false (by omega)
  have q2b : decide (13 < c.size) = false := decide_eq_false (by omega)
  have q3 : a.toList.isEmpty = false := nonempty_of (by omega)
  have q4 : b.toList.isEmpty = false := nonempty_of (by omega)
  have q5 : c.toList.isEmpty = false := nonempty_of (by omega)
  have hb0 : 0 < b.size := by omega
  have hc0 : 0 < c.size := by omega
  have q6 : (((b[0]'hb0).toNat : Int) == ((c[0]'hc0).toNat : Int)) = true := by rw [byte_get b 0 hb0, byte_get c 0 hc0, h6]; simp
  clear h0 h1 h2 h3 h4 h5 h6
  go_enter Try.func5, Try.ntmps5
  go_wp2_with fail
  go_quiet (fail)
  go_wp2_with fail
  refine (alive_call _).mono ?_
  rintro e w2 ⟨rfl, b2⟩
  go_wp2_with fail
  go_ret
  exact ⟨rfl, undrewN b2⟩
set_option maxRecDepth 20000 in
set_option maxHeartbeats 2000000 in
theorem shared_in (a b c : ByteArray) (w : World) (h0 : ¬ (13 < a.size)) (h1 : ¬ (13 < b.size)) (h2 : ¬ (13 < c.size)) (h3 : ¬ (a.size = 0)) (h4 : ¬ (b.size = 0)) (h5 : ¬ (c.size = 0)) (h6 : ¬ TrP.byteOf b 0 = TrP.byteOf c 0) :
    Calls Try.prog 5 #[.string a, .string b, .string c] w fun e w' => e = .returned (.bool true) ∧ Below w.heap.size w w' := by
  have q0 : decide ((a.size : Int) > 13) = false := decide_eq_false (by omega)
  have q0b : decide (13 < a.size) = false := decide_eq_false (by omega)
  have q1 : decide ((b.size : Int) > 13) = false := decide_eq_false (by omega)
  have q1b : decide (13 < b.size) = false := decide_eq_false (by omega)
  have q2 : decide ((c.size : Int) > 13) = false := decide_eq_false (by omega)
  have q2b : decide (13 < c.size) = false := decide_eq_false (by omega)
  have q3 : a.toList.isEmpty = false := nonempty_of (by omega)
  have q4 : b.toList.isEmpty = false := nonempty_of (by omega)
  have q5 : c.toList.isEmpty = false := nonempty_of (by omega)
  have hb0 : 0 < b.size := by omega
  have hc0 : 0 < c.size := by omega
  have q6 : (((b[0]'hb0).toNat : Int) == ((c[0]'hc0).toNat : Int)) = false := by rw [byte_get b 0 hb0, byte_get c 0 hc0]; simpa using h6
  obtain ⟨hok, htt⟩ := shared_ok a b c (by omega) (by omega) (by omega) (by omega) (by omega) (by omega) h6
  obtain ⟨s1, s2, s3, s4⟩ := shared a b c (by omega) (by omega) h6
  have hokh : Hid (okD [a ++ b, a ++ c] = true) := hok
  have htth : Hid (total [a ++ b, a ++ c] ≤ 100) := htt
  have s1h : Hid ((build [a ++ b, a ++ c] 2).length = 1 + a.size + b.size + c.size) := s1
  have s2h : Hid (a.size < (build [a ++ b, a ++ c] 2).length) := s2
  have s3h : Hid (((build [a ++ b, a ++ c] 2).getD a.size noPn).text = a) := s3
  have s4h : Hid ((sonsL ((build [a ++ b, a ++ c] 2).getD a.size noPn).sons).length = 2) := s4
  have g0 : Hid (a.size ≤ 13) := by show a.size ≤ 13; omega
  have g1 : Hid (b.size ≤ 13) := by show b.size ≤ 13; omega
  have g2 : Hid (c.size ≤ 13) := by show c.size ≤ 13; omega
  have q7 : ¬ (9223372036854775807 < a.size + b.size) := by omega
  have q8 : ¬ (9223372036854775807 < a.size + c.size) := by omega
  clear h0 h1 h2 h3 h4 h5 h6 hok htt s1 s2 s3 s4
  go_enter Try.func5, Try.ntmps5
  go_wp2_with fail
  go_still_tail 33, (by kernel_rfl)
  have bel : Below w.heap.size w w.drew := ⟨rfl, rfl, rfl, Nat.le_refl _, fun _ _ => rfl⟩
  change wpList _ _ _ _ _ w.drew
  generalize w.drew = w1 at bel ⊢
  go_wp2_with fail
  refine (alive_call _).mono ?_
  rintro e w2 ⟨rfl, b2⟩
  have bel2 := bstep bel b2
  clear bel b2 q0 q0b q1 q1b q2 q2b q3 q4 q5 q6
  have hat : StrsAt (w2.alloc (.cells #[.string (a ++ b), .string (a ++ c)] 9)) (some ⟨w2.heap.size, 0, none⟩) [a ++ b, a ++ c] := by
    intro _
    refine ⟨w2.heap.size, 0, rfl, by simp, fun j hj => ?_⟩
    rw [Nat.zero_add]
    rcases (show j = 0 ∨ j = 1 by simp at hj; omega) with rfl | rfl
    · simp
    · simp
  have hmk := make_any (some ⟨w2.heap.size, 0, none⟩) 2 2 [a ++ b, a ++ c] (w2.alloc (.cells #[.string (a ++ b), .string (a ++ c)] 9)) rfl hat (by have := htth.out; omega)
  clear hat
  go_wp2_with fail
  refine hmk.mono ?_
  rintro e w3 ⟨b3, ⟨hok, _⟩ | ⟨_, q, rfl, _, hd⟩⟩
  · rw [hokh.out] at hok; cases hok
  have bel3 := bel2.trans (((balloc (Below.refl _ _) _).trans (b3.mono (by simp))).mono bel2.size)
  clear hmk b3 bel2 q7 q8
  have htt2 := htth.out
  go_wp2_with fail
  refine (TrD.new_any _ q _ _ hd (by show 2 ≤ 1000; decide) (by omega)).mono ?_
  rintro e w4 ⟨b4, px, NX, mx, rfl, hX, hNX, hlX⟩
  have bel4 := bstep bel3 b4
  have hNXh : Hid (NX.map (·.p) = build [a ++ b, a ++ c] 2) := hNX
  have hlen : NX.length = 1 + a.size + b.size + c.size := by
    have e := congrArg List.length hNX
    rw [List.length_map] at e
    exact e.trans s1h.out
  have g0 := g0.out
  have g1 := g1.out
  have g2 := g2.out
  have z1 : IntKind.i64.wrap (1 + (a.size : Int)) = 1 + (a.size : Int) := by rw [IntKind.wrap_i64]; omega
  have z2 : IntKind.i64.wrap (1 + (a.size : Int) + (b.size : Int)) = 1 + (a.size : Int) + (b.size : Int) := by rw [IntKind.wrap_i64]; omega
  have z3 : IntKind.i64.wrap (1 + (a.size : Int) + (b.size : Int) + (c.size : Int)) = 1 + (a.size : Int) + (b.size : Int) + (c.size : Int) := by rw [IntKind.wrap_i64]; omega
  have hbig : NX.length ≤ 1000000 := by omega
  have cL := len_any hX
  have t1 : ((NX.length : Int) == 1 + (a.size : Int) + (b.size : Int) + (c.size : Int)) = true := by simp; omega
  have hlenh : Hid (NX.length = 1 + a.size + b.size + c.size) := hlen
  clear hlen hlX hNX hd b4 bel3 htt2 g0 g1 g2
  generalize NX.length = nl at t1 cL
  go_wp2_with fail
  refine cL.mono ?_
  rintro e w5 ⟨rfl, hw5⟩
  rw [hw5]
  clear cL hw5 w5
  have cD := depth_in hX hbig hNXh.out a.size s2h.out (d := a.size) (by rw [s3h.out])
  go_wp2_with fail
  refine cD.mono ?_
  rintro e w5 ⟨rfl, b5⟩
  have bel5 := bstep bel4 b5
  have hX5 := hX.below b5
  clear cD b5 bel4 hX
  have cT := text_in hX5 hbig hNXh.out a.size s2h.out
  rw [s3h.out] at cT
  go_wp2_with fail
  refine cT.mono ?_
  rintro e w6 ⟨rfl, b6⟩
  have bel6 := bstep bel5 b6
  have hX6 := hX5.below b6
  clear cT b6 bel5 hX5
  have cS := sons_call hX6 hbig hNXh.out a.size s2h.out rfl
  rw [s4h.out] at cS
  go_wp2_with fail
  refine cS.mono ?_
  rintro e w7 ⟨V, cp, rfl, _, b7⟩
  have bel7 := bstep bel6 b7
  go_wp2_with fail
  go_ret
  exact ⟨rfl, bel7⟩
end Go.Proofs.Ytdeeeechdlcdbaa.TsW
