/- The walk of ScanNode. -/
import Derived.Test.YtdeeeechdlcdbaaScX
import Derived.Test.YtdeeeechdlcdbaaTtN
import Derived.Test.YtdeeeechdlcdbaaPhW
import Derived.IntWalk
import Derived.Deep.QuietTactic
import Derived.BigQuiet
set_option linter.unusedVariables false
set_option linter.unusedSimpArgs false
namespace Go.Proofs.Ytdeeeechdlcdbaa.SoW
open Go Go.RowKit Go.Proofs Go.Proofs.Ytdeeeechdlcdbaa Go.Proofs.Ytdeeeechdlcdbaa.Base Go.Proofs.Ytdeeeechdlcdbaa.DiA Go.Proofs.Ytdeeeechdlcdbaa.DiB Go.Proofs.Ytdeeeechdlcdbaa.DiC Go.Proofs.Ytdeeeechdlcdbaa.TrP Go.Proofs.Ytdeeeechdlcdbaa.TrM Go.Proofs.Ytdeeeechdlcdbaa.TrA Go.Proofs.Ytdeeeechdlcdbaa.TrD Go.Proofs.Ytdeeeechdlcdbaa.TrE Go.Proofs.Ytdeeeechdlcdbaa.TtP Go.Proofs.Ytdeeeechdlcdbaa.TcP Go.Proofs.Ytdeeeechdlcdbaa.TwA Go.Proofs.Ytdeeeechdlcdbaa.LkA Go.Proofs.Ytdeeeechdlcdbaa.LkP Go.Proofs.Ytdeeeechdlcdbaa.LkM Go.Proofs.Ytdeeeechdlcdbaa.LkO Go.Proofs.Ytdeeeechdlcdbaa.LkQ Go.Proofs.Ytdeeeechdlcdbaa.LkN Go.Proofs.Ytdeeeechdlcdbaa.LkS Go.Proofs.Ytdeeeechdlcdbaa.LkX Go.Proofs.Ytdeeeechdlcdbaa.PhP Go.Proofs.Ytdeeeechdlcdbaa.PhW Go.Proofs.Ytdeeeechdlcdbaa.ScP Go.Proofs.Ytdeeeechdlcdbaa.ScS Go.Proofs.Ytdeeeechdlcdbaa.ScH Go.Proofs.Ytdeeeechdlcdbaa.ScF Go.Proofs.Ytdeeeechdlcdbaa.ScE Go.Proofs.Ytdeeeechdlcdbaa.ScX Go.Proofs.Ytdeeeechdlcdbaa.TtN
theorem node_last {zs : List ByteArray} {X : List Pn} {a b : List UInt8} {r1 r2 : Nat} (hT : Tr zs X) (h1 : Lg X ([] ++ (a ++ b)) ([] ++ (a ++ b)).length r1) (h2 : Lg X ([] ++ b) ([] ++ b).length r2) (hb : 40 ≤ ([] ++ b).length) : r1 = r2 := by
  rw [List.nil_append] at h1 h2 hb
  have hs := hT.short r1 h1.lt
  refine Lg.one hT.fine (m := b.length) (s := b) ⟨h1.lt, ?_, by omega, fun x hx h3 h4 => ?_⟩ h2
  · exact suf_of h1.suf ⟨a, rfl⟩ (by omega)
  · exact h1.max x hx (h3.trans ⟨a, rfl⟩) (by rw [List.length_append]; omega)
set_option maxHeartbeats 400000 in
theorem law_few (A : Option Addr) (n cap : Nat) (a : ByteArray) (b : ByteArray) (w : World) (hf : Calls Try.prog 23 #[.slice A n cap] w fun e w' => e = .returned (.bool false) ∧ w' = w) :
    Calls Try.prog 16 #[.slice A n cap, .string a, .string b] w fun e w' => e = .returned (.bool true) ∧ Below w.heap.size w w' := by
  go_enter Try.func16, Try.ntmps16
  go_wp2_with fail
  refine hf.mono ?_
  rintro e w1 ⟨rfl, hw⟩
  rw [hw]
  clear hf hw
  go_wp2_with fail
  refine (ScX.alive_call _).mono ?_
  rintro e w2 ⟨rfl, b2⟩
  go_wp2_with fail
  go_ret
  exact ⟨rfl, b2⟩
set_option maxHeartbeats 400000 in
theorem law_out0 (A : Option Addr) (n cap : Nat) (a : ByteArray) (b : ByteArray) (w : World) (hf : Calls Try.prog 23 #[.slice A n cap] w fun e w' => e = .returned (.bool true) ∧ w' = w) (hd0 : decide ((a.size : Int) > 100) = true) :
    Calls Try.prog 16 #[.slice A n cap, .string a, .string b] w fun e w' => e = .returned (.bool true) ∧ Below w.heap.size w w' := by
  go_enter Try.func16, Try.ntmps16
  go_wp2_with fail
  refine hf.mono ?_
  rintro e w1 ⟨rfl, hw⟩
  rw [hw]
  clear hf hw
  go_wp2_with fail
  refine (ScX.alive_call _).mono ?_
  rintro e w2 ⟨rfl, b2⟩
  go_wp2_with fail
  go_ret
  exact ⟨rfl, b2⟩
set_option maxHeartbeats 400000 in
theorem law_out1 (A : Option Addr) (n cap : Nat) (a : ByteArray) (b : ByteArray) (w : World) (hf : Calls Try.prog 23 #[.slice A n cap] w fun e w' => e = .returned (.bool true) ∧ w' = w) (hd0 : decide ((a.size : Int) > 100) = false) (hd1 : decide ((b.size : Int) < 40) = true) :
    Calls Try.prog 16 #[.slice A n cap, .string a, .string b] w fun e w' => e = .returned (.bool true) ∧ Below w.heap.size w w' := by
  go_enter Try.func16, Try.ntmps16
  go_wp2_with fail
  refine hf.mono ?_
  rintro e w1 ⟨rfl, hw⟩
  rw [hw]
  clear hf hw
  go_wp2_with fail
  refine (ScX.alive_call _).mono ?_
  rintro e w2 ⟨rfl, b2⟩
  go_wp2_with fail
  go_ret
  exact ⟨rfl, b2⟩
set_option maxHeartbeats 400000 in
theorem law_out2 (A : Option Addr) (n cap : Nat) (a : ByteArray) (b : ByteArray) (w : World) (hf : Calls Try.prog 23 #[.slice A n cap] w fun e w' => e = .returned (.bool true) ∧ w' = w) (hd0 : decide ((a.size : Int) > 100) = false) (hd1 : decide ((b.size : Int) < 40) = false) (hd2 : decide ((b.size : Int) > 200) = true) :
    Calls Try.prog 16 #[.slice A n cap, .string a, .string b] w fun e w' => e = .returned (.bool true) ∧ Below w.heap.size w w' := by
  go_enter Try.func16, Try.ntmps16
  go_wp2_with fail
  refine hf.mono ?_
  rintro e w1 ⟨rfl, hw⟩
  rw [hw]
  clear hf hw
  go_wp2_with fail
  refine (ScX.alive_call _).mono ?_
  rintro e w2 ⟨rfl, b2⟩
  go_wp2_with fail
  go_ret
  exact ⟨rfl, b2⟩
set_option maxRecDepth 20000 in
set_option maxHeartbeats 8000000 in
theorem law_in (A : Option Addr) (n cap : Nat) (zs : List ByteArray) (a : ByteArray) (b : ByteArray) (w : World) (hf : Calls Try.prog 23 #[.slice A n cap] w fun e w' => e = .returned (.bool true) ∧ w' = w)
    (hn : n = zs.length) (hat : StrsAt w A zs) (hn1 : n ≤ 110) (htot : total zs ≤ 1300) (hd0 : decide ((a.size : Int) > 100) = false) (hd1 : decide ((b.size : Int) < 40) = false) (hd2 : decide ((b.size : Int) > 200) = false) :
    Calls Try.prog 16 #[.slice A n cap, .string a, .string b] w fun e w' => e = .returned (.bool true) ∧ Below w.heap.size w w' := by
  have hnh : Hid (n = zs.length) := hn
  clear hn
  go_enter Try.func16, Try.ntmps16
  go_wp2_with fail
  refine hf.mono ?_
  rintro e w1 ⟨rfl, hw⟩
  rw [hw]
  clear hf hw w1
  go_wp2_with fail
  refine (ScX.alive_call _).mono ?_
  rintro e w1 ⟨rfl, bel⟩
  have hat1 := hat.below bel
  go_wp2_with fail
  refine (phrases_any A n cap zs w1 hnh.out hat1 (by omega)).mono ?_
  rintro e w2 ⟨hph, hw⟩
  rw [hw]
  clear hw w2
  rcases hph with ⟨hok, rfl⟩ | ⟨hok, c0, k0, hc0, rfl⟩
  rotate_left
  · have hcd : (c0 != 0) = true := by simp [hc0]
    clear hat hat1 hok
    go_wp2_with fail
    go_ret
    exact ⟨rfl, bel⟩
  go_wp2_with fail
  refine (lmake_any A n cap zs w1 hnh.out hat1 (by omega)).mono ?_
  rintro e w2 ⟨b2, ⟨hno, _⟩ | ⟨_, p, B, px, m, N, F, O, L, rfl, hl⟩⟩
  · rw [hok] at hno; cases hno
  replace bel := bstep bel b2
  have hwsz := bel.size
  have hat2 := hat1.below b2
  clear hat1 b2 hat
  have hT := tr_build hok
  have hok2 := hl.ok
  have heq := hl.eq
  have hlen := hl.len
  have hla := hl.at_
  clear hl
  obtain ⟨X, hX⟩ : ∃ X, build zs zs.length = X := ⟨_, rfl⟩
  rw [hX] at hT hok2 heq
  have hXb : Hid (build zs zs.length = X) := hX
  have hTh : Hid (Tr zs X) := hT
  have hOk : Hid (LkOk X F O L) := hok2
  have hNX : Hid (N.map (·.p) = X) := heq
  obtain ⟨ln, hln⟩ : ∃ ln, N.length = ln := ⟨_, rfl⟩
  have hln1 : ln ≤ 1301 := by omega
  have hlnh : Hid (N.length = ln) := hln
  have hXl : Hid (X.length = ln) := by show _ = _; rw [← hNX.out, List.length_map, hln]
  have hokh : Hid (okD zs = true) := hok
  clear hX hT hok2 heq hln hlen hok
  have hlx : Hid (Lx w2 p zs X) := Lib.hid ⟨⟨B, px, m, N, F, O, L, hla, hNX.out, hOk.out, by have := hlnh.out; omega⟩, hTh.out⟩
  clear hla
  have cN := new_any hlx.out (Below.refl _ w2)
  clear hat2
  go_wp2_with fail
  refine cN.mono ?_
  rintro e w3 ⟨q1, rfl, hq1, S1, b3⟩
  replace bel := bstep bel b3
  have cN2 := new_any hlx.out b3
  have hl1 := S1.lt
  clear cN
  go_wp2_with fail
  refine cN2.mono ?_
  rintro e w4 ⟨q2, rfl, hq2, S2, b4⟩
  replace bel := bstep bel b4
  replace S1 := S1.below b4
  have hne : q2 ≠ q1 := by omega
  have hw1 : w.heap.size ≤ q1 := by omega
  have hw2 : w.heap.size ≤ q2 := by have := b3.size; omega
  have hb1 : (a ++ b).size = a.size + b.size := by rw [ByteArray.size_append]
  have g0 := of_decide_eq_false hd0
  have g1 := of_decide_eq_false hd1
  have g2 := of_decide_eq_false hd2
  have hlb : ¬ (9223372036854775807 < a.size + b.size) := by omega
  have cF := feed_call hlx.out S1 (a ++ b) (by omega) (by omega)
  clear cN2 S1 b3 b4
  go_wp2_with fail
  refine cF.mono ?_
  rintro e w5 ⟨v5, rfl, _, T1, t5⟩
  replace S2 := S2.twin t5 hq1 hne
  replace bel := bel.trans (t5.below bel.size hw1 hw1)
  have cF2 := feed_call hlx.out S2 b (by omega) (by omega)
  clear cF S2 t5
  go_wp2_with fail
  refine cF2.mono ?_
  rintro e w6 ⟨v6, rfl, _, T2, t6⟩
  replace T1 := T1.twin t6 (by omega) hne.symm
  replace bel := bel.trans (t6.below bel.size hw2 hw2)
  rw [hb1] at T1
  have cA := node_any T1
  have cA2 := node_any T2
  clear cF2 t6
  go_wp2_with fail
  refine cA.mono ?_
  rintro e w7 ⟨⟨r1, rfl, hr1⟩, hw⟩
  rw [hw]
  clear cA hw w7
  go_wp2_with fail
  refine cA2.mono ?_
  rintro e w7 ⟨⟨r2, rfl, hr2⟩, hw⟩
  rw [hw]
  rw [app_list] at hr1
  have hr : r1 = r2 := node_last hTh.out hr1 hr2 (by rw [List.nil_append, ← size_list]; omega)
  rw [hr]
  clear cA2 hw w7 hr hr1 hr2
  have cB := at_any T1
  have cB2 := at_any T2
  have z1 : IntKind.i64.wrap ((a.size : Int) + ((0 + b.size : Nat) : Int)) = ((0 + (a.size + b.size) : Nat) : Int) := by rw [IntKind.wrap_i64]; omega
  have z2 : IntKind.i64.wrap ((a.size : Int) + (b.size : Int)) = (a.size : Int) + (b.size : Int) := by rw [IntKind.wrap_i64]; omega
  rw [Nat.zero_add] at cB cB2 z1
  clear T1 T2
  go_wp2_with fail
  refine cB.mono ?_
  rintro e w7 ⟨rfl, hw⟩
  rw [hw]
  clear cB hw w7
  go_wp2_with fail
  refine cB2.mono ?_
  rintro e w7 ⟨rfl, hw⟩
  rw [hw]
  clear cB2 hw w7
  go_wp2_with fail
  go_ret
  exact ⟨by simp, bel⟩
end Go.Proofs.Ytdeeeechdlcdbaa.SoW
