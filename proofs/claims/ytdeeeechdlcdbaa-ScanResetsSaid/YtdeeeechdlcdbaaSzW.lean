/- The walk of ScanResets. -/
import Derived.Test.YtdeeeechdlcdbaaScX
import Derived.Test.YtdeeeechdlcdbaaTtN
import Derived.Test.YtdeeeechdlcdbaaPhW
import Derived.IntWalk
import Derived.Deep.QuietTactic
import Derived.BigQuiet
set_option linter.unusedVariables false
set_option linter.unusedSimpArgs false
namespace Go.Proofs.Ytdeeeechdlcdbaa.SzW
open Go Go.RowKit Go.Proofs Go.Proofs.Ytdeeeechdlcdbaa Go.Proofs.Ytdeeeechdlcdbaa.Base Go.Proofs.Ytdeeeechdlcdbaa.DiA Go.Proofs.Ytdeeeechdlcdbaa.DiB Go.Proofs.Ytdeeeechdlcdbaa.DiC Go.Proofs.Ytdeeeechdlcdbaa.TrP Go.Proofs.Ytdeeeechdlcdbaa.TrM Go.Proofs.Ytdeeeechdlcdbaa.TrA Go.Proofs.Ytdeeeechdlcdbaa.TrD Go.Proofs.Ytdeeeechdlcdbaa.TrE Go.Proofs.Ytdeeeechdlcdbaa.TtP Go.Proofs.Ytdeeeechdlcdbaa.TcP Go.Proofs.Ytdeeeechdlcdbaa.TwA Go.Proofs.Ytdeeeechdlcdbaa.LkA Go.Proofs.Ytdeeeechdlcdbaa.LkP Go.Proofs.Ytdeeeechdlcdbaa.LkM Go.Proofs.Ytdeeeechdlcdbaa.LkO Go.Proofs.Ytdeeeechdlcdbaa.LkQ Go.Proofs.Ytdeeeechdlcdbaa.LkN Go.Proofs.Ytdeeeechdlcdbaa.LkS Go.Proofs.Ytdeeeechdlcdbaa.LkX Go.Proofs.Ytdeeeechdlcdbaa.PhP Go.Proofs.Ytdeeeechdlcdbaa.PhW Go.Proofs.Ytdeeeechdlcdbaa.ScP Go.Proofs.Ytdeeeechdlcdbaa.ScS Go.Proofs.Ytdeeeechdlcdbaa.ScH Go.Proofs.Ytdeeeechdlcdbaa.ScF Go.Proofs.Ytdeeeechdlcdbaa.ScE Go.Proofs.Ytdeeeechdlcdbaa.ScX Go.Proofs.Ytdeeeechdlcdbaa.TtN
set_option maxHeartbeats 400000 in
theorem law_few (A : Option Addr) (n cap : Nat) (a : ByteArray) (b : ByteArray) (w : World) (hf : Calls Try.prog 23 #[.slice A n cap] w fun e w' => e = .returned (.bool false) ∧ w' = w) :
    Calls Try.prog 20 #[.slice A n cap, .string a, .string b] w fun e w' => e = .returned (.bool true) ∧ Below w.heap.size w w' := by
  go_enter Try.func20, Try.ntmps20
  go_wp2_with fail
  refine hf.mono ?_
  rintro e w1 ⟨rfl, hw⟩
  rw [hw]
  clear hf hw
  go_wp2_with fail
  refine (ScX.alive_call _).mono ?_
  rintro e w2 ⟨rfl, b2⟩
  go_wp2_with fail
  go_ret
  exact ⟨rfl, b2⟩
set_option maxHeartbeats 400000 in
theorem law_out0 (A : Option Addr) (n cap : Nat) (a : ByteArray) (b : ByteArray) (w : World) (hf : Calls Try.prog 23 #[.slice A n cap] w fun e w' => e = .returned (.bool true) ∧ w' = w) (ha : a.size ≤ 140737488351232) (hb : b.size ≤ 140737488351232) (z0 : IntKind.i64.wrap ((a.size : Int) + (b.size : Int)) = (a.size : Int) + (b.size : Int)) (hd0 : decide ((a.size : Int) + (b.size : Int) > 200) = true) :
    Calls Try.prog 20 #[.slice A n cap, .string a, .string b] w fun e w' => e = .returned (.bool true) ∧ Below w.heap.size w w' := by
  go_enter Try.func20, Try.ntmps20
  go_wp2_with fail
  refine hf.mono ?_
  rintro e w1 ⟨rfl, hw⟩
  rw [hw]
  clear hf hw
  go_wp2_with fail
  refine (ScX.alive_call _).mono ?_
  rintro e w2 ⟨rfl, b2⟩
  go_wp2_with fail
  go_ret
  exact ⟨rfl, b2⟩
set_option maxRecDepth 20000 in
set_option maxHeartbeats 8000000 in
theorem law_in (A : Option Addr) (n cap : Nat) (zs : List ByteArray) (a : ByteArray) (b : ByteArray) (w : World) (hf : Calls Try.prog 23 #[.slice A n cap] w fun e w' => e = .returned (.bool true) ∧ w' = w)
    (hn : n = zs.length) (hat : StrsAt w A zs) (hn1 : n ≤ 110) (htot : total zs ≤ 1300) (ha : a.size ≤ 140737488351232) (hb : b.size ≤ 140737488351232) (z0 : IntKind.i64.wrap ((a.size : Int) + (b.size : Int)) = (a.size : Int) + (b.size : Int)) (hd0 : decide ((a.size : Int) + (b.size : Int) > 200) = false) :
    Calls Try.prog 20 #[.slice A n cap, .string a, .string b] w fun e w' => e = .returned (.bool true) ∧ Below w.heap.size w w' := by
  have hnh : Hid (n = zs.length) := hn
  clear hn
  go_enter Try.func20, Try.ntmps20
  go_wp2_with fail
  refine hf.mono ?_
  rintro e w1 ⟨rfl, hw⟩
  rw [hw]
  clear hf hw w1
  go_wp2_with fail
  refine (ScX.alive_call _).mono ?_
  rintro e w1 ⟨rfl, bel⟩
  have hat1 := hat.below bel
  go_wp2_with fail
  refine (phrases_any A n cap zs w1 hnh.out hat1 (by omega)).mono ?_
  rintro e w2 ⟨hph, hw⟩
  rw [hw]
  clear hw w2
  rcases hph with ⟨hok, rfl⟩ | ⟨hok, c0, k0, hc0, rfl⟩
  rotate_left
  · have hcd : (c0 != 0) = true := by simp [hc0]
    clear hat hat1 hok
    go_wp2_with fail
    go_ret
    exact ⟨rfl, bel⟩
  go_wp2_with fail
  refine (lmake_any A n cap zs w1 hnh.out hat1 (by omega)).mono ?_
  rintro e w2 ⟨b2, ⟨hno, _⟩ | ⟨_, p, B, px, m, N, F, O, L, rfl, hl⟩⟩
  · rw [hok] at hno; cases hno
  replace bel := bstep bel b2
  have hat2 := hat1.below b2
  clear hat1 b2 hat
  have hT := tr_build hok
  have hok2 := hl.ok
  have heq := hl.eq
  have hlen := hl.len
  have hla := hl.at_
  clear hl
  obtain ⟨X, hX⟩ : ∃ X, build zs zs.length = X := ⟨_, rfl⟩
  rw [hX] at hT hok2 heq
  have hXb : Hid (build zs zs.length = X) := hX
  have hTh : Hid (Tr zs X) := hT
  have hOk : Hid (LkOk X F O L) := hok2
  have hNX : Hid (N.map (·.p) = X) := heq
  obtain ⟨ln, hln⟩ : ∃ ln, N.length = ln := ⟨_, rfl⟩
  have hln1 : ln ≤ 1301 := by omega
  have hlnh : Hid (N.length = ln) := hln
  have hXl : Hid (X.length = ln) := by show _ = _; rw [← hNX.out, List.length_map, hln]
  have hokh : Hid (okD zs = true) := hok
  clear hX hT hok2 heq hln hlen hok
  have hlx : Hid (Lx w2 p zs X) := Lib.hid ⟨⟨B, px, m, N, F, O, L, hla, hNX.out, hOk.out, by have := hlnh.out; omega⟩, hTh.out⟩
  clear hla
  have cN := new_any hlx.out (Below.refl _ w2)
  have hwsz := bel.size
  clear hat2
  go_wp2_with fail
  refine cN.mono ?_
  rintro e w3 ⟨q, rfl, hq, S, b3⟩
  replace bel := bstep bel b3
  have hw1 : w.heap.size ≤ q := by omega
  clear cN b3
  have g0 := of_decide_eq_false hd0
  have ha9 : a.size ≤ 200 := by omega
  have hb9 : b.size ≤ 200 := by omega
  have cF := feed_call hlx.out S a (by omega) (by omega)
  clear g0
  go_wp2_with fail
  refine cF.mono ?_
  rintro e w4 ⟨v4, rfl, _, S4, t4⟩
  replace bel := bel.trans (t4.below bel.size hw1 hw1)
  clear cF t4 S
  have cR := reset_any hlx.out S4
  go_wp2_with fail
  refine cR.mono ?_
  rintro e w5 ⟨rfl, S5, t5⟩
  replace bel := bel.trans (t5.below bel.size hw1 hw1)
  clear cR t5 S4
  have cA := at_any S5
  rw [show ((0 : Nat) : Int) = 0 from rfl] at cA
  go_wp2_with fail
  refine cA.mono ?_
  rintro e w6 ⟨rfl, hw⟩
  rw [hw]
  clear cA hw w6
  have cA := node_any S5
  go_wp2_with fail
  refine cA.mono ?_
  rintro e w6 ⟨⟨r, rfl, hr⟩, hw⟩
  rw [hw]
  obtain rfl : r = 0 := Lg.one hTh.out.fine hr (lg_none hTh.out.good _)
  rw [show ((0 : Nat) : Int) = 0 from rfl]
  clear cA hw w6 hr
  have cF := feed_call hlx.out S5 b (by omega) (by omega)
  go_wp2_with fail
  refine cF.mono ?_
  rintro e w6 ⟨v6, rfl, hr, S6, t6⟩
  replace bel := bel.trans (t6.below bel.size hw1 hw1)
  clear cF t6 S5
  have hlen := feedU_len hTh.out [] 0 b.data.toList b.size
  rw [Nat.zero_add] at S6
  have cL := all_any hlx.out S6.bel b (by omega)
  obtain ⟨H, hH⟩ : ∃ H, feedU zs [] 0 b.data.toList b.size = H := ⟨_, rfl⟩
  rw [hH] at hr hlen cL
  obtain ⟨nH, hnH⟩ : ∃ nH, H.length = nH := ⟨_, rfl⟩
  have hnh2 : Hid (nH = H.length) := hnH.symm
  rw [hnH] at hr hlen cL
  obtain ⟨V, cp, rfl, hV⟩ := row_hits hr hnh2.out
  clear hr hH hnH
  go_wp2_with fail
  refine cL.mono ?_
  rintro e w7 ⟨v7, rfl, hr7, b7⟩
  replace bel := bstep bel b7
  replace S6 := S6.below b7
  replace hV := hV.below b7
  obtain ⟨V7, cp7, rfl, hV7⟩ := row_hits hr7 hnh2.out
  have cs := same_hits V V7 nH nH cp cp7 H H w7 hnh2.out hnh2.out hV hV7 (by omega) (by omega)
  rw [decide_eq_true (rfl : H = H)] at cs
  clear cL hr7 b7 hV hV7
  go_wp2_with fail
  refine cs.mono ?_
  rintro e w8 ⟨rfl, b8⟩
  replace bel := bstep bel b8
  replace S6 := S6.below b8
  clear cs b8
  have cA := at_any S6
  clear S6
  go_wp2_with fail
  refine cA.mono ?_
  rintro e w9 ⟨rfl, hw⟩
  rw [hw]
  clear cA hw
  have hbb : ((b.size : Int) == (b.size : Int)) = true := by simp
  go_wp2_with fail
  go_ret
  exact ⟨rfl, bel⟩
end Go.Proofs.Ytdeeeechdlcdbaa.SzW
