/- The walk of TrieCounts. -/
import Derived.Test.YtdeeeechdlcdbaaTcP
import Derived.Deep.QuietTactic
import Derived.BigQuiet
import Derived.IntWalk
set_option linter.unusedVariables false
set_option linter.unusedSimpArgs false
namespace Go.Proofs.Ytdeeeechdlcdbaa.TcW
open Go Go.RowKit Go.Proofs.Ytdeeeechdlcdbaa.Base Go.Proofs.Ytdeeeechdlcdbaa.DiA Go.Proofs.Ytdeeeechdlcdbaa.DiB Go.Proofs.Ytdeeeechdlcdbaa.DiC Go.Proofs.Ytdeeeechdlcdbaa.DiD Go.Proofs.Ytdeeeechdlcdbaa.TrP Go.Proofs.Ytdeeeechdlcdbaa.TrM Go.Proofs.Ytdeeeechdlcdbaa.TrA Go.Proofs.Ytdeeeechdlcdbaa.TrB Go.Proofs.Ytdeeeechdlcdbaa.TrD Go.Proofs.Ytdeeeechdlcdbaa.TrE Go.Proofs.Ytdeeeechdlcdbaa.TgU Go.Proofs.Ytdeeeechdlcdbaa.TrQ Go.Proofs.Ytdeeeechdlcdbaa.TcP
set_option maxHeartbeats 400000 in
theorem counts_few (A : Option Addr) (n cap : Nat) (w : World) (hf : Calls Try.prog 23 #[.slice A n cap] w fun e w' => e = .returned (.bool false) ∧ w' = w) :
    Calls Try.prog 4 #[.slice A n cap] w fun e w' => e = .returned (.bool true) ∧ Below w.heap.size w w' := by
  go_enter Try.func4, Try.ntmps4
  go_wp2_with fail
  refine hf.mono ?_
  rintro e w1 ⟨rfl, hw⟩
  rw [hw]
  clear hf hw
  go_wp2_with fail
  refine (alive_call _).mono ?_
  rintro e w2 ⟨rfl, b2⟩
  go_wp2_with fail
  go_ret
  exact ⟨rfl, b2⟩
set_option maxRecDepth 20000 in
set_option maxHeartbeats 4000000 in
theorem counts_in (A : Option Addr) (n cap : Nat) (zs : List ByteArray) (w : World) (hf : Calls Try.prog 23 #[.slice A n cap] w fun e w' => e = .returned (.bool true) ∧ w' = w)
    (hn : n = zs.length) (hat : StrsAt w A zs) (hn1 : n ≤ 110) (htot : total zs ≤ 1300) :
    Calls Try.prog 4 #[.slice A n cap] w fun e w' => e = .returned (.bool true) ∧ Below w.heap.size w w' := by
  have hnh : Hid (n = zs.length) := hn
  clear hn
  go_enter Try.func4, Try.ntmps4
  go_wp2_with fail
  refine hf.mono ?_
  rintro e w1 ⟨rfl, hw⟩
  rw [hw]
  clear hf hw w1
  go_wp2_with fail
  refine (alive_call _).mono ?_
  rintro e w1 ⟨rfl, b1⟩
  have hat1 := hat.below b1
  have bel := b1
  clear b1
  go_wp2_with fail
  refine (make_any A n cap zs w1 hnh.out hat1 (by omega)).mono ?_
  rintro e w2 ⟨b2, ⟨_, rfl⟩ | ⟨okd, pd, rfl, _, hdt⟩⟩
  · have bel2 := bstep bel b2
    clear hat1 bel b2 hat
    go_wp2_with fail
    go_ret
    exact ⟨rfl, bel2⟩
  have bel2 := bstep bel b2
  have hdist : Hid (∀ j k, j < k → k < zs.length → zs.getD j ByteArray.empty ≠ zs.getD k ByteArray.empty) := okD_apart okd
  clear hat1 bel b2 okd
  have hzl : zs.length ≤ 1000 := by rw [← hnh.out]; omega
  go_wp2_with fail
  refine (TrD.new_any _ pd zs w2 hdt hzl (by omega)).mono ?_
  rintro e w3 ⟨b3, px, NX, mx, rfl, hX, hNX, hlX⟩
  have bel3 := bstep bel2 b3
  clear hdt bel2 b3 hzl
  obtain ⟨he, hwc⟩ := even_build zs hdist.out zs.length (Nat.le_refl _)
  have hcn := he.cnt
  have eX : NX.length = (build zs zs.length).length := by rw [← hNX, List.length_map]
  generalize hX0 : build zs zs.length = X at hNX he hwc hcn eX
  have hNXh : Hid (NX.map (·.p) = X) := hNX
  have eXh : Hid (NX.length = X.length) := eX
  have hcnh : Hid (X.length = cnt X + 1) := hcn
  have hwch : Hid (wcnt X = zs.length) := hwc
  have hlXh : Hid (NX.length ≤ 1 + total zs) := hlX
  have hXl : NX.length ≤ 1301 := by omega
  clear hX0 he hNX eX hcn hwc hlX hdist
  have hat3 := hat.below bel3
  have hth : Hid (total zs ≤ 1300) := htot
  clear hat htot
  go_wp2_with fail
  go_loop [5, 31] (fun a i => ∃ k : Nat, k ≤ n ∧ i = .int .i64 k ∧ a = .int .i64 ((total (zs.take k) : Nat) : Int)) (fun _ i => n - (intOf i).toNat)
  case atStart => exact ⟨0, Nat.zero_le _, rfl, rfl⟩
  case round =>
    obtain ⟨k, hk, rfl, rfl⟩ := hrel
    by_cases hlt : k < n
    · have hkz : k < zs.length := by rw [← hnh.out]; exact hlt
      obtain ⟨b, off, rfl, _, hc⟩ := hat3 (by omega)
      have hcell := hc k hkz
      have hkd : decide ((k : Int) < (n : Int)) = true := decide_eq_true (by omega)
      have hs := total_succ hkz
      have hle := total_le zs (k + 1)
      have hth1 := hth.out
      generalize zs.getD k ByteArray.empty = y at hs hcell
      have hsh : Hid (total (zs.take (k + 1)) = total (zs.take k) + y.size) := hs
      generalize total (zs.take k) = T at hs hsh
      have hwr : IntKind.i64.wrap ((T : Int) + (y.size : Int)) = (T : Int) + (y.size : Int) := by rw [IntKind.wrap_i64]; omega
      clear hs hle hth1 hkz hc
      go_wp2_with fail
      go_round
      case rel => exact ⟨k + 1, by omega, by go_num, by rw [hsh.out, Int.natCast_add]⟩
      case measure => simp [intOf]; omega
    · have hkn : k = n := by omega
      subst hkn
      have hkd : decide ((k : Int) < (k : Int)) = false := decide_eq_false (by omega)
      have htk : total (zs.take k) = total zs := by rw [List.take_of_length_le (by rw [← hnh.out]; omega)]
      have hle := hth.out
      generalize total (zs.take k) = T at htk
      have hT : Hid (T = total zs) := htk
      have hT1 : T ≤ 1300 := by omega
      clear htk hle hat3 hk hlt
      go_wp2_with fail
      go_loopw [6, 7, 10] (fun a b i wr => ∃ q : Nat, q ≤ NX.length ∧ i = .int .i64 q ∧ a = .int .i64 ((cnt (X.take q) : Nat) : Int) ∧ b = .int .i64 ((wcnt (X.take q) : Nat) : Int) ∧ Below w.heap.size w wr ∧ TrieAt w2.heap.size wr px NX mx) (fun _ _ i _ => NX.length - (intOf i).toNat)
      case atStart => exact ⟨0, Nat.zero_le _, rfl, rfl, rfl, bel3, hX⟩
      case round =>
        obtain ⟨q, hq, rfl, rfl, rfl, belr, tX⟩ := hrel
        clear hX bel3
        have hlenX := len_any tX
        by_cases hlt : q < NX.length
        · have hkd2 : decide ((q : Int) < (NX.length : Int)) = true := decide_eq_true (by omega)
          have hqX : q < X.length := by rw [← eXh.out]; exact hlt
          have hcs := cnt_succ X hqX
          have hcl := cnt_le X (q + 1) hqX
          have hws := wcnt_succ X hqX
          have hwl := wcnt_le X (q + 1) hqX
          obtain ⟨L, hL⟩ : ∃ L, sonsL (X.getD q noPn).sons = L := ⟨_, rfl⟩
          have hLp : Hid (L.Pairwise (· < ·)) := by show L.Pairwise (· < ·); rw [← hL]; exact Sn.sonsL_lt _
          have hLl : L.length ≤ 256 := by rw [← hL]; exact sonsL_len _
          have cS := sons_call tX (by omega) hNXh.out q hqX hL
          rw [hL] at hcs
          clear hL
          have hcsh : Hid (cnt (X.take (q + 1)) = cnt (X.take q) + L.length) := hcs
          have hwsh : Hid (wcnt (X.take (q + 1)) = wcnt (X.take q) + (if 0 ≤ (X.getD q noPn).word then 1 else 0)) := hws
          generalize cnt (X.take q) = C at hcs hcsh
          have hW1 : wcnt (X.take q) ≤ q + 1 := by omega
          generalize wcnt (X.take q) = Wd at hws hwsh hW1
          have hwr : IntKind.i64.wrap ((C : Int) + (L.length : Int)) = (C : Int) + (L.length : Int) := by rw [IntKind.wrap_i64]; omega
          have hwr2 : IntKind.i64.wrap ((Wd : Int) + 1) = (Wd : Int) + 1 := by rw [IntKind.wrap_i64]; omega
          have hqXh : Hid (q < X.length) := hqX
          clear hcs hcl hws hwl hW1 hqX
          go_wp2_with fail
          refine hlenX.mono ?_
          rintro e wq ⟨rfl, hwq⟩
          rw [hwq]
          clear hwq wq hlenX
          go_wp2_with fail
          refine cS.mono ?_
          rintro e w4 ⟨V, cp, rfl, hV, b4⟩
          have bel4 := bstep belr b4
          have tX4 := tX.below b4
          clear cS tX belr b4
          go_wp2_with fail
          generalize hLL : L.length = LL at *
          have hLLh : Hid (L.length = LL) := hLL
          clear hLL
          go_loopw [55] (fun i wr2 => ∃ j : Nat, j ≤ LL ∧ i = .int .i64 j ∧ Below w4.heap.size w4 wr2) (fun i _ => LL - (intOf i).toNat)
          case atStart => exact ⟨0, Nat.zero_le _, rfl, Below.refl _ _⟩
          case round =>
            obtain ⟨j, hj, rfl, b5⟩ := hrel
            by_cases hjl : j < LL
            · have hjd : decide ((j : Int) < (LL : Int)) = true := decide_eq_true (by omega)
              obtain ⟨g, rfl, hc⟩ := hV.out (by omega)
              have c1 := pw_cell_below b5 (hc j hjl)
              have z1 : IntKind.i64.wrap ((j : Int) + 1) = (j : Int) + 1 := by rw [IntKind.wrap_i64]; omega
              rcases j with _ | j
              · have hg : decide (((0 : Nat) : Int) > 0) = false := rfl
                clear hc
                go_wp2_with fail
                go_quiet (fail)
                go_wp2
                go_roundw
                case rel => exact ⟨1, by omega, by go_num, drewN_below b5⟩
                case measure => simp [intOf]; omega
              · have hjz : Hid (j + 1 < LL) := hjl
                obtain ⟨i, hi⟩ : ∃ i : Nat, j + 1 = i := ⟨_, rfl⟩
                have c2 := pw_cell_below b5 (hc j (by omega))
                have hlt2 := sons_lt hLp.out (j := j) (by rw [hLLh.out]; exact hjl)
                rw [hi] at c1 hlt2 hjl hjd z1 hj
                have hg : decide (((i : Nat) : Int) > 0) = true := decide_eq_true (by omega)
                have hg2 : decide (0 < i) = true := decide_eq_true (by omega)
                have hg3 : (i : Int) > 0 := by omega
                have hg4 : 0 < i := by omega
                have z2 : IntKind.i64.wrap ((i : Int) - 1) = (j : Int) := by rw [IntKind.wrap_i64]; omega
                have z3 : (0 : Int) ≤ (j : Int) := by omega
                have z4 : (j : Int) < (LL : Int) := by omega
                have z5 : (i : Int) < (LL : Int) := by omega
                generalize L.getD j 0 = a1 at c2 hlt2
                generalize L.getD i 0 = a2 at c1 hlt2
                have hge : decide (a1 ≥ a2) = false := decide_eq_false (by omega)
                rw [hi]
                have hih : Hid (j + 1 = i) := hi
                clear hc hi hlt2
                go_wp2_with fail
                go_quiet (fail)
                go_wp2
                go_roundw
                case rel => exact ⟨i + 1, by omega, by go_num, drewN_below b5⟩
                case measure => simp [intOf]; omega
            · have hjd : decide ((j : Int) < (LL : Int)) = false := decide_eq_false (by omega)
              have bel5 := bstep bel4 b5
              have tX5 := tX4.below b5
              clear bel4 tX4 b5 hV
              have cW := word_in tX5 (by omega) hNXh.out q hqXh.out
              generalize (X.getD q noPn).word = wd at cW hwsh
              go_wp2_with fail
              refine cW.mono ?_
              rintro e w6 ⟨rfl, b6⟩
              have bel6 := bstep bel5 b6
              have tX6 := tX5.below b6
              clear cW bel5 tX5 b6
              by_cases hw0 : 0 ≤ wd
              · have hwd : decide (wd ≥ 0) = true := decide_eq_true hw0
                have hws := hwsh.out
                rw [if_pos hw0] at hws
                have hwsh2 : Hid (wcnt (X.take (q + 1)) = Wd + 1) := hws
                clear hws hwsh hw0
                go_wp2_with fail
                go_roundw
                case rel => exact ⟨q + 1, by omega, by go_num, by rw [hcsh.out, Int.natCast_add], by rw [hwsh2.out]; go_num, bel6, tX6⟩
                case measure => simp [intOf]; omega
              · have hwd : decide (wd ≥ 0) = false := decide_eq_false hw0
                have hws := hwsh.out
                rw [if_neg hw0] at hws
                have hwsh2 : Hid (wcnt (X.take (q + 1)) = Wd) := hws
                clear hws hwsh hw0
                go_wp2_with fail
                go_roundw
                case rel => exact ⟨q + 1, by omega, by go_num, by rw [hcsh.out, Int.natCast_add], by rw [hwsh2.out], bel6, tX6⟩
                case measure => simp [intOf]; omega
        · have hkd2 : decide ((q : Int) < (NX.length : Int)) = false := decide_eq_false (by omega)
          have hqX : X.take q = X := List.take_of_length_le (by rw [← eXh.out]; omega)
          rw [hqX, hwch.out, ← hnh.out]
          have e1 := hcnh.out
          have e2 := eXh.out
          have e3 := hlXh.out
          have e4 := hT.out
          generalize cnt X = C at e1
          have z1 : IntKind.i64.wrap ((C : Int) + 1) = (C : Int) + 1 := by rw [IntKind.wrap_i64]; omega
          have z2 : IntKind.i64.wrap ((T : Int) + 1) = (T : Int) + 1 := by rw [IntKind.wrap_i64]; omega
          have t1 : ((NX.length : Int) == (C : Int) + 1) = true := by simp; omega
          have t2 : decide ((NX.length : Int) ≤ (T : Int) + 1) = true := decide_eq_true (by omega)
          clear e1 e2 e3 e4 hqX
          go_wp2_with fail
          refine hlenX.mono ?_
          rintro e wq ⟨rfl, hwq⟩
          rw [hwq]
          clear hwq wq
          go_wp2_with fail
          refine hlenX.mono ?_
          rintro e wq ⟨rfl, hwq⟩
          rw [hwq]
          clear hwq wq
          go_wp2_with fail
          refine hlenX.mono ?_
          rintro e wq ⟨rfl, hwq⟩
          rw [hwq]
          clear hwq wq
          go_wp2_with fail
          go_ret
          exact ⟨rfl, belr⟩
end Go.Proofs.Ytdeeeechdlcdbaa.TcW
