/- The walk of ScanSteps. -/
import Derived.Test.YtdeeeechdlcdbaaScX
import Derived.Test.YtdeeeechdlcdbaaTtN
import Derived.Test.YtdeeeechdlcdbaaPhW
import Derived.IntWalk
import Derived.Deep.QuietTactic
import Derived.BigQuiet
set_option linter.unusedVariables false
set_option linter.unusedSimpArgs false
namespace Go.Proofs.Ytdeeeechdlcdbaa.SsW
open Go Go.RowKit Go.Proofs Go.Proofs.Ytdeeeechdlcdbaa Go.Proofs.Ytdeeeechdlcdbaa.Base Go.Proofs.Ytdeeeechdlcdbaa.DiA Go.Proofs.Ytdeeeechdlcdbaa.DiB Go.Proofs.Ytdeeeechdlcdbaa.DiC Go.Proofs.Ytdeeeechdlcdbaa.TrP Go.Proofs.Ytdeeeechdlcdbaa.TrM Go.Proofs.Ytdeeeechdlcdbaa.TrA Go.Proofs.Ytdeeeechdlcdbaa.TrD Go.Proofs.Ytdeeeechdlcdbaa.TrE Go.Proofs.Ytdeeeechdlcdbaa.TtP Go.Proofs.Ytdeeeechdlcdbaa.TcP Go.Proofs.Ytdeeeechdlcdbaa.TwA Go.Proofs.Ytdeeeechdlcdbaa.LkA Go.Proofs.Ytdeeeechdlcdbaa.LkP Go.Proofs.Ytdeeeechdlcdbaa.LkM Go.Proofs.Ytdeeeechdlcdbaa.LkO Go.Proofs.Ytdeeeechdlcdbaa.LkQ Go.Proofs.Ytdeeeechdlcdbaa.LkN Go.Proofs.Ytdeeeechdlcdbaa.LkS Go.Proofs.Ytdeeeechdlcdbaa.LkX Go.Proofs.Ytdeeeechdlcdbaa.PhP Go.Proofs.Ytdeeeechdlcdbaa.PhW Go.Proofs.Ytdeeeechdlcdbaa.ScP Go.Proofs.Ytdeeeechdlcdbaa.ScS Go.Proofs.Ytdeeeechdlcdbaa.ScH Go.Proofs.Ytdeeeechdlcdbaa.ScF Go.Proofs.Ytdeeeechdlcdbaa.ScE Go.Proofs.Ytdeeeechdlcdbaa.ScX Go.Proofs.Ytdeeeechdlcdbaa.TtN
set_option maxHeartbeats 400000 in
theorem law_few (A : Option Addr) (n cap : Nat) (k0 : Int) (b : ByteArray) (w : World) (hf : Calls Try.prog 23 #[.slice A n cap] w fun e w' => e = .returned (.bool false) ∧ w' = w) :
    Calls Try.prog 15 #[.slice A n cap, .int .i64 k0, .string b] w fun e w' => e = .returned (.bool true) ∧ Below w.heap.size w w' := by
  go_enter Try.func15, Try.ntmps15
  go_wp2_with fail
  refine hf.mono ?_
  rintro e w1 ⟨rfl, hw⟩
  rw [hw]
  clear hf hw
  go_wp2_with fail
  refine (ScX.alive_call _).mono ?_
  rintro e w2 ⟨rfl, b2⟩
  go_wp2_with fail
  go_ret
  exact ⟨rfl, b2⟩
set_option maxHeartbeats 400000 in
theorem law_out0 (A : Option Addr) (n cap : Nat) (k0 : Int) (b : ByteArray) (w : World) (hf : Calls Try.prog 23 #[.slice A n cap] w fun e w' => e = .returned (.bool true) ∧ w' = w) (hd0 : decide ((b.size : Int) > 40) = true) :
    Calls Try.prog 15 #[.slice A n cap, .int .i64 k0, .string b] w fun e w' => e = .returned (.bool true) ∧ Below w.heap.size w w' := by
  go_enter Try.func15, Try.ntmps15
  go_wp2_with fail
  refine hf.mono ?_
  rintro e w1 ⟨rfl, hw⟩
  rw [hw]
  clear hf hw
  go_wp2_with fail
  refine (ScX.alive_call _).mono ?_
  rintro e w2 ⟨rfl, b2⟩
  go_wp2_with fail
  go_ret
  exact ⟨rfl, b2⟩
set_option maxRecDepth 20000 in
set_option maxHeartbeats 8000000 in
theorem law_in (A : Option Addr) (n cap : Nat) (zs : List ByteArray) (k0 : Int) (b : ByteArray) (w : World) (hf : Calls Try.prog 23 #[.slice A n cap] w fun e w' => e = .returned (.bool true) ∧ w' = w)
    (hn : n = zs.length) (hat : StrsAt w A zs) (hn1 : n ≤ 110) (htot : total zs ≤ 1300) (hd0 : decide ((b.size : Int) > 40) = false) :
    Calls Try.prog 15 #[.slice A n cap, .int .i64 k0, .string b] w fun e w' => e = .returned (.bool true) ∧ Below w.heap.size w w' := by
  have hnh : Hid (n = zs.length) := hn
  clear hn
  go_enter Try.func15, Try.ntmps15
  go_wp2_with fail
  refine hf.mono ?_
  rintro e w1 ⟨rfl, hw⟩
  rw [hw]
  clear hf hw w1
  go_wp2_with fail
  refine (ScX.alive_call _).mono ?_
  rintro e w1 ⟨rfl, bel⟩
  have hat1 := hat.below bel
  go_wp2_with fail
  refine (phrases_any A n cap zs w1 hnh.out hat1 (by omega)).mono ?_
  rintro e w2 ⟨hph, hw⟩
  rw [hw]
  clear hw w2
  rcases hph with ⟨hok, rfl⟩ | ⟨hok, c0, k0, hc0, rfl⟩
  rotate_left
  · have hcd : (c0 != 0) = true := by simp [hc0]
    clear hat hat1 hok
    go_wp2_with fail
    go_ret
    exact ⟨rfl, bel⟩
  go_wp2_with fail
  refine (lmake_any A n cap zs w1 hnh.out hat1 (by omega)).mono ?_
  rintro e w2 ⟨b2, ⟨hno, _⟩ | ⟨_, p, B, px, m, N, F, O, L, rfl, hl⟩⟩
  · rw [hok] at hno; cases hno
  replace bel := bstep bel b2
  have hat2 := hat1.below b2
  clear hat1 b2 hat
  have hT := tr_build hok
  have hok2 := hl.ok
  have heq := hl.eq
  have hlen := hl.len
  have hla := hl.at_
  clear hl
  obtain ⟨X, hX⟩ : ∃ X, build zs zs.length = X := ⟨_, rfl⟩
  rw [hX] at hT hok2 heq
  have hXb : Hid (build zs zs.length = X) := hX
  have hTh : Hid (Tr zs X) := hT
  have hOk : Hid (LkOk X F O L) := hok2
  have hNX : Hid (N.map (·.p) = X) := heq
  obtain ⟨ln, hln⟩ : ∃ ln, N.length = ln := ⟨_, rfl⟩
  have hln1 : ln ≤ 1301 := by omega
  have hlnh : Hid (N.length = ln) := hln
  have hXl : Hid (X.length = ln) := by show _ = _; rw [← hNX.out, List.length_map, hln]
  have hokh : Hid (okD zs = true) := hok
  clear hX hT hok2 heq hln hlen hok
  go_wp2_with fail
  refine (nodes_any A n cap zs w2 hnh.out hat2 hn1 htot).mono ?_
  rintro e w3 ⟨v, rfl, hr, b3⟩
  rw [hXb.out, texts_length, hXl.out] at hr
  obtain ⟨V, cp, rfl, hV⟩ := own_cells hr (by rw [texts_length, hXl.out])
  replace bel := bstep bel b3
  replace hla := hla.below b3
  clear hat2 hr b3 htot hn1
  by_cases hk0 : k0 < 0
  · have hd1 : decide (k0 < 0) = true := decide_eq_true hk0
    have cs := step_out hla (.inl hk0) 97
    clear hla hV hk0
    go_wp2_with fail
    refine cs.mono ?_
    rintro e w4 ⟨rfl, hw⟩
    rw [hw]
    clear cs hw
    go_wp2_with fail
    refine (step_nil _ _ _).mono ?_
    rintro e w4 ⟨rfl, hw⟩
    rw [hw]
    clear hw
    go_wp2_with fail
    go_ret
    exact ⟨rfl, bel⟩
  · by_cases hkl : (ln : Int) ≤ k0
    · have hd1 : decide (k0 < 0) = false := decide_eq_false hk0
      have hd2 : decide (k0 ≥ (ln : Int)) = true := decide_eq_true hkl
      have cs := step_out hla (k := k0) (.inr (by rw [hlnh.out]; exact hkl)) 97
      clear hla hV hk0 hkl
      go_wp2_with fail
      refine cs.mono ?_
      rintro e w4 ⟨rfl, hw⟩
      rw [hw]
      clear cs hw
      go_wp2_with fail
      refine (step_nil _ _ _).mono ?_
      rintro e w4 ⟨rfl, hw⟩
      rw [hw]
      clear hw
      go_wp2_with fail
      go_ret
      exact ⟨rfl, bel⟩
    · obtain ⟨k, rfl⟩ : ∃ k : Nat, k0 = (k : Int) := ⟨k0.toNat, by omega⟩
      have hd1 : decide ((k : Int) < 0) = false := decide_eq_false hk0
      have hd2 : decide (ln ≤ k) = false := decide_eq_false (by omega)
      have hkln : k < ln := by omega
      have hki : (k : Int) < (ln : Int) := by omega
      have hkX : k < X.length := by rw [hXl.out]; exact hkln
      have hVh : Hid (StrsAt w3 V (texts X)) := hV
      have hb40 : b.size ≤ 40 := by have := of_decide_eq_false hd0; omega
      obtain ⟨bV, oV, rfl, _, hc⟩ := hV (by rw [texts_length]; omega)
      have hc1 := hc k (by rw [texts_length]; exact hkX)
      rw [texts_getD hkX] at hc1
      obtain ⟨t0, ht0⟩ : ∃ t0, (X.getD k noPn).text = t0 := ⟨_, rfl⟩
      rw [ht0] at hc1
      have htx : tx X k = t0.data.toList := by unfold tx; rw [ht0]
      have hst : Hid (t0.data.toList = tx X k ++ b.data.toList.take 0 ∧ k < X.length ∧ Lg X (tx X k ++ b.data.toList.take 0) (tx X k ++ b.data.toList.take 0).length k) := by
        rw [List.take_zero, List.append_nil]
        exact ⟨htx.symm, hkX, hkX, List.suffix_refl _, Nat.le_refl _, fun x _ _ h2 => h2⟩
      have hkt : Hid ((tx X k).length ≤ 40) := hTh.out.short k hkX
      generalize hTK : tx X k = TK at hst hkt
      clear hk0 hkl hkln hkX hV hc ht0 htx hTK
      have hla3 : Hid (LkAt B w3 p px N m F O L) := hla
      have bel3 : Hid (Below w.heap.size w w3) := bel
      clear hla bel
      go_wp2_with fail
      go_loopw [1, 11, 12] (fun s1 s11 s12 wr => ∃ (r i : Nat) (t : ByteArray), i ≤ b.size ∧ s1 = .int .i64 (r : Int) ∧ s11 = .string t ∧ s12 = .int .i64 (i : Int) ∧ Hid (t.data.toList = TK ++ b.data.toList.take i ∧ r < X.length ∧ Lg X (TK ++ b.data.toList.take i) (TK ++ b.data.toList.take i).length r) ∧ Below w3.heap.size w3 wr) (fun _ _ s12 _ => b.size - (intOf s12).toNat)
      case atStart => exact ⟨k, 0, t0, Nat.zero_le _, rfl, rfl, rfl, hst, Below.refl _ _⟩
      case round =>
        obtain ⟨r, i, t, hi, rfl, rfl, rfl, hin, br⟩ := hrel
        clear hst
        by_cases hlt : i < b.size
        · have hid : decide ((i : Int) < (b.size : Int)) = true := decide_eq_true (by omega)
          have hii : (i : Int) < (b.size : Int) := by omega
          have hcr := TrP.byteOf_range b i
          have hbj := byte_get b i hlt
          have htk := take_byte hlt
          generalize TrP.byteOf b i = c at hcr hbj htk
          have hlr := hla3.out.below br
          have cS := step_in hlr hNX.out hOk.out hTh.out (by have := hlnh.out; omega) hin.out.2.1 hcr
          have hex : (t ++ b.extract i (i + 1)).data.toList = TK ++ b.data.toList.take (i + 1) := by
            rw [app_list, ext_list, hin.out.1, List.append_assoc]
            congr 1
            rw [show i + 1 - i = 1 by omega, ← List.take_add]
          obtain ⟨t2, ht2⟩ : ∃ t2, t ++ b.extract i (i + 1) = t2 := ⟨_, rfl⟩
          rw [ht2] at hex
          have hts : t.size ≤ 80 := by
            rw [size_list, hin.out.1, List.length_append, List.length_take]
            have := hkt.out
            omega
          have hlb : ¬ (9223372036854775807 < t.size + (min (i + 1) b.size - i)) := by omega
          have hlb2 : ¬ (9223372036854775807 < t.size + (b.extract i (i + 1)).size) := by rw [ByteArray.size_extract]; omega
          have ht2s : t2.size ≤ 80 := by
            rw [size_list, hex, List.length_append, List.length_take]
            have := hkt.out
            omega
          have hexh : Hid (t2.data.toList = TK ++ b.data.toList.take (i + 1)) := hex
          have htkh : Hid (b.data.toList.take (i + 1) = b.data.toList.take i ++ [byte c]) := htk
          have z1 : IntKind.i64.wrap ((i : Int) + 1) = (i : Int) + 1 := by rw [IntKind.wrap_i64]; omega
          have hi1 : i + 1 ≤ b.size := hlt
          clear hlr hcr htk hex
          go_wp2_with fail
          refine cS.mono ?_
          rintro e w5 ⟨⟨r2, rfl, hr2⟩, b5⟩
          have br5 := bstep br b5
          have hLg : Lg X (TK ++ b.data.toList.take (i + 1)) (TK ++ b.data.toList.take (i + 1)).length r2 := by
            rw [htkh.out, ← List.append_assoc, List.length_append, List.length_singleton]
            exact lg_feed hTh.out.good hTh.out.fine hin.out.2.2 hr2
          have cL := longest_any (some ⟨bV, oV, none⟩) ln cp hTh.out.good t2 t2.size w5 (by rw [texts_length, hXl.out]) (hVh.out.below br5) (by omega) (by omega) (by omega)
          have hLgh : Hid (Lg X (TK ++ b.data.toList.take (i + 1)) (TK ++ b.data.toList.take (i + 1)).length r2) := hLg
          clear cS b5 br hr2 hLg
          go_wp2_with fail
          refine cL.mono ?_
          rintro e w6 ⟨⟨r3, rfl, hr3⟩, hw⟩
          rw [hw]
          have hr23 : r3 = r2 := by
            rw [hexh.out, size_list, hexh.out] at hr3
            exact Lg.one hTh.out.fine hr3 hLgh.out
          rw [hr23]
          have hne : ((r2 : Int) != (r2 : Int)) = false := by simp
          clear cL hw w6 hr3 hr23 r3
          go_wp2_with fail
          go_roundw
          case rel => exact ⟨r2, i + 1, t2, hi1, rfl, rfl, by go_num, Lib.hid ⟨hexh.out, hLgh.out.lt, hLgh.out⟩, br5⟩
          case measure => simp [intOf]; omega
        · have hid : decide ((i : Int) < (b.size : Int)) = false := decide_eq_false (by omega)
          clear hin
          go_wp2_with fail
          go_ret
          exact ⟨rfl, bel3.out.trans (br.mono bel3.out.size)⟩
end Go.Proofs.Ytdeeeechdlcdbaa.SsW
