/- The walk of LinksEnds. -/
import Derived.Test.YtdeeeechdlcdbaaLkX
import Derived.Test.YtdeeeechdlcdbaaPhW
import Derived.IntWalk
import Derived.Deep.QuietTactic
import Derived.BigQuiet
set_option linter.unusedVariables false
set_option linter.unusedSimpArgs false
namespace Go.Proofs.Ytdeeeechdlcdbaa.LeW
open Go Go.RowKit Go.Proofs Go.Proofs.Ytdeeeechdlcdbaa Go.Proofs.Ytdeeeechdlcdbaa.Base Go.Proofs.Ytdeeeechdlcdbaa.DiA Go.Proofs.Ytdeeeechdlcdbaa.DiB Go.Proofs.Ytdeeeechdlcdbaa.DiC Go.Proofs.Ytdeeeechdlcdbaa.TrP Go.Proofs.Ytdeeeechdlcdbaa.TrM Go.Proofs.Ytdeeeechdlcdbaa.TrA Go.Proofs.Ytdeeeechdlcdbaa.TrD Go.Proofs.Ytdeeeechdlcdbaa.TrE Go.Proofs.Ytdeeeechdlcdbaa.TtP Go.Proofs.Ytdeeeechdlcdbaa.TcP Go.Proofs.Ytdeeeechdlcdbaa.TwA Go.Proofs.Ytdeeeechdlcdbaa.LkA Go.Proofs.Ytdeeeechdlcdbaa.LkP Go.Proofs.Ytdeeeechdlcdbaa.LkM Go.Proofs.Ytdeeeechdlcdbaa.LkO Go.Proofs.Ytdeeeechdlcdbaa.LkQ Go.Proofs.Ytdeeeechdlcdbaa.LkN Go.Proofs.Ytdeeeechdlcdbaa.LkS Go.Proofs.Ytdeeeechdlcdbaa.LkX Go.Proofs.Ytdeeeechdlcdbaa.PhP Go.Proofs.Ytdeeeechdlcdbaa.PhW Go.Proofs.Ytdeeeechdlcdbaa.ScP
set_option maxHeartbeats 400000 in
theorem law_few (A : Option Addr) (n cap : Nat) (w : World) (hf : Calls Try.prog 23 #[.slice A n cap] w fun e w' => e = .returned (.bool false) ∧ w' = w) :
    Calls Try.prog 10 #[.slice A n cap] w fun e w' => e = .returned (.bool true) ∧ Below w.heap.size w w' := by
  go_enter Try.func10, Try.ntmps10
  go_wp2_with fail
  refine hf.mono ?_
  rintro e w1 ⟨rfl, hw⟩
  rw [hw]
  clear hf hw
  go_wp2_with fail
  refine (LkX.alive_call _).mono ?_
  rintro e w2 ⟨rfl, b2⟩
  go_wp2_with fail
  go_ret
  exact ⟨rfl, b2⟩
set_option maxRecDepth 20000 in
set_option maxHeartbeats 8000000 in
theorem law_in (A : Option Addr) (n cap : Nat) (zs : List ByteArray) (w : World) (hf : Calls Try.prog 23 #[.slice A n cap] w fun e w' => e = .returned (.bool true) ∧ w' = w)
    (hn : n = zs.length) (hat : StrsAt w A zs) (hn1 : n ≤ 110) (htot : total zs ≤ 1300) :
    Calls Try.prog 10 #[.slice A n cap] w fun e w' => e = .returned (.bool true) ∧ Below w.heap.size w w' := by
  have hnh : Hid (n = zs.length) := hn
  clear hn
  go_enter Try.func10, Try.ntmps10
  go_wp2_with fail
  refine hf.mono ?_
  rintro e w1 ⟨rfl, hw⟩
  rw [hw]
  clear hf hw w1
  go_wp2_with fail
  refine (LkX.alive_call _).mono ?_
  rintro e w1 ⟨rfl, bel⟩
  have hat1 := hat.below bel
  go_wp2_with fail
  refine (phrases_any A n cap zs w1 hnh.out hat1 (by omega)).mono ?_
  rintro e w2 ⟨hph, hw⟩
  rw [hw]
  clear hw w2
  rcases hph with ⟨hok, rfl⟩ | ⟨hok, c0, k0, hc0, rfl⟩
  rotate_left
  · have hcd : (c0 != 0) = true := by simp [hc0]
    clear hat hat1 hok
    go_wp2_with fail
    go_ret
    exact ⟨rfl, bel⟩
  go_wp2_with fail
  refine (lmake_any A n cap zs w1 hnh.out hat1 (by omega)).mono ?_
  rintro e w2 ⟨b2, ⟨hno, _⟩ | ⟨_, p, B, px, m, N, F, O, L, rfl, hl⟩⟩
  · rw [hok] at hno; cases hno
  replace bel := bstep bel b2
  have hat2 := hat1.below b2
  clear hat1 b2 hat
  have hT := tr_build hok
  have hok2 := hl.ok
  have heq := hl.eq
  have hlen := hl.len
  have hla := hl.at_
  clear hl
  obtain ⟨X, hX⟩ : ∃ X, build zs zs.length = X := ⟨_, rfl⟩
  rw [hX] at hT hok2 heq
  have hTh : Hid (Tr zs X) := hT
  have hOk : Hid (LkOk X F O L) := hok2
  have hNX : Hid (N.map (·.p) = X) := heq
  obtain ⟨ln, hln⟩ : ∃ ln, N.length = ln := ⟨_, rfl⟩
  have hln1 : ln ≤ 1301 := by omega
  have hlnh : Hid (N.length = ln) := hln
  have hXl : Hid (X.length = ln) := by show _ = _; rw [← hNX.out, List.length_map, hln]
  have hokh : Hid (okD zs = true) := hok
  clear hX hT hok2 heq hln hlen hok
  have cT := trie_any hla
  go_wp2_with fail
  refine cT.mono ?_
  rintro e w3 ⟨rfl, hw⟩
  rw [hw]
  clear hw w3
  go_wp2_with fail
  refine cT.mono ?_
  rintro e w3 ⟨rfl, hw⟩
  rw [hw]
  clear cT hw w3
  go_wp2_with fail
  go_loopw [7] (fun s wr => ∃ k : Nat, k ≤ ln ∧ s = .int .i64 k ∧ Below w.heap.size w wr ∧ LkAt B wr p px N m F O L) (fun s _ => ln - (intOf s).toNat)
  case atStart => exact ⟨0, Nat.zero_le _, rfl, bel, hla⟩
  case round =>
    obtain ⟨k, hk, rfl, belr, hlr⟩ := hrel
    clear hla bel hat2
    have cl := len_any hlr.trie
    rw [hlnh.out] at cl
    by_cases hlt : k < ln
    · have hkd : decide ((k : Int) < (ln : Int)) = true := decide_eq_true (by omega)
      have hkX : k < X.length := by rw [hXl.out]; exact hlt
      have hkXh : Hid (k < X.length) := hkX
      have cx := text_in hlr.trie (by rw [hlnh.out]; omega) hNX.out k hkX
      obtain ⟨s, hs⟩ : ∃ s, (X.getD k noPn).text = s := ⟨_, rfl⟩
      have hsh : Hid ((X.getD k noPn).text = s) := hs
      have hss : s.size ≤ 40 := by
        have := hTh.out.short k hkX
        unfold tx at this
        rw [hs, ← size_list] at this
        exact this
      rw [hs] at cx
      clear hs hkX
      go_wp2_with fail
      refine cl.mono ?_
      rintro e w3 ⟨rfl, hw⟩
      rw [hw]
      clear cl hw w3
      go_wp2_with fail
      refine cx.mono ?_
      rintro e w3 ⟨rfl, b3⟩
      have bel3 := bstep belr b3
      have hl3 := hlr.below b3
      clear cx belr hlr b3
      go_wp2_with fail
      go_loopw [9, 10] (fun sj sa wr2 => ∃ (j a : Nat), sj = .int .i64 j ∧ sa = .int .i64 a ∧ Hid (a < X.length ∧ tx X a <:+ tx X k ∧ (tx X a).length + j ≤ 40) ∧ Below w.heap.size w wr2 ∧ LkAt B wr2 p px N m F O L) (fun _ sa _ => (tx X (intOf sa).toNat).length)
      case atStart => exact ⟨0, k, rfl, rfl, Lib.hid ⟨hkXh.out, List.suffix_refl _, hTh.out.short k hkXh.out⟩, bel3, hl3⟩
      case round =>
        obtain ⟨j, a, rfl, rfl, hin, bel4, hl4⟩ := hrel
        clear bel3 hl3
        obtain ⟨haX, hsuf, hlen⟩ := hin.out
        by_cases ha0 : a = 0
        · subst ha0
          have haz : (((0 : Nat) : Int) != 0) = false := rfl
          have ci := out_in hl4 (k := k) (by have := hkXh.out; have := hXl.out; have := hlnh.out; omega)
          have hot := hOk.out.ot k hkXh.out
          generalize O.getD k 0 = o at ci hot
          have hoth : Hid (Ot X (tx X k) ((tx X k).length - 1) o) := hot
          clear hot hin haX hsuf hlen
          go_wp2_with fail
          refine ci.mono ?_
          rintro e w5 ⟨rfl, hw⟩
          rw [hw]
          clear ci hw w5
          have z1 : IntKind.i64.wrap ((k : Int) + 1) = (k : Int) + 1 := by rw [IntKind.wrap_i64]; omega
          by_cases ho0 : o = 0
          · subst ho0
            go_wp2_with fail
            go_roundw
            case rel => exact ⟨k + 1, by omega, by go_num, bel4, hl4⟩
            case measure => simp [intOf]; omega
          · have hod : ((o : Int) != 0) = true := by simp; omega
            obtain ⟨h1, h2, h3⟩ := hoth.out.is.resolve_left ho0
            have cw := word_in hl4.trie (by rw [hlnh.out]; omega) hNX.out o hoth.out.lt
            generalize (X.getD o noPn).word = wd at cw h1
            have hwd : decide (wd < 0) = false := decide_eq_false (by omega)
            have hpos := (tx_pos hTh.out.good hTh.out.fine hoth.out.lt).1 (by omega)
            have hlto : dep X o < dep X k := by rw [dep_tx, dep_tx]; omega
            clear h1 h2 h3 hpos
            go_wp2_with fail
            refine cw.mono ?_
            rintro e w5 ⟨rfl, b5⟩
            have bel5 := bstep bel4 b5
            have hl5 := hl4.below b5
            clear cw b5 bel4 hl4
            have cd := depth_in hl5.trie (by rw [hlnh.out]; omega) hNX.out o hoth.out.lt (d := dep X o) rfl
            go_wp2_with fail
            refine cd.mono ?_
            rintro e w6 ⟨rfl, b6⟩
            have bel6 := bstep bel5 b6
            have hl6 := hl5.below b6
            clear cd b6 bel5 hl5
            have cd := depth_in hl6.trie (by rw [hlnh.out]; omega) hNX.out k hkXh.out (d := dep X k) rfl
            generalize dep X o = d1 at hlto
            generalize dep X k = d2 at hlto cd
            have hdd : decide ((d1 : Int) ≥ (d2 : Int)) = false := decide_eq_false (by omega)
            go_wp2_with fail
            refine cd.mono ?_
            rintro e w7 ⟨rfl, b7⟩
            have bel7 := bstep bel6 b7
            have hl7 := hl6.below b7
            clear cd b7 bel6 hl6
            go_wp2_with fail
            go_roundw
            case rel => exact ⟨k + 1, by omega, by go_num, bel7, hl7⟩
            case measure => simp [intOf]; omega
        · have had : ((a : Int) != 0) = true := by simp; omega
          have hlg := hOk.out.lg a haX
          have ci := fail_in hl4 (k := a) (by have := hXl.out; have := hlnh.out; omega)
          generalize F.getD a 0 = f at ci hlg
          have hpos := (tx_pos hTh.out.good hTh.out.fine haX).1 (by omega)
          have hle := hlg.le
          have cx := text_in hl4.trie (by rw [hlnh.out]; omega) hNX.out f hlg.lt
          obtain ⟨y, hy⟩ : ∃ y, (X.getD f noPn).text = y := ⟨_, rfl⟩
          have hyt : y.data.toList = tx X f := by unfold tx; rw [hy]
          have hst : s.data.toList = tx X k := by unfold tx; rw [hsh.out]
          have hsz1 : y.size = (tx X f).length := by rw [size_list, hyt]
          have hsz2 : s.size = (tx X k).length := by rw [size_list, hst]
          have hsufy := hlg.suf.trans hsuf
          have hyl := hsufy.length_le
          have hex : s.extract (s.size - y.size) s.size = y := by
            apply data_inj
            rw [ext_list, hst, hyt, hsz1, hsz2, List.take_of_length_le (by simp)]
            exact (List.suffix_iff_eq_drop.1 hsufy).symm
          obtain ⟨z, hz⟩ : ∃ z, (X.getD a noPn).text = z := ⟨_, rfl⟩
          have hsz3 : z.size = (tx X a).length := by unfold tx; rw [hz, size_list]
          have hin2 : Hid (f < X.length ∧ tx X f <:+ tx X k ∧ (tx X f).length + (j + 1) ≤ 40) := ⟨hlg.lt, hsufy, by omega⟩
          have hmes : Hid ((tx X f).length < (tx X a).length) := by show _ < _; omega
          have hj50 : decide ((j : Int) > 50) = false := decide_eq_false (by omega)
          have hyz : y.size < z.size := by omega
          have hsub : IntKind.i64.wrap ((s.size : Int) - (y.size : Int)) = ((s.size - y.size : Nat) : Int) := by rw [IntKind.wrap_i64]; omega
          have hsy : y.size ≤ s.size := by omega
          have haXh : Hid (a < X.length) := haX
          have hzh : Hid ((X.getD a noPn).text = z) := hz
          have hex2 : s.extract (s.size - y.size) s.size = y := hex
          rw [hy] at cx
          obtain ⟨dd, hdd⟩ : ∃ dd, s.size - y.size = dd := ⟨_, rfl⟩
          rw [hdd] at hsub hex2
          have hdl : dd ≤ s.size := by omega
          have hdz : (dd : Int) ≤ (s.size : Int) := by omega
          have z1 : IntKind.i64.wrap ((j : Int) + 1) = (j : Int) + 1 := by rw [IntKind.wrap_i64]; omega
          clear hlg hpos hle hyt hst hsz1 hsz2 hsz3 hsufy hyl hex hz hy hin haX hsuf hlen hdd
          go_wp2_with fail
          refine ci.mono ?_
          rintro e w5 ⟨rfl, hw⟩
          rw [hw]
          clear ci hw w5
          go_wp2_with fail
          refine cx.mono ?_
          rintro e w6 ⟨rfl, b6⟩
          have bel6 := bstep bel4 b6
          have hl6 := hl4.below b6
          clear cx b6 bel4 hl4
          have cz := text_in hl6.trie (by rw [hlnh.out]; omega) hNX.out a haXh.out
          rw [hzh.out] at cz
          go_wp2_with fail
          refine cz.mono ?_
          rintro e w7 ⟨rfl, b7⟩
          have bel7 := bstep bel6 b7
          have hl7 := hl6.below b7
          clear cz b7 bel6 hl6
          go_wp2_with fail
          go_roundw
          case rel => exact ⟨j + 1, f, by go_num, rfl, hin2, bel7, hl7⟩
          case measure => simp [intOf]; exact hmes.out
    · have hkd : decide ((k : Int) < (ln : Int)) = false := decide_eq_false (by omega)
      go_wp2_with fail
      refine cl.mono ?_
      rintro e w3 ⟨rfl, hw⟩
      rw [hw]
      clear cl hw w3
      go_wp2_with fail
      go_ret
      exact ⟨rfl, belr⟩
end Go.Proofs.Ytdeeeechdlcdbaa.LeW
