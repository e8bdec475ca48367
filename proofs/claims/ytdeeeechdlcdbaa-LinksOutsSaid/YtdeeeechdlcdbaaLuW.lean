/- The walk of LinksOuts. -/
import Derived.Shelf.SlSortCmp.QuietGrown
import Derived.Test.YtdeeeechdlcdbaaLkX
import Derived.Test.YtdeeeechdlcdbaaPhW
import Derived.IntWalk
import Derived.Deep.QuietTactic
import Derived.BigQuiet
set_option linter.unusedVariables false
set_option linter.unusedSimpArgs false
namespace Go.Proofs.Ytdeeeechdlcdbaa.LuW
open Go Go.RowKit Go.Sort Go.Proofs Go.Proofs.Ytdeeeechdlcdbaa Go.Proofs.Ytdeeeechdlcdbaa.Base Go.Proofs.Ytdeeeechdlcdbaa.DiA Go.Proofs.Ytdeeeechdlcdbaa.DiB Go.Proofs.Ytdeeeechdlcdbaa.DiC Go.Proofs.Ytdeeeechdlcdbaa.TrP Go.Proofs.Ytdeeeechdlcdbaa.TrM Go.Proofs.Ytdeeeechdlcdbaa.TrA Go.Proofs.Ytdeeeechdlcdbaa.TrD Go.Proofs.Ytdeeeechdlcdbaa.TrE Go.Proofs.Ytdeeeechdlcdbaa.TtP Go.Proofs.Ytdeeeechdlcdbaa.TcP Go.Proofs.Ytdeeeechdlcdbaa.TwA Go.Proofs.Ytdeeeechdlcdbaa.LkA Go.Proofs.Ytdeeeechdlcdbaa.LkP Go.Proofs.Ytdeeeechdlcdbaa.LkM Go.Proofs.Ytdeeeechdlcdbaa.LkO Go.Proofs.Ytdeeeechdlcdbaa.LkQ Go.Proofs.Ytdeeeechdlcdbaa.LkN Go.Proofs.Ytdeeeechdlcdbaa.LkS Go.Proofs.Ytdeeeechdlcdbaa.LkX Go.Proofs.Ytdeeeechdlcdbaa.PhP Go.Proofs.Ytdeeeechdlcdbaa.PhW Go.Proofs.Ytdeeeechdlcdbaa.ScP
set_option maxHeartbeats 400000 in
theorem law_few (A : Option Addr) (n cap : Nat) (w : World) (hf : Calls Try.prog 23 #[.slice A n cap] w fun e w' => e = .returned (.bool false) ∧ w' = w) :
    Calls Try.prog 12 #[.slice A n cap] w fun e w' => e = .returned (.bool true) ∧ Below w.heap.size w w' := by
  go_enter Try.func12, Try.ntmps12
  go_wp2_with fail
  refine hf.mono ?_
  rintro e w1 ⟨rfl, hw⟩
  rw [hw]
  clear hf hw
  go_wp2_with fail
  refine (LkX.alive_call _).mono ?_
  rintro e w2 ⟨rfl, b2⟩
  go_wp2_with fail
  go_ret
  exact ⟨rfl, b2⟩
set_option maxRecDepth 20000 in
set_option maxHeartbeats 8000000 in
theorem law_in (A : Option Addr) (n cap : Nat) (zs : List ByteArray) (w : World) (hf : Calls Try.prog 23 #[.slice A n cap] w fun e w' => e = .returned (.bool true) ∧ w' = w)
    (hn : n = zs.length) (hat : StrsAt w A zs) (hn1 : n ≤ 110) (htot : total zs ≤ 1300) :
    Calls Try.prog 12 #[.slice A n cap] w fun e w' => e = .returned (.bool true) ∧ Below w.heap.size w w' := by
  have hnh : Hid (n = zs.length) := hn
  clear hn
  go_enter Try.func12, Try.ntmps12
  go_wp2_with fail
  refine hf.mono ?_
  rintro e w1 ⟨rfl, hw⟩
  rw [hw]
  clear hf hw w1
  go_wp2_with fail
  refine (LkX.alive_call _).mono ?_
  rintro e w1 ⟨rfl, bel⟩
  have hat1 := hat.below bel
  go_wp2_with fail
  refine (phrases_any A n cap zs w1 hnh.out hat1 (by omega)).mono ?_
  rintro e w2 ⟨hph, hw⟩
  rw [hw]
  clear hw w2
  rcases hph with ⟨hok, rfl⟩ | ⟨hok, c0, k0, hc0, rfl⟩
  rotate_left
  · have hcd : (c0 != 0) = true := by simp [hc0]
    clear hat hat1 hok
    go_wp2_with fail
    go_ret
    exact ⟨rfl, bel⟩
  go_wp2_with fail
  refine (lmake_any A n cap zs w1 hnh.out hat1 (by omega)).mono ?_
  rintro e w2 ⟨b2, ⟨hno, _⟩ | ⟨_, p, B, px, m, N, F, O, L, rfl, hl⟩⟩
  · rw [hok] at hno; cases hno
  replace bel := bstep bel b2
  have hat2 := hat1.below b2
  clear hat1 b2 hat
  have hT := tr_build hok
  have hok2 := hl.ok
  have heq := hl.eq
  have hlen := hl.len
  have hla := hl.at_
  clear hl
  obtain ⟨X, hX⟩ : ∃ X, build zs zs.length = X := ⟨_, rfl⟩
  rw [hX] at hT hok2 heq
  have hTh : Hid (Tr zs X) := hT
  have hOk : Hid (LkOk X F O L) := hok2
  have hNX : Hid (N.map (·.p) = X) := heq
  obtain ⟨ln, hln⟩ : ∃ ln, N.length = ln := ⟨_, rfl⟩
  have hln1 : ln ≤ 1301 := by omega
  have hlnh : Hid (N.length = ln) := hln
  have hXl : Hid (X.length = ln) := by show _ = _; rw [← hNX.out, List.length_map, hln]
  have hokh : Hid (okD zs = true) := hok
  clear hX hT hok2 heq hln hlen hok
  have cT := trie_any hla
  go_wp2_with fail
  refine cT.mono ?_
  rintro e w3 ⟨rfl, hw⟩
  rw [hw]
  clear hw w3
  go_wp2_with fail
  refine cT.mono ?_
  rintro e w3 ⟨rfl, hw⟩
  rw [hw]
  clear cT hw w3
  have hnl : n ≤ 100000 := by omega
  go_wp2_with fail
  go_loopw [7] (fun s wr => ∃ k : Nat, k ≤ ln ∧ s = .int .i64 k ∧ Below w.heap.size w wr ∧ LkAt B wr p px N m F O L ∧ StrsAt wr A zs) (fun s _ => ln - (intOf s).toNat)
  case atStart => exact ⟨0, Nat.zero_le _, rfl, bel, hla, hat2⟩
  case round =>
    obtain ⟨k, hk, rfl, belr, hlr, hatr⟩ := hrel
    clear hla bel hat2
    have cl := len_any hlr.trie
    rw [hlnh.out] at cl
    by_cases hlt : k < ln
    · have hkd : decide ((k : Int) < (ln : Int)) = true := decide_eq_true (by omega)
      have hkX : k < X.length := by rw [hXl.out]; exact hlt
      have hkXh : Hid (k < X.length) := hkX
      have cx := text_in hlr.trie (by rw [hlnh.out]; omega) hNX.out k hkX
      obtain ⟨s, hs⟩ : ∃ s, (X.getD k noPn).text = s := ⟨_, rfl⟩
      have hst : Hid (s.data.toList = tx X k) := by show _ = _; unfold tx; rw [hs]
      have hszh : Hid (s.size = (tx X k).length) := by show _ = _; rw [size_list, hst.out]
      have hss : s.size ≤ 40 := by rw [hszh.out]; exact hTh.out.short k hkX
      rw [hs] at cx
      clear hs hkX
      go_wp2_with fail
      refine cl.mono ?_
      rintro e w3 ⟨rfl, hw⟩
      rw [hw]
      clear cl hw w3
      go_wp2_with fail
      refine cx.mono ?_
      rintro e w3 ⟨rfl, b3⟩
      have bel3 := bstep belr b3
      have hl3 := hlr.below b3
      have hat3 := hatr.below b3
      clear cx belr hlr hatr b3
      have co := out_in hl3 (k := k) (by have := hkXh.out; have := hXl.out; have := hlnh.out; omega)
      have hot := hOk.out.ot k hkXh.out
      generalize O.getD k 0 = nd0 at co hot
      rw [← hszh.out] at hot
      have hoth : Hid (Ot X (tx X k) (s.size - 1) nd0) := hot
      clear hot
      go_wp2_with fail
      refine co.mono ?_
      rintro e w4 ⟨rfl, hw⟩
      rw [hw]
      clear co hw w4
      have zs1 : IntKind.i64.wrap ((s.size : Int) - 1) = (s.size : Int) - 1 := by rw [IntKind.wrap_i64]; omega
      go_wp2_with fail
      go_loopw [9, 10] (fun sn sv wr2 => ∃ (nd q : Nat) (v : Int), q ≤ s.size ∧ sn = .int .i64 (nd : Int) ∧ sv = .int .i64 v ∧ Hid (v = (q : Int) - 1) ∧ Hid (Ot X (tx X k) (q - 1) nd) ∧ Below w.heap.size w wr2 ∧ LkAt B wr2 p px N m F O L ∧ StrsAt wr2 A zs) (fun _ sv _ => (intOf sv + 1).toNat)
      case atStart => exact ⟨nd0, s.size, _, Nat.le_refl _, rfl, rfl, Lib.hid rfl, hoth, bel3, hl3, hat3⟩
      case round =>
        obtain ⟨nd, q, v, hqs, rfl, rfl, hv, hot, bel4, hl4, hat4⟩ := hrel
        clear bel3 hl3 hat3 hoth
        have hvq := hv.out
        by_cases hq2 : 2 ≤ q
        · obtain ⟨mm, rfl⟩ : ∃ mm, q = mm + 2 := ⟨q - 2, by omega⟩
          have hvd : decide (v ≥ 1) = true := decide_eq_true (by omega)
          obtain ⟨dd, hdd⟩ : ∃ dd, dd = s.size - (mm + 1) := ⟨_, rfl⟩
          have hsub : IntKind.i64.wrap ((s.size : Int) - v) = (dd : Int) := by rw [IntKind.wrap_i64]; omega
          have hdl : dd ≤ s.size := by omega
          have hdz : (dd : Int) ≤ (s.size : Int) := by omega
          have hv1 : IntKind.i64.wrap (v - 1) = v - 1 := by rw [IntKind.wrap_i64]; omega
          have hex : (s.extract dd s.size).data.toList = lastN (tx X k) (mm + 1) := by
            rw [ext_list, hst.out, List.take_of_length_le (by rw [List.length_drop, ← hszh.out]; omega), hdd, hszh.out]; rfl
          have hcF := find_ex A n cap zs (s.extract dd s.size) wr hnh.out hat4 hnl
          rw [hex] at hcF
          have hmm : Hid (mm + 1 ≤ (tx X k).length) := by show _ ≤ _; rw [← hszh.out]; omega
          have hot1 : Hid (Ot X (tx X k) (mm + 1) nd) := hot
          have hvh : Hid (v - 1 = ((mm + 1 : Nat) : Int) - 1) := by show _ = _; omega
          have hq1 : Hid (mm + 1 ≤ s.size) := by show _ ≤ _; omega
          have hvm : Hid (v = (mm : Int) + 1) := by show _ = _; omega
          clear hex hvq hq2 hqs hv hot hdd
          cases hf : findL zs (lastN (tx X k) (mm + 1)) with
          | none =>
            have hr : findI zs (lastN (tx X k) (mm + 1)) = -1 := by unfold findI; rw [hf]
            rw [hr] at hcF
            have hot2 : Hid (Ot X (tx X k) (mm + 1 - 1) nd) := ot_no hTh.out hot1.out hf
            clear hf hr
            go_wp2_with fail
            refine hcF.mono ?_
            rintro e w5 ⟨rfl, hw⟩
            rw [hw]
            clear hcF hw w5
            go_wp2_with fail
            go_roundw
            case rel => exact ⟨nd, mm + 1, v - 1, hq1.out, rfl, by go_num, hvh, hot2, bel4, hl4, hat4⟩
            case measure => have := hvm.out; simp [intOf]; omega
          | some kk =>
            have hr : findI zs (lastN (tx X k) (mm + 1)) = (kk : Int) := by unfold findI; rw [hf]
            rw [hr] at hcF
            obtain ⟨hnd0, htx, hwd⟩ := ot_yes hTh.out hmm.out hot1.out hf
            obtain ⟨hkl, hkt⟩ := findL_some hf
            have hndl := hot1.out.lt
            have hndd : ((nd : Int) == 0) = false := by simp; omega
            have hkki : (kk : Int) < (n : Int) := by rw [hnh.out]; omega
            have hkd2 : decide ((kk : Int) < 0) = false := decide_eq_false (by omega)
            have hye : zs.getD kk ByteArray.empty = (X.getD nd noPn).text := data_inj (by rw [hkt, ← htx]; rfl)
            have hot2 : Hid (∀ o', Ot X (tx X nd) ((tx X nd).length - 1) o' → Ot X (tx X k) (mm + 1 - 1) o') := fun o' ho' => by
              have hl := lastN_length hmm.out
              have h2 := Ot.up ho' (show tx X nd <:+ tx X k by rw [htx]; exact lastN_suf _ _) (by omega)
              rw [htx, hl] at h2
              exact h2
            obtain ⟨b, off, rfl, hblt, hc⟩ := hat4 (by omega)
            have hcell := hc kk hkl
            rw [hye] at hcell
            have hNl : N.length ≤ 1000000 := by rw [hlnh.out]; omega
            have hbg : ∀ nn oss, Below wr.heap.size wr (grow (wr.drewN nn) oss) := fun nn oss => Gr.below ⟨nn, oss, rfl⟩
            have cW : ∀ nn oss, Calls Try.prog 32 #[.pointer (some ⟨px, 0, none⟩), .int .i64 (nd : Int)] (grow (wr.drewN nn) oss) fun e w' => e = .returned (.int .i64 (kk : Int)) ∧ ∃ q os', w' = grow ((grow (wr.drewN nn) oss).drewN q) os' := fun nn oss => by
              have := word_gr (hl4.trie.below (hbg nn oss)) hNl nd
              rw [hNX.out, hwd] at this; exact this
            have cX : ∀ nn oss, Calls Try.prog 34 #[.pointer (some ⟨px, 0, none⟩), .int .i64 (nd : Int)] (grow (wr.drewN nn) oss) fun e w' => e = .returned (.string (X.getD nd noPn).text) ∧ ∃ q os', w' = grow ((grow (wr.drewN nn) oss).drewN q) os' := fun nn oss => by
              have := text_gr (hl4.trie.below (hbg nn oss)) hNl nd
              rw [hNX.out] at this; exact this
            have hcg := fun nn oss => cell_grown (w := wr) (a := ⟨b, off + kk, none⟩) hblt hcell nn oss
            have hndh : Hid (nd < X.length) := hndl
            generalize (X.getD nd noPn).text = y at hcell cX hcg hye
            clear hf hr htx hwd hkl hkt hndl hye hc hcell hot1 hnd0
            have mixed : Try.prog.follows .mixedOrders = true := by kernel_rfl
            go_wp2_with fail
            refine hcF.mono ?_
            rintro e w5 ⟨rfl, hw⟩
            rw [hw]
            clear hcF hw w5
            go_wp2_with fail
            go_quiet_grown (first | exact Calls.grown_of (cW _ _) | exact Calls.grown_of (cX _ _))
            have bg := hbg nq osq
            have bel5 := bstep bel4 bg
            have hl5 := hl4.below bg
            have hat5 := hat4.below bg
            clear cW cX hcg hbg bg bel4 hl4 hat4
            generalize grow (wr.drewN nq) osq = w5 at bel5 hl5 hat5 ⊢
            clear nq osq
            have co := out_in hl5 (k := nd) (by have := hndh.out; have := hXl.out; have := hlnh.out; omega)
            have ho := hot2.out _ (hOk.out.ot nd hndh.out)
            generalize O.getD nd 0 = o at co ho
            have hoh : Hid (Ot X (tx X k) (mm + 1 - 1) o) := ho
            clear ho hot2
            go_wp2_with fail
            refine co.mono ?_
            rintro e w6 ⟨rfl, hw⟩
            rw [hw]
            clear co hw w6
            go_wp2_with fail
            go_roundw
            case rel => exact ⟨o, mm + 1, v - 1, hq1.out, rfl, by go_num, hvh, hoh, bel5, hl5, hat5⟩
            case measure => have := hvm.out; simp [intOf]; omega
        · have hvd : decide (v ≥ 1) = false := decide_eq_false (by omega)
          have hz : nd = 0 := by
            have h := hot.out
            rw [show q - 1 = 0 by omega] at h
            exact ot_zero hTh.out h
          subst hz
          have z1 : IntKind.i64.wrap ((k : Int) + 1) = (k : Int) + 1 := by rw [IntKind.wrap_i64]; omega
          clear hvq hq2 hot hv
          go_wp2_with fail
          go_roundw
          case rel => exact ⟨k + 1, by omega, by go_num, bel4, hl4, hat4⟩
          case measure => simp [intOf]; omega
    · have hkd : decide ((k : Int) < (ln : Int)) = false := decide_eq_false (by omega)
      go_wp2_with fail
      refine cl.mono ?_
      rintro e w3 ⟨rfl, hw⟩
      rw [hw]
      clear cl hw w3
      go_wp2_with fail
      go_ret
      exact ⟨rfl, belr⟩
end Go.Proofs.Ytdeeeechdlcdbaa.LuW
