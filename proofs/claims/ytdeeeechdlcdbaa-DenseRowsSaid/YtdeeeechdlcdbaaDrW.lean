/- The walk of DenseRows. -/
import Derived.Test.YtdeeeechdlcdbaaDnV
import Derived.Test.YtdeeeechdlcdbaaSeB
import Derived.Test.YtdeeeechdlcdbaaSeM
import Derived.Test.YtdeeeechdlcdbaaRegQ
import Derived.Test.YtdeeeechdlcdbaaPhW
import Derived.IntWalk
import Derived.Deep.QuietTactic
import Derived.BigQuiet
set_option linter.unusedVariables false
set_option linter.unusedSimpArgs false
namespace Go.Proofs.Ytdeeeechdlcdbaa.DrW
open Go Go.RowKit Go.Proofs Go.Proofs.Ytdeeeechdlcdbaa Go.Proofs.Ytdeeeechdlcdbaa.Base Go.Proofs.Ytdeeeechdlcdbaa.DiA Go.Proofs.Ytdeeeechdlcdbaa.DiB Go.Proofs.Ytdeeeechdlcdbaa.DiC Go.Proofs.Ytdeeeechdlcdbaa.TrP Go.Proofs.Ytdeeeechdlcdbaa.TrM Go.Proofs.Ytdeeeechdlcdbaa.TrA Go.Proofs.Ytdeeeechdlcdbaa.TrD Go.Proofs.Ytdeeeechdlcdbaa.TrE Go.Proofs.Ytdeeeechdlcdbaa.TtP Go.Proofs.Ytdeeeechdlcdbaa.TcP Go.Proofs.Ytdeeeechdlcdbaa.TwA Go.Proofs.Ytdeeeechdlcdbaa.LkA Go.Proofs.Ytdeeeechdlcdbaa.LkP Go.Proofs.Ytdeeeechdlcdbaa.LkM Go.Proofs.Ytdeeeechdlcdbaa.LkO Go.Proofs.Ytdeeeechdlcdbaa.LkQ Go.Proofs.Ytdeeeechdlcdbaa.LkN Go.Proofs.Ytdeeeechdlcdbaa.LkS Go.Proofs.Ytdeeeechdlcdbaa.LkX Go.Proofs.Ytdeeeechdlcdbaa.PhP Go.Proofs.Ytdeeeechdlcdbaa.PhW Go.Proofs.Ytdeeeechdlcdbaa.ScP Go.Proofs.Ytdeeeechdlcdbaa.ScS Go.Proofs.Ytdeeeechdlcdbaa.ScH Go.Proofs.Ytdeeeechdlcdbaa.ScF Go.Proofs.Ytdeeeechdlcdbaa.ScE Go.Proofs.Ytdeeeechdlcdbaa.ScX Go.Proofs.Ytdeeeechdlcdbaa.RwA Go.Proofs.Ytdeeeechdlcdbaa.DnP Go.Proofs.Ytdeeeechdlcdbaa.DnM Go.Proofs.Ytdeeeechdlcdbaa.DnS Go.Maps Go.Lib
set_option maxHeartbeats 400000 in
theorem law_few (A : Option Addr) (n cap : Nat) (k0 : Int) (w : World) (hf : Calls Try.prog 23 #[.slice A n cap] w fun e w' => e = .returned (.bool false) ∧ w' = w) :
    Calls Try.prog 13 #[.slice A n cap, .int .i64 k0] w fun e w' => e = .returned (.bool true) ∧ Below w.heap.size w w' := by
  go_enter Try.func13, Try.ntmps13
  go_wp2_with fail
  refine hf.mono ?_
  rintro e w1 ⟨rfl, hw⟩
  rw [hw]
  clear hf hw
  go_wp2_with fail
  refine (DnV.alive_call _).mono ?_
  rintro e w2 ⟨rfl, b2⟩
  go_wp2_with fail
  go_ret
  exact ⟨rfl, b2⟩
set_option maxHeartbeats 400000 in
theorem law_out0 (A : Option Addr) (n cap : Nat) (k0 : Int) (w : World) (hf : Calls Try.prog 23 #[.slice A n cap] w fun e w' => e = .returned (.bool true) ∧ w' = w) (hd0 : decide ((n : Int) > 30) = true) :
    Calls Try.prog 13 #[.slice A n cap, .int .i64 k0] w fun e w' => e = .returned (.bool true) ∧ Below w.heap.size w w' := by
  go_enter Try.func13, Try.ntmps13
  go_wp2_with fail
  refine hf.mono ?_
  rintro e w1 ⟨rfl, hw⟩
  rw [hw]
  clear hf hw
  go_wp2_with fail
  refine (DnV.alive_call _).mono ?_
  rintro e w2 ⟨rfl, b2⟩
  go_wp2_with fail
  go_ret
  exact ⟨rfl, b2⟩
set_option maxRecDepth 20000 in
set_option maxHeartbeats 8000000 in
theorem law_in (A : Option Addr) (n cap : Nat) (zs : List ByteArray) (k0 : Int) (w : World) (hf : Calls Try.prog 23 #[.slice A n cap] w fun e w' => e = .returned (.bool true) ∧ w' = w)
    (hn : n = zs.length) (hat : StrsAt w A zs) (hn1 : n ≤ 110) (htot : total zs ≤ 1300) (hd0 : decide ((n : Int) > 30) = false) :
    Calls Try.prog 13 #[.slice A n cap, .int .i64 k0] w fun e w' => e = .returned (.bool true) ∧ Below w.heap.size w w' := by
  have hnh : Hid (n = zs.length) := hn
  clear hn
  go_enter Try.func13, Try.ntmps13
  go_wp2_with fail
  refine hf.mono ?_
  rintro e w1 ⟨rfl, hw⟩
  rw [hw]
  clear hf hw w1
  go_wp2_with fail
  refine (DnV.alive_call _).mono ?_
  rintro e w1 ⟨rfl, bel⟩
  have hat1 := hat.below bel
  go_wp2_with fail
  refine (phrases_any A n cap zs w1 hnh.out hat1 (by omega)).mono ?_
  rintro e w2 ⟨hph, hw⟩
  rw [hw]
  clear hw w2
  rcases hph with ⟨hok, rfl⟩ | ⟨hok, c0, k0, hc0, rfl⟩
  rotate_left
  · have hcd : (c0 != 0) = true := by simp [hc0]
    clear hat hat1 hok
    go_wp2_with fail
    go_ret
    exact ⟨rfl, bel⟩
  go_wp2_with fail
  refine (lmake_any A n cap zs w1 hnh.out hat1 (by omega)).mono ?_
  rintro e w2 ⟨b2, ⟨hno, _⟩ | ⟨_, p, B, px, m, N, F, O, L, rfl, hl⟩⟩
  · rw [hok] at hno; cases hno
  replace bel := bstep bel b2
  have hat2 := hat1.below b2
  clear hat1 b2 hat
  have hT := tr_build hok
  have hok2 := hl.ok
  have heq := hl.eq
  have hlen := hl.len
  have hla := hl.at_
  clear hl
  obtain ⟨X, hX⟩ : ∃ X, build zs zs.length = X := ⟨_, rfl⟩
  rw [hX] at hT hok2 heq
  have hXb : Hid (build zs zs.length = X) := hX
  have hTh : Hid (Tr zs X) := hT
  have hOk : Hid (LkOk X F O L) := hok2
  have hNX : Hid (N.map (·.p) = X) := heq
  obtain ⟨ln, hln⟩ : ∃ ln, N.length = ln := ⟨_, rfl⟩
  have hln1 : ln ≤ 1301 := by omega
  have hlnh : Hid (N.length = ln) := hln
  have hXl : Hid (X.length = ln) := by show _ = _; rw [← hNX.out, List.length_map, hln]
  have hokh : Hid (okD zs = true) := hok
  clear hX hT hok2 heq hln hlen hok
  have hlx : Hid (Lx w2 p zs X) := Lib.hid ⟨⟨B, px, m, N, F, O, L, hla, hNX.out, hOk.out, by have := hlnh.out; omega⟩, hTh.out⟩
  have hlah : Hid (LkAt B w2 p px N m F O L) := hla
  clear hla
  have cN := DnW.new_any hlx.out (Below.refl _ w2)
  clear hd0
  go_wp2_with fail
  refine cN.mono ?_
  rintro e w3 ⟨b3, t, g, B3, R, rfl, _, hDn, hTab⟩
  replace bel := bstep bel b3
  have hRl : R.length = ln := hTab.1.trans hXl.out
  have hRlh : Hid (R.length = ln) := hRl
  have hTabh : Hid (TabOk X R) := hTab
  have hDnh : Hid (DnAt B3 w3 t p g R) := hDn
  have hln0 : 0 < ln := by rw [← hXl.out]; exact hTh.out.good.pos
  have cT := trie_any (hlah.out.below b3)
  have cl := len_call hDn
  have clq : ∀ q, Calls Try.prog 51 #[.pointer (some ⟨t, 0, none⟩)] (w3.drewN q) fun e w' => e = .returned (.int .i64 (ln : Int)) ∧ w' = w3.drewN q := fun q => by
    have := len_call (hDn.below (drewN_below (n := q) (Below.refl _ w3)))
    rw [hRl] at this; exact this
  rw [hRl] at cl
  have hlk3 : Hid (LkAt B w3 p px N m F O L) := hlah.out.below b3
  have e1 : decide ((ln : Int) < 1) = false := decide_eq_false (by omega)
  have e1' : decide (ln < 1) = false := decide_eq_false (by omega)
  clear cN hDn hTab hRl b3
  go_wp2_with fail
  refine cT.mono ?_
  rintro e w9 ⟨rfl, hw⟩
  rw [hw]
  clear hw w9 cT
  go_wp2_with fail
  refine cl.mono ?_
  rintro e w9 ⟨rfl, hw⟩
  rw [hw]
  clear hw w9 cl
  obtain ⟨q1, hq1⟩ : ∃ q1, Int.tmod k0 (ln : Int) = q1 := ⟨_, rfl⟩
  have hqa := Int.lt_tmod_of_pos k0 (show (0 : Int) < (ln : Int) by omega)
  have hqb := Int.tmod_lt_of_pos k0 (show (0 : Int) < (ln : Int) by omega)
  rw [hq1] at hqa hqb
  obtain ⟨s1, hs1⟩ : ∃ s1, q1 + (ln : Int) = s1 := ⟨_, rfl⟩
  have zs1 : IntKind.i64.wrap (q1 + (ln : Int)) = s1 := by rw [IntKind.wrap_i64]; omega
  obtain ⟨r, hr⟩ : ∃ r : Nat, Int.tmod s1 (ln : Int) = (r : Int) := by
    have h1 := Int.tmod_nonneg (b := (ln : Int)) (show 0 ≤ s1 by omega)
    exact ⟨(Int.tmod s1 (ln : Int)).toNat, by omega⟩
  have hrl : r < ln := by
    have := Int.tmod_lt_of_pos s1 (show (0 : Int) < (ln : Int) by omega)
    omega
  have hlnz : ((ln : Int) == 0) = false := by simp; omega
  have hlnz2 : ¬ (ln : Int) = 0 := by omega
  have hlnz3 : ¬ ln = 0 := by omega
  clear hqa hqb hs1 hln0
  go_wp2_with fail
  refine RegQ.wp_region_vals [some 52, some 53, some 54, some 55, some 56, some 57, some 58, some 59, some 60, some 61, some 9] [[], [], [1], [0, 2], [], [4, 2], [3, 5], [], [7, 5], [6, 8], [9, 8, 0, 1, 2, 3, 4, 5, 6, 7, 8, 9]] (fun iq => ([.int .i64 k0, .pointer (some ⟨t, 0, none⟩), .int .i64 (ln : Int), .int .i64 q1, .pointer (some ⟨t, 0, none⟩), .int .i64 (ln : Int), .int .i64 s1, .pointer (some ⟨t, 0, none⟩), .int .i64 (ln : Int), .int .i64 (r : Int), .int .i64 (r : Int)] : List Value).getD iq undef) [0, 1, 2, 3, 4, 5, 6, 7, 8, 9, 10] 132 rfl rfl (by kernel_rfl) (by kernel_rfl) (by kernel_rfl) (by kernel_rfl) (by kernel_rfl) (fun hsz hon => ⟨?_, ?_, ?_, ?_, ?_, ?_, ?_, ?_, ?_, ?_, ?_, trivial⟩) ?_
  · refine RegQ.step_in (by kernel_rfl) ?_
    intro A hA W hW
    obtain ⟨qn, rfl⟩ := hW
    have r1 : A.tmps[1]?.getD undef = .int .i64 k0 := RegQ.outG hA (by kernel_rfl) rfl
    clear hA
    unfold Oper.quietAt
    go_simp
  · refine RegQ.step_in (by kernel_rfl) ?_
    intro A hA W hW
    obtain ⟨qn, rfl⟩ := hW
    have r8 : A.tmps[8]?.getD undef = .pointer (some ⟨t, 0, none⟩) := RegQ.outG hA (by kernel_rfl) rfl
    clear hA
    unfold Oper.quietAt
    go_simp
  · refine RegQ.step_in (by kernel_rfl) ?_
    intro A hA W hW
    obtain ⟨qn, rfl⟩ := hW
    have r53 : A.tmps[53]?.getD undef = .pointer (some ⟨t, 0, none⟩) := RegQ.inG (j := 1) hA hsz rfl (by kernel_rfl) (by decide) rfl
    clear hA
    unfold Oper.quietAt
    go_simp
    exact RegQ.of_same (clq _)
  · refine RegQ.step_in (by kernel_rfl) ?_
    intro A hA W hW
    obtain ⟨qn, rfl⟩ := hW
    have r52 : A.tmps[52]?.getD undef = .int .i64 k0 := RegQ.inG (j := 0) hA hsz rfl (by kernel_rfl) (by decide) rfl
    have r54 : A.tmps[54]?.getD undef = .int .i64 (ln : Int) := RegQ.inG (j := 2) hA hsz rfl (by kernel_rfl) (by decide) rfl
    clear hA
    unfold Oper.quietAt
    go_simp
  · refine RegQ.step_in (by kernel_rfl) ?_
    intro A hA W hW
    obtain ⟨qn, rfl⟩ := hW
    have r8 : A.tmps[8]?.getD undef = .pointer (some ⟨t, 0, none⟩) := RegQ.outG hA (by kernel_rfl) rfl
    clear hA
    unfold Oper.quietAt
    go_simp
  · refine RegQ.step_in (by kernel_rfl) ?_
    intro A hA W hW
    obtain ⟨qn, rfl⟩ := hW
    have r56 : A.tmps[56]?.getD undef = .pointer (some ⟨t, 0, none⟩) := RegQ.inG (j := 4) hA hsz rfl (by kernel_rfl) (by decide) rfl
    clear hA
    unfold Oper.quietAt
    go_simp
    exact RegQ.of_same (clq _)
  · refine RegQ.step_in (by kernel_rfl) ?_
    intro A hA W hW
    obtain ⟨qn, rfl⟩ := hW
    have r55 : A.tmps[55]?.getD undef = .int .i64 q1 := RegQ.inG (j := 3) hA hsz rfl (by kernel_rfl) (by decide) rfl
    have r57 : A.tmps[57]?.getD undef = .int .i64 (ln : Int) := RegQ.inG (j := 5) hA hsz rfl (by kernel_rfl) (by decide) rfl
    clear hA
    unfold Oper.quietAt
    go_simp
  · refine RegQ.step_in (by kernel_rfl) ?_
    intro A hA W hW
    obtain ⟨qn, rfl⟩ := hW
    have r8 : A.tmps[8]?.getD undef = .pointer (some ⟨t, 0, none⟩) := RegQ.outG hA (by kernel_rfl) rfl
    clear hA
    unfold Oper.quietAt
    go_simp
  · refine RegQ.step_in (by kernel_rfl) ?_
    intro A hA W hW
    obtain ⟨qn, rfl⟩ := hW
    have r59 : A.tmps[59]?.getD undef = .pointer (some ⟨t, 0, none⟩) := RegQ.inG (j := 7) hA hsz rfl (by kernel_rfl) (by decide) rfl
    clear hA
    unfold Oper.quietAt
    go_simp
    exact RegQ.of_same (clq _)
  · refine RegQ.step_in (by kernel_rfl) ?_
    intro A hA W hW
    obtain ⟨qn, rfl⟩ := hW
    have r58 : A.tmps[58]?.getD undef = .int .i64 s1 := RegQ.inG (j := 6) hA hsz rfl (by kernel_rfl) (by decide) rfl
    have r60 : A.tmps[60]?.getD undef = .int .i64 (ln : Int) := RegQ.inG (j := 8) hA hsz rfl (by kernel_rfl) (by decide) rfl
    clear hA
    unfold Oper.quietAt
    go_simp
  · refine RegQ.step_in (by kernel_rfl) ?_
    intro A hA W hW
    obtain ⟨qn, rfl⟩ := hW
    have r61 : A.tmps[61]?.getD undef = .int .i64 (r : Int) := RegQ.inG (j := 9) hA hsz rfl (by kernel_rfl) (by decide) rfl
    clear hA
    unfold Oper.quietAt
    go_simp
  · intro qn
    simp only [Reg.putS, List.foldl, List.getD_cons_zero, List.getD_cons_succ, Act.put, List.setIfInBounds_toArray, List.set_cons_zero, List.set_cons_succ]
    have b4 := drewN_below (n := qn) (Below.refl w3.heap.size w3)
    have hDn4 := hDnh.out.below b4
    have hlk4 : Hid (LkAt B (w3.drewN qn) p px N m F O L) := hlk3.out.below b4
    replace bel := bstep bel b4
    clear clq b4 hq1 zs1 hr hlnz hlnz2 hlnz3
    generalize w3.drewN qn = w4 at hDn4 hlk4 bel ⊢
    have c1 := row_in hDn4 (k := r) (by rw [hRlh.out]; exact hrl)
    go_wp2_with fail
    refine c1.mono ?_
    rintro e w5 ⟨v, rfl, hr5, b5⟩
    obtain ⟨_, V, cr, rfl, hc5⟩ := ints_form hr5
    obtain ⟨rb, rfl, hcr⟩ := hc5 (by decide)
    have hDn5 := hDn4.below b5
    have c2 := row_in hDn5 (k := 0) (by rw [hRlh.out]; omega)
    clear c1 hr5 hc5
    go_wp2_with fail
    refine c2.mono ?_
    rintro e w6 ⟨v, rfl, hr6, b6⟩
    obtain ⟨_, V, cz, rfl, hc6⟩ := ints_form hr6
    obtain ⟨rz, rfl, hcz⟩ := hc6 (by decide)
    have hDn6 := hDn5.below b6
    have hcr6 : Hid (∀ j, j < 256 → w6.cell? ⟨rb, j, none⟩ = some (encN ((R.getD r []).getD j 0))) := fun j hj => pw_cell_below b6 (hcr j hj)
    have hcz6 : Hid (∀ j, j < 256 → w6.cell? ⟨rz, j, none⟩ = some (encN ((R.getD 0 []).getD j 0))) := hcz
    have bel6 := bstep (bstep bel b5) b6
    have hlk6 : Hid (LkAt B w6 p px N m F O L) := (hlk4.out.below b5).below b6
    clear c2 hr6 hc6 hcr hcz hDn4 hDn5 hlk4 b5 b6 bel
    have hmm := @run_makeMap Try.prog
    have hS := SeB.SetAt.made w6
    obtain ⟨w7, hw7⟩ : ∃ w7, w7 = w6.alloc (.map #[] 0) := ⟨_, rfl⟩
    obtain ⟨bm, hbm⟩ : ∃ bm, bm = w6.heap.size := ⟨_, rfl⟩
    have hbmh : Hid (bm = w6.heap.size) := hbm
    have b67 : Below w6.heap.size w6 w7 := by rw [hw7]; exact balloc (Below.refl _ _) _
    have hbm7 : bm < w7.heap.size := by rw [hw7, hbm]; simp
    have c3 := sparse_in (hDn6.below b67) (k := r) (by rw [hRlh.out]; exact hrl)
    rw [← hw7, ← hbm] at hS
    go_wp2_with fail
    rw [← hw7, ← hbm]
    clear hw7 hbm hmm
    refine c3.mono ?_
    rintro e w8 ⟨v, rfl, hrs, b8⟩
    obtain ⟨Vs, cs, rfl, _⟩ := own_form hrs
    obtain ⟨SL, hSL⟩ : ∃ SL, sparL R r = SL := ⟨_, rfl⟩
    have hSLm : Hid (∀ c, c ∈ SL ↔ c < 256 ∧ (R.getD r []).getD c 0 ≠ (R.getD 0 []).getD c 0) := fun c => by rw [← hSL]; exact mem_sparL
    have hSLn : Hid SL.Nodup := by show SL.Nodup; rw [← hSL]; exact spar_nodup R r
    have hSLr : Hid (r = 0 → SL = []) := fun h => by rw [← hSL, h]; exact spar_zero R
    obtain ⟨sl, hsl⟩ : ∃ sl, SL.length = sl := ⟨_, rfl⟩
    have hslh : Hid (SL.length = sl) := hsl
    have hsl256 : sl ≤ 256 := by rw [← hsl, ← hSL]; exact sparU_len R r 256
    rw [hSL, hsl] at hrs
    rw [hSL, hsl]
    have hS8 : SeB.SetAt w8 bm (SL.take 0) := by rw [List.take_zero]; exact hS.below b8
    have b68 := b67.trans (b8.mono b67.size)
    have hrs8 : Hid (w8.ownsRow w7.heap.size 5 1 (.slice Vs sl cs) sl (SL.map encB)) := hrs
    clear c3 hS hSL hsl hrs b8 b67 hDn6
    go_wp2_with fail
    go_loopw [72] (fun s wr => ∃ u : Nat, u ≤ sl ∧ s = .int .i64 (u : Int) ∧ SeB.SetAt wr bm (SL.take u) ∧ Below w6.heap.size w6 wr ∧ wr.ownsRow w7.heap.size 5 1 (.slice Vs sl cs) sl (SL.map encB)) (fun s _ => sl - (intOf s).toNat)
    case atStart => exact ⟨0, Nat.zero_le _, rfl, hS8, b68, hrs8.out⟩
    case round =>
      obtain ⟨u, hu, rfl, hSr, br, hrr⟩ := hrel
      clear hS8 hrs8 b68
      by_cases hlt : u < sl
      · have hud : decide ((u : Int) < (sl : Int)) = true := decide_eq_true (by omega)
        have hui : (u : Int) < (sl : Int) := by omega
        obtain ⟨V2, cp2, hv2, hc2⟩ := own_form hrr
        injection hv2 with e1 e2 e3
        subst e1
        subst e3
        clear e2
        obtain ⟨gs, rfl, _, hcell⟩ := hc2 (by omega)
        have huL : u < SL.length := by rw [hslh.out]; exact hlt
        have hc1 := hcell u (.int .u8 (SL.getD u 0 : Nat)) (by rw [List.getElem?_map, List.getElem?_eq_getElem huL, List.getD_eq_getElem?_getD, List.getElem?_eq_getElem huL]; rfl)
        have hm : SL.getD u 0 ∈ SL := by rw [List.getD_eq_getElem?_getD, List.getElem?_eq_getElem huL]; exact List.getElem_mem huL
        have h256 := ((hSLm.out _).1 hm).1
        have hnew : SL.getD u 0 ∉ SL.take u := by
          intro hmt
          obtain ⟨j, hj, he⟩ := List.mem_take_iff_getElem.1 hmt
          have h1 := List.pairwise_iff_getElem.1 hSLn.out j u (by omega) huL (by omega)
          rw [List.getD_eq_getElem?_getD, List.getElem?_eq_getElem huL] at he
          exact h1 he
        have htk : Hid (SL.take (u + 1) = SL.take u ++ [SL.getD u 0]) := take_getD SL 0 huL
        generalize SL.getD u 0 = c at hc1 h256 hnew htk
        obtain ⟨w9, hrun, hS9, hg9⟩ := hSr.put (by omega) hnew (by rw [List.length_take, hslh.out]; unfold maxLen; omega)
        have hr9 := SeM.own_grown hrr hg9 hbm7
        have b9 := br.grown hg9 br.size (fun q hq => by injection hq with hq; have := hbmh.out; omega)
        rw [← htk.out] at hS9
        have z1 : IntKind.i64.wrap ((u : Int) + 1) = (u : Int) + 1 := by rw [IntKind.wrap_i64]; omega
        clear hc2 hcell hm h256 hnew htk hSr hg9 hrr br huL
        go_wp2_with fail
        go_roundw
        case rel => exact ⟨u + 1, hlt, by go_num, hS9, b9, hr9⟩
        case measure => simp [intOf]; omega
      · have hud : decide ((u : Int) < (sl : Int)) = false := decide_eq_false (by omega)
        have hui : ¬ (u : Int) < (sl : Int) := by omega
        have hSf : SeB.SetAt wr bm SL := by
          have e : SL.take u = SL := List.take_of_length_le (by rw [hslh.out]; omega)
          rw [e] at hSr; exact hSr
        have brh : Hid (Below w6.heap.size w6 wr) := br
        have hSfh : Hid (SeB.SetAt wr bm SL) := hSf
        clear hSr hrr br hSf
        go_wp2_with fail
        go_loopw [15] (fun s wr2 => ∃ c : Nat, c ≤ 256 ∧ s = .int .i64 (c : Int) ∧ Below w6.heap.size w6 wr2 ∧ SeB.SetAt wr2 bm SL) (fun s _ => 256 - (intOf s).toNat)
        case atStart => exact ⟨0, by omega, rfl, brh.out, hSfh.out⟩
        case round =>
          clear brh hSfh
          obtain ⟨c, hc, rfl, br, hSr⟩ := hrel
          by_cases hlt : c < 256
          · have hcd : decide ((c : Int) < 256) = true := decide_eq_true (by omega)
            have hci : (c : Int) < 256 := by omega
            have zc : IntKind.u8.wrap (c : Int) = (c : Int) := by rw [IntKind.wrap_u8]; omega
            have z1 : IntKind.i64.wrap ((c : Int) + 1) = (c : Int) + 1 := by rw [IntKind.wrap_i64]; omega
            have hlkr := hlk6.out.below br
            have cT := trie_any hlkr
            have hrX : r < X.length := by rw [hXl.out]; exact hrl
            have hmem := hSLm.out c
            have hx : ∃ x y : Nat, ∃ d1 : Bool, (R.getD r []).getD c 0 = x ∧ (R.getD 0 []).getD c 0 = y ∧ ((x : Int) != (y : Int)) = d1 ∧ decide (c ∈ SL) = d1 := by
              refine ⟨_, _, _, rfl, rfl, rfl, ?_⟩
              by_cases h : (R.getD r []).getD c 0 = (R.getD 0 []).getD c 0
              · rw [h, decide_eq_false (fun hm => ((hSLm.out c).1 hm).2 h)]; simp
              · rw [decide_eq_true ((hSLm.out c).2 ⟨hlt, h⟩)]; exact (bne_iff_ne.2 fun e => h (Int.ofNat_inj.1 e)).symm
            obtain ⟨x, y, d1, hxe, hye, he, hin⟩ := hx
            have l1 := pw_cell_below br (hcr6.out c hlt)
            have l2 := pw_cell_below br (hcz6.out c hlt)
            rw [hxe] at l1
            rw [hye] at l2
            unfold encN at l1 l2
            have hgo := (hTabh.out.2 r hrX).goes c (by omega)
            rw [hxe] at hgo
            cases hsn : (X.getD r noPn).sons (c : Int) with
            | some x2 =>
              have hx2 : x2 = x := Lg.one hTh.out.fine (lg_son hTh.out.good hrX hsn).2.2 hgo
              subst hx2
              have cN := next_some hlkr.trie (by rw [hlnh.out]; omega) hNX.out hrX (show (0 : Int) ≤ (c : Int) ∧ (c : Int) ≤ 255 by omega) hsn
              have exx : ((x2 : Int) != (x2 : Int)) = false := by simp
              clear hmem hxe hye hgo hsn hlkr
              go_wp2_with fail
              refine cT.mono ?_
              rintro e w8 ⟨rfl, hw⟩
              rw [hw]
              clear cT hw w8
              go_wp2_with fail
              refine cN.mono ?_
              rintro e w8 ⟨rfl, b8⟩
              have b8r := br.trans (b8.mono br.size)
              have hS8 := hSr.below b8
              have hlk := fun qk => (hS8.below (drewN_below (n := qk) (Below.refl w8.heap.size w8))).look (c := c) (by omega)
              rw [hin] at hlk
              replace l1 := pw_cell_below b8 l1
              replace l2 := pw_cell_below b8 l2
              clear cN b8 br hSr hin
              go_wp2_with fail
              refine RegQ.wp_region_vals [some 100, some 101, some 102, some 103, some 104, some 105, some 106, some 107, some 108, some 109, some 110, some 111, some 112, some 113, some 114, some 115, some 116, some 117, some 118, some 119, some 120, some 121, some 122, some 123, some 124] [[], [], [0, 1], [2], [], [], [4, 5], [6], [3, 7], [], [], [10], [9, 11], [8, 12], [13], [14], [15, 14, 14], [16], [16], [17, 18, 16], [19, 16], [16], [20, 21, 16], [16, 22, 14], [14, 23]] (fun iq => ([.slice (some ⟨rb, 0, none⟩) 256 cr, .int .i64 (c : Int), .pointer (some ⟨rb, c, none⟩), .int .i64 (x2 : Int), .slice (some ⟨rz, 0, none⟩) 256 cz, .int .i64 (c : Int), .pointer (some ⟨rz, c, none⟩), .int .i64 (y : Int), .bool d1, .map (some bm), .int .i64 (c : Int), .int .u8 (c : Int), .bool d1, .bool false, .bool false, .bool true, .bool true, .slice (some ⟨rb, 0, none⟩) 256 cr, .int .i64 (c : Int), .pointer (some ⟨rb, c, none⟩), .int .i64 (x2 : Int), .int .i64 (x2 : Int), .bool false, .bool false, .bool false] : List Value).getD iq undef) [0, 1, 2, 3, 4, 5, 6, 7, 8, 9, 10, 11, 12, 13, 14, 15, 16, 17, 18, 19, 20, 21, 22, 23, 24] 132 rfl rfl (by kernel_rfl) (by kernel_rfl) (by kernel_rfl) (by kernel_rfl) (by kernel_rfl) (fun hsz hon => ⟨?_, ?_, ?_, ?_, ?_, ?_, ?_, ?_, ?_, ?_, ?_, ?_, ?_, ?_, ?_, ?_, ?_, ?_, ?_, ?_, ?_, ?_, ?_, ?_, ?_, trivial⟩) ?_
              · refine RegQ.step_in (by kernel_rfl) ?_
                intro A hA W hW
                obtain ⟨qn, rfl⟩ := hW
                have r10 : A.tmps[10]?.getD undef = .slice (some ⟨rb, 0, none⟩) 256 cr := RegQ.outG hA (by kernel_rfl) rfl
                clear hA
                unfold Oper.quietAt
                go_simp
              · refine RegQ.step_in (by kernel_rfl) ?_
                intro A hA W hW
                obtain ⟨qn, rfl⟩ := hW
                have r15 : A.tmps[15]?.getD undef = .int .i64 (c : Int) := RegQ.outG hA (by kernel_rfl) rfl
                clear hA
                unfold Oper.quietAt
                go_simp
              · refine RegQ.step_in (by kernel_rfl) ?_
                intro A hA W hW
                obtain ⟨qn, rfl⟩ := hW
                have r100 : A.tmps[100]?.getD undef = .slice (some ⟨rb, 0, none⟩) 256 cr := RegQ.inG (j := 0) hA hsz rfl (by kernel_rfl) (by decide) rfl
                have r101 : A.tmps[101]?.getD undef = .int .i64 (c : Int) := RegQ.inG (j := 1) hA hsz rfl (by kernel_rfl) (by decide) rfl
                clear hA
                unfold Oper.quietAt
                go_simp
              · refine RegQ.step_in (by kernel_rfl) ?_
                intro A hA W hW
                obtain ⟨qn, rfl⟩ := hW
                have r102 : A.tmps[102]?.getD undef = .pointer (some ⟨rb, c, none⟩) := RegQ.inG (j := 2) hA hsz rfl (by kernel_rfl) (by decide) rfl
                clear hA
                unfold Oper.quietAt
                go_simp
              · refine RegQ.step_in (by kernel_rfl) ?_
                intro A hA W hW
                obtain ⟨qn, rfl⟩ := hW
                have r11 : A.tmps[11]?.getD undef = .slice (some ⟨rz, 0, none⟩) 256 cz := RegQ.outG hA (by kernel_rfl) rfl
                clear hA
                unfold Oper.quietAt
                go_simp
              · refine RegQ.step_in (by kernel_rfl) ?_
                intro A hA W hW
                obtain ⟨qn, rfl⟩ := hW
                have r15 : A.tmps[15]?.getD undef = .int .i64 (c : Int) := RegQ.outG hA (by kernel_rfl) rfl
                clear hA
                unfold Oper.quietAt
                go_simp
              · refine RegQ.step_in (by kernel_rfl) ?_
                intro A hA W hW
                obtain ⟨qn, rfl⟩ := hW
                have r104 : A.tmps[104]?.getD undef = .slice (some ⟨rz, 0, none⟩) 256 cz := RegQ.inG (j := 4) hA hsz rfl (by kernel_rfl) (by decide) rfl
                have r105 : A.tmps[105]?.getD undef = .int .i64 (c : Int) := RegQ.inG (j := 5) hA hsz rfl (by kernel_rfl) (by decide) rfl
                clear hA
                unfold Oper.quietAt
                go_simp
              · refine RegQ.step_in (by kernel_rfl) ?_
                intro A hA W hW
                obtain ⟨qn, rfl⟩ := hW
                have r106 : A.tmps[106]?.getD undef = .pointer (some ⟨rz, c, none⟩) := RegQ.inG (j := 6) hA hsz rfl (by kernel_rfl) (by decide) rfl
                clear hA
                unfold Oper.quietAt
                go_simp
              · refine RegQ.step_in (by kernel_rfl) ?_
                intro A hA W hW
                obtain ⟨qn, rfl⟩ := hW
                have r103 : A.tmps[103]?.getD undef = .int .i64 (x2 : Int) := RegQ.inG (j := 3) hA hsz rfl (by kernel_rfl) (by decide) rfl
                have r107 : A.tmps[107]?.getD undef = .int .i64 (y : Int) := RegQ.inG (j := 7) hA hsz rfl (by kernel_rfl) (by decide) rfl
                clear hA
                unfold Oper.quietAt
                go_simp
              · refine RegQ.step_in (by kernel_rfl) ?_
                intro A hA W hW
                obtain ⟨qn, rfl⟩ := hW
                have r12 : A.tmps[12]?.getD undef = .map (some bm) := RegQ.outG hA (by kernel_rfl) rfl
                clear hA
                unfold Oper.quietAt
                go_simp
              · refine RegQ.step_in (by kernel_rfl) ?_
                intro A hA W hW
                obtain ⟨qn, rfl⟩ := hW
                have r15 : A.tmps[15]?.getD undef = .int .i64 (c : Int) := RegQ.outG hA (by kernel_rfl) rfl
                clear hA
                unfold Oper.quietAt
                go_simp
              · refine RegQ.step_in (by kernel_rfl) ?_
                intro A hA W hW
                obtain ⟨qn, rfl⟩ := hW
                have r110 : A.tmps[110]?.getD undef = .int .i64 (c : Int) := RegQ.inG (j := 10) hA hsz rfl (by kernel_rfl) (by decide) rfl
                clear hA
                unfold Oper.quietAt
                go_simp
              · refine RegQ.step_in (by kernel_rfl) ?_
                intro A hA W hW
                obtain ⟨qn, rfl⟩ := hW
                have r109 : A.tmps[109]?.getD undef = .map (some bm) := RegQ.inG (j := 9) hA hsz rfl (by kernel_rfl) (by decide) rfl
                have r111 : A.tmps[111]?.getD undef = .int .u8 (c : Int) := RegQ.inG (j := 11) hA hsz rfl (by kernel_rfl) (by decide) rfl
                clear hA
                unfold Oper.quietAt
                go_simp
              · refine RegQ.step_in (by kernel_rfl) ?_
                intro A hA W hW
                obtain ⟨qn, rfl⟩ := hW
                have r108 : A.tmps[108]?.getD undef = .bool d1 := RegQ.inG (j := 8) hA hsz rfl (by kernel_rfl) (by decide) rfl
                have r112 : A.tmps[112]?.getD undef = .bool d1 := RegQ.inG (j := 12) hA hsz rfl (by kernel_rfl) (by decide) rfl
                clear hA
                unfold Oper.quietAt
                go_simp
              · refine RegQ.step_in (by kernel_rfl) ?_
                intro A hA W hW
                obtain ⟨qn, rfl⟩ := hW
                have r113 : A.tmps[113]?.getD undef = .bool false := RegQ.inG (j := 13) hA hsz rfl (by kernel_rfl) (by decide) rfl
                clear hA
                unfold Oper.quietAt
                go_simp
              · refine RegQ.step_in (by kernel_rfl) ?_
                intro A hA W hW
                obtain ⟨qn, rfl⟩ := hW
                have r17 : A.tmps[17]?.getD undef = .bool true := RegQ.outG hA (by kernel_rfl) rfl
                clear hA
                unfold Oper.quietAt
                go_simp
              · refine RegQ.step_in (by kernel_rfl) ?_
                intro A hA W hW
                obtain ⟨qn, rfl⟩ := hW
                have r115 : A.tmps[115]?.getD undef = .bool true := RegQ.inG (j := 15) hA hsz rfl (by kernel_rfl) (by decide) rfl
                clear hA
                unfold Oper.quietAt
                go_simp
              · refine RegQ.step_in (by kernel_rfl) ?_
                intro A hA W hW
                obtain ⟨qn, rfl⟩ := hW
                have r10 : A.tmps[10]?.getD undef = .slice (some ⟨rb, 0, none⟩) 256 cr := RegQ.outG hA (by kernel_rfl) rfl
                clear hA
                unfold Oper.quietAt
                go_simp
              · refine RegQ.step_in (by kernel_rfl) ?_
                intro A hA W hW
                obtain ⟨qn, rfl⟩ := hW
                have r15 : A.tmps[15]?.getD undef = .int .i64 (c : Int) := RegQ.outG hA (by kernel_rfl) rfl
                clear hA
                unfold Oper.quietAt
                go_simp
              · refine RegQ.step_in (by kernel_rfl) ?_
                intro A hA W hW
                obtain ⟨qn, rfl⟩ := hW
                have r117 : A.tmps[117]?.getD undef = .slice (some ⟨rb, 0, none⟩) 256 cr := RegQ.inG (j := 17) hA hsz rfl (by kernel_rfl) (by decide) rfl
                have r118 : A.tmps[118]?.getD undef = .int .i64 (c : Int) := RegQ.inG (j := 18) hA hsz rfl (by kernel_rfl) (by decide) rfl
                clear hA
                unfold Oper.quietAt
                go_simp
              · refine RegQ.step_in (by kernel_rfl) ?_
                intro A hA W hW
                obtain ⟨qn, rfl⟩ := hW
                have r119 : A.tmps[119]?.getD undef = .pointer (some ⟨rb, c, none⟩) := RegQ.inG (j := 19) hA hsz rfl (by kernel_rfl) (by decide) rfl
                clear hA
                unfold Oper.quietAt
                go_simp
              · refine RegQ.step_in (by kernel_rfl) ?_
                intro A hA W hW
                obtain ⟨qn, rfl⟩ := hW
                have r16 : A.tmps[16]?.getD undef = .int .i64 (x2 : Int) := RegQ.outG hA (by kernel_rfl) rfl
                clear hA
                unfold Oper.quietAt
                go_simp
              · refine RegQ.step_in (by kernel_rfl) ?_
                intro A hA W hW
                obtain ⟨qn, rfl⟩ := hW
                have r120 : A.tmps[120]?.getD undef = .int .i64 (x2 : Int) := RegQ.inG (j := 20) hA hsz rfl (by kernel_rfl) (by decide) rfl
                have r121 : A.tmps[121]?.getD undef = .int .i64 (x2 : Int) := RegQ.inG (j := 21) hA hsz rfl (by kernel_rfl) (by decide) rfl
                clear hA
                unfold Oper.quietAt
                go_simp
              · refine RegQ.step_in (by kernel_rfl) ?_
                intro A hA W hW
                obtain ⟨qn, rfl⟩ := hW
                have r116 : A.tmps[116]?.getD undef = .bool true := RegQ.inG (j := 16) hA hsz rfl (by kernel_rfl) (by decide) rfl
                have r122 : A.tmps[122]?.getD undef = .bool false := RegQ.inG (j := 22) hA hsz rfl (by kernel_rfl) (by decide) rfl
                clear hA
                unfold Oper.quietAt
                go_simp
              · refine RegQ.step_in (by kernel_rfl) ?_
                intro A hA W hW
                obtain ⟨qn, rfl⟩ := hW
                have r114 : A.tmps[114]?.getD undef = .bool false := RegQ.inG (j := 14) hA hsz rfl (by kernel_rfl) (by decide) rfl
                have r123 : A.tmps[123]?.getD undef = .bool false := RegQ.inG (j := 23) hA hsz rfl (by kernel_rfl) (by decide) rfl
                clear hA
                unfold Oper.quietAt
                go_simp
              · intro qn
                simp only [Reg.putS, List.foldl, List.getD_cons_zero, List.getD_cons_succ, Act.put, List.setIfInBounds_toArray, List.set_cons_zero, List.set_cons_succ]
                clear l1 l2 hlk he
                have b9 := drewN_below (n := qn) b8r
                have hS9 := hS8.below (drewN_below (n := qn) (Below.refl w8.heap.size w8))
                clear b8r hS8
                generalize w8.drewN qn = w9 at b9 hS9 ⊢
                go_wp2_with fail
                go_roundw
                case rel => exact ⟨c + 1, hlt, by go_num, b9, hS9⟩
                case measure => simp [intOf]; omega
            | none =>
              have cN := next_none hlkr.trie (by rw [hlnh.out]; omega) hNX.out hrX (show (0 : Int) ≤ (c : Int) ∧ (c : Int) ≤ 255 by omega) hsn
              clear hmem hxe hye hgo hsn hlkr
              go_wp2_with fail
              refine cT.mono ?_
              rintro e w8 ⟨rfl, hw⟩
              rw [hw]
              clear cT hw w8
              go_wp2_with fail
              refine cN.mono ?_
              rintro e w8 ⟨rfl, b8⟩
              have b8r := br.trans (b8.mono br.size)
              have hS8 := hSr.below b8
              have hlk := fun qk => (hS8.below (drewN_below (n := qk) (Below.refl w8.heap.size w8))).look (c := c) (by omega)
              rw [hin] at hlk
              replace l1 := pw_cell_below b8 l1
              replace l2 := pw_cell_below b8 l2
              clear cN b8 br hSr hin
              go_wp2_with fail
              refine RegQ.wp_region_vals [some 100, some 101, some 102, some 103, some 104, some 105, some 106, some 107, some 108, some 109, some 110, some 111, some 112, some 113, some 114, some 115, some 116, some 117, some 118, some 119, some 120, some 121, some 122, some 123, some 124] [[], [], [0, 1], [2], [], [], [4, 5], [6], [3, 7], [], [], [10], [9, 11], [8, 12], [13], [14], [15, 14, 14], [16], [16], [17, 18, 16], [19, 16], [16], [20, 21, 16], [16, 22, 14], [14, 23]] (fun iq => ([.slice (some ⟨rb, 0, none⟩) 256 cr, .int .i64 (c : Int), .pointer (some ⟨rb, c, none⟩), .int .i64 (x : Int), .slice (some ⟨rz, 0, none⟩) 256 cz, .int .i64 (c : Int), .pointer (some ⟨rz, c, none⟩), .int .i64 (y : Int), .bool d1, .map (some bm), .int .i64 (c : Int), .int .u8 (c : Int), .bool d1, .bool false, .bool false, .bool false, .bool false, undef, undef, undef, undef, undef, undef, .bool false, .bool false] : List Value).getD iq undef) [0, 1, 2, 3, 4, 5, 6, 7, 8, 9, 10, 11, 12, 13, 14, 15, 16, 17, 18, 19, 20, 21, 22, 23, 24] 132 rfl rfl (by kernel_rfl) (by kernel_rfl) (by kernel_rfl) (by kernel_rfl) (by kernel_rfl) (fun hsz hon => ⟨?_, ?_, ?_, ?_, ?_, ?_, ?_, ?_, ?_, ?_, ?_, ?_, ?_, ?_, ?_, ?_, ?_, ?_, ?_, ?_, ?_, ?_, ?_, ?_, ?_, trivial⟩) ?_
              · refine RegQ.step_in (by kernel_rfl) ?_
                intro A hA W hW
                obtain ⟨qn, rfl⟩ := hW
                have r10 : A.tmps[10]?.getD undef = .slice (some ⟨rb, 0, none⟩) 256 cr := RegQ.outG hA (by kernel_rfl) rfl
                clear hA
                unfold Oper.quietAt
                go_simp
              · refine RegQ.step_in (by kernel_rfl) ?_
                intro A hA W hW
                obtain ⟨qn, rfl⟩ := hW
                have r15 : A.tmps[15]?.getD undef = .int .i64 (c : Int) := RegQ.outG hA (by kernel_rfl) rfl
                clear hA
                unfold Oper.quietAt
                go_simp
              · refine RegQ.step_in (by kernel_rfl) ?_
                intro A hA W hW
                obtain ⟨qn, rfl⟩ := hW
                have r100 : A.tmps[100]?.getD undef = .slice (some ⟨rb, 0, none⟩) 256 cr := RegQ.inG (j := 0) hA hsz rfl (by kernel_rfl) (by decide) rfl
                have r101 : A.tmps[101]?.getD undef = .int .i64 (c : Int) := RegQ.inG (j := 1) hA hsz rfl (by kernel_rfl) (by decide) rfl
                clear hA
                unfold Oper.quietAt
                go_simp
              · refine RegQ.step_in (by kernel_rfl) ?_
                intro A hA W hW
                obtain ⟨qn, rfl⟩ := hW
                have r102 : A.tmps[102]?.getD undef = .pointer (some ⟨rb, c, none⟩) := RegQ.inG (j := 2) hA hsz rfl (by kernel_rfl) (by decide) rfl
                clear hA
                unfold Oper.quietAt
                go_simp
              · refine RegQ.step_in (by kernel_rfl) ?_
                intro A hA W hW
                obtain ⟨qn, rfl⟩ := hW
                have r11 : A.tmps[11]?.getD undef = .slice (some ⟨rz, 0, none⟩) 256 cz := RegQ.outG hA (by kernel_rfl) rfl
                clear hA
                unfold Oper.quietAt
                go_simp
              · refine RegQ.step_in (by kernel_rfl) ?_
                intro A hA W hW
                obtain ⟨qn, rfl⟩ := hW
                have r15 : A.tmps[15]?.getD undef = .int .i64 (c : Int) := RegQ.outG hA (by kernel_rfl) rfl
                clear hA
                unfold Oper.quietAt
                go_simp
              · refine RegQ.step_in (by kernel_rfl) ?_
                intro A hA W hW
                obtain ⟨qn, rfl⟩ := hW
                have r104 : A.tmps[104]?.getD undef = .slice (some ⟨rz, 0, none⟩) 256 cz := RegQ.inG (j := 4) hA hsz rfl (by kernel_rfl) (by decide) rfl
                have r105 : A.tmps[105]?.getD undef = .int .i64 (c : Int) := RegQ.inG (j := 5) hA hsz rfl (by kernel_rfl) (by decide) rfl
                clear hA
                unfold Oper.quietAt
                go_simp
              · refine RegQ.step_in (by kernel_rfl) ?_
                intro A hA W hW
                obtain ⟨qn, rfl⟩ := hW
                have r106 : A.tmps[106]?.getD undef = .pointer (some ⟨rz, c, none⟩) := RegQ.inG (j := 6) hA hsz rfl (by kernel_rfl) (by decide) rfl
                clear hA
                unfold Oper.quietAt
                go_simp
              · refine RegQ.step_in (by kernel_rfl) ?_
                intro A hA W hW
                obtain ⟨qn, rfl⟩ := hW
                have r103 : A.tmps[103]?.getD undef = .int .i64 (x : Int) := RegQ.inG (j := 3) hA hsz rfl (by kernel_rfl) (by decide) rfl
                have r107 : A.tmps[107]?.getD undef = .int .i64 (y : Int) := RegQ.inG (j := 7) hA hsz rfl (by kernel_rfl) (by decide) rfl
                clear hA
                unfold Oper.quietAt
                go_simp
              · refine RegQ.step_in (by kernel_rfl) ?_
                intro A hA W hW
                obtain ⟨qn, rfl⟩ := hW
                have r12 : A.tmps[12]?.getD undef = .map (some bm) := RegQ.outG hA (by kernel_rfl) rfl
                clear hA
                unfold Oper.quietAt
                go_simp
              · refine RegQ.step_in (by kernel_rfl) ?_
                intro A hA W hW
                obtain ⟨qn, rfl⟩ := hW
                have r15 : A.tmps[15]?.getD undef = .int .i64 (c : Int) := RegQ.outG hA (by kernel_rfl) rfl
                clear hA
                unfold Oper.quietAt
                go_simp
              · refine RegQ.step_in (by kernel_rfl) ?_
                intro A hA W hW
                obtain ⟨qn, rfl⟩ := hW
                have r110 : A.tmps[110]?.getD undef = .int .i64 (c : Int) := RegQ.inG (j := 10) hA hsz rfl (by kernel_rfl) (by decide) rfl
                clear hA
                unfold Oper.quietAt
                go_simp
              · refine RegQ.step_in (by kernel_rfl) ?_
                intro A hA W hW
                obtain ⟨qn, rfl⟩ := hW
                have r109 : A.tmps[109]?.getD undef = .map (some bm) := RegQ.inG (j := 9) hA hsz rfl (by kernel_rfl) (by decide) rfl
                have r111 : A.tmps[111]?.getD undef = .int .u8 (c : Int) := RegQ.inG (j := 11) hA hsz rfl (by kernel_rfl) (by decide) rfl
                clear hA
                unfold Oper.quietAt
                go_simp
              · refine RegQ.step_in (by kernel_rfl) ?_
                intro A hA W hW
                obtain ⟨qn, rfl⟩ := hW
                have r108 : A.tmps[108]?.getD undef = .bool d1 := RegQ.inG (j := 8) hA hsz rfl (by kernel_rfl) (by decide) rfl
                have r112 : A.tmps[112]?.getD undef = .bool d1 := RegQ.inG (j := 12) hA hsz rfl (by kernel_rfl) (by decide) rfl
                clear hA
                unfold Oper.quietAt
                go_simp
              · refine RegQ.step_in (by kernel_rfl) ?_
                intro A hA W hW
                obtain ⟨qn, rfl⟩ := hW
                have r113 : A.tmps[113]?.getD undef = .bool false := RegQ.inG (j := 13) hA hsz rfl (by kernel_rfl) (by decide) rfl
                clear hA
                unfold Oper.quietAt
                go_simp
              · refine RegQ.step_in (by kernel_rfl) ?_
                intro A hA W hW
                obtain ⟨qn, rfl⟩ := hW
                have r17 : A.tmps[17]?.getD undef = .bool false := RegQ.outG hA (by kernel_rfl) rfl
                clear hA
                unfold Oper.quietAt
                go_simp
              · refine RegQ.step_in (by kernel_rfl) ?_
                intro A hA W hW
                obtain ⟨qn, rfl⟩ := hW
                have r115 : A.tmps[115]?.getD undef = .bool false := RegQ.inG (j := 15) hA hsz rfl (by kernel_rfl) (by decide) rfl
                clear hA
                unfold Oper.quietAt
                go_simp
              · exact RegQ.step_no (by kernel_rfl) rfl
              · exact RegQ.step_no (by kernel_rfl) rfl
              · exact RegQ.step_no (by kernel_rfl) rfl
              · exact RegQ.step_no (by kernel_rfl) rfl
              · exact RegQ.step_no (by kernel_rfl) rfl
              · exact RegQ.step_no (by kernel_rfl) rfl
              · refine RegQ.step_in (by kernel_rfl) ?_
                intro A hA W hW
                obtain ⟨qn, rfl⟩ := hW
                have r116 : A.tmps[116]?.getD undef = .bool false := RegQ.inG (j := 16) hA hsz rfl (by kernel_rfl) (by decide) rfl
                have r122 : A.tmps[122]?.getD undef = undef := RegQ.inG (j := 22) hA hsz rfl (by kernel_rfl) (by decide) rfl
                clear hA
                unfold Oper.quietAt
                go_simp
              · refine RegQ.step_in (by kernel_rfl) ?_
                intro A hA W hW
                obtain ⟨qn, rfl⟩ := hW
                have r114 : A.tmps[114]?.getD undef = .bool false := RegQ.inG (j := 14) hA hsz rfl (by kernel_rfl) (by decide) rfl
                have r123 : A.tmps[123]?.getD undef = .bool false := RegQ.inG (j := 23) hA hsz rfl (by kernel_rfl) (by decide) rfl
                clear hA
                unfold Oper.quietAt
                go_simp
              · intro qn
                simp only [Reg.putS, List.foldl, List.getD_cons_zero, List.getD_cons_succ, Act.put, List.setIfInBounds_toArray, List.set_cons_zero, List.set_cons_succ]
                clear l1 l2 hlk he
                have b9 := drewN_below (n := qn) b8r
                have hS9 := hS8.below (drewN_below (n := qn) (Below.refl w8.heap.size w8))
                clear b8r hS8
                generalize w8.drewN qn = w9 at b9 hS9 ⊢
                go_wp2_with fail
                go_roundw
                case rel => exact ⟨c + 1, hlt, by go_num, b9, hS9⟩
                case measure => simp [intOf]; omega
          · have hcd : decide ((c : Int) < 256) = false := decide_eq_false (by omega)
            have hci : ¬ (c : Int) < 256 := by omega
            have belF := bstep bel6 br
            obtain ⟨Dm, hown, hsz⟩ := hSr.own
            have hszh : Hid (Maps.size Dm = SL.length) := hsz
            clear hsz hSr br
            by_cases hr0 : r = 0
            · have e0 : ((r : Int) != 0) = false := by rw [hr0]; rfl
              have hSL0 : SL.length = 0 := by rw [hSLr.out hr0]; rfl
              rw [hSL0] at hown
              rw [hSL0] at hszh
              clear hr0 hSL0
              have hlen := hown.len Try.underlying74 3
              rw [hszh.out] at hlen
              clear hown
              go_wp2_with fail
              go_ret
              exact ⟨rfl, belF⟩
            · have e0 : ((r : Int) != 0) = true := by simp; omega
              clear hr0 hown
              go_wp2_with fail
              go_ret
              exact ⟨rfl, belF⟩
end Go.Proofs.Ytdeeeechdlcdbaa.DrW
