/- The walk of HitsAny, at lengths of a block. -/
import Derived.Test.YtdeeeechdlcdbaaHaU
import Derived.Test.YtdeeeechdlcdbaaHnW
import Derived.Test.YtdeeeechdlcdbaaHaP
import Derived.Test.YtdeeeechdlcdbaaHaA
import Derived.Test.YtdeeeechdlcdbaaStep
import Derived.Maps.OwnSet
import Derived.Test.YtdeeeechdlcdbaaRegQ
import Derived.IntWalk
import Derived.Deep.QuietTactic
import Derived.BigQuiet
set_option linter.unusedVariables false
set_option linter.unusedSimpArgs false
namespace Go.Proofs.Ytdeeeechdlcdbaa.HaW
open Go Go.RowKit Go.Sort Go.Lib Go.Proofs Go.Proofs.Ytdeeeechdlcdbaa Go.Proofs.Ytdeeeechdlcdbaa.Base Go.Proofs.Ytdeeeechdlcdbaa.DiA Go.Proofs.Ytdeeeechdlcdbaa.DiB Go.Proofs.Ytdeeeechdlcdbaa.DiD Go.Proofs.Ytdeeeechdlcdbaa.TcP Go.Proofs.Ytdeeeechdlcdbaa.LkM Go.Proofs.Ytdeeeechdlcdbaa.LkN Go.Proofs.Ytdeeeechdlcdbaa.LkS Go.Proofs.Ytdeeeechdlcdbaa.PhP Go.Proofs.Ytdeeeechdlcdbaa.PhW Go.Proofs.Ytdeeeechdlcdbaa.ScP Go.Proofs.Ytdeeeechdlcdbaa.ScF Go.Proofs.Ytdeeeechdlcdbaa.ScE Go.Proofs.Ytdeeeechdlcdbaa.ScX Go.Proofs.Ytdeeeechdlcdbaa.ScA Go.Proofs.Ytdeeeechdlcdbaa.ScN Go.Proofs.Ytdeeeechdlcdbaa.RwA Go.Proofs.Ytdeeeechdlcdbaa.HiP Go.Proofs.Ytdeeeechdlcdbaa.HiQ Go.Proofs.Ytdeeeechdlcdbaa.HiA Go.Proofs.Ytdeeeechdlcdbaa.HiB Go.Proofs.Ytdeeeechdlcdbaa.HiW Go.Proofs.Ytdeeeechdlcdbaa.HiL Go.Proofs.Ytdeeeechdlcdbaa.HiM Go.Proofs.Ytdeeeechdlcdbaa.HiV Go.Proofs.Ytdeeeechdlcdbaa.HnW Go.Proofs.Ytdeeeechdlcdbaa.HaP Go.Proofs.Ytdeeeechdlcdbaa.HaU
set_option maxRecDepth 20000 in
set_option maxHeartbeats 8000000 in
theorem law_in (A : Option Addr) (n cap : Nat) (zs : List ByteArray) (n0 : Int) (V : Option Addr) (mh ch : Nat) (w : World) (hf : Calls Try.prog 23 #[.slice A n cap] w fun e w' => e = .returned (.bool true) ∧ w' = w)
    (hn : n = zs.length) (hat : StrsAt w A zs) (hn1 : n ≤ 110) (htot : total zs ≤ 1300) (H : List (Int × Int)) (hmh : Hid (mh = H.length)) (hHin0 : Hid (HIn w V H)) (hwf : Hid (∀ x ∈ H, SeH.WfH x)) (hd0 : decide ((mh : Int) > 100) = false) (hsmall : n0 ≤ 1024) :
    Calls Try.prog 3 #[.slice A n cap, .int .i64 n0, .slice V mh ch] w fun e w' => e = .returned (.bool true) ∧ Below w.heap.size w w' := by
  have hnh : Hid (n = zs.length) := hn
  clear hn
  go_enter Try.func3, Try.ntmps3
  go_wp2_with fail
  refine hf.mono ?_
  rintro e w1 ⟨rfl, hw⟩
  rw [hw]
  clear hf hw w1
  go_wp2_with fail
  refine (HiV.alive_call _).mono ?_
  rintro e w1 ⟨rfl, bel⟩
  have hat1 := hat.below bel
  go_wp2_with fail
  refine (phrases_any A n cap zs w1 hnh.out hat1 (by omega)).mono ?_
  rintro e w2 ⟨hph, hw⟩
  rw [hw]
  clear hw w2
  rcases hph with ⟨hok, rfl⟩ | ⟨hok, c0, k0, hc0, rfl⟩
  rotate_left
  · have hcd : (c0 != 0) = true := by simp [hc0]
    clear hat hat1 hok
    go_wp2_with fail
    go_ret
    exact ⟨rfl, bel⟩
  go_wp2_with fail
  refine (make_any A n cap zs w1 hnh.out hat1 (by omega)).mono ?_
  rintro e w2 ⟨b2, ⟨hno, _⟩ | ⟨_, p, rfl, _, hdict⟩⟩
  · rw [hok] at hno; cases hno
  replace bel := bstep bel b2
  have hat2 := hat1.below b2
  have hD : Hid (DV w1.heap.size w2 (.pointer (some ⟨p, 0, none⟩)) zs) := Lib.hid (.inr ⟨p, rfl, hdict⟩)
  have hokh : Hid (okD zs = true) := hok
  have hp : Hid (∀ k, k < zs.length → 1 ≤ szk zs k) := szk_pos hok
  have hs : Hid (∀ k, szk zs k ≤ 1000) := szk_le hok
  have hz : Hid (zs.length ≤ 1000) := Nat.le_trans (okD_len hok) (by decide)
  have hHin2 : HIn w2 V H := hHin0.out.below bel
  have hm100 : mh ≤ 100 := by have := of_decide_eq_false hd0; omega
  clear hat hat1 hok b2 hdict hHin0 hd0
  obtain ⟨AA, hAA⟩ : ∃ AA, AA = A := ⟨A, rfl⟩
  subst hAA

  have cS := starts_gen (cp := ch) hD.out hp.out hs.out hz.out hsmall hmh.out (by omega) hHin2
  have hsm0 : Hid (n0 ≤ 1024) := hsmall
  clear hsmall
  go_wp2_with fail
  refine cS.mono ?_
  rintro e w4 ⟨b4, gv, ln, L, BG, rfl, hLn0, hG0, hgot0⟩
  have hLn : Hid (L.length = ln) := hLn0
  have hG : Hid (GotIs zs n0 H L) := hG0
  have hgot : Hid (0 < ln → ∃ g, gv = some ⟨g, 0, none⟩ ∧ Rws BG g w4 L) := hgot0
  have emax : ((ln : Int) != max n0 0) = false := by have := hG0.len; rw [hLn0] at this; rw [this]; simp
  have hln : ln ≤ 1024 := by have := hG0.len; have := hsm0.out; omega
  have hSum : Hid (∀ i, i < L.length → sumL (L.take i) + (L.getD i []).length ≤ 100) := fun i hi => by
    have h1 := sum_succ hi
    have h2 := sum_le (L := L) (i + 1)
    have h3 := hG.out.sum
    have h4 := hasT_len zs n0 H
    have := hmh.out
    omega
  have belh : Hid (Below w.heap.size w w4) := bstep bel b4
  have hat4 : Hid (StrsAt w4 AA zs) := hat2.below b4
  have hHin4 : Hid (HIn w4 V H) := hHin2.below b4
  clear cS b4 bel hat2 hHin2 hD hLn0 hG0 hgot0
  obtain ⟨TT, hTT⟩ : ∃ TT : Nat → List (Int × Int), TT = fun k => (H.take k).foldl (addT zs n0) [] := ⟨_, rfl⟩
  have hT0 : TT 0 = [] := by rw [hTT]; rfl
  have hTs : Hid (∀ k, k < H.length → TT (k + 1) = addT zs n0 (TT k) (H.getD k (0, 0))) := by
    intro k hk
    rw [hTT]
    show (H.take (k + 1)).foldl _ _ = _
    rw [take_getD H (0, 0) hk, List.foldl_append]; rfl
  have hTe : Hid (TT H.length = hasT zs n0 H) := by
    show _ = _
    rw [hTT]
    show (H.take H.length).foldl _ _ = _
    rw [List.take_length]; rfl
  have hmm := @run_makeMap Try.prog
  have hS := SeH.SetAt.made w4
  obtain ⟨w5, hw5⟩ : ∃ w5, w5 = w4.alloc (.map #[] 0) := ⟨_, rfl⟩
  obtain ⟨bm, hbm⟩ : ∃ bm, bm = w4.heap.size := ⟨_, rfl⟩
  have hbmh : Hid (bm = w4.heap.size) := hbm
  have b45 : Hid (Below w4.heap.size w4 w5) := by show Below _ _ _; rw [hw5]; exact balloc (Below.refl _ _) _
  rw [← hw5, ← hbm, ← hT0] at hS
  have hS5 : Hid (SeH.SetAt w5 bm 0 (TT 0)) := hS
  clear hTT hT0 hS
  go_wp2_with fail
  rw [← hw5, ← hbm]
  clear hw5 hbm hmm
  go_wp2_with fail
  go_loopw [68] (fun s wr => ∃ k mm : Nat, k ≤ mh ∧ mm ≤ k ∧ s = .int .i64 (k : Int) ∧ SeH.SetAt wr bm mm (TT k) ∧ Below w4.heap.size w4 wr) (fun s _ => mh - (intOf s).toNat)
  case atStart => exact ⟨0, 0, Nat.zero_le _, Nat.le_refl _, rfl, hS5.out, b45.out⟩
  case round =>
    clear hS5 b45
    obtain ⟨k, mm, hk, hmm, rfl, hSr, br⟩ := hrel
    by_cases hlt : k < mh
    · have hkd : (k : Int) < (mh : Int) := by omega
      have hkd2 : decide ((k : Int) < (mh : Int)) = true := decide_eq_true hkd
      have hkH : k < H.length := by rw [← hmh.out]; exact hlt
      obtain ⟨bV, oV, rfl, _, hc⟩ := hHin4.out (by omega)
      have l1 := pw_cell_below br (hc k hkH).1
      have l2 := pw_cell_below br (hc k hkH).2
      have hT1 : Hid (TT (k + 1) = addT zs n0 (TT k) (H.getD k (0, 0))) := hTs.out k hkH
      have hwx : Hid (SeH.WfH (H.getD k (0, 0))) := hwf.out _ (by rw [List.getD_eq_getElem?_getD, List.getElem?_eq_getElem hkH]; exact List.getElem_mem hkH)
      obtain ⟨e1, he1⟩ : ∃ e1, (H.getD k (0, 0)).1 = e1 := ⟨_, rfl⟩
      obtain ⟨d1, hd1⟩ : ∃ d1, (H.getD k (0, 0)).2 = d1 := ⟨_, rfl⟩
      rw [he1] at l1
      rw [hd1] at l2
      have hx : H.getD k (0, 0) = (e1, d1) := Prod.ext he1 hd1
      rw [hx] at hT1 hwx
      have x0 : (wr.alloc (.cells #[.int .i64 e1, .int .i64 d1] 35)).cell? ⟨wr.heap.size, 0, none⟩ = some (.int .i64 e1) := cell_of (heap_new _ _) rfl
      have x1 : (wr.alloc (.cells #[.int .i64 e1, .int .i64 d1] 35)).cell? ⟨wr.heap.size, 1, none⟩ = some (.int .i64 d1) := cell_of (heap_new _ _) rfl
      have hq9 : (wr.alloc (.cells #[.int .i64 e1, .int .i64 d1] 35)).heap[wr.heap.size]? = some (.cells #[.int .i64 e1, .int .i64 d1] 35 (0, 0)) := heap_new _ _
      have bW := balloc br (.cells #[.int .i64 e1, .int .i64 d1] 35)
      have hS8 := hSr.below (balloc (Below.refl wr.heap.size wr) (.cells #[.int .i64 e1, .int .i64 d1] 35))
      obtain ⟨W, hW⟩ : ∃ W, W = wr.alloc (.cells #[.int .i64 e1, .int .i64 d1] 35) := ⟨_, rfl⟩
      have hWh : Hid (W = wr.alloc (.cells #[.int .i64 e1, .int .i64 d1] 35)) := hW
      rw [← hW] at x0 x1 bW hS8 hq9
      obtain ⟨q, hq⟩ : ∃ q, q = wr.heap.size := ⟨_, rfl⟩
      have hqh : Hid (q = wr.heap.size) := hq
      rw [← hq] at x0 x1 hq9
      have z1 : IntKind.i64.wrap ((k : Int) + 1) = (k : Int) + 1 := by rw [IntKind.wrap_i64]; omega
      clear hW hq hx he1 hd1 hSr hc
      by_cases g1 : 0 ≤ d1
      · have t1 : decide (d1 ≥ 0) = true := decide_eq_true g1
        obtain ⟨d, rfl⟩ : ∃ d : Nat, d1 = (d : Int) := ⟨d1.toNat, by omega⟩
        by_cases g2 : d < n
        · have t2 : decide ((d : Int) < (n : Int)) = true := decide_eq_true (by omega)
          have t2' : decide (d < n) = true := decide_eq_true g2
          have g2z : (d : Int) < (n : Int) := by omega
          by_cases g3 : 0 ≤ e1
          · have t3 : decide (e1 ≥ 0) = true := decide_eq_true g3
            by_cases g4 : e1 ≤ n0
            · have t4 : decide (e1 ≤ n0) = true := decide_eq_true g4
              have hdz : d < zs.length := by rw [← hnh.out]; exact g2
              obtain ⟨bA, oA, rfl, _, hcA⟩ := hat4.out (by omega)
              have hz3 := pw_cell_below bW (hcA d hdz)
              obtain ⟨z, hz⟩ : ∃ z, zs.getD d ByteArray.empty = z := ⟨_, rfl⟩
              have hzs : szk zs d = z.size := by unfold szk; rw [hz]
              rw [hz] at hz3
              clear hz hcA
              by_cases g5 : (z.size : Int) ≤ e1
              · have t5 : decide (e1 ≥ (z.size : Int)) = true := decide_eq_true g5
                have hT2 : Hid (TT (k + 1) = SeH.addIf (TT k) (e1, (d : Int))) := by
                  show _ = _
                  rw [hT1.out]
                  exact if_pos ⟨g1, by show (d : Int) < (zs.length : Int); omega, g3, g4, by show (szk zs (d : Int).toNat : Int) ≤ e1; rw [Int.toNat_natCast, hzs]; exact g5⟩
                clear hT1 br g1 g3 g4 g5 hzs hdz
                go_wp2_with fail
                rw [← hWh.out, ← hqh.out]
                clear hWh l1 l2
                refine RegQ.wp_region_vals [some 72, some 73, some 74, some 75, some 76, some 77, some 78, some 79, some 80, some 81, some 82, some 83, some 84, some 85, some 86, some 87, some 88, some 89, some 90, some 91, some 92, some 93, some 94, some 95, some 96, some 97, some 98, some 99, some 100, some 101, some 102, some 103] [[], [0], [1], [2], [3], [4, 3], [3], [6, 3], [5, 7, 3], [3, 8], [9, 3], [10], [11, 10], [12, 10], [10, 13], [14, 10], [15], [16, 15], [15], [17, 18, 15], [15, 19], [20, 15], [21], [22, 21], [21], [21], [25, 21], [24, 26, 21], [27, 21], [28, 21], [23, 29, 21], [21, 30]] (fun iq => ([.pointer (some ⟨q, 1, none⟩), .int .i64 (d : Int), .bool true, .bool true, .pointer (some ⟨q, 1, none⟩), .int .i64 (d : Int), .slice (some ⟨bA, oA, none⟩) n cap, .int .i64 (n : Int), .bool true, .bool true, .bool true, .pointer (some ⟨q, 0, none⟩), .int .i64 e1, .bool true, .bool true, .bool true, .pointer (some ⟨q, 0, none⟩), .int .i64 e1, .int .i64 n0, .bool true, .bool true, .bool true, .pointer (some ⟨q, 0, none⟩), .int .i64 e1, .slice (some ⟨bA, oA, none⟩) n cap, .pointer (some ⟨q, 1, none⟩), .int .i64 (d : Int), .pointer (some ⟨bA, oA + d, none⟩), .string z, .int .i64 (z.size : Int), .bool true, .bool true] : List Value).getD iq undef) [0, 1, 2, 3, 4, 5, 6, 7, 8, 9, 10, 11, 12, 13, 14, 15, 16, 17, 18, 19, 20, 21, 22, 23, 24, 25, 26, 27, 28, 29, 30, 31] 195 rfl rfl (by kernel_rfl) (by kernel_rfl) (by kernel_rfl) (by kernel_rfl) (by kernel_rfl) (fun hsz hon => ⟨?_, ?_, ?_, ?_, ?_, ?_, ?_, ?_, ?_, ?_, ?_, ?_, ?_, ?_, ?_, ?_, ?_, ?_, ?_, ?_, ?_, ?_, ?_, ?_, ?_, ?_, ?_, ?_, ?_, ?_, ?_, ?_, trivial⟩) ?_
                · refine RegQ.step_in (by kernel_rfl) ?_
                  intro A hA W hW
                  obtain ⟨qn, rfl⟩ := hW
                  have r13 : A.tmps[13]?.getD undef = .pointer (some ⟨q, 0, none⟩) := RegQ.outG hA (by kernel_rfl) rfl
                  clear hA
                  unfold Oper.quietAt
                  go_simp
                · refine RegQ.step_in (by kernel_rfl) ?_
                  intro A hA W hW
                  obtain ⟨qn, rfl⟩ := hW
                  have r72 : A.tmps[72]?.getD undef = .pointer (some ⟨q, 1, none⟩) := RegQ.inG (j := 0) hA hsz rfl (by kernel_rfl) (by decide) rfl
                  clear hA
                  unfold Oper.quietAt
                  go_simp
                · refine RegQ.step_in (by kernel_rfl) ?_
                  intro A hA W hW
                  obtain ⟨qn, rfl⟩ := hW
                  have r73 : A.tmps[73]?.getD undef = .int .i64 (d : Int) := RegQ.inG (j := 1) hA hsz rfl (by kernel_rfl) (by decide) rfl
                  clear hA
                  unfold Oper.quietAt
                  go_simp
                · refine RegQ.step_in (by kernel_rfl) ?_
                  intro A hA W hW
                  obtain ⟨qn, rfl⟩ := hW
                  have r74 : A.tmps[74]?.getD undef = .bool true := RegQ.inG (j := 2) hA hsz rfl (by kernel_rfl) (by decide) rfl
                  clear hA
                  unfold Oper.quietAt
                  go_simp
                · refine RegQ.step_in (by kernel_rfl) ?_
                  intro A hA W hW
                  obtain ⟨qn, rfl⟩ := hW
                  have r13 : A.tmps[13]?.getD undef = .pointer (some ⟨q, 0, none⟩) := RegQ.outG hA (by kernel_rfl) rfl
                  clear hA
                  unfold Oper.quietAt
                  go_simp
                · refine RegQ.step_in (by kernel_rfl) ?_
                  intro A hA W hW
                  obtain ⟨qn, rfl⟩ := hW
                  have r76 : A.tmps[76]?.getD undef = .pointer (some ⟨q, 1, none⟩) := RegQ.inG (j := 4) hA hsz rfl (by kernel_rfl) (by decide) rfl
                  clear hA
                  unfold Oper.quietAt
                  go_simp
                · refine RegQ.step_in (by kernel_rfl) ?_
                  intro A hA W hW
                  obtain ⟨qn, rfl⟩ := hW
                  have r0 : A.tmps[0]?.getD undef = .slice (some ⟨bA, oA, none⟩) n cap := RegQ.outG hA (by kernel_rfl) rfl
                  clear hA
                  unfold Oper.quietAt
                  go_simp
                · refine RegQ.step_in (by kernel_rfl) ?_
                  intro A hA W hW
                  obtain ⟨qn, rfl⟩ := hW
                  have r78 : A.tmps[78]?.getD undef = .slice (some ⟨bA, oA, none⟩) n cap := RegQ.inG (j := 6) hA hsz rfl (by kernel_rfl) (by decide) rfl
                  clear hA
                  unfold Oper.quietAt
                  go_simp
                · refine RegQ.step_in (by kernel_rfl) ?_
                  intro A hA W hW
                  obtain ⟨qn, rfl⟩ := hW
                  have r77 : A.tmps[77]?.getD undef = .int .i64 (d : Int) := RegQ.inG (j := 5) hA hsz rfl (by kernel_rfl) (by decide) rfl
                  have r79 : A.tmps[79]?.getD undef = .int .i64 (n : Int) := RegQ.inG (j := 7) hA hsz rfl (by kernel_rfl) (by decide) rfl
                  clear hA
                  unfold Oper.quietAt
                  go_simp
                · refine RegQ.step_in (by kernel_rfl) ?_
                  intro A hA W hW
                  obtain ⟨qn, rfl⟩ := hW
                  have r75 : A.tmps[75]?.getD undef = .bool true := RegQ.inG (j := 3) hA hsz rfl (by kernel_rfl) (by decide) rfl
                  have r80 : A.tmps[80]?.getD undef = .bool true := RegQ.inG (j := 8) hA hsz rfl (by kernel_rfl) (by decide) rfl
                  clear hA
                  unfold Oper.quietAt
                  go_simp
                · refine RegQ.step_in (by kernel_rfl) ?_
                  intro A hA W hW
                  obtain ⟨qn, rfl⟩ := hW
                  have r81 : A.tmps[81]?.getD undef = .bool true := RegQ.inG (j := 9) hA hsz rfl (by kernel_rfl) (by decide) rfl
                  clear hA
                  unfold Oper.quietAt
                  go_simp
                · refine RegQ.step_in (by kernel_rfl) ?_
                  intro A hA W hW
                  obtain ⟨qn, rfl⟩ := hW
                  have r13 : A.tmps[13]?.getD undef = .pointer (some ⟨q, 0, none⟩) := RegQ.outG hA (by kernel_rfl) rfl
                  clear hA
                  unfold Oper.quietAt
                  go_simp
                · refine RegQ.step_in (by kernel_rfl) ?_
                  intro A hA W hW
                  obtain ⟨qn, rfl⟩ := hW
                  have r83 : A.tmps[83]?.getD undef = .pointer (some ⟨q, 0, none⟩) := RegQ.inG (j := 11) hA hsz rfl (by kernel_rfl) (by decide) rfl
                  clear hA
                  unfold Oper.quietAt
                  go_simp
                · refine RegQ.step_in (by kernel_rfl) ?_
                  intro A hA W hW
                  obtain ⟨qn, rfl⟩ := hW
                  have r84 : A.tmps[84]?.getD undef = .int .i64 e1 := RegQ.inG (j := 12) hA hsz rfl (by kernel_rfl) (by decide) rfl
                  clear hA
                  unfold Oper.quietAt
                  go_simp
                · refine RegQ.step_in (by kernel_rfl) ?_
                  intro A hA W hW
                  obtain ⟨qn, rfl⟩ := hW
                  have r82 : A.tmps[82]?.getD undef = .bool true := RegQ.inG (j := 10) hA hsz rfl (by kernel_rfl) (by decide) rfl
                  have r85 : A.tmps[85]?.getD undef = .bool true := RegQ.inG (j := 13) hA hsz rfl (by kernel_rfl) (by decide) rfl
                  clear hA
                  unfold Oper.quietAt
                  go_simp
                · refine RegQ.step_in (by kernel_rfl) ?_
                  intro A hA W hW
                  obtain ⟨qn, rfl⟩ := hW
                  have r86 : A.tmps[86]?.getD undef = .bool true := RegQ.inG (j := 14) hA hsz rfl (by kernel_rfl) (by decide) rfl
                  clear hA
                  unfold Oper.quietAt
                  go_simp
                · refine RegQ.step_in (by kernel_rfl) ?_
                  intro A hA W hW
                  obtain ⟨qn, rfl⟩ := hW
                  have r13 : A.tmps[13]?.getD undef = .pointer (some ⟨q, 0, none⟩) := RegQ.outG hA (by kernel_rfl) rfl
                  clear hA
                  unfold Oper.quietAt
                  go_simp
                · refine RegQ.step_in (by kernel_rfl) ?_
                  intro A hA W hW
                  obtain ⟨qn, rfl⟩ := hW
                  have r88 : A.tmps[88]?.getD undef = .pointer (some ⟨q, 0, none⟩) := RegQ.inG (j := 16) hA hsz rfl (by kernel_rfl) (by decide) rfl
                  clear hA
                  unfold Oper.quietAt
                  go_simp
                · refine RegQ.step_in (by kernel_rfl) ?_
                  intro A hA W hW
                  obtain ⟨qn, rfl⟩ := hW
                  have r1 : A.tmps[1]?.getD undef = .int .i64 n0 := RegQ.outG hA (by kernel_rfl) rfl
                  clear hA
                  unfold Oper.quietAt
                  go_simp
                · refine RegQ.step_in (by kernel_rfl) ?_
                  intro A hA W hW
                  obtain ⟨qn, rfl⟩ := hW
                  have r89 : A.tmps[89]?.getD undef = .int .i64 e1 := RegQ.inG (j := 17) hA hsz rfl (by kernel_rfl) (by decide) rfl
                  have r90 : A.tmps[90]?.getD undef = .int .i64 n0 := RegQ.inG (j := 18) hA hsz rfl (by kernel_rfl) (by decide) rfl
                  clear hA
                  unfold Oper.quietAt
                  go_simp
                · refine RegQ.step_in (by kernel_rfl) ?_
                  intro A hA W hW
                  obtain ⟨qn, rfl⟩ := hW
                  have r87 : A.tmps[87]?.getD undef = .bool true := RegQ.inG (j := 15) hA hsz rfl (by kernel_rfl) (by decide) rfl
                  have r91 : A.tmps[91]?.getD undef = .bool true := RegQ.inG (j := 19) hA hsz rfl (by kernel_rfl) (by decide) rfl
                  clear hA
                  unfold Oper.quietAt
                  go_simp
                · refine RegQ.step_in (by kernel_rfl) ?_
                  intro A hA W hW
                  obtain ⟨qn, rfl⟩ := hW
                  have r92 : A.tmps[92]?.getD undef = .bool true := RegQ.inG (j := 20) hA hsz rfl (by kernel_rfl) (by decide) rfl
                  clear hA
                  unfold Oper.quietAt
                  go_simp
                · refine RegQ.step_in (by kernel_rfl) ?_
                  intro A hA W hW
                  obtain ⟨qn, rfl⟩ := hW
                  have r13 : A.tmps[13]?.getD undef = .pointer (some ⟨q, 0, none⟩) := RegQ.outG hA (by kernel_rfl) rfl
                  clear hA
                  unfold Oper.quietAt
                  go_simp
                · refine RegQ.step_in (by kernel_rfl) ?_
                  intro A hA W hW
                  obtain ⟨qn, rfl⟩ := hW
                  have r94 : A.tmps[94]?.getD undef = .pointer (some ⟨q, 0, none⟩) := RegQ.inG (j := 22) hA hsz rfl (by kernel_rfl) (by decide) rfl
                  clear hA
                  unfold Oper.quietAt
                  go_simp
                · refine RegQ.step_in (by kernel_rfl) ?_
                  intro A hA W hW
                  obtain ⟨qn, rfl⟩ := hW
                  have r0 : A.tmps[0]?.getD undef = .slice (some ⟨bA, oA, none⟩) n cap := RegQ.outG hA (by kernel_rfl) rfl
                  clear hA
                  unfold Oper.quietAt
                  go_simp
                · refine RegQ.step_in (by kernel_rfl) ?_
                  intro A hA W hW
                  obtain ⟨qn, rfl⟩ := hW
                  have r13 : A.tmps[13]?.getD undef = .pointer (some ⟨q, 0, none⟩) := RegQ.outG hA (by kernel_rfl) rfl
                  clear hA
                  unfold Oper.quietAt
                  go_simp
                · refine RegQ.step_in (by kernel_rfl) ?_
                  intro A hA W hW
                  obtain ⟨qn, rfl⟩ := hW
                  have r97 : A.tmps[97]?.getD undef = .pointer (some ⟨q, 1, none⟩) := RegQ.inG (j := 25) hA hsz rfl (by kernel_rfl) (by decide) rfl
                  clear hA
                  unfold Oper.quietAt
                  go_simp
                · refine RegQ.step_in (by kernel_rfl) ?_
                  intro A hA W hW
                  obtain ⟨qn, rfl⟩ := hW
                  have r96 : A.tmps[96]?.getD undef = .slice (some ⟨bA, oA, none⟩) n cap := RegQ.inG (j := 24) hA hsz rfl (by kernel_rfl) (by decide) rfl
                  have r98 : A.tmps[98]?.getD undef = .int .i64 (d : Int) := RegQ.inG (j := 26) hA hsz rfl (by kernel_rfl) (by decide) rfl
                  clear hA
                  unfold Oper.quietAt
                  go_simp
                · refine RegQ.step_in (by kernel_rfl) ?_
                  intro A hA W hW
                  obtain ⟨qn, rfl⟩ := hW
                  have r99 : A.tmps[99]?.getD undef = .pointer (some ⟨bA, oA + d, none⟩) := RegQ.inG (j := 27) hA hsz rfl (by kernel_rfl) (by decide) rfl
                  clear hA
                  unfold Oper.quietAt
                  go_simp
                · refine RegQ.step_in (by kernel_rfl) ?_
                  intro A hA W hW
                  obtain ⟨qn, rfl⟩ := hW
                  have r100 : A.tmps[100]?.getD undef = .string z := RegQ.inG (j := 28) hA hsz rfl (by kernel_rfl) (by decide) rfl
                  clear hA
                  unfold Oper.quietAt
                  go_simp
                · refine RegQ.step_in (by kernel_rfl) ?_
                  intro A hA W hW
                  obtain ⟨qn, rfl⟩ := hW
                  have r95 : A.tmps[95]?.getD undef = .int .i64 e1 := RegQ.inG (j := 23) hA hsz rfl (by kernel_rfl) (by decide) rfl
                  have r101 : A.tmps[101]?.getD undef = .int .i64 (z.size : Int) := RegQ.inG (j := 29) hA hsz rfl (by kernel_rfl) (by decide) rfl
                  clear hA
                  unfold Oper.quietAt
                  go_simp
                · refine RegQ.step_in (by kernel_rfl) ?_
                  intro A hA W hW
                  obtain ⟨qn, rfl⟩ := hW
                  have r93 : A.tmps[93]?.getD undef = .bool true := RegQ.inG (j := 21) hA hsz rfl (by kernel_rfl) (by decide) rfl
                  have r102 : A.tmps[102]?.getD undef = .bool true := RegQ.inG (j := 30) hA hsz rfl (by kernel_rfl) (by decide) rfl
                  clear hA
                  unfold Oper.quietAt
                  go_simp
                · intro qn
                  simp only [Reg.putS, List.foldl, List.getD_cons_zero, List.getD_cons_succ, Act.put, List.setIfInBounds_toArray, List.set_cons_zero, List.set_cons_succ]
                  have b9 := drewN_below (n := qn) (Below.refl W.heap.size W)
                  have hS9 := hS8.below b9
                  have y0 := pw_cell_below b9 x0
                  have y1 := pw_cell_below b9 x1
                  replace b9 := bW.trans (b9.mono bW.size)
                  clear hS8 bW x0 x1 hq9 hz3
                  generalize W.drewN qn = w9 at b9 hS9 y0 y1 ⊢
                  obtain ⟨w10, hrun0, hS10, hg10⟩ := hS9.put hwx.out (by unfold maxLen; omega)
                  have hrun : (Instr.mapUpdate 33 (.map (some bm)) (.agg #[.int .i64 e1, .int .i64 (d : Int)]) (.bool true)).run Try.prog w9 = .ok () w10 := hrun0
                  have b10 := b9.grown hg10 b9.size (fun qq hqq => by injection hqq with hqq; have := hbmh.out; omega)
                  clear hrun0 hS9 hg10 b9
                  go_wp2_with fail
                  go_roundw
                  case rel => exact ⟨k + 1, mm + 1, hlt, by omega, by go_num, by rw [hT2.out]; exact hS10, b10⟩
                  case measure => simp [intOf]; omega
              · have t5 : decide (e1 ≥ (z.size : Int)) = false := decide_eq_false g5
                have hT2 : Hid (TT (k + 1) = TT k) := by
                  show _ = _
                  rw [hT1.out]; exact if_neg (fun h => by have h5 := h.2.2.2.2; simp only [Int.toNat_natCast] at h5; omega)
                clear hT1 hwx br g1 g3 g4 g5 hzs hdz
                go_wp2_with fail
                rw [← hWh.out, ← hqh.out]
                clear hWh l1 l2
                refine RegQ.wp_region_vals [some 72, some 73, some 74, some 75, some 76, some 77, some 78, some 79, some 80, some 81, some 82, some 83, some 84, some 85, some 86, some 87, some 88, some 89, some 90, some 91, some 92, some 93, some 94, some 95, some 96, some 97, some 98, some 99, some 100, some 101, some 102, some 103] [[], [0], [1], [2], [3], [4, 3], [3], [6, 3], [5, 7, 3], [3, 8], [9, 3], [10], [11, 10], [12, 10], [10, 13], [14, 10], [15], [16, 15], [15], [17, 18, 15], [15, 19], [20, 15], [21], [22, 21], [21], [21], [25, 21], [24, 26, 21], [27, 21], [28, 21], [23, 29, 21], [21, 30]] (fun iq => ([.pointer (some ⟨q, 1, none⟩), .int .i64 (d : Int), .bool true, .bool true, .pointer (some ⟨q, 1, none⟩), .int .i64 (d : Int), .slice (some ⟨bA, oA, none⟩) n cap, .int .i64 (n : Int), .bool true, .bool true, .bool true, .pointer (some ⟨q, 0, none⟩), .int .i64 e1, .bool true, .bool true, .bool true, .pointer (some ⟨q, 0, none⟩), .int .i64 e1, .int .i64 n0, .bool true, .bool true, .bool true, .pointer (some ⟨q, 0, none⟩), .int .i64 e1, .slice (some ⟨bA, oA, none⟩) n cap, .pointer (some ⟨q, 1, none⟩), .int .i64 (d : Int), .pointer (some ⟨bA, oA + d, none⟩), .string z, .int .i64 (z.size : Int), .bool false, .bool false] : List Value).getD iq undef) [0, 1, 2, 3, 4, 5, 6, 7, 8, 9, 10, 11, 12, 13, 14, 15, 16, 17, 18, 19, 20, 21, 22, 23, 24, 25, 26, 27, 28, 29, 30, 31] 195 rfl rfl (by kernel_rfl) (by kernel_rfl) (by kernel_rfl) (by kernel_rfl) (by kernel_rfl) (fun hsz hon => ⟨?_, ?_, ?_, ?_, ?_, ?_, ?_, ?_, ?_, ?_, ?_, ?_, ?_, ?_, ?_, ?_, ?_, ?_, ?_, ?_, ?_, ?_, ?_, ?_, ?_, ?_, ?_, ?_, ?_, ?_, ?_, ?_, trivial⟩) ?_
                · refine RegQ.step_in (by kernel_rfl) ?_
                  intro A hA W hW
                  obtain ⟨qn, rfl⟩ := hW
                  have r13 : A.tmps[13]?.getD undef = .pointer (some ⟨q, 0, none⟩) := RegQ.outG hA (by kernel_rfl) rfl
                  clear hA
                  unfold Oper.quietAt
                  go_simp
                · refine RegQ.step_in (by kernel_rfl) ?_
                  intro A hA W hW
                  obtain ⟨qn, rfl⟩ := hW
                  have r72 : A.tmps[72]?.getD undef = .pointer (some ⟨q, 1, none⟩) := RegQ.inG (j := 0) hA hsz rfl (by kernel_rfl) (by decide) rfl
                  clear hA
                  unfold Oper.quietAt
                  go_simp
                · refine RegQ.step_in (by kernel_rfl) ?_
                  intro A hA W hW
                  obtain ⟨qn, rfl⟩ := hW
                  have r73 : A.tmps[73]?.getD undef = .int .i64 (d : Int) := RegQ.inG (j := 1) hA hsz rfl (by kernel_rfl) (by decide) rfl
                  clear hA
                  unfold Oper.quietAt
                  go_simp
                · refine RegQ.step_in (by kernel_rfl) ?_
                  intro A hA W hW
                  obtain ⟨qn, rfl⟩ := hW
                  have r74 : A.tmps[74]?.getD undef = .bool true := RegQ.inG (j := 2) hA hsz rfl (by kernel_rfl) (by decide) rfl
                  clear hA
                  unfold Oper.quietAt
                  go_simp
                · refine RegQ.step_in (by kernel_rfl) ?_
                  intro A hA W hW
                  obtain ⟨qn, rfl⟩ := hW
                  have r13 : A.tmps[13]?.getD undef = .pointer (some ⟨q, 0, none⟩) := RegQ.outG hA (by kernel_rfl) rfl
                  clear hA
                  unfold Oper.quietAt
                  go_simp
                · refine RegQ.step_in (by kernel_rfl) ?_
                  intro A hA W hW
                  obtain ⟨qn, rfl⟩ := hW
                  have r76 : A.tmps[76]?.getD undef = .pointer (some ⟨q, 1, none⟩) := RegQ.inG (j := 4) hA hsz rfl (by kernel_rfl) (by decide) rfl
                  clear hA
                  unfold Oper.quietAt
                  go_simp
                · refine RegQ.step_in (by kernel_rfl) ?_
                  intro A hA W hW
                  obtain ⟨qn, rfl⟩ := hW
                  have r0 : A.tmps[0]?.getD undef = .slice (some ⟨bA, oA, none⟩) n cap := RegQ.outG hA (by kernel_rfl) rfl
                  clear hA
                  unfold Oper.quietAt
                  go_simp
                · refine RegQ.step_in (by kernel_rfl) ?_
                  intro A hA W hW
                  obtain ⟨qn, rfl⟩ := hW
                  have r78 : A.tmps[78]?.getD undef = .slice (some ⟨bA, oA, none⟩) n cap := RegQ.inG (j := 6) hA hsz rfl (by kernel_rfl) (by decide) rfl
                  clear hA
                  unfold Oper.quietAt
                  go_simp
                · refine RegQ.step_in (by kernel_rfl) ?_
                  intro A hA W hW
                  obtain ⟨qn, rfl⟩ := hW
                  have r77 : A.tmps[77]?.getD undef = .int .i64 (d : Int) := RegQ.inG (j := 5) hA hsz rfl (by kernel_rfl) (by decide) rfl
                  have r79 : A.tmps[79]?.getD undef = .int .i64 (n : Int) := RegQ.inG (j := 7) hA hsz rfl (by kernel_rfl) (by decide) rfl
                  clear hA
                  unfold Oper.quietAt
                  go_simp
                · refine RegQ.step_in (by kernel_rfl) ?_
                  intro A hA W hW
                  obtain ⟨qn, rfl⟩ := hW
                  have r75 : A.tmps[75]?.getD undef = .bool true := RegQ.inG (j := 3) hA hsz rfl (by kernel_rfl) (by decide) rfl
                  have r80 : A.tmps[80]?.getD undef = .bool true := RegQ.inG (j := 8) hA hsz rfl (by kernel_rfl) (by decide) rfl
                  clear hA
                  unfold Oper.quietAt
                  go_simp
                · refine RegQ.step_in (by kernel_rfl) ?_
                  intro A hA W hW
                  obtain ⟨qn, rfl⟩ := hW
                  have r81 : A.tmps[81]?.getD undef = .bool true := RegQ.inG (j := 9) hA hsz rfl (by kernel_rfl) (by decide) rfl
                  clear hA
                  unfold Oper.quietAt
                  go_simp
                · refine RegQ.step_in (by kernel_rfl) ?_
                  intro A hA W hW
                  obtain ⟨qn, rfl⟩ := hW
                  have r13 : A.tmps[13]?.getD undef = .pointer (some ⟨q, 0, none⟩) := RegQ.outG hA (by kernel_rfl) rfl
                  clear hA
                  unfold Oper.quietAt
                  go_simp
                · refine RegQ.step_in (by kernel_rfl) ?_
                  intro A hA W hW
                  obtain ⟨qn, rfl⟩ := hW
                  have r83 : A.tmps[83]?.getD undef = .pointer (some ⟨q, 0, none⟩) := RegQ.inG (j := 11) hA hsz rfl (by kernel_rfl) (by decide) rfl
                  clear hA
                  unfold Oper.quietAt
                  go_simp
                · refine RegQ.step_in (by kernel_rfl) ?_
                  intro A hA W hW
                  obtain ⟨qn, rfl⟩ := hW
                  have r84 : A.tmps[84]?.getD undef = .int .i64 e1 := RegQ.inG (j := 12) hA hsz rfl (by kernel_rfl) (by decide) rfl
                  clear hA
                  unfold Oper.quietAt
                  go_simp
                · refine RegQ.step_in (by kernel_rfl) ?_
                  intro A hA W hW
                  obtain ⟨qn, rfl⟩ := hW
                  have r82 : A.tmps[82]?.getD undef = .bool true := RegQ.inG (j := 10) hA hsz rfl (by kernel_rfl) (by decide) rfl
                  have r85 : A.tmps[85]?.getD undef = .bool true := RegQ.inG (j := 13) hA hsz rfl (by kernel_rfl) (by decide) rfl
                  clear hA
                  unfold Oper.quietAt
                  go_simp
                · refine RegQ.step_in (by kernel_rfl) ?_
                  intro A hA W hW
                  obtain ⟨qn, rfl⟩ := hW
                  have r86 : A.tmps[86]?.getD undef = .bool true := RegQ.inG (j := 14) hA hsz rfl (by kernel_rfl) (by decide) rfl
                  clear hA
                  unfold Oper.quietAt
                  go_simp
                · refine RegQ.step_in (by kernel_rfl) ?_
                  intro A hA W hW
                  obtain ⟨qn, rfl⟩ := hW
                  have r13 : A.tmps[13]?.getD undef = .pointer (some ⟨q, 0, none⟩) := RegQ.outG hA (by kernel_rfl) rfl
                  clear hA
                  unfold Oper.quietAt
                  go_simp
                · refine RegQ.step_in (by kernel_rfl) ?_
                  intro A hA W hW
                  obtain ⟨qn, rfl⟩ := hW
                  have r88 : A.tmps[88]?.getD undef = .pointer (some ⟨q, 0, none⟩) := RegQ.inG (j := 16) hA hsz rfl (by kernel_rfl) (by decide) rfl
                  clear hA
                  unfold Oper.quietAt
                  go_simp
                · refine RegQ.step_in (by kernel_rfl) ?_
                  intro A hA W hW
                  obtain ⟨qn, rfl⟩ := hW
                  have r1 : A.tmps[1]?.getD undef = .int .i64 n0 := RegQ.outG hA (by kernel_rfl) rfl
                  clear hA
                  unfold Oper.quietAt
                  go_simp
                · refine RegQ.step_in (by kernel_rfl) ?_
                  intro A hA W hW
                  obtain ⟨qn, rfl⟩ := hW
                  have r89 : A.tmps[89]?.getD undef = .int .i64 e1 := RegQ.inG (j := 17) hA hsz rfl (by kernel_rfl) (by decide) rfl
                  have r90 : A.tmps[90]?.getD undef = .int .i64 n0 := RegQ.inG (j := 18) hA hsz rfl (by kernel_rfl) (by decide) rfl
                  clear hA
                  unfold Oper.quietAt
                  go_simp
                · refine RegQ.step_in (by kernel_rfl) ?_
                  intro A hA W hW
                  obtain ⟨qn, rfl⟩ := hW
                  have r87 : A.tmps[87]?.getD undef = .bool true := RegQ.inG (j := 15) hA hsz rfl (by kernel_rfl) (by decide) rfl
                  have r91 : A.tmps[91]?.getD undef = .bool true := RegQ.inG (j := 19) hA hsz rfl (by kernel_rfl) (by decide) rfl
                  clear hA
                  unfold Oper.quietAt
                  go_simp
                · refine RegQ.step_in (by kernel_rfl) ?_
                  intro A hA W hW
                  obtain ⟨qn, rfl⟩ := hW
                  have r92 : A.tmps[92]?.getD undef = .bool true := RegQ.inG (j := 20) hA hsz rfl (by kernel_rfl) (by decide) rfl
                  clear hA
                  unfold Oper.quietAt
                  go_simp
                · refine RegQ.step_in (by kernel_rfl) ?_
                  intro A hA W hW
                  obtain ⟨qn, rfl⟩ := hW
                  have r13 : A.tmps[13]?.getD undef = .pointer (some ⟨q, 0, none⟩) := RegQ.outG hA (by kernel_rfl) rfl
                  clear hA
                  unfold Oper.quietAt
                  go_simp
                · refine RegQ.step_in (by kernel_rfl) ?_
                  intro A hA W hW
                  obtain ⟨qn, rfl⟩ := hW
                  have r94 : A.tmps[94]?.getD undef = .pointer (some ⟨q, 0, none⟩) := RegQ.inG (j := 22) hA hsz rfl (by kernel_rfl) (by decide) rfl
                  clear hA
                  unfold Oper.quietAt
                  go_simp
                · refine RegQ.step_in (by kernel_rfl) ?_
                  intro A hA W hW
                  obtain ⟨qn, rfl⟩ := hW
                  have r0 : A.tmps[0]?.getD undef = .slice (some ⟨bA, oA, none⟩) n cap := RegQ.outG hA (by kernel_rfl) rfl
                  clear hA
                  unfold Oper.quietAt
                  go_simp
                · refine RegQ.step_in (by kernel_rfl) ?_
                  intro A hA W hW
                  obtain ⟨qn, rfl⟩ := hW
                  have r13 : A.tmps[13]?.getD undef = .pointer (some ⟨q, 0, none⟩) := RegQ.outG hA (by kernel_rfl) rfl
                  clear hA
                  unfold Oper.quietAt
                  go_simp
                · refine RegQ.step_in (by kernel_rfl) ?_
                  intro A hA W hW
                  obtain ⟨qn, rfl⟩ := hW
                  have r97 : A.tmps[97]?.getD undef = .pointer (some ⟨q, 1, none⟩) := RegQ.inG (j := 25) hA hsz rfl (by kernel_rfl) (by decide) rfl
                  clear hA
                  unfold Oper.quietAt
                  go_simp
                · refine RegQ.step_in (by kernel_rfl) ?_
                  intro A hA W hW
                  obtain ⟨qn, rfl⟩ := hW
                  have r96 : A.tmps[96]?.getD undef = .slice (some ⟨bA, oA, none⟩) n cap := RegQ.inG (j := 24) hA hsz rfl (by kernel_rfl) (by decide) rfl
                  have r98 : A.tmps[98]?.getD undef = .int .i64 (d : Int) := RegQ.inG (j := 26) hA hsz rfl (by kernel_rfl) (by decide) rfl
                  clear hA
                  unfold Oper.quietAt
                  go_simp
                · refine RegQ.step_in (by kernel_rfl) ?_
                  intro A hA W hW
                  obtain ⟨qn, rfl⟩ := hW
                  have r99 : A.tmps[99]?.getD undef = .pointer (some ⟨bA, oA + d, none⟩) := RegQ.inG (j := 27) hA hsz rfl (by kernel_rfl) (by decide) rfl
                  clear hA
                  unfold Oper.quietAt
                  go_simp
                · refine RegQ.step_in (by kernel_rfl) ?_
                  intro A hA W hW
                  obtain ⟨qn, rfl⟩ := hW
                  have r100 : A.tmps[100]?.getD undef = .string z := RegQ.inG (j := 28) hA hsz rfl (by kernel_rfl) (by decide) rfl
                  clear hA
                  unfold Oper.quietAt
                  go_simp
                · refine RegQ.step_in (by kernel_rfl) ?_
                  intro A hA W hW
                  obtain ⟨qn, rfl⟩ := hW
                  have r95 : A.tmps[95]?.getD undef = .int .i64 e1 := RegQ.inG (j := 23) hA hsz rfl (by kernel_rfl) (by decide) rfl
                  have r101 : A.tmps[101]?.getD undef = .int .i64 (z.size : Int) := RegQ.inG (j := 29) hA hsz rfl (by kernel_rfl) (by decide) rfl
                  clear hA
                  unfold Oper.quietAt
                  go_simp
                · refine RegQ.step_in (by kernel_rfl) ?_
                  intro A hA W hW
                  obtain ⟨qn, rfl⟩ := hW
                  have r93 : A.tmps[93]?.getD undef = .bool true := RegQ.inG (j := 21) hA hsz rfl (by kernel_rfl) (by decide) rfl
                  have r102 : A.tmps[102]?.getD undef = .bool false := RegQ.inG (j := 30) hA hsz rfl (by kernel_rfl) (by decide) rfl
                  clear hA
                  unfold Oper.quietAt
                  go_simp
                · intro qn
                  simp only [Reg.putS, List.foldl, List.getD_cons_zero, List.getD_cons_succ, Act.put, List.setIfInBounds_toArray, List.set_cons_zero, List.set_cons_succ]
                  have b9 := drewN_below (n := qn) (Below.refl W.heap.size W)
                  have hS9 := hS8.below b9
                  replace b9 := bW.trans (b9.mono bW.size)
                  clear hS8 bW x0 x1 hq9
                  generalize W.drewN qn = w9 at b9 hS9 ⊢
                  go_wp2_with fail
                  go_roundw
                  case rel => exact ⟨k + 1, mm, hlt, by omega, by go_num, by rw [hT2.out]; exact hS9, b9⟩
                  case measure => simp [intOf]; omega
            · have t4 : decide (e1 ≤ n0) = false := decide_eq_false g4
              have hT2 : Hid (TT (k + 1) = TT k) := by
                show _ = _
                rw [hT1.out]; exact if_neg (fun h => by exact g4 h.2.2.2.1)
              clear hT1 hwx br g1 g3 g4
              go_wp2_with fail
              rw [← hWh.out, ← hqh.out]
              clear hWh l1 l2
              refine RegQ.wp_region_vals [some 72, some 73, some 74, some 75, some 76, some 77, some 78, some 79, some 80, some 81, some 82, some 83, some 84, some 85, some 86, some 87, some 88, some 89, some 90, some 91, some 92, some 93, some 94, some 95, some 96, some 97, some 98, some 99, some 100, some 101, some 102, some 103] [[], [0], [1], [2], [3], [4, 3], [3], [6, 3], [5, 7, 3], [3, 8], [9, 3], [10], [11, 10], [12, 10], [10, 13], [14, 10], [15], [16, 15], [15], [17, 18, 15], [15, 19], [20, 15], [21], [22, 21], [21], [21], [25, 21], [24, 26, 21], [27, 21], [28, 21], [23, 29, 21], [21, 30]] (fun iq => ([.pointer (some ⟨q, 1, none⟩), .int .i64 (d : Int), .bool true, .bool true, .pointer (some ⟨q, 1, none⟩), .int .i64 (d : Int), .slice AA n cap, .int .i64 (n : Int), .bool true, .bool true, .bool true, .pointer (some ⟨q, 0, none⟩), .int .i64 e1, .bool true, .bool true, .bool true, .pointer (some ⟨q, 0, none⟩), .int .i64 e1, .int .i64 n0, .bool false, .bool false, .bool false, undef, undef, undef, undef, undef, undef, undef, undef, undef, .bool false] : List Value).getD iq undef) [0, 1, 2, 3, 4, 5, 6, 7, 8, 9, 10, 11, 12, 13, 14, 15, 16, 17, 18, 19, 20, 21, 22, 23, 24, 25, 26, 27, 28, 29, 30, 31] 195 rfl rfl (by kernel_rfl) (by kernel_rfl) (by kernel_rfl) (by kernel_rfl) (by kernel_rfl) (fun hsz hon => ⟨?_, ?_, ?_, ?_, ?_, ?_, ?_, ?_, ?_, ?_, ?_, ?_, ?_, ?_, ?_, ?_, ?_, ?_, ?_, ?_, ?_, ?_, ?_, ?_, ?_, ?_, ?_, ?_, ?_, ?_, ?_, ?_, trivial⟩) ?_
              · refine RegQ.step_in (by kernel_rfl) ?_
                intro A hA W hW
                obtain ⟨qn, rfl⟩ := hW
                have r13 : A.tmps[13]?.getD undef = .pointer (some ⟨q, 0, none⟩) := RegQ.outG hA (by kernel_rfl) rfl
                clear hA
                unfold Oper.quietAt
                go_simp
              · refine RegQ.step_in (by kernel_rfl) ?_
                intro A hA W hW
                obtain ⟨qn, rfl⟩ := hW
                have r72 : A.tmps[72]?.getD undef = .pointer (some ⟨q, 1, none⟩) := RegQ.inG (j := 0) hA hsz rfl (by kernel_rfl) (by decide) rfl
                clear hA
                unfold Oper.quietAt
                go_simp
              · refine RegQ.step_in (by kernel_rfl) ?_
                intro A hA W hW
                obtain ⟨qn, rfl⟩ := hW
                have r73 : A.tmps[73]?.getD undef = .int .i64 (d : Int) := RegQ.inG (j := 1) hA hsz rfl (by kernel_rfl) (by decide) rfl
                clear hA
                unfold Oper.quietAt
                go_simp
              · refine RegQ.step_in (by kernel_rfl) ?_
                intro A hA W hW
                obtain ⟨qn, rfl⟩ := hW
                have r74 : A.tmps[74]?.getD undef = .bool true := RegQ.inG (j := 2) hA hsz rfl (by kernel_rfl) (by decide) rfl
                clear hA
                unfold Oper.quietAt
                go_simp
              · refine RegQ.step_in (by kernel_rfl) ?_
                intro A hA W hW
                obtain ⟨qn, rfl⟩ := hW
                have r13 : A.tmps[13]?.getD undef = .pointer (some ⟨q, 0, none⟩) := RegQ.outG hA (by kernel_rfl) rfl
                clear hA
                unfold Oper.quietAt
                go_simp
              · refine RegQ.step_in (by kernel_rfl) ?_
                intro A hA W hW
                obtain ⟨qn, rfl⟩ := hW
                have r76 : A.tmps[76]?.getD undef = .pointer (some ⟨q, 1, none⟩) := RegQ.inG (j := 4) hA hsz rfl (by kernel_rfl) (by decide) rfl
                clear hA
                unfold Oper.quietAt
                go_simp
              · refine RegQ.step_in (by kernel_rfl) ?_
                intro A hA W hW
                obtain ⟨qn, rfl⟩ := hW
                have r0 : A.tmps[0]?.getD undef = .slice AA n cap := RegQ.outG hA (by kernel_rfl) rfl
                clear hA
                unfold Oper.quietAt
                go_simp
              · refine RegQ.step_in (by kernel_rfl) ?_
                intro A hA W hW
                obtain ⟨qn, rfl⟩ := hW
                have r78 : A.tmps[78]?.getD undef = .slice AA n cap := RegQ.inG (j := 6) hA hsz rfl (by kernel_rfl) (by decide) rfl
                clear hA
                unfold Oper.quietAt
                go_simp
              · refine RegQ.step_in (by kernel_rfl) ?_
                intro A hA W hW
                obtain ⟨qn, rfl⟩ := hW
                have r77 : A.tmps[77]?.getD undef = .int .i64 (d : Int) := RegQ.inG (j := 5) hA hsz rfl (by kernel_rfl) (by decide) rfl
                have r79 : A.tmps[79]?.getD undef = .int .i64 (n : Int) := RegQ.inG (j := 7) hA hsz rfl (by kernel_rfl) (by decide) rfl
                clear hA
                unfold Oper.quietAt
                go_simp
              · refine RegQ.step_in (by kernel_rfl) ?_
                intro A hA W hW
                obtain ⟨qn, rfl⟩ := hW
                have r75 : A.tmps[75]?.getD undef = .bool true := RegQ.inG (j := 3) hA hsz rfl (by kernel_rfl) (by decide) rfl
                have r80 : A.tmps[80]?.getD undef = .bool true := RegQ.inG (j := 8) hA hsz rfl (by kernel_rfl) (by decide) rfl
                clear hA
                unfold Oper.quietAt
                go_simp
              · refine RegQ.step_in (by kernel_rfl) ?_
                intro A hA W hW
                obtain ⟨qn, rfl⟩ := hW
                have r81 : A.tmps[81]?.getD undef = .bool true := RegQ.inG (j := 9) hA hsz rfl (by kernel_rfl) (by decide) rfl
                clear hA
                unfold Oper.quietAt
                go_simp
              · refine RegQ.step_in (by kernel_rfl) ?_
                intro A hA W hW
                obtain ⟨qn, rfl⟩ := hW
                have r13 : A.tmps[13]?.getD undef = .pointer (some ⟨q, 0, none⟩) := RegQ.outG hA (by kernel_rfl) rfl
                clear hA
                unfold Oper.quietAt
                go_simp
              · refine RegQ.step_in (by kernel_rfl) ?_
                intro A hA W hW
                obtain ⟨qn, rfl⟩ := hW
                have r83 : A.tmps[83]?.getD undef = .pointer (some ⟨q, 0, none⟩) := RegQ.inG (j := 11) hA hsz rfl (by kernel_rfl) (by decide) rfl
                clear hA
                unfold Oper.quietAt
                go_simp
              · refine RegQ.step_in (by kernel_rfl) ?_
                intro A hA W hW
                obtain ⟨qn, rfl⟩ := hW
                have r84 : A.tmps[84]?.getD undef = .int .i64 e1 := RegQ.inG (j := 12) hA hsz rfl (by kernel_rfl) (by decide) rfl
                clear hA
                unfold Oper.quietAt
                go_simp
              · refine RegQ.step_in (by kernel_rfl) ?_
                intro A hA W hW
                obtain ⟨qn, rfl⟩ := hW
                have r82 : A.tmps[82]?.getD undef = .bool true := RegQ.inG (j := 10) hA hsz rfl (by kernel_rfl) (by decide) rfl
                have r85 : A.tmps[85]?.getD undef = .bool true := RegQ.inG (j := 13) hA hsz rfl (by kernel_rfl) (by decide) rfl
                clear hA
                unfold Oper.quietAt
                go_simp
              · refine RegQ.step_in (by kernel_rfl) ?_
                intro A hA W hW
                obtain ⟨qn, rfl⟩ := hW
                have r86 : A.tmps[86]?.getD undef = .bool true := RegQ.inG (j := 14) hA hsz rfl (by kernel_rfl) (by decide) rfl
                clear hA
                unfold Oper.quietAt
                go_simp
              · refine RegQ.step_in (by kernel_rfl) ?_
                intro A hA W hW
                obtain ⟨qn, rfl⟩ := hW
                have r13 : A.tmps[13]?.getD undef = .pointer (some ⟨q, 0, none⟩) := RegQ.outG hA (by kernel_rfl) rfl
                clear hA
                unfold Oper.quietAt
                go_simp
              · refine RegQ.step_in (by kernel_rfl) ?_
                intro A hA W hW
                obtain ⟨qn, rfl⟩ := hW
                have r88 : A.tmps[88]?.getD undef = .pointer (some ⟨q, 0, none⟩) := RegQ.inG (j := 16) hA hsz rfl (by kernel_rfl) (by decide) rfl
                clear hA
                unfold Oper.quietAt
                go_simp
              · refine RegQ.step_in (by kernel_rfl) ?_
                intro A hA W hW
                obtain ⟨qn, rfl⟩ := hW
                have r1 : A.tmps[1]?.getD undef = .int .i64 n0 := RegQ.outG hA (by kernel_rfl) rfl
                clear hA
                unfold Oper.quietAt
                go_simp
              · refine RegQ.step_in (by kernel_rfl) ?_
                intro A hA W hW
                obtain ⟨qn, rfl⟩ := hW
                have r89 : A.tmps[89]?.getD undef = .int .i64 e1 := RegQ.inG (j := 17) hA hsz rfl (by kernel_rfl) (by decide) rfl
                have r90 : A.tmps[90]?.getD undef = .int .i64 n0 := RegQ.inG (j := 18) hA hsz rfl (by kernel_rfl) (by decide) rfl
                clear hA
                unfold Oper.quietAt
                go_simp
              · refine RegQ.step_in (by kernel_rfl) ?_
                intro A hA W hW
                obtain ⟨qn, rfl⟩ := hW
                have r87 : A.tmps[87]?.getD undef = .bool true := RegQ.inG (j := 15) hA hsz rfl (by kernel_rfl) (by decide) rfl
                have r91 : A.tmps[91]?.getD undef = .bool false := RegQ.inG (j := 19) hA hsz rfl (by kernel_rfl) (by decide) rfl
                clear hA
                unfold Oper.quietAt
                go_simp
              · refine RegQ.step_in (by kernel_rfl) ?_
                intro A hA W hW
                obtain ⟨qn, rfl⟩ := hW
                have r92 : A.tmps[92]?.getD undef = .bool false := RegQ.inG (j := 20) hA hsz rfl (by kernel_rfl) (by decide) rfl
                clear hA
                unfold Oper.quietAt
                go_simp
              · exact RegQ.step_no (by kernel_rfl) rfl
              · exact RegQ.step_no (by kernel_rfl) rfl
              · exact RegQ.step_no (by kernel_rfl) rfl
              · exact RegQ.step_no (by kernel_rfl) rfl
              · exact RegQ.step_no (by kernel_rfl) rfl
              · exact RegQ.step_no (by kernel_rfl) rfl
              · exact RegQ.step_no (by kernel_rfl) rfl
              · exact RegQ.step_no (by kernel_rfl) rfl
              · exact RegQ.step_no (by kernel_rfl) rfl
              · refine RegQ.step_in (by kernel_rfl) ?_
                intro A hA W hW
                obtain ⟨qn, rfl⟩ := hW
                have r93 : A.tmps[93]?.getD undef = .bool false := RegQ.inG (j := 21) hA hsz rfl (by kernel_rfl) (by decide) rfl
                have r102 : A.tmps[102]?.getD undef = undef := RegQ.inG (j := 30) hA hsz rfl (by kernel_rfl) (by decide) rfl
                clear hA
                unfold Oper.quietAt
                go_simp
              · intro qn
                simp only [Reg.putS, List.foldl, List.getD_cons_zero, List.getD_cons_succ, Act.put, List.setIfInBounds_toArray, List.set_cons_zero, List.set_cons_succ]
                have b9 := drewN_below (n := qn) (Below.refl W.heap.size W)
                have hS9 := hS8.below b9
                replace b9 := bW.trans (b9.mono bW.size)
                clear hS8 bW x0 x1 hq9
                generalize W.drewN qn = w9 at b9 hS9 ⊢
                go_wp2_with fail
                go_roundw
                case rel => exact ⟨k + 1, mm, hlt, by omega, by go_num, by rw [hT2.out]; exact hS9, b9⟩
                case measure => simp [intOf]; omega
          · have t3 : decide (e1 ≥ 0) = false := decide_eq_false g3
            have hT2 : Hid (TT (k + 1) = TT k) := by
              show _ = _
              rw [hT1.out]; exact if_neg (fun h => by exact g3 h.2.2.1)
            clear hT1 hwx br g1 g3
            go_wp2_with fail
            rw [← hWh.out, ← hqh.out]
            clear hWh l1 l2
            refine RegQ.wp_region_vals [some 72, some 73, some 74, some 75, some 76, some 77, some 78, some 79, some 80, some 81, some 82, some 83, some 84, some 85, some 86, some 87, some 88, some 89, some 90, some 91, some 92, some 93, some 94, some 95, some 96, some 97, some 98, some 99, some 100, some 101, some 102, some 103] [[], [0], [1], [2], [3], [4, 3], [3], [6, 3], [5, 7, 3], [3, 8], [9, 3], [10], [11, 10], [12, 10], [10, 13], [14, 10], [15], [16, 15], [15], [17, 18, 15], [15, 19], [20, 15], [21], [22, 21], [21], [21], [25, 21], [24, 26, 21], [27, 21], [28, 21], [23, 29, 21], [21, 30]] (fun iq => ([.pointer (some ⟨q, 1, none⟩), .int .i64 (d : Int), .bool true, .bool true, .pointer (some ⟨q, 1, none⟩), .int .i64 (d : Int), .slice AA n cap, .int .i64 (n : Int), .bool true, .bool true, .bool true, .pointer (some ⟨q, 0, none⟩), .int .i64 e1, .bool false, .bool false, .bool false, undef, undef, undef, undef, .bool false, .bool false, undef, undef, undef, undef, undef, undef, undef, undef, undef, .bool false] : List Value).getD iq undef) [0, 1, 2, 3, 4, 5, 6, 7, 8, 9, 10, 11, 12, 13, 14, 15, 16, 17, 18, 19, 20, 21, 22, 23, 24, 25, 26, 27, 28, 29, 30, 31] 195 rfl rfl (by kernel_rfl) (by kernel_rfl) (by kernel_rfl) (by kernel_rfl) (by kernel_rfl) (fun hsz hon => ⟨?_, ?_, ?_, ?_, ?_, ?_, ?_, ?_, ?_, ?_, ?_, ?_, ?_, ?_, ?_, ?_, ?_, ?_, ?_, ?_, ?_, ?_, ?_, ?_, ?_, ?_, ?_, ?_, ?_, ?_, ?_, ?_, trivial⟩) ?_
            · refine RegQ.step_in (by kernel_rfl) ?_
              intro A hA W hW
              obtain ⟨qn, rfl⟩ := hW
              have r13 : A.tmps[13]?.getD undef = .pointer (some ⟨q, 0, none⟩) := RegQ.outG hA (by kernel_rfl) rfl
              clear hA
              unfold Oper.quietAt
              go_simp
            · refine RegQ.step_in (by kernel_rfl) ?_
              intro A hA W hW
              obtain ⟨qn, rfl⟩ := hW
              have r72 : A.tmps[72]?.getD undef = .pointer (some ⟨q, 1, none⟩) := RegQ.inG (j := 0) hA hsz rfl (by kernel_rfl) (by decide) rfl
              clear hA
              unfold Oper.quietAt
              go_simp
            · refine RegQ.step_in (by kernel_rfl) ?_
              intro A hA W hW
              obtain ⟨qn, rfl⟩ := hW
              have r73 : A.tmps[73]?.getD undef = .int .i64 (d : Int) := RegQ.inG (j := 1) hA hsz rfl (by kernel_rfl) (by decide) rfl
              clear hA
              unfold Oper.quietAt
              go_simp
            · refine RegQ.step_in (by kernel_rfl) ?_
              intro A hA W hW
              obtain ⟨qn, rfl⟩ := hW
              have r74 : A.tmps[74]?.getD undef = .bool true := RegQ.inG (j := 2) hA hsz rfl (by kernel_rfl) (by decide) rfl
              clear hA
              unfold Oper.quietAt
              go_simp
            · refine RegQ.step_in (by kernel_rfl) ?_
              intro A hA W hW
              obtain ⟨qn, rfl⟩ := hW
              have r13 : A.tmps[13]?.getD undef = .pointer (some ⟨q, 0, none⟩) := RegQ.outG hA (by kernel_rfl) rfl
              clear hA
              unfold Oper.quietAt
              go_simp
            · refine RegQ.step_in (by kernel_rfl) ?_
              intro A hA W hW
              obtain ⟨qn, rfl⟩ := hW
              have r76 : A.tmps[76]?.getD undef = .pointer (some ⟨q, 1, none⟩) := RegQ.inG (j := 4) hA hsz rfl (by kernel_rfl) (by decide) rfl
              clear hA
              unfold Oper.quietAt
              go_simp
            · refine RegQ.step_in (by kernel_rfl) ?_
              intro A hA W hW
              obtain ⟨qn, rfl⟩ := hW
              have r0 : A.tmps[0]?.getD undef = .slice AA n cap := RegQ.outG hA (by kernel_rfl) rfl
              clear hA
              unfold Oper.quietAt
              go_simp
            · refine RegQ.step_in (by kernel_rfl) ?_
              intro A hA W hW
              obtain ⟨qn, rfl⟩ := hW
              have r78 : A.tmps[78]?.getD undef = .slice AA n cap := RegQ.inG (j := 6) hA hsz rfl (by kernel_rfl) (by decide) rfl
              clear hA
              unfold Oper.quietAt
              go_simp
            · refine RegQ.step_in (by kernel_rfl) ?_
              intro A hA W hW
              obtain ⟨qn, rfl⟩ := hW
              have r77 : A.tmps[77]?.getD undef = .int .i64 (d : Int) := RegQ.inG (j := 5) hA hsz rfl (by kernel_rfl) (by decide) rfl
              have r79 : A.tmps[79]?.getD undef = .int .i64 (n : Int) := RegQ.inG (j := 7) hA hsz rfl (by kernel_rfl) (by decide) rfl
              clear hA
              unfold Oper.quietAt
              go_simp
            · refine RegQ.step_in (by kernel_rfl) ?_
              intro A hA W hW
              obtain ⟨qn, rfl⟩ := hW
              have r75 : A.tmps[75]?.getD undef = .bool true := RegQ.inG (j := 3) hA hsz rfl (by kernel_rfl) (by decide) rfl
              have r80 : A.tmps[80]?.getD undef = .bool true := RegQ.inG (j := 8) hA hsz rfl (by kernel_rfl) (by decide) rfl
              clear hA
              unfold Oper.quietAt
              go_simp
            · refine RegQ.step_in (by kernel_rfl) ?_
              intro A hA W hW
              obtain ⟨qn, rfl⟩ := hW
              have r81 : A.tmps[81]?.getD undef = .bool true := RegQ.inG (j := 9) hA hsz rfl (by kernel_rfl) (by decide) rfl
              clear hA
              unfold Oper.quietAt
              go_simp
            · refine RegQ.step_in (by kernel_rfl) ?_
              intro A hA W hW
              obtain ⟨qn, rfl⟩ := hW
              have r13 : A.tmps[13]?.getD undef = .pointer (some ⟨q, 0, none⟩) := RegQ.outG hA (by kernel_rfl) rfl
              clear hA
              unfold Oper.quietAt
              go_simp
            · refine RegQ.step_in (by kernel_rfl) ?_
              intro A hA W hW
              obtain ⟨qn, rfl⟩ := hW
              have r83 : A.tmps[83]?.getD undef = .pointer (some ⟨q, 0, none⟩) := RegQ.inG (j := 11) hA hsz rfl (by kernel_rfl) (by decide) rfl
              clear hA
              unfold Oper.quietAt
              go_simp
            · refine RegQ.step_in (by kernel_rfl) ?_
              intro A hA W hW
              obtain ⟨qn, rfl⟩ := hW
              have r84 : A.tmps[84]?.getD undef = .int .i64 e1 := RegQ.inG (j := 12) hA hsz rfl (by kernel_rfl) (by decide) rfl
              clear hA
              unfold Oper.quietAt
              go_simp
            · refine RegQ.step_in (by kernel_rfl) ?_
              intro A hA W hW
              obtain ⟨qn, rfl⟩ := hW
              have r82 : A.tmps[82]?.getD undef = .bool true := RegQ.inG (j := 10) hA hsz rfl (by kernel_rfl) (by decide) rfl
              have r85 : A.tmps[85]?.getD undef = .bool false := RegQ.inG (j := 13) hA hsz rfl (by kernel_rfl) (by decide) rfl
              clear hA
              unfold Oper.quietAt
              go_simp
            · refine RegQ.step_in (by kernel_rfl) ?_
              intro A hA W hW
              obtain ⟨qn, rfl⟩ := hW
              have r86 : A.tmps[86]?.getD undef = .bool false := RegQ.inG (j := 14) hA hsz rfl (by kernel_rfl) (by decide) rfl
              clear hA
              unfold Oper.quietAt
              go_simp
            · exact RegQ.step_no (by kernel_rfl) rfl
            · exact RegQ.step_no (by kernel_rfl) rfl
            · exact RegQ.step_no (by kernel_rfl) rfl
            · exact RegQ.step_no (by kernel_rfl) rfl
            · refine RegQ.step_in (by kernel_rfl) ?_
              intro A hA W hW
              obtain ⟨qn, rfl⟩ := hW
              have r87 : A.tmps[87]?.getD undef = .bool false := RegQ.inG (j := 15) hA hsz rfl (by kernel_rfl) (by decide) rfl
              have r91 : A.tmps[91]?.getD undef = undef := RegQ.inG (j := 19) hA hsz rfl (by kernel_rfl) (by decide) rfl
              clear hA
              unfold Oper.quietAt
              go_simp
            · refine RegQ.step_in (by kernel_rfl) ?_
              intro A hA W hW
              obtain ⟨qn, rfl⟩ := hW
              have r92 : A.tmps[92]?.getD undef = .bool false := RegQ.inG (j := 20) hA hsz rfl (by kernel_rfl) (by decide) rfl
              clear hA
              unfold Oper.quietAt
              go_simp
            · exact RegQ.step_no (by kernel_rfl) rfl
            · exact RegQ.step_no (by kernel_rfl) rfl
            · exact RegQ.step_no (by kernel_rfl) rfl
            · exact RegQ.step_no (by kernel_rfl) rfl
            · exact RegQ.step_no (by kernel_rfl) rfl
            · exact RegQ.step_no (by kernel_rfl) rfl
            · exact RegQ.step_no (by kernel_rfl) rfl
            · exact RegQ.step_no (by kernel_rfl) rfl
            · exact RegQ.step_no (by kernel_rfl) rfl
            · refine RegQ.step_in (by kernel_rfl) ?_
              intro A hA W hW
              obtain ⟨qn, rfl⟩ := hW
              have r93 : A.tmps[93]?.getD undef = .bool false := RegQ.inG (j := 21) hA hsz rfl (by kernel_rfl) (by decide) rfl
              have r102 : A.tmps[102]?.getD undef = undef := RegQ.inG (j := 30) hA hsz rfl (by kernel_rfl) (by decide) rfl
              clear hA
              unfold Oper.quietAt
              go_simp
            · intro qn
              simp only [Reg.putS, List.foldl, List.getD_cons_zero, List.getD_cons_succ, Act.put, List.setIfInBounds_toArray, List.set_cons_zero, List.set_cons_succ]
              have b9 := drewN_below (n := qn) (Below.refl W.heap.size W)
              have hS9 := hS8.below b9
              replace b9 := bW.trans (b9.mono bW.size)
              clear hS8 bW x0 x1 hq9
              generalize W.drewN qn = w9 at b9 hS9 ⊢
              go_wp2_with fail
              go_roundw
              case rel => exact ⟨k + 1, mm, hlt, by omega, by go_num, by rw [hT2.out]; exact hS9, b9⟩
              case measure => simp [intOf]; omega
        · have t2 : decide ((d : Int) < (n : Int)) = false := decide_eq_false (by omega)
          have t2' : decide (d < n) = false := decide_eq_false g2
          have hT2 : Hid (TT (k + 1) = TT k) := by
            show _ = _
            rw [hT1.out]; exact if_neg (fun h => by have h2 := h.2.1; have := hnh.out; simp only at h2; omega)
          clear hT1 hwx br g1
          go_wp2_with fail
          rw [← hWh.out, ← hqh.out]
          clear hWh l1 l2
          refine RegQ.wp_region_vals [some 72, some 73, some 74, some 75, some 76, some 77, some 78, some 79, some 80, some 81, some 82, some 83, some 84, some 85, some 86, some 87, some 88, some 89, some 90, some 91, some 92, some 93, some 94, some 95, some 96, some 97, some 98, some 99, some 100, some 101, some 102, some 103] [[], [0], [1], [2], [3], [4, 3], [3], [6, 3], [5, 7, 3], [3, 8], [9, 3], [10], [11, 10], [12, 10], [10, 13], [14, 10], [15], [16, 15], [15], [17, 18, 15], [15, 19], [20, 15], [21], [22, 21], [21], [21], [25, 21], [24, 26, 21], [27, 21], [28, 21], [23, 29, 21], [21, 30]] (fun iq => ([.pointer (some ⟨q, 1, none⟩), .int .i64 (d : Int), .bool true, .bool true, .pointer (some ⟨q, 1, none⟩), .int .i64 (d : Int), .slice AA n cap, .int .i64 (n : Int), .bool false, .bool false, .bool false, undef, undef, undef, .bool false, .bool false, undef, undef, undef, undef, .bool false, .bool false, undef, undef, undef, undef, undef, undef, undef, undef, undef, .bool false] : List Value).getD iq undef) [0, 1, 2, 3, 4, 5, 6, 7, 8, 9, 10, 11, 12, 13, 14, 15, 16, 17, 18, 19, 20, 21, 22, 23, 24, 25, 26, 27, 28, 29, 30, 31] 195 rfl rfl (by kernel_rfl) (by kernel_rfl) (by kernel_rfl) (by kernel_rfl) (by kernel_rfl) (fun hsz hon => ⟨?_, ?_, ?_, ?_, ?_, ?_, ?_, ?_, ?_, ?_, ?_, ?_, ?_, ?_, ?_, ?_, ?_, ?_, ?_, ?_, ?_, ?_, ?_, ?_, ?_, ?_, ?_, ?_, ?_, ?_, ?_, ?_, trivial⟩) ?_
          · refine RegQ.step_in (by kernel_rfl) ?_
            intro A hA W hW
            obtain ⟨qn, rfl⟩ := hW
            have r13 : A.tmps[13]?.getD undef = .pointer (some ⟨q, 0, none⟩) := RegQ.outG hA (by kernel_rfl) rfl
            clear hA
            unfold Oper.quietAt
            go_simp
          · refine RegQ.step_in (by kernel_rfl) ?_
            intro A hA W hW
            obtain ⟨qn, rfl⟩ := hW
            have r72 : A.tmps[72]?.getD undef = .pointer (some ⟨q, 1, none⟩) := RegQ.inG (j := 0) hA hsz rfl (by kernel_rfl) (by decide) rfl
            clear hA
            unfold Oper.quietAt
            go_simp
          · refine RegQ.step_in (by kernel_rfl) ?_
            intro A hA W hW
            obtain ⟨qn, rfl⟩ := hW
            have r73 : A.tmps[73]?.getD undef = .int .i64 (d : Int) := RegQ.inG (j := 1) hA hsz rfl (by kernel_rfl) (by decide) rfl
            clear hA
            unfold Oper.quietAt
            go_simp
          · refine RegQ.step_in (by kernel_rfl) ?_
            intro A hA W hW
            obtain ⟨qn, rfl⟩ := hW
            have r74 : A.tmps[74]?.getD undef = .bool true := RegQ.inG (j := 2) hA hsz rfl (by kernel_rfl) (by decide) rfl
            clear hA
            unfold Oper.quietAt
            go_simp
          · refine RegQ.step_in (by kernel_rfl) ?_
            intro A hA W hW
            obtain ⟨qn, rfl⟩ := hW
            have r13 : A.tmps[13]?.getD undef = .pointer (some ⟨q, 0, none⟩) := RegQ.outG hA (by kernel_rfl) rfl
            clear hA
            unfold Oper.quietAt
            go_simp
          · refine RegQ.step_in (by kernel_rfl) ?_
            intro A hA W hW
            obtain ⟨qn, rfl⟩ := hW
            have r76 : A.tmps[76]?.getD undef = .pointer (some ⟨q, 1, none⟩) := RegQ.inG (j := 4) hA hsz rfl (by kernel_rfl) (by decide) rfl
            clear hA
            unfold Oper.quietAt
            go_simp
          · refine RegQ.step_in (by kernel_rfl) ?_
            intro A hA W hW
            obtain ⟨qn, rfl⟩ := hW
            have r0 : A.tmps[0]?.getD undef = .slice AA n cap := RegQ.outG hA (by kernel_rfl) rfl
            clear hA
            unfold Oper.quietAt
            go_simp
          · refine RegQ.step_in (by kernel_rfl) ?_
            intro A hA W hW
            obtain ⟨qn, rfl⟩ := hW
            have r78 : A.tmps[78]?.getD undef = .slice AA n cap := RegQ.inG (j := 6) hA hsz rfl (by kernel_rfl) (by decide) rfl
            clear hA
            unfold Oper.quietAt
            go_simp
          · refine RegQ.step_in (by kernel_rfl) ?_
            intro A hA W hW
            obtain ⟨qn, rfl⟩ := hW
            have r77 : A.tmps[77]?.getD undef = .int .i64 (d : Int) := RegQ.inG (j := 5) hA hsz rfl (by kernel_rfl) (by decide) rfl
            have r79 : A.tmps[79]?.getD undef = .int .i64 (n : Int) := RegQ.inG (j := 7) hA hsz rfl (by kernel_rfl) (by decide) rfl
            clear hA
            unfold Oper.quietAt
            go_simp
          · refine RegQ.step_in (by kernel_rfl) ?_
            intro A hA W hW
            obtain ⟨qn, rfl⟩ := hW
            have r75 : A.tmps[75]?.getD undef = .bool true := RegQ.inG (j := 3) hA hsz rfl (by kernel_rfl) (by decide) rfl
            have r80 : A.tmps[80]?.getD undef = .bool false := RegQ.inG (j := 8) hA hsz rfl (by kernel_rfl) (by decide) rfl
            clear hA
            unfold Oper.quietAt
            go_simp
          · refine RegQ.step_in (by kernel_rfl) ?_
            intro A hA W hW
            obtain ⟨qn, rfl⟩ := hW
            have r81 : A.tmps[81]?.getD undef = .bool false := RegQ.inG (j := 9) hA hsz rfl (by kernel_rfl) (by decide) rfl
            clear hA
            unfold Oper.quietAt
            go_simp
          · exact RegQ.step_no (by kernel_rfl) rfl
          · exact RegQ.step_no (by kernel_rfl) rfl
          · exact RegQ.step_no (by kernel_rfl) rfl
          · refine RegQ.step_in (by kernel_rfl) ?_
            intro A hA W hW
            obtain ⟨qn, rfl⟩ := hW
            have r82 : A.tmps[82]?.getD undef = .bool false := RegQ.inG (j := 10) hA hsz rfl (by kernel_rfl) (by decide) rfl
            have r85 : A.tmps[85]?.getD undef = undef := RegQ.inG (j := 13) hA hsz rfl (by kernel_rfl) (by decide) rfl
            clear hA
            unfold Oper.quietAt
            go_simp
          · refine RegQ.step_in (by kernel_rfl) ?_
            intro A hA W hW
            obtain ⟨qn, rfl⟩ := hW
            have r86 : A.tmps[86]?.getD undef = .bool false := RegQ.inG (j := 14) hA hsz rfl (by kernel_rfl) (by decide) rfl
            clear hA
            unfold Oper.quietAt
            go_simp
          · exact RegQ.step_no (by kernel_rfl) rfl
          · exact RegQ.step_no (by kernel_rfl) rfl
          · exact RegQ.step_no (by kernel_rfl) rfl
          · exact RegQ.step_no (by kernel_rfl) rfl
          · refine RegQ.step_in (by kernel_rfl) ?_
            intro A hA W hW
            obtain ⟨qn, rfl⟩ := hW
            have r87 : A.tmps[87]?.getD undef = .bool false := RegQ.inG (j := 15) hA hsz rfl (by kernel_rfl) (by decide) rfl
            have r91 : A.tmps[91]?.getD undef = undef := RegQ.inG (j := 19) hA hsz rfl (by kernel_rfl) (by decide) rfl
            clear hA
            unfold Oper.quietAt
            go_simp
          · refine RegQ.step_in (by kernel_rfl) ?_
            intro A hA W hW
            obtain ⟨qn, rfl⟩ := hW
            have r92 : A.tmps[92]?.getD undef = .bool false := RegQ.inG (j := 20) hA hsz rfl (by kernel_rfl) (by decide) rfl
            clear hA
            unfold Oper.quietAt
            go_simp
          · exact RegQ.step_no (by kernel_rfl) rfl
          · exact RegQ.step_no (by kernel_rfl) rfl
          · exact RegQ.step_no (by kernel_rfl) rfl
          · exact RegQ.step_no (by kernel_rfl) rfl
          · exact RegQ.step_no (by kernel_rfl) rfl
          · exact RegQ.step_no (by kernel_rfl) rfl
          · exact RegQ.step_no (by kernel_rfl) rfl
          · exact RegQ.step_no (by kernel_rfl) rfl
          · exact RegQ.step_no (by kernel_rfl) rfl
          · refine RegQ.step_in (by kernel_rfl) ?_
            intro A hA W hW
            obtain ⟨qn, rfl⟩ := hW
            have r93 : A.tmps[93]?.getD undef = .bool false := RegQ.inG (j := 21) hA hsz rfl (by kernel_rfl) (by decide) rfl
            have r102 : A.tmps[102]?.getD undef = undef := RegQ.inG (j := 30) hA hsz rfl (by kernel_rfl) (by decide) rfl
            clear hA
            unfold Oper.quietAt
            go_simp
          · intro qn
            simp only [Reg.putS, List.foldl, List.getD_cons_zero, List.getD_cons_succ, Act.put, List.setIfInBounds_toArray, List.set_cons_zero, List.set_cons_succ]
            have b9 := drewN_below (n := qn) (Below.refl W.heap.size W)
            have hS9 := hS8.below b9
            replace b9 := bW.trans (b9.mono bW.size)
            clear hS8 bW x0 x1 hq9
            generalize W.drewN qn = w9 at b9 hS9 ⊢
            go_wp2_with fail
            go_roundw
            case rel => exact ⟨k + 1, mm, hlt, by omega, by go_num, by rw [hT2.out]; exact hS9, b9⟩
            case measure => simp [intOf]; omega
      · have t1 : decide (d1 ≥ 0) = false := decide_eq_false g1
        have hT2 : Hid (TT (k + 1) = TT k) := by
          show _ = _
          rw [hT1.out]; exact if_neg (fun h => by exact g1 h.1)
        clear hT1 hwx br g1
        go_wp2_with fail
        rw [← hWh.out, ← hqh.out]
        clear hWh l1 l2
        refine RegQ.wp_region_vals [some 72, some 73, some 74, some 75, some 76, some 77, some 78, some 79, some 80, some 81, some 82, some 83, some 84, some 85, some 86, some 87, some 88, some 89, some 90, some 91, some 92, some 93, some 94, some 95, some 96, some 97, some 98, some 99, some 100, some 101, some 102, some 103] [[], [0], [1], [2], [3], [4, 3], [3], [6, 3], [5, 7, 3], [3, 8], [9, 3], [10], [11, 10], [12, 10], [10, 13], [14, 10], [15], [16, 15], [15], [17, 18, 15], [15, 19], [20, 15], [21], [22, 21], [21], [21], [25, 21], [24, 26, 21], [27, 21], [28, 21], [23, 29, 21], [21, 30]] (fun iq => ([.pointer (some ⟨q, 1, none⟩), .int .i64 d1, .bool false, .bool false, undef, undef, undef, undef, undef, .bool false, .bool false, undef, undef, undef, .bool false, .bool false, undef, undef, undef, undef, .bool false, .bool false, undef, undef, undef, undef, undef, undef, undef, undef, undef, .bool false] : List Value).getD iq undef) [0, 1, 2, 3, 4, 5, 6, 7, 8, 9, 10, 11, 12, 13, 14, 15, 16, 17, 18, 19, 20, 21, 22, 23, 24, 25, 26, 27, 28, 29, 30, 31] 195 rfl rfl (by kernel_rfl) (by kernel_rfl) (by kernel_rfl) (by kernel_rfl) (by kernel_rfl) (fun hsz hon => ⟨?_, ?_, ?_, ?_, ?_, ?_, ?_, ?_, ?_, ?_, ?_, ?_, ?_, ?_, ?_, ?_, ?_, ?_, ?_, ?_, ?_, ?_, ?_, ?_, ?_, ?_, ?_, ?_, ?_, ?_, ?_, ?_, trivial⟩) ?_
        · refine RegQ.step_in (by kernel_rfl) ?_
          intro A hA W hW
          obtain ⟨qn, rfl⟩ := hW
          have r13 : A.tmps[13]?.getD undef = .pointer (some ⟨q, 0, none⟩) := RegQ.outG hA (by kernel_rfl) rfl
          clear hA
          unfold Oper.quietAt
          go_simp
        · refine RegQ.step_in (by kernel_rfl) ?_
          intro A hA W hW
          obtain ⟨qn, rfl⟩ := hW
          have r72 : A.tmps[72]?.getD undef = .pointer (some ⟨q, 1, none⟩) := RegQ.inG (j := 0) hA hsz rfl (by kernel_rfl) (by decide) rfl
          clear hA
          unfold Oper.quietAt
          go_simp
        · refine RegQ.step_in (by kernel_rfl) ?_
          intro A hA W hW
          obtain ⟨qn, rfl⟩ := hW
          have r73 : A.tmps[73]?.getD undef = .int .i64 d1 := RegQ.inG (j := 1) hA hsz rfl (by kernel_rfl) (by decide) rfl
          clear hA
          unfold Oper.quietAt
          go_simp
        · refine RegQ.step_in (by kernel_rfl) ?_
          intro A hA W hW
          obtain ⟨qn, rfl⟩ := hW
          have r74 : A.tmps[74]?.getD undef = .bool false := RegQ.inG (j := 2) hA hsz rfl (by kernel_rfl) (by decide) rfl
          clear hA
          unfold Oper.quietAt
          go_simp
        · exact RegQ.step_no (by kernel_rfl) rfl
        · exact RegQ.step_no (by kernel_rfl) rfl
        · exact RegQ.step_no (by kernel_rfl) rfl
        · exact RegQ.step_no (by kernel_rfl) rfl
        · exact RegQ.step_no (by kernel_rfl) rfl
        · refine RegQ.step_in (by kernel_rfl) ?_
          intro A hA W hW
          obtain ⟨qn, rfl⟩ := hW
          have r75 : A.tmps[75]?.getD undef = .bool false := RegQ.inG (j := 3) hA hsz rfl (by kernel_rfl) (by decide) rfl
          have r80 : A.tmps[80]?.getD undef = undef := RegQ.inG (j := 8) hA hsz rfl (by kernel_rfl) (by decide) rfl
          clear hA
          unfold Oper.quietAt
          go_simp
        · refine RegQ.step_in (by kernel_rfl) ?_
          intro A hA W hW
          obtain ⟨qn, rfl⟩ := hW
          have r81 : A.tmps[81]?.getD undef = .bool false := RegQ.inG (j := 9) hA hsz rfl (by kernel_rfl) (by decide) rfl
          clear hA
          unfold Oper.quietAt
          go_simp
        · exact RegQ.step_no (by kernel_rfl) rfl
        · exact RegQ.step_no (by kernel_rfl) rfl
        · exact RegQ.step_no (by kernel_rfl) rfl
        · refine RegQ.step_in (by kernel_rfl) ?_
          intro A hA W hW
          obtain ⟨qn, rfl⟩ := hW
          have r82 : A.tmps[82]?.getD undef = .bool false := RegQ.inG (j := 10) hA hsz rfl (by kernel_rfl) (by decide) rfl
          have r85 : A.tmps[85]?.getD undef = undef := RegQ.inG (j := 13) hA hsz rfl (by kernel_rfl) (by decide) rfl
          clear hA
          unfold Oper.quietAt
          go_simp
        · refine RegQ.step_in (by kernel_rfl) ?_
          intro A hA W hW
          obtain ⟨qn, rfl⟩ := hW
          have r86 : A.tmps[86]?.getD undef = .bool false := RegQ.inG (j := 14) hA hsz rfl (by kernel_rfl) (by decide) rfl
          clear hA
          unfold Oper.quietAt
          go_simp
        · exact RegQ.step_no (by kernel_rfl) rfl
        · exact RegQ.step_no (by kernel_rfl) rfl
        · exact RegQ.step_no (by kernel_rfl) rfl
        · exact RegQ.step_no (by kernel_rfl) rfl
        · refine RegQ.step_in (by kernel_rfl) ?_
          intro A hA W hW
          obtain ⟨qn, rfl⟩ := hW
          have r87 : A.tmps[87]?.getD undef = .bool false := RegQ.inG (j := 15) hA hsz rfl (by kernel_rfl) (by decide) rfl
          have r91 : A.tmps[91]?.getD undef = undef := RegQ.inG (j := 19) hA hsz rfl (by kernel_rfl) (by decide) rfl
          clear hA
          unfold Oper.quietAt
          go_simp
        · refine RegQ.step_in (by kernel_rfl) ?_
          intro A hA W hW
          obtain ⟨qn, rfl⟩ := hW
          have r92 : A.tmps[92]?.getD undef = .bool false := RegQ.inG (j := 20) hA hsz rfl (by kernel_rfl) (by decide) rfl
          clear hA
          unfold Oper.quietAt
          go_simp
        · exact RegQ.step_no (by kernel_rfl) rfl
        · exact RegQ.step_no (by kernel_rfl) rfl
        · exact RegQ.step_no (by kernel_rfl) rfl
        · exact RegQ.step_no (by kernel_rfl) rfl
        · exact RegQ.step_no (by kernel_rfl) rfl
        · exact RegQ.step_no (by kernel_rfl) rfl
        · exact RegQ.step_no (by kernel_rfl) rfl
        · exact RegQ.step_no (by kernel_rfl) rfl
        · exact RegQ.step_no (by kernel_rfl) rfl
        · refine RegQ.step_in (by kernel_rfl) ?_
          intro A hA W hW
          obtain ⟨qn, rfl⟩ := hW
          have r93 : A.tmps[93]?.getD undef = .bool false := RegQ.inG (j := 21) hA hsz rfl (by kernel_rfl) (by decide) rfl
          have r102 : A.tmps[102]?.getD undef = undef := RegQ.inG (j := 30) hA hsz rfl (by kernel_rfl) (by decide) rfl
          clear hA
          unfold Oper.quietAt
          go_simp
        · intro qn
          simp only [Reg.putS, List.foldl, List.getD_cons_zero, List.getD_cons_succ, Act.put, List.setIfInBounds_toArray, List.set_cons_zero, List.set_cons_succ]
          have b9 := drewN_below (n := qn) (Below.refl W.heap.size W)
          have hS9 := hS8.below b9
          replace b9 := bW.trans (b9.mono bW.size)
          clear hS8 bW x0 x1 hq9
          generalize W.drewN qn = w9 at b9 hS9 ⊢
          go_wp2_with fail
          go_roundw
          case rel => exact ⟨k + 1, mm, hlt, by omega, by go_num, by rw [hT2.out]; exact hS9, b9⟩
          case measure => simp [intOf]; omega
    · have hkd : ¬ (k : Int) < (mh : Int) := by omega
      have hkd2 : decide ((k : Int) < (mh : Int)) = false := decide_eq_false hkd
      have hkm : k = H.length := by have := hmh.out; omega
      rw [hkm, hTe.out] at hSr
      clear hkm
      obtain ⟨wA, hwwA⟩ : ∃ wA, wA = wr := ⟨wr, rfl⟩
      subst hwwA
      have hSrh : Hid (SeH.SetAt wA bm mm (hasT zs n0 H)) := hSr
      have brh : Hid (Below w4.heap.size w4 wA) := br
      clear hSr br
      go_wp2_with fail
      go_loopw [14, 109] (fun s14 s109 wr2 => ∃ i sm : Nat, i ≤ ln ∧ s14 = .int .i64 (sm : Int) ∧ s109 = .int .i64 (i : Int) ∧ Hid (sm = sumL (L.take i)) ∧ Below wA.heap.size wA wr2) (fun _ s109 _ => ln - (intOf s109).toNat)
      case atStart => exact ⟨0, 0, Nat.zero_le _, rfl, rfl, rfl, Below.refl _ _⟩
      case round =>
        obtain ⟨i, sm, hi, rfl, rfl, hsm, b6⟩ := hrel
        obtain ⟨wB, hwwB⟩ : ∃ wB, wB = wr := ⟨wr, rfl⟩
        subst hwwB
        by_cases hil : i < ln
        · have hid : decide ((i : Int) < (ln : Int)) = true := decide_eq_true (by omega)
          have hiz : (i : Int) < (ln : Int) := by omega
          obtain ⟨g, rfl, hR⟩ := hgot.out (by omega)
          have hiL : i < L.length := by rw [hLn.out]; exact hil
          obtain ⟨V1, c1, hcg5, hA1, hmc⟩ := rws_row2 (hR.below brh.out) hiL
          have hsum := hSum.out i hiL
          have hss := sum_succ hiL
          rw [← hsm.out] at hsum hss
          obtain ⟨RW, hRW⟩ : ∃ RW, L.getD i [] = RW := ⟨_, rfl⟩
          rw [hRW] at hcg5 hA1 hmc hsum hss
          have hmem : Hid (∀ k, k ∈ RW → hitOf (szk zs) i k ∈ hasT zs n0 H ∧ k < zs.length) := fun k hk => hG.out.has i k (by rw [hRW]; exact hk)
          have hnod : Hid RW.Nodup := by show RW.Nodup; rw [← hRW]; exact hG.out.nodup i
          have hsor : Hid (RW.Pairwise fun x y => szk zs y ≤ szk zs x) := by have := hG.out.sorted i; rw [hRW] at this; exact this
          obtain ⟨m, hm⟩ : ∃ m, RW.length = m := ⟨_, rfl⟩
          have hmr : Hid (RW.length = m) := hm
          rw [hm] at hcg5 hmc hsum hss
          have hcg6 := pw_cell_below b6 hcg5
          have hcgA : Hid (wA.cell? ⟨g, i, none⟩ = some (.slice V1 m c1)) := hcg5
          have hssh : Hid (sumL (L.take (i + 1)) = sm + m) := hss
          have z1 : IntKind.i64.wrap ((i : Int) + 1) = (i : Int) + 1 := by rw [IntKind.wrap_i64]; omega
          have hA1h : Hid (LkS.At wA V1 (LkS.toI RW)) := hA1
          clear hRW hm hiL hR hss hA1 hcg5
          go_wp2_with fail
          go_loopw [14, 117] (fun s14 s117 wr4 => ∃ j s1 : Nat, j ≤ m ∧ s14 = .int .i64 (s1 : Int) ∧ s117 = .int .i64 (j : Int) ∧ Hid (s1 = sm + j) ∧ Below wA.heap.size wA wr4) (fun _ s117 _ => m - (intOf s117).toNat)
          case atStart => exact ⟨0, sm, Nat.zero_le _, rfl, rfl, rfl, b6⟩
          case round =>
            obtain ⟨j, s1, hj, rfl, rfl, hs1, b8⟩ := hrel
            obtain ⟨w8, hww8⟩ : ∃ w8, w8 = wr := ⟨wr, rfl⟩
            subst hww8
            by_cases hjm : j < m
            · have hjd : decide ((j : Int) < (m : Int)) = true := decide_eq_true (by omega)
              have hjz : (j : Int) < (m : Int) := by omega
              have hcg8 := pw_cell_below b8 hcgA.out
              obtain ⟨gb, ob, rfl, _, hcl⟩ := hA1h.out (by rw [toI_len, hmr.out]; omega)
              have hcR8 : Hid (∀ o, o < m → w8.cell? ⟨gb, ob + o, none⟩ = some (.int .i64 ((RW.getD o 0 : Nat) : Int))) := by
                intro o ho
                have h := pw_cell_below b8 (hcl o (by rw [toI_len, hmr.out]; exact ho))
                rw [toI_at (by rw [hmr.out]; exact ho)] at h
                exact h
              obtain ⟨k, hk⟩ : ∃ k, RW.getD j 0 = k := ⟨_, rfl⟩
              have x1 := hcR8.out j hjm
              rw [hk] at x1
              have hkm : k ∈ RW := by
                rw [← hk, List.getD_eq_getElem?_getD, List.getElem?_eq_getElem (by rw [hmr.out]; exact hjm)]; exact List.getElem_mem _
              obtain ⟨hhas, hkz⟩ := hmem.out k hkm
              have hkn : k < n := by rw [hnh.out]; exact hkz
              have hknz : (k : Int) < (n : Int) := by omega
              have e1 : decide ((k : Int) < 0) = false := decide_eq_false (by omega)
              have e2 : decide ((k : Int) ≥ (n : Int)) = false := decide_eq_false (by omega)
              obtain ⟨bA, oA, rfl, _, hcA⟩ := hat4.out (by omega)
              have bw4 : Below w4.heap.size w4 w8 := brh.out.trans (b8.mono brh.out.size)
              have hcAh : Hid (∀ o, o < zs.length → w8.cell? ⟨bA, oA + o, none⟩ = some (.string (zs.getD o ByteArray.empty))) := fun o ho => pw_cell_below bw4 (hcA o ho)
              have x2 := hcAh.out k hkz
              obtain ⟨z, hz0⟩ : ∃ z, zs.getD k ByteArray.empty = z := ⟨_, rfl⟩
              rw [hz0] at x2
              have hzs : szk zs k = z.size := by unfold szk; rw [hz0]
              have hz1k : z.size ≤ 1000 := by rw [← hzs]; exact hs.out k
              obtain ⟨il, hilv⟩ : ∃ il, i + z.size = il := ⟨_, rfl⟩
              have zil : IntKind.i64.wrap ((i : Int) + (z.size : Int)) = (il : Int) := by rw [IntKind.wrap_i64]; omega
              have hlk : ∀ qk, (Instr.lookup 33 (.map (some bm)) (.agg #[.int .i64 (il : Int), .int .i64 (k : Int)]) false).run Try.prog (w8.drewN qk) = .ok (.bool true) (w8.drewN qk) := fun qk => by
                have hS := (hSrh.out.below b8).below (drewN_below (n := qk) (Below.refl _ w8))
                have h := hS.look (c := ((il : Int), (k : Int))) ⟨TrM.wf_nat (by omega), TrM.wf_nat (by omega)⟩
                have hin : decide (((il : Int), (k : Int)) ∈ hasT zs n0 H) = true := decide_eq_true (by unfold hitOf at hhas; rw [hzs, hilv] at hhas; exact hhas)
                rw [hin] at h; exact h
              have hnd : Hid (∀ o, o < j → RW.getD o 0 ≠ k) := by
                intro o ho
                have hol : o < RW.length := by rw [hmr.out]; omega
                have hjl : j < RW.length := by rw [hmr.out]; exact hjm
                have h := List.pairwise_iff_getElem.1 hnod.out o j hol hjl ho
                rw [List.getD_eq_getElem?_getD, List.getElem?_eq_getElem hjl] at hk
                rw [List.getD_eq_getElem?_getD, List.getElem?_eq_getElem hol]
                exact fun e => h (e.trans hk.symm)
              have hs1b : s1 ≤ 100 := by have := hs1.out; omega
              have zs1 : IntKind.i64.wrap ((s1 : Int) + 1) = (s1 : Int) + 1 := by rw [IntKind.wrap_i64]; omega
              have zj1 : IntKind.i64.wrap ((j : Int) + 1) = (j : Int) + 1 := by rw [IntKind.wrap_i64]; omega
              have hilz : (i : Int) < (ln : Int) := by omega
              by_cases hj0 : j = 0
              · have u0 : decide ((j : Int) > 0) = false := by rw [hj0]; rfl
                have u0' : decide (0 < j) = false := by rw [hj0]; rfl
                clear hj0 hk hkm hhas hz0 hzs hilv hcA hcl bw4 hcg6 b6 hkz
                go_wp2_with fail
                refine RegQ.wp_region_vals [some 122, some 123, some 124, some 125, some 126, some 127, some 128, some 129, some 130, some 131, some 132, some 133, some 134, some 135, some 136, some 137, some 138, some 139, some 140, some 141, some 142, some 143, some 144, some 145, some 146, some 147, some 148, some 149, some 150, some 151, some 152, some 153, some 154, some 155, some 156, some 157, some 158, some 159, some 160, some 161, some 162, some 163, some 164, some 165, some 166, some 167] [[], [0], [1], [2], [2], [4, 2], [3, 5, 2], [2, 6], [7, 2], [8], [8], [8], [8], [11, 12, 8], [13, 8], [14, 8], [10, 15, 8], [8], [16, 17, 8], [9, 18, 8], [19, 8], [8, 20], [21, 8], [22], [23, 22], [24, 22, 22], [25], [25], [25], [27, 28, 25], [29, 25], [25], [31, 25], [30, 32, 25], [33, 25], [26, 34, 25], [35, 25], [36, 25], [25], [25], [38, 39, 25], [40, 25], [41, 25], [37, 42, 25], [25, 43, 22], [22, 44]] (fun iq => ([.int .i64 (k : Int), .bool false, .bool false, .int .i64 (k : Int), .slice (some ⟨bA, oA, none⟩) n cap, .int .i64 (n : Int), .bool false, .bool false, .bool false, .map (some bm), .int .i64 (i : Int), .slice (some ⟨bA, oA, none⟩) n cap, .int .i64 (k : Int), .pointer (some ⟨bA, oA + k, none⟩), .string z, .int .i64 (z.size : Int), .int .i64 (il : Int), .int .i64 (k : Int), .agg #[.int .i64 (il : Int), .int .i64 (k : Int)], .bool true, .bool false, .bool false, .bool false, .int .i64 (j : Int), .bool false, .bool false, undef, undef, undef, undef, undef, undef, undef, undef, undef, undef, undef, undef, undef, undef, undef, undef, undef, undef, .bool false, .bool false] : List Value).getD iq undef) [0, 1, 2, 3, 4, 5, 6, 7, 8, 9, 10, 11, 12, 13, 14, 15, 16, 17, 18, 19, 20, 21, 22, 23, 24, 25, 26, 27, 28, 29, 30, 31, 32, 33, 34, 35, 36, 37, 38, 39, 40, 41, 42, 43, 44, 45] 195 rfl rfl (by kernel_rfl) (by kernel_rfl) (by kernel_rfl) (by kernel_rfl) (by kernel_rfl) (fun hsz hon => ⟨?_, ?_, ?_, ?_, ?_, ?_, ?_, ?_, ?_, ?_, ?_, ?_, ?_, ?_, ?_, ?_, ?_, ?_, ?_, ?_, ?_, ?_, ?_, ?_, ?_, ?_, ?_, ?_, ?_, ?_, ?_, ?_, ?_, ?_, ?_, ?_, ?_, ?_, ?_, ?_, ?_, ?_, ?_, ?_, ?_, ?_, trivial⟩) ?_
                · refine RegQ.step_in (by kernel_rfl) ?_
                  intro A hA W hW
                  obtain ⟨qn, rfl⟩ := hW
                  have r17 : A.tmps[17]?.getD undef = .int .i64 (k : Int) := RegQ.outG hA (by kernel_rfl) rfl
                  clear hA
                  unfold Oper.quietAt
                  go_simp
                · refine RegQ.step_in (by kernel_rfl) ?_
                  intro A hA W hW
                  obtain ⟨qn, rfl⟩ := hW
                  have r122 : A.tmps[122]?.getD undef = .int .i64 (k : Int) := RegQ.inG (j := 0) hA hsz rfl (by kernel_rfl) (by decide) rfl
                  clear hA
                  unfold Oper.quietAt
                  go_simp
                · refine RegQ.step_in (by kernel_rfl) ?_
                  intro A hA W hW
                  obtain ⟨qn, rfl⟩ := hW
                  have r123 : A.tmps[123]?.getD undef = .bool false := RegQ.inG (j := 1) hA hsz rfl (by kernel_rfl) (by decide) rfl
                  clear hA
                  unfold Oper.quietAt
                  go_simp
                · refine RegQ.step_in (by kernel_rfl) ?_
                  intro A hA W hW
                  obtain ⟨qn, rfl⟩ := hW
                  have r17 : A.tmps[17]?.getD undef = .int .i64 (k : Int) := RegQ.outG hA (by kernel_rfl) rfl
                  clear hA
                  unfold Oper.quietAt
                  go_simp
                · refine RegQ.step_in (by kernel_rfl) ?_
                  intro A hA W hW
                  obtain ⟨qn, rfl⟩ := hW
                  have r0 : A.tmps[0]?.getD undef = .slice (some ⟨bA, oA, none⟩) n cap := RegQ.outG hA (by kernel_rfl) rfl
                  clear hA
                  unfold Oper.quietAt
                  go_simp
                · refine RegQ.step_in (by kernel_rfl) ?_
                  intro A hA W hW
                  obtain ⟨qn, rfl⟩ := hW
                  have r126 : A.tmps[126]?.getD undef = .slice (some ⟨bA, oA, none⟩) n cap := RegQ.inG (j := 4) hA hsz rfl (by kernel_rfl) (by decide) rfl
                  clear hA
                  unfold Oper.quietAt
                  go_simp
                · refine RegQ.step_in (by kernel_rfl) ?_
                  intro A hA W hW
                  obtain ⟨qn, rfl⟩ := hW
                  have r125 : A.tmps[125]?.getD undef = .int .i64 (k : Int) := RegQ.inG (j := 3) hA hsz rfl (by kernel_rfl) (by decide) rfl
                  have r127 : A.tmps[127]?.getD undef = .int .i64 (n : Int) := RegQ.inG (j := 5) hA hsz rfl (by kernel_rfl) (by decide) rfl
                  clear hA
                  unfold Oper.quietAt
                  go_simp
                · refine RegQ.step_in (by kernel_rfl) ?_
                  intro A hA W hW
                  obtain ⟨qn, rfl⟩ := hW
                  have r124 : A.tmps[124]?.getD undef = .bool false := RegQ.inG (j := 2) hA hsz rfl (by kernel_rfl) (by decide) rfl
                  have r128 : A.tmps[128]?.getD undef = .bool false := RegQ.inG (j := 6) hA hsz rfl (by kernel_rfl) (by decide) rfl
                  clear hA
                  unfold Oper.quietAt
                  go_simp
                · refine RegQ.step_in (by kernel_rfl) ?_
                  intro A hA W hW
                  obtain ⟨qn, rfl⟩ := hW
                  have r129 : A.tmps[129]?.getD undef = .bool false := RegQ.inG (j := 7) hA hsz rfl (by kernel_rfl) (by decide) rfl
                  clear hA
                  unfold Oper.quietAt
                  go_simp
                · refine RegQ.step_in (by kernel_rfl) ?_
                  intro A hA W hW
                  obtain ⟨qn, rfl⟩ := hW
                  have r11 : A.tmps[11]?.getD undef = .map (some bm) := RegQ.outG hA (by kernel_rfl) rfl
                  clear hA
                  unfold Oper.quietAt
                  go_simp
                · refine RegQ.step_in (by kernel_rfl) ?_
                  intro A hA W hW
                  obtain ⟨qn, rfl⟩ := hW
                  have r15 : A.tmps[15]?.getD undef = .int .i64 (i : Int) := RegQ.outG hA (by kernel_rfl) rfl
                  clear hA
                  unfold Oper.quietAt
                  go_simp
                · refine RegQ.step_in (by kernel_rfl) ?_
                  intro A hA W hW
                  obtain ⟨qn, rfl⟩ := hW
                  have r0 : A.tmps[0]?.getD undef = .slice (some ⟨bA, oA, none⟩) n cap := RegQ.outG hA (by kernel_rfl) rfl
                  clear hA
                  unfold Oper.quietAt
                  go_simp
                · refine RegQ.step_in (by kernel_rfl) ?_
                  intro A hA W hW
                  obtain ⟨qn, rfl⟩ := hW
                  have r17 : A.tmps[17]?.getD undef = .int .i64 (k : Int) := RegQ.outG hA (by kernel_rfl) rfl
                  clear hA
                  unfold Oper.quietAt
                  go_simp
                · refine RegQ.step_in (by kernel_rfl) ?_
                  intro A hA W hW
                  obtain ⟨qn, rfl⟩ := hW
                  have r133 : A.tmps[133]?.getD undef = .slice (some ⟨bA, oA, none⟩) n cap := RegQ.inG (j := 11) hA hsz rfl (by kernel_rfl) (by decide) rfl
                  have r134 : A.tmps[134]?.getD undef = .int .i64 (k : Int) := RegQ.inG (j := 12) hA hsz rfl (by kernel_rfl) (by decide) rfl
                  clear hA
                  unfold Oper.quietAt
                  go_simp
                · refine RegQ.step_in (by kernel_rfl) ?_
                  intro A hA W hW
                  obtain ⟨qn, rfl⟩ := hW
                  have r135 : A.tmps[135]?.getD undef = .pointer (some ⟨bA, oA + k, none⟩) := RegQ.inG (j := 13) hA hsz rfl (by kernel_rfl) (by decide) rfl
                  clear hA
                  unfold Oper.quietAt
                  go_simp
                · refine RegQ.step_in (by kernel_rfl) ?_
                  intro A hA W hW
                  obtain ⟨qn, rfl⟩ := hW
                  have r136 : A.tmps[136]?.getD undef = .string z := RegQ.inG (j := 14) hA hsz rfl (by kernel_rfl) (by decide) rfl
                  clear hA
                  unfold Oper.quietAt
                  go_simp
                · refine RegQ.step_in (by kernel_rfl) ?_
                  intro A hA W hW
                  obtain ⟨qn, rfl⟩ := hW
                  have r132 : A.tmps[132]?.getD undef = .int .i64 (i : Int) := RegQ.inG (j := 10) hA hsz rfl (by kernel_rfl) (by decide) rfl
                  have r137 : A.tmps[137]?.getD undef = .int .i64 (z.size : Int) := RegQ.inG (j := 15) hA hsz rfl (by kernel_rfl) (by decide) rfl
                  clear hA
                  unfold Oper.quietAt
                  go_simp
                · refine RegQ.step_in (by kernel_rfl) ?_
                  intro A hA W hW
                  obtain ⟨qn, rfl⟩ := hW
                  have r17 : A.tmps[17]?.getD undef = .int .i64 (k : Int) := RegQ.outG hA (by kernel_rfl) rfl
                  clear hA
                  unfold Oper.quietAt
                  go_simp
                · refine RegQ.step_in (by kernel_rfl) ?_
                  intro A hA W hW
                  obtain ⟨qn, rfl⟩ := hW
                  have r138 : A.tmps[138]?.getD undef = .int .i64 (il : Int) := RegQ.inG (j := 16) hA hsz rfl (by kernel_rfl) (by decide) rfl
                  have r139 : A.tmps[139]?.getD undef = .int .i64 (k : Int) := RegQ.inG (j := 17) hA hsz rfl (by kernel_rfl) (by decide) rfl
                  clear hA
                  unfold Oper.quietAt
                  go_simp
                · refine RegQ.step_in (by kernel_rfl) ?_
                  intro A hA W hW
                  obtain ⟨qn, rfl⟩ := hW
                  have r131 : A.tmps[131]?.getD undef = .map (some bm) := RegQ.inG (j := 9) hA hsz rfl (by kernel_rfl) (by decide) rfl
                  have r140 : A.tmps[140]?.getD undef = .agg #[.int .i64 (il : Int), .int .i64 (k : Int)] := RegQ.inG (j := 18) hA hsz rfl (by kernel_rfl) (by decide) rfl
                  clear hA
                  unfold Oper.quietAt
                  go_simp
                · refine RegQ.step_in (by kernel_rfl) ?_
                  intro A hA W hW
                  obtain ⟨qn, rfl⟩ := hW
                  have r141 : A.tmps[141]?.getD undef = .bool true := RegQ.inG (j := 19) hA hsz rfl (by kernel_rfl) (by decide) rfl
                  clear hA
                  unfold Oper.quietAt
                  go_simp
                · refine RegQ.step_in (by kernel_rfl) ?_
                  intro A hA W hW
                  obtain ⟨qn, rfl⟩ := hW
                  have r130 : A.tmps[130]?.getD undef = .bool false := RegQ.inG (j := 8) hA hsz rfl (by kernel_rfl) (by decide) rfl
                  have r142 : A.tmps[142]?.getD undef = .bool false := RegQ.inG (j := 20) hA hsz rfl (by kernel_rfl) (by decide) rfl
                  clear hA
                  unfold Oper.quietAt
                  go_simp
                · refine RegQ.step_in (by kernel_rfl) ?_
                  intro A hA W hW
                  obtain ⟨qn, rfl⟩ := hW
                  have r143 : A.tmps[143]?.getD undef = .bool false := RegQ.inG (j := 21) hA hsz rfl (by kernel_rfl) (by decide) rfl
                  clear hA
                  unfold Oper.quietAt
                  go_simp
                · refine RegQ.step_in (by kernel_rfl) ?_
                  intro A hA W hW
                  obtain ⟨qn, rfl⟩ := hW
                  have r16 : A.tmps[16]?.getD undef = .int .i64 (j : Int) := RegQ.outG hA (by kernel_rfl) rfl
                  clear hA
                  unfold Oper.quietAt
                  go_simp
                · refine RegQ.step_in (by kernel_rfl) ?_
                  intro A hA W hW
                  obtain ⟨qn, rfl⟩ := hW
                  have r145 : A.tmps[145]?.getD undef = .int .i64 (j : Int) := RegQ.inG (j := 23) hA hsz rfl (by kernel_rfl) (by decide) rfl
                  clear hA
                  unfold Oper.quietAt
                  go_simp
                · refine RegQ.step_in (by kernel_rfl) ?_
                  intro A hA W hW
                  obtain ⟨qn, rfl⟩ := hW
                  have r146 : A.tmps[146]?.getD undef = .bool false := RegQ.inG (j := 24) hA hsz rfl (by kernel_rfl) (by decide) rfl
                  clear hA
                  unfold Oper.quietAt
                  go_simp
                · exact RegQ.step_no (by kernel_rfl) rfl
                · exact RegQ.step_no (by kernel_rfl) rfl
                · exact RegQ.step_no (by kernel_rfl) rfl
                · exact RegQ.step_no (by kernel_rfl) rfl
                · exact RegQ.step_no (by kernel_rfl) rfl
                · exact RegQ.step_no (by kernel_rfl) rfl
                · exact RegQ.step_no (by kernel_rfl) rfl
                · exact RegQ.step_no (by kernel_rfl) rfl
                · exact RegQ.step_no (by kernel_rfl) rfl
                · exact RegQ.step_no (by kernel_rfl) rfl
                · exact RegQ.step_no (by kernel_rfl) rfl
                · exact RegQ.step_no (by kernel_rfl) rfl
                · exact RegQ.step_no (by kernel_rfl) rfl
                · exact RegQ.step_no (by kernel_rfl) rfl
                · exact RegQ.step_no (by kernel_rfl) rfl
                · exact RegQ.step_no (by kernel_rfl) rfl
                · exact RegQ.step_no (by kernel_rfl) rfl
                · exact RegQ.step_no (by kernel_rfl) rfl
                · refine RegQ.step_in (by kernel_rfl) ?_
                  intro A hA W hW
                  obtain ⟨qn, rfl⟩ := hW
                  have r147 : A.tmps[147]?.getD undef = .bool false := RegQ.inG (j := 25) hA hsz rfl (by kernel_rfl) (by decide) rfl
                  have r165 : A.tmps[165]?.getD undef = undef := RegQ.inG (j := 43) hA hsz rfl (by kernel_rfl) (by decide) rfl
                  clear hA
                  unfold Oper.quietAt
                  go_simp
                · refine RegQ.step_in (by kernel_rfl) ?_
                  intro A hA W hW
                  obtain ⟨qn, rfl⟩ := hW
                  have r144 : A.tmps[144]?.getD undef = .bool false := RegQ.inG (j := 22) hA hsz rfl (by kernel_rfl) (by decide) rfl
                  have r166 : A.tmps[166]?.getD undef = .bool false := RegQ.inG (j := 44) hA hsz rfl (by kernel_rfl) (by decide) rfl
                  clear hA
                  unfold Oper.quietAt
                  go_simp
                · intro qn
                  simp only [Reg.putS, List.foldl, List.getD_cons_zero, List.getD_cons_succ, Act.put, List.setIfInBounds_toArray, List.set_cons_zero, List.set_cons_succ]
                  have b9 := drewN_below (n := qn) b8
                  have hcg := pw_cell_below (drewN_below (n := qn) (Below.refl w8.heap.size w8)) hcg8
                  have hcR : Hid (∀ o, o < m → (w8.drewN qn).cell? ⟨gb, ob + o, none⟩ = some (.int .i64 ((RW.getD o 0 : Nat) : Int))) := fun o ho => pw_cell_below (drewN_below (n := qn) (Below.refl w8.heap.size w8)) (hcR8.out o ho)
                  clear b8 hlk x1 x2
                  generalize w8.drewN qn = w9 at b9 hcg hcR ⊢
                  have hc1z : ¬ c1 = 0 := by omega
                  have hjc : (j : Int) ≤ (c1 : Int) := by omega
                  have hj0 : (0 : Int) ≤ (j : Int) := by omega
                  go_wp2_with fail
                  go_loopw [175] (fun s wr3 => ∃ o : Nat, o ≤ j ∧ s = .int .i64 (o : Int) ∧ Below w9.heap.size w9 wr3) (fun s _ => j - (intOf s).toNat)
                  case atStart => exact ⟨0, Nat.zero_le _, rfl, Below.refl _ _⟩
                  case round =>
                    obtain ⟨o, ho, rfl, b10⟩ := hrel
                    by_cases hoj : o < j
                    · have hod : decide ((o : Int) < (j : Int)) = true := decide_eq_true (by omega)
                      have hoz : (o : Int) < (j : Int) := by omega
                      have hco := pw_cell_below b10 (hcR.out o (by omega))
                      have hne := hnd.out o hoj
                      generalize RW.getD o 0 = k2 at hco hne
                      have ek : ((k2 : Int) == (k : Int)) = false := by simp; omega
                      have ek2 : (k2 == k) = false := by simp; omega
                      have zo : IntKind.i64.wrap ((o : Int) + 1) = (o : Int) + 1 := by rw [IntKind.wrap_i64]; omega
                      clear hne
                      go_wp2_with fail
                      go_roundw
                      case rel => exact ⟨o + 1, hoj, by go_num, b10⟩
                      case measure => simp [intOf]; omega
                    · have hod : decide ((o : Int) < (j : Int)) = false := decide_eq_false (by omega)
                      have hoz : ¬ (o : Int) < (j : Int) := by omega
                      have b11 := b9.trans (b10.mono b9.size)
                      clear b9 b10 hcg
                      go_wp2_with fail
                      go_roundw
                      case rel => exact ⟨j + 1, s1 + 1, hjm, by go_num, by go_num, by show _ = _; have := hs1.out; omega, b11⟩
                      case measure => simp [intOf]; omega
              · obtain ⟨jp, hjp⟩ : ∃ jp, j = jp + 1 := ⟨j - 1, by omega⟩
                have u0 : decide ((j : Int) > 0) = true := decide_eq_true (by omega)
                have u0' : decide (0 < j) = true := decide_eq_true (by omega)
                have hjpm : jp < m := by omega
                have hjpz : (jp : Int) < (m : Int) := by omega
                have zjp : IntKind.i64.wrap ((j : Int) - 1) = (jp : Int) := by rw [IntKind.wrap_i64]; omega
                have x3 := hcR8.out jp hjpm
                have hjl : j < RW.length := by rw [hmr.out]; exact hjm
                have hjpl : jp < RW.length := by rw [hmr.out]; exact hjpm
                have hso := List.pairwise_iff_getElem.1 hsor.out jp j hjpl hjl (by omega)
                have hk0m : RW.getD jp 0 ∈ RW := by rw [List.getD_eq_getElem?_getD, List.getElem?_eq_getElem hjpl]; exact List.getElem_mem _
                have hk0z := (hmem.out _ hk0m).2
                have x4 := hcAh.out _ hk0z
                have hso2 : szk zs k ≤ szk zs (RW.getD jp 0) := by
                  rw [← hk, List.getD_eq_getElem?_getD, List.getElem?_eq_getElem hjl, List.getD_eq_getElem?_getD, List.getElem?_eq_getElem hjpl]; exact hso
                generalize RW.getD jp 0 = k0 at x3 x4 hk0z hso2 hk0m
                obtain ⟨z0, hz00⟩ : ∃ z0, zs.getD k0 ByteArray.empty = z0 := ⟨_, rfl⟩
                rw [hz00] at x4
                have hzs0 : szk zs k0 = z0.size := by unfold szk; rw [hz00]
                rw [hzs, hzs0] at hso2
                have hk0n : k0 < n := by rw [hnh.out]; exact hk0z
                have hk0nz : (k0 : Int) < (n : Int) := by omega
                have v1 : decide ((z0.size : Int) < (z.size : Int)) = false := decide_eq_false (by omega)
                have v2 : decide (z0.size < z.size) = false := decide_eq_false (by omega)
                clear hj0 hk hkm hhas hz0 hzs hilv hcA hcl bw4 hcg6 b6 hkz hjp hso hjl hjpl hk0m hk0z hso2 hz00 hzs0
                go_wp2_with fail
                refine RegQ.wp_region_vals [some 122, some 123, some 124, some 125, some 126, some 127, some 128, some 129, some 130, some 131, some 132, some 133, some 134, some 135, some 136, some 137, some 138, some 139, some 140, some 141, some 142, some 143, some 144, some 145, some 146, some 147, some 148, some 149, some 150, some 151, some 152, some 153, some 154, some 155, some 156, some 157, some 158, some 159, some 160, some 161, some 162, some 163, some 164, some 165, some 166, some 167] [[], [0], [1], [2], [2], [4, 2], [3, 5, 2], [2, 6], [7, 2], [8], [8], [8], [8], [11, 12, 8], [13, 8], [14, 8], [10, 15, 8], [8], [16, 17, 8], [9, 18, 8], [19, 8], [8, 20], [21, 8], [22], [23, 22], [24, 22, 22], [25], [25], [25], [27, 28, 25], [29, 25], [25], [31, 25], [30, 32, 25], [33, 25], [26, 34, 25], [35, 25], [36, 25], [25], [25], [38, 39, 25], [40, 25], [41, 25], [37, 42, 25], [25, 43, 22], [22, 44]] (fun iq => ([.int .i64 (k : Int), .bool false, .bool false, .int .i64 (k : Int), .slice (some ⟨bA, oA, none⟩) n cap, .int .i64 (n : Int), .bool false, .bool false, .bool false, .map (some bm), .int .i64 (i : Int), .slice (some ⟨bA, oA, none⟩) n cap, .int .i64 (k : Int), .pointer (some ⟨bA, oA + k, none⟩), .string z, .int .i64 (z.size : Int), .int .i64 (il : Int), .int .i64 (k : Int), .agg #[.int .i64 (il : Int), .int .i64 (k : Int)], .bool true, .bool false, .bool false, .bool false, .int .i64 (j : Int), .bool true, .bool true, .slice (some ⟨bA, oA, none⟩) n cap, .slice (some ⟨g, 0, none⟩) ln ln, .int .i64 (i : Int), .pointer (some ⟨g, i, none⟩), .slice (some ⟨gb, ob, none⟩) m c1, .int .i64 (j : Int), .int .i64 (jp : Int), .pointer (some ⟨gb, ob + jp, none⟩), .int .i64 (k0 : Int), .pointer (some ⟨bA, oA + k0, none⟩), .string z0, .int .i64 (z0.size : Int), .slice (some ⟨bA, oA, none⟩) n cap, .int .i64 (k : Int), .pointer (some ⟨bA, oA + k, none⟩), .string z, .int .i64 (z.size : Int), .bool false, .bool false, .bool false] : List Value).getD iq undef) [0, 1, 2, 3, 4, 5, 6, 7, 8, 9, 10, 11, 12, 13, 14, 15, 16, 17, 18, 19, 20, 21, 22, 23, 24, 25, 26, 27, 28, 29, 30, 31, 32, 33, 34, 35, 36, 37, 38, 39, 40, 41, 42, 43, 44, 45] 195 rfl rfl (by kernel_rfl) (by kernel_rfl) (by kernel_rfl) (by kernel_rfl) (by kernel_rfl) (fun hsz hon => ⟨?_, ?_, ?_, ?_, ?_, ?_, ?_, ?_, ?_, ?_, ?_, ?_, ?_, ?_, ?_, ?_, ?_, ?_, ?_, ?_, ?_, ?_, ?_, ?_, ?_, ?_, ?_, ?_, ?_, ?_, ?_, ?_, ?_, ?_, ?_, ?_, ?_, ?_, ?_, ?_, ?_, ?_, ?_, ?_, ?_, ?_, trivial⟩) ?_
                · refine RegQ.step_in (by kernel_rfl) ?_
                  intro A hA W hW
                  obtain ⟨qn, rfl⟩ := hW
                  have r17 : A.tmps[17]?.getD undef = .int .i64 (k : Int) := RegQ.outG hA (by kernel_rfl) rfl
                  clear hA
                  unfold Oper.quietAt
                  go_simp
                · refine RegQ.step_in (by kernel_rfl) ?_
                  intro A hA W hW
                  obtain ⟨qn, rfl⟩ := hW
                  have r122 : A.tmps[122]?.getD undef = .int .i64 (k : Int) := RegQ.inG (j := 0) hA hsz rfl (by kernel_rfl) (by decide) rfl
                  clear hA
                  unfold Oper.quietAt
                  go_simp
                · refine RegQ.step_in (by kernel_rfl) ?_
                  intro A hA W hW
                  obtain ⟨qn, rfl⟩ := hW
                  have r123 : A.tmps[123]?.getD undef = .bool false := RegQ.inG (j := 1) hA hsz rfl (by kernel_rfl) (by decide) rfl
                  clear hA
                  unfold Oper.quietAt
                  go_simp
                · refine RegQ.step_in (by kernel_rfl) ?_
                  intro A hA W hW
                  obtain ⟨qn, rfl⟩ := hW
                  have r17 : A.tmps[17]?.getD undef = .int .i64 (k : Int) := RegQ.outG hA (by kernel_rfl) rfl
                  clear hA
                  unfold Oper.quietAt
                  go_simp
                · refine RegQ.step_in (by kernel_rfl) ?_
                  intro A hA W hW
                  obtain ⟨qn, rfl⟩ := hW
                  have r0 : A.tmps[0]?.getD undef = .slice (some ⟨bA, oA, none⟩) n cap := RegQ.outG hA (by kernel_rfl) rfl
                  clear hA
                  unfold Oper.quietAt
                  go_simp
                · refine RegQ.step_in (by kernel_rfl) ?_
                  intro A hA W hW
                  obtain ⟨qn, rfl⟩ := hW
                  have r126 : A.tmps[126]?.getD undef = .slice (some ⟨bA, oA, none⟩) n cap := RegQ.inG (j := 4) hA hsz rfl (by kernel_rfl) (by decide) rfl
                  clear hA
                  unfold Oper.quietAt
                  go_simp
                · refine RegQ.step_in (by kernel_rfl) ?_
                  intro A hA W hW
                  obtain ⟨qn, rfl⟩ := hW
                  have r125 : A.tmps[125]?.getD undef = .int .i64 (k : Int) := RegQ.inG (j := 3) hA hsz rfl (by kernel_rfl) (by decide) rfl
                  have r127 : A.tmps[127]?.getD undef = .int .i64 (n : Int) := RegQ.inG (j := 5) hA hsz rfl (by kernel_rfl) (by decide) rfl
                  clear hA
                  unfold Oper.quietAt
                  go_simp
                · refine RegQ.step_in (by kernel_rfl) ?_
                  intro A hA W hW
                  obtain ⟨qn, rfl⟩ := hW
                  have r124 : A.tmps[124]?.getD undef = .bool false := RegQ.inG (j := 2) hA hsz rfl (by kernel_rfl) (by decide) rfl
                  have r128 : A.tmps[128]?.getD undef = .bool false := RegQ.inG (j := 6) hA hsz rfl (by kernel_rfl) (by decide) rfl
                  clear hA
                  unfold Oper.quietAt
                  go_simp
                · refine RegQ.step_in (by kernel_rfl) ?_
                  intro A hA W hW
                  obtain ⟨qn, rfl⟩ := hW
                  have r129 : A.tmps[129]?.getD undef = .bool false := RegQ.inG (j := 7) hA hsz rfl (by kernel_rfl) (by decide) rfl
                  clear hA
                  unfold Oper.quietAt
                  go_simp
                · refine RegQ.step_in (by kernel_rfl) ?_
                  intro A hA W hW
                  obtain ⟨qn, rfl⟩ := hW
                  have r11 : A.tmps[11]?.getD undef = .map (some bm) := RegQ.outG hA (by kernel_rfl) rfl
                  clear hA
                  unfold Oper.quietAt
                  go_simp
                · refine RegQ.step_in (by kernel_rfl) ?_
                  intro A hA W hW
                  obtain ⟨qn, rfl⟩ := hW
                  have r15 : A.tmps[15]?.getD undef = .int .i64 (i : Int) := RegQ.outG hA (by kernel_rfl) rfl
                  clear hA
                  unfold Oper.quietAt
                  go_simp
                · refine RegQ.step_in (by kernel_rfl) ?_
                  intro A hA W hW
                  obtain ⟨qn, rfl⟩ := hW
                  have r0 : A.tmps[0]?.getD undef = .slice (some ⟨bA, oA, none⟩) n cap := RegQ.outG hA (by kernel_rfl) rfl
                  clear hA
                  unfold Oper.quietAt
                  go_simp
                · refine RegQ.step_in (by kernel_rfl) ?_
                  intro A hA W hW
                  obtain ⟨qn, rfl⟩ := hW
                  have r17 : A.tmps[17]?.getD undef = .int .i64 (k : Int) := RegQ.outG hA (by kernel_rfl) rfl
                  clear hA
                  unfold Oper.quietAt
                  go_simp
                · refine RegQ.step_in (by kernel_rfl) ?_
                  intro A hA W hW
                  obtain ⟨qn, rfl⟩ := hW
                  have r133 : A.tmps[133]?.getD undef = .slice (some ⟨bA, oA, none⟩) n cap := RegQ.inG (j := 11) hA hsz rfl (by kernel_rfl) (by decide) rfl
                  have r134 : A.tmps[134]?.getD undef = .int .i64 (k : Int) := RegQ.inG (j := 12) hA hsz rfl (by kernel_rfl) (by decide) rfl
                  clear hA
                  unfold Oper.quietAt
                  go_simp
                · refine RegQ.step_in (by kernel_rfl) ?_
                  intro A hA W hW
                  obtain ⟨qn, rfl⟩ := hW
                  have r135 : A.tmps[135]?.getD undef = .pointer (some ⟨bA, oA + k, none⟩) := RegQ.inG (j := 13) hA hsz rfl (by kernel_rfl) (by decide) rfl
                  clear hA
                  unfold Oper.quietAt
                  go_simp
                · refine RegQ.step_in (by kernel_rfl) ?_
                  intro A hA W hW
                  obtain ⟨qn, rfl⟩ := hW
                  have r136 : A.tmps[136]?.getD undef = .string z := RegQ.inG (j := 14) hA hsz rfl (by kernel_rfl) (by decide) rfl
                  clear hA
                  unfold Oper.quietAt
                  go_simp
                · refine RegQ.step_in (by kernel_rfl) ?_
                  intro A hA W hW
                  obtain ⟨qn, rfl⟩ := hW
                  have r132 : A.tmps[132]?.getD undef = .int .i64 (i : Int) := RegQ.inG (j := 10) hA hsz rfl (by kernel_rfl) (by decide) rfl
                  have r137 : A.tmps[137]?.getD undef = .int .i64 (z.size : Int) := RegQ.inG (j := 15) hA hsz rfl (by kernel_rfl) (by decide) rfl
                  clear hA
                  unfold Oper.quietAt
                  go_simp
                · refine RegQ.step_in (by kernel_rfl) ?_
                  intro A hA W hW
                  obtain ⟨qn, rfl⟩ := hW
                  have r17 : A.tmps[17]?.getD undef = .int .i64 (k : Int) := RegQ.outG hA (by kernel_rfl) rfl
                  clear hA
                  unfold Oper.quietAt
                  go_simp
                · refine RegQ.step_in (by kernel_rfl) ?_
                  intro A hA W hW
                  obtain ⟨qn, rfl⟩ := hW
                  have r138 : A.tmps[138]?.getD undef = .int .i64 (il : Int) := RegQ.inG (j := 16) hA hsz rfl (by kernel_rfl) (by decide) rfl
                  have r139 : A.tmps[139]?.getD undef = .int .i64 (k : Int) := RegQ.inG (j := 17) hA hsz rfl (by kernel_rfl) (by decide) rfl
                  clear hA
                  unfold Oper.quietAt
                  go_simp
                · refine RegQ.step_in (by kernel_rfl) ?_
                  intro A hA W hW
                  obtain ⟨qn, rfl⟩ := hW
                  have r131 : A.tmps[131]?.getD undef = .map (some bm) := RegQ.inG (j := 9) hA hsz rfl (by kernel_rfl) (by decide) rfl
                  have r140 : A.tmps[140]?.getD undef = .agg #[.int .i64 (il : Int), .int .i64 (k : Int)] := RegQ.inG (j := 18) hA hsz rfl (by kernel_rfl) (by decide) rfl
                  clear hA
                  unfold Oper.quietAt
                  go_simp
                · refine RegQ.step_in (by kernel_rfl) ?_
                  intro A hA W hW
                  obtain ⟨qn, rfl⟩ := hW
                  have r141 : A.tmps[141]?.getD undef = .bool true := RegQ.inG (j := 19) hA hsz rfl (by kernel_rfl) (by decide) rfl
                  clear hA
                  unfold Oper.quietAt
                  go_simp
                · refine RegQ.step_in (by kernel_rfl) ?_
                  intro A hA W hW
                  obtain ⟨qn, rfl⟩ := hW
                  have r130 : A.tmps[130]?.getD undef = .bool false := RegQ.inG (j := 8) hA hsz rfl (by kernel_rfl) (by decide) rfl
                  have r142 : A.tmps[142]?.getD undef = .bool false := RegQ.inG (j := 20) hA hsz rfl (by kernel_rfl) (by decide) rfl
                  clear hA
                  unfold Oper.quietAt
                  go_simp
                · refine RegQ.step_in (by kernel_rfl) ?_
                  intro A hA W hW
                  obtain ⟨qn, rfl⟩ := hW
                  have r143 : A.tmps[143]?.getD undef = .bool false := RegQ.inG (j := 21) hA hsz rfl (by kernel_rfl) (by decide) rfl
                  clear hA
                  unfold Oper.quietAt
                  go_simp
                · refine RegQ.step_in (by kernel_rfl) ?_
                  intro A hA W hW
                  obtain ⟨qn, rfl⟩ := hW
                  have r16 : A.tmps[16]?.getD undef = .int .i64 (j : Int) := RegQ.outG hA (by kernel_rfl) rfl
                  clear hA
                  unfold Oper.quietAt
                  go_simp
                · refine RegQ.step_in (by kernel_rfl) ?_
                  intro A hA W hW
                  obtain ⟨qn, rfl⟩ := hW
                  have r145 : A.tmps[145]?.getD undef = .int .i64 (j : Int) := RegQ.inG (j := 23) hA hsz rfl (by kernel_rfl) (by decide) rfl
                  clear hA
                  unfold Oper.quietAt
                  go_simp
                · refine RegQ.step_in (by kernel_rfl) ?_
                  intro A hA W hW
                  obtain ⟨qn, rfl⟩ := hW
                  have r146 : A.tmps[146]?.getD undef = .bool true := RegQ.inG (j := 24) hA hsz rfl (by kernel_rfl) (by decide) rfl
                  clear hA
                  unfold Oper.quietAt
                  go_simp
                · refine RegQ.step_in (by kernel_rfl) ?_
                  intro A hA W hW
                  obtain ⟨qn, rfl⟩ := hW
                  have r0 : A.tmps[0]?.getD undef = .slice (some ⟨bA, oA, none⟩) n cap := RegQ.outG hA (by kernel_rfl) rfl
                  clear hA
                  unfold Oper.quietAt
                  go_simp
                · refine RegQ.step_in (by kernel_rfl) ?_
                  intro A hA W hW
                  obtain ⟨qn, rfl⟩ := hW
                  have r10 : A.tmps[10]?.getD undef = .slice (some ⟨g, 0, none⟩) ln ln := RegQ.outG hA (by kernel_rfl) rfl
                  clear hA
                  unfold Oper.quietAt
                  go_simp
                · refine RegQ.step_in (by kernel_rfl) ?_
                  intro A hA W hW
                  obtain ⟨qn, rfl⟩ := hW
                  have r15 : A.tmps[15]?.getD undef = .int .i64 (i : Int) := RegQ.outG hA (by kernel_rfl) rfl
                  clear hA
                  unfold Oper.quietAt
                  go_simp
                · refine RegQ.step_in (by kernel_rfl) ?_
                  intro A hA W hW
                  obtain ⟨qn, rfl⟩ := hW
                  have r149 : A.tmps[149]?.getD undef = .slice (some ⟨g, 0, none⟩) ln ln := RegQ.inG (j := 27) hA hsz rfl (by kernel_rfl) (by decide) rfl
                  have r150 : A.tmps[150]?.getD undef = .int .i64 (i : Int) := RegQ.inG (j := 28) hA hsz rfl (by kernel_rfl) (by decide) rfl
                  clear hA
                  unfold Oper.quietAt
                  go_simp
                · refine RegQ.step_in (by kernel_rfl) ?_
                  intro A hA W hW
                  obtain ⟨qn, rfl⟩ := hW
                  have r151 : A.tmps[151]?.getD undef = .pointer (some ⟨g, i, none⟩) := RegQ.inG (j := 29) hA hsz rfl (by kernel_rfl) (by decide) rfl
                  clear hA
                  unfold Oper.quietAt
                  go_simp
                · refine RegQ.step_in (by kernel_rfl) ?_
                  intro A hA W hW
                  obtain ⟨qn, rfl⟩ := hW
                  have r16 : A.tmps[16]?.getD undef = .int .i64 (j : Int) := RegQ.outG hA (by kernel_rfl) rfl
                  clear hA
                  unfold Oper.quietAt
                  go_simp
                · refine RegQ.step_in (by kernel_rfl) ?_
                  intro A hA W hW
                  obtain ⟨qn, rfl⟩ := hW
                  have r153 : A.tmps[153]?.getD undef = .int .i64 (j : Int) := RegQ.inG (j := 31) hA hsz rfl (by kernel_rfl) (by decide) rfl
                  clear hA
                  unfold Oper.quietAt
                  go_simp
                · refine RegQ.step_in (by kernel_rfl) ?_
                  intro A hA W hW
                  obtain ⟨qn, rfl⟩ := hW
                  have r152 : A.tmps[152]?.getD undef = .slice (some ⟨gb, ob, none⟩) m c1 := RegQ.inG (j := 30) hA hsz rfl (by kernel_rfl) (by decide) rfl
                  have r154 : A.tmps[154]?.getD undef = .int .i64 (jp : Int) := RegQ.inG (j := 32) hA hsz rfl (by kernel_rfl) (by decide) rfl
                  clear hA
                  unfold Oper.quietAt
                  go_simp
                · refine RegQ.step_in (by kernel_rfl) ?_
                  intro A hA W hW
                  obtain ⟨qn, rfl⟩ := hW
                  have r155 : A.tmps[155]?.getD undef = .pointer (some ⟨gb, ob + jp, none⟩) := RegQ.inG (j := 33) hA hsz rfl (by kernel_rfl) (by decide) rfl
                  clear hA
                  unfold Oper.quietAt
                  go_simp
                · refine RegQ.step_in (by kernel_rfl) ?_
                  intro A hA W hW
                  obtain ⟨qn, rfl⟩ := hW
                  have r148 : A.tmps[148]?.getD undef = .slice (some ⟨bA, oA, none⟩) n cap := RegQ.inG (j := 26) hA hsz rfl (by kernel_rfl) (by decide) rfl
                  have r156 : A.tmps[156]?.getD undef = .int .i64 (k0 : Int) := RegQ.inG (j := 34) hA hsz rfl (by kernel_rfl) (by decide) rfl
                  clear hA
                  unfold Oper.quietAt
                  go_simp
                · refine RegQ.step_in (by kernel_rfl) ?_
                  intro A hA W hW
                  obtain ⟨qn, rfl⟩ := hW
                  have r157 : A.tmps[157]?.getD undef = .pointer (some ⟨bA, oA + k0, none⟩) := RegQ.inG (j := 35) hA hsz rfl (by kernel_rfl) (by decide) rfl
                  clear hA
                  unfold Oper.quietAt
                  go_simp
                · refine RegQ.step_in (by kernel_rfl) ?_
                  intro A hA W hW
                  obtain ⟨qn, rfl⟩ := hW
                  have r158 : A.tmps[158]?.getD undef = .string z0 := RegQ.inG (j := 36) hA hsz rfl (by kernel_rfl) (by decide) rfl
                  clear hA
                  unfold Oper.quietAt
                  go_simp
                · refine RegQ.step_in (by kernel_rfl) ?_
                  intro A hA W hW
                  obtain ⟨qn, rfl⟩ := hW
                  have r0 : A.tmps[0]?.getD undef = .slice (some ⟨bA, oA, none⟩) n cap := RegQ.outG hA (by kernel_rfl) rfl
                  clear hA
                  unfold Oper.quietAt
                  go_simp
                · refine RegQ.step_in (by kernel_rfl) ?_
                  intro A hA W hW
                  obtain ⟨qn, rfl⟩ := hW
                  have r17 : A.tmps[17]?.getD undef = .int .i64 (k : Int) := RegQ.outG hA (by kernel_rfl) rfl
                  clear hA
                  unfold Oper.quietAt
                  go_simp
                · refine RegQ.step_in (by kernel_rfl) ?_
                  intro A hA W hW
                  obtain ⟨qn, rfl⟩ := hW
                  have r160 : A.tmps[160]?.getD undef = .slice (some ⟨bA, oA, none⟩) n cap := RegQ.inG (j := 38) hA hsz rfl (by kernel_rfl) (by decide) rfl
                  have r161 : A.tmps[161]?.getD undef = .int .i64 (k : Int) := RegQ.inG (j := 39) hA hsz rfl (by kernel_rfl) (by decide) rfl
                  clear hA
                  unfold Oper.quietAt
                  go_simp
                · refine RegQ.step_in (by kernel_rfl) ?_
                  intro A hA W hW
                  obtain ⟨qn, rfl⟩ := hW
                  have r162 : A.tmps[162]?.getD undef = .pointer (some ⟨bA, oA + k, none⟩) := RegQ.inG (j := 40) hA hsz rfl (by kernel_rfl) (by decide) rfl
                  clear hA
                  unfold Oper.quietAt
                  go_simp
                · refine RegQ.step_in (by kernel_rfl) ?_
                  intro A hA W hW
                  obtain ⟨qn, rfl⟩ := hW
                  have r163 : A.tmps[163]?.getD undef = .string z := RegQ.inG (j := 41) hA hsz rfl (by kernel_rfl) (by decide) rfl
                  clear hA
                  unfold Oper.quietAt
                  go_simp
                · refine RegQ.step_in (by kernel_rfl) ?_
                  intro A hA W hW
                  obtain ⟨qn, rfl⟩ := hW
                  have r159 : A.tmps[159]?.getD undef = .int .i64 (z0.size : Int) := RegQ.inG (j := 37) hA hsz rfl (by kernel_rfl) (by decide) rfl
                  have r164 : A.tmps[164]?.getD undef = .int .i64 (z.size : Int) := RegQ.inG (j := 42) hA hsz rfl (by kernel_rfl) (by decide) rfl
                  clear hA
                  unfold Oper.quietAt
                  go_simp
                · refine RegQ.step_in (by kernel_rfl) ?_
                  intro A hA W hW
                  obtain ⟨qn, rfl⟩ := hW
                  have r147 : A.tmps[147]?.getD undef = .bool true := RegQ.inG (j := 25) hA hsz rfl (by kernel_rfl) (by decide) rfl
                  have r165 : A.tmps[165]?.getD undef = .bool false := RegQ.inG (j := 43) hA hsz rfl (by kernel_rfl) (by decide) rfl
                  clear hA
                  unfold Oper.quietAt
                  go_simp
                · refine RegQ.step_in (by kernel_rfl) ?_
                  intro A hA W hW
                  obtain ⟨qn, rfl⟩ := hW
                  have r144 : A.tmps[144]?.getD undef = .bool false := RegQ.inG (j := 22) hA hsz rfl (by kernel_rfl) (by decide) rfl
                  have r166 : A.tmps[166]?.getD undef = .bool false := RegQ.inG (j := 44) hA hsz rfl (by kernel_rfl) (by decide) rfl
                  clear hA
                  unfold Oper.quietAt
                  go_simp
                · intro qn
                  simp only [Reg.putS, List.foldl, List.getD_cons_zero, List.getD_cons_succ, Act.put, List.setIfInBounds_toArray, List.set_cons_zero, List.set_cons_succ]
                  have b9 := drewN_below (n := qn) b8
                  have hcg := pw_cell_below (drewN_below (n := qn) (Below.refl w8.heap.size w8)) hcg8
                  have hcR : Hid (∀ o, o < m → (w8.drewN qn).cell? ⟨gb, ob + o, none⟩ = some (.int .i64 ((RW.getD o 0 : Nat) : Int))) := fun o ho => pw_cell_below (drewN_below (n := qn) (Below.refl w8.heap.size w8)) (hcR8.out o ho)
                  clear b8 hlk x1 x2 x3 x4
                  generalize w8.drewN qn = w9 at b9 hcg hcR ⊢
                  have hc1z : ¬ c1 = 0 := by omega
                  have hjc : (j : Int) ≤ (c1 : Int) := by omega
                  have hj0 : (0 : Int) ≤ (j : Int) := by omega
                  go_wp2_with fail
                  go_loopw [175] (fun s wr3 => ∃ o : Nat, o ≤ j ∧ s = .int .i64 (o : Int) ∧ Below w9.heap.size w9 wr3) (fun s _ => j - (intOf s).toNat)
                  case atStart => exact ⟨0, Nat.zero_le _, rfl, Below.refl _ _⟩
                  case round =>
                    obtain ⟨o, ho, rfl, b10⟩ := hrel
                    by_cases hoj : o < j
                    · have hod : decide ((o : Int) < (j : Int)) = true := decide_eq_true (by omega)
                      have hoz : (o : Int) < (j : Int) := by omega
                      have hco := pw_cell_below b10 (hcR.out o (by omega))
                      have hne := hnd.out o hoj
                      generalize RW.getD o 0 = k2 at hco hne
                      have ek : ((k2 : Int) == (k : Int)) = false := by simp; omega
                      have ek2 : (k2 == k) = false := by simp; omega
                      have zo : IntKind.i64.wrap ((o : Int) + 1) = (o : Int) + 1 := by rw [IntKind.wrap_i64]; omega
                      clear hne
                      go_wp2_with fail
                      go_roundw
                      case rel => exact ⟨o + 1, hoj, by go_num, b10⟩
                      case measure => simp [intOf]; omega
                    · have hod : decide ((o : Int) < (j : Int)) = false := decide_eq_false (by omega)
                      have hoz : ¬ (o : Int) < (j : Int) := by omega
                      have b11 := b9.trans (b10.mono b9.size)
                      clear b9 b10 hcg
                      go_wp2_with fail
                      go_roundw
                      case rel => exact ⟨j + 1, s1 + 1, hjm, by go_num, by go_num, by show _ = _; have := hs1.out; omega, b11⟩
                      case measure => simp [intOf]; omega
            · have hjd : decide ((j : Int) < (m : Int)) = false := decide_eq_false (by omega)
              have hjz : ¬ (j : Int) < (m : Int) := by omega
              clear hA1h hcg6 b6
              go_wp2_with fail
              go_roundw
              case rel => exact ⟨i + 1, s1, hil, rfl, by go_num, by show _ = _; rw [hssh.out, hs1.out]; omega, b8⟩
              case measure => simp [intOf]; omega
        · have hid : decide ((i : Int) < (ln : Int)) = false := decide_eq_false (by omega)
          have hiz : ¬ (i : Int) < (ln : Int) := by omega
          have belF := bstep belh.out (brh.out.trans (b6.mono brh.out.size))
          obtain ⟨Dm, hown, hsz⟩ := (hSrh.out.below b6).own
          have hlen := hown.len Try.underlying33 3
          have esm : (hasT zs n0 H).length = sm := by
            have e : L.take i = L := List.take_of_length_le (by rw [hLn.out]; omega)
            rw [hsm.out, e]; exact hG.out.sum.symm
          rw [hsz, esm] at hlen
          have ez : ((sm : Int) == (sm : Int)) = true := by simp
          clear hsz hown esm b6
          go_wp2_with fail
          go_ret
          exact ⟨rfl, belF⟩
end Go.Proofs.Ytdeeeechdlcdbaa.HaW
