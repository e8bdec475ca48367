/- The walk of HitsAny. -/
import Derived.Test.YtdeeeechdlcdbaaHnW
import Derived.Test.YtdeeeechdlcdbaaHaP
import Derived.Test.YtdeeeechdlcdbaaHaA
import Derived.Test.YtdeeeechdlcdbaaStep
import Derived.Maps.OwnSet
import Derived.Test.YtdeeeechdlcdbaaRegQ
import Derived.IntWalk
import Derived.Deep.QuietTactic
import Derived.BigQuiet
set_option linter.unusedVariables false
set_option linter.unusedSimpArgs false
namespace Go.Proofs.Ytdeeeechdlcdbaa.HaU
open Go Go.RowKit Go.Sort Go.Lib Go.Proofs Go.Proofs.Ytdeeeechdlcdbaa Go.Proofs.Ytdeeeechdlcdbaa.Base Go.Proofs.Ytdeeeechdlcdbaa.DiA Go.Proofs.Ytdeeeechdlcdbaa.DiB Go.Proofs.Ytdeeeechdlcdbaa.DiD Go.Proofs.Ytdeeeechdlcdbaa.TcP Go.Proofs.Ytdeeeechdlcdbaa.LkM Go.Proofs.Ytdeeeechdlcdbaa.LkN Go.Proofs.Ytdeeeechdlcdbaa.LkS Go.Proofs.Ytdeeeechdlcdbaa.PhP Go.Proofs.Ytdeeeechdlcdbaa.PhW Go.Proofs.Ytdeeeechdlcdbaa.ScP Go.Proofs.Ytdeeeechdlcdbaa.ScF Go.Proofs.Ytdeeeechdlcdbaa.ScE Go.Proofs.Ytdeeeechdlcdbaa.ScX Go.Proofs.Ytdeeeechdlcdbaa.ScA Go.Proofs.Ytdeeeechdlcdbaa.ScN Go.Proofs.Ytdeeeechdlcdbaa.RwA Go.Proofs.Ytdeeeechdlcdbaa.HiP Go.Proofs.Ytdeeeechdlcdbaa.HiQ Go.Proofs.Ytdeeeechdlcdbaa.HiA Go.Proofs.Ytdeeeechdlcdbaa.HiB Go.Proofs.Ytdeeeechdlcdbaa.HiW Go.Proofs.Ytdeeeechdlcdbaa.HiL Go.Proofs.Ytdeeeechdlcdbaa.HiM Go.Proofs.Ytdeeeechdlcdbaa.HiV Go.Proofs.Ytdeeeechdlcdbaa.HnW Go.Proofs.Ytdeeeechdlcdbaa.HaP
theorem szk_le {zs : List ByteArray} (h : okD zs = true) (k : Nat) : szk zs k ≤ 1000 := by
  rcases Nat.lt_or_ge k zs.length with hk | hk
  · have := (okD_at h hk).2.1
    unfold szk; omega
  · rw [szk_none hk]; omega
set_option maxRecDepth 20000 in
set_option maxHeartbeats 400000 in
theorem law_few (A : Option Addr) (n cap : Nat) (n0 : Int) (V : Option Addr) (mh ch : Nat) (w : World) (hf : Calls Try.prog 23 #[.slice A n cap] w fun e w' => e = .returned (.bool false) ∧ w' = w) :
    Calls Try.prog 3 #[.slice A n cap, .int .i64 n0, .slice V mh ch] w fun e w' => e = .returned (.bool true) ∧ Below w.heap.size w w' := by
  go_enter Try.func3, Try.ntmps3
  go_wp2_with fail
  refine hf.mono ?_
  rintro e w1 ⟨rfl, hw⟩
  rw [hw]
  clear hf hw
  go_wp2_with fail
  refine (HiV.alive_call _).mono ?_
  rintro e w2 ⟨rfl, b2⟩
  go_wp2_with fail
  go_ret
  exact ⟨rfl, b2⟩
set_option maxRecDepth 20000 in
set_option maxHeartbeats 400000 in
theorem law_out0 (A : Option Addr) (n cap : Nat) (n0 : Int) (V : Option Addr) (mh ch : Nat) (w : World) (hf : Calls Try.prog 23 #[.slice A n cap] w fun e w' => e = .returned (.bool true) ∧ w' = w) (hd0 : decide ((mh : Int) > 100) = true) :
    Calls Try.prog 3 #[.slice A n cap, .int .i64 n0, .slice V mh ch] w fun e w' => e = .returned (.bool true) ∧ Below w.heap.size w w' := by
  go_enter Try.func3, Try.ntmps3
  go_wp2_with fail
  refine hf.mono ?_
  rintro e w1 ⟨rfl, hw⟩
  rw [hw]
  clear hf hw
  go_wp2_with fail
  refine (HiV.alive_call _).mono ?_
  rintro e w2 ⟨rfl, b2⟩
  go_wp2_with fail
  go_ret
  exact ⟨rfl, b2⟩
set_option maxRecDepth 20000 in
set_option maxHeartbeats 8000000 in
theorem law_big_in (A : Option Addr) (n cap : Nat) (zs : List ByteArray) (n0 : Int) (V : Option Addr) (mh ch : Nat) (w : World) (hf : Calls Try.prog 23 #[.slice A n cap] w fun e w' => e = .returned (.bool true) ∧ w' = w)
    (hn : n = zs.length) (hat : StrsAt w A zs) (hn1 : n ≤ 110) (htot : total zs ≤ 1300) (H : List (Int × Int)) (hmh : Hid (mh = H.length)) (hHin0 : Hid (HIn w V H)) (hwf : Hid (∀ x ∈ H, SeH.WfH x)) (hd0 : decide ((mh : Int) > 100) = false) (hbig : 1024 < n0) :
    Calls Try.prog 3 #[.slice A n cap, .int .i64 n0, .slice V mh ch] w fun e w' => e = .returned (.bool true) ∧ Below w.heap.size w w' := by
  have hnh : Hid (n = zs.length) := hn
  clear hn
  go_enter Try.func3, Try.ntmps3
  go_wp2_with fail
  refine hf.mono ?_
  rintro e w1 ⟨rfl, hw⟩
  rw [hw]
  clear hf hw w1
  go_wp2_with fail
  refine (HiV.alive_call _).mono ?_
  rintro e w1 ⟨rfl, bel⟩
  have hat1 := hat.below bel
  go_wp2_with fail
  refine (phrases_any A n cap zs w1 hnh.out hat1 (by omega)).mono ?_
  rintro e w2 ⟨hph, hw⟩
  rw [hw]
  clear hw w2
  rcases hph with ⟨hok, rfl⟩ | ⟨hok, c0, k0, hc0, rfl⟩
  rotate_left
  · have hcd : (c0 != 0) = true := by simp [hc0]
    clear hat hat1 hok
    go_wp2_with fail
    go_ret
    exact ⟨rfl, bel⟩
  go_wp2_with fail
  refine (make_any A n cap zs w1 hnh.out hat1 (by omega)).mono ?_
  rintro e w2 ⟨b2, ⟨hno, _⟩ | ⟨_, p, rfl, _, hdict⟩⟩
  · rw [hok] at hno; cases hno
  replace bel := bstep bel b2
  have hat2 := hat1.below b2
  have hD : Hid (DV w1.heap.size w2 (.pointer (some ⟨p, 0, none⟩)) zs) := Lib.hid (.inr ⟨p, rfl, hdict⟩)
  have hokh : Hid (okD zs = true) := hok
  have hp : Hid (∀ k, k < zs.length → 1 ≤ szk zs k) := szk_pos hok
  have hs : Hid (∀ k, szk zs k ≤ 1000) := szk_le hok
  have hz : Hid (zs.length ≤ 1000) := Nat.le_trans (okD_len hok) (by decide)
  have hHin2 : HIn w2 V H := hHin0.out.below bel
  have hm100 : mh ≤ 100 := by have := of_decide_eq_false hd0; omega
  clear hat hat1 hok b2 hdict hHin0 hd0
  obtain ⟨AA, hAA⟩ : ∃ AA, AA = A := ⟨A, rfl⟩
  subst hAA

  have e1 : decide (n0 > 1024) = true := decide_eq_true hbig
  have emax : ((0 : Int) != max n0 0) = true := by simp; omega
  have cS := starts_out (some ⟨p, 0, none⟩) n0 V mh ch w2 (.inr hbig)
  go_wp2_with fail
  refine cS.mono ?_
  rintro e w4 ⟨rfl, b4⟩
  have belh : Hid (Below w.heap.size w w4) := bstep bel b4
  have hat4 : Hid (StrsAt w4 AA zs) := hat2.below b4
  have hHin4 : Hid (HIn w4 V H) := hHin2.below b4
  clear cS b4 bel hat2 hHin2 hD
  obtain ⟨TT, hTT⟩ : ∃ TT : Nat → List (Int × Int), TT = fun k => (H.take k).foldl (addT zs n0) [] := ⟨_, rfl⟩
  have hT0 : TT 0 = [] := by rw [hTT]; rfl
  have hTs : Hid (∀ k, k < H.length → TT (k + 1) = addT zs n0 (TT k) (H.getD k (0, 0))) := by
    intro k hk
    rw [hTT]
    show (H.take (k + 1)).foldl _ _ = _
    rw [take_getD H (0, 0) hk, List.foldl_append]; rfl
  have hTe : Hid (TT H.length = hasT zs n0 H) := by
    show _ = _
    rw [hTT]
    show (H.take H.length).foldl _ _ = _
    rw [List.take_length]; rfl
  have hmm := @run_makeMap Try.prog
  have hS := SeH.SetAt.made w4
  obtain ⟨w5, hw5⟩ : ∃ w5, w5 = w4.alloc (.map #[] 0) := ⟨_, rfl⟩
  obtain ⟨bm, hbm⟩ : ∃ bm, bm = w4.heap.size := ⟨_, rfl⟩
  have hbmh : Hid (bm = w4.heap.size) := hbm
  have b45 : Hid (Below w4.heap.size w4 w5) := by show Below _ _ _; rw [hw5]; exact balloc (Below.refl _ _) _
  rw [← hw5, ← hbm, ← hT0] at hS
  have hS5 : Hid (SeH.SetAt w5 bm 0 (TT 0)) := hS
  clear hTT hT0 hS
  go_wp2_with fail
  rw [← hw5, ← hbm]
  clear hw5 hbm hmm
  go_wp2_with fail
  go_loopw [68] (fun s wr => ∃ k mm : Nat, k ≤ mh ∧ mm ≤ k ∧ s = .int .i64 (k : Int) ∧ SeH.SetAt wr bm mm (TT k) ∧ Below w4.heap.size w4 wr) (fun s _ => mh - (intOf s).toNat)
  case atStart => exact ⟨0, 0, Nat.zero_le _, Nat.le_refl _, rfl, hS5.out, b45.out⟩
  case round =>
    clear hS5 b45
    obtain ⟨k, mm, hk, hmm, rfl, hSr, br⟩ := hrel
    by_cases hlt : k < mh
    · have hkd : (k : Int) < (mh : Int) := by omega
      have hkd2 : decide ((k : Int) < (mh : Int)) = true := decide_eq_true hkd
      have hkH : k < H.length := by rw [← hmh.out]; exact hlt
      obtain ⟨bV, oV, rfl, _, hc⟩ := hHin4.out (by omega)
      have l1 := pw_cell_below br (hc k hkH).1
      have l2 := pw_cell_below br (hc k hkH).2
      have hT1 : Hid (TT (k + 1) = addT zs n0 (TT k) (H.getD k (0, 0))) := hTs.out k hkH
      have hwx : Hid (SeH.WfH (H.getD k (0, 0))) := hwf.out _ (by rw [List.getD_eq_getElem?_getD, List.getElem?_eq_getElem hkH]; exact List.getElem_mem hkH)
      obtain ⟨e1, he1⟩ : ∃ e1, (H.getD k (0, 0)).1 = e1 := ⟨_, rfl⟩
      obtain ⟨d1, hd1⟩ : ∃ d1, (H.getD k (0, 0)).2 = d1 := ⟨_, rfl⟩
      rw [he1] at l1
      rw [hd1] at l2
      have hx : H.getD k (0, 0) = (e1, d1) := Prod.ext he1 hd1
      rw [hx] at hT1 hwx
      have x0 : (wr.alloc (.cells #[.int .i64 e1, .int .i64 d1] 35)).cell? ⟨wr.heap.size, 0, none⟩ = some (.int .i64 e1) := cell_of (heap_new _ _) rfl
      have x1 : (wr.alloc (.cells #[.int .i64 e1, .int .i64 d1] 35)).cell? ⟨wr.heap.size, 1, none⟩ = some (.int .i64 d1) := cell_of (heap_new _ _) rfl
      have hq9 : (wr.alloc (.cells #[.int .i64 e1, .int .i64 d1] 35)).heap[wr.heap.size]? = some (.cells #[.int .i64 e1, .int .i64 d1] 35 (0, 0)) := heap_new _ _
      have bW := balloc br (.cells #[.int .i64 e1, .int .i64 d1] 35)
      have hS8 := hSr.below (balloc (Below.refl wr.heap.size wr) (.cells #[.int .i64 e1, .int .i64 d1] 35))
      obtain ⟨W, hW⟩ : ∃ W, W = wr.alloc (.cells #[.int .i64 e1, .int .i64 d1] 35) := ⟨_, rfl⟩
      have hWh : Hid (W = wr.alloc (.cells #[.int .i64 e1, .int .i64 d1] 35)) := hW
      rw [← hW] at x0 x1 bW hS8 hq9
      obtain ⟨q, hq⟩ : ∃ q, q = wr.heap.size := ⟨_, rfl⟩
      have hqh : Hid (q = wr.heap.size) := hq
      rw [← hq] at x0 x1 hq9
      have z1 : IntKind.i64.wrap ((k : Int) + 1) = (k : Int) + 1 := by rw [IntKind.wrap_i64]; omega
      clear hW hq hx he1 hd1 hSr hc
      by_cases g1 : 0 ≤ d1
      · have t1 : decide (d1 ≥ 0) = true := decide_eq_true g1
        obtain ⟨d, rfl⟩ : ∃ d : Nat, d1 = (d : Int) := ⟨d1.toNat, by omega⟩
        by_cases g2 : d < n
        · have t2 : decide ((d : Int) < (n : Int)) = true := decide_eq_true (by omega)
          have t2' : decide (d < n) = true := decide_eq_true g2
          have g2z : (d : Int) < (n : Int) := by omega
          by_cases g3 : 0 ≤ e1
          · have t3 : decide (e1 ≥ 0) = true := decide_eq_true g3
            by_cases g4 : e1 ≤ n0
            · have t4 : decide (e1 ≤ n0) = true := decide_eq_true g4
              have hdz : d < zs.length := by rw [← hnh.out]; exact g2
              obtain ⟨bA, oA, rfl, _, hcA⟩ := hat4.out (by omega)
              have hz3 := pw_cell_below bW (hcA d hdz)
              obtain ⟨z, hz⟩ : ∃ z, zs.getD d ByteArray.empty = z := ⟨_, rfl⟩
              have hzs : szk zs d = z.size := by unfold szk; rw [hz]
              rw [hz] at hz3
              clear hz hcA
              by_cases g5 : (z.size : Int) ≤ e1
              · have t5 : decide (e1 ≥ (z.size : Int)) = true := decide_eq_true g5
                have hT2 : Hid (TT (k + 1) = SeH.addIf (TT k) (e1, (d : Int))) := by
                  show _ = _
                  rw [hT1.out]
                  exact if_pos ⟨g1, by show (d : Int) < (zs.length : Int); omega, g3, g4, by show (szk zs (d : Int).toNat : Int) ≤ e1; rw [Int.toNat_natCast, hzs]; exact g5⟩
                clear hT1 br g1 g3 g4 g5 hzs hdz
                go_wp2_with fail
                rw [← hWh.out, ← hqh.out]
                clear hWh l1 l2
                refine RegQ.wp_region_vals [some 72, some 73, some 74, some 75, some 76, some 77, some 78, some 79, some 80, some 81, some 82, some 83, some 84, some 85, some 86, some 87, some 88, some 89, some 90, some 91, some 92, some 93, some 94, some 95, some 96, some 97, some 98, some 99, some 100, some 101, some 102, some 103] [[], [0], [1], [2], [3], [4, 3], [3], [6, 3], [5, 7, 3], [3, 8], [9, 3], [10], [11, 10], [12, 10], [10, 13], [14, 10], [15], [16, 15], [15], [17, 18, 15], [15, 19], [20, 15], [21], [22, 21], [21], [21], [25, 21], [24, 26, 21], [27, 21], [28, 21], [23, 29, 21], [21, 30]] (fun iq => ([.pointer (some ⟨q, 1, none⟩), .int .i64 (d : Int), .bool true, .bool true, .pointer (some ⟨q, 1, none⟩), .int .i64 (d : Int), .slice (some ⟨bA, oA, none⟩) n cap, .int .i64 (n : Int), .bool true, .bool true, .bool true, .pointer (some ⟨q, 0, none⟩), .int .i64 e1, .bool true, .bool true, .bool true, .pointer (some ⟨q, 0, none⟩), .int .i64 e1, .int .i64 n0, .bool true, .bool true, .bool true, .pointer (some ⟨q, 0, none⟩), .int .i64 e1, .slice (some ⟨bA, oA, none⟩) n cap, .pointer (some ⟨q, 1, none⟩), .int .i64 (d : Int), .pointer (some ⟨bA, oA + d, none⟩), .string z, .int .i64 (z.size : Int), .bool true, .bool true] : List Value).getD iq undef) [0, 1, 2, 3, 4, 5, 6, 7, 8, 9, 10, 11, 12, 13, 14, 15, 16, 17, 18, 19, 20, 21, 22, 23, 24, 25, 26, 27, 28, 29, 30, 31] 195 rfl rfl (by kernel_rfl) (by kernel_rfl) (by kernel_rfl) (by kernel_rfl) (by kernel_rfl) (fun hsz hon => ⟨?_, ?_, ?_, ?_, ?_, ?_, ?_, ?_, ?_, ?_, ?_, ?_, ?_, ?_, ?_, ?_, ?_, ?_, ?_, ?_, ?_, ?_, ?_, ?_, ?_, ?_, ?_, ?_, ?_, ?_, ?_, ?_, trivial⟩) ?_
                · refine RegQ.step_in (by kernel_rfl) ?_
                  intro A hA W hW
                  obtain ⟨qn, rfl⟩ := hW
                  have r13 : A.tmps[13]?.getD undef = .pointer (some ⟨q, 0, none⟩) := RegQ.outG hA (by kernel_rfl) rfl
                  clear hA
                  unfold Oper.quietAt
                  go_simp
                · refine RegQ.step_in (by kernel_rfl) ?_
                  intro A hA W hW
                  obtain ⟨qn, rfl⟩ := hW
                  have r72 : A.tmps[72]?.getD undef = .pointer (some ⟨q, 1, none⟩) := RegQ.inG (j := 0) hA hsz rfl (by kernel_rfl) (by decide) rfl
                  clear hA
                  unfold Oper.quietAt
                  go_simp
                · refine RegQ.step_in (by kernel_rfl) ?_
                  intro A hA W hW
                  obtain ⟨qn, rfl⟩ := hW
                  have r73 : A.tmps[73]?.getD undef = .int .i64 (d : Int) := RegQ.inG (j := 1) hA hsz rfl (by kernel_rfl) (by decide) rfl
                  clear hA
                  unfold Oper.quietAt
                  go_simp
                · refine RegQ.step_in (by kernel_rfl) ?_
                  intro A hA W hW
                  obtain ⟨qn, rfl⟩ := hW
                  have r74 : A.tmps[74]?.getD undef = .bool true := RegQ.inG (j := 2) hA hsz rfl (by kernel_rfl) (by decide) rfl
                  clear hA
                  unfold Oper.quietAt
                  go_simp
                · refine RegQ.step_in (by kernel_rfl) ?_
                  intro A hA W hW
                  obtain ⟨qn, rfl⟩ := hW
                  have r13 : A.tmps[13]?.getD undef = .pointer (some ⟨q, 0, none⟩) := RegQ.outG hA (by kernel_rfl) rfl
                  clear hA
                  unfold Oper.quietAt
                  go_simp
                · refine RegQ.step_in (by kernel_rfl) ?_
                  intro A hA W hW
                  obtain ⟨qn, rfl⟩ := hW
                  have r76 : A.tmps[76]?.getD undef = .pointer (some ⟨q, 1, none⟩) := RegQ.inG (j := 4) hA hsz rfl (by kernel_rfl) (by decide) rfl
                  clear hA
                  unfold Oper.quietAt
                  go_simp
                · refine RegQ.step_in (by kernel_rfl) ?_
                  intro A hA W hW
                  obtain ⟨qn, rfl⟩ := hW
                  have r0 : A.tmps[0]?.getD undef = .slice (some ⟨bA, oA, none⟩) n cap := RegQ.outG hA (by kernel_rfl) rfl
                  clear hA
                  unfold Oper.quietAt
                  go_simp
                · refine RegQ.step_in (by kernel_rfl) ?_
                  intro A hA W hW
                  obtain ⟨qn, rfl⟩ := hW
                  have r78 : A.tmps[78]?.getD undef = .slice (some ⟨bA, oA, none⟩) n cap := RegQ.inG (j := 6) hA hsz rfl (by kernel_rfl) (by decide) rfl
                  clear hA
                  unfold Oper.quietAt
                  go_simp
                · refine RegQ.step_in (by kernel_rfl) ?_
                  intro A hA W hW
                  obtain ⟨qn, rfl⟩ := hW
                  have r77 : A.tmps[77]?.getD undef = .int .i64 (d : Int) := RegQ.inG (j := 5) hA hsz rfl (by kernel_rfl) (by decide) rfl
                  have r79 : A.tmps[79]?.getD undef = .int .i64 (n : Int) := RegQ.inG (j := 7) hA hsz rfl (by kernel_rfl) (by decide) rfl
                  clear hA
                  unfold Oper.quietAt
                  go_simp
                · refine RegQ.step_in (by kernel_rfl) ?_
                  intro A hA W hW
                  obtain ⟨qn, rfl⟩ := hW
                  have r75 : A.tmps[75]?.getD undef = .bool true := RegQ.inG (j := 3) hA hsz rfl (by kernel_rfl) (by decide) rfl
                  have r80 : A.tmps[80]?.getD undef = .bool true := RegQ.inG (j := 8) hA hsz rfl (by kernel_rfl) (by decide) rfl
                  clear hA
                  unfold Oper.quietAt
                  go_simp
                · refine RegQ.step_in (by kernel_rfl) ?_
                  intro A hA W hW
                  obtain ⟨qn, rfl⟩ := hW
                  have r81 : A.tmps[81]?.getD undef = .bool true := RegQ.inG (j := 9) hA hsz rfl (by kernel_rfl) (by decide) rfl
                  clear hA
                  unfold Oper.quietAt
                  go_simp
                · refine RegQ.step_in (by kernel_rfl) ?_
                  intro A hA W hW
                  obtain ⟨qn, rfl⟩ := hW
                  have r13 : A.tmps[13]?.getD undef = .pointer (some ⟨q, 0, none⟩) := RegQ.outG hA (by kernel_rfl) rfl
                  clear hA
                  unfold Oper.quietAt
                  go_simp
                · refine RegQ.step_in (by kernel_rfl) ?_
                  intro A hA W hW
                  obtain ⟨qn, rfl⟩ := hW
                  have r83 : A.tmps[83]?.getD undef = .pointer (some ⟨q, 0, none⟩) := RegQ.inG (j := 11) hA hsz rfl (by kernel_rfl) (by decide) rfl
                  clear hA
                  unfold Oper.quietAt
                  go_simp
                · refine RegQ.step_in (by kernel_rfl) ?_
                  intro A hA W hW
                  obtain ⟨qn, rfl⟩ := hW
                  have r84 : A.tmps[84]?.getD undef = .int .i64 e1 := RegQ.inG (j := 12) hA hsz rfl (by kernel_rfl) (by decide) rfl
                  clear hA
                  unfold Oper.quietAt
                  go_simp
                · refine RegQ.step_in (by kernel_rfl) ?_
                  intro A hA W hW
                  obtain ⟨qn, rfl⟩ := hW
                  have r82 : A.tmps[82]?.getD undef = .bool true := RegQ.inG (j := 10) hA hsz rfl (by kernel_rfl) (by decide) rfl
                  have r85 : A.tmps[85]?.getD undef = .bool true := RegQ.inG (j := 13) hA hsz rfl (by kernel_rfl) (by decide) rfl
                  clear hA
                  unfold Oper.quietAt
                  go_simp
                · refine RegQ.step_in (by kernel_rfl) ?_
                  intro A hA W hW
                  obtain ⟨qn, rfl⟩ := hW
                  have r86 : A.tmps[86]?.getD undef = .bool true := RegQ.inG (j := 14) hA hsz rfl (by kernel_rfl) (by decide) rfl
                  clear hA
                  unfold Oper.quietAt
                  go_simp
                · refine RegQ.step_in (by kernel_rfl) ?_
                  intro A hA W hW
                  obtain ⟨qn, rfl⟩ := hW
                  have r13 : A.tmps[13]?.getD undef = .pointer (some ⟨q, 0, none⟩) := RegQ.outG hA (by kernel_rfl) rfl
                  clear hA
                  unfold Oper.quietAt
                  go_simp
                · refine RegQ.step_in (by kernel_rfl) ?_
                  intro A hA W hW
                  obtain ⟨qn, rfl⟩ := hW
                  have r88 : A.tmps[88]?.getD undef = .pointer (some ⟨q, 0, none⟩) := RegQ.inG (j := 16) hA hsz rfl (by kernel_rfl) (by decide) rfl
                  clear hA
                  unfold Oper.quietAt
                  go_simp
                · refine RegQ.step_in (by kernel_rfl) ?_
                  intro A hA W hW
                  obtain ⟨qn, rfl⟩ := hW
                  have r1 : A.tmps[1]?.getD undef = .int .i64 n0 := RegQ.outG hA (by kernel_rfl) rfl
                  clear hA
                  unfold Oper.quietAt
                  go_simp
                · refine RegQ.step_in (by kernel_rfl) ?_
                  intro A hA W hW
                  obtain ⟨qn, rfl⟩ := hW
                  have r89 : A.tmps[89]?.getD undef = .int .i64 e1 := RegQ.inG (j := 17) hA hsz rfl (by kernel_rfl) (by decide) rfl
                  have r90 : A.tmps[90]?.getD undef = .int .i64 n0 := RegQ.inG (j := 18) hA hsz rfl (by kernel_rfl) (by decide) rfl
                  clear hA
                  unfold Oper.quietAt
                  go_simp
                · refine RegQ.step_in (by kernel_rfl) ?_
                  intro A hA W hW
                  obtain ⟨qn, rfl⟩ := hW
                  have r87 : A.tmps[87]?.getD undef = .bool true := RegQ.inG (j := 15) hA hsz rfl (by kernel_rfl) (by decide) rfl
                  have r91 : A.tmps[91]?.getD undef = .bool true := RegQ.inG (j := 19) hA hsz rfl (by kernel_rfl) (by decide) rfl
                  clear hA
                  unfold Oper.quietAt
                  go_simp
                · refine RegQ.step_in (by kernel_rfl) ?_
                  intro A hA W hW
                  obtain ⟨qn, rfl⟩ := hW
                  have r92 : A.tmps[92]?.getD undef = .bool true := RegQ.inG (j := 20) hA hsz rfl (by kernel_rfl) (by decide) rfl
                  clear hA
                  unfold Oper.quietAt
                  go_simp
                · refine RegQ.step_in (by kernel_rfl) ?_
                  intro A hA W hW
                  obtain ⟨qn, rfl⟩ := hW
                  have r13 : A.tmps[13]?.getD undef = .pointer (some ⟨q, 0, none⟩) := RegQ.outG hA (by kernel_rfl) rfl
                  clear hA
                  unfold Oper.quietAt
                  go_simp
                · refine RegQ.step_in (by kernel_rfl) ?_
                  intro A hA W hW
                  obtain ⟨qn, rfl⟩ := hW
                  have r94 : A.tmps[94]?.getD undef = .pointer (some ⟨q, 0, none⟩) := RegQ.inG (j := 22) hA hsz rfl (by kernel_rfl) (by decide) rfl
                  clear hA
                  unfold Oper.quietAt
                  go_simp
                · refine RegQ.step_in (by kernel_rfl) ?_
                  intro A hA W hW
                  obtain ⟨qn, rfl⟩ := hW
                  have r0 : A.tmps[0]?.getD undef = .slice (some ⟨bA, oA, none⟩) n cap := RegQ.outG hA (by kernel_rfl) rfl
                  clear hA
                  unfold Oper.quietAt
                  go_simp
                · refine RegQ.step_in (by kernel_rfl) ?_
                  intro A hA W hW
                  obtain ⟨qn, rfl⟩ := hW
                  have r13 : A.tmps[13]?.getD undef = .pointer (some ⟨q, 0, none⟩) := RegQ.outG hA (by kernel_rfl) rfl
                  clear hA
                  unfold Oper.quietAt
                  go_simp
                · refine RegQ.step_in (by kernel_rfl) ?_
                  intro A hA W hW
                  obtain ⟨qn, rfl⟩ := hW
                  have r97 : A.tmps[97]?.getD undef = .pointer (some ⟨q, 1, none⟩) := RegQ.inG (j := 25) hA hsz rfl (by kernel_rfl) (by decide) rfl
                  clear hA
                  unfold Oper.quietAt
                  go_simp
                · refine RegQ.step_in (by kernel_rfl) ?_
                  intro A hA W hW
                  obtain ⟨qn, rfl⟩ := hW
                  have r96 : A.tmps[96]?.getD undef = .slice (some ⟨bA, oA, none⟩) n cap := RegQ.inG (j := 24) hA hsz rfl (by kernel_rfl) (by decide) rfl
                  have r98 : A.tmps[98]?.getD undef = .int .i64 (d : Int) := RegQ.inG (j := 26) hA hsz rfl (by kernel_rfl) (by decide) rfl
                  clear hA
                  unfold Oper.quietAt
                  go_simp
                · refine RegQ.step_in (by kernel_rfl) ?_
                  intro A hA W hW
                  obtain ⟨qn, rfl⟩ := hW
                  have r99 : A.tmps[99]?.getD undef = .pointer (some ⟨bA, oA + d, none⟩) := RegQ.inG (j := 27) hA hsz rfl (by kernel_rfl) (by decide) rfl
                  clear hA
                  unfold Oper.quietAt
                  go_simp
                · refine RegQ.step_in (by kernel_rfl) ?_
                  intro A hA W hW
                  obtain ⟨qn, rfl⟩ := hW
                  have r100 : A.tmps[100]?.getD undef = .string z := RegQ.inG (j := 28) hA hsz rfl (by kernel_rfl) (by decide) rfl
                  clear hA
                  unfold Oper.quietAt
                  go_simp
                · refine RegQ.step_in (by kernel_rfl) ?_
                  intro A hA W hW
                  obtain ⟨qn, rfl⟩ := hW
                  have r95 : A.tmps[95]?.getD undef = .int .i64 e1 := RegQ.inG (j := 23) hA hsz rfl (by kernel_rfl) (by decide) rfl
                  have r101 : A.tmps[101]?.getD undef = .int .i64 (z.size : Int) := RegQ.inG (j := 29) hA hsz rfl (by kernel_rfl) (by decide) rfl
                  clear hA
                  unfold Oper.quietAt
                  go_simp
                · refine RegQ.step_in (by kernel_rfl) ?_
                  intro A hA W hW
                  obtain ⟨qn, rfl⟩ := hW
                  have r93 : A.tmps[93]?.getD undef = .bool true := RegQ.inG (j := 21) hA hsz rfl (by kernel_rfl) (by decide) rfl
                  have r102 : A.tmps[102]?.getD undef = .bool true := RegQ.inG (j := 30) hA hsz rfl (by kernel_rfl) (by decide) rfl
                  clear hA
                  unfold Oper.quietAt
                  go_simp
                · intro qn
                  simp only [Reg.putS, List.foldl, List.getD_cons_zero, List.getD_cons_succ, Act.put, List.setIfInBounds_toArray, List.set_cons_zero, List.set_cons_succ]
                  have b9 := drewN_below (n := qn) (Below.refl W.heap.size W)
                  have hS9 := hS8.below b9
                  have y0 := pw_cell_below b9 x0
                  have y1 := pw_cell_below b9 x1
                  replace b9 := bW.trans (b9.mono bW.size)
                  clear hS8 bW x0 x1 hq9 hz3
                  generalize W.drewN qn = w9 at b9 hS9 y0 y1 ⊢
                  obtain ⟨w10, hrun0, hS10, hg10⟩ := hS9.put hwx.out (by unfold maxLen; omega)
                  have hrun : (Instr.mapUpdate 33 (.map (some bm)) (.agg #[.int .i64 e1, .int .i64 (d : Int)]) (.bool true)).run Try.prog w9 = .ok () w10 := hrun0
                  have b10 := b9.grown hg10 b9.size (fun qq hqq => by injection hqq with hqq; have := hbmh.out; omega)
                  clear hrun0 hS9 hg10 b9
                  go_wp2_with fail
                  go_roundw
                  case rel => exact ⟨k + 1, mm + 1, hlt, by omega, by go_num, by rw [hT2.out]; exact hS10, b10⟩
                  case measure => simp [intOf]; omega
              · have t5 : decide (e1 ≥ (z.size : Int)) = false := decide_eq_false g5
                have hT2 : Hid (TT (k + 1) = TT k) := by
                  show _ = _
                  rw [hT1.out]; exact if_neg (fun h => by have h5 := h.2.2.2.2; simp only [Int.toNat_natCast] at h5; omega)
                clear hT1 hwx br g1 g3 g4 g5 hzs hdz
                go_wp2_with fail
                rw [← hWh.out, ← hqh.out]
                clear hWh l1 l2
                refine RegQ.wp_region_vals [some 72, some 73, some 74, some 75, some 76, some 77, some 78, some 79, some 80, some 81, some 82, some 83, some 84, some 85, some 86, some 87, some 88, some 89, some 90, some 91, some 92, some 93, some 94, some 95, some 96, some 97, some 98, some 99, some 100, some 101, some 102, some 103] [[], [0], [1], [2], [3], [4, 3], [3], [6, 3], [5, 7, 3], [3, 8], [9, 3], [10], [11, 10], [12, 10], [10, 13], [14, 10], [15], [16, 15], [15], [17, 18, 15], [15, 19], [20, 15], [21], [22, 21], [21], [21], [25, 21], [24, 26, 21], [27, 21], [28, 21], [23, 29, 21], [21, 30]] (fun iq => ([.pointer (some ⟨q, 1, none⟩), .int .i64 (d : Int), .bool true, .bool true, .pointer (some ⟨q, 1, none⟩), .int .i64 (d : Int), .slice (some ⟨bA, oA, none⟩) n cap, .int .i64 (n : Int), .bool true, .bool true, .bool true, .pointer (some ⟨q, 0, none⟩), .int .i64 e1, .bool true, .bool true, .bool true, .pointer (some ⟨q, 0, none⟩), .int .i64 e1, .int .i64 n0, .bool true, .bool true, .bool true, .pointer (some ⟨q, 0, none⟩), .int .i64 e1, .slice (some ⟨bA, oA, none⟩) n cap, .pointer (some ⟨q, 1, none⟩), .int .i64 (d : Int), .pointer (some ⟨bA, oA + d, none⟩), .string z, .int .i64 (z.size : Int), .bool false, .bool false] : List Value).getD iq undef) [0, 1, 2, 3, 4, 5, 6, 7, 8, 9, 10, 11, 12, 13, 14, 15, 16, 17, 18, 19, 20, 21, 22, 23, 24, 25, 26, 27, 28, 29, 30, 31] 195 rfl rfl (by kernel_rfl) (by kernel_rfl) (by kernel_rfl) (by kernel_rfl) (by kernel_rfl) (fun hsz hon => ⟨?_, ?_, ?_, ?_, ?_, ?_, ?_, ?_, ?_, ?_, ?_, ?_, ?_, ?_, ?_, ?_, ?_, ?_, ?_, ?_, ?_, ?_, ?_, ?_, ?_, ?_, ?_, ?_, ?_, ?_, ?_, ?_, trivial⟩) ?_
                · refine RegQ.step_in (by kernel_rfl) ?_
                  intro A hA W hW
                  obtain ⟨qn, rfl⟩ := hW
                  have r13 : A.tmps[13]?.getD undef = .pointer (some ⟨q, 0, none⟩) := RegQ.outG hA (by kernel_rfl) rfl
                  clear hA
                  unfold Oper.quietAt
                  go_simp
                · refine RegQ.step_in (by kernel_rfl) ?_
                  intro A hA W hW
                  obtain ⟨qn, rfl⟩ := hW
                  have r72 : A.tmps[72]?.getD undef = .pointer (some ⟨q, 1, none⟩) := RegQ.inG (j := 0) hA hsz rfl (by kernel_rfl) (by decide) rfl
                  clear hA
                  unfold Oper.quietAt
                  go_simp
                · refine RegQ.step_in (by kernel_rfl) ?_
                  intro A hA W hW
                  obtain ⟨qn, rfl⟩ := hW
                  have r73 : A.tmps[73]?.getD undef = .int .i64 (d : Int) := RegQ.inG (j := 1) hA hsz rfl (by kernel_rfl) (by decide) rfl
                  clear hA
                  unfold Oper.quietAt
                  go_simp
                · refine RegQ.step_in (by kernel_rfl) ?_
                  intro A hA W hW
                  obtain ⟨qn, rfl⟩ := hW
                  have r74 : A.tmps[74]?.getD undef = .bool true := RegQ.inG (j := 2) hA hsz rfl (by kernel_rfl) (by decide) rfl
                  clear hA
                  unfold Oper.quietAt
                  go_simp
                · refine RegQ.step_in (by kernel_rfl) ?_
                  intro A hA W hW
                  obtain ⟨qn, rfl⟩ := hW
                  have r13 : A.tmps[13]?.getD undef = .pointer (some ⟨q, 0, none⟩) := RegQ.outG hA (by kernel_rfl) rfl
                  clear hA
                  unfold Oper.quietAt
                  go_simp
                · refine RegQ.step_in (by kernel_rfl) ?_
                  intro A hA W hW
                  obtain ⟨qn, rfl⟩ := hW
                  have r76 : A.tmps[76]?.getD undef = .pointer (some ⟨q, 1, none⟩) := RegQ.inG (j := 4) hA hsz rfl (by kernel_rfl) (by decide) rfl
                  clear hA
                  unfold Oper.quietAt
                  go_simp
                · refine RegQ.step_in (by kernel_rfl) ?_
                  intro A hA W hW
                  obtain ⟨qn, rfl⟩ := hW
                  have r0 : A.tmps[0]?.getD undef = .slice (some ⟨bA, oA, none⟩) n cap := RegQ.outG hA (by kernel_rfl) rfl
                  clear hA
                  unfold Oper.quietAt
                  go_simp
                · refine RegQ.step_in (by kernel_rfl) ?_
                  intro A hA W hW
                  obtain ⟨qn, rfl⟩ := hW
                  have r78 : A.tmps[78]?.getD undef = .slice (some ⟨bA, oA, none⟩) n cap := RegQ.inG (j := 6) hA hsz rfl (by kernel_rfl) (by decide) rfl
                  clear hA
                  unfold Oper.quietAt
                  go_simp
                · refine RegQ.step_in (by kernel_rfl) ?_
                  intro A hA W hW
                  obtain ⟨qn, rfl⟩ := hW
                  have r77 : A.tmps[77]?.getD undef = .int .i64 (d : Int) := RegQ.inG (j := 5) hA hsz rfl (by kernel_rfl) (by decide) rfl
                  have r79 : A.tmps[79]?.getD undef = .int .i64 (n : Int) := RegQ.inG (j := 7) hA hsz rfl (by kernel_rfl) (by decide) rfl
                  clear hA
                  unfold Oper.quietAt
                  go_simp
                · refine RegQ.step_in (by kernel_rfl) ?_
                  intro A hA W hW
                  obtain ⟨qn, rfl⟩ := hW
                  have r75 : A.tmps[75]?.getD undef = .bool true := RegQ.inG (j := 3) hA hsz rfl (by kernel_rfl) (by decide) rfl
                  have r80 : A.tmps[80]?.getD undef = .bool true := RegQ.inG (j := 8) hA hsz rfl (by kernel_rfl) (by decide) rfl
                  clear hA
                  unfold Oper.quietAt
                  go_simp
                · refine RegQ.step_in (by kernel_rfl) ?_
                  intro A hA W hW
                  obtain ⟨qn, rfl⟩ := hW
                  have r81 : A.tmps[81]?.getD undef = .bool true := RegQ.inG (j := 9) hA hsz rfl (by kernel_rfl) (by decide) rfl
                  clear hA
                  unfold Oper.quietAt
                  go_simp
                · refine RegQ.step_in (by kernel_rfl) ?_
                  intro A hA W hW
                  obtain ⟨qn, rfl⟩ := hW
                  have r13 : A.tmps[13]?.getD undef = .pointer (some ⟨q, 0, none⟩) := RegQ.outG hA (by kernel_rfl) rfl
                  clear hA
                  unfold Oper.quietAt
                  go_simp
                · refine RegQ.step_in (by kernel_rfl) ?_
                  intro A hA W hW
                  obtain ⟨qn, rfl⟩ := hW
                  have r83 : A.tmps[83]?.getD undef = .pointer (some ⟨q, 0, none⟩) := RegQ.inG (j := 11) hA hsz rfl (by kernel_rfl) (by decide) rfl
                  clear hA
                  unfold Oper.quietAt
                  go_simp
                · refine RegQ.step_in (by kernel_rfl) ?_
                  intro A hA W hW
                  obtain ⟨qn, rfl⟩ := hW
                  have r84 : A.tmps[84]?.getD undef = .int .i64 e1 := RegQ.inG (j := 12) hA hsz rfl (by kernel_rfl) (by decide) rfl
                  clear hA
                  unfold Oper.quietAt
                  go_simp
                · refine RegQ.step_in (by kernel_rfl) ?_
                  intro A hA W hW
                  obtain ⟨qn, rfl⟩ := hW
                  have r82 : A.tmps[82]?.getD undef = .bool true := RegQ.inG (j := 10) hA hsz rfl (by kernel_rfl) (by decide) rfl
                  have r85 : A.tmps[85]?.getD undef = .bool true := RegQ.inG (j := 13) hA hsz rfl (by kernel_rfl) (by decide) rfl
                  clear hA
                  unfold Oper.quietAt
                  go_simp
                · refine RegQ.step_in (by kernel_rfl) ?_
                  intro A hA W hW
                  obtain ⟨qn, rfl⟩ := hW
                  have r86 : A.tmps[86]?.getD undef = .bool true := RegQ.inG (j := 14) hA hsz rfl (by kernel_rfl) (by decide) rfl
                  clear hA
                  unfold Oper.quietAt
                  go_simp
                · refine RegQ.step_in (by kernel_rfl) ?_
                  intro A hA W hW
                  obtain ⟨qn, rfl⟩ := hW
                  have r13 : A.tmps[13]?.getD undef = .pointer (some ⟨q, 0, none⟩) := RegQ.outG hA (by kernel_rfl) rfl
                  clear hA
                  unfold Oper.quietAt
                  go_simp
                · refine RegQ.step_in (by kernel_rfl) ?_
                  intro A hA W hW
                  obtain ⟨qn, rfl⟩ := hW
                  have r88 : A.tmps[88]?.getD undef = .pointer (some ⟨q, 0, none⟩) := RegQ.inG (j := 16) hA hsz rfl (by kernel_rfl) (by decide) rfl
                  clear hA
                  unfold Oper.quietAt
                  go_simp
                · refine RegQ.step_in (by kernel_rfl) ?_
                  intro A hA W hW
                  obtain ⟨qn, rfl⟩ := hW
                  have r1 : A.tmps[1]?.getD undef = .int .i64 n0 := RegQ.outG hA (by kernel_rfl) rfl
                  clear hA
                  unfold Oper.quietAt
                  go_simp
                · refine RegQ.step_in (by kernel_rfl) ?_
                  intro A hA W hW
                  obtain ⟨qn, rfl⟩ := hW
                  have r89 : A.tmps[89]?.getD undef = .int .i64 e1 := RegQ.inG (j := 17) hA hsz rfl (by kernel_rfl) (by decide) rfl
                  have r90 : A.tmps[90]?.getD undef = .int .i64 n0 := RegQ.inG (j := 18) hA hsz rfl (by kernel_rfl) (by decide) rfl
                  clear hA
                  unfold Oper.quietAt
                  go_simp
                · refine RegQ.step_in (by kernel_rfl) ?_
                  intro A hA W hW
                  obtain ⟨qn, rfl⟩ := hW
                  have r87 : A.tmps[87]?.getD undef = .bool true := RegQ.inG (j := 15) hA hsz rfl (by kernel_rfl) (by decide) rfl
                  have r91 : A.tmps[91]?.getD undef = .bool true := RegQ.inG (j := 19) hA hsz rfl (by kernel_rfl) (by decide) rfl
                  clear hA
                  unfold Oper.quietAt
                  go_simp
                · refine RegQ.step_in (by kernel_rfl) ?_
                  intro A hA W hW
                  obtain ⟨qn, rfl⟩ := hW
                  have r92 : A.tmps[92]?.getD undef = .bool true := RegQ.inG (j := 20) hA hsz rfl (by kernel_rfl) (by decide) rfl
                  clear hA
                  unfold Oper.quietAt
                  go_simp
                · refine RegQ.step_in (by kernel_rfl) ?_
                  intro A hA W hW
                  obtain ⟨qn, rfl⟩ := hW
                  have r13 : A.tmps[13]?.getD undef = .pointer (some ⟨q, 0, none⟩) := RegQ.outG hA (by kernel_rfl) rfl
                  clear hA
                  unfold Oper.quietAt
                  go_simp
                · refine RegQ.step_in (by kernel_rfl) ?_
                  intro A hA W hW
                  obtain ⟨qn, rfl⟩ := hW
                  have r94 : A.tmps[94]?.getD undef = .pointer (some ⟨q, 0, none⟩) := RegQ.inG (j := 22) hA hsz rfl (by kernel_rfl) (by decide) rfl
                  clear hA
                  unfold Oper.quietAt
                  go_simp
                · refine RegQ.step_in (by kernel_rfl) ?_
                  intro A hA W hW
                  obtain ⟨qn, rfl⟩ := hW
                  have r0 : A.tmps[0]?.getD undef = .slice (some ⟨bA, oA, none⟩) n cap := RegQ.outG hA (by kernel_rfl) rfl
                  clear hA
                  unfold Oper.quietAt
                  go_simp
                · refine RegQ.step_in (by kernel_rfl) ?_
                  intro A hA W hW
                  obtain ⟨qn, rfl⟩ := hW
                  have r13 : A.tmps[13]?.getD undef = .pointer (some ⟨q, 0, none⟩) := RegQ.outG hA (by kernel_rfl) rfl
                  clear hA
                  unfold Oper.quietAt
                  go_simp
                · refine RegQ.step_in (by kernel_rfl) ?_
                  intro A hA W hW
                  obtain ⟨qn, rfl⟩ := hW
                  have r97 : A.tmps[97]?.getD undef = .pointer (some ⟨q, 1, none⟩) := RegQ.inG (j := 25) hA hsz rfl (by kernel_rfl) (by decide) rfl
                  clear hA
                  unfold Oper.quietAt
                  go_simp
                · refine RegQ.step_in (by kernel_rfl) ?_
                  intro A hA W hW
                  obtain ⟨qn, rfl⟩ := hW
                  have r96 : A.tmps[96]?.getD undef = .slice (some ⟨bA, oA, none⟩) n cap := RegQ.inG (j := 24) hA hsz rfl (by kernel_rfl) (by decide) rfl
                  have r98 : A.tmps[98]?.getD undef = .int .i64 (d : Int) := RegQ.inG (j := 26) hA hsz rfl (by kernel_rfl) (by decide) rfl
                  clear hA
                  unfold Oper.quietAt
                  go_simp
                · refine RegQ.step_in (by kernel_rfl) ?_
                  intro A hA W hW
                  obtain ⟨qn, rfl⟩ := hW
                  have r99 : A.tmps[99]?.getD undef = .pointer (some ⟨bA, oA + d, none⟩) := RegQ.inG (j := 27) hA hsz rfl (by kernel_rfl) (by decide) rfl
                  clear hA
                  unfold Oper.quietAt
                  go_simp
                · refine RegQ.step_in (by kernel_rfl) ?_
                  intro A hA W hW
                  obtain ⟨qn, rfl⟩ := hW
                  have r100 : A.tmps[100]?.getD undef = .string z := RegQ.inG (j := 28) hA hsz rfl (by kernel_rfl) (by decide) rfl
                  clear hA
                  unfold Oper.quietAt
                  go_simp
                · refine RegQ.step_in (by kernel_rfl) ?_
                  intro A hA W hW
                  obtain ⟨qn, rfl⟩ := hW
                  have r95 : A.tmps[95]?.getD undef = .int .i64 e1 := RegQ.inG (j := 23) hA hsz rfl (by kernel_rfl) (by decide) rfl
                  have r101 : A.tmps[101]?.getD undef = .int .i64 (z.size : Int) := RegQ.inG (j := 29) hA hsz rfl (by kernel_rfl) (by decide) rfl
                  clear hA
                  unfold Oper.quietAt
                  go_simp
                · refine RegQ.step_in (by kernel_rfl) ?_
                  intro A hA W hW
                  obtain ⟨qn, rfl⟩ := hW
                  have r93 : A.tmps[93]?.getD undef = .bool true := RegQ.inG (j := 21) hA hsz rfl (by kernel_rfl) (by decide) rfl
                  have r102 : A.tmps[102]?.getD undef = .bool false := RegQ.inG (j := 30) hA hsz rfl (by kernel_rfl) (by decide) rfl
                  clear hA
                  unfold Oper.quietAt
                  go_simp
                · intro qn
                  simp only [Reg.putS, List.foldl, List.getD_cons_zero, List.getD_cons_succ, Act.put, List.setIfInBounds_toArray, List.set_cons_zero, List.set_cons_succ]
                  have b9 := drewN_below (n := qn) (Below.refl W.heap.size W)
                  have hS9 := hS8.below b9
                  replace b9 := bW.trans (b9.mono bW.size)
                  clear hS8 bW x0 x1 hq9
                  generalize W.drewN qn = w9 at b9 hS9 ⊢
                  go_wp2_with fail
                  go_roundw
                  case rel => exact ⟨k + 1, mm, hlt, by omega, by go_num, by rw [hT2.out]; exact hS9, b9⟩
                  case measure => simp [intOf]; omega
            · have t4 : decide (e1 ≤ n0) = false := decide_eq_false g4
              have hT2 : Hid (TT (k + 1) = TT k) := by
                show _ = _
                rw [hT1.out]; exact if_neg (fun h => by exact g4 h.2.2.2.1)
              clear hT1 hwx br g1 g3 g4
              go_wp2_with fail
              rw [← hWh.out, ← hqh.out]
              clear hWh l1 l2
              refine RegQ.wp_region_vals [some 72, some 73, some 74, some 75, some 76, some 77, some 78, some 79, some 80, some 81, some 82, some 83, some 84, some 85, some 86, some 87, some 88, some 89, some 90, some 91, some 92, some 93, some 94, some 95, some 96, some 97, some 98, some 99, some 100, some 101, some 102, some 103] [[], [0], [1], [2], [3], [4, 3], [3], [6, 3], [5, 7, 3], [3, 8], [9, 3], [10], [11, 10], [12, 10], [10, 13], [14, 10], [15], [16, 15], [15], [17, 18, 15], [15, 19], [20, 15], [21], [22, 21], [21], [21], [25, 21], [24, 26, 21], [27, 21], [28, 21], [23, 29, 21], [21, 30]] (fun iq => ([.pointer (some ⟨q, 1, none⟩), .int .i64 (d : Int), .bool true, .bool true, .pointer (some ⟨q, 1, none⟩), .int .i64 (d : Int), .slice AA n cap, .int .i64 (n : Int), .bool true, .bool true, .bool true, .pointer (some ⟨q, 0, none⟩), .int .i64 e1, .bool true, .bool true, .bool true, .pointer (some ⟨q, 0, none⟩), .int .i64 e1, .int .i64 n0, .bool false, .bool false, .bool false, undef, undef, undef, undef, undef, undef, undef, undef, undef, .bool false] : List Value).getD iq undef) [0, 1, 2, 3, 4, 5, 6, 7, 8, 9, 10, 11, 12, 13, 14, 15, 16, 17, 18, 19, 20, 21, 22, 23, 24, 25, 26, 27, 28, 29, 30, 31] 195 rfl rfl (by kernel_rfl) (by kernel_rfl) (by kernel_rfl) (by kernel_rfl) (by kernel_rfl) (fun hsz hon => ⟨?_, ?_, ?_, ?_, ?_, ?_, ?_, ?_, ?_, ?_, ?_, ?_, ?_, ?_, ?_, ?_, ?_, ?_, ?_, ?_, ?_, ?_, ?_, ?_, ?_, ?_, ?_, ?_, ?_, ?_, ?_, ?_, trivial⟩) ?_
              · refine RegQ.step_in (by kernel_rfl) ?_
                intro A hA W hW
                obtain ⟨qn, rfl⟩ := hW
                have r13 : A.tmps[13]?.getD undef = .pointer (some ⟨q, 0, none⟩) := RegQ.outG hA (by kernel_rfl) rfl
                clear hA
                unfold Oper.quietAt
                go_simp
              · refine RegQ.step_in (by kernel_rfl) ?_
                intro A hA W hW
                obtain ⟨qn, rfl⟩ := hW
                have r72 : A.tmps[72]?.getD undef = .pointer (some ⟨q, 1, none⟩) := RegQ.inG (j := 0) hA hsz rfl (by kernel_rfl) (by decide) rfl
                clear hA
                unfold Oper.quietAt
                go_simp
              · refine RegQ.step_in (by kernel_rfl) ?_
                intro A hA W hW
                obtain ⟨qn, rfl⟩ := hW
                have r73 : A.tmps[73]?.getD undef = .int .i64 (d : Int) := RegQ.inG (j := 1) hA hsz rfl (by kernel_rfl) (by decide) rfl
                clear hA
                unfold Oper.quietAt
                go_simp
              · refine RegQ.step_in (by kernel_rfl) ?_
                intro A hA W hW
                obtain ⟨qn, rfl⟩ := hW
                have r74 : A.tmps[74]?.getD undef = .bool true := RegQ.inG (j := 2) hA hsz rfl (by kernel_rfl) (by decide) rfl
                clear hA
                unfold Oper.quietAt
                go_simp
              · refine RegQ.step_in (by kernel_rfl) ?_
                intro A hA W hW
                obtain ⟨qn, rfl⟩ := hW
                have r13 : A.tmps[13]?.getD undef = .pointer (some ⟨q, 0, none⟩) := RegQ.outG hA (by kernel_rfl) rfl
                clear hA
                unfold Oper.quietAt
                go_simp
              · refine RegQ.step_in (by kernel_rfl) ?_
                intro A hA W hW
                obtain ⟨qn, rfl⟩ := hW
                have r76 : A.tmps[76]?.getD undef = .pointer (some ⟨q, 1, none⟩) := RegQ.inG (j := 4) hA hsz rfl (by kernel_rfl) (by decide) rfl
                clear hA
                unfold Oper.quietAt
                go_simp
              · refine RegQ.step_in (by kernel_rfl) ?_
                intro A hA W hW
                obtain ⟨qn, rfl⟩ := hW
                have r0 : A.tmps[0]?.getD undef = .slice AA n cap := RegQ.outG hA (by kernel_rfl) rfl
                clear hA
                unfold Oper.quietAt
                go_simp
              · refine RegQ.step_in (by kernel_rfl) ?_
                intro A hA W hW
                obtain ⟨qn, rfl⟩ := hW
                have r78 : A.tmps[78]?.getD undef = .slice AA n cap := RegQ.inG (j := 6) hA hsz rfl (by kernel_rfl) (by decide) rfl
                clear hA
                unfold Oper.quietAt
                go_simp
              · refine RegQ.step_in (by kernel_rfl) ?_
                intro A hA W hW
                obtain ⟨qn, rfl⟩ := hW
                have r77 : A.tmps[77]?.getD undef = .int .i64 (d : Int) := RegQ.inG (j := 5) hA hsz rfl (by kernel_rfl) (by decide) rfl
                have r79 : A.tmps[79]?.getD undef = .int .i64 (n : Int) := RegQ.inG (j := 7) hA hsz rfl (by kernel_rfl) (by decide) rfl
                clear hA
                unfold Oper.quietAt
                go_simp
              · refine RegQ.step_in (by kernel_rfl) ?_
                intro A hA W hW
                obtain ⟨qn, rfl⟩ := hW
                have r75 : A.tmps[75]?.getD undef = .bool true := RegQ.inG (j := 3) hA hsz rfl (by kernel_rfl) (by decide) rfl
                have r80 : A.tmps[80]?.getD undef = .bool true := RegQ.inG (j := 8) hA hsz rfl (by kernel_rfl) (by decide) rfl
                clear hA
                unfold Oper.quietAt
                go_simp
              · refine RegQ.step_in (by kernel_rfl) ?_
                intro A hA W hW
                obtain ⟨qn, rfl⟩ := hW
                have r81 : A.tmps[81]?.getD undef = .bool true := RegQ.inG (j := 9) hA hsz rfl (by kernel_rfl) (by decide) rfl
                clear hA
                unfold Oper.quietAt
                go_simp
              · refine RegQ.step_in (by kernel_rfl) ?_
                intro A hA W hW
                obtain ⟨qn, rfl⟩ := hW
                have r13 : A.tmps[13]?.getD undef = .pointer (some ⟨q, 0, none⟩) := RegQ.outG hA (by kernel_rfl) rfl
                clear hA
                unfold Oper.quietAt
                go_simp
              · refine RegQ.step_in (by kernel_rfl) ?_
                intro A hA W hW
                obtain ⟨qn, rfl⟩ := hW
                have r83 : A.tmps[83]?.getD undef = .pointer (some ⟨q, 0, none⟩) := RegQ.inG (j := 11) hA hsz rfl (by kernel_rfl) (by decide) rfl
                clear hA
                unfold Oper.quietAt
                go_simp
              · refine RegQ.step_in (by kernel_rfl) ?_
                intro A hA W hW
                obtain ⟨qn, rfl⟩ := hW
                have r84 : A.tmps[84]?.getD undef = .int .i64 e1 := RegQ.inG (j := 12) hA hsz rfl (by kernel_rfl) (by decide) rfl
                clear hA
                unfold Oper.quietAt
                go_simp
              · refine RegQ.step_in (by kernel_rfl) ?_
                intro A hA W hW
                obtain ⟨qn, rfl⟩ := hW
                have r82 : A.tmps[82]?.getD undef = .bool true := RegQ.inG (j := 10) hA hsz rfl (by kernel_rfl) (by decide) rfl
                have r85 : A.tmps[85]?.getD undef = .bool true := RegQ.inG (j := 13) hA hsz rfl (by kernel_rfl) (by decide) rfl
                clear hA
                unfold Oper.quietAt
                go_simp
              · refine RegQ.step_in (by kernel_rfl) ?_
                intro A hA W hW
                obtain ⟨qn, rfl⟩ := hW
                have r86 : A.tmps[86]?.getD undef = .bool true := RegQ.inG (j := 14) hA hsz rfl (by kernel_rfl) (by decide) rfl
                clear hA
                unfold Oper.quietAt
                go_simp
              · refine RegQ.step_in (by kernel_rfl) ?_
                intro A hA W hW
                obtain ⟨qn, rfl⟩ := hW
                have r13 : A.tmps[13]?.getD undef = .pointer (some ⟨q, 0, none⟩) := RegQ.outG hA (by kernel_rfl) rfl
                clear hA
                unfold Oper.quietAt
                go_simp
              · refine RegQ.step_in (by kernel_rfl) ?_
                intro A hA W hW
                obtain ⟨qn, rfl⟩ := hW
                have r88 : A.tmps[88]?.getD undef = .pointer (some ⟨q, 0, none⟩) := RegQ.inG (j := 16) hA hsz rfl (by kernel_rfl) (by decide) rfl
                clear hA
                unfold Oper.quietAt
                go_simp
              · refine RegQ.step_in (by kernel_rfl) ?_
                intro A hA W hW
                obtain ⟨qn, rfl⟩ := hW
                have r1 : A.tmps[1]?.getD undef = .int .i64 n0 := RegQ.outG hA (by kernel_rfl) rfl
                clear hA
                unfold Oper.quietAt
                go_simp
              · refine RegQ.step_in (by kernel_rfl) ?_
                intro A hA W hW
                obtain ⟨qn, rfl⟩ := hW
                have r89 : A.tmps[89]?.getD undef = .int .i64 e1 := RegQ.inG (j := 17) hA hsz rfl (by kernel_rfl) (by decide) rfl
                have r90 : A.tmps[90]?.getD undef = .int .i64 n0 := RegQ.inG (j := 18) hA hsz rfl (by kernel_rfl) (by decide) rfl
                clear hA
                unfold Oper.quietAt
                go_simp
              · refine RegQ.step_in (by kernel_rfl) ?_
                intro A hA W hW
                obtain ⟨qn, rfl⟩ := hW
                have r87 : A.tmps[87]?.getD undef = .bool true := RegQ.inG (j := 15) hA hsz rfl (by kernel_rfl) (by decide) rfl
                have r91 : A.tmps[91]?.getD undef = .bool false := RegQ.inG (j := 19) hA hsz rfl (by kernel_rfl) (by decide) rfl
                clear hA
                unfold Oper.quietAt
                go_simp
              · refine RegQ.step_in (by kernel_rfl) ?_
                intro A hA W hW
                obtain ⟨qn, rfl⟩ := hW
                have r92 : A.tmps[92]?.getD undef = .bool false := RegQ.inG (j := 20) hA hsz rfl (by kernel_rfl) (by decide) rfl
                clear hA
                unfold Oper.quietAt
                go_simp
              · exact RegQ.step_no (by kernel_rfl) rfl
              · exact RegQ.step_no (by kernel_rfl) rfl
              · exact RegQ.step_no (by kernel_rfl) rfl
              · exact RegQ.step_no (by kernel_rfl) rfl
              · exact RegQ.step_no (by kernel_rfl) rfl
              · exact RegQ.step_no (by kernel_rfl) rfl
              · exact RegQ.step_no (by kernel_rfl) rfl
              · exact RegQ.step_no (by kernel_rfl) rfl
              · exact RegQ.step_no (by kernel_rfl) rfl
              · refine RegQ.step_in (by kernel_rfl) ?_
                intro A hA W hW
                obtain ⟨qn, rfl⟩ := hW
                have r93 : A.tmps[93]?.getD undef = .bool false := RegQ.inG (j := 21) hA hsz rfl (by kernel_rfl) (by decide) rfl
                have r102 : A.tmps[102]?.getD undef = undef := RegQ.inG (j := 30) hA hsz rfl (by kernel_rfl) (by decide) rfl
                clear hA
                unfold Oper.quietAt
                go_simp
              · intro qn
                simp only [Reg.putS, List.foldl, List.getD_cons_zero, List.getD_cons_succ, Act.put, List.setIfInBounds_toArray, List.set_cons_zero, List.set_cons_succ]
                have b9 := drewN_below (n := qn) (Below.refl W.heap.size W)
                have hS9 := hS8.below b9
                replace b9 := bW.trans (b9.mono bW.size)
                clear hS8 bW x0 x1 hq9
                generalize W.drewN qn = w9 at b9 hS9 ⊢
                go_wp2_with fail
                go_roundw
                case rel => exact ⟨k + 1, mm, hlt, by omega, by go_num, by rw [hT2.out]; exact hS9, b9⟩
                case measure => simp [intOf]; omega
          · have t3 : decide (e1 ≥ 0) = false := decide_eq_false g3
            have hT2 : Hid (TT (k + 1) = TT k) := by
              show _ = _
              rw [hT1.out]; exact if_neg (fun h => by exact g3 h.2.2.1)
            clear hT1 hwx br g1 g3
            go_wp2_with fail
            rw [← hWh.out, ← hqh.out]
            clear hWh l1 l2
            refine RegQ.wp_region_vals [some 72, some 73, some 74, some 75, some 76, some 77, some 78, some 79, some 80, some 81, some 82, some 83, some 84, some 85, some 86, some 87, some 88, some 89, some 90, some 91, some 92, some 93, some 94, some 95, some 96, some 97, some 98, some 99, some 100, some 101, some 102, some 103] [[], [0], [1], [2], [3], [4, 3], [3], [6, 3], [5, 7, 3], [3, 8], [9, 3], [10], [11, 10], [12, 10], [10, 13], [14, 10], [15], [16, 15], [15], [17, 18, 15], [15, 19], [20, 15], [21], [22, 21], [21], [21], [25, 21], [24, 26, 21], [27, 21], [28, 21], [23, 29, 21], [21, 30]] (fun iq => ([.pointer (some ⟨q, 1, none⟩), .int .i64 (d : Int), .bool true, .bool true, .pointer (some ⟨q, 1, none⟩), .int .i64 (d : Int), .slice AA n cap, .int .i64 (n : Int), .bool true, .bool true, .bool true, .pointer (some ⟨q, 0, none⟩), .int .i64 e1, .bool false, .bool false, .bool false, undef, undef, undef, undef, .bool false, .bool false, undef, undef, undef, undef, undef, undef, undef, undef, undef, .bool false] : List Value).getD iq undef) [0, 1, 2, 3, 4, 5, 6, 7, 8, 9, 10, 11, 12, 13, 14, 15, 16, 17, 18, 19, 20, 21, 22, 23, 24, 25, 26, 27, 28, 29, 30, 31] 195 rfl rfl (by kernel_rfl) (by kernel_rfl) (by kernel_rfl) (by kernel_rfl) (by kernel_rfl) (fun hsz hon => ⟨?_, ?_, ?_, ?_, ?_, ?_, ?_, ?_, ?_, ?_, ?_, ?_, ?_, ?_, ?_, ?_, ?_, ?_, ?_, ?_, ?_, ?_, ?_, ?_, ?_, ?_, ?_, ?_, ?_, ?_, ?_, ?_, trivial⟩) ?_
            · refine RegQ.step_in (by kernel_rfl) ?_
              intro A hA W hW
              obtain ⟨qn, rfl⟩ := hW
              have r13 : A.tmps[13]?.getD undef = .pointer (some ⟨q, 0, none⟩) := RegQ.outG hA (by kernel_rfl) rfl
              clear hA
              unfold Oper.quietAt
              go_simp
            · refine RegQ.step_in (by kernel_rfl) ?_
              intro A hA W hW
              obtain ⟨qn, rfl⟩ := hW
              have r72 : A.tmps[72]?.getD undef = .pointer (some ⟨q, 1, none⟩) := RegQ.inG (j := 0) hA hsz rfl (by kernel_rfl) (by decide) rfl
              clear hA
              unfold Oper.quietAt
              go_simp
            · refine RegQ.step_in (by kernel_rfl) ?_
              intro A hA W hW
              obtain ⟨qn, rfl⟩ := hW
              have r73 : A.tmps[73]?.getD undef = .int .i64 (d : Int) := RegQ.inG (j := 1) hA hsz rfl (by kernel_rfl) (by decide) rfl
              clear hA
              unfold Oper.quietAt
              go_simp
            · refine RegQ.step_in (by kernel_rfl) ?_
              intro A hA W hW
              obtain ⟨qn, rfl⟩ := hW
              have r74 : A.tmps[74]?.getD undef = .bool true := RegQ.inG (j := 2) hA hsz rfl (by kernel_rfl) (by decide) rfl
              clear hA
              unfold Oper.quietAt
              go_simp
            · refine RegQ.step_in (by kernel_rfl) ?_
              intro A hA W hW
              obtain ⟨qn, rfl⟩ := hW
              have r13 : A.tmps[13]?.getD undef = .pointer (some ⟨q, 0, none⟩) := RegQ.outG hA (by kernel_rfl) rfl
              clear hA
              unfold Oper.quietAt
              go_simp
            · refine RegQ.step_in (by kernel_rfl) ?_
              intro A hA W hW
              obtain ⟨qn, rfl⟩ := hW
              have r76 : A.tmps[76]?.getD undef = .pointer (some ⟨q, 1, none⟩) := RegQ.inG (j := 4) hA hsz rfl (by kernel_rfl) (by decide) rfl
              clear hA
              unfold Oper.quietAt
              go_simp
            · refine RegQ.step_in (by kernel_rfl) ?_
              intro A hA W hW
              obtain ⟨qn, rfl⟩ := hW
              have r0 : A.tmps[0]?.getD undef = .slice AA n cap := RegQ.outG hA (by kernel_rfl) rfl
              clear hA
              unfold Oper.quietAt
              go_simp
            · refine RegQ.step_in (by kernel_rfl) ?_
              intro A hA W hW
              obtain ⟨qn, rfl⟩ := hW
              have r78 : A.tmps[78]?.getD undef = .slice AA n cap := RegQ.inG (j := 6) hA hsz rfl (by kernel_rfl) (by decide) rfl
              clear hA
              unfold Oper.quietAt
              go_simp
            · refine RegQ.step_in (by kernel_rfl) ?_
              intro A hA W hW
              obtain ⟨qn, rfl⟩ := hW
              have r77 : A.tmps[77]?.getD undef = .int .i64 (d : Int) := RegQ.inG (j := 5) hA hsz rfl (by kernel_rfl) (by decide) rfl
              have r79 : A.tmps[79]?.getD undef = .int .i64 (n : Int) := RegQ.inG (j := 7) hA hsz rfl (by kernel_rfl) (by decide) rfl
              clear hA
              unfold Oper.quietAt
              go_simp
            · refine RegQ.step_in (by kernel_rfl) ?_
              intro A hA W hW
              obtain ⟨qn, rfl⟩ := hW
              have r75 : A.tmps[75]?.getD undef = .bool true := RegQ.inG (j := 3) hA hsz rfl (by kernel_rfl) (by decide) rfl
              have r80 : A.tmps[80]?.getD undef = .bool true := RegQ.inG (j := 8) hA hsz rfl (by kernel_rfl) (by decide) rfl
              clear hA
              unfold Oper.quietAt
              go_simp
            · refine RegQ.step_in (by kernel_rfl) ?_
              intro A hA W hW
              obtain ⟨qn, rfl⟩ := hW
              have r81 : A.tmps[81]?.getD undef = .bool true := RegQ.inG (j := 9) hA hsz rfl (by kernel_rfl) (by decide) rfl
              clear hA
              unfold Oper.quietAt
              go_simp
            · refine RegQ.step_in (by kernel_rfl) ?_
              intro A hA W hW
              obtain ⟨qn, rfl⟩ := hW
              have r13 : A.tmps[13]?.getD undef = .pointer (some ⟨q, 0, none⟩) := RegQ.outG hA (by kernel_rfl) rfl
              clear hA
              unfold Oper.quietAt
              go_simp
            · refine RegQ.step_in (by kernel_rfl) ?_
              intro A hA W hW
              obtain ⟨qn, rfl⟩ := hW
              have r83 : A.tmps[83]?.getD undef = .pointer (some ⟨q, 0, none⟩) := RegQ.inG (j := 11) hA hsz rfl (by kernel_rfl) (by decide) rfl
              clear hA
              unfold Oper.quietAt
              go_simp
            · refine RegQ.step_in (by kernel_rfl) ?_
              intro A hA W hW
              obtain ⟨qn, rfl⟩ := hW
              have r84 : A.tmps[84]?.getD undef = .int .i64 e1 := RegQ.inG (j := 12) hA hsz rfl (by kernel_rfl) (by decide) rfl
              clear hA
              unfold Oper.quietAt
              go_simp
            · refine RegQ.step_in (by kernel_rfl) ?_
              intro A hA W hW
              obtain ⟨qn, rfl⟩ := hW
              have r82 : A.tmps[82]?.getD undef = .bool true := RegQ.inG (j := 10) hA hsz rfl (by kernel_rfl) (by decide) rfl
              have r85 : A.tmps[85]?.getD undef = .bool false := RegQ.inG (j := 13) hA hsz rfl (by kernel_rfl) (by decide) rfl
              clear hA
              unfold Oper.quietAt
              go_simp
            · refine RegQ.step_in (by kernel_rfl) ?_
              intro A hA W hW
              obtain ⟨qn, rfl⟩ := hW
              have r86 : A.tmps[86]?.getD undef = .bool false := RegQ.inG (j := 14) hA hsz rfl (by kernel_rfl) (by decide) rfl
              clear hA
              unfold Oper.quietAt
              go_simp
            · exact RegQ.step_no (by kernel_rfl) rfl
            · exact RegQ.step_no (by kernel_rfl) rfl
            · exact RegQ.step_no (by kernel_rfl) rfl
            · exact RegQ.step_no (by kernel_rfl) rfl
            · refine RegQ.step_in (by kernel_rfl) ?_
              intro A hA W hW
              obtain ⟨qn, rfl⟩ := hW
              have r87 : A.tmps[87]?.getD undef = .bool false := RegQ.inG (j := 15) hA hsz rfl (by kernel_rfl) (by decide) rfl
              have r91 : A.tmps[91]?.getD undef = undef := RegQ.inG (j := 19) hA hsz rfl (by kernel_rfl) (by decide) rfl
              clear hA
              unfold Oper.quietAt
              go_simp
            · refine RegQ.step_in (by kernel_rfl) ?_
              intro A hA W hW
              obtain ⟨qn, rfl⟩ := hW
              have r92 : A.tmps[92]?.getD undef = .bool false := RegQ.inG (j := 20) hA hsz rfl (by kernel_rfl) (by decide) rfl
              clear hA
              unfold Oper.quietAt
              go_simp
            · exact RegQ.step_no (by kernel_rfl) rfl
            · exact RegQ.step_no (by kernel_rfl) rfl
            · exact RegQ.step_no (by kernel_rfl) rfl
            · exact RegQ.step_no (by kernel_rfl) rfl
            · exact RegQ.step_no (by kernel_rfl) rfl
            · exact RegQ.step_no (by kernel_rfl) rfl
            · exact RegQ.step_no (by kernel_rfl) rfl
            · exact RegQ.step_no (by kernel_rfl) rfl
            · exact RegQ.step_no (by kernel_rfl) rfl
            · refine RegQ.step_in (by kernel_rfl) ?_
              intro A hA W hW
              obtain ⟨qn, rfl⟩ := hW
              have r93 : A.tmps[93]?.getD undef = .bool false := RegQ.inG (j := 21) hA hsz rfl (by kernel_rfl) (by decide) rfl
              have r102 : A.tmps[102]?.getD undef = undef := RegQ.inG (j := 30) hA hsz rfl (by kernel_rfl) (by decide) rfl
              clear hA
              unfold Oper.quietAt
              go_simp
            · intro qn
              simp only [Reg.putS, List.foldl, List.getD_cons_zero, List.getD_cons_succ, Act.put, List.setIfInBounds_toArray, List.set_cons_zero, List.set_cons_succ]
              have b9 := drewN_below (n := qn) (Below.refl W.heap.size W)
              have hS9 := hS8.below b9
              replace b9 := bW.trans (b9.mono bW.size)
              clear hS8 bW x0 x1 hq9
              generalize W.drewN qn = w9 at b9 hS9 ⊢
              go_wp2_with fail
              go_roundw
              case rel => exact ⟨k + 1, mm, hlt, by omega, by go_num, by rw [hT2.out]; exact hS9, b9⟩
              case measure => simp [intOf]; omega
        · have t2 : decide ((d : Int) < (n : Int)) = false := decide_eq_false (by omega)
          have t2' : decide (d < n) = false := decide_eq_false g2
          have hT2 : Hid (TT (k + 1) = TT k) := by
            show _ = _
            rw [hT1.out]; exact if_neg (fun h => by have h2 := h.2.1; have := hnh.out; simp only at h2; omega)
          clear hT1 hwx br g1
          go_wp2_with fail
          rw [← hWh.out, ← hqh.out]
          clear hWh l1 l2
          refine RegQ.wp_region_vals [some 72, some 73, some 74, some 75, some 76, some 77, some 78, some 79, some 80, some 81, some 82, some 83, some 84, some 85, some 86, some 87, some 88, some 89, some 90, some 91, some 92, some 93, some 94, some 95, some 96, some 97, some 98, some 99, some 100, some 101, some 102, some 103] [[], [0], [1], [2], [3], [4, 3], [3], [6, 3], [5, 7, 3], [3, 8], [9, 3], [10], [11, 10], [12, 10], [10, 13], [14, 10], [15], [16, 15], [15], [17, 18, 15], [15, 19], [20, 15], [21], [22, 21], [21], [21], [25, 21], [24, 26, 21], [27, 21], [28, 21], [23, 29, 21], [21, 30]] (fun iq => ([.pointer (some ⟨q, 1, none⟩), .int .i64 (d : Int), .bool true, .bool true, .pointer (some ⟨q, 1, none⟩), .int .i64 (d : Int), .slice AA n cap, .int .i64 (n : Int), .bool false, .bool false, .bool false, undef, undef, undef, .bool false, .bool false, undef, undef, undef, undef, .bool false, .bool false, undef, undef, undef, undef, undef, undef, undef, undef, undef, .bool false] : List Value).getD iq undef) [0, 1, 2, 3, 4, 5, 6, 7, 8, 9, 10, 11, 12, 13, 14, 15, 16, 17, 18, 19, 20, 21, 22, 23, 24, 25, 26, 27, 28, 29, 30, 31] 195 rfl rfl (by kernel_rfl) (by kernel_rfl) (by kernel_rfl) (by kernel_rfl) (by kernel_rfl) (fun hsz hon => ⟨?_, ?_, ?_, ?_, ?_, ?_, ?_, ?_, ?_, ?_, ?_, ?_, ?_, ?_, ?_, ?_, ?_, ?_, ?_, ?_, ?_, ?_, ?_, ?_, ?_, ?_, ?_, ?_, ?_, ?_, ?_, ?_, trivial⟩) ?_
          · refine RegQ.step_in (by kernel_rfl) ?_
            intro A hA W hW
            obtain ⟨qn, rfl⟩ := hW
            have r13 : A.tmps[13]?.getD undef = .pointer (some ⟨q, 0, none⟩) := RegQ.outG hA (by kernel_rfl) rfl
            clear hA
            unfold Oper.quietAt
            go_simp
          · refine RegQ.step_in (by kernel_rfl) ?_
            intro A hA W hW
            obtain ⟨qn, rfl⟩ := hW
            have r72 : A.tmps[72]?.getD undef = .pointer (some ⟨q, 1, none⟩) := RegQ.inG (j := 0) hA hsz rfl (by kernel_rfl) (by decide) rfl
            clear hA
            unfold Oper.quietAt
            go_simp
          · refine RegQ.step_in (by kernel_rfl) ?_
            intro A hA W hW
            obtain ⟨qn, rfl⟩ := hW
            have r73 : A.tmps[73]?.getD undef = .int .i64 (d : Int) := RegQ.inG (j := 1) hA hsz rfl (by kernel_rfl) (by decide) rfl
            clear hA
            unfold Oper.quietAt
            go_simp
          · refine RegQ.step_in (by kernel_rfl) ?_
            intro A hA W hW
            obtain ⟨qn, rfl⟩ := hW
            have r74 : A.tmps[74]?.getD undef = .bool true := RegQ.inG (j := 2) hA hsz rfl (by kernel_rfl) (by decide) rfl
            clear hA
            unfold Oper.quietAt
            go_simp
          · refine RegQ.step_in (by kernel_rfl) ?_
            intro A hA W hW
            obtain ⟨qn, rfl⟩ := hW
            have r13 : A.tmps[13]?.getD undef = .pointer (some ⟨q, 0, none⟩) := RegQ.outG hA (by kernel_rfl) rfl
            clear hA
            unfold Oper.quietAt
            go_simp
          · refine RegQ.step_in (by kernel_rfl) ?_
            intro A hA W hW
            obtain ⟨qn, rfl⟩ := hW
            have r76 : A.tmps[76]?.getD undef = .pointer (some ⟨q, 1, none⟩) := RegQ.inG (j := 4) hA hsz rfl (by kernel_rfl) (by decide) rfl
            clear hA
            unfold Oper.quietAt
            go_simp
          · refine RegQ.step_in (by kernel_rfl) ?_
            intro A hA W hW
            obtain ⟨qn, rfl⟩ := hW
            have r0 : A.tmps[0]?.getD undef = .slice AA n cap := RegQ.outG hA (by kernel_rfl) rfl
            clear hA
            unfold Oper.quietAt
            go_simp
          · refine RegQ.step_in (by kernel_rfl) ?_
            intro A hA W hW
            obtain ⟨qn, rfl⟩ := hW
            have r78 : A.tmps[78]?.getD undef = .slice AA n cap := RegQ.inG (j := 6) hA hsz rfl (by kernel_rfl) (by decide) rfl
            clear hA
            unfold Oper.quietAt
            go_simp
          · refine RegQ.step_in (by kernel_rfl) ?_
            intro A hA W hW
            obtain ⟨qn, rfl⟩ := hW
            have r77 : A.tmps[77]?.getD undef = .int .i64 (d : Int) := RegQ.inG (j := 5) hA hsz rfl (by kernel_rfl) (by decide) rfl
            have r79 : A.tmps[79]?.getD undef = .int .i64 (n : Int) := RegQ.inG (j := 7) hA hsz rfl (by kernel_rfl) (by decide) rfl
            clear hA
            unfold Oper.quietAt
            go_simp
          · refine RegQ.step_in (by kernel_rfl) ?_
            intro A hA W hW
            obtain ⟨qn, rfl⟩ := hW
            have r75 : A.tmps[75]?.getD undef = .bool true := RegQ.inG (j := 3) hA hsz rfl (by kernel_rfl) (by decide) rfl
            have r80 : A.tmps[80]?.getD undef = .bool false := RegQ.inG (j := 8) hA hsz rfl (by kernel_rfl) (by decide) rfl
            clear hA
            unfold Oper.quietAt
            go_simp
          · refine RegQ.step_in (by kernel_rfl) ?_
            intro A hA W hW
            obtain ⟨qn, rfl⟩ := hW
            have r81 : A.tmps[81]?.getD undef = .bool false := RegQ.inG (j := 9) hA hsz rfl (by kernel_rfl) (by decide) rfl
            clear hA
            unfold Oper.quietAt
            go_simp
          · exact RegQ.step_no (by kernel_rfl) rfl
          · exact RegQ.step_no (by kernel_rfl) rfl
          · exact RegQ.step_no (by kernel_rfl) rfl
          · refine RegQ.step_in (by kernel_rfl) ?_
            intro A hA W hW
            obtain ⟨qn, rfl⟩ := hW
            have r82 : A.tmps[82]?.getD undef = .bool false := RegQ.inG (j := 10) hA hsz rfl (by kernel_rfl) (by decide) rfl
            have r85 : A.tmps[85]?.getD undef = undef := RegQ.inG (j := 13) hA hsz rfl (by kernel_rfl) (by decide) rfl
            clear hA
            unfold Oper.quietAt
            go_simp
          · refine RegQ.step_in (by kernel_rfl) ?_
            intro A hA W hW
            obtain ⟨qn, rfl⟩ := hW
            have r86 : A.tmps[86]?.getD undef = .bool false := RegQ.inG (j := 14) hA hsz rfl (by kernel_rfl) (by decide) rfl
            clear hA
            unfold Oper.quietAt
            go_simp
          · exact RegQ.step_no (by kernel_rfl) rfl
          · exact RegQ.step_no (by kernel_rfl) rfl
          · exact RegQ.step_no (by kernel_rfl) rfl
          · exact RegQ.step_no (by kernel_rfl) rfl
          · refine RegQ.step_in (by kernel_rfl) ?_
            intro A hA W hW
            obtain ⟨qn, rfl⟩ := hW
            have r87 : A.tmps[87]?.getD undef = .bool false := RegQ.inG (j := 15) hA hsz rfl (by kernel_rfl) (by decide) rfl
            have r91 : A.tmps[91]?.getD undef = undef := RegQ.inG (j := 19) hA hsz rfl (by kernel_rfl) (by decide) rfl
            clear hA
            unfold Oper.quietAt
            go_simp
          · refine RegQ.step_in (by kernel_rfl) ?_
            intro A hA W hW
            obtain ⟨qn, rfl⟩ := hW
            have r92 : A.tmps[92]?.getD undef = .bool false := RegQ.inG (j := 20) hA hsz rfl (by kernel_rfl) (by decide) rfl
            clear hA
            unfold Oper.quietAt
            go_simp
          · exact RegQ.step_no (by kernel_rfl) rfl
          · exact RegQ.step_no (by kernel_rfl) rfl
          · exact RegQ.step_no (by kernel_rfl) rfl
          · exact RegQ.step_no (by kernel_rfl) rfl
          · exact RegQ.step_no (by kernel_rfl) rfl
          · exact RegQ.step_no (by kernel_rfl) rfl
          · exact RegQ.step_no (by kernel_rfl) rfl
          · exact RegQ.step_no (by kernel_rfl) rfl
          · exact RegQ.step_no (by kernel_rfl) rfl
          · refine RegQ.step_in (by kernel_rfl) ?_
            intro A hA W hW
            obtain ⟨qn, rfl⟩ := hW
            have r93 : A.tmps[93]?.getD undef = .bool false := RegQ.inG (j := 21) hA hsz rfl (by kernel_rfl) (by decide) rfl
            have r102 : A.tmps[102]?.getD undef = undef := RegQ.inG (j := 30) hA hsz rfl (by kernel_rfl) (by decide) rfl
            clear hA
            unfold Oper.quietAt
            go_simp
          · intro qn
            simp only [Reg.putS, List.foldl, List.getD_cons_zero, List.getD_cons_succ, Act.put, List.setIfInBounds_toArray, List.set_cons_zero, List.set_cons_succ]
            have b9 := drewN_below (n := qn) (Below.refl W.heap.size W)
            have hS9 := hS8.below b9
            replace b9 := bW.trans (b9.mono bW.size)
            clear hS8 bW x0 x1 hq9
            generalize W.drewN qn = w9 at b9 hS9 ⊢
            go_wp2_with fail
            go_roundw
            case rel => exact ⟨k + 1, mm, hlt, by omega, by go_num, by rw [hT2.out]; exact hS9, b9⟩
            case measure => simp [intOf]; omega
      · have t1 : decide (d1 ≥ 0) = false := decide_eq_false g1
        have hT2 : Hid (TT (k + 1) = TT k) := by
          show _ = _
          rw [hT1.out]; exact if_neg (fun h => by exact g1 h.1)
        clear hT1 hwx br g1
        go_wp2_with fail
        rw [← hWh.out, ← hqh.out]
        clear hWh l1 l2
        refine RegQ.wp_region_vals [some 72, some 73, some 74, some 75, some 76, some 77, some 78, some 79, some 80, some 81, some 82, some 83, some 84, some 85, some 86, some 87, some 88, some 89, some 90, some 91, some 92, some 93, some 94, some 95, some 96, some 97, some 98, some 99, some 100, some 101, some 102, some 103] [[], [0], [1], [2], [3], [4, 3], [3], [6, 3], [5, 7, 3], [3, 8], [9, 3], [10], [11, 10], [12, 10], [10, 13], [14, 10], [15], [16, 15], [15], [17, 18, 15], [15, 19], [20, 15], [21], [22, 21], [21], [21], [25, 21], [24, 26, 21], [27, 21], [28, 21], [23, 29, 21], [21, 30]] (fun iq => ([.pointer (some ⟨q, 1, none⟩), .int .i64 d1, .bool false, .bool false, undef, undef, undef, undef, undef, .bool false, .bool false, undef, undef, undef, .bool false, .bool false, undef, undef, undef, undef, .bool false, .bool false, undef, undef, undef, undef, undef, undef, undef, undef, undef, .bool false] : List Value).getD iq undef) [0, 1, 2, 3, 4, 5, 6, 7, 8, 9, 10, 11, 12, 13, 14, 15, 16, 17, 18, 19, 20, 21, 22, 23, 24, 25, 26, 27, 28, 29, 30, 31] 195 rfl rfl (by kernel_rfl) (by kernel_rfl) (by kernel_rfl) (by kernel_rfl) (by kernel_rfl) (fun hsz hon => ⟨?_, ?_, ?_, ?_, ?_, ?_, ?_, ?_, ?_, ?_, ?_, ?_, ?_, ?_, ?_, ?_, ?_, ?_, ?_, ?_, ?_, ?_, ?_, ?_, ?_, ?_, ?_, ?_, ?_, ?_, ?_, ?_, trivial⟩) ?_
        · refine RegQ.step_in (by kernel_rfl) ?_
          intro A hA W hW
          obtain ⟨qn, rfl⟩ := hW
          have r13 : A.tmps[13]?.getD undef = .pointer (some ⟨q, 0, none⟩) := RegQ.outG hA (by kernel_rfl) rfl
          clear hA
          unfold Oper.quietAt
          go_simp
        · refine RegQ.step_in (by kernel_rfl) ?_
          intro A hA W hW
          obtain ⟨qn, rfl⟩ := hW
          have r72 : A.tmps[72]?.getD undef = .pointer (some ⟨q, 1, none⟩) := RegQ.inG (j := 0) hA hsz rfl (by kernel_rfl) (by decide) rfl
          clear hA
          unfold Oper.quietAt
          go_simp
        · refine RegQ.step_in (by kernel_rfl) ?_
          intro A hA W hW
          obtain ⟨qn, rfl⟩ := hW
          have r73 : A.tmps[73]?.getD undef = .int .i64 d1 := RegQ.inG (j := 1) hA hsz rfl (by kernel_rfl) (by decide) rfl
          clear hA
          unfold Oper.quietAt
          go_simp
        · refine RegQ.step_in (by kernel_rfl) ?_
          intro A hA W hW
          obtain ⟨qn, rfl⟩ := hW
          have r74 : A.tmps[74]?.getD undef = .bool false := RegQ.inG (j := 2) hA hsz rfl (by kernel_rfl) (by decide) rfl
          clear hA
          unfold Oper.quietAt
          go_simp
        · exact RegQ.step_no (by kernel_rfl) rfl
        · exact RegQ.step_no (by kernel_rfl) rfl
        · exact RegQ.step_no (by kernel_rfl) rfl
        · exact RegQ.step_no (by kernel_rfl) rfl
        · exact RegQ.step_no (by kernel_rfl) rfl
        · refine RegQ.step_in (by kernel_rfl) ?_
          intro A hA W hW
          obtain ⟨qn, rfl⟩ := hW
          have r75 : A.tmps[75]?.getD undef = .bool false := RegQ.inG (j := 3) hA hsz rfl (by kernel_rfl) (by decide) rfl
          have r80 : A.tmps[80]?.getD undef = undef := RegQ.inG (j := 8) hA hsz rfl (by kernel_rfl) (by decide) rfl
          clear hA
          unfold Oper.quietAt
          go_simp
        · refine RegQ.step_in (by kernel_rfl) ?_
          intro A hA W hW
          obtain ⟨qn, rfl⟩ := hW
          have r81 : A.tmps[81]?.getD undef = .bool false := RegQ.inG (j := 9) hA hsz rfl (by kernel_rfl) (by decide) rfl
          clear hA
          unfold Oper.quietAt
          go_simp
        · exact RegQ.step_no (by kernel_rfl) rfl
        · exact RegQ.step_no (by kernel_rfl) rfl
        · exact RegQ.step_no (by kernel_rfl) rfl
        · refine RegQ.step_in (by kernel_rfl) ?_
          intro A hA W hW
          obtain ⟨qn, rfl⟩ := hW
          have r82 : A.tmps[82]?.getD undef = .bool false := RegQ.inG (j := 10) hA hsz rfl (by kernel_rfl) (by decide) rfl
          have r85 : A.tmps[85]?.getD undef = undef := RegQ.inG (j := 13) hA hsz rfl (by kernel_rfl) (by decide) rfl
          clear hA
          unfold Oper.quietAt
          go_simp
        · refine RegQ.step_in (by kernel_rfl) ?_
          intro A hA W hW
          obtain ⟨qn, rfl⟩ := hW
          have r86 : A.tmps[86]?.getD undef = .bool false := RegQ.inG (j := 14) hA hsz rfl (by kernel_rfl) (by decide) rfl
          clear hA
          unfold Oper.quietAt
          go_simp
        · exact RegQ.step_no (by kernel_rfl) rfl
        · exact RegQ.step_no (by kernel_rfl) rfl
        · exact RegQ.step_no (by kernel_rfl) rfl
        · exact RegQ.step_no (by kernel_rfl) rfl
        · refine RegQ.step_in (by kernel_rfl) ?_
          intro A hA W hW
          obtain ⟨qn, rfl⟩ := hW
          have r87 : A.tmps[87]?.getD undef = .bool false := RegQ.inG (j := 15) hA hsz rfl (by kernel_rfl) (by decide) rfl
          have r91 : A.tmps[91]?.getD undef = undef := RegQ.inG (j := 19) hA hsz rfl (by kernel_rfl) (by decide) rfl
          clear hA
          unfold Oper.quietAt
          go_simp
        · refine RegQ.step_in (by kernel_rfl) ?_
          intro A hA W hW
          obtain ⟨qn, rfl⟩ := hW
          have r92 : A.tmps[92]?.getD undef = .bool false := RegQ.inG (j := 20) hA hsz rfl (by kernel_rfl) (by decide) rfl
          clear hA
          unfold Oper.quietAt
          go_simp
        · exact RegQ.step_no (by kernel_rfl) rfl
        · exact RegQ.step_no (by kernel_rfl) rfl
        · exact RegQ.step_no (by kernel_rfl) rfl
        · exact RegQ.step_no (by kernel_rfl) rfl
        · exact RegQ.step_no (by kernel_rfl) rfl
        · exact RegQ.step_no (by kernel_rfl) rfl
        · exact RegQ.step_no (by kernel_rfl) rfl
        · exact RegQ.step_no (by kernel_rfl) rfl
        · exact RegQ.step_no (by kernel_rfl) rfl
        · refine RegQ.step_in (by kernel_rfl) ?_
          intro A hA W hW
          obtain ⟨qn, rfl⟩ := hW
          have r93 : A.tmps[93]?.getD undef = .bool false := RegQ.inG (j := 21) hA hsz rfl (by kernel_rfl) (by decide) rfl
          have r102 : A.tmps[102]?.getD undef = undef := RegQ.inG (j := 30) hA hsz rfl (by kernel_rfl) (by decide) rfl
          clear hA
          unfold Oper.quietAt
          go_simp
        · intro qn
          simp only [Reg.putS, List.foldl, List.getD_cons_zero, List.getD_cons_succ, Act.put, List.setIfInBounds_toArray, List.set_cons_zero, List.set_cons_succ]
          have b9 := drewN_below (n := qn) (Below.refl W.heap.size W)
          have hS9 := hS8.below b9
          replace b9 := bW.trans (b9.mono bW.size)
          clear hS8 bW x0 x1 hq9
          generalize W.drewN qn = w9 at b9 hS9 ⊢
          go_wp2_with fail
          go_roundw
          case rel => exact ⟨k + 1, mm, hlt, by omega, by go_num, by rw [hT2.out]; exact hS9, b9⟩
          case measure => simp [intOf]; omega
    · have hkd : ¬ (k : Int) < (mh : Int) := by omega
      have hkd2 : decide ((k : Int) < (mh : Int)) = false := decide_eq_false hkd
      have hkm : k = H.length := by have := hmh.out; omega
      rw [hkm, hTe.out] at hSr
      clear hkm
      have belF := belh.out.trans (br.mono belh.out.size)
      obtain ⟨Dm, hown, hsz⟩ := hSr.own
      obtain ⟨sz, hszd⟩ : ∃ sz, (hasT zs n0 H).length = sz := ⟨_, rfl⟩
      rw [hszd] at hsz
      have hlen := hown.len Try.underlying33 3
      rw [hsz] at hlen
      clear hsz hSr br hown hszd
      go_wp2_with fail
      go_loopw [14, 109] (fun s14 s109 wr2 => s14 = .int .i64 0 ∧ s109 = .int .i64 0 ∧ wr2 = wr) (fun _ _ _ => 0)
      case atStart => exact ⟨rfl, rfl, rfl⟩
      case round =>
        obtain ⟨rfl, rfl, rfl⟩ := hrel
        by_cases h0 : sz = 0
        · have ez : ((0 : Int) == (sz : Int)) = true := by rw [h0]; rfl
          clear h0
          go_wp2_with fail
          go_ret
          exact ⟨rfl, belF⟩
        · have ez : ((0 : Int) == (sz : Int)) = false := by simp; omega
          clear h0
          go_wp2_with fail
          go_ret
          exact ⟨rfl, belF⟩
end Go.Proofs.Ytdeeeechdlcdbaa.HaU
