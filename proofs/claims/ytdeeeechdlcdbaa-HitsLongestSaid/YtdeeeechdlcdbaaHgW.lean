/- The walk of HitsLongest. -/
import Derived.Test.YtdeeeechdlcdbaaHnW
import Derived.Test.YtdeeeechdlcdbaaRegQ
import Derived.IntWalk
import Derived.Deep.QuietTactic
import Derived.BigQuiet
set_option linter.unusedVariables false
set_option linter.unusedSimpArgs false
namespace Go.Proofs.Ytdeeeechdlcdbaa.HgW
open Go Go.RowKit Go.Sort Go.Lib Go.Proofs Go.Proofs.Ytdeeeechdlcdbaa Go.Proofs.Ytdeeeechdlcdbaa.Base Go.Proofs.Ytdeeeechdlcdbaa.DiA Go.Proofs.Ytdeeeechdlcdbaa.DiB Go.Proofs.Ytdeeeechdlcdbaa.DiD Go.Proofs.Ytdeeeechdlcdbaa.TcP Go.Proofs.Ytdeeeechdlcdbaa.LkM Go.Proofs.Ytdeeeechdlcdbaa.LkN Go.Proofs.Ytdeeeechdlcdbaa.LkS Go.Proofs.Ytdeeeechdlcdbaa.PhP Go.Proofs.Ytdeeeechdlcdbaa.PhW Go.Proofs.Ytdeeeechdlcdbaa.ScP Go.Proofs.Ytdeeeechdlcdbaa.ScF Go.Proofs.Ytdeeeechdlcdbaa.ScE Go.Proofs.Ytdeeeechdlcdbaa.ScX Go.Proofs.Ytdeeeechdlcdbaa.ScA Go.Proofs.Ytdeeeechdlcdbaa.ScN Go.Proofs.Ytdeeeechdlcdbaa.RwA Go.Proofs.Ytdeeeechdlcdbaa.HiP Go.Proofs.Ytdeeeechdlcdbaa.HiQ Go.Proofs.Ytdeeeechdlcdbaa.HiA Go.Proofs.Ytdeeeechdlcdbaa.HiB Go.Proofs.Ytdeeeechdlcdbaa.HiW Go.Proofs.Ytdeeeechdlcdbaa.HiL Go.Proofs.Ytdeeeechdlcdbaa.HiM Go.Proofs.Ytdeeeechdlcdbaa.HiV Go.Proofs.Ytdeeeechdlcdbaa.HnW
theorem szk_le {zs : List ByteArray} (h : okD zs = true) (k : Nat) : szk zs k ≤ 1000 := by
  rcases Nat.lt_or_ge k zs.length with hk | hk
  · have := (okD_at h hk).2.1
    unfold szk; omega
  · rw [szk_none hk]; omega
set_option maxHeartbeats 400000 in
theorem law_few (A : Option Addr) (n cap : Nat) (b : ByteArray) (w : World) (hf : Calls Try.prog 23 #[.slice A n cap] w fun e w' => e = .returned (.bool false) ∧ w' = w) :
    Calls Try.prog 8 #[.slice A n cap, .string b] w fun e w' => e = .returned (.bool true) ∧ Below w.heap.size w w' := by
  go_enter Try.func8, Try.ntmps8
  go_wp2_with fail
  refine hf.mono ?_
  rintro e w1 ⟨rfl, hw⟩
  rw [hw]
  clear hf hw
  go_wp2_with fail
  refine (HiV.alive_call _).mono ?_
  rintro e w2 ⟨rfl, b2⟩
  go_wp2_with fail
  go_ret
  exact ⟨rfl, b2⟩
set_option maxHeartbeats 400000 in
theorem law_out0 (A : Option Addr) (n cap : Nat) (b : ByteArray) (w : World) (hf : Calls Try.prog 23 #[.slice A n cap] w fun e w' => e = .returned (.bool true) ∧ w' = w) (hd0 : decide ((b.size : Int) > 150) = true) :
    Calls Try.prog 8 #[.slice A n cap, .string b] w fun e w' => e = .returned (.bool true) ∧ Below w.heap.size w w' := by
  go_enter Try.func8, Try.ntmps8
  go_wp2_with fail
  refine hf.mono ?_
  rintro e w1 ⟨rfl, hw⟩
  rw [hw]
  clear hf hw
  go_wp2_with fail
  refine (HiV.alive_call _).mono ?_
  rintro e w2 ⟨rfl, b2⟩
  go_wp2_with fail
  go_ret
  exact ⟨rfl, b2⟩
set_option maxRecDepth 20000 in
set_option maxHeartbeats 8000000 in
theorem law_in (A : Option Addr) (n cap : Nat) (zs : List ByteArray) (b : ByteArray) (w : World) (hf : Calls Try.prog 23 #[.slice A n cap] w fun e w' => e = .returned (.bool true) ∧ w' = w)
    (hn : n = zs.length) (hat : StrsAt w A zs) (hn1 : n ≤ 110) (htot : total zs ≤ 1300) (hd0 : decide ((b.size : Int) > 150) = false) :
    Calls Try.prog 8 #[.slice A n cap, .string b] w fun e w' => e = .returned (.bool true) ∧ Below w.heap.size w w' := by
  have hnh : Hid (n = zs.length) := hn
  clear hn
  go_enter Try.func8, Try.ntmps8
  go_wp2_with fail
  refine hf.mono ?_
  rintro e w1 ⟨rfl, hw⟩
  rw [hw]
  clear hf hw w1
  go_wp2_with fail
  refine (HiV.alive_call _).mono ?_
  rintro e w1 ⟨rfl, bel⟩
  have hat1 := hat.below bel
  go_wp2_with fail
  refine (make_any A n cap zs w1 hnh.out hat1 (by omega)).mono ?_
  rintro e w2 ⟨b2, ⟨hok, rfl⟩ | ⟨hok, p, rfl, _, hdict⟩⟩
  · have belF := bstep bel b2
    clear hat hat1 hok
    go_wp2_with fail
    go_ret
    exact ⟨rfl, belF⟩
  replace bel := bstep bel b2
  have hat2 := hat1.below b2
  have hD : Hid (DV w1.heap.size w2 (.pointer (some ⟨p, 0, none⟩)) zs) := Lib.hid (.inr ⟨p, rfl, hdict⟩)
  have hokh : Hid (okD zs = true) := hok
  have hp : Hid (∀ k, k < zs.length → 1 ≤ szk zs k) := szk_pos hok
  have hs : Hid (∀ k, szk zs k ≤ 1000) := szk_le hok
  have hz : Hid (zs.length ≤ 1000) := Nat.le_trans (okD_len hok) (by decide)
  clear hat hat1 hok b2 hdict
  obtain ⟨bn, hbn⟩ : ∃ bn, b.size = bn := ⟨_, rfl⟩
  have hbnh : Hid (b.size = bn) := hbn
  have hb2 : b.size ≤ 150 := by have := of_decide_eq_false hd0; omega
  have cL := lengths_any b hD.out hs.out hz.out (by omega)
  clear hd0
  go_wp2_with fail
  refine cL.mono ?_
  rintro e w3 ⟨b3, g, B3, rfl, _, _, hR⟩
  replace bel := bstep bel b3
  have hat3 : Hid (StrsAt w3 A zs) := hat2.below b3
  have hRh : Hid (Rws B3 g w3 (FL zs b.data.toList b.size b.size)) := hR
  have hD3 : Hid (DV w1.heap.size w3 (.pointer (some ⟨p, 0, none⟩)) zs) := hD.out.below b3
  rw [hbn]
  rw [hbn] at hb2
  have e1 : ((bn : Int) != (bn : Int)) = false := by simp
  clear cL b3 hR hat2 hD
  go_wp2_with fail
  go_loopw [38] (fun s wr => ∃ i : Nat, i ≤ bn ∧ s = .int .i64 (i : Int) ∧ Below w3.heap.size w3 wr) (fun s _ => bn - (intOf s).toNat)
  case atStart => exact ⟨0, Nat.zero_le _, rfl, Below.refl _ _⟩
  case round =>
    obtain ⟨i, hi, rfl, br⟩ := hrel
    by_cases hlt : i < bn
    · have hid : decide ((i : Int) < (bn : Int)) = true := decide_eq_true (by omega)
      have hii : (i : Int) < (bn : Int) := by omega
      have hib : i < b.size := by rw [hbnh.out]; exact hlt
      have cO := longest_in b (hD3.out.below br) hp.out hs.out hz.out (by omega) hib
      clear hib
      go_wp2_with fail
      refine cO.mono ?_
      rintro e w5 ⟨b5, id, long, rfl, hlo⟩
      have br5 := bstep br b5
      obtain ⟨V, c, hc, hV⟩ := rws_row (hRh.out.below br5) (i := i) (by rw [FL_len, hbnh.out]; exact hlt)
      rw [hbnh.out, FL_at hlt, if_pos hlt] at hc hV
      have hVh : Hid (At w5 V (toI (lensL zs b.data.toList i))) := hV
      have hst : Hid ((lensL zs b.data.toList i).Pairwise fun x y => y < x) := lensL_strict hokh.out _ _
      have hat5 : Hid (StrsAt w5 A zs) := hat3.out.below br5
      have hm40 : (lensL zs b.data.toList i).length ≤ 1000 := by
        have := lenU_len zs b.data.toList i zs.length
        have h2 := hz.out
        unfold lensL lensS; rw [List.length_mergeSort]; omega
      obtain ⟨m, hm⟩ : ∃ m, (lensL zs b.data.toList i).length = m := ⟨_, rfl⟩
      have hmh : Hid ((lensL zs b.data.toList i).length = m) := hm
      rw [hm] at hc hm40
      clear cO b5 br hV
      rcases lon_first hokh.out hlo with ⟨hl, rfl, rfl⟩ | ⟨k, hk, rfl, hlk, hsk, hpos, h0⟩
      · have hm0 : m = 0 := by rw [← hm, hl]; rfl
        have e53 : ((m : Int) == 0) = true := by rw [hm0]; rfl
        have e68 : decide ((m : Int) > 0) = false := by rw [hm0]; rfl
        have e68' : decide (0 < m) = false := by rw [hm0]; rfl
        clear hl hlo hm
        go_wp2_with fail
        refine RegQ.wp_region_vals [some 48, some 49, some 50, some 51, some 52, some 53, some 54, some 55, some 56, some 57, some 58, some 59, some 60, some 61, some 62, some 63, some 64, some 65, some 66, some 67, some 68, some 69, some 70, some 71, some 72, some 73, some 74, some 75, some 76, some 77, some 78, some 79, some 80, some 81, some 82, some 83, some 84, some 85, some 86, some 87, some 88, some 89, some 90, some 91, some 92, some 93, some 94, some 95, some 96, some 97, some 98, some 99, some 100, some 101, some 102] (fun iq => ([.slice (some ⟨g, 0, none⟩) bn bn, .int .i64 (i : Int), .pointer (some ⟨g, i, none⟩), .slice V m c, .int .i64 (m : Int), .bool true, .bool true, .int .i64 (-1), .bool false, .bool false, .int .i64 0, .bool false, .bool false, .bool false, .bool false, .slice (some ⟨g, 0, none⟩) bn bn, .int .i64 (i : Int), .pointer (some ⟨g, i, none⟩), .slice V m c, .int .i64 (m : Int), .bool false, .bool false, undef, undef, undef, undef, undef, undef, undef, undef, undef, undef, undef, undef, undef, undef, undef, undef, undef, undef, undef, undef, undef, undef, undef, undef, undef, undef, undef, undef, undef, undef, undef, .bool false, .bool false] : List Value).getD iq undef) [0, 1, 2, 3, 4, 5, 6, 7, 8, 9, 10, 11, 12, 13, 14, 15, 16, 17, 18, 19, 20, 21, 22, 23, 24, 25, 26, 27, 28, 29, 30, 31, 32, 33, 34, 35, 36, 37, 38, 39, 40, 41, 42, 43, 44, 45, 46, 47, 48, 49, 50, 51, 52, 53, 54] rfl (by kernel_rfl) (by kernel_rfl) (by kernel_rfl) (by kernel_rfl) ⟨?_, ?_, ?_, ?_, ?_, ?_, ?_, ?_, ?_, ?_, ?_, ?_, ?_, ?_, ?_, ?_, ?_, ?_, ?_, ?_, ?_, ?_, ?_, ?_, ?_, ?_, ?_, ?_, ?_, ?_, ?_, ?_, ?_, ?_, ?_, ?_, ?_, ?_, ?_, ?_, ?_, ?_, ?_, ?_, ?_, ?_, ?_, ?_, ?_, ?_, ?_, ?_, ?_, ?_, ?_, trivial⟩ ?_
        · refine RegQ.step_in (by kernel_rfl) ?_
          intro A hA W hW
          obtain ⟨qn, rfl⟩ := hW
          have r6 : A.tmps[6]?.getD undef = .slice (some ⟨g, 0, none⟩) bn bn := RegQ.outG hA rfl rfl
          clear hA
          unfold Oper.quietAt
          go_simp
        · refine RegQ.step_in (by kernel_rfl) ?_
          intro A hA W hW
          obtain ⟨qn, rfl⟩ := hW
          have r7 : A.tmps[7]?.getD undef = .int .i64 (i : Int) := RegQ.outG hA rfl rfl
          clear hA
          unfold Oper.quietAt
          go_simp
        · refine RegQ.step_in (by kernel_rfl) ?_
          intro A hA W hW
          obtain ⟨qn, rfl⟩ := hW
          have r48 : A.tmps[48]?.getD undef = .slice (some ⟨g, 0, none⟩) bn bn := RegQ.inG (j := 0) hA rfl (Nat.lt_of_sub_eq_succ rfl) rfl
          have r49 : A.tmps[49]?.getD undef = .int .i64 (i : Int) := RegQ.inG (j := 1) hA rfl (Nat.lt_of_sub_eq_succ rfl) rfl
          clear hA
          unfold Oper.quietAt
          go_simp
        · refine RegQ.step_in (by kernel_rfl) ?_
          intro A hA W hW
          obtain ⟨qn, rfl⟩ := hW
          have r50 : A.tmps[50]?.getD undef = .pointer (some ⟨g, i, none⟩) := RegQ.inG (j := 2) hA rfl (Nat.lt_of_sub_eq_succ rfl) rfl
          clear hA
          unfold Oper.quietAt
          go_simp
        · refine RegQ.step_in (by kernel_rfl) ?_
          intro A hA W hW
          obtain ⟨qn, rfl⟩ := hW
          have r51 : A.tmps[51]?.getD undef = .slice V m c := RegQ.inG (j := 3) hA rfl (Nat.lt_of_sub_eq_succ rfl) rfl
          clear hA
          unfold Oper.quietAt
          go_simp
        · refine RegQ.step_in (by kernel_rfl) ?_
          intro A hA W hW
          obtain ⟨qn, rfl⟩ := hW
          have r52 : A.tmps[52]?.getD undef = .int .i64 (m : Int) := RegQ.inG (j := 4) hA rfl (Nat.lt_of_sub_eq_succ rfl) rfl
          clear hA
          unfold Oper.quietAt
          go_simp
        · refine RegQ.step_in (by kernel_rfl) ?_
          intro A hA W hW
          obtain ⟨qn, rfl⟩ := hW
          have r53 : A.tmps[53]?.getD undef = .bool true := RegQ.inG (j := 5) hA rfl (Nat.lt_of_sub_eq_succ rfl) rfl
          clear hA
          unfold Oper.quietAt
          go_simp
        · refine RegQ.step_in (by kernel_rfl) ?_
          intro A hA W hW
          obtain ⟨qn, rfl⟩ := hW
          have r8 : A.tmps[8]?.getD undef = .int .i64 (-1) := RegQ.outG hA rfl rfl
          clear hA
          unfold Oper.quietAt
          go_simp
        · refine RegQ.step_in (by kernel_rfl) ?_
          intro A hA W hW
          obtain ⟨qn, rfl⟩ := hW
          have r55 : A.tmps[55]?.getD undef = .int .i64 (-1) := RegQ.inG (j := 7) hA rfl (Nat.lt_of_sub_eq_succ rfl) rfl
          clear hA
          unfold Oper.quietAt
          go_simp
        · refine RegQ.step_in (by kernel_rfl) ?_
          intro A hA W hW
          obtain ⟨qn, rfl⟩ := hW
          have r56 : A.tmps[56]?.getD undef = .bool false := RegQ.inG (j := 8) hA rfl (Nat.lt_of_sub_eq_succ rfl) rfl
          clear hA
          unfold Oper.quietAt
          go_simp
        · refine RegQ.step_in (by kernel_rfl) ?_
          intro A hA W hW
          obtain ⟨qn, rfl⟩ := hW
          have r9 : A.tmps[9]?.getD undef = .int .i64 0 := RegQ.outG hA rfl rfl
          clear hA
          unfold Oper.quietAt
          go_simp
        · refine RegQ.step_in (by kernel_rfl) ?_
          intro A hA W hW
          obtain ⟨qn, rfl⟩ := hW
          have r58 : A.tmps[58]?.getD undef = .int .i64 0 := RegQ.inG (j := 10) hA rfl (Nat.lt_of_sub_eq_succ rfl) rfl
          clear hA
          unfold Oper.quietAt
          go_simp
        · refine RegQ.step_in (by kernel_rfl) ?_
          intro A hA W hW
          obtain ⟨qn, rfl⟩ := hW
          have r57 : A.tmps[57]?.getD undef = .bool false := RegQ.inG (j := 9) hA rfl (Nat.lt_of_sub_eq_succ rfl) rfl
          have r59 : A.tmps[59]?.getD undef = .bool false := RegQ.inG (j := 11) hA rfl (Nat.lt_of_sub_eq_succ rfl) rfl
          clear hA
          unfold Oper.quietAt
          go_simp
        · refine RegQ.step_in (by kernel_rfl) ?_
          intro A hA W hW
          obtain ⟨qn, rfl⟩ := hW
          have r54 : A.tmps[54]?.getD undef = .bool true := RegQ.inG (j := 6) hA rfl (Nat.lt_of_sub_eq_succ rfl) rfl
          have r60 : A.tmps[60]?.getD undef = .bool false := RegQ.inG (j := 12) hA rfl (Nat.lt_of_sub_eq_succ rfl) rfl
          clear hA
          unfold Oper.quietAt
          go_simp
        · refine RegQ.step_in (by kernel_rfl) ?_
          intro A hA W hW
          obtain ⟨qn, rfl⟩ := hW
          have r61 : A.tmps[61]?.getD undef = .bool false := RegQ.inG (j := 13) hA rfl (Nat.lt_of_sub_eq_succ rfl) rfl
          clear hA
          unfold Oper.quietAt
          go_simp
        · refine RegQ.step_in (by kernel_rfl) ?_
          intro A hA W hW
          obtain ⟨qn, rfl⟩ := hW
          have r6 : A.tmps[6]?.getD undef = .slice (some ⟨g, 0, none⟩) bn bn := RegQ.outG hA rfl rfl
          clear hA
          unfold Oper.quietAt
          go_simp
        · refine RegQ.step_in (by kernel_rfl) ?_
          intro A hA W hW
          obtain ⟨qn, rfl⟩ := hW
          have r7 : A.tmps[7]?.getD undef = .int .i64 (i : Int) := RegQ.outG hA rfl rfl
          clear hA
          unfold Oper.quietAt
          go_simp
        · refine RegQ.step_in (by kernel_rfl) ?_
          intro A hA W hW
          obtain ⟨qn, rfl⟩ := hW
          have r63 : A.tmps[63]?.getD undef = .slice (some ⟨g, 0, none⟩) bn bn := RegQ.inG (j := 15) hA rfl (Nat.lt_of_sub_eq_succ rfl) rfl
          have r64 : A.tmps[64]?.getD undef = .int .i64 (i : Int) := RegQ.inG (j := 16) hA rfl (Nat.lt_of_sub_eq_succ rfl) rfl
          clear hA
          unfold Oper.quietAt
          go_simp
        · refine RegQ.step_in (by kernel_rfl) ?_
          intro A hA W hW
          obtain ⟨qn, rfl⟩ := hW
          have r65 : A.tmps[65]?.getD undef = .pointer (some ⟨g, i, none⟩) := RegQ.inG (j := 17) hA rfl (Nat.lt_of_sub_eq_succ rfl) rfl
          clear hA
          unfold Oper.quietAt
          go_simp
        · refine RegQ.step_in (by kernel_rfl) ?_
          intro A hA W hW
          obtain ⟨qn, rfl⟩ := hW
          have r66 : A.tmps[66]?.getD undef = .slice V m c := RegQ.inG (j := 18) hA rfl (Nat.lt_of_sub_eq_succ rfl) rfl
          clear hA
          unfold Oper.quietAt
          go_simp
        · refine RegQ.step_in (by kernel_rfl) ?_
          intro A hA W hW
          obtain ⟨qn, rfl⟩ := hW
          have r67 : A.tmps[67]?.getD undef = .int .i64 (m : Int) := RegQ.inG (j := 19) hA rfl (Nat.lt_of_sub_eq_succ rfl) rfl
          clear hA
          unfold Oper.quietAt
          go_simp
        · refine RegQ.step_in (by kernel_rfl) ?_
          intro A hA W hW
          obtain ⟨qn, rfl⟩ := hW
          have r68 : A.tmps[68]?.getD undef = .bool false := RegQ.inG (j := 20) hA rfl (Nat.lt_of_sub_eq_succ rfl) rfl
          clear hA
          unfold Oper.quietAt
          go_simp
        · exact RegQ.step_no (by kernel_rfl) rfl
        · exact RegQ.step_no (by kernel_rfl) rfl
        · exact RegQ.step_no (by kernel_rfl) rfl
        · exact RegQ.step_no (by kernel_rfl) rfl
        · exact RegQ.step_no (by kernel_rfl) rfl
        · exact RegQ.step_no (by kernel_rfl) rfl
        · exact RegQ.step_no (by kernel_rfl) rfl
        · exact RegQ.step_no (by kernel_rfl) rfl
        · exact RegQ.step_no (by kernel_rfl) rfl
        · exact RegQ.step_no (by kernel_rfl) rfl
        · exact RegQ.step_no (by kernel_rfl) rfl
        · exact RegQ.step_no (by kernel_rfl) rfl
        · exact RegQ.step_no (by kernel_rfl) rfl
        · exact RegQ.step_no (by kernel_rfl) rfl
        · exact RegQ.step_no (by kernel_rfl) rfl
        · exact RegQ.step_no (by kernel_rfl) rfl
        · exact RegQ.step_no (by kernel_rfl) rfl
        · exact RegQ.step_no (by kernel_rfl) rfl
        · exact RegQ.step_no (by kernel_rfl) rfl
        · exact RegQ.step_no (by kernel_rfl) rfl
        · exact RegQ.step_no (by kernel_rfl) rfl
        · exact RegQ.step_no (by kernel_rfl) rfl
        · exact RegQ.step_no (by kernel_rfl) rfl
        · exact RegQ.step_no (by kernel_rfl) rfl
        · exact RegQ.step_no (by kernel_rfl) rfl
        · exact RegQ.step_no (by kernel_rfl) rfl
        · exact RegQ.step_no (by kernel_rfl) rfl
        · exact RegQ.step_no (by kernel_rfl) rfl
        · exact RegQ.step_no (by kernel_rfl) rfl
        · exact RegQ.step_no (by kernel_rfl) rfl
        · exact RegQ.step_no (by kernel_rfl) rfl
        · refine RegQ.step_in (by kernel_rfl) ?_
          intro A hA W hW
          obtain ⟨qn, rfl⟩ := hW
          have r69 : A.tmps[69]?.getD undef = .bool false := RegQ.inG (j := 21) hA rfl (Nat.lt_of_sub_eq_succ rfl) rfl
          have r100 : A.tmps[100]?.getD undef = undef := RegQ.inG (j := 52) hA rfl (Nat.lt_of_sub_eq_succ rfl) rfl
          clear hA
          unfold Oper.quietAt
          go_simp
        · refine RegQ.step_in (by kernel_rfl) ?_
          intro A hA W hW
          obtain ⟨qn, rfl⟩ := hW
          have r62 : A.tmps[62]?.getD undef = .bool false := RegQ.inG (j := 14) hA rfl (Nat.lt_of_sub_eq_succ rfl) rfl
          have r101 : A.tmps[101]?.getD undef = .bool false := RegQ.inG (j := 53) hA rfl (Nat.lt_of_sub_eq_succ rfl) rfl
          clear hA
          unfold Oper.quietAt
          go_simp
        · intro qn
          simp only [Reg.putS, List.foldl, List.getD_cons_zero, List.getD_cons_succ, Act.put, List.setIfInBounds_toArray, List.set_cons_zero, List.set_cons_succ]
          have b6 := drewN_below (n := qn) br5
          have hbw6 := drewN_below (n := qn) (Below.refl w5.heap.size w5)
          have hc6 := pw_cell_below hbw6 hc
          clear hc
          generalize w5.drewN qn = w6 at b6 hbw6 hc6 ⊢
          go_wp2_with fail
          go_loopw [10] (fun s wr => ∃ j : Nat, 1 ≤ j ∧ (j ≤ m ∨ j = 1) ∧ s = .int .i64 (j : Int) ∧ Below w6.heap.size w6 wr) (fun s _ => m - (intOf s).toNat)
          case atStart => exact ⟨1, Nat.le_refl _, .inr rfl, rfl, Below.refl _ _⟩
          case round =>
            obtain ⟨j, hj1, hjm, rfl, br6⟩ := hrel
            have hc7 := pw_cell_below br6 hc6
            by_cases hjl : j < m
            · exact absurd hjl (by omega)
            · have hjd : decide ((j : Int) < (m : Int)) = false := decide_eq_false (by omega)
              have hjd2 : ¬ (j : Int) < (m : Int) := by omega
              have b7 := b6.trans (br6.mono b6.size)
              clear br6 b6
              go_wp2_with fail
              go_roundw
              case rel => exact ⟨i + 1, hlt, by go_num, b7⟩
              case measure => simp [intOf]; omega
      · obtain ⟨gb, ob, rfl, _, hcl⟩ := hVh.out (by rw [toI_len]; exact hpos)
        have hlen : 0 < m := by rw [← hm]; exact hpos
        have hcl5 : Hid (∀ j, j < m → w5.cell? ⟨gb, ob + j, none⟩ = some (.int .i64 ((lensL zs b.data.toList i).getD j 0 : Nat))) := by
          intro j hj
          have := hcl j (by rw [toI_len, hm]; exact hj)
          rw [toI_at (by rw [hm]; exact hj)] at this
          exact this
        have hc0 : w5.cell? ⟨gb, ob, none⟩ = some (.int .i64 (long : Int)) := by
          have := hcl5.out 0 hlen
          rw [h0, Nat.add_zero] at this
          exact this
        have hdec : Hid (∀ j, 1 ≤ j → j < m → (lensL zs b.data.toList i).getD j 0 < (lensL zs b.data.toList i).getD (j - 1) 0 ∧ 1 ≤ (lensL zs b.data.toList i).getD j 0) := by
          intro j hj1 hj
          have hjl : j < (lensL zs b.data.toList i).length := by rw [hm]; exact hj
          have hjl1 : j - 1 < (lensL zs b.data.toList i).length := by omega
          have h1 := List.pairwise_iff_getElem.1 hst.out (j - 1) j hjl1 hjl (by omega)
          have h2 : (lensL zs b.data.toList i)[j] ∈ lensL zs b.data.toList i := List.getElem_mem hjl
          obtain ⟨q, hq, _, he⟩ := mem_lensL.1 h2
          have h3 := hp.out q hq
          rw [List.getD_eq_getElem?_getD, List.getElem?_eq_getElem hjl, List.getD_eq_getElem?_getD, List.getElem?_eq_getElem hjl1]
          exact ⟨h1, by rw [he] at h3; exact h3⟩
        have e53 : ((m : Int) == 0) = false := by simp; omega
        have e68 : decide ((m : Int) > 0) = true := decide_eq_true (by omega)
        have e68' : decide (0 < m) = true := decide_eq_true hlen
        have eid : decide ((k : Int) < 0) = false := decide_eq_false (by omega)
        have hkn : k < n := by rw [hnh.out]; exact hk
        have eid2 : decide ((k : Int) ≥ (n : Int)) = false := decide_eq_false (by omega)
        have hknz : (k : Int) < (n : Int) := by omega
        obtain ⟨hsl, hse⟩ := stands_iff.1 hsk
        rw [← size_list] at hsl
        obtain ⟨bA, oA, rfl, _, hcA⟩ := hat5.out (by omega)
        have hcz := hcA k hk
        obtain ⟨z, hz2⟩ : ∃ z, zs.getD k ByteArray.empty = z := ⟨_, rfl⟩
        have hzk : zk zs k = z.data.toList := by unfold zk; rw [hz2]
        rw [hz2] at hcz
        rw [← hlk] at hsl hse
        have hex : b.extract i (i + long) = z := by
          apply data_inj
          rw [ext_list, Nat.add_sub_cancel_left, hse, hzk]
        obtain ⟨il, hil⟩ : ∃ il, i + long = il := ⟨_, rfl⟩
        rw [hil] at hex hsl
        have es : (z.toList == (b.extract i il).toList) = true := by rw [hex]; exact beq_self_eq_true _
        have es2 : (z.toList != (b.extract i il).toList) = false := by rw [hex]; simp
        have hbz2 : il ≤ bn := by rw [← hbn]; exact hsl
        have hbz : (il : Int) ≤ (bn : Int) := by omega
        have hiz2 : i ≤ il := by omega
        have hiz : (i : Int) ≤ (il : Int) := by omega
        have zadd : IntKind.i64.wrap ((i : Int) + (long : Int)) = (il : Int) := by rw [IntKind.wrap_i64]; omega
        have enl : ((long : Int) != (long : Int)) = false := by simp
        clear hlo hcA hcl hsk hse hsl hzk hex hz2 h0 hm hlk hpos hil
        go_wp2_with fail
        refine RegQ.wp_region_vals [some 48, some 49, some 50, some 51, some 52, some 53, some 54, some 55, some 56, some 57, some 58, some 59, some 60, some 61, some 62, some 63, some 64, some 65, some 66, some 67, some 68, some 69, some 70, some 71, some 72, some 73, some 74, some 75, some 76, some 77, some 78, some 79, some 80, some 81, some 82, some 83, some 84, some 85, some 86, some 87, some 88, some 89, some 90, some 91, some 92, some 93, some 94, some 95, some 96, some 97, some 98, some 99, some 100, some 101, some 102] (fun iq => ([.slice (some ⟨g, 0, none⟩) bn bn, .int .i64 (i : Int), .pointer (some ⟨g, i, none⟩), .slice (some ⟨gb, ob, none⟩) m c, .int .i64 (m : Int), .bool false, .bool false, undef, undef, undef, undef, undef, undef, .bool false, .bool false, .slice (some ⟨g, 0, none⟩) bn bn, .int .i64 (i : Int), .pointer (some ⟨g, i, none⟩), .slice (some ⟨gb, ob, none⟩) m c, .int .i64 (m : Int), .bool true, .bool true, .int .i64 (long : Int), .slice (some ⟨g, 0, none⟩) bn bn, .int .i64 (i : Int), .pointer (some ⟨g, i, none⟩), .slice (some ⟨gb, ob, none⟩) m c, .pointer (some ⟨gb, ob, none⟩), .int .i64 (long : Int), .bool false, .bool false, .int .i64 (k : Int), .bool false, .bool false, .bool false, .int .i64 (k : Int), .slice (some ⟨bA, oA, none⟩) n cap, .int .i64 (n : Int), .bool false, .bool false, .bool false, .slice (some ⟨bA, oA, none⟩) n cap, .int .i64 (k : Int), .pointer (some ⟨bA, oA + k, none⟩), .string z, .string b, .int .i64 (i : Int), .int .i64 (i : Int), .int .i64 (long : Int), .int .i64 (il : Int), .string (b.extract i il), .bool false, .bool false, .bool false, .bool false] : List Value).getD iq undef) [0, 1, 2, 3, 4, 5, 6, 7, 8, 9, 10, 11, 12, 13, 14, 15, 16, 17, 18, 19, 20, 21, 22, 23, 24, 25, 26, 27, 28, 29, 30, 31, 32, 33, 34, 35, 36, 37, 38, 39, 40, 41, 42, 43, 44, 45, 46, 47, 48, 49, 50, 51, 52, 53, 54] rfl (by kernel_rfl) (by kernel_rfl) (by kernel_rfl) (by kernel_rfl) ⟨?_, ?_, ?_, ?_, ?_, ?_, ?_, ?_, ?_, ?_, ?_, ?_, ?_, ?_, ?_, ?_, ?_, ?_, ?_, ?_, ?_, ?_, ?_, ?_, ?_, ?_, ?_, ?_, ?_, ?_, ?_, ?_, ?_, ?_, ?_, ?_, ?_, ?_, ?_, ?_, ?_, ?_, ?_, ?_, ?_, ?_, ?_, ?_, ?_, ?_, ?_, ?_, ?_, ?_, ?_, trivial⟩ ?_
        · refine RegQ.step_in (by kernel_rfl) ?_
          intro A hA W hW
          obtain ⟨qn, rfl⟩ := hW
          have r6 : A.tmps[6]?.getD undef = .slice (some ⟨g, 0, none⟩) bn bn := RegQ.outG hA rfl rfl
          clear hA
          unfold Oper.quietAt
          go_simp
        · refine RegQ.step_in (by kernel_rfl) ?_
          intro A hA W hW
          obtain ⟨qn, rfl⟩ := hW
          have r7 : A.tmps[7]?.getD undef = .int .i64 (i : Int) := RegQ.outG hA rfl rfl
          clear hA
          unfold Oper.quietAt
          go_simp
        · refine RegQ.step_in (by kernel_rfl) ?_
          intro A hA W hW
          obtain ⟨qn, rfl⟩ := hW
          have r48 : A.tmps[48]?.getD undef = .slice (some ⟨g, 0, none⟩) bn bn := RegQ.inG (j := 0) hA rfl (Nat.lt_of_sub_eq_succ rfl) rfl
          have r49 : A.tmps[49]?.getD undef = .int .i64 (i : Int) := RegQ.inG (j := 1) hA rfl (Nat.lt_of_sub_eq_succ rfl) rfl
          clear hA
          unfold Oper.quietAt
          go_simp
        · refine RegQ.step_in (by kernel_rfl) ?_
          intro A hA W hW
          obtain ⟨qn, rfl⟩ := hW
          have r50 : A.tmps[50]?.getD undef = .pointer (some ⟨g, i, none⟩) := RegQ.inG (j := 2) hA rfl (Nat.lt_of_sub_eq_succ rfl) rfl
          clear hA
          unfold Oper.quietAt
          go_simp
        · refine RegQ.step_in (by kernel_rfl) ?_
          intro A hA W hW
          obtain ⟨qn, rfl⟩ := hW
          have r51 : A.tmps[51]?.getD undef = .slice (some ⟨gb, ob, none⟩) m c := RegQ.inG (j := 3) hA rfl (Nat.lt_of_sub_eq_succ rfl) rfl
          clear hA
          unfold Oper.quietAt
          go_simp
        · refine RegQ.step_in (by kernel_rfl) ?_
          intro A hA W hW
          obtain ⟨qn, rfl⟩ := hW
          have r52 : A.tmps[52]?.getD undef = .int .i64 (m : Int) := RegQ.inG (j := 4) hA rfl (Nat.lt_of_sub_eq_succ rfl) rfl
          clear hA
          unfold Oper.quietAt
          go_simp
        · refine RegQ.step_in (by kernel_rfl) ?_
          intro A hA W hW
          obtain ⟨qn, rfl⟩ := hW
          have r53 : A.tmps[53]?.getD undef = .bool false := RegQ.inG (j := 5) hA rfl (Nat.lt_of_sub_eq_succ rfl) rfl
          clear hA
          unfold Oper.quietAt
          go_simp
        · exact RegQ.step_no (by kernel_rfl) rfl
        · exact RegQ.step_no (by kernel_rfl) rfl
        · exact RegQ.step_no (by kernel_rfl) rfl
        · exact RegQ.step_no (by kernel_rfl) rfl
        · exact RegQ.step_no (by kernel_rfl) rfl
        · exact RegQ.step_no (by kernel_rfl) rfl
        · refine RegQ.step_in (by kernel_rfl) ?_
          intro A hA W hW
          obtain ⟨qn, rfl⟩ := hW
          have r54 : A.tmps[54]?.getD undef = .bool false := RegQ.inG (j := 6) hA rfl (Nat.lt_of_sub_eq_succ rfl) rfl
          have r60 : A.tmps[60]?.getD undef = undef := RegQ.inG (j := 12) hA rfl (Nat.lt_of_sub_eq_succ rfl) rfl
          clear hA
          unfold Oper.quietAt
          go_simp
        · refine RegQ.step_in (by kernel_rfl) ?_
          intro A hA W hW
          obtain ⟨qn, rfl⟩ := hW
          have r61 : A.tmps[61]?.getD undef = .bool false := RegQ.inG (j := 13) hA rfl (Nat.lt_of_sub_eq_succ rfl) rfl
          clear hA
          unfold Oper.quietAt
          go_simp
        · refine RegQ.step_in (by kernel_rfl) ?_
          intro A hA W hW
          obtain ⟨qn, rfl⟩ := hW
          have r6 : A.tmps[6]?.getD undef = .slice (some ⟨g, 0, none⟩) bn bn := RegQ.outG hA rfl rfl
          clear hA
          unfold Oper.quietAt
          go_simp
        · refine RegQ.step_in (by kernel_rfl) ?_
          intro A hA W hW
          obtain ⟨qn, rfl⟩ := hW
          have r7 : A.tmps[7]?.getD undef = .int .i64 (i : Int) := RegQ.outG hA rfl rfl
          clear hA
          unfold Oper.quietAt
          go_simp
        · refine RegQ.step_in (by kernel_rfl) ?_
          intro A hA W hW
          obtain ⟨qn, rfl⟩ := hW
          have r63 : A.tmps[63]?.getD undef = .slice (some ⟨g, 0, none⟩) bn bn := RegQ.inG (j := 15) hA rfl (Nat.lt_of_sub_eq_succ rfl) rfl
          have r64 : A.tmps[64]?.getD undef = .int .i64 (i : Int) := RegQ.inG (j := 16) hA rfl (Nat.lt_of_sub_eq_succ rfl) rfl
          clear hA
          unfold Oper.quietAt
          go_simp
        · refine RegQ.step_in (by kernel_rfl) ?_
          intro A hA W hW
          obtain ⟨qn, rfl⟩ := hW
          have r65 : A.tmps[65]?.getD undef = .pointer (some ⟨g, i, none⟩) := RegQ.inG (j := 17) hA rfl (Nat.lt_of_sub_eq_succ rfl) rfl
          clear hA
          unfold Oper.quietAt
          go_simp
        · refine RegQ.step_in (by kernel_rfl) ?_
          intro A hA W hW
          obtain ⟨qn, rfl⟩ := hW
          have r66 : A.tmps[66]?.getD undef = .slice (some ⟨gb, ob, none⟩) m c := RegQ.inG (j := 18) hA rfl (Nat.lt_of_sub_eq_succ rfl) rfl
          clear hA
          unfold Oper.quietAt
          go_simp
        · refine RegQ.step_in (by kernel_rfl) ?_
          intro A hA W hW
          obtain ⟨qn, rfl⟩ := hW
          have r67 : A.tmps[67]?.getD undef = .int .i64 (m : Int) := RegQ.inG (j := 19) hA rfl (Nat.lt_of_sub_eq_succ rfl) rfl
          clear hA
          unfold Oper.quietAt
          go_simp
        · refine RegQ.step_in (by kernel_rfl) ?_
          intro A hA W hW
          obtain ⟨qn, rfl⟩ := hW
          have r68 : A.tmps[68]?.getD undef = .bool true := RegQ.inG (j := 20) hA rfl (Nat.lt_of_sub_eq_succ rfl) rfl
          clear hA
          unfold Oper.quietAt
          go_simp
        · refine RegQ.step_in (by kernel_rfl) ?_
          intro A hA W hW
          obtain ⟨qn, rfl⟩ := hW
          have r9 : A.tmps[9]?.getD undef = .int .i64 (long : Int) := RegQ.outG hA rfl rfl
          clear hA
          unfold Oper.quietAt
          go_simp
        · refine RegQ.step_in (by kernel_rfl) ?_
          intro A hA W hW
          obtain ⟨qn, rfl⟩ := hW
          have r6 : A.tmps[6]?.getD undef = .slice (some ⟨g, 0, none⟩) bn bn := RegQ.outG hA rfl rfl
          clear hA
          unfold Oper.quietAt
          go_simp
        · refine RegQ.step_in (by kernel_rfl) ?_
          intro A hA W hW
          obtain ⟨qn, rfl⟩ := hW
          have r7 : A.tmps[7]?.getD undef = .int .i64 (i : Int) := RegQ.outG hA rfl rfl
          clear hA
          unfold Oper.quietAt
          go_simp
        · refine RegQ.step_in (by kernel_rfl) ?_
          intro A hA W hW
          obtain ⟨qn, rfl⟩ := hW
          have r71 : A.tmps[71]?.getD undef = .slice (some ⟨g, 0, none⟩) bn bn := RegQ.inG (j := 23) hA rfl (Nat.lt_of_sub_eq_succ rfl) rfl
          have r72 : A.tmps[72]?.getD undef = .int .i64 (i : Int) := RegQ.inG (j := 24) hA rfl (Nat.lt_of_sub_eq_succ rfl) rfl
          clear hA
          unfold Oper.quietAt
          go_simp
        · refine RegQ.step_in (by kernel_rfl) ?_
          intro A hA W hW
          obtain ⟨qn, rfl⟩ := hW
          have r73 : A.tmps[73]?.getD undef = .pointer (some ⟨g, i, none⟩) := RegQ.inG (j := 25) hA rfl (Nat.lt_of_sub_eq_succ rfl) rfl
          clear hA
          unfold Oper.quietAt
          go_simp
        · refine RegQ.step_in (by kernel_rfl) ?_
          intro A hA W hW
          obtain ⟨qn, rfl⟩ := hW
          have r74 : A.tmps[74]?.getD undef = .slice (some ⟨gb, ob, none⟩) m c := RegQ.inG (j := 26) hA rfl (Nat.lt_of_sub_eq_succ rfl) rfl
          clear hA
          unfold Oper.quietAt
          go_simp
        · refine RegQ.step_in (by kernel_rfl) ?_
          intro A hA W hW
          obtain ⟨qn, rfl⟩ := hW
          have r75 : A.tmps[75]?.getD undef = .pointer (some ⟨gb, ob, none⟩) := RegQ.inG (j := 27) hA rfl (Nat.lt_of_sub_eq_succ rfl) rfl
          clear hA
          unfold Oper.quietAt
          go_simp
        · refine RegQ.step_in (by kernel_rfl) ?_
          intro A hA W hW
          obtain ⟨qn, rfl⟩ := hW
          have r70 : A.tmps[70]?.getD undef = .int .i64 (long : Int) := RegQ.inG (j := 22) hA rfl (Nat.lt_of_sub_eq_succ rfl) rfl
          have r76 : A.tmps[76]?.getD undef = .int .i64 (long : Int) := RegQ.inG (j := 28) hA rfl (Nat.lt_of_sub_eq_succ rfl) rfl
          clear hA
          unfold Oper.quietAt
          go_simp
        · refine RegQ.step_in (by kernel_rfl) ?_
          intro A hA W hW
          obtain ⟨qn, rfl⟩ := hW
          have r77 : A.tmps[77]?.getD undef = .bool false := RegQ.inG (j := 29) hA rfl (Nat.lt_of_sub_eq_succ rfl) rfl
          clear hA
          unfold Oper.quietAt
          go_simp
        · refine RegQ.step_in (by kernel_rfl) ?_
          intro A hA W hW
          obtain ⟨qn, rfl⟩ := hW
          have r8 : A.tmps[8]?.getD undef = .int .i64 (k : Int) := RegQ.outG hA rfl rfl
          clear hA
          unfold Oper.quietAt
          go_simp
        · refine RegQ.step_in (by kernel_rfl) ?_
          intro A hA W hW
          obtain ⟨qn, rfl⟩ := hW
          have r79 : A.tmps[79]?.getD undef = .int .i64 (k : Int) := RegQ.inG (j := 31) hA rfl (Nat.lt_of_sub_eq_succ rfl) rfl
          clear hA
          unfold Oper.quietAt
          go_simp
        · refine RegQ.step_in (by kernel_rfl) ?_
          intro A hA W hW
          obtain ⟨qn, rfl⟩ := hW
          have r78 : A.tmps[78]?.getD undef = .bool false := RegQ.inG (j := 30) hA rfl (Nat.lt_of_sub_eq_succ rfl) rfl
          have r80 : A.tmps[80]?.getD undef = .bool false := RegQ.inG (j := 32) hA rfl (Nat.lt_of_sub_eq_succ rfl) rfl
          clear hA
          unfold Oper.quietAt
          go_simp
        · refine RegQ.step_in (by kernel_rfl) ?_
          intro A hA W hW
          obtain ⟨qn, rfl⟩ := hW
          have r81 : A.tmps[81]?.getD undef = .bool false := RegQ.inG (j := 33) hA rfl (Nat.lt_of_sub_eq_succ rfl) rfl
          clear hA
          unfold Oper.quietAt
          go_simp
        · refine RegQ.step_in (by kernel_rfl) ?_
          intro A hA W hW
          obtain ⟨qn, rfl⟩ := hW
          have r8 : A.tmps[8]?.getD undef = .int .i64 (k : Int) := RegQ.outG hA rfl rfl
          clear hA
          unfold Oper.quietAt
          go_simp
        · refine RegQ.step_in (by kernel_rfl) ?_
          intro A hA W hW
          obtain ⟨qn, rfl⟩ := hW
          have r0 : A.tmps[0]?.getD undef = .slice (some ⟨bA, oA, none⟩) n cap := RegQ.outG hA rfl rfl
          clear hA
          unfold Oper.quietAt
          go_simp
        · refine RegQ.step_in (by kernel_rfl) ?_
          intro A hA W hW
          obtain ⟨qn, rfl⟩ := hW
          have r84 : A.tmps[84]?.getD undef = .slice (some ⟨bA, oA, none⟩) n cap := RegQ.inG (j := 36) hA rfl (Nat.lt_of_sub_eq_succ rfl) rfl
          clear hA
          unfold Oper.quietAt
          go_simp
        · refine RegQ.step_in (by kernel_rfl) ?_
          intro A hA W hW
          obtain ⟨qn, rfl⟩ := hW
          have r83 : A.tmps[83]?.getD undef = .int .i64 (k : Int) := RegQ.inG (j := 35) hA rfl (Nat.lt_of_sub_eq_succ rfl) rfl
          have r85 : A.tmps[85]?.getD undef = .int .i64 (n : Int) := RegQ.inG (j := 37) hA rfl (Nat.lt_of_sub_eq_succ rfl) rfl
          clear hA
          unfold Oper.quietAt
          go_simp
        · refine RegQ.step_in (by kernel_rfl) ?_
          intro A hA W hW
          obtain ⟨qn, rfl⟩ := hW
          have r82 : A.tmps[82]?.getD undef = .bool false := RegQ.inG (j := 34) hA rfl (Nat.lt_of_sub_eq_succ rfl) rfl
          have r86 : A.tmps[86]?.getD undef = .bool false := RegQ.inG (j := 38) hA rfl (Nat.lt_of_sub_eq_succ rfl) rfl
          clear hA
          unfold Oper.quietAt
          go_simp
        · refine RegQ.step_in (by kernel_rfl) ?_
          intro A hA W hW
          obtain ⟨qn, rfl⟩ := hW
          have r87 : A.tmps[87]?.getD undef = .bool false := RegQ.inG (j := 39) hA rfl (Nat.lt_of_sub_eq_succ rfl) rfl
          clear hA
          unfold Oper.quietAt
          go_simp
        · refine RegQ.step_in (by kernel_rfl) ?_
          intro A hA W hW
          obtain ⟨qn, rfl⟩ := hW
          have r0 : A.tmps[0]?.getD undef = .slice (some ⟨bA, oA, none⟩) n cap := RegQ.outG hA rfl rfl
          clear hA
          unfold Oper.quietAt
          go_simp
        · refine RegQ.step_in (by kernel_rfl) ?_
          intro A hA W hW
          obtain ⟨qn, rfl⟩ := hW
          have r8 : A.tmps[8]?.getD undef = .int .i64 (k : Int) := RegQ.outG hA rfl rfl
          clear hA
          unfold Oper.quietAt
          go_simp
        · refine RegQ.step_in (by kernel_rfl) ?_
          intro A hA W hW
          obtain ⟨qn, rfl⟩ := hW
          have r89 : A.tmps[89]?.getD undef = .slice (some ⟨bA, oA, none⟩) n cap := RegQ.inG (j := 41) hA rfl (Nat.lt_of_sub_eq_succ rfl) rfl
          have r90 : A.tmps[90]?.getD undef = .int .i64 (k : Int) := RegQ.inG (j := 42) hA rfl (Nat.lt_of_sub_eq_succ rfl) rfl
          clear hA
          unfold Oper.quietAt
          go_simp
        · refine RegQ.step_in (by kernel_rfl) ?_
          intro A hA W hW
          obtain ⟨qn, rfl⟩ := hW
          have r91 : A.tmps[91]?.getD undef = .pointer (some ⟨bA, oA + k, none⟩) := RegQ.inG (j := 43) hA rfl (Nat.lt_of_sub_eq_succ rfl) rfl
          clear hA
          unfold Oper.quietAt
          go_simp
        · refine RegQ.step_in (by kernel_rfl) ?_
          intro A hA W hW
          obtain ⟨qn, rfl⟩ := hW
          have r1 : A.tmps[1]?.getD undef = .string b := RegQ.outG hA rfl rfl
          clear hA
          unfold Oper.quietAt
          go_simp
        · refine RegQ.step_in (by kernel_rfl) ?_
          intro A hA W hW
          obtain ⟨qn, rfl⟩ := hW
          have r7 : A.tmps[7]?.getD undef = .int .i64 (i : Int) := RegQ.outG hA rfl rfl
          clear hA
          unfold Oper.quietAt
          go_simp
        · refine RegQ.step_in (by kernel_rfl) ?_
          intro A hA W hW
          obtain ⟨qn, rfl⟩ := hW
          have r7 : A.tmps[7]?.getD undef = .int .i64 (i : Int) := RegQ.outG hA rfl rfl
          clear hA
          unfold Oper.quietAt
          go_simp
        · refine RegQ.step_in (by kernel_rfl) ?_
          intro A hA W hW
          obtain ⟨qn, rfl⟩ := hW
          have r9 : A.tmps[9]?.getD undef = .int .i64 (long : Int) := RegQ.outG hA rfl rfl
          clear hA
          unfold Oper.quietAt
          go_simp
        · refine RegQ.step_in (by kernel_rfl) ?_
          intro A hA W hW
          obtain ⟨qn, rfl⟩ := hW
          have r95 : A.tmps[95]?.getD undef = .int .i64 (i : Int) := RegQ.inG (j := 47) hA rfl (Nat.lt_of_sub_eq_succ rfl) rfl
          have r96 : A.tmps[96]?.getD undef = .int .i64 (long : Int) := RegQ.inG (j := 48) hA rfl (Nat.lt_of_sub_eq_succ rfl) rfl
          clear hA
          unfold Oper.quietAt
          go_simp
        · refine RegQ.step_in (by kernel_rfl) ?_
          intro A hA W hW
          obtain ⟨qn, rfl⟩ := hW
          have r93 : A.tmps[93]?.getD undef = .string b := RegQ.inG (j := 45) hA rfl (Nat.lt_of_sub_eq_succ rfl) rfl
          have r94 : A.tmps[94]?.getD undef = .int .i64 (i : Int) := RegQ.inG (j := 46) hA rfl (Nat.lt_of_sub_eq_succ rfl) rfl
          have r97 : A.tmps[97]?.getD undef = .int .i64 (il : Int) := RegQ.inG (j := 49) hA rfl (Nat.lt_of_sub_eq_succ rfl) rfl
          clear hA
          unfold Oper.quietAt
          go_simp
        · refine RegQ.step_in (by kernel_rfl) ?_
          intro A hA W hW
          obtain ⟨qn, rfl⟩ := hW
          have r92 : A.tmps[92]?.getD undef = .string z := RegQ.inG (j := 44) hA rfl (Nat.lt_of_sub_eq_succ rfl) rfl
          have r98 : A.tmps[98]?.getD undef = .string (b.extract i il) := RegQ.inG (j := 50) hA rfl (Nat.lt_of_sub_eq_succ rfl) rfl
          clear hA
          unfold Oper.quietAt
          go_simp
        · refine RegQ.step_in (by kernel_rfl) ?_
          intro A hA W hW
          obtain ⟨qn, rfl⟩ := hW
          have r88 : A.tmps[88]?.getD undef = .bool false := RegQ.inG (j := 40) hA rfl (Nat.lt_of_sub_eq_succ rfl) rfl
          have r99 : A.tmps[99]?.getD undef = .bool false := RegQ.inG (j := 51) hA rfl (Nat.lt_of_sub_eq_succ rfl) rfl
          clear hA
          unfold Oper.quietAt
          go_simp
        · refine RegQ.step_in (by kernel_rfl) ?_
          intro A hA W hW
          obtain ⟨qn, rfl⟩ := hW
          have r69 : A.tmps[69]?.getD undef = .bool true := RegQ.inG (j := 21) hA rfl (Nat.lt_of_sub_eq_succ rfl) rfl
          have r100 : A.tmps[100]?.getD undef = .bool false := RegQ.inG (j := 52) hA rfl (Nat.lt_of_sub_eq_succ rfl) rfl
          clear hA
          unfold Oper.quietAt
          go_simp
        · refine RegQ.step_in (by kernel_rfl) ?_
          intro A hA W hW
          obtain ⟨qn, rfl⟩ := hW
          have r62 : A.tmps[62]?.getD undef = .bool false := RegQ.inG (j := 14) hA rfl (Nat.lt_of_sub_eq_succ rfl) rfl
          have r101 : A.tmps[101]?.getD undef = .bool false := RegQ.inG (j := 53) hA rfl (Nat.lt_of_sub_eq_succ rfl) rfl
          clear hA
          unfold Oper.quietAt
          go_simp
        · intro qn
          simp only [Reg.putS, List.foldl, List.getD_cons_zero, List.getD_cons_succ, Act.put, List.setIfInBounds_toArray, List.set_cons_zero, List.set_cons_succ]
          clear e53 e68 e68' eid eid2 es es2 zadd hcz enl hc0 hbz hbz2 hiz hiz2
          have b6 := drewN_below (n := qn) br5
          have hbw6 := drewN_below (n := qn) (Below.refl w5.heap.size w5)
          have hc6 := pw_cell_below hbw6 hc
          clear hc
          generalize w5.drewN qn = w6 at b6 hbw6 hc6 ⊢
          have hcl6 : Hid (∀ j, j < m → w6.cell? ⟨gb, ob + j, none⟩ = some (.int .i64 ((lensL zs b.data.toList i).getD j 0 : Nat))) := fun j hj => pw_cell_below hbw6 (hcl5.out j hj)
          go_wp2_with fail
          go_loopw [10] (fun s wr => ∃ j : Nat, 1 ≤ j ∧ (j ≤ m ∨ j = 1) ∧ s = .int .i64 (j : Int) ∧ Below w6.heap.size w6 wr) (fun s _ => m - (intOf s).toNat)
          case atStart => exact ⟨1, Nat.le_refl _, .inr rfl, rfl, Below.refl _ _⟩
          case round =>
            obtain ⟨j, hj1, hjm, rfl, br6⟩ := hrel
            have hc7 := pw_cell_below br6 hc6
            by_cases hjl : j < m
            · have hjd : decide ((j : Int) < (m : Int)) = true := decide_eq_true (by omega)
              have hjd2 : (j : Int) < (m : Int) := by omega
              have x7 := pw_cell_below br6 (hcl6.out j hjl)
              have y7 := pw_cell_below br6 (hcl6.out (j - 1) (by omega))
              obtain ⟨t3, t4⟩ := hdec.out j hj1 hjl
              generalize (lensL zs b.data.toList i).getD j 0 = x at x7 t3 t4
              generalize (lensL zs b.data.toList i).getD (j - 1) 0 = y at y7 t3
              have t1 : decide ((x : Int) ≥ (y : Int)) = false := decide_eq_false (by omega)
              have t1' : decide (y ≤ x) = false := decide_eq_false (by omega)
              have t2 : decide ((x : Int) < 1) = false := decide_eq_false (by omega)
              have zj : IntKind.i64.wrap ((j : Int) - 1) = ((j - 1 : Nat) : Int) := by rw [IntKind.wrap_i64]; omega
              have zj1 : IntKind.i64.wrap ((j : Int) + 1) = (j : Int) + 1 := by rw [IntKind.wrap_i64]; omega
              have hjz : ((j - 1 : Nat) : Int) < (m : Int) := by omega
              clear t3 t4
              go_wp2_with fail
              refine RegQ.wp_region_vals [some 112, some 113, some 114, some 115, some 116, some 117, some 118, some 119, some 120, some 121, some 122, some 123, some 124, some 125, some 126, some 127, some 128, some 129, some 130, some 131, some 132, some 133, some 134, some 135, some 136, some 137] (fun iq => ([.slice (some ⟨g, 0, none⟩) bn bn, .int .i64 (i : Int), .pointer (some ⟨g, i, none⟩), .slice (some ⟨gb, ob, none⟩) m c, .int .i64 (j : Int), .pointer (some ⟨gb, ob + j, none⟩), .int .i64 (x : Int), .slice (some ⟨g, 0, none⟩) bn bn, .int .i64 (i : Int), .pointer (some ⟨g, i, none⟩), .slice (some ⟨gb, ob, none⟩) m c, .int .i64 (j : Int), .int .i64 ((j - 1 : Nat) : Int), .pointer (some ⟨gb, ob + (j - 1), none⟩), .int .i64 (y : Int), .bool false, .bool false, .slice (some ⟨g, 0, none⟩) bn bn, .int .i64 (i : Int), .pointer (some ⟨g, i, none⟩), .slice (some ⟨gb, ob, none⟩) m c, .int .i64 (j : Int), .pointer (some ⟨gb, ob + j, none⟩), .int .i64 (x : Int), .bool false, .bool false] : List Value).getD iq undef) [0, 1, 2, 3, 4, 5, 6, 7, 8, 9, 10, 11, 12, 13, 14, 15, 16, 17, 18, 19, 20, 21, 22, 23, 24, 25] rfl (by kernel_rfl) (by kernel_rfl) (by kernel_rfl) (by kernel_rfl) ⟨?_, ?_, ?_, ?_, ?_, ?_, ?_, ?_, ?_, ?_, ?_, ?_, ?_, ?_, ?_, ?_, ?_, ?_, ?_, ?_, ?_, ?_, ?_, ?_, ?_, ?_, trivial⟩ ?_
              · refine RegQ.step_in (by kernel_rfl) ?_
                intro A hA W hW
                obtain ⟨qn, rfl⟩ := hW
                have r6 : A.tmps[6]?.getD undef = .slice (some ⟨g, 0, none⟩) bn bn := RegQ.outG hA rfl rfl
                clear hA
                unfold Oper.quietAt
                go_simp
              · refine RegQ.step_in (by kernel_rfl) ?_
                intro A hA W hW
                obtain ⟨qn, rfl⟩ := hW
                have r7 : A.tmps[7]?.getD undef = .int .i64 (i : Int) := RegQ.outG hA rfl rfl
                clear hA
                unfold Oper.quietAt
                go_simp
              · refine RegQ.step_in (by kernel_rfl) ?_
                intro A hA W hW
                obtain ⟨qn, rfl⟩ := hW
                have r112 : A.tmps[112]?.getD undef = .slice (some ⟨g, 0, none⟩) bn bn := RegQ.inG (j := 0) hA rfl (Nat.lt_of_sub_eq_succ rfl) rfl
                have r113 : A.tmps[113]?.getD undef = .int .i64 (i : Int) := RegQ.inG (j := 1) hA rfl (Nat.lt_of_sub_eq_succ rfl) rfl
                clear hA
                unfold Oper.quietAt
                go_simp
              · refine RegQ.step_in (by kernel_rfl) ?_
                intro A hA W hW
                obtain ⟨qn, rfl⟩ := hW
                have r114 : A.tmps[114]?.getD undef = .pointer (some ⟨g, i, none⟩) := RegQ.inG (j := 2) hA rfl (Nat.lt_of_sub_eq_succ rfl) rfl
                clear hA
                unfold Oper.quietAt
                go_simp
              · refine RegQ.step_in (by kernel_rfl) ?_
                intro A hA W hW
                obtain ⟨qn, rfl⟩ := hW
                have r10 : A.tmps[10]?.getD undef = .int .i64 (j : Int) := RegQ.outG hA rfl rfl
                clear hA
                unfold Oper.quietAt
                go_simp
              · refine RegQ.step_in (by kernel_rfl) ?_
                intro A hA W hW
                obtain ⟨qn, rfl⟩ := hW
                have r115 : A.tmps[115]?.getD undef = .slice (some ⟨gb, ob, none⟩) m c := RegQ.inG (j := 3) hA rfl (Nat.lt_of_sub_eq_succ rfl) rfl
                have r116 : A.tmps[116]?.getD undef = .int .i64 (j : Int) := RegQ.inG (j := 4) hA rfl (Nat.lt_of_sub_eq_succ rfl) rfl
                clear hA
                unfold Oper.quietAt
                go_simp
              · refine RegQ.step_in (by kernel_rfl) ?_
                intro A hA W hW
                obtain ⟨qn, rfl⟩ := hW
                have r117 : A.tmps[117]?.getD undef = .pointer (some ⟨gb, ob + j, none⟩) := RegQ.inG (j := 5) hA rfl (Nat.lt_of_sub_eq_succ rfl) rfl
                clear hA
                unfold Oper.quietAt
                go_simp
              · refine RegQ.step_in (by kernel_rfl) ?_
                intro A hA W hW
                obtain ⟨qn, rfl⟩ := hW
                have r6 : A.tmps[6]?.getD undef = .slice (some ⟨g, 0, none⟩) bn bn := RegQ.outG hA rfl rfl
                clear hA
                unfold Oper.quietAt
                go_simp
              · refine RegQ.step_in (by kernel_rfl) ?_
                intro A hA W hW
                obtain ⟨qn, rfl⟩ := hW
                have r7 : A.tmps[7]?.getD undef = .int .i64 (i : Int) := RegQ.outG hA rfl rfl
                clear hA
                unfold Oper.quietAt
                go_simp
              · refine RegQ.step_in (by kernel_rfl) ?_
                intro A hA W hW
                obtain ⟨qn, rfl⟩ := hW
                have r119 : A.tmps[119]?.getD undef = .slice (some ⟨g, 0, none⟩) bn bn := RegQ.inG (j := 7) hA rfl (Nat.lt_of_sub_eq_succ rfl) rfl
                have r120 : A.tmps[120]?.getD undef = .int .i64 (i : Int) := RegQ.inG (j := 8) hA rfl (Nat.lt_of_sub_eq_succ rfl) rfl
                clear hA
                unfold Oper.quietAt
                go_simp
              · refine RegQ.step_in (by kernel_rfl) ?_
                intro A hA W hW
                obtain ⟨qn, rfl⟩ := hW
                have r121 : A.tmps[121]?.getD undef = .pointer (some ⟨g, i, none⟩) := RegQ.inG (j := 9) hA rfl (Nat.lt_of_sub_eq_succ rfl) rfl
                clear hA
                unfold Oper.quietAt
                go_simp
              · refine RegQ.step_in (by kernel_rfl) ?_
                intro A hA W hW
                obtain ⟨qn, rfl⟩ := hW
                have r10 : A.tmps[10]?.getD undef = .int .i64 (j : Int) := RegQ.outG hA rfl rfl
                clear hA
                unfold Oper.quietAt
                go_simp
              · refine RegQ.step_in (by kernel_rfl) ?_
                intro A hA W hW
                obtain ⟨qn, rfl⟩ := hW
                have r123 : A.tmps[123]?.getD undef = .int .i64 (j : Int) := RegQ.inG (j := 11) hA rfl (Nat.lt_of_sub_eq_succ rfl) rfl
                clear hA
                unfold Oper.quietAt
                go_simp
              · refine RegQ.step_in (by kernel_rfl) ?_
                intro A hA W hW
                obtain ⟨qn, rfl⟩ := hW
                have r122 : A.tmps[122]?.getD undef = .slice (some ⟨gb, ob, none⟩) m c := RegQ.inG (j := 10) hA rfl (Nat.lt_of_sub_eq_succ rfl) rfl
                have r124 : A.tmps[124]?.getD undef = .int .i64 ((j - 1 : Nat) : Int) := RegQ.inG (j := 12) hA rfl (Nat.lt_of_sub_eq_succ rfl) rfl
                clear hA
                unfold Oper.quietAt
                go_simp
              · refine RegQ.step_in (by kernel_rfl) ?_
                intro A hA W hW
                obtain ⟨qn, rfl⟩ := hW
                have r125 : A.tmps[125]?.getD undef = .pointer (some ⟨gb, ob + (j - 1), none⟩) := RegQ.inG (j := 13) hA rfl (Nat.lt_of_sub_eq_succ rfl) rfl
                clear hA
                unfold Oper.quietAt
                go_simp
              · refine RegQ.step_in (by kernel_rfl) ?_
                intro A hA W hW
                obtain ⟨qn, rfl⟩ := hW
                have r118 : A.tmps[118]?.getD undef = .int .i64 (x : Int) := RegQ.inG (j := 6) hA rfl (Nat.lt_of_sub_eq_succ rfl) rfl
                have r126 : A.tmps[126]?.getD undef = .int .i64 (y : Int) := RegQ.inG (j := 14) hA rfl (Nat.lt_of_sub_eq_succ rfl) rfl
                clear hA
                unfold Oper.quietAt
                go_simp
              · refine RegQ.step_in (by kernel_rfl) ?_
                intro A hA W hW
                obtain ⟨qn, rfl⟩ := hW
                have r127 : A.tmps[127]?.getD undef = .bool false := RegQ.inG (j := 15) hA rfl (Nat.lt_of_sub_eq_succ rfl) rfl
                clear hA
                unfold Oper.quietAt
                go_simp
              · refine RegQ.step_in (by kernel_rfl) ?_
                intro A hA W hW
                obtain ⟨qn, rfl⟩ := hW
                have r6 : A.tmps[6]?.getD undef = .slice (some ⟨g, 0, none⟩) bn bn := RegQ.outG hA rfl rfl
                clear hA
                unfold Oper.quietAt
                go_simp
              · refine RegQ.step_in (by kernel_rfl) ?_
                intro A hA W hW
                obtain ⟨qn, rfl⟩ := hW
                have r7 : A.tmps[7]?.getD undef = .int .i64 (i : Int) := RegQ.outG hA rfl rfl
                clear hA
                unfold Oper.quietAt
                go_simp
              · refine RegQ.step_in (by kernel_rfl) ?_
                intro A hA W hW
                obtain ⟨qn, rfl⟩ := hW
                have r129 : A.tmps[129]?.getD undef = .slice (some ⟨g, 0, none⟩) bn bn := RegQ.inG (j := 17) hA rfl (Nat.lt_of_sub_eq_succ rfl) rfl
                have r130 : A.tmps[130]?.getD undef = .int .i64 (i : Int) := RegQ.inG (j := 18) hA rfl (Nat.lt_of_sub_eq_succ rfl) rfl
                clear hA
                unfold Oper.quietAt
                go_simp
              · refine RegQ.step_in (by kernel_rfl) ?_
                intro A hA W hW
                obtain ⟨qn, rfl⟩ := hW
                have r131 : A.tmps[131]?.getD undef = .pointer (some ⟨g, i, none⟩) := RegQ.inG (j := 19) hA rfl (Nat.lt_of_sub_eq_succ rfl) rfl
                clear hA
                unfold Oper.quietAt
                go_simp
              · refine RegQ.step_in (by kernel_rfl) ?_
                intro A hA W hW
                obtain ⟨qn, rfl⟩ := hW
                have r10 : A.tmps[10]?.getD undef = .int .i64 (j : Int) := RegQ.outG hA rfl rfl
                clear hA
                unfold Oper.quietAt
                go_simp
              · refine RegQ.step_in (by kernel_rfl) ?_
                intro A hA W hW
                obtain ⟨qn, rfl⟩ := hW
                have r132 : A.tmps[132]?.getD undef = .slice (some ⟨gb, ob, none⟩) m c := RegQ.inG (j := 20) hA rfl (Nat.lt_of_sub_eq_succ rfl) rfl
                have r133 : A.tmps[133]?.getD undef = .int .i64 (j : Int) := RegQ.inG (j := 21) hA rfl (Nat.lt_of_sub_eq_succ rfl) rfl
                clear hA
                unfold Oper.quietAt
                go_simp
              · refine RegQ.step_in (by kernel_rfl) ?_
                intro A hA W hW
                obtain ⟨qn, rfl⟩ := hW
                have r134 : A.tmps[134]?.getD undef = .pointer (some ⟨gb, ob + j, none⟩) := RegQ.inG (j := 22) hA rfl (Nat.lt_of_sub_eq_succ rfl) rfl
                clear hA
                unfold Oper.quietAt
                go_simp
              · refine RegQ.step_in (by kernel_rfl) ?_
                intro A hA W hW
                obtain ⟨qn, rfl⟩ := hW
                have r135 : A.tmps[135]?.getD undef = .int .i64 (x : Int) := RegQ.inG (j := 23) hA rfl (Nat.lt_of_sub_eq_succ rfl) rfl
                clear hA
                unfold Oper.quietAt
                go_simp
              · refine RegQ.step_in (by kernel_rfl) ?_
                intro A hA W hW
                obtain ⟨qn, rfl⟩ := hW
                have r128 : A.tmps[128]?.getD undef = .bool false := RegQ.inG (j := 16) hA rfl (Nat.lt_of_sub_eq_succ rfl) rfl
                have r136 : A.tmps[136]?.getD undef = .bool false := RegQ.inG (j := 24) hA rfl (Nat.lt_of_sub_eq_succ rfl) rfl
                clear hA
                unfold Oper.quietAt
                go_simp
              · intro qn
                simp only [Reg.putS, List.foldl, List.getD_cons_zero, List.getD_cons_succ, Act.put, List.setIfInBounds_toArray, List.set_cons_zero, List.set_cons_succ]
                have b8 := drewN_below (n := qn) br6
                clear br6 hc7 x7 y7 zj t1 t2 t1' hjd hjd2 hjz
                generalize wr.drewN qn = w8 at b8 ⊢
                go_wp2_with fail
                go_roundw
                case rel => exact ⟨j + 1, by omega, .inl (by omega), by go_num, b8⟩
                case measure => simp [intOf]; omega
            · have hjd : decide ((j : Int) < (m : Int)) = false := decide_eq_false (by omega)
              have hjd2 : ¬ (j : Int) < (m : Int) := by omega
              have b7 := b6.trans (br6.mono b6.size)
              clear br6 b6
              go_wp2_with fail
              go_roundw
              case rel => exact ⟨i + 1, hlt, by go_num, b7⟩
              case measure => simp [intOf]; omega
    · have hid : decide ((i : Int) < (bn : Int)) = false := decide_eq_false (by omega)
      have hii : ¬ (i : Int) < (bn : Int) := by omega
      have belF := bstep bel br
      clear br bel
      go_wp2_with fail
      go_ret
      exact ⟨rfl, belF⟩
end Go.Proofs.Ytdeeeechdlcdbaa.HgW
