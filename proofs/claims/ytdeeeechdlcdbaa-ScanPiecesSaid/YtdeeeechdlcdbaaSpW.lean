/- The walk of ScanPieces. -/
import Derived.Test.YtdeeeechdlcdbaaScA
import Derived.Test.YtdeeeechdlcdbaaTtN
import Derived.Test.YtdeeeechdlcdbaaPhW
import Derived.IntWalk
import Derived.Deep.QuietTactic
import Derived.BigQuiet
set_option linter.unusedVariables false
set_option linter.unusedSimpArgs false
namespace Go.Proofs.Ytdeeeechdlcdbaa.SpW
open Go Go.RowKit Go.Proofs Go.Proofs.Ytdeeeechdlcdbaa Go.Proofs.Ytdeeeechdlcdbaa.Base Go.Proofs.Ytdeeeechdlcdbaa.DiA Go.Proofs.Ytdeeeechdlcdbaa.DiB Go.Proofs.Ytdeeeechdlcdbaa.DiC Go.Proofs.Ytdeeeechdlcdbaa.TrP Go.Proofs.Ytdeeeechdlcdbaa.TrM Go.Proofs.Ytdeeeechdlcdbaa.TrA Go.Proofs.Ytdeeeechdlcdbaa.TrD Go.Proofs.Ytdeeeechdlcdbaa.TrE Go.Proofs.Ytdeeeechdlcdbaa.TtP Go.Proofs.Ytdeeeechdlcdbaa.TcP Go.Proofs.Ytdeeeechdlcdbaa.TwA Go.Proofs.Ytdeeeechdlcdbaa.LkA Go.Proofs.Ytdeeeechdlcdbaa.LkP Go.Proofs.Ytdeeeechdlcdbaa.LkM Go.Proofs.Ytdeeeechdlcdbaa.LkO Go.Proofs.Ytdeeeechdlcdbaa.LkQ Go.Proofs.Ytdeeeechdlcdbaa.LkN Go.Proofs.Ytdeeeechdlcdbaa.LkS Go.Proofs.Ytdeeeechdlcdbaa.LkX Go.Proofs.Ytdeeeechdlcdbaa.PhP Go.Proofs.Ytdeeeechdlcdbaa.PhW Go.Proofs.Ytdeeeechdlcdbaa.ScP Go.Proofs.Ytdeeeechdlcdbaa.ScS Go.Proofs.Ytdeeeechdlcdbaa.ScH Go.Proofs.Ytdeeeechdlcdbaa.ScF Go.Proofs.Ytdeeeechdlcdbaa.ScE Go.Proofs.Ytdeeeechdlcdbaa.ScX Go.Proofs.Ytdeeeechdlcdbaa.TtN Go.Proofs.Ytdeeeechdlcdbaa.ScA
set_option maxHeartbeats 400000 in
theorem law_few (A : Option Addr) (n cap : Nat) (b : ByteArray) (C : Option Addr) (nc cc : Nat) (cz : List Int) (w : World) (hf : Calls Try.prog 23 #[.slice A n cap] w fun e w' => e = .returned (.bool false) ∧ w' = w) :
    Calls Try.prog 17 #[.slice A n cap, .string b, .slice C nc cc] w fun e w' => e = .returned (.bool true) ∧ Below w.heap.size w w' := by
  go_enter Try.func17, Try.ntmps17
  go_wp2_with fail
  refine hf.mono ?_
  rintro e w1 ⟨rfl, hw⟩
  rw [hw]
  clear hf hw
  go_wp2_with fail
  refine (ScX.alive_call _).mono ?_
  rintro e w2 ⟨rfl, b2⟩
  go_wp2_with fail
  go_ret
  exact ⟨rfl, b2⟩
set_option maxHeartbeats 400000 in
theorem law_out0 (A : Option Addr) (n cap : Nat) (b : ByteArray) (C : Option Addr) (nc cc : Nat) (cz : List Int) (w : World) (hf : Calls Try.prog 23 #[.slice A n cap] w fun e w' => e = .returned (.bool true) ∧ w' = w) (hC : ∀ W, Below w.heap.size w W → LkS.At W C cz) (hcn : Hid (nc = cz.length)) (hd0 : decide ((b.size : Int) > 300) = true) :
    Calls Try.prog 17 #[.slice A n cap, .string b, .slice C nc cc] w fun e w' => e = .returned (.bool true) ∧ Below w.heap.size w w' := by
  go_enter Try.func17, Try.ntmps17
  go_wp2_with fail
  refine hf.mono ?_
  rintro e w1 ⟨rfl, hw⟩
  rw [hw]
  clear hf hw
  go_wp2_with fail
  refine (ScX.alive_call _).mono ?_
  rintro e w2 ⟨rfl, b2⟩
  go_wp2_with fail
  go_ret
  exact ⟨rfl, b2⟩
set_option maxHeartbeats 400000 in
theorem law_out1 (A : Option Addr) (n cap : Nat) (b : ByteArray) (C : Option Addr) (nc cc : Nat) (cz : List Int) (w : World) (hf : Calls Try.prog 23 #[.slice A n cap] w fun e w' => e = .returned (.bool true) ∧ w' = w) (hC : ∀ W, Below w.heap.size w W → LkS.At W C cz) (hcn : Hid (nc = cz.length)) (hd0 : decide ((b.size : Int) > 300) = false) (hd1 : decide ((nc : Int) > 100) = true) :
    Calls Try.prog 17 #[.slice A n cap, .string b, .slice C nc cc] w fun e w' => e = .returned (.bool true) ∧ Below w.heap.size w w' := by
  go_enter Try.func17, Try.ntmps17
  go_wp2_with fail
  refine hf.mono ?_
  rintro e w1 ⟨rfl, hw⟩
  rw [hw]
  clear hf hw
  go_wp2_with fail
  refine (ScX.alive_call _).mono ?_
  rintro e w2 ⟨rfl, b2⟩
  go_wp2_with fail
  go_ret
  exact ⟨rfl, b2⟩
set_option maxRecDepth 20000 in
set_option maxHeartbeats 8000000 in
theorem law_in (A : Option Addr) (n cap : Nat) (zs : List ByteArray) (b : ByteArray) (C : Option Addr) (nc cc : Nat) (cz : List Int) (w : World) (hf : Calls Try.prog 23 #[.slice A n cap] w fun e w' => e = .returned (.bool true) ∧ w' = w)
    (hn : n = zs.length) (hat : StrsAt w A zs) (hn1 : n ≤ 110) (htot : total zs ≤ 1300) (hC : ∀ W, Below w.heap.size w W → LkS.At W C cz) (hcn : Hid (nc = cz.length)) (hd0 : decide ((b.size : Int) > 300) = false) (hd1 : decide ((nc : Int) > 100) = false) :
    Calls Try.prog 17 #[.slice A n cap, .string b, .slice C nc cc] w fun e w' => e = .returned (.bool true) ∧ Below w.heap.size w w' := by
  have hnh : Hid (n = zs.length) := hn
  clear hn
  go_enter Try.func17, Try.ntmps17
  go_wp2_with fail
  refine hf.mono ?_
  rintro e w1 ⟨rfl, hw⟩
  rw [hw]
  clear hf hw w1
  go_wp2_with fail
  refine (ScX.alive_call _).mono ?_
  rintro e w1 ⟨rfl, bel⟩
  have hat1 := hat.below bel
  go_wp2_with fail
  refine (phrases_any A n cap zs w1 hnh.out hat1 (by omega)).mono ?_
  rintro e w2 ⟨hph, hw⟩
  rw [hw]
  clear hw w2
  rcases hph with ⟨hok, rfl⟩ | ⟨hok, c0, k0, hc0, rfl⟩
  rotate_left
  · have hcd : (c0 != 0) = true := by simp [hc0]
    clear hat hat1 hok
    go_wp2_with fail
    go_ret
    exact ⟨rfl, bel⟩
  go_wp2_with fail
  refine (lmake_any A n cap zs w1 hnh.out hat1 (by omega)).mono ?_
  rintro e w2 ⟨b2, ⟨hno, _⟩ | ⟨_, p, B, px, m, N, F, O, L, rfl, hl⟩⟩
  · rw [hok] at hno; cases hno
  replace bel := bstep bel b2
  have hat2 := hat1.below b2
  clear hat1 b2 hat
  have hT := tr_build hok
  have hok2 := hl.ok
  have heq := hl.eq
  have hlen := hl.len
  have hla := hl.at_
  clear hl
  obtain ⟨X, hX⟩ : ∃ X, build zs zs.length = X := ⟨_, rfl⟩
  rw [hX] at hT hok2 heq
  have hXb : Hid (build zs zs.length = X) := hX
  have hTh : Hid (Tr zs X) := hT
  have hOk : Hid (LkOk X F O L) := hok2
  have hNX : Hid (N.map (·.p) = X) := heq
  obtain ⟨ln, hln⟩ : ∃ ln, N.length = ln := ⟨_, rfl⟩
  have hln1 : ln ≤ 1301 := by omega
  have hlnh : Hid (N.length = ln) := hln
  have hXl : Hid (X.length = ln) := by show _ = _; rw [← hNX.out, List.length_map, hln]
  have hokh : Hid (okD zs = true) := hok
  clear hX hT hok2 heq hln hlen hok
  have hlx : Hid (Lx w2 p zs X) := Lib.hid ⟨⟨B, px, m, N, F, O, L, hla, hNX.out, hOk.out, by have := hlnh.out; omega⟩, hTh.out⟩
  clear hla
  have cN := new_any hlx.out (Below.refl _ w2)
  have hwsz := bel.size
  clear hat2
  go_wp2_with fail
  refine cN.mono ?_
  rintro e w3 ⟨q, rfl, hq, S, b3⟩
  replace bel := bstep bel b3
  have hw1 : w.heap.size ≤ q := by omega
  clear cN b3
  have hb3 : b.size ≤ 300 := by have := of_decide_eq_false hd0; omega
  have hc3 : nc ≤ 100 := by have := of_decide_eq_false hd1; omega
  have hqlt : q < w3.heap.size := S.lt
  have hw3 : w.heap.size ≤ w3.heap.size := bel.size
  have hw23 : w2.heap.size ≤ w3.heap.size := S.bel.size
  have hFL : Hid (∀ i, (feedU zs [] 0 b.data.toList i).length ≤ 40 * i) := feedU_len hTh.out [] 0 b.data.toList
  have hbl : Hid (b.data.toList.length = b.size) := (size_list b).symm
  have hCh : Hid (∀ W, Below w.heap.size w W → LkS.At W C cz) := hC
  have hnc : Hid (nc = cz.length) := hcn
  have hdr : Hid (b.data.toList = b.data.toList.drop 0) := rfl
  have hnil : w3.ownsRow w3.heap.size 35 2 (.slice none 0 0) 0 (hitC (feedU zs [] 0 b.data.toList 0)) := World.ownsRow_nil _ _ _ _
  have S0 : Sc w2 p q X (b.data.toList.take 0) 0 w3 := S
  have hn0 : Hid (0 = (feedU zs [] 0 b.data.toList 0).length) := rfl
  clear hC hcn hd0 hd1 S
  go_wp2_with fail
  go_loopw [11, 12, 50] (fun s11 s12 s50 wr => ∃ (k m nH : Nat) (t : ByteArray), k ≤ nc ∧ m ≤ b.size ∧ s12 = .string t ∧ s50 = .int .i64 (k : Int) ∧ Hid (t.data.toList = b.data.toList.drop m) ∧ t.size = b.size - m ∧ Hid (nH = (feedU zs [] 0 b.data.toList m).length) ∧ wr.ownsRow w3.heap.size 35 2 s11 nH (hitC (feedU zs [] 0 b.data.toList m)) ∧ Sc w2 p q X (b.data.toList.take m) m wr ∧ Below w.heap.size w wr ∧ w3.heap.size ≤ wr.heap.size) (fun _ _ s50 _ => nc - (intOf s50).toNat)
  case atStart => exact ⟨0, 0, 0, b, Nat.zero_le _, Nat.zero_le _, rfl, rfl, hdr, rfl, hn0, hnil, S0, bel, Nat.le_refl _⟩
  case round =>
    clear hnil S0 bel hn0 hdr
    obtain ⟨k, m, nH, t, hk, hm, rfl, rfl, htl, hts, hnH, hrow, S, bel, hsz⟩ := hrel
    obtain ⟨V0, cp0, rfl, _⟩ := own_form hrow
    by_cases hlt : k < nc
    · have hki : (k : Int) < (nc : Int) := by omega
      have hkd : decide ((k : Int) < (nc : Int)) = true := decide_eq_true hki
      obtain ⟨bc, oc, rfl, _, hcell⟩ := hCh.out wr bel (by rw [← hnc.out]; omega)
      have hc1 := hcell k (by rw [← hnc.out]; exact hlt)
      generalize cz.getD k 0 = c at hc1
      obtain ⟨j, hj0, hjt⟩ := cut_ex c t.size
      have hjh : Hid (min (max c 0) (t.size : Int) = (j : Int)) := hj0
      clear hj0
      have hji : (j : Int) ≤ (t.size : Int) := by omega
      have e1 : (t.extract 0 j).data.toList = (b.data.toList.drop m).take j := by rw [ext_list, htl.out, List.drop_zero, Nat.sub_zero]
      have e2 : (t.extract j t.size).data.toList = b.data.toList.drop (m + j) := by rw [ext_list, htl.out, List.drop_drop, List.take_of_length_le (by rw [List.length_drop, hbl.out]; omega)]
      have s1 : (t.extract 0 j).size = j := by rw [ByteArray.size_extract, Nat.min_eq_left hjt, Nat.sub_zero]
      have s2 : (t.extract j t.size).size = b.size - (m + j) := by rw [ByteArray.size_extract, Nat.min_self, hts, Nat.sub_sub]
      have cF := feed_call hlx.out S (t.extract 0 j) (by omega) (by omega)
      rw [e1, s1] at cF
      have hadd : b.data.toList.take m ++ (b.data.toList.drop m).take j = b.data.toList.take (m + j) := (List.take_add).symm
      rw [hadd] at cF
      have happ := feedU_app zs b.data.toList m j (by rw [hbl.out]; omega)
      have hlen := hFL.out (m + j)
      obtain ⟨n2, hn2⟩ : ∃ n2, (feedU zs [] 0 b.data.toList (m + j)).length = n2 := ⟨_, rfl⟩
      have hn2h : Hid (n2 = (feedU zs [] 0 b.data.toList (m + j)).length) := hn2.symm
      have happh : Hid _ := happ
      rw [hn2] at hlen
      generalize hY : feedU zs (b.data.toList.take m) m ((b.data.toList.drop m).take j) j = Y at cF happ
      have hYh : Hid (feedU zs [] 0 b.data.toList (m + j) = feedU zs [] 0 b.data.toList m ++ Y) := happ
      obtain ⟨nY, hnY⟩ : ∃ nY, Y.length = nY := ⟨_, rfl⟩
      have hnYh : Hid (nY = Y.length) := hnY.symm
      rw [hnY] at cF
      have z1 : IntKind.i64.wrap ((k : Int) + 1) = (k : Int) + 1 := by rw [IntKind.wrap_i64]; omega
      obtain ⟨t2, ht2⟩ : ∃ t2, t.extract j t.size = t2 := ⟨_, rfl⟩
      rw [ht2] at e2 s2
      have e2h : Hid (t2.data.toList = b.data.toList.drop (m + j)) := e2
      obtain ⟨t1, ht1⟩ : ∃ t1, t.extract 0 j = t1 := ⟨_, rfl⟩
      rw [ht1] at cF
      have hrowh : Hid (wr.ownsRow w3.heap.size 35 2 (.slice V0 nH cp0) nH (hitC (feedU zs [] 0 b.data.toList m))) := hrow
      have hmj : m + j ≤ b.size := by omega
      clear hcell e1 e2 s1 hadd happ happh hn2 hY hnY htl hrow S
      have hj := hjh.out
      clear hjh hts
      go_wp2_with fail
      refine cF.mono ?_
      clear hj
      rintro e wf ⟨vf, rfl, hrf, Sf, tf⟩
      have rowf := own_twin hrowh.out tf (fun e => by have := own_ge hrowh.out q e; omega)
      have belf := bel.trans (tf.below bel.size (by omega) (by omega))
      have hszf : w3.heap.size ≤ wf.heap.size := Nat.le_trans hsz tf.size
      obtain ⟨Vf, cpf, rfl, _⟩ := own_form hrf
      clear cF hrowh tf
      go_wp2_with (first | (at_builtin; refine wp_app rfl (.tmp 59) (.tmp 64) rfl w3.heap.size nH n2 _ _ rfl rowf hnH.out _ nY _ _ _ rfl hrf hnYh.out hYh.out hn2h.out (by omega) hszf ?_))
      intro V9 cp9 w9 row9 hg9 _
      have S9 := Sc.grown Sf hg9 (fun i hi => by have := own_ge rowf i hi; omega)
      have bel9 := belf.grown hg9 belf.size (fun i hi => by have := own_ge rowf i hi; omega)
      have hsz9 : w3.heap.size ≤ w9.heap.size := Nat.le_trans hszf hg9.size
      clear hg9 rowf Sf belf hszf hrf bel hsz
      go_wp2_with fail
      go_roundw
      case rel => exact ⟨k + 1, m + j, n2, t2, hlt, hmj, rfl, by go_num, e2h, s2, hn2h, row9, S9, bel9, hsz9⟩
      case measure => simp [intOf]; omega
    · have hki : ¬ (k : Int) < (nc : Int) := by omega
      have hkd : decide ((k : Int) < (nc : Int)) = false := decide_eq_false hki
      have cF := feed_call hlx.out S t (by omega) (by omega)
      rw [htl.out, hts] at cF
      have hadd : b.data.toList.take m ++ b.data.toList.drop m = b.data.toList := List.take_append_drop _ _
      rw [hadd, Nat.add_sub_cancel' hm] at cF
      have happ := feedU_app zs b.data.toList m (b.size - m) (by rw [hbl.out]; omega)
      have htd : (b.data.toList.drop m).take (b.size - m) = b.data.toList.drop m := List.take_of_length_le (by rw [List.length_drop, hbl.out]; omega)
      rw [htd, Nat.add_sub_cancel' hm] at happ
      have hlen := hFL.out b.size
      have cA0 := fun (W : World) (hW : Below w2.heap.size w2 W) => all_any hlx.out hW b (by omega)
      generalize feedU zs (b.data.toList.take m) m (b.data.toList.drop m) (b.size - m) = Y at cF happ
      obtain ⟨H, hH⟩ : ∃ H, feedU zs [] 0 b.data.toList b.size = H := ⟨_, rfl⟩
      rw [hH] at happ hlen cA0
      obtain ⟨n2, hn2⟩ : ∃ n2, H.length = n2 := ⟨_, rfl⟩
      have hn2h : Hid (n2 = H.length) := hn2.symm
      rw [hn2] at hlen cA0
      have hYh : Hid (H = feedU zs [] 0 b.data.toList m ++ Y) := happ
      obtain ⟨nY, hnY⟩ : ∃ nY, Y.length = nY := ⟨_, rfl⟩
      have hnYh : Hid (nY = Y.length) := hnY.symm
      rw [hnY] at cF
      have hrowh : Hid (wr.ownsRow w3.heap.size 35 2 (.slice V0 nH cp0) nH (hitC (feedU zs [] 0 b.data.toList m))) := hrow
      clear hadd happ htd hH hn2 hnY htl hrow S hts
      go_wp2_with fail
      refine cF.mono ?_
      rintro e wf ⟨vf, rfl, hrf, Sf, tf⟩
      have rowf := own_twin hrowh.out tf (fun e => by have := own_ge hrowh.out q e; omega)
      have belf := bel.trans (tf.below bel.size (by omega) (by omega))
      have hszf : w3.heap.size ≤ wf.heap.size := Nat.le_trans hsz tf.size
      obtain ⟨Vf, cpf, rfl, _⟩ := own_form hrf
      clear cF hrowh tf bel hsz
      go_wp2_with (first | (at_builtin; refine wp_app rfl (.tmp 70) (.tmp 73) rfl w3.heap.size nH n2 _ _ rfl rowf hnH.out _ nY _ _ _ rfl hrf hnYh.out hYh.out hn2h.out (by omega) hszf ?_))
      intro V9 cp9 w9 row9 hg9 _
      have S9 := Sc.grown Sf hg9 (fun i hi => by have := own_ge rowf i hi; omega)
      have bel9 := belf.grown hg9 belf.size (fun i hi => by have := own_ge rowf i hi; omega)
      obtain ⟨V8, cp8, e8, hV⟩ := row_hits row9 hn2h.out
      injection e8 with e81 e82 e83
      rw [← e81] at hV
      have cA := cA0 w9 S9.bel
      clear hg9 rowf Sf belf hszf hrf row9 e81 e82 e83 V8 cp8 cA0
      go_wp2_with fail
      refine cA.mono ?_
      rintro e w7 ⟨v7, rfl, hr7, b7⟩
      replace bel9 := bstep bel9 b7
      replace S9 := S9.below b7
      replace hV := hV.below b7
      obtain ⟨V7, cp7, rfl, hV7⟩ := row_hits hr7 hn2h.out
      have cs := same_hits V9 V7 n2 n2 cp9 cp7 H H w7 hn2h.out hn2h.out hV hV7 (by omega) (by omega)
      rw [decide_eq_true (rfl : H = H)] at cs
      clear cA hr7 b7 hV hV7
      go_wp2_with fail
      refine cs.mono ?_
      rintro e w8 ⟨rfl, b8⟩
      replace bel9 := bstep bel9 b8
      replace S9 := S9.below b8
      clear cs b8
      have cA := at_any S9
      clear S9
      go_wp2_with fail
      refine cA.mono ?_
      rintro e w9 ⟨rfl, hw⟩
      rw [hw]
      clear cA hw
      have hbb : ((b.size : Int) == (b.size : Int)) = true := by simp
      go_wp2_with fail
      go_ret
      exact ⟨rfl, bel9⟩
end Go.Proofs.Ytdeeeechdlcdbaa.SpW
