/- The walk of DenseWalks. -/
import Derived.Test.YtdeeeechdlcdbaaDnV
import Derived.Test.YtdeeeechdlcdbaaSeB
import Derived.Test.YtdeeeechdlcdbaaSeM
import Derived.Test.YtdeeeechdlcdbaaRegQ
import Derived.Test.YtdeeeechdlcdbaaPhW
import Derived.IntWalk
import Derived.Deep.QuietTactic
import Derived.BigQuiet
set_option linter.unusedVariables false
set_option linter.unusedSimpArgs false
namespace Go.Proofs.Ytdeeeechdlcdbaa.DwW
open Go Go.RowKit Go.Proofs Go.Proofs.Ytdeeeechdlcdbaa Go.Proofs.Ytdeeeechdlcdbaa.Base Go.Proofs.Ytdeeeechdlcdbaa.DiA Go.Proofs.Ytdeeeechdlcdbaa.DiB Go.Proofs.Ytdeeeechdlcdbaa.DiC Go.Proofs.Ytdeeeechdlcdbaa.TrP Go.Proofs.Ytdeeeechdlcdbaa.TrM Go.Proofs.Ytdeeeechdlcdbaa.TrA Go.Proofs.Ytdeeeechdlcdbaa.TrD Go.Proofs.Ytdeeeechdlcdbaa.TrE Go.Proofs.Ytdeeeechdlcdbaa.TtP Go.Proofs.Ytdeeeechdlcdbaa.TcP Go.Proofs.Ytdeeeechdlcdbaa.TwA Go.Proofs.Ytdeeeechdlcdbaa.LkA Go.Proofs.Ytdeeeechdlcdbaa.LkP Go.Proofs.Ytdeeeechdlcdbaa.LkM Go.Proofs.Ytdeeeechdlcdbaa.LkO Go.Proofs.Ytdeeeechdlcdbaa.LkQ Go.Proofs.Ytdeeeechdlcdbaa.LkN Go.Proofs.Ytdeeeechdlcdbaa.LkS Go.Proofs.Ytdeeeechdlcdbaa.LkX Go.Proofs.Ytdeeeechdlcdbaa.PhP Go.Proofs.Ytdeeeechdlcdbaa.PhW Go.Proofs.Ytdeeeechdlcdbaa.ScP Go.Proofs.Ytdeeeechdlcdbaa.ScS Go.Proofs.Ytdeeeechdlcdbaa.ScH Go.Proofs.Ytdeeeechdlcdbaa.ScF Go.Proofs.Ytdeeeechdlcdbaa.ScE Go.Proofs.Ytdeeeechdlcdbaa.ScX Go.Proofs.Ytdeeeechdlcdbaa.RwA Go.Proofs.Ytdeeeechdlcdbaa.DnP Go.Proofs.Ytdeeeechdlcdbaa.DnM Go.Proofs.Ytdeeeechdlcdbaa.DnS Go.Maps Go.Lib
set_option maxHeartbeats 400000 in
theorem law_few (A : Option Addr) (n cap : Nat) (b : ByteArray) (w : World) (hf : Calls Try.prog 23 #[.slice A n cap] w fun e w' => e = .returned (.bool false) ∧ w' = w) :
    Calls Try.prog 21 #[.slice A n cap, .string b] w fun e w' => e = .returned (.bool true) ∧ Below w.heap.size w w' := by
  go_enter Try.func21, Try.ntmps21
  go_wp2_with fail
  refine hf.mono ?_
  rintro e w1 ⟨rfl, hw⟩
  rw [hw]
  clear hf hw
  go_wp2_with fail
  refine (DnV.alive_call _).mono ?_
  rintro e w2 ⟨rfl, b2⟩
  go_wp2_with fail
  go_ret
  exact ⟨rfl, b2⟩
set_option maxHeartbeats 400000 in
theorem law_out0 (A : Option Addr) (n cap : Nat) (b : ByteArray) (w : World) (hf : Calls Try.prog 23 #[.slice A n cap] w fun e w' => e = .returned (.bool true) ∧ w' = w) (hd0 : decide ((n : Int) > 30) = true) :
    Calls Try.prog 21 #[.slice A n cap, .string b] w fun e w' => e = .returned (.bool true) ∧ Below w.heap.size w w' := by
  go_enter Try.func21, Try.ntmps21
  go_wp2_with fail
  refine hf.mono ?_
  rintro e w1 ⟨rfl, hw⟩
  rw [hw]
  clear hf hw
  go_wp2_with fail
  refine (DnV.alive_call _).mono ?_
  rintro e w2 ⟨rfl, b2⟩
  go_wp2_with fail
  go_ret
  exact ⟨rfl, b2⟩
set_option maxHeartbeats 400000 in
theorem law_out1 (A : Option Addr) (n cap : Nat) (b : ByteArray) (w : World) (hf : Calls Try.prog 23 #[.slice A n cap] w fun e w' => e = .returned (.bool true) ∧ w' = w) (hd0 : decide ((n : Int) > 30) = false) (hd1 : decide ((b.size : Int) > 200) = true) :
    Calls Try.prog 21 #[.slice A n cap, .string b] w fun e w' => e = .returned (.bool true) ∧ Below w.heap.size w w' := by
  go_enter Try.func21, Try.ntmps21
  go_wp2_with fail
  refine hf.mono ?_
  rintro e w1 ⟨rfl, hw⟩
  rw [hw]
  clear hf hw
  go_wp2_with fail
  refine (DnV.alive_call _).mono ?_
  rintro e w2 ⟨rfl, b2⟩
  go_wp2_with fail
  go_ret
  exact ⟨rfl, b2⟩
set_option maxRecDepth 20000 in
set_option maxHeartbeats 8000000 in
theorem law_in (A : Option Addr) (n cap : Nat) (zs : List ByteArray) (b : ByteArray) (w : World) (hf : Calls Try.prog 23 #[.slice A n cap] w fun e w' => e = .returned (.bool true) ∧ w' = w)
    (hn : n = zs.length) (hat : StrsAt w A zs) (hn1 : n ≤ 110) (htot : total zs ≤ 1300) (hd0 : decide ((n : Int) > 30) = false) (hd1 : decide ((b.size : Int) > 200) = false) :
    Calls Try.prog 21 #[.slice A n cap, .string b] w fun e w' => e = .returned (.bool true) ∧ Below w.heap.size w w' := by
  have hnh : Hid (n = zs.length) := hn
  clear hn
  go_enter Try.func21, Try.ntmps21
  go_wp2_with fail
  refine hf.mono ?_
  rintro e w1 ⟨rfl, hw⟩
  rw [hw]
  clear hf hw w1
  go_wp2_with fail
  refine (DnV.alive_call _).mono ?_
  rintro e w1 ⟨rfl, bel⟩
  have hat1 := hat.below bel
  go_wp2_with fail
  refine (phrases_any A n cap zs w1 hnh.out hat1 (by omega)).mono ?_
  rintro e w2 ⟨hph, hw⟩
  rw [hw]
  clear hw w2
  rcases hph with ⟨hok, rfl⟩ | ⟨hok, c0, k0, hc0, rfl⟩
  rotate_left
  · have hcd : (c0 != 0) = true := by simp [hc0]
    clear hat hat1 hok
    go_wp2_with fail
    go_ret
    exact ⟨rfl, bel⟩
  go_wp2_with fail
  refine (lmake_any A n cap zs w1 hnh.out hat1 (by omega)).mono ?_
  rintro e w2 ⟨b2, ⟨hno, _⟩ | ⟨_, p, B, px, m, N, F, O, L, rfl, hl⟩⟩
  · rw [hok] at hno; cases hno
  replace bel := bstep bel b2
  have hat2 := hat1.below b2
  clear hat1 b2 hat
  have hT := tr_build hok
  have hok2 := hl.ok
  have heq := hl.eq
  have hlen := hl.len
  have hla := hl.at_
  clear hl
  obtain ⟨X, hX⟩ : ∃ X, build zs zs.length = X := ⟨_, rfl⟩
  rw [hX] at hT hok2 heq
  have hXb : Hid (build zs zs.length = X) := hX
  have hTh : Hid (Tr zs X) := hT
  have hOk : Hid (LkOk X F O L) := hok2
  have hNX : Hid (N.map (·.p) = X) := heq
  obtain ⟨ln, hln⟩ : ∃ ln, N.length = ln := ⟨_, rfl⟩
  have hln1 : ln ≤ 1301 := by omega
  have hlnh : Hid (N.length = ln) := hln
  have hXl : Hid (X.length = ln) := by show _ = _; rw [← hNX.out, List.length_map, hln]
  have hokh : Hid (okD zs = true) := hok
  clear hX hT hok2 heq hln hlen hok
  have hlx : Hid (Lx w2 p zs X) := Lib.hid ⟨⟨B, px, m, N, F, O, L, hla, hNX.out, hOk.out, by have := hlnh.out; omega⟩, hTh.out⟩
  clear hla
  have cN := DnW.new_any hlx.out (Below.refl _ w2)
  have hb200 : b.size ≤ 200 := by have := of_decide_eq_false hd1; omega
  have hwsz := bel.size
  clear hd0 hd1
  go_wp2_with fail
  refine cN.mono ?_
  rintro e w3 ⟨b3, t, g, B3, R, rfl, _, hDn, hTab⟩
  replace bel := bstep bel b3
  have hRl : R.length = ln := hTab.1.trans hXl.out
  have hRlh : Hid (R.length = ln) := hRl
  have hTabh : Hid (TabOk X R) := hTab
  have hDnh : Hid (DnAt B3 w3 t p g R) := hDn
  have hlx3 : Hid (Lx w3 p zs X) := by
    obtain ⟨lk, tr⟩ := hlx.out
    obtain ⟨B', px', m', N', F', O', L', k1, k2, k3, k4⟩ := lk
    exact ⟨⟨B', px', m', N', F', O', L', k1.below b3, k2, k3, k4⟩, tr⟩
  have hw23 : w2.heap.size ≤ w3.heap.size := b3.size
  have cS := ScX.new_any hlx3.out (Below.refl _ w3)
  clear cN b3 hDn hTab hat2
  go_wp2_with fail
  refine cS.mono ?_
  rintro e w4 ⟨q, rfl, hq, S, b4⟩
  have hwq : w.heap.size ≤ q := by have := bel.size; omega
  have hX0 : 0 < X.length := hTh.out.good.pos
  have hLg0 : Hid (Lg X (b.data.toList.take 0) (b.data.toList.take 0).length 0) := by rw [List.take_zero]; exact lg_none hTh.out.good _
  have S0 : Hid (Sc w3 p q X (b.data.toList.take 0) 0 w4) := by rw [List.take_zero]; exact S
  have belh : Hid (Below w.heap.size w w3) := bel
  clear cS S b4 bel
  go_wp2_with fail
  go_loopw [10, 11] (fun s10 s11 wr => ∃ nd i : Nat, i ≤ b.size ∧ s10 = .int .i64 (nd : Int) ∧ s11 = .int .i64 (i : Int) ∧ Hid (Lg X (b.data.toList.take i) (b.data.toList.take i).length nd) ∧ Sc w3 p q X (b.data.toList.take i) i wr) (fun _ s11 _ => b.size - (intOf s11).toNat)
  case atStart => exact ⟨0, 0, Nat.zero_le _, rfl, rfl, hLg0, S0.out⟩
  case round =>
    clear hLg0 S0
    obtain ⟨nd, i, hi, rfl, rfl, hLg, S⟩ := hrel
    have belr : Below w.heap.size w wr := belh.out.trans (S.bel.mono belh.out.size)
    have hDnr := hDnh.out.below S.bel
    by_cases hlt : i < b.size
    · have hid : decide ((i : Int) < (b.size : Int)) = true := decide_eq_true (by omega)
      have hii : (i : Int) < (b.size : Int) := by omega
      have hcr := TrP.byteOf_range b i
      have hbj := byte_get b i hlt
      have htk := take_byte hlt
      have hex : (b.extract i (i + 1)).data.toList = [byte (TrP.byteOf b i)] := by
        rw [ext_list, show i + 1 - i = 1 by omega]
        have h1 := take_byte hlt
        rw [List.take_add] at h1
        exact List.append_cancel_left h1
      have hsz1 : (b.extract i (i + 1)).size = 1 := by rw [ByteArray.size_extract]; omega
      obtain ⟨c, hc⟩ : ∃ c : Nat, TrP.byteOf b i = (c : Int) := ⟨(TrP.byteOf b i).toNat, by omega⟩
      rw [hc] at hcr hbj htk hex
      have hndX := hLg.out.lt
      have hndn : nd < R.length := by rw [hRlh.out, ← hXl.out]; exact hndX
      have cG := go_in hDnr (k := nd) (c := c) hndn (by omega)
      have hgo := (hTabh.out.2 nd hndX).goes c (by omega)
      generalize (R.getD nd []).getD c 0 = r at cG hgo
      have hrX : r < X.length := hgo.lt
      have hrl : r < ln := by rw [← hXl.out]; exact hrX
      have hLg2 : Hid (Lg X (b.data.toList.take (i + 1)) (b.data.toList.take (i + 1)).length r) := by
        rw [htk, List.length_append, List.length_singleton]
        exact lg_feed hTh.out.good hTh.out.fine hLg.out hgo
      have hgoh : Hid (Goes X nd (c : Int) r) := hgo
      have cF := feed_call hlx3.out S (b.extract i (i + 1)) (by omega) (by omega)
      rw [hex, ← htk, hsz1] at cF
      have hcrh : Hid (0 ≤ (c : Int) ∧ (c : Int) ≤ 255) := hcr
      have z1 : IntKind.i64.wrap ((i : Int) + 1) = (i : Int) + 1 := by rw [IntKind.wrap_i64]; omega
      have hi1 : i + 1 ≤ b.size := hlt
      have hi1z : (i : Int) + 1 ≤ (b.size : Int) := by omega
      have hndXh : Hid (nd < X.length) := hndX
      clear hex htk hsz1 hc hcr hgo hLg hndn hrX hDnr hndX
      go_wp2_with fail
      refine cG.mono ?_
      rintro e w5 ⟨rfl, hw⟩
      rw [hw]
      clear cG hw w5
      go_wp2_with fail
      refine cF.mono ?_
      rintro e w5 ⟨v5, rfl, _, S5, t5⟩
      have bel5 : Below w.heap.size w w5 := belh.out.trans (S5.bel.mono belh.out.size)
      clear cF t5 S
      obtain ⟨lk, _⟩ := hlx3.out
      obtain ⟨B', px', m', N', F', O', L', k1, k2, k3, k4⟩ := lk
      have cP := step_in (k1.below S5.bel) k2 k3 hTh.out k4 hndXh.out hcrh.out
      clear k1 k2 k3 k4
      go_wp2_with fail
      refine cP.mono ?_
      rintro e w6 ⟨⟨r2, rfl, hr2⟩, b6⟩
      have hr2e : r2 = r := Lg.one hTh.out.fine hr2 hgoh.out
      subst hr2e
      have S6 := S5.below b6
      have e1 : ((r2 : Int) != (r2 : Int)) = false := by simp
      have cD := node_any S6
      have cl := len_call (hDnh.out.below S6.bel)
      rw [hRlh.out] at cl
      have e2 : decide ((r2 : Int) ≥ (ln : Int)) = false := decide_eq_false (by omega)
      have e2' : decide (ln ≤ r2) = false := decide_eq_false (by omega)
      have e3 : decide ((r2 : Int) < 0) = false := decide_eq_false (by omega)
      clear cP hr2 b6 S5 hrl
      go_wp2_with fail
      refine cD.mono ?_
      rintro e w7 ⟨⟨r3, rfl, hr3⟩, hw⟩
      rw [hw]
      have hr3e : r3 = r2 := Lg.one hTh.out.fine hr3 hLg2.out
      rw [hr3e]
      clear cD hw hr3 hr3e w7
      go_wp2_with fail
      refine cl.mono ?_
      rintro e w7 ⟨rfl, hw⟩
      rw [hw]
      clear cl hw w7
      go_wp2_with fail
      go_roundw
      case rel => exact ⟨r2, i + 1, hi1, rfl, by go_num, hLg2, S6⟩
      case measure => simp [intOf]; omega
    · have hid : decide ((i : Int) < (b.size : Int)) = false := decide_eq_false (by omega)
      have hii : ¬ (i : Int) < (b.size : Int) := by omega
      have brw := S.bel
      have cH := hits_call hDnr hlx3.out brw b (by omega)
      clear S hLg hDnr
      go_wp2_with fail
      refine cH.mono ?_
      rintro e w5 ⟨v5, rfl, h5, b5⟩
      have brw5 := brw.trans (b5.mono brw.size)
      have cA := all_any hlx3.out brw5 b (by omega)
      obtain ⟨nH, hnH⟩ : ∃ nH, (feedU zs [] 0 b.data.toList b.size).length = nH := ⟨_, rfl⟩
      have hlen := feedU_len hTh.out [] 0 b.data.toList b.size
      obtain ⟨V5, c5, rfl, hV5⟩ := row_hits h5 rfl
      generalize feedU zs [] 0 b.data.toList b.size = H at cA hnH hlen hV5
      rw [hnH] at cA hlen ⊢
      have hnHh : Hid (H.length = nH) := hnH
      have bel5 := bstep belr b5
      have hV5h : Hid (HAt w5 V5 H) := hV5
      clear cH h5 b5 brw hV5 hnH belr
      go_wp2_with fail
      refine cA.mono ?_
      rintro e w6 ⟨v6, rfl, h6, b6⟩
      obtain ⟨V6, c6, rfl, hV6⟩ := row_hits h6 hnHh.out.symm
      have cE := same_hits V5 V6 nH nH c5 c6 H H w6 hnHh.out.symm hnHh.out.symm (hV5h.out.below b6) hV6 (by omega) (by omega)
      rw [show decide (H = H) = true from decide_eq_true rfl] at cE
      have bel6 := bstep bel5 b6
      clear cA h6 b6 hV6 bel5
      go_wp2_with fail
      refine cE.mono ?_
      rintro e w7 ⟨rfl, b7⟩
      have belF := bstep bel6 b7
      clear cE b7 bel6
      go_wp2_with fail
      go_ret
      exact ⟨rfl, belF⟩
end Go.Proofs.Ytdeeeechdlcdbaa.DwW
