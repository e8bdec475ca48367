/- The walks of a scanner's step, and of the reference's Longest. -/
import Derived.Test.YtdeeeechdlcdbaaGreatLkX
import Derived.Test.YtdeeeechdlcdbaaGreatPhW
import Derived.IntWalk
set_option linter.unusedVariables false
set_option linter.unusedSimpArgs false
namespace Go.Proofs.YtdeeeechdlcdbaaGreat.ScS
open Go Go.RowKit Go.Proofs Go.Proofs.YtdeeeechdlcdbaaGreat Go.Proofs.YtdeeeechdlcdbaaGreat.Base Go.Proofs.YtdeeeechdlcdbaaGreat.DiA Go.Proofs.YtdeeeechdlcdbaaGreat.DiB Go.Proofs.YtdeeeechdlcdbaaGreat.DiC Go.Proofs.YtdeeeechdlcdbaaGreat.TrP Go.Proofs.YtdeeeechdlcdbaaGreat.TrM Go.Proofs.YtdeeeechdlcdbaaGreat.TrA Go.Proofs.YtdeeeechdlcdbaaGreat.TrD Go.Proofs.YtdeeeechdlcdbaaGreat.TrE Go.Proofs.YtdeeeechdlcdbaaGreat.TtP Go.Proofs.YtdeeeechdlcdbaaGreat.TcP Go.Proofs.YtdeeeechdlcdbaaGreat.TwA Go.Proofs.YtdeeeechdlcdbaaGreat.LkA Go.Proofs.YtdeeeechdlcdbaaGreat.LkP Go.Proofs.YtdeeeechdlcdbaaGreat.LkM Go.Proofs.YtdeeeechdlcdbaaGreat.LkO Go.Proofs.YtdeeeechdlcdbaaGreat.LkQ Go.Proofs.YtdeeeechdlcdbaaGreat.LkN Go.Proofs.YtdeeeechdlcdbaaGreat.LkS Go.Proofs.YtdeeeechdlcdbaaGreat.LkX Go.Proofs.YtdeeeechdlcdbaaGreat.PhP Go.Proofs.YtdeeeechdlcdbaaGreat.PhW Go.Proofs.YtdeeeechdlcdbaaGreat.ScP
section
variable {B p px m : Nat} {N : List Nd} {F O L : List Nat} {w : World} {X : List Pn} {zs : List ByteArray}
set_option maxRecDepth 20000 in
set_option maxHeartbeats 2000000 in
theorem step_in (h : LkAt B w p px N m F O L) (hX : N.map (·.p) = X) (hok : LkOk X F O L) (hT : Tr zs X) (hbig : N.length ≤ 1000000) {k : Nat} (hk : k < X.length) {c : Int} (hc : 0 ≤ c ∧ c ≤ 255) :
    Calls Tryz.prog 73 #[.pointer (some ⟨p, 0, none⟩), .int .i64 (k : Int), .int .u8 c] w fun e w' => (∃ r : Nat, e = .returned (.int .i64 (r : Int)) ∧ Lg X (tx X k ++ [byte c]) ((tx X k).length + 1) r) ∧ Below w.heap.size w w' := by
  have hXh : Hid (N.map (·.p) = X) := hX
  have hNl : N.length = X.length := by rw [← hX, List.length_map]
  have hNh : Hid (N.length = X.length) := hNl
  have hokh : Hid (LkOk X F O L) := hok
  have hTh : Hid (Tr zs X) := hT
  have hch : Hid (0 ≤ c ∧ c ≤ 255) := hc
  have hkh : Hid (k < X.length) := hk
  have hbh : Hid (N.length ≤ 1000000) := hbig
  have cT := trie_any h
  have cl := len_any h.trie
  rw [hNl] at cl
  obtain ⟨ln, hln⟩ : ∃ ln, X.length = ln := ⟨_, rfl⟩
  rw [hln] at cl hk
  have hlnh : Hid (X.length = ln) := hln
  have hd1 : decide ((k : Int) < 0) = false := decide_eq_false (by omega)
  have hd2 : ¬ ln ≤ k := by omega
  clear hX hNl hok hT hc hbig hln
  go_enter Tryz.func73, Tryz.ntmps73
  go_wp2_with fail
  refine cT.mono ?_
  rintro e w1 ⟨rfl, hw⟩
  rw [hw]
  clear cT hw w1
  go_wp2_with fail
  refine cl.mono ?_
  rintro e w1 ⟨rfl, hw⟩
  rw [hw]
  clear cl hw w1
  go_wp2_with fail
  go_loopw [1] (fun s wr => ∃ a : Nat, s = .int .i64 (a : Int) ∧ Hid (a < X.length ∧ ∀ r, Lg X (tx X a ++ [byte c]) ((tx X a).length + 1) r → Lg X (tx X k ++ [byte c]) ((tx X k).length + 1) r) ∧ Below w.heap.size w wr) (fun s _ => (tx X (intOf s).toNat).length)
  case atStart => exact ⟨k, rfl, Lib.hid ⟨hkh.out, fun r hr => hr⟩, Below.refl _ _⟩
  case round =>
    obtain ⟨a, rfl, ha, bel⟩ := hrel
    have hr := h.below bel
    cases hs : (X.getD a noPn).sons c with
    | some x =>
      have cN := next_some hr.trie hbh.out hXh.out ha.out.1 hch.out hs
      have hx : Hid (Lg X (tx X k ++ [byte c]) ((tx X k).length + 1) x) := ha.out.2 x (lg_son hTh.out.good ha.out.1 hs).2.2
      clear hs ha hr
      go_wp2_with fail
      refine cN.mono ?_
      rintro e w5 ⟨rfl, b5⟩
      have b6 := bstep bel b5
      clear cN
      go_wp2_with fail
      go_ret
      exact ⟨⟨x, rfl, hx.out⟩, b6⟩
    | none =>
      have cN := next_none hr.trie hbh.out hXh.out ha.out.1 hch.out hs
      by_cases ha0 : a = 0
      · have hz : ((a : Int) == 0) = true := by simp [ha0]
        have hx : Hid (Lg X (tx X k ++ [byte c]) ((tx X k).length + 1) 0) := ha.out.2 0 (by
          subst ha0
          rw [tx0 hTh.out.good]
          exact lg_root hTh.out.good hTh.out.fine hch.out hs)
        clear hs ha hr ha0
        go_wp2_with fail
        refine cN.mono ?_
        rintro e w5 ⟨rfl, b5⟩
        have b6 := bstep bel b5
        clear cN
        go_wp2_with fail
        go_ret
        exact ⟨⟨0, rfl, hx.out⟩, b6⟩
      · have hz : ((a : Int) == 0) = false := by simp; omega
        have hlg := hokh.out.lg a ha.out.1
        have hpos := (tx_pos hTh.out.good hTh.out.fine ha.out.1).1 (by omega)
        have hle := hlg.le
        have cf := fun (W : World) (hW : Below w.heap.size w W) => fail_in (h.below hW) (k := a) (by rw [hNh.out]; exact ha.out.1)
        generalize F.getD a 0 = f at hlg hle cf
        have ha2 : Hid (f < X.length ∧ ∀ r, Lg X (tx X f ++ [byte c]) ((tx X f).length + 1) r → Lg X (tx X k ++ [byte c]) ((tx X k).length + 1) r) :=
          ⟨hlg.lt, fun r hr => ha.out.2 r (lg_step hTh.out.good hTh.out.fine ha.out.1 hch.out hs hlg hr)⟩
        have hmes : Hid ((tx X f).length < (tx X a).length) := by show _ < _; omega
        clear hs ha hr hlg hpos hle ha0
        go_wp2_with fail
        refine cN.mono ?_
        rintro e w5 ⟨rfl, b5⟩
        have b6 := bstep bel b5
        have cf5 := cf w5 b6
        clear cN cf bel b5
        go_wp2_with fail
        refine cf5.mono ?_
        rintro e w6 ⟨rfl, hw⟩
        rw [hw]
        clear cf5 hw w6
        go_wp2_with fail
        go_roundw
        case rel => exact ⟨f, rfl, ha2, b6⟩
        case measure => simp [intOf]; exact hmes.out
set_option maxHeartbeats 1000000 in
theorem step_out (h : LkAt B w p px N m F O L) {k : Int} (hk : k < 0 ∨ (N.length : Int) ≤ k) (c : Int) : Calls Tryz.prog 73 #[.pointer (some ⟨p, 0, none⟩), .int .i64 k, .int .u8 c] w fun e w' => e = .returned (.int .i64 0) ∧ w' = w := by
  have cT := trie_any h
  have cl := len_any h.trie
  clear h
  by_cases h0 : k < 0
  · have hd : decide (k < 0) = true := decide_eq_true h0
    clear hk h0
    go_enter Tryz.func73, Tryz.ntmps73
    go_wp2_with fail
    refine cT.mono ?_
    rintro e w1 ⟨rfl, hw⟩
    rw [hw]
    clear cT cl hw w1
    go_wp2_with fail
    go_ret
    exact ⟨rfl, rfl⟩
  · have hd : decide (k < 0) = false := decide_eq_false h0
    have hd2 : decide (k ≥ (N.length : Int)) = true := decide_eq_true (by omega)
    clear hk h0
    go_enter Tryz.func73, Tryz.ntmps73
    go_wp2_with fail
    refine cT.mono ?_
    rintro e w1 ⟨rfl, hw⟩
    rw [hw]
    clear cT hw w1
    go_wp2_with fail
    refine cl.mono ?_
    rintro e w1 ⟨rfl, hw⟩
    rw [hw]
    clear cl hw w1
    go_wp2_with fail
    go_ret
    exact ⟨rfl, rfl⟩
end
set_option maxHeartbeats 1000000 in
theorem len_nil (w : World) : Calls Tryz.prog 76 #[.pointer none] w fun e w' => e = .returned (.int .i64 0) ∧ w' = w := by
  go_enter Tryz.func76, Tryz.ntmps76
  go_wp2_with fail
  go_ret
  exact ⟨rfl, rfl⟩
set_option maxHeartbeats 1000000 in
theorem step_nil (k c : Int) (w : World) : Calls Tryz.prog 73 #[.pointer none, .int .i64 k, .int .u8 c] w fun e w' => e = .returned (.int .i64 0) ∧ w' = w := by
  have cT := trie_nil w
  have cl := len_nil w
  by_cases h0 : k < 0
  · have hd : decide (k < 0) = true := decide_eq_true h0
    clear h0
    go_enter Tryz.func73, Tryz.ntmps73
    go_wp2_with fail
    refine cT.mono ?_
    rintro e w1 ⟨rfl, hw⟩
    rw [hw]
    clear cT cl hw w1
    go_wp2_with fail
    go_ret
    exact ⟨rfl, rfl⟩
  · have hd : decide (k < 0) = false := decide_eq_false h0
    have hd2 : decide (k ≥ 0) = true := decide_eq_true (by omega)
    clear h0
    go_enter Tryz.func73, Tryz.ntmps73
    go_wp2_with fail
    refine cT.mono ?_
    rintro e w1 ⟨rfl, hw⟩
    rw [hw]
    clear cT hw w1
    go_wp2_with fail
    refine cl.mono ?_
    rintro e w1 ⟨rfl, hw⟩
    rw [hw]
    clear cl hw w1
    go_wp2_with fail
    go_ret
    exact ⟨rfl, rfl⟩
theorem lg_found {X : List Pn} {s : List UInt8} {m k r : Nat} (hk : s.length - m ≤ k) (hkl : k ≤ s.length) (hno : ∀ j, s.length - m ≤ j → j < k → findL (texts X) (s.drop j) = none) (hr : findL (texts X) (s.drop k) = some r) : Lg X s m r := by
  obtain ⟨h1, h2⟩ := findL_some hr
  rw [texts_length] at h1
  rw [texts_getD h1] at h2
  have h3 : tx X r = s.drop k := h2
  refine ⟨h1, by rw [h3]; exact List.drop_suffix _ _, by rw [h3, List.length_drop]; omega, fun y hy h4 h5 => ?_⟩
  rw [h3, List.length_drop]
  refine Nat.le_of_not_lt fun hlt => ?_
  have hyl := h4.length_le
  have h6 := hno (s.length - (tx X y).length) (by omega) (by omega)
  have h7 : s.drop (s.length - (tx X y).length) = tx X y := (List.suffix_iff_eq_drop.1 h4).symm
  rw [h7] at h6
  refine findL_none h6 y (by rw [texts_length]; exact hy) ?_
  rw [texts_getD hy]; rfl
set_option maxRecDepth 20000 in
set_option maxHeartbeats 2000000 in
theorem longest_any (A : Option Addr) (n cap : Nat) {X : List Pn} {zs : List ByteArray} {id : Nat} (hG : TrP.Good zs id X) (s : ByteArray) (mo : Nat) (w : World) (hn : n = (texts X).length) (hat : StrsAt w A (texts X)) (hbig : n ≤ 100000) (hs : s.size ≤ 1000000) (hmo : mo ≤ 1000000) :
    Calls Tryz.prog 12 #[.slice A n cap, .string s, .int .i64 (mo : Int)] w fun e w' => (∃ r : Nat, e = .returned (.int .i64 (r : Int)) ∧ Lg X s.data.toList mo r) ∧ w' = w := by
  have hGh : Hid (TrP.Good zs id X) := hG
  have hnh : Hid (n = (texts X).length) := hn
  have z0 : IntKind.i64.wrap ((s.size : Int) - (mo : Int)) = (s.size : Int) - (mo : Int) := by rw [IntKind.wrap_i64]; omega
  have zm : max ((s.size : Int) - (mo : Int)) 0 = ((s.size - mo : Nat) : Int) := by omega
  obtain ⟨k0, hk0⟩ : ∃ k0, s.size - mo = k0 := ⟨_, rfl⟩
  have hk0h : Hid (s.data.toList.length - mo = k0) := by show _ = _; rw [← size_list]; exact hk0
  rw [hk0] at zm
  have hk0l : k0 ≤ s.size := by omega
  clear hG hn hk0
  go_enter Tryz.func12, Tryz.ntmps12
  go_wp2_with fail
  go_loop [7] (fun v => ∃ k : Nat, k ≤ s.size ∧ v = .int .i64 (k : Int) ∧ Hid (k0 ≤ k ∧ ∀ j, k0 ≤ j → j < k → findL (texts X) (s.data.toList.drop j) = none)) (fun v => s.size - (intOf v).toNat)
  case atStart => exact ⟨k0, hk0l, rfl, Lib.hid ⟨Nat.le_refl _, fun j h1 h2 => by omega⟩⟩
  case round =>
    obtain ⟨k, hk, rfl, hno⟩ := hrel
    have hkd : decide ((k : Int) ≤ (s.size : Int)) = true := decide_eq_true (by omega)
    have hkz : (k : Int) ≤ (s.size : Int) := by omega
    have hex : (s.extract k s.size).data.toList = s.data.toList.drop k := by
      rw [ext_list, List.take_of_length_le (by rw [List.length_drop, ← size_list]; omega)]
    have hcF := find_ex A n cap (texts X) (s.extract k s.size) w hnh.out hat hbig
    rw [hex] at hcF
    have hz1 : IntKind.i64.wrap ((k : Int) + 1) = (k : Int) + 1 := by rw [IntKind.wrap_i64]; omega
    cases hf : findL (texts X) (s.data.toList.drop k) with
    | some r =>
      have hr : findI (texts X) (s.data.toList.drop k) = (r : Int) := by unfold findI; rw [hf]
      rw [hr] at hcF
      have hrd : decide ((r : Int) ≥ 0) = true := decide_eq_true (by omega)
      have hlg : Hid (Lg X s.data.toList mo r) := by
        have h := hno.out
        rw [← hk0h.out] at h
        exact lg_found h.1 (by rw [← size_list]; exact hk) h.2 hf
      clear hex hf hr hno
      go_wp2_with fail
      refine hcF.mono ?_
      rintro e w1 ⟨rfl, hw⟩
      rw [hw]
      clear hcF hw w1
      go_wp2_with fail
      go_ret
      exact ⟨⟨r, rfl, hlg.out⟩, rfl⟩
    | none =>
      have hr : findI (texts X) (s.data.toList.drop k) = -1 := by unfold findI; rw [hf]
      rw [hr] at hcF
      have hks : k < s.size := by
        refine Nat.lt_of_le_of_ne hk fun e => ?_
        have h0 := findL_none hf 0 (by rw [texts_length]; exact hGh.out.pos)
        rw [texts_getD hGh.out.pos, hGh.out.root] at h0
        apply h0
        rw [e, List.drop_of_length_le (by rw [← size_list]; exact Nat.le_refl _)]
      have hno2 : Hid (k0 ≤ k + 1 ∧ ∀ j, k0 ≤ j → j < k + 1 → findL (texts X) (s.data.toList.drop j) = none) := by
        refine ⟨by have := hno.out.1; omega, fun j h1 h2 => ?_⟩
        rcases Nat.lt_or_ge j k with h3 | h3
        · exact hno.out.2 j h1 h3
        · obtain rfl : j = k := by omega
          exact hf
      clear hex hf hr hno
      go_wp2_with fail
      refine hcF.mono ?_
      rintro e w1 ⟨rfl, hw⟩
      rw [hw]
      clear hcF hw w1
      go_wp2_with fail
      go_round
      case rel => exact ⟨k + 1, by omega, by go_num, hno2⟩
      case measure => simp [intOf]; omega
end Go.Proofs.YtdeeeechdlcdbaaGreat.ScS
