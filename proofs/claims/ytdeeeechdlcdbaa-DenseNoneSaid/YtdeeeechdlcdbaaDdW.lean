/- The walk of DenseNone. -/
import Derived.Test.YtdeeeechdlcdbaaDnV
import Derived.Test.YtdeeeechdlcdbaaRegQ
import Derived.Test.YtdeeeechdlcdbaaPhW
import Derived.IntWalk
import Derived.Deep.QuietTactic
import Derived.BigQuiet
set_option linter.unusedVariables false
set_option linter.unusedSimpArgs false
namespace Go.Proofs.Ytdeeeechdlcdbaa.DdW
open Go Go.RowKit Go.Proofs Go.Proofs.Ytdeeeechdlcdbaa Go.Proofs.Ytdeeeechdlcdbaa.Base Go.Proofs.Ytdeeeechdlcdbaa.DiA Go.Proofs.Ytdeeeechdlcdbaa.DiB Go.Proofs.Ytdeeeechdlcdbaa.DiC Go.Proofs.Ytdeeeechdlcdbaa.TrP Go.Proofs.Ytdeeeechdlcdbaa.TrM Go.Proofs.Ytdeeeechdlcdbaa.TrA Go.Proofs.Ytdeeeechdlcdbaa.TrD Go.Proofs.Ytdeeeechdlcdbaa.TrE Go.Proofs.Ytdeeeechdlcdbaa.TtP Go.Proofs.Ytdeeeechdlcdbaa.TcP Go.Proofs.Ytdeeeechdlcdbaa.TwA Go.Proofs.Ytdeeeechdlcdbaa.LkA Go.Proofs.Ytdeeeechdlcdbaa.LkP Go.Proofs.Ytdeeeechdlcdbaa.LkM Go.Proofs.Ytdeeeechdlcdbaa.LkO Go.Proofs.Ytdeeeechdlcdbaa.LkQ Go.Proofs.Ytdeeeechdlcdbaa.LkN Go.Proofs.Ytdeeeechdlcdbaa.LkS Go.Proofs.Ytdeeeechdlcdbaa.LkX Go.Proofs.Ytdeeeechdlcdbaa.PhP Go.Proofs.Ytdeeeechdlcdbaa.PhW Go.Proofs.Ytdeeeechdlcdbaa.ScP Go.Proofs.Ytdeeeechdlcdbaa.ScS Go.Proofs.Ytdeeeechdlcdbaa.ScH Go.Proofs.Ytdeeeechdlcdbaa.ScF Go.Proofs.Ytdeeeechdlcdbaa.ScE Go.Proofs.Ytdeeeechdlcdbaa.ScX Go.Proofs.Ytdeeeechdlcdbaa.RwA Go.Proofs.Ytdeeeechdlcdbaa.DnP Go.Proofs.Ytdeeeechdlcdbaa.DnM Go.Proofs.Ytdeeeechdlcdbaa.DnS Go.Lib
theorem byte_wf {c : Int} (h : (Lit.int .u8 c).wf = true) : 0 ≤ c ∧ c ≤ 255 := by
  simp [Lit.wf, IntKind.min, IntKind.max, IntKind.signed, IntKind.bits] at h
  omega
set_option maxHeartbeats 400000 in
theorem law_few (A : Option Addr) (n cap : Nat) (k0 c0 : Int) (w : World) (hf : Calls Try.prog 23 #[.slice A n cap] w fun e w' => e = .returned (.bool false) ∧ w' = w) :
    Calls Try.prog 14 #[.slice A n cap, .int .i64 k0, .int .u8 c0] w fun e w' => e = .returned (.bool true) ∧ Below w.heap.size w w' := by
  go_enter Try.func14, Try.ntmps14
  go_wp2_with fail
  refine hf.mono ?_
  rintro e w1 ⟨rfl, hw⟩
  rw [hw]
  clear hf hw
  go_wp2_with fail
  refine (DnV.alive_call _).mono ?_
  rintro e w2 ⟨rfl, b2⟩
  go_wp2_with fail
  go_ret
  exact ⟨rfl, b2⟩
set_option maxHeartbeats 400000 in
theorem law_out0 (A : Option Addr) (n cap : Nat) (k0 c0 : Int) (w : World) (hf : Calls Try.prog 23 #[.slice A n cap] w fun e w' => e = .returned (.bool true) ∧ w' = w) (hc0 : 0 ≤ c0 ∧ c0 ≤ 255) (hd0 : decide ((n : Int) > 30) = true) :
    Calls Try.prog 14 #[.slice A n cap, .int .i64 k0, .int .u8 c0] w fun e w' => e = .returned (.bool true) ∧ Below w.heap.size w w' := by
  go_enter Try.func14, Try.ntmps14
  go_wp2_with fail
  refine hf.mono ?_
  rintro e w1 ⟨rfl, hw⟩
  rw [hw]
  clear hf hw
  go_wp2_with fail
  refine (DnV.alive_call _).mono ?_
  rintro e w2 ⟨rfl, b2⟩
  go_wp2_with fail
  go_ret
  exact ⟨rfl, b2⟩
set_option maxRecDepth 20000 in
set_option maxHeartbeats 8000000 in
theorem law_in (A : Option Addr) (n cap : Nat) (zs : List ByteArray) (k0 c0 : Int) (w : World) (hf : Calls Try.prog 23 #[.slice A n cap] w fun e w' => e = .returned (.bool true) ∧ w' = w)
    (hn : n = zs.length) (hat : StrsAt w A zs) (hn1 : n ≤ 110) (htot : total zs ≤ 1300) (hc0 : 0 ≤ c0 ∧ c0 ≤ 255) (hd0 : decide ((n : Int) > 30) = false) :
    Calls Try.prog 14 #[.slice A n cap, .int .i64 k0, .int .u8 c0] w fun e w' => e = .returned (.bool true) ∧ Below w.heap.size w w' := by
  have hnh : Hid (n = zs.length) := hn
  clear hn
  go_enter Try.func14, Try.ntmps14
  go_wp2_with fail
  refine hf.mono ?_
  rintro e w1 ⟨rfl, hw⟩
  rw [hw]
  clear hf hw w1
  go_wp2_with fail
  refine (DnV.alive_call _).mono ?_
  rintro e w1 ⟨rfl, bel⟩
  have hat1 := hat.below bel
  go_wp2_with fail
  refine (phrases_any A n cap zs w1 hnh.out hat1 (by omega)).mono ?_
  rintro e w2 ⟨hph, hw⟩
  rw [hw]
  clear hw w2
  rcases hph with ⟨hok, rfl⟩ | ⟨hok, c0, k0, hc0, rfl⟩
  rotate_left
  · have hcd : (c0 != 0) = true := by simp [hc0]
    clear hat hat1 hok
    go_wp2_with fail
    go_ret
    exact ⟨rfl, bel⟩
  go_wp2_with fail
  refine (lmake_any A n cap zs w1 hnh.out hat1 (by omega)).mono ?_
  rintro e w2 ⟨b2, ⟨hno, _⟩ | ⟨_, p, B, px, m, N, F, O, L, rfl, hl⟩⟩
  · rw [hok] at hno; cases hno
  replace bel := bstep bel b2
  have hat2 := hat1.below b2
  clear hat1 b2 hat
  have hT := tr_build hok
  have hok2 := hl.ok
  have heq := hl.eq
  have hlen := hl.len
  have hla := hl.at_
  clear hl
  obtain ⟨X, hX⟩ : ∃ X, build zs zs.length = X := ⟨_, rfl⟩
  rw [hX] at hT hok2 heq
  have hXb : Hid (build zs zs.length = X) := hX
  have hTh : Hid (Tr zs X) := hT
  have hOk : Hid (LkOk X F O L) := hok2
  have hNX : Hid (N.map (·.p) = X) := heq
  obtain ⟨ln, hln⟩ : ∃ ln, N.length = ln := ⟨_, rfl⟩
  have hln1 : ln ≤ 1301 := by omega
  have hlnh : Hid (N.length = ln) := hln
  have hXl : Hid (X.length = ln) := by show _ = _; rw [← hNX.out, List.length_map, hln]
  have hokh : Hid (okD zs = true) := hok
  clear hX hT hok2 heq hln hlen hok
  have hlx : Hid (Lx w2 p zs X) := Lib.hid ⟨⟨B, px, m, N, F, O, L, hla, hNX.out, hOk.out, by have := hlnh.out; omega⟩, hTh.out⟩
  clear hla
  have cN := DnW.new_any hlx.out (Below.refl _ w2)
  clear hd0
  go_wp2_with fail
  refine cN.mono ?_
  rintro e w3 ⟨b3, t, g, B3, R, rfl, _, hDn, hTab⟩
  replace bel := bstep bel b3
  have hRl : R.length = ln := hTab.1.trans hXl.out
  have hRlh : Hid (R.length = ln) := hRl
  have hTabh : Hid (TabOk X R) := hTab
  have hDnh : Hid (DnAt B3 w3 t p g R) := hDn
  obtain ⟨c, rfl⟩ : ∃ c : Nat, c0 = (c : Int) := ⟨c0.toNat, by omega⟩
  have hln0 : 0 < ln := by rw [← hXl.out]; exact hTh.out.good.pos
  have cs := size_call hDn (by omega)
  have cl := len_call hDn
  have cp0 := sparse_in hDn (k := 0) (by omega)
  rw [hRl] at cs cl
  rw [spar_zero] at cp0
  obtain ⟨sz, hsz⟩ : ∃ sz, 256 * ln = sz := ⟨_, rfl⟩
  rw [hsz] at cs
  have z256 : IntKind.i64.wrap (256 * (ln : Int)) = (sz : Int) := by rw [IntKind.wrap_i64]; omega
  have es : ((sz : Int) != (sz : Int)) = false := by simp
  clear cN b3 hDn hTab hRl hsz
  go_wp2_with fail
  refine cs.mono ?_
  rintro e w9 ⟨rfl, hw⟩
  rw [hw]
  clear hw w9 cs
  go_wp2_with fail
  refine cl.mono ?_
  rintro e w9 ⟨rfl, hw⟩
  rw [hw]
  clear hw w9 
  go_wp2_with fail
  refine cp0.mono ?_
  rintro e w4 ⟨v, rfl, hr, b4⟩
  obtain ⟨V, cp, rfl, _⟩ := own_form hr
  replace bel := bstep bel b4
  have hDn4 := hDnh.out.below b4
  have cl4 := len_call hDn4
  rw [hRlh.out] at cl4
  clear cp0 hr b4 cl z256 es
  by_cases hk0 : k0 < 0
  · have e1 : decide (k0 ≥ 0) = false := decide_eq_false (by omega)
    have e1b : decide (0 ≤ k0) = false := e1
    have cg := go_out hDn4 (k := k0) (.inl hk0) (c : Int)
    have cr := row_out hDn4 (k := k0) (.inl hk0)
    have cp := sparse_out hDn4 (k := k0) (.inl hk0)
    clear hk0 cl4
    go_wp2_with fail
    refine cg.mono ?_
    rintro e w9 ⟨rfl, hw⟩
    rw [hw]
    clear hw w9 cg
    go_wp2_with fail
    refine cr.mono ?_
    rintro e w9 ⟨rfl, hw⟩
    rw [hw]
    clear hw w9 cr
    go_wp2_with fail
    refine cp.mono ?_
    rintro e w9 ⟨rfl, hw⟩
    rw [hw]
    clear hw w9 cp
    go_wp2_with fail
    go_ret
    exact ⟨rfl, bel⟩
  · have e1 : decide (k0 ≥ 0) = true := decide_eq_true (by omega)
    obtain ⟨k, rfl⟩ : ∃ k : Nat, k0 = (k : Int) := ⟨k0.toNat, by omega⟩
    clear hk0
    by_cases hkl : k < ln
    · have e2 : decide ((k : Int) < (ln : Int)) = true := decide_eq_true (by omega)
      have e2' : decide (k < ln) = true := decide_eq_true hkl
      have cg := go_in hDn4 (k := k) (c := c) (by rw [hRlh.out]; exact hkl) (by omega)
      have cr := row_in hDn4 (k := k) (by rw [hRlh.out]; exact hkl)
      have hr : (R.getD k []).getD c 0 < ln := by
        have := ((hTabh.out.2 k (by rw [hXl.out]; exact hkl)).goes c (by omega)).lt
        rw [hXl.out] at this; exact this
      generalize (R.getD k []).getD c 0 = r at cg hr
      have e3 : decide ((r : Int) ≥ 0) = true := decide_eq_true (by omega)
      have e4 : decide ((r : Int) < (ln : Int)) = true := decide_eq_true (by omega)
      have e4' : decide (r < ln) = true := decide_eq_true hr
      clear hkl hr
      go_wp2_with fail
      refine cl4.mono ?_
      rintro e w9 ⟨rfl, hw⟩
      rw [hw]
      clear hw w9 
      go_wp2_with fail
      refine cg.mono ?_
      rintro e w9 ⟨rfl, hw⟩
      rw [hw]
      clear hw w9 
      go_wp2_with fail
      refine cg.mono ?_
      rintro e w9 ⟨rfl, hw⟩
      rw [hw]
      clear hw w9 cg
      go_wp2_with fail
      refine cl4.mono ?_
      rintro e w9 ⟨rfl, hw⟩
      rw [hw]
      clear hw w9 cl4
      go_wp2_with fail
      refine cr.mono ?_
      rintro e w5 ⟨v5, rfl, hr5, b5⟩
      obtain ⟨V5, c5, rfl, _⟩ := own_form hr5
      have belF := bstep bel b5
      clear cr hr5 b5 bel
      go_wp2_with fail
      go_ret
      exact ⟨rfl, belF⟩
    · have e2 : decide ((k : Int) < (ln : Int)) = false := decide_eq_false (by omega)
      have e2' : decide (k < ln) = false := decide_eq_false hkl
      have hge : (k : Int) < 0 ∨ (R.length : Int) ≤ (k : Int) := .inr (by rw [hRlh.out]; omega)
      have cg := go_out hDn4 hge (c : Int)
      have cr := row_out hDn4 hge
      have cp := sparse_out hDn4 hge
      clear hkl hge
      go_wp2_with fail
      refine cl4.mono ?_
      rintro e w9 ⟨rfl, hw⟩
      rw [hw]
      clear hw w9 cl4
      go_wp2_with fail
      refine cg.mono ?_
      rintro e w9 ⟨rfl, hw⟩
      rw [hw]
      clear hw w9 cg
      go_wp2_with fail
      refine cr.mono ?_
      rintro e w9 ⟨rfl, hw⟩
      rw [hw]
      clear hw w9 cr
      go_wp2_with fail
      refine cp.mono ?_
      rintro e w9 ⟨rfl, hw⟩
      rw [hw]
      clear hw w9 cp
      go_wp2_with fail
      go_ret
      exact ⟨rfl, bel⟩
end Go.Proofs.Ytdeeeechdlcdbaa.DdW
