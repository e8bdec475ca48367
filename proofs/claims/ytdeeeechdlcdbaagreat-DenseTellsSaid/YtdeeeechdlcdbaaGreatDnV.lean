/- A first call of dense. -/
import Derived.Test.YtdeeeechdlcdbaaGreatDnS
set_option linter.unusedVariables false
set_option linter.unusedSimpArgs false
namespace Go.Proofs.YtdeeeechdlcdbaaGreat.DnV
open Go Go.RowKit Go.Lib Go.Proofs Go.Proofs.YtdeeeechdlcdbaaGreat Go.Proofs.YtdeeeechdlcdbaaGreat.Base Go.Proofs.YtdeeeechdlcdbaaGreat.DiA Go.Proofs.YtdeeeechdlcdbaaGreat.TrP Go.Proofs.YtdeeeechdlcdbaaGreat.TtP Go.Proofs.YtdeeeechdlcdbaaGreat.LkP Go.Proofs.YtdeeeechdlcdbaaGreat.LkM Go.Proofs.YtdeeeechdlcdbaaGreat.LkX Go.Proofs.YtdeeeechdlcdbaaGreat.PhP Go.Proofs.YtdeeeechdlcdbaaGreat.ScP Go.Proofs.YtdeeeechdlcdbaaGreat.ScX Go.Proofs.YtdeeeechdlcdbaaGreat.DnP Go.Proofs.YtdeeeechdlcdbaaGreat.DnM Go.Proofs.YtdeeeechdlcdbaaGreat.DnW Go.Proofs.YtdeeeechdlcdbaaGreat.DnS
set_option maxHeartbeats 400000 in
theorem new_nil (w : World) : Calls Tryz.prog 32 #[.pointer none] w fun e w' => e = .returned (.pointer none) ∧ w' = w := by
  go_enter Tryz.func32, Tryz.ntmps32
  go_wp2_with fail
  go_ret
  exact ⟨rfl, rfl⟩
theorem two2_s0 : ((build two2 2).getD 0 noPn).sons 97 = some 1 := by kernel_rfl
theorem two2_s1 : ((build two2 2).getD 1 noPn).sons 98 = some 2 := by kernel_rfl
theorem two2_g0 {r : Nat} (h : Goes (build two2 2) 0 ((97 : Nat) : Int) r) : r = 1 := by
  have hT := tr_build two2_ok
  exact Lg.one hT.fine h (lg_son hT.good (by show 0 < (build two2 2).length; rw [two2_len]; decide) two2_s0).2.2
theorem two2_g1 {r : Nat} (h : Goes (build two2 2) 1 ((98 : Nat) : Int) r) : r = 2 := by
  have hT := tr_build two2_ok
  exact Lg.one hT.fine h (lg_son hT.good (by show 1 < (build two2 2).length; rw [two2_len]; decide) two2_s1).2.2
theorem two2_g2 {r : Nat} (h : Goes (build two2 2) 2 ((120 : Nat) : Int) r) : r = 0 := by
  have hT := tr_build two2_ok
  refine Lg.one hT.fine h ⟨by show 0 < (build two2 2).length; rw [two2_len]; decide, ?_, ?_, fun x hx h1 h2 => ?_⟩
  · show tx (build two2 2) 0 <:+ _
    rw [two2_tx0]; exact nil_suf _
  · show (tx (build two2 2) 0).length ≤ _
    rw [two2_tx0]; exact Nat.zero_le _
  · have hx4 : x < 4 := by rw [← two2_len]; exact hx
    have h1' : tx (build two2 2) x <:+ tx (build two2 2) 2 ++ [byte ((120 : Nat) : Int)] := h1
    show (tx (build two2 2) x).length ≤ (tx (build two2 2) 0).length
    rw [two2_tx2] at h1'
    rcases (show x = 0 ∨ x = 1 ∨ x = 2 ∨ x = 3 by omega) with rfl | rfl | rfl | rfl
    · exact Nat.le_refl _
    · rw [two2_tx1] at h1'; revert h1'; decide
    · rw [two2_tx2] at h1'; revert h1'; decide
    · rw [two2_tx3] at h1'; revert h1'; decide
set_option maxRecDepth 20000 in
set_option maxHeartbeats 2000000 in
theorem alive_call (w : World) : Calls Tryz.prog 31 #[] w fun e w' => e = .returned (.bool true) ∧ Below w.heap.size w w' := by
  have hs : StrsAt (w.alloc (.cells #[.string ⟨#[97, 98]⟩, .string ⟨#[98]⟩] 9)) (some ⟨w.heap.size, 0, none⟩) two2 := by
    intro _
    refine ⟨w.heap.size, 0, rfl, by simp, fun j hj => ?_⟩
    rw [Nat.zero_add]
    rcases (show j = 0 ∨ j = 1 by simp [two2] at hj; omega) with rfl | rfl
    · simp [two2]
    · simp [two2]
  have hmk := lmake_any (some ⟨w.heap.size, 0, none⟩) 2 2 two2 (w.alloc (.cells #[.string ⟨#[97, 98]⟩, .string ⟨#[98]⟩] 9)) rfl hs (by decide)
  clear hs
  go_enter Tryz.func31, Tryz.ntmps31
  go_wp2_with fail
  refine hmk.mono ?_
  rintro e w1 ⟨b1, ⟨hok, _⟩ | ⟨_, p, B, px, m, N, F, O, L, rfl, hl⟩⟩
  · rw [two2_ok] at hok; cases hok
  have bel : Below w.heap.size w w1 := bstep (balloc (Below.refl _ _) _) b1
  have hN : N.length = 4 := by have e := congrArg List.length hl.eq; rw [List.length_map] at e; exact e.trans two2_len
  have hlx : Hid (Lx w1 p two2 (build two2 2)) := Lib.hid ⟨⟨B, px, m, N, F, O, L, hl.at_, hl.eq, hl.ok, by omega⟩, tr_build two2_ok⟩
  have cN := DnW.new_any hlx.out (Below.refl _ w1)
  clear hmk b1 hl hN
  go_wp2_with fail
  refine cN.mono ?_
  rintro e w2 ⟨b2, t, g, B2, R, rfl, _, hDn, hTab⟩
  have hRl : R.length = 4 := hTab.1.trans two2_len
  have g0 := two2_g0 ((hTab.2 0 (by rw [two2_len]; decide)).goes 97 (by decide))
  have g1 := two2_g1 ((hTab.2 1 (by rw [two2_len]; decide)).goes 98 (by decide))
  have g2 := two2_g2 ((hTab.2 2 (by rw [two2_len]; decide)).goes 120 (by decide))
  replace bel := bstep bel b2
  have c0 := go_in hDn (k := 0) (c := 97) (by omega) (by omega)
  have c1 := go_in hDn (k := 1) (c := 98) (by omega) (by omega)
  have c2 := go_in hDn (k := 2) (c := 120) (by omega) (by omega)
  have cl := len_call hDn
  have cs := size_call hDn (by omega)
  rw [g0] at c0
  rw [g1] at c1
  rw [g2] at c2
  rw [hRl] at cl cs
  clear cN hTab hRl g0 g1 g2 hDn b2 hlx
  go_wp2_with fail
  refine (new_nil _).mono ?_
  rintro e w3 ⟨rfl, hw⟩
  rw [hw]
  clear hw w3
  go_wp2_with fail
  refine c0.mono ?_
  rintro e w3 ⟨rfl, hw⟩
  rw [hw]
  clear hw w3 c0
  go_wp2_with fail
  refine c1.mono ?_
  rintro e w3 ⟨rfl, hw⟩
  rw [hw]
  clear hw w3 c1
  go_wp2_with fail
  refine c2.mono ?_
  rintro e w3 ⟨rfl, hw⟩
  rw [hw]
  clear hw w3 c2
  go_wp2_with fail
  refine cl.mono ?_
  rintro e w3 ⟨rfl, hw⟩
  rw [hw]
  clear hw w3 cl
  go_wp2_with fail
  refine cs.mono ?_
  rintro e w3 ⟨rfl, hw⟩
  rw [hw]
  clear hw w3 cs
  go_wp2_with fail
  go_ret
  exact ⟨rfl, bel⟩
end Go.Proofs.YtdeeeechdlcdbaaGreat.DnV
