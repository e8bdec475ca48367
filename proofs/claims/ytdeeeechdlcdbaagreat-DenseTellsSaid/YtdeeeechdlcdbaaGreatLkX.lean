/- The walks of the laws' own links: of phrases; a first call. -/
import Derived.Test.YtdeeeechdlcdbaaGreatLkS
import Derived.Test.YtdeeeechdlcdbaaGreatPhP
set_option linter.unusedVariables false
set_option linter.unusedSimpArgs false
namespace Go.Proofs.YtdeeeechdlcdbaaGreat.LkX
open Go Go.RowKit Go.Proofs Go.Proofs.YtdeeeechdlcdbaaGreat Go.Proofs.YtdeeeechdlcdbaaGreat.Base Go.Proofs.YtdeeeechdlcdbaaGreat.DiA Go.Proofs.YtdeeeechdlcdbaaGreat.DiB Go.Proofs.YtdeeeechdlcdbaaGreat.DiC Go.Proofs.YtdeeeechdlcdbaaGreat.DiD Go.Proofs.YtdeeeechdlcdbaaGreat.TrP Go.Proofs.YtdeeeechdlcdbaaGreat.TrM Go.Proofs.YtdeeeechdlcdbaaGreat.TrA Go.Proofs.YtdeeeechdlcdbaaGreat.TrD Go.Proofs.YtdeeeechdlcdbaaGreat.TrE Go.Proofs.YtdeeeechdlcdbaaGreat.TtP Go.Proofs.YtdeeeechdlcdbaaGreat.LkA Go.Proofs.YtdeeeechdlcdbaaGreat.LkP Go.Proofs.YtdeeeechdlcdbaaGreat.LkM Go.Proofs.YtdeeeechdlcdbaaGreat.LkO Go.Proofs.YtdeeeechdlcdbaaGreat.LkQ Go.Proofs.YtdeeeechdlcdbaaGreat.LkN Go.Proofs.YtdeeeechdlcdbaaGreat.LkS Go.Proofs.YtdeeeechdlcdbaaGreat.PhP
/-- Block p has the links of these phrases. -/
structure LinksIs (w : World) (p : Nat) (zs : List ByteArray) (B px m : Nat) (N : List Nd) (F O L : List Nat) : Prop where
  at_ : LkAt B w p px N m F O L
  eq : N.map (·.p) = build zs zs.length
  ok : LkOk (build zs zs.length) F O L
  len : N.length ≤ 1 + total zs
theorem LinksIs.below {w w' : World} {p B px m : Nat} {zs : List ByteArray} {N : List Nd} {F O L : List Nat} (h : LinksIs w p zs B px m N F O L) (hb : Below w.heap.size w w') : LinksIs w' p zs B px m N F O L := ⟨h.at_.below hb, h.eq, h.ok, h.len⟩
def LMPost (w : World) (zs : List ByteArray) (e : Ending) (w' : World) : Prop := Below w.heap.size w w' ∧
  ((okD zs = false ∧ e = .returned (.pointer none)) ∨ (okD zs = true ∧ ∃ p B px m N F O L, e = .returned (.pointer (some ⟨p, 0, none⟩)) ∧ LinksIs w' p zs B px m N F O L))
set_option maxHeartbeats 400000 in
theorem lmake_any (A : Option Addr) (n cap : Nat) (zs : List ByteArray) (w : World) (hn : n = zs.length) (hat : StrsAt w A zs) (htot : total zs ≤ 2000) :
    Calls Tryz.prog 10 #[.slice A n cap] w fun e w' => LMPost w zs e w' := by
  have hmk := make_any A n cap zs w hn hat htot
  clear hn hat
  have hth : Hid (total zs ≤ 2000) := htot
  clear htot
  go_enter Tryz.func10, Tryz.ntmps10
  go_wp2_with fail
  refine hmk.mono ?_
  rintro e w2 ⟨b2, ⟨hok, rfl⟩ | ⟨okd, pd, rfl, _, hdt⟩⟩
  · clear hmk
    go_wp2_with fail
    go_ret
    exact ⟨b2, .inl ⟨hok, rfl⟩⟩
  · clear hmk
    have hnew := TrD.new_any _ pd zs w2 hdt (by have := okD_len okd; omega) hth.out
    go_wp2_with fail
    refine hnew.mono ?_
    rintro e w3 ⟨b3, px, NX, mx, rfl, hX, hNX, hlX⟩
    have b23 := bstep b2 b3
    have hlk := LkN.new_any (n := NX.length) hX hNX (tr_build okd) rfl (by have := okD_total okd; omega)
    clear hnew hdt b2 b3
    go_wp2_with fail
    refine hlk.mono ?_
    rintro e w4 ⟨b4, p, F, O, L, rfl, hat, hok⟩
    clear hlk
    go_wp2_with fail
    go_ret
    exact ⟨bstep b23 b4, .inr ⟨okd, p, _, px, mx, NX, F, O, L, rfl, hat, hNX, hok, hlX⟩⟩
set_option maxHeartbeats 400000 in
theorem lnew_nil (w : World) : Calls Tryz.prog 49 #[.pointer none] w fun e w' => e = .returned (.pointer none) ∧ Below w.heap.size w w' := by
  go_enter Tryz.func49, Tryz.ntmps49
  go_wp2_with fail
  go_ret
  exact ⟨rfl, balloc (Below.refl _ _) _⟩
def two2 : List ByteArray := [⟨#[97, 98]⟩, ⟨#[98]⟩]
theorem two2_ok : okD two2 = true := by kernel_rfl
theorem two2_len : (build two2 2).length = 4 := by kernel_rfl
theorem two2_tx0 : tx (build two2 2) 0 = [] := by kernel_rfl
theorem two2_tx1 : tx (build two2 2) 1 = [97] := by kernel_rfl
theorem two2_tx2 : tx (build two2 2) 2 = [97, 98] := by kernel_rfl
theorem two2_tx3 : tx (build two2 2) 3 = [98] := by kernel_rfl
theorem two2_word3 : ((build two2 2).getD 3 noPn).word = 1 := by kernel_rfl
theorem two2_dep (i : Nat) (h : i < 4) : dep (build two2 2) i < 3 := by
  rw [dep_tx]
  rcases (show i = 0 ∨ i = 1 ∨ i = 2 ∨ i = 3 by omega) with rfl | rfl | rfl | rfl
  · rw [two2_tx0]; decide
  · rw [two2_tx1]; decide
  · rw [two2_tx2]; decide
  · rw [two2_tx3]; decide
theorem two2_by : byNum (dep (build two2 2)) 4 3 = [0, 1, 3, 2] := by kernel_rfl
theorem two2_ord : ordL (dep (build two2 2)) 4 = [0, 1, 3, 2] := by rw [← byNum_ord (k := 3) _ _ two2_dep, two2_by]
theorem two2_fail2 {F O L : List Nat} (h : LkOk (build two2 2) F O L) : F.getD 2 0 = 3 := by
  have hT := tr_build two2_ok
  refine Lg.one hT.fine (h.lg 2 (by rw [two2_len]; decide)) ⟨by show 3 < (build two2 2).length; rw [two2_len]; decide, ?_, ?_, fun x hx h1 h2 => ?_⟩
  · show tx (build two2 2) 3 <:+ tx (build two2 2) 2
    rw [two2_tx2, two2_tx3]; exact ⟨[97], rfl⟩
  · show (tx (build two2 2) 3).length ≤ (tx (build two2 2) 2).length - 1
    rw [two2_tx2, two2_tx3]; decide
  · refine Nat.le_trans h2 ?_
    show (tx (build two2 2) 2).length - 1 ≤ (tx (build two2 2) 3).length
    rw [two2_tx2, two2_tx3]; decide
theorem two2_out2 {F O L : List Nat} (h : LkOk (build two2 2) F O L) : O.getD 2 0 = 3 := by
  have hT := tr_build two2_ok
  refine Ot.one hT.good hT.fine hT.zero (h.ot 2 (by rw [two2_len]; decide)) ⟨by show 3 < (build two2 2).length; rw [two2_len]; decide, .inr ⟨?_, ?_, ?_⟩, fun x hx _ h1 h2 => ?_⟩
  · show 0 ≤ ((build two2 2).getD 3 noPn).word
    rw [two2_word3]; decide
  · show tx (build two2 2) 3 <:+ tx (build two2 2) 2
    rw [two2_tx2, two2_tx3]; exact ⟨[97], rfl⟩
  · show (tx (build two2 2) 3).length ≤ (tx (build two2 2) 2).length - 1
    rw [two2_tx2, two2_tx3]; decide
  · refine Nat.le_trans h2 ?_
    show (tx (build two2 2) 2).length - 1 ≤ (tx (build two2 2) 3).length
    rw [two2_tx2, two2_tx3]; decide
theorem two2_fail0 {F O L : List Nat} (h : LkOk (build two2 2) F O L) : F.getD 0 0 = 0 := by
  have hT := tr_build two2_ok
  exact Lg.one hT.fine (h.lg 0 (by rw [two2_len]; decide)) (by rw [two2_tx0]; exact lg_none hT.good _)
set_option maxHeartbeats 2000000 in
theorem alive_call (w : World) : Calls Tryz.prog 8 #[] w fun e w' => e = .returned (.bool true) ∧ Below w.heap.size w w' := by
  have hs : StrsAt (w.alloc (.cells #[.string ⟨#[97, 98]⟩, .string ⟨#[98]⟩] 9)) (some ⟨w.heap.size, 0, none⟩) two2 := by
    intro _
    refine ⟨w.heap.size, 0, rfl, by simp, fun j hj => ?_⟩
    rw [Nat.zero_add]
    rcases (show j = 0 ∨ j = 1 by simp [two2] at hj; omega) with rfl | rfl
    · simp [two2]
    · simp [two2]
  have hmk := lmake_any (some ⟨w.heap.size, 0, none⟩) 2 2 two2 (w.alloc (.cells #[.string ⟨#[97, 98]⟩, .string ⟨#[98]⟩] 9)) rfl hs (by decide)
  clear hs
  go_enter Tryz.func8, Tryz.ntmps8
  go_wp2_with fail
  refine hmk.mono ?_
  rintro e w1 ⟨b1, ⟨hok, _⟩ | ⟨_, p, B, px, m, N, F, O, L, rfl, hl⟩⟩
  · rw [two2_ok] at hok; cases hok
  have bel : Below w.heap.size w w1 := bstep (balloc (Below.refl _ _) _) b1
  have hN : N.length = 4 := by have e := congrArg List.length hl.eq; rw [List.length_map] at e; exact e.trans two2_len
  have hok : LkOk (build two2 2) F O L := hl.ok
  have e1 := two2_fail2 hok
  have e2 := two2_out2 hok
  have e3 := two2_fail0 hok
  have e4 : toI L = [0, 1, 3, 2] := by rw [hok.ord, two2_len, two2_ord]; rfl
  have hat := hl.at_
  clear hmk b1 hl hok
  go_wp2_with fail
  refine (lnew_nil _).mono ?_
  rintro e w2 ⟨rfl, b2⟩
  replace hat := hat.below b2
  replace bel := bstep bel b2
  clear b2
  have c1 := fail_in hat (k := 2) (by omega)
  rw [e1] at c1
  go_wp2_with fail
  refine c1.mono ?_
  rintro e w3 ⟨rfl, hw⟩
  rw [hw]
  clear c1 hw w3
  have c1 := out_in hat (k := 2) (by omega)
  rw [e2] at c1
  go_wp2_with fail
  refine c1.mono ?_
  rintro e w3 ⟨rfl, hw⟩
  rw [hw]
  clear c1 hw w3
  have c1 := fail_in hat (k := 0) (by omega)
  rw [e3] at c1
  go_wp2_with fail
  refine c1.mono ?_
  rintro e w3 ⟨rfl, hw⟩
  rw [hw]
  clear c1 hw w3
  have c1 := trie_any hat
  go_wp2_with fail
  refine c1.mono ?_
  rintro e w3 ⟨rfl, hw⟩
  rw [hw]
  clear c1 hw w3
  have c1 := order_any hat (by omega)
  rw [hN, e4] at c1
  clear e1 e2 e3 e4 hN hat
  go_wp2_with fail
  refine c1.mono ?_
  rintro e w3 ⟨v, rfl, hr, b3⟩
  obtain ⟨hl4, V, cp, rfl, hV⟩ := row_at hr
  have belF := bstep bel b3
  clear c1 hr bel b3
  have hA2 : At (w3.alloc (.cells #[.int .i64 0, .int .i64 1, .int .i64 3, .int .i64 2] 3)) (some ⟨w3.heap.size, 0, none⟩) [0, 1, 3, 2] := by
    intro _
    refine ⟨w3.heap.size, 0, rfl, by simp, fun j hj => ?_⟩
    rw [Nat.zero_add]
    rcases (show j = 0 ∨ j = 1 ∨ j = 2 ∨ j = 3 by simp at hj; omega) with rfl | rfl | rfl | rfl <;> simp
  have cs := same_call V (some ⟨w3.heap.size, 0, none⟩) 4 4 cp 4 [0, 1, 3, 2] [0, 1, 3, 2] _ rfl rfl (hV.below (balloc (Below.refl _ _) _)) hA2 (by decide) (by decide)
  rw [show decide (([0, 1, 3, 2] : List Int) = [0, 1, 3, 2]) = true from rfl] at cs
  have b4 := balloc belF (.cells #[.int .i64 0, .int .i64 1, .int .i64 3, .int .i64 2] 3)
  clear hA2 hV hl4
  go_wp2_with fail
  refine cs.mono ?_
  rintro e w5 ⟨rfl, b5⟩
  have b6 := bstep b4 b5
  clear cs b4 b5
  go_wp2_with fail
  go_ret
  exact ⟨rfl, b6⟩
end Go.Proofs.YtdeeeechdlcdbaaGreat.LkX
