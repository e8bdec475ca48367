/- The walks of a scanner: new, where it is, begun anew, fed; all at once; a first call. -/
import Derived.Test.YtdeeeechdlcdbaaGreatScE
import Derived.Shelf.SlIter.Collect
set_option linter.unusedVariables false
set_option linter.unusedSimpArgs false
namespace Go.Proofs.YtdeeeechdlcdbaaGreat.ScX
open Go Go.RowKit Go.Proofs Go.Proofs.YtdeeeechdlcdbaaGreat Go.Proofs.YtdeeeechdlcdbaaGreat.Base Go.Proofs.YtdeeeechdlcdbaaGreat.DiA Go.Proofs.YtdeeeechdlcdbaaGreat.DiB Go.Proofs.YtdeeeechdlcdbaaGreat.DiC Go.Proofs.YtdeeeechdlcdbaaGreat.TrP Go.Proofs.YtdeeeechdlcdbaaGreat.TrM Go.Proofs.YtdeeeechdlcdbaaGreat.TrA Go.Proofs.YtdeeeechdlcdbaaGreat.TtP Go.Proofs.YtdeeeechdlcdbaaGreat.TcP Go.Proofs.YtdeeeechdlcdbaaGreat.LkA Go.Proofs.YtdeeeechdlcdbaaGreat.LkP Go.Proofs.YtdeeeechdlcdbaaGreat.LkM Go.Proofs.YtdeeeechdlcdbaaGreat.LkO Go.Proofs.YtdeeeechdlcdbaaGreat.LkQ Go.Proofs.YtdeeeechdlcdbaaGreat.LkX Go.Proofs.YtdeeeechdlcdbaaGreat.PhP Go.Proofs.YtdeeeechdlcdbaaGreat.ScP Go.Proofs.YtdeeeechdlcdbaaGreat.ScS Go.Proofs.YtdeeeechdlcdbaaGreat.ScH Go.Proofs.YtdeeeechdlcdbaaGreat.ScF Go.Proofs.YtdeeeechdlcdbaaGreat.ScE
/-- Block p has links over these nodes. -/
structure Lx (W0 : World) (p : Nat) (zs : List ByteArray) (X : List Pn) : Prop where
  lk : ∃ B px m N F O L, LkAt B W0 p px N m F O L ∧ N.map (·.p) = X ∧ LkOk X F O L ∧ N.length ≤ 1000000
  tr : Tr zs X
/-- Block q is a scanner of them that was fed s, and counts n. -/
structure Sc (W0 : World) (p q : Nat) (X : List Pn) (s : List UInt8) (n : Nat) (w : World) : Prop where
  ge : W0.heap.size ≤ q
  node : ∃ node, ScAt w q p node n ∧ Lg X s s.length node
  bel : Below W0.heap.size W0 w
theorem Sc.below {W0 w w' : World} {p q n : Nat} {X : List Pn} {s : List UInt8} (h : Sc W0 p q X s n w) (hb : Below w.heap.size w w') : Sc W0 p q X s n w' := by
  obtain ⟨x, h1, h2⟩ := h.node
  exact ⟨h.ge, ⟨x, h1.below hb, h2⟩, bstep h.bel hb⟩
theorem Sc.lt {W0 w : World} {p q n : Nat} {X : List Pn} {s : List UInt8} (h : Sc W0 p q X s n w) : q < w.heap.size := by
  obtain ⟨x, h1, _⟩ := h.node
  exact heap_lt h1
theorem Sc.twin {W0 w w' : World} {p q q' n : Nat} {X : List Pn} {s : List UInt8} (h : Sc W0 p q X s n w) (ht : LkL.Twin q' q' w w') (hq : W0.heap.size ≤ q') (hne : q ≠ q') : Sc W0 p q X s n w' := by
  have hl := h.lt
  obtain ⟨x, h1, h2⟩ := h.node
  refine ⟨h.ge, ⟨x, (ht.block q hl hne hne).trans h1, h2⟩, h.bel.trans (ht.below h.bel.size hq hq)⟩
/-- A row stays where another block changes. -/
theorem own_twin {w w' : World} {q base : Nat} {e : TypeId} {size n : Nat} {v : Value} {xs : List Value} (h : w.ownsRow base e size v n xs) (ht : LkL.Twin q q w w') (hne : v.ownBlock ≠ some q) : w'.ownsRow base e size v n xs := by
  refine ⟨h.1, ?_⟩
  rcases h.2 with h2 | ⟨g, cap, cur, h1, h2, h3, h4⟩
  · exact .inl h2
  · refine .inr ⟨g, cap, cur, h1, h2, ?_, h4⟩
    have hgq : g ≠ q := fun e => hne (by rw [h1, e]; rfl)
    exact (ht.block g (heap_lt h3) hgq hgq).trans h3
section
variable {W0 w : World} {p q : Nat} {zs : List ByteArray} {X : List Pn} {s : List UInt8} {n : Nat}
theorem sc_made {r : Int} (h : Lx W0 p zs X) (bel : Below W0.heap.size W0 w) (hr : r = 0) : Sc W0 p w.heap.size X [] 0 (w.alloc (.cells #[.pointer (some ⟨p, 0, none⟩), .int .i64 r, .int .i64 r] 95)) := by
  subst hr
  refine ⟨bel.size, ⟨0, ?_, lg_none h.tr.good _⟩, balloc bel _⟩
  unfold ScAt
  exact heap_new w _
set_option maxHeartbeats 1000000 in
theorem new_any (h : Lx W0 p zs X) (bel : Below W0.heap.size W0 w) : Calls Tryz.prog 22 #[.pointer (some ⟨p, 0, none⟩)] w fun e w' => ∃ q, e = .returned (.pointer (some ⟨q, 0, none⟩)) ∧ w.heap.size ≤ q ∧ Sc W0 p q X [] 0 w' ∧ Below w.heap.size w w' := by
  have hs := sc_made (r := 0) h bel rfl
  have hsh : Hid _ := hs
  clear h bel hs
  go_enter Tryz.func22, Tryz.ntmps22
  go_wp2_with fail
  go_ret
  exact ⟨_, rfl, Nat.le_refl _, hsh.out, balloc (Below.refl _ _) _⟩
set_option maxHeartbeats 1000000 in
theorem new_nil (w : World) : Calls Tryz.prog 22 #[.pointer none] w fun e w' => e = .returned (.pointer none) ∧ w' = w := by
  go_enter Tryz.func22, Tryz.ntmps22
  go_wp2_with fail
  go_ret
  exact ⟨rfl, rfl⟩
set_option maxHeartbeats 1000000 in
theorem node_any (S : Sc W0 p q X s n w) : Calls Tryz.prog 29 #[.pointer (some ⟨q, 0, none⟩)] w fun e w' => (∃ r : Nat, e = .returned (.int .i64 (r : Int)) ∧ Lg X s s.length r) ∧ w' = w := by
  obtain ⟨x, h1, h2⟩ := S.node
  have c1 : w.cell? ⟨q, 1, none⟩ = some (.int .i64 (x : Int)) := cell_of h1 rfl
  have h2h : Hid (Lg X s s.length x) := h2
  clear S h1 h2
  go_enter Tryz.func29, Tryz.ntmps29
  go_wp2_with fail
  go_ret
  exact ⟨⟨x, rfl, h2h.out⟩, rfl⟩
set_option maxHeartbeats 1000000 in
theorem node_nil (w : World) : Calls Tryz.prog 29 #[.pointer none] w fun e w' => e = .returned (.int .i64 0) ∧ w' = w := by
  go_enter Tryz.func29, Tryz.ntmps29
  go_wp2_with fail
  go_ret
  exact ⟨rfl, rfl⟩
set_option maxHeartbeats 1000000 in
theorem at_any (S : Sc W0 p q X s n w) : Calls Tryz.prog 28 #[.pointer (some ⟨q, 0, none⟩)] w fun e w' => e = .returned (.int .i64 (n : Int)) ∧ w' = w := by
  obtain ⟨x, h1, h2⟩ := S.node
  have c1 : w.cell? ⟨q, 2, none⟩ = some (.int .i64 (n : Int)) := cell_of h1 rfl
  clear S h1 h2
  go_enter Tryz.func28, Tryz.ntmps28
  go_wp2_with fail
  go_ret
  exact ⟨rfl, rfl⟩
set_option maxHeartbeats 1000000 in
theorem at_nil (w : World) : Calls Tryz.prog 28 #[.pointer none] w fun e w' => e = .returned (.int .i64 0) ∧ w' = w := by
  go_enter Tryz.func28, Tryz.ntmps28
  go_wp2_with fail
  go_ret
  exact ⟨rfl, rfl⟩
theorem reset_at (h : Lx W0 p zs X) (S : Sc W0 p q X s n w) {r : Int} (hr : r = 0) : Sc W0 p q X [] 0 ((w.setCell ⟨q, 1, none⟩ (.int .i64 r)).setCell ⟨q, 2, none⟩ (.int .i64 r)) ∧ LkL.Twin q q w ((w.setCell ⟨q, 1, none⟩ (.int .i64 r)).setCell ⟨q, 2, none⟩ (.int .i64 r)) := by
  subst hr
  obtain ⟨x, h1, h2⟩ := S.node
  have t : LkL.Twin q q w ((w.setCell ⟨q, 1, none⟩ (.int .i64 0)).setCell ⟨q, 2, none⟩ (.int .i64 0)) := (LkL.Twin.of_set _ _ (.inl rfl)).trans (LkL.Twin.of_set _ _ (.inl rfl))
  exact ⟨⟨S.ge, ⟨0, ScAt.set2 (ScAt.set1 h1 0) 0, lg_none h.tr.good _⟩, S.bel.trans (t.below S.bel.size S.ge S.ge)⟩, t⟩
set_option maxHeartbeats 1000000 in
theorem reset_any (h : Lx W0 p zs X) (S : Sc W0 p q X s n w) : Calls Tryz.prog 23 #[.pointer (some ⟨q, 0, none⟩)] w fun e w' => e = .returned (.tuple #[]) ∧ Sc W0 p q X [] 0 w' ∧ LkL.Twin q q w w' := by
  have hR := reset_at h S (r := 0) rfl
  have hRh : Hid _ := hR
  obtain ⟨x, h1, h2⟩ := S.node
  have c1 : w.cell? ⟨q, 1, none⟩ = some (.int .i64 (x : Int)) := cell_of h1 rfl
  have c2 : w.cell? ⟨q, 2, none⟩ = some (.int .i64 (n : Int)) := cell_of h1 rfl
  have f1 : w.frozen? ⟨q, 1, none⟩ = false := frozen_of h1
  have f2 : w.frozen? ⟨q, 2, none⟩ = false := frozen_of h1
  clear h S hR h1 h2
  go_enter Tryz.func23, Tryz.ntmps23
  go_wp2_with fail
  refine bodyPost_end (results_none rfl _ _ _) rfl ?_
  exact ⟨rfl, hRh.out⟩
set_option maxHeartbeats 1000000 in
theorem reset_nil (w : World) : Calls Tryz.prog 23 #[.pointer none] w fun e w' => e = .returned (.tuple #[]) ∧ w' = w := by
  go_enter Tryz.func23, Tryz.ntmps23
  go_wp2_with fail
  refine bodyPost_end (results_none rfl _ _ _) rfl ?_
  exact ⟨rfl, rfl⟩
/-- What Feed comes to. -/
theorem feed_call (h : Lx W0 p zs X) (S : Sc W0 p q X s n w) (b : ByteArray) (hb : b.size ≤ 100000) (hn : n ≤ 1000000000) : Calls Tryz.prog 24 #[.pointer (some ⟨q, 0, none⟩), .string b] w fun e w' => ∃ v, e = .returned v ∧ w'.ownsRow w.heap.size 93 2 v (feedU zs s n b.data.toList b.size).length (hitC (feedU zs s n b.data.toList b.size)) ∧ Sc W0 p q X (s ++ b.data.toList) (n + b.size) w' ∧ LkL.Twin q q w w' := by
  obtain ⟨x, h1, h2⟩ := S.node
  obtain ⟨B, px, m, N, F, O, L, k1, k2, k3, k4⟩ := h.lk
  refine (feed_any b h1 (fun W t => k1.below (S.bel.trans (t.below S.bel.size S.ge S.ge))) k2 k3 h.tr k4 h2 hb hn).mono ?_
  rintro e w' ⟨v, x', he, hr, hS, hl, t⟩
  exact ⟨v, he, hr, ⟨S.ge, ⟨x', hS, hl⟩, S.bel.trans (t.below S.bel.size S.ge S.ge)⟩, t⟩
set_option maxHeartbeats 1000000 in
theorem feed_nil (b : ByteArray) (w : World) : Calls Tryz.prog 24 #[.pointer none, .string b] w fun e w' => e = .returned (.slice none 0 0) ∧ w' = w := by
  go_enter Tryz.func24, Tryz.ntmps24
  go_wp2_with fail
  go_ret
  exact ⟨rfl, rfl⟩
set_option maxHeartbeats 1000000 in
theorem all_any (h : Lx W0 p zs X) (bel : Below W0.heap.size W0 w) (b : ByteArray) (hb : b.size ≤ 100000) : Calls Tryz.prog 30 #[.pointer (some ⟨p, 0, none⟩), .string b] w fun e w' => ∃ v, e = .returned v ∧ w'.ownsRow w.heap.size 93 2 v (feedU zs [] 0 b.data.toList b.size).length (hitC (feedU zs [] 0 b.data.toList b.size)) ∧ Below w.heap.size w w' := by
  have cN := new_any h bel
  have hh : Hid (Lx W0 p zs X) := h
  clear h bel
  go_enter Tryz.func30, Tryz.ntmps30
  go_wp2_with fail
  refine cN.mono ?_
  rintro e w1 ⟨q, rfl, hq, S, b1⟩
  have cF := feed_call hh.out S b hb (by omega)
  clear cN
  go_wp2_with fail
  refine cF.mono ?_
  rintro e w2 ⟨v, rfl, hr, S2, t⟩
  have b2 := b1.trans (t.below b1.size hq hq)
  have hr2 := ownsRow_base_a hr b1.size
  clear cF hr S2 t
  obtain ⟨V, cp, rfl, _⟩ := own_form hr2
  go_wp2_with fail
  go_ret
  exact ⟨_, rfl, hr2, b2⟩
end
set_option maxHeartbeats 1000000 in
theorem all_nil (b : ByteArray) (w : World) : Calls Tryz.prog 30 #[.pointer none, .string b] w fun e w' => e = .returned (.slice none 0 0) ∧ w' = w := by
  go_enter Tryz.func30, Tryz.ntmps30
  go_wp2_with fail
  refine (new_nil _).mono ?_
  rintro e w1 ⟨rfl, rfl⟩
  go_wp2_with fail
  refine (feed_nil _ _).mono ?_
  rintro e w2 ⟨rfl, rfl⟩
  go_wp2_with fail
  go_ret
  exact ⟨rfl, rfl⟩
theorem two2_a : feedU two2 [] 0 [97] 1 = [] := by kernel_rfl
theorem two2_b : feedU two2 [97] 1 [98] 1 = [(2, 0), (2, 1)] := by kernel_rfl
theorem two2_node {r : Nat} (h : Lg (build two2 2) [97, 98] 2 r) : r = 2 := by
  have hT := tr_build two2_ok
  refine Lg.one hT.fine h ⟨by show 2 < (build two2 2).length; rw [two2_len]; decide, ?_, ?_, fun x hx h1 h2 => ?_⟩
  · show tx (build two2 2) 2 <:+ _
    rw [two2_tx2]; exact List.suffix_refl _
  · show (tx (build two2 2) 2).length ≤ 2
    rw [two2_tx2]; decide
  · show _ ≤ (tx (build two2 2) 2).length
    rw [two2_tx2]; exact h2
set_option maxRecDepth 20000 in
set_option maxHeartbeats 4000000 in
theorem alive_call (w : World) : Calls Tryz.prog 21 #[] w fun e w' => e = .returned (.bool true) ∧ Below w.heap.size w w' := by
  have hs : StrsAt (w.alloc (.cells #[.string ⟨#[97, 98]⟩, .string ⟨#[98]⟩] 9)) (some ⟨w.heap.size, 0, none⟩) two2 := by
    intro _
    refine ⟨w.heap.size, 0, rfl, by simp, fun j hj => ?_⟩
    rw [Nat.zero_add]
    rcases (show j = 0 ∨ j = 1 by simp [two2] at hj; omega) with rfl | rfl
    · simp [two2]
    · simp [two2]
  have hmk := lmake_any (some ⟨w.heap.size, 0, none⟩) 2 2 two2 (w.alloc (.cells #[.string ⟨#[97, 98]⟩, .string ⟨#[98]⟩] 9)) rfl hs (by decide)
  clear hs
  go_enter Tryz.func21, Tryz.ntmps21
  go_wp2_with fail
  refine hmk.mono ?_
  rintro e w1 ⟨b1, ⟨hok, _⟩ | ⟨_, p, B, px, m, N, F, O, L, rfl, hl⟩⟩
  · rw [two2_ok] at hok; cases hok
  have bel : Below w.heap.size w w1 := bstep (balloc (Below.refl _ _) _) b1
  have hN : N.length = 4 := by have e := congrArg List.length hl.eq; rw [List.length_map] at e; exact e.trans two2_len
  have hlx : Hid (Lx w1 p two2 (build two2 2)) := Lib.hid ⟨⟨B, px, m, N, F, O, L, hl.at_, hl.eq, hl.ok, by omega⟩, tr_build two2_ok⟩
  have cN := new_any hlx.out (Below.refl _ w1)
  clear hmk b1 hl hN
  go_wp2_with fail
  refine cN.mono ?_
  rintro e w2 ⟨q, rfl, hq, S, b2⟩
  have hwq : w.heap.size ≤ q := Nat.le_trans bel.size hq
  replace bel := bstep bel b2
  clear cN b2 hq
  go_wp2_with fail
  refine (new_nil _).mono ?_
  rintro e w3 ⟨rfl, hw⟩
  rw [hw]
  clear hw w3
  have cF := feed_call hlx.out S ⟨#[97]⟩ (by decide) (by decide)
  go_wp2_with fail
  refine cF.mono ?_
  rintro e w3 ⟨v, rfl, hr, S3, t3⟩
  have e3 : feedU two2 [] 0 (ByteArray.mk #[97]).data.toList (ByteArray.mk #[97]).size = [] := two2_a
  rw [e3] at hr
  obtain ⟨V, cp, rfl, _⟩ := own_form hr
  replace bel := bel.trans (t3.below bel.size hwq hwq)
  clear cF hr S t3 e3
  go_wp2_with fail
  have cF := feed_call hlx.out S3 ⟨#[98]⟩ (by decide) (by decide)
  refine cF.mono ?_
  rintro e w4 ⟨v, rfl, hr, S4, t4⟩
  have e4 : feedU two2 ([] ++ (ByteArray.mk #[97]).data.toList) (0 + (ByteArray.mk #[97]).size) (ByteArray.mk #[98]).data.toList (ByteArray.mk #[98]).size = [(2, 0), (2, 1)] := two2_b
  rw [e4] at hr
  obtain ⟨V, cp, rfl, hV⟩ := row_hits hr rfl
  replace bel := bel.trans (t4.below bel.size hwq hwq)
  have hA2 : HAt (w4.alloc (.cells #[.int .i64 2, .int .i64 0, .int .i64 2, .int .i64 1] 93)) (some ⟨w4.heap.size, 0, none⟩) [(2, 0), (2, 1)] := by
    intro _
    refine ⟨w4.heap.size, 0, rfl, by simp, fun j hj => ?_⟩
    rw [Nat.zero_add]
    rcases (show j = 0 ∨ j = 1 by simp at hj; omega) with rfl | rfl <;> simp
  have cs := same_hits V (some ⟨w4.heap.size, 0, none⟩) 2 2 cp 2 [(2, 0), (2, 1)] [(2, 0), (2, 1)] _ rfl rfl (hV.below (balloc (Below.refl _ _) _)) hA2 (by decide) (by decide)
  rw [show decide (([(2, 0), (2, 1)] : List (Nat × Nat)) = [(2, 0), (2, 1)]) = true from rfl] at cs
  replace bel := balloc bel (.cells #[.int .i64 2, .int .i64 0, .int .i64 2, .int .i64 1] 93)
  replace S4 := S4.below (balloc (Below.refl _ _) (.cells #[.int .i64 2, .int .i64 0, .int .i64 2, .int .i64 1] 93))
  clear cF hr S3 t4 e4 hV hA2
  go_wp2_with fail
  refine cs.mono ?_
  rintro e w5 ⟨rfl, b5⟩
  replace bel := bstep bel b5
  replace S4 := S4.below b5
  clear cs b5
  have cA := at_any S4
  go_wp2_with fail
  refine cA.mono ?_
  rintro e w6 ⟨rfl, hw⟩
  rw [hw]
  clear cA hw w6
  have cA := node_any S4
  go_wp2_with fail
  refine cA.mono ?_
  rintro e w6 ⟨⟨r, rfl, hr⟩, hw⟩
  rw [hw]
  obtain rfl := two2_node hr
  clear cA hw w6 hr
  go_wp2_with fail
  go_ret
  exact ⟨rfl, bel⟩
end Go.Proofs.YtdeeeechdlcdbaaGreat.ScX
