/- The symbols of two coins, one behind the other, in memory of the call's own. -/
import Derived.Test.YthgidcfgelpkhaaLnM
set_option linter.unusedVariables false
set_option linter.unusedSimpArgs false
namespace Go.Proofs.Ythgidcfgelpkhaa
open Go Go.Shelf Go.RowKit Go.Lib Go.Sort Go.Proofs Go.Proofs.Ythgidcfgelpkhaa.Base

theorem sym_one {l : List Nat} : ∀ u ∈ l.map symV, u.oneCell' = true := by
  intro u hu
  obtain ⟨x, _, rfl⟩ := List.mem_map.1 hu
  rfl
theorem grow_own (n : Nat) (w : World) (h0 : 0 < n) (hn : n ≤ 1000000) :
    Calls Try.prog 66 #[.slice none 0 0, .int .i64 n] w fun e w' => ∃ v, e = .returned v ∧ w'.ownsRow w.heap.size 3 1 v 0 [] ∧ v ≠ .slice none 0 0 ∧ Below w.heap.size w w' := by
  obtain ⟨i0, hi, hz0, hz1, hz2⟩ := info_parts info3
  have hc := Any8.slices_Grow_grow Try.laysGrow i0 (.int .i64 0) hi hz0 (by omega) none 0 0 n [] w (Nat.le_refl _) (by omega) (by rw [hz2]; omega) (by omega) (by simp) (fun _ => rfl) (fun a h => by cases h)
  change Calls Try.prog 66 _ _ _ at hc
  refine hc.mono ?_
  rintro e w' ⟨rfl, rfl⟩
  have hm : grownCap w (0 + n) 0 3 ≤ maxLen := grownCap_le_maxLen _ _ _ _ (by unfold maxLen; omega)
  have hg := grownCap_ge w (0 + n) 0 3
  have e3 : Try.laysGrow_ren.t 25 = 3 := rfl
  rw [e3]
  refine ⟨_, rfl, ⟨by simp, .inr ⟨w.heap.size, grownCap w (0 + n) 0 3, _, rfl, Nat.le_refl _, heap_new w.drew _, Nat.zero_le _, hm, ?_, by simp⟩⟩, by simp, ?_⟩
  · rw [Nat.zero_add] at hg ⊢
    simp [Builtin.zeroCells, Value.cells]
    omega
  · have hb : RowKit.Below w.heap.size w w.drew := ⟨rfl, rfl, rfl, Nat.le_refl _, fun _ _ => rfl⟩
    exact hb.alloc (Nat.le_refl _) _

set_option maxHeartbeats 4000000 in
set_option maxRecDepth 1000000 in
theorem concat_call (B b : Nat) (x y : Coin) (w : World) (hx : Syms B w x) (hy : Syms B w y) (hb : w.heap[b]? = some (.cells #[x.sl, y.sl] 22 (0, 0))) (h0 : 0 < x.syms.length) (hlx : x.syms.length ≤ 100000) (hly : y.syms.length ≤ 100000) :
    Calls Try.prog 54 #[.slice (some ⟨b, 0, none⟩) 2 2] w fun e w' => ∃ blk cap, e = .returned (.slice (some ⟨blk, 0, none⟩) (x.syms.length + y.syms.length) cap) ∧
      w'.ownsRow w.heap.size 3 1 (.slice (some ⟨blk, 0, none⟩) (x.syms.length + y.syms.length) cap) (x.syms.length + y.syms.length) ((x.syms ++ y.syms).map symV) ∧ Below w.heap.size w w' := by
  obtain ⟨i0, hi, hz0, hz1, hz2⟩ := info_parts info3
  obtain ⟨X, hX⟩ : ∃ X, x.syms.length = X := ⟨_, rfl⟩
  obtain ⟨Y, hY⟩ : ∃ Y, y.syms.length = Y := ⟨_, rfl⟩
  have c0 : w.cell? ⟨b, 0, none⟩ = some (.slice (some ⟨x.blk, 0, none⟩) X x.cap) := by rw [← hX]; exact cell_of hb rfl
  have c1 : w.cell? ⟨b, 1, none⟩ = some (.slice (some ⟨y.blk, 0, none⟩) Y y.cap) := by rw [← hY]; exact cell_of hb rfl
  have sx : ∀ j u, (x.syms.map symV)[j]? = some u → w.cell? ((⟨x.blk, 0, none⟩ : Addr).add j) = some u := fun j u h => World.ownsRow.cells hx rfl j u h
  have sy : ∀ j u, (y.syms.map symV)[j]? = some u → w.cell? ((⟨y.blk, 0, none⟩ : Addr).add j) = some u := fun j u h => World.ownsRow.cells hy rfl j u h
  have lx : (x.syms.map symV).length = X * 1 := by simp [hX]
  have ly : (y.syms.map symV).length = Y * 1 := by simp [hY]
  have hxy : (x.syms ++ y.syms).map symV = x.syms.map symV ++ y.syms.map symV := by simp
  rw [hX] at h0 hlx ⊢
  rw [hY] at hly ⊢
  rw [hxy]
  have hone1 := sym_one (l := x.syms)
  have hone2 := sym_one (l := y.syms)
  generalize x.syms.map symV = XS at sx lx hone1 ⊢
  generalize y.syms.map symV = YS at sy ly hone2 ⊢
  clear hX hY hx hy hb hxy
  have z1 : IntKind.i64.wrap (0 + (X : Int)) = (X : Int) := by rw [IntKind.wrap_i64]; omega
  have z1' : IntKind.i64.wrap (X : Int) = (X : Int) := by rw [IntKind.wrap_i64]; omega
  have z2 : IntKind.i64.wrap ((X : Int) + (Y : Int)) = ((X + Y : Nat) : Int) := by rw [IntKind.wrap_i64]; omega
  have hgrow : ∀ W, Aside (Calls Try.prog 66 #[.slice none 0 0, .int .i64 ((X + Y : Nat) : Int)] W fun e w' => ∃ v, e = .returned v ∧ w'.ownsRow W.heap.size 3 1 v 0 [] ∧ v ≠ .slice none 0 0 ∧ Below W.heap.size W w') := fun W => grow_own (X + Y) W (by omega) (by omega)
  go_enter Try.func54, Try.ntmps54
  go_wp2
  go_loopg [3, 5, 11] 2 (fun kx s3 s5 s11 wr => w = wr ∧ ((s11 = .int .i64 0 ∧ s3 = .int .i64 0 ∧ kx = 2) ∨ (s11 = .int .i64 1 ∧ s3 = .int .i64 X ∧ kx = 1) ∨ (s11 = .int .i64 2 ∧ s3 = .int .i64 ((X + Y : Nat) : Int))))
  case atStart => exact ⟨rfl, .inl ⟨rfl, rfl, rfl⟩⟩
  case round =>
    obtain ⟨rfl, ⟨rfl, rfl, rfl⟩ | ⟨rfl, rfl, rfl⟩ | ⟨rfl, rfl⟩⟩ := hrel
    · go_wp2
      go_roundg 1
      case measure => omega
      case rel => exact ⟨rfl, .inr (.inl ⟨rfl, rfl, rfl⟩)⟩
    · go_wp2
      go_roundg 0
      case measure => omega
      case rel => exact ⟨rfl, .inr (.inr ⟨rfl, rfl⟩)⟩
    · go_wp2_with fail
      refine (hgrow _).out.mono ?_
      rintro e w1 ⟨v, rfl, ho, hv, bel⟩
      clear hgrow
      obtain ⟨V, cp, rfl, _⟩ := own_form ho
      have hsz := bel.size
      go_wp2
      go_loopg [6, 8, 27] 2 (fun kx s6 s8 s27 W => RowKit.Below w.heap.size w W ∧ ((s27 = .int .i64 0 ∧ kx = 2 ∧ W.ownsRow w.heap.size 3 1 s6 0 []) ∨ (s27 = .int .i64 1 ∧ kx = 1 ∧ W.ownsRow w.heap.size 3 1 s6 X XS) ∨ (s27 = .int .i64 2 ∧ W.ownsRow w.heap.size 3 1 s6 (X + Y) (XS ++ YS))))
      case atStart => exact ⟨bel, .inl ⟨rfl, rfl, ho⟩⟩
      case round =>
        clear ho bel hsz hv
        obtain ⟨bel, ⟨rfl, rfl, ho⟩ | ⟨rfl, rfl, ho⟩ | ⟨rfl, ho⟩⟩ := hrel
        · obtain ⟨V, cp, rfl, _⟩ := own_form ho
          have d0 := pw_cell_below bel c0
          have hsz := bel.size
          go_wp2_with (at_builtin; (refine wpList_append_own _ rfl (.tmp 31) (.tmp 32) 22 rfl w.heap.size 3 i0 _ 1 8 Try.underlying22 hi hz0 hz1 hz2 rfl (by decide) _ 0 [] rfl ho ⟨x.blk, 0, none⟩ X x.cap XS rfl lx ?c1 hone1 ?c2 ?c3 ?c4 ?_))
          case c1 => exact fun j u h => pw_cell_below bel (sx j u h)
          case c2 => unfold maxLen; omega
          case c3 => omega
          case c4 => exact hsz
          intro v2 w2 ho2 hg2 _
          have b2 : RowKit.Below w.heap.size w w2 := bel.grown hg2 hsz (own_ge ho)
          try simp only [Nat.zero_add, List.nil_append] at ho2
          clear ho bel hg2 d0 hsz
          obtain ⟨V2, cp2, rfl, _⟩ := own_form ho2
          go_wp2
          go_roundg 1
          case measure => omega
          case rel => exact ⟨b2, .inr (.inl ⟨rfl, rfl, ho2⟩)⟩
        · obtain ⟨V, cp, rfl, _⟩ := own_form ho
          have d1 := pw_cell_below bel c1
          have hsz := bel.size
          go_wp2_with (first | (at_builtin; refine wpList_append_own _ rfl (.tmp 31) (.tmp 32) 22 rfl w.heap.size 3 i0 _ 1 8 Try.underlying22 hi hz0 hz1 hz2 rfl (by decide) _ X XS rfl ho ⟨y.blk, 0, none⟩ Y y.cap YS rfl ly ?c1 hone2 ?c2 ?c3 ?c4 ?_))
          case c1 => exact fun j u h => pw_cell_below bel (sy j u h)
          case c2 => unfold maxLen; omega
          case c3 => omega
          case c4 => exact hsz
          intro v2 w2 ho2 hg2 _
          have b2 : RowKit.Below w.heap.size w w2 := bel.grown hg2 hsz (own_ge ho)
          clear ho bel hg2 d1 hsz
          obtain ⟨V2, cp2, rfl, _⟩ := own_form ho2
          go_wp2
          go_roundg 0
          case measure => omega
          case rel => exact ⟨b2, .inr (.inr ⟨rfl, ho2⟩)⟩
        · rcases ho.2 with ⟨_, h9⟩ | ⟨g, cap, cur, rfl, _⟩
          · omega
          · clear c0 c1 sx sy
            go_wp2
            go_ret
            exact ⟨g, cap, rfl, ho, bel⟩
end Go.Proofs.Ythgidcfgelpkhaa
