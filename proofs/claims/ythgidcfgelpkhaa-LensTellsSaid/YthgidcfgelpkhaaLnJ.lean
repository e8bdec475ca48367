/- The reference's lengths: one item more; the walk's definitions. -/
import Derived.Test.YthgidcfgelpkhaaLnI
import Derived.Test.YthgidcfgelpkhaaLnE
set_option linter.unusedVariables false
set_option linter.unusedSimpArgs false
namespace Go.Proofs.Ythgidcfgelpkhaa
open Go Go.Shelf Go.RowKit Go.Lib Go.Sort Go.Proofs Go.Proofs.Ythgidcfgelpkhaa.Base
structure Box (p : Prop) : Prop where
  out : p
theorem set_heap {W : World} {b : Nat} {cs : Array Value} {t : TypeId} (hh : W.heap[b]? = some (.cells cs t (0, 0))) (i : Nat) (v : Value) : (W.setCell ⟨b, i, none⟩ v).heap[b]? = some (.cells (cs.setIfInBounds i v) t (0, 0)) := by
  rw [setCell_eq]
  unfold mapBlock
  show (W.heap.modify b _)[b]? = _
  rw [Array.getElem?_modify, if_pos rfl, hh]
  rfl
theorem set_two {n0 b : Nat} {w W : World} {u0 u1 x y : Value} {t : TypeId} (hh : W.heap[b]? = some (.cells #[u0, u1] t (0, 0))) (hb : n0 ≤ b) (h : RowKit.Below n0 w W) :
    ((W.setCell ⟨b, 0, none⟩ x).setCell ⟨b, 1, none⟩ y).heap[b]? = some (.cells #[x, y] t (0, 0)) ∧ RowKit.Below n0 w ((W.setCell ⟨b, 0, none⟩ x).setCell ⟨b, 1, none⟩ y) ∧ W.grownBy ((W.setCell ⟨b, 0, none⟩ x).setCell ⟨b, 1, none⟩ y) (some b) := by
  have h1 := set_heap hh 0 x
  have h2 := set_heap h1 1 y
  have hs : ((W.setCell ⟨b, 0, none⟩ x).setCell ⟨b, 1, none⟩ y).heap.size = W.heap.size := by simp [World.setCell]
  have ho : ∀ k, k ≠ b → ((W.setCell ⟨b, 0, none⟩ x).setCell ⟨b, 1, none⟩ y).heap[k]? = W.heap[k]? := by
    intro k hk
    rw [setCell_eq, setCell_eq]
    unfold mapBlock
    show ((W.heap.modify b _).modify b _)[k]? = _
    rw [Array.getElem?_modify, if_neg (Ne.symm hk), Array.getElem?_modify, if_neg (Ne.symm hk)]
  refine ⟨h2, ⟨h.os, h.tape, h.output, by rw [hs]; exact h.size, fun k hk => ?_⟩, ⟨rfl, rfl, rfl, by rw [hs]; exact Nat.le_refl _, fun k hk hne => ho k (fun e => hne (by rw [e]))⟩⟩
  rw [ho k (by omega)]
  exact h.block k hk
theorem region_box {a0 : Act} {P : Program} {Q : Exit → Act → World → Prop} {ops : Array Oper} {id : Nat} {w : World} (G : World → Prop) (U : Nat → World → Prop) (R : Nat → World → World → Prop) (par : Nat → Nat) (V : Nat → Value → Value → World → Prop) (S : List (Option Nat)) (D : List (List Nat)) (hm : P.follows .mixedOrders = true) (hl : Reg.lists ops.pop S D = true) (hf : Reg.fits ops.pop a0 = true)
    (hng : ops.pop.all (fun o => o.guard.isNone) = true) (hlw : RegL.lastWaits ops = true) (hpar : ∀ i, par i = i ∨ par i ∈ D.getD i [])
    (hG0 : G { w with drawn := w.drawn + 1 }) (hU0 : ∀ i, U i { w with drawn := w.drawn + 1 }) (hG : ∀ i w w', G w → R i w w' → G w') (hU : ∀ j i w w', j ≠ i → j ∉ D.getD i [] → U j w → R i w w' → U j w') (hst : ∀ j i p v w w', i ≠ j → i ∉ D.getD j [] → V j p v w → R i w w' → V j p v w')
    (hs : RegL.AllL S a0 P G U R par V 0 ops.toList D)
    (hend : ∀ (vals : Nat → Value) (w' : World), G w' → (∀ i, i < S.length → V i (vals (par i)) (vals i) w') → Box (RegL.LastOp ops.toList fun ol => Oper.wp P ol (Reg.putS S a0 (List.range S.length) vals) w' (fun a w => Q .normal a w) Q)) :
    (Code.region id ops true).wp P Q a0 w := RegL.wp_region_end G U R par V S D hm hl hf hng hlw hpar hG0 hU0 hG hU hst hs (fun vals w' h1 h2 => (hend vals w' h1 h2).out)
theorem own_same {w w' : World} {B e size n : Nat} {v vv : Value} {xs xx : List Value} (h : w.ownsRow B e size v n xs) (hw : w.ownsRow B e size vv n xx) (hg : w.grownBy w' vv.ownBlock) (hs : 0 < size) (h' : w'.ownsRow B e size vv n xx) : w'.ownsRow B e size v n xs := by
  rcases h.2 with ⟨rfl, h0⟩ | ⟨g, cap, cur, rfl, hb, hc, h3, h4, h5, h6⟩
  · exact ⟨h.1, .inl ⟨rfl, h0⟩⟩
  · by_cases hv : vv.ownBlock = some g
    · rcases hw.2 with ⟨rfl, _⟩ | ⟨g2, cap2, cur2, rfl, _, hc2, _, _, h52, h62⟩
      · cases hv
      · have hgg : g2 = g := Option.some.inj hv
        subst hgg
        rw [hc] at hc2
        injection hc2 with hc2
        injection hc2 with hc3 _
        subst hc3
        have hx : xs = xx := by rw [← h6, ← h62]
        subst hx
        exact Keep.own_front h hw hg hs h' (Nat.le_refl _) (by rw [← h.1, List.take_length])
    · exact h.kept hg (.inr (fun e => hv e.symm))
def inV (n0 : Nat) (w0 : World) (V0 VC : Value) (k s m m1 bb off z : Nat) (l : List Coin) (i : Nat) (pv v : Value) (W : World) : Prop := match i with
  | 0 => v = V0
  | 1 => v = .int .i64 (k : Int)
  | 2 => ∃ A c, v = .slice A k c ∧ SrcI w0 A ((l.take k).flatMap encC)
  | 3 => (∃ A c, v = .slice A k c ∧ W.ownsRow n0 59 2 (.slice A (k) c) (k) (((l.take k).flatMap encC))) ∧ (k = 0 → v = .slice none 0 0)
  | 4 => v = VC
  | 5 => v = .int .i64 (s : Int)
  | 6 => v = .pointer (some ⟨bb, off + s, none⟩)
  | 7 => v = .int .i64 (z : Int)
  | 8 => v = .int .i64 (s : Int)
  | 9 => ∃ b, v = .slice (some ⟨b, 0, none⟩) 1 1 ∧ n0 ≤ b ∧ W.heap[b]? = some (.cells #[.int .i64 (s : Int)] 3 (0, 0))
  | 10 => ∃ b, v = .agg #[.int .i64 (z : Int), .slice (some ⟨b, 0, none⟩) 1 1] ∧ n0 ≤ b ∧ W.heap[b]? = some (.cells #[.int .i64 (s : Int)] 3 (0, 0))
  | 11 => ∃ g b, v = .slice (some ⟨g, 0, none⟩) 1 1 ∧ W.heap[g]? = some (.cells #[.int .i64 (z : Int), .slice (some ⟨b, 0, none⟩) 1 1] 59 (0, 0)) ∧ n0 ≤ b ∧ W.heap[b]? = some (.cells #[.int .i64 (s : Int)] 3 (0, 0))
  | 12 => ∃ A c b, v = .slice A (k + 1) c ∧ W.ownsRow n0 59 2 (.slice A (k + 1) c) (k + 1) (((l.take k).flatMap encC) ++ [Value.int .i64 (z : Int), .slice (some ⟨b, 0, none⟩) 1 1]) ∧ n0 ≤ b ∧ W.heap[b]? = some (.cells #[.int .i64 (s : Int)] 3 (0, 0))
  | 13 => v = V0
  | 14 => v = .int .i64 (k : Int)
  | 15 => ∃ A c, v = .slice A m1 c ∧ SrcI w0 A ((l.drop k).flatMap encC)
  | 16 => ∃ A c b, v = .slice A (m + 1) c ∧ W.ownsRow n0 59 2 (.slice A (m + 1) c) (m + 1) (((l.take k).flatMap encC) ++ [Value.int .i64 (z : Int), .slice (some ⟨b, 0, none⟩) 1 1] ++ ((l.drop k).flatMap encC)) ∧ n0 ≤ b ∧ W.heap[b]? = some (.cells #[.int .i64 (s : Int)] 3 (0, 0))
  | _ => True

def inR (n0 k z : Nat) (tk : List Value) (j : Nat) (W W' : World) : Prop := match j with
  | 12 => growR n0 59 2 k tk W W'
  | 16 => ∃ b : Nat, growR n0 59 2 (k + 1) (tk ++ [Value.int .i64 (z : Int), .slice (some ⟨b, 0, none⟩) 1 1]) W W'
  | _ => RowKit.Below W.heap.size W W'
theorem inG_stay {n0 k z : Nat} {tk : List Value} {w0 : World} {j : Nat} {W W' : World} (hle : n0 ≤ W.heap.size) (h : RowKit.Below n0 w0 W) (k2 : inR n0 k z tk j W W') : RowKit.Below n0 w0 W' := by
  unfold inR at k2
  split at k2
  · obtain ⟨vv, _, k2, _, k4, _⟩ := k2
    exact h.grown k2 hle k4
  · obtain ⟨b, vv, _, k2, _, k4, _⟩ := k2
    exact h.grown k2 hle k4
  · exact h.trans (k2.mono hle)
theorem inV_stay {n0 : Nat} {w0 : World} {V0 VC : Value} {k s m m1 bb off z : Nat} {l : List Coin} (hk : k ≤ l.length) {j y : Nat} {p v : Value} {W W' : World} (h1 : ¬ ((j = 12 ∧ y = 12) ∨ (j = 16 ∧ y = 16) ∨ (j = 16 ∧ y = 12)))
    (h3 : inV n0 w0 V0 VC k s m m1 bb off z l j p v W) (h4 : inR n0 k z (((l.take k).flatMap encC)) y W W') : inV n0 w0 V0 VC k s m m1 bb off z l j p v W' := by
  have ht : (((l.take k).flatMap encC)).length = k * 2 := by rw [flat_len, List.length_take_of_le hk]
  have cell : ∀ b : Nat, W.heap[b]? = some (.cells #[.int .i64 (s : Int)] 3 (0, 0)) → W'.heap[b]? = some (.cells #[.int .i64 (s : Int)] 3 (0, 0)) := by
    intro b hb
    unfold inR at h4
    split at h4
    · obtain ⟨vv, k1, k2, _⟩ := h4
      exact block_other hb k1 k2 (by decide)
    · obtain ⟨_, vv, k1, k2, _⟩ := h4
      exact block_other hb k1 k2 (by decide)
    · exact heap_below h4 hb
  unfold inV at h3 ⊢
  split at h3
  case h_4 =>
    obtain ⟨⟨A, c, e, ho⟩, hz⟩ := h3
    refine ⟨⟨A, c, e, ?_⟩, hz⟩
    unfold inR at h4
    split at h4
    · obtain ⟨vv, k1, k2, k3, _⟩ := h4
      exact own_same ho k1 k2 (by decide) k3
    · obtain ⟨_, vv, k1, k2, k3, _⟩ := h4
      exact Keep.own_front ho k1 k2 (by decide) k3 (Nat.le_succ _) (by rw [List.take_left' ht])
    · exact own_below ho h4
  case h_10 =>
    obtain ⟨b, e, hb, hc⟩ := h3
    exact ⟨b, e, hb, cell b hc⟩
  case h_11 =>
    obtain ⟨b, e, hb, hc⟩ := h3
    exact ⟨b, e, hb, cell b hc⟩
  case h_12 =>
    obtain ⟨g, b, e, hg, hb, hc⟩ := h3
    refine ⟨g, b, e, ?_, hb, cell b hc⟩
    unfold inR at h4
    split at h4
    · obtain ⟨vv, k1, k2, k3, _, k5⟩ := h4
      exact block_front (size := 2) (by decide) hg rfl k1 k2 k3 k5
    · obtain ⟨_, vv, k1, k2, k3, _, k5⟩ := h4
      exact block_front (size := 2) (by decide) hg rfl k1 k2 k3 k5
    · exact heap_below h4 hg
  case h_13 =>
    obtain ⟨A, c, b, e, ho, hb, hc⟩ := h3
    refine ⟨A, c, b, e, ?_, hb, cell b hc⟩
    unfold inR at h4
    split at h4
    · exact absurd (.inl ⟨rfl, rfl⟩) h1
    · obtain ⟨_, vv, k1, k2, k3, _⟩ := h4
      exact own_same ho k1 k2 (by decide) k3
    · exact own_below ho h4
  case h_17 =>
    obtain ⟨A, c, b, e, ho, hb, hc⟩ := h3
    refine ⟨A, c, b, e, ?_, hb, cell b hc⟩
    unfold inR at h4
    split at h4
    · exact absurd (.inr (.inr ⟨rfl, rfl⟩)) h1
    · exact absurd (.inr (.inl ⟨rfl, rfl⟩)) h1
    · exact own_below ho h4
  all_goals first | exact h3 | trivial
def prV (n0 : Nat) (w0 : World) (g n1 c1 s s1 : Nat) (x y : Coin) (i : Nat) (pv v : Value) (W : World) : Prop := match i with
  | 0 => v = .slice (some ⟨g, 0, none⟩) n1 c1
  | 1 => v = .int .i64 (s : Int)
  | 2 => v = .pointer (some ⟨g, s * 2, none⟩)
  | 3 => v = .pointer (some ⟨g, s * 2, none⟩)
  | 4 => v = .int .i64 (x.n : Int)
  | 5 => v = .slice (some ⟨g, 0, none⟩) n1 c1
  | 6 => v = .int .i64 (s : Int)
  | 7 => v = .int .i64 (s1 : Int)
  | 8 => v = .pointer (some ⟨g, s1 * 2, none⟩)
  | 9 => v = .pointer (some ⟨g, s1 * 2, none⟩)
  | 10 => v = .int .i64 (y.n : Int)
  | 11 => v = .int .i64 ((x.n : Int) + (y.n : Int))
  | 12 => v = .slice (some ⟨g, 0, none⟩) n1 c1
  | 13 => v = .int .i64 (s : Int)
  | 14 => v = .pointer (some ⟨g, s * 2, none⟩)
  | 15 => v = .pointer (some ⟨g, s * 2 + 1, none⟩)
  | 16 => v = x.sl
  | 17 => ∃ b c, v = .slice (some ⟨b, 0, none⟩) x.syms.length c ∧ W.ownsRow n0 3 1 (.slice (some ⟨b, 0, none⟩) x.syms.length c) x.syms.length (x.syms.map symV)
  | 18 => v = .slice (some ⟨g, 0, none⟩) n1 c1
  | 19 => v = .int .i64 (s : Int)
  | 20 => v = .int .i64 (s1 : Int)
  | 21 => v = .pointer (some ⟨g, s1 * 2, none⟩)
  | 22 => v = .pointer (some ⟨g, s1 * 2 + 1, none⟩)
  | 23 => v = y.sl
  | 24 => ∃ b c, v = .slice (some ⟨b, 0, none⟩) (x.syms.length + y.syms.length) c ∧ W.ownsRow n0 3 1 (.slice (some ⟨b, 0, none⟩) (x.syms.length + y.syms.length) c) (x.syms.length + y.syms.length) (x.syms.map symV ++ y.syms.map symV)
  | 25 => ∃ b c, v = .agg #[.int .i64 ((x.n : Int) + (y.n : Int)), .slice (some ⟨b, 0, none⟩) (x.syms.length + y.syms.length) c] ∧ W.ownsRow n0 3 1 (.slice (some ⟨b, 0, none⟩) (x.syms.length + y.syms.length) c) (x.syms.length + y.syms.length) (x.syms.map symV ++ y.syms.map symV)
  | 26 => ∃ b, v = .pointer (some ⟨b, 0, none⟩) ∧ n0 ≤ b ∧ W.heap[b]? = some (.cells #[.int .i64 0, .slice none 0 0] 59 (0, 0))
  | _ => True

def prR (n0 xl : Nat) (xs : List Value) (j : Nat) (W W' : World) : Prop := match j with
  | 24 => growR n0 3 1 xl xs W W'
  | _ => RowKit.Below W.heap.size W W'
theorem prG_stay {n0 xl : Nat} {xs : List Value} {w0 : World} {j : Nat} {W W' : World} (hle : n0 ≤ W.heap.size) (h : RowKit.Below n0 w0 W) (k2 : prR n0 xl xs j W W') : RowKit.Below n0 w0 W' := by
  unfold prR at k2
  split at k2
  · obtain ⟨vv, _, k2, _, k4, _⟩ := k2
    exact h.grown k2 hle k4
  · exact h.trans (k2.mono hle)
theorem prV_stay {n0 : Nat} {w0 : World} {g n1 c1 s s1 : Nat} {x y : Coin} {j i : Nat} {p v : Value} {W W' : World} (h1 : ¬ ((j = 24 ∧ i = 24) ∨ (j = 25 ∧ i = 24)))
    (h3 : prV n0 w0 g n1 c1 s s1 x y j p v W) (h4 : prR n0 x.syms.length (x.syms.map symV) i W W') : prV n0 w0 g n1 c1 s s1 x y j p v W' := by
  unfold prV at h3 ⊢
  split at h3
  case h_18 =>
    obtain ⟨b, c, e, ho⟩ := h3
    refine ⟨b, c, e, ?_⟩
    unfold prR at h4
    split at h4
    · obtain ⟨vv, k1, k2, k3, _⟩ := h4
      exact own_same ho k1 k2 (by decide) k3
    · exact own_below ho h4
  case h_25 =>
    obtain ⟨b, c, e, ho⟩ := h3
    refine ⟨b, c, e, ?_⟩
    unfold prR at h4
    split at h4
    · exact absurd (.inl ⟨rfl, rfl⟩) h1
    · exact own_below ho h4
  case h_26 =>
    obtain ⟨b, c, e, ho⟩ := h3
    refine ⟨b, c, e, ?_⟩
    unfold prR at h4
    split at h4
    · exact absurd (.inr ⟨rfl, rfl⟩) h1
    · exact own_below ho h4
  case h_27 =>
    obtain ⟨b, e, hb, hc⟩ := h3
    refine ⟨b, e, hb, ?_⟩
    unfold prR at h4
    split at h4
    · obtain ⟨vv, k1, k2, _⟩ := h4
      exact block_other hc k1 k2 (by decide)
    · exact heap_below h4 hc
  all_goals first | exact h3 | trivial
end Go.Proofs.Ythgidcfgelpkhaa
