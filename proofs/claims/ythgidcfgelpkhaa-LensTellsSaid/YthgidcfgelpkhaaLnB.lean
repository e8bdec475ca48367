/- Coins, two by two: the walk. -/
import Derived.Test.YthgidcfgelpkhaaLnA
import Derived.Test.YthgidcfgelpkhaaLnC
import Derived.Test.YthgidcfgelpkhaaStep
import Derived.Test.YthgidcfgelpkhaaRegL
set_option linter.unusedVariables false
set_option linter.unusedSimpArgs false
namespace Go.Proofs.Ythgidcfgelpkhaa
open Go Go.Shelf Go.RowKit Go.Lib Go.Sort Go.Proofs Go.Proofs.Ythgidcfgelpkhaa.Base
/-- A row of coins to read. -/
def SrcC (w : World) (A : Option Addr) (L : List Coin) : Prop := (0 < L.length → ∃ g off, A = some ⟨g, off, none⟩ ∧ ∀ j u, (L.flatMap encC)[j]? = some u → w.cell? ⟨g, off + j, none⟩ = some u) ∧ ∀ c ∈ L, Syms 0 w c
theorem src_drop {w : World} {g off : Nat} {x y : Coin} {L : List Coin} (h : SrcC w (some ⟨g, off, none⟩) (x :: y :: L)) : SrcC w (some ⟨g, off + 4, none⟩) L := by
  refine ⟨fun _ => ?_, fun c hc => h.2 c (List.mem_cons_of_mem _ (List.mem_cons_of_mem _ hc))⟩
  obtain ⟨g', off', hA, hc⟩ := h.1 (by simp)
  injection hA with hA
  injection hA with h1 h2
  subst h1 h2
  refine ⟨g, off + 4, rfl, fun j u hj => ?_⟩
  rw [Nat.add_assoc, Nat.add_comm 4 j]
  exact hc (j + 4) u (by simpa [encC] using hj)
/-- Two coins as one. -/
def coin2 (x y : Coin) (blk cap : Nat) (h : x.n + y.n < 1125899906842624) : Coin := ⟨x.n + y.n, h, x.syms ++ y.syms, blk, cap⟩
theorem own_mono {w : World} {base base' : Nat} {e : TypeId} {size : Nat} {v : Value} {n : Nat} {xs : List Value} (h : w.ownsRow base e size v n xs) (hb : base' ≤ base) : w.ownsRow base' e size v n xs := by
  refine ⟨h.1, ?_⟩
  rcases h.2 with h1 | ⟨g, cap, cur, h1, h2, h3⟩
  · exact .inl h1
  · exact .inr ⟨g, cap, cur, h1, Nat.le_trans hb h2, h3⟩
def pkG (B n0 : Nat) (l : List Coin) (w W : World) : Prop := RowKit.Below B w W ∧ n0 ≤ W.heap.size ∧ ∀ c ∈ l, Syms B W c
def pkU (B : Nat) (l : List Coin) (v0 : Value) (i : Nat) (W : World) : Prop := match i with
  | 22 => W.ownsRow B 54 2 v0 l.length (l.flatMap encC)
  | _ => True
def pkR (v0 : Value) (i : Nat) (W W' : World) : Prop := match i with
  | 22 => W.grownBy W' v0.ownBlock
  | _ => RowKit.Below W.heap.size W W'
def pkV (B n0 g off n1 c1 : Nat) (x y : Coin) (k : Nat) (xs : List Value) (v0 : Value) (i : Nat) (pv v : Value) (W : World) : Prop := match i with
  | 0 => v = v0
  | 1 => v = .slice (some ⟨g, off, none⟩) n1 c1
  | 2 => v = .pointer (some ⟨g, off, none⟩)
  | 3 => v = .pointer (some ⟨g, off, none⟩)
  | 4 => v = .int .i64 (x.n : Int)
  | 5 => v = .slice (some ⟨g, off, none⟩) n1 c1
  | 6 => v = .pointer (some ⟨g, off + 2, none⟩)
  | 7 => v = .pointer (some ⟨g, off + 2, none⟩)
  | 8 => v = .int .i64 (y.n : Int)
  | 9 => v = .int .i64 ((x.n : Int) + (y.n : Int))
  | 10 => v = .slice (some ⟨g, off, none⟩) n1 c1
  | 11 => v = .pointer (some ⟨g, off, none⟩)
  | 12 => v = .pointer (some ⟨g, off + 1, none⟩)
  | 13 => v = x.sl
  | 14 => v = .slice (some ⟨g, off, none⟩) n1 c1
  | 15 => v = .pointer (some ⟨g, off + 2, none⟩)
  | 16 => v = .pointer (some ⟨g, off + 3, none⟩)
  | 17 => v = y.sl
  | 18 => ∃ b, v = .slice (some ⟨b, 0, none⟩) 2 2 ∧ n0 ≤ b ∧ W.heap[b]? = some (.cells #[x.sl, y.sl] 22 (0, 0))
  | 19 => ∃ blk cap, v = .slice (some ⟨blk, 0, none⟩) (x.syms.length + y.syms.length) cap ∧ n0 ≤ blk ∧ W.ownsRow B 3 1 (.slice (some ⟨blk, 0, none⟩) (x.syms.length + y.syms.length) cap) (x.syms.length + y.syms.length) ((x.syms ++ y.syms).map symV)
  | 20 => ∃ blk cap, v = .agg #[.int .i64 ((x.n : Int) + (y.n : Int)), .slice (some ⟨blk, 0, none⟩) (x.syms.length + y.syms.length) cap] ∧ n0 ≤ blk ∧ W.ownsRow B 3 1 (.slice (some ⟨blk, 0, none⟩) (x.syms.length + y.syms.length) cap) (x.syms.length + y.syms.length) ((x.syms ++ y.syms).map symV)
  | 21 => ∃ b blk cap, v = .slice (some ⟨b, 0, none⟩) 1 1 ∧ n0 ≤ b ∧ W.heap[b]? = some (.cells #[.int .i64 ((x.n : Int) + (y.n : Int)), .slice (some ⟨blk, 0, none⟩) (x.syms.length + y.syms.length) cap] 54 (0, 0)) ∧ n0 ≤ blk ∧ W.ownsRow B 3 1 (.slice (some ⟨blk, 0, none⟩) (x.syms.length + y.syms.length) cap) (x.syms.length + y.syms.length) ((x.syms ++ y.syms).map symV)
  | 22 => ∃ A c blk cap, v = .slice A (k + 1) c ∧ W.ownsRow B 54 2 (.slice A (k + 1) c) (k + 1) (xs ++ [.int .i64 ((x.n : Int) + (y.n : Int)), .slice (some ⟨blk, 0, none⟩) (x.syms.length + y.syms.length) cap]) ∧ n0 ≤ blk ∧ W.ownsRow B 3 1 (.slice (some ⟨blk, 0, none⟩) (x.syms.length + y.syms.length) cap) (x.syms.length + y.syms.length) ((x.syms ++ y.syms).map symV)
  | _ => True

theorem pkU_start {B : Nat} {l : List Coin} {v0 : Value} {w : World} (h : w.ownsRow B 54 2 v0 l.length (l.flatMap encC)) (i : Nat) : pkU B l v0 i { w with drawn := w.drawn + 1 } := by
  unfold pkU
  split
  · exact h
  · trivial
theorem pkG_stay {B n0 : Nat} {l : List Coin} {v0 : Value} {w : World} (hge : ∀ g, v0.ownBlock = some g → B ≤ g) (hne : ∀ c ∈ l, v0.ownBlock ≠ some c.blk) {i : Nat} {W W' : World} (h : pkG B n0 l w W) (k : pkR v0 i W W') (hB : B ≤ n0 := by omega) : pkG B n0 l w W' := by
  obtain ⟨h1, h2, h3⟩ := h
  unfold pkR at k
  split at k
  · exact ⟨h1.grown k (by omega) hge, Nat.le_trans h2 k.size, fun c hc => World.ownsRow.kept (h3 c hc) k (.inr (Ne.symm (hne c hc)))⟩
  · exact ⟨h1.trans (k.mono (by omega)), Nat.le_trans h2 k.size, fun c hc => (h3 c hc).below k⟩
theorem pkU_stay {B : Nat} {l : List Coin} {v0 : Value} {j i : Nat} {W W' : World} (h2 : ¬ (j = 22 ∧ i = 22)) (h3 : pkU B l v0 j W) (h4 : pkR v0 i W W') : pkU B l v0 j W' := by
  unfold pkU at h3 ⊢
  unfold pkR at h4
  split at h3
  · split at h4
    · exact absurd ⟨rfl, rfl⟩ h2
    · exact own_below h3 h4
  · trivial
theorem kept_new {B n0 m blk cap : Nat} {xs : List Value} {v0 : Value} {i : Nat} {W W' : World} (hlt : ∀ g, v0.ownBlock = some g → g < n0) (hb : n0 ≤ blk) (h : W.ownsRow B 3 1 (.slice (some ⟨blk, 0, none⟩) m cap) m xs) (k : pkR v0 i W W') : W'.ownsRow B 3 1 (.slice (some ⟨blk, 0, none⟩) m cap) m xs := by
  unfold pkR at k
  split at k
  · exact h.kept k (.inr (fun e => by have q : blk < n0 := hlt _ e.symm; omega))
  · exact own_below h k
theorem heap_new_kept {n0 b : Nat} {o : Obj} {v0 : Value} {i : Nat} {W W' : World} (hlt : ∀ g, v0.ownBlock = some g → g < n0) (hb : n0 ≤ b) (h : W.heap[b]? = some o) (k : pkR v0 i W W') : W'.heap[b]? = some o := by
  unfold pkR at k
  split at k
  · exact (k.block b (heap_lt h) (fun e => by have := hlt _ e.symm; omega)).trans h
  · exact heap_below k h
theorem pkV_stay {B n0 g off n1 c1 : Nat} {x y : Coin} {k : Nat} {xs : List Value} {v0 : Value} (hlt : ∀ g, v0.ownBlock = some g → g < n0) {j i : Nat} {q v : Value} {W W' : World} (h1 : ¬ (j = 22 ∧ i = 22)) (h3 : pkV B n0 g off n1 c1 x y k xs v0 j q v W) (h4 : pkR v0 i W W') : pkV B n0 g off n1 c1 x y k xs v0 j q v W' := by
  unfold pkV at h3 ⊢
  split at h3
  case h_19 =>
    obtain ⟨b, e, hb, hc⟩ := h3
    exact ⟨b, e, hb, heap_new_kept hlt hb hc h4⟩
  case h_20 =>
    obtain ⟨b, c, e, hb, hc⟩ := h3
    exact ⟨b, c, e, hb, kept_new hlt hb hc h4⟩
  case h_21 =>
    obtain ⟨b, c, e, hb, hc⟩ := h3
    exact ⟨b, c, e, hb, kept_new hlt hb hc h4⟩
  case h_22 =>
    obtain ⟨b, b2, c, e, hb, hc, hb2, hc2⟩ := h3
    exact ⟨b, b2, c, e, hb, heap_new_kept hlt hb hc h4, hb2, kept_new hlt hb2 hc2 h4⟩
  case h_23 =>
    obtain ⟨A, c, b, c2, e, hr, hb, hc⟩ := h3
    refine ⟨A, c, b, c2, e, ?_, hb, kept_new hlt hb hc h4⟩
    unfold pkR at h4
    split at h4
    · exact absurd ⟨rfl, rfl⟩ h1
    · exact own_below hr h4
  all_goals first | exact h3 | trivial

set_option maxHeartbeats 8000000 in
set_option maxRecDepth 1000000 in
theorem packages_call (A : Option Addr) (n cap M E : Nat) (L : List Coin) (w : World) (hn : n = L.length) (hcap : n ≤ cap) (hsrc : SrcC w A L) (hle : n ≤ 100000) (hM : 2 * M ≤ 1125899906842624) (hE : E ≤ 100000) (hfit : ∀ c ∈ L, c.n < M ∧ 0 < c.syms.length ∧ c.syms.length ≤ E) :
    Calls Try.prog 28 #[.slice A n cap] w fun e w' => ∃ v l, e = .returned v ∧ RowC w.heap.size w' v l ∧ l.map Coin.plain = packP (L.map Coin.plain) ∧ (∀ c ∈ l, c.n < 2 * M ∧ 0 < c.syms.length ∧ c.syms.length ≤ 2 * E) ∧ RowKit.Below w.heap.size w w' := by
  obtain ⟨i0, hi, hz0, hz1, hz2⟩ := info_parts info54
  have e54 : ∀ args w, (callFunc 54 args).run Try.prog w = .ok (.enter 54 args) w := enters_of Try.func54 (by kernel_rfl) rfl
  have hfit : Hid (∀ c ∈ L, c.n < M ∧ 0 < c.syms.length ∧ c.syms.length ≤ E) := hfit
  go_enter Try.func28, Try.ntmps28
  go_wp2
  go_loopg [0, 3] n (fun kx s0 s3 wr => ∃ (A1 : Option Addr) (n1 c1 : Nat) (l L1 : List Coin), s0 = .slice A1 n1 c1 ∧ n1 = L1.length ∧ n1 ≤ n ∧ n1 ≤ kx ∧ n1 ≤ c1 ∧ SrcC w A1 L1 ∧ RowC w.heap.size wr s3 l ∧ RowKit.Below w.heap.size w wr ∧ l.length + n1 ≤ n ∧ Hid (l.map Coin.plain ++ packP (L1.map Coin.plain) = packP (L.map Coin.plain)) ∧ Hid (∀ c ∈ l, c.n < 2 * M ∧ 0 < c.syms.length ∧ c.syms.length ≤ 2 * E) ∧ Hid (∀ c ∈ L1, c.n < M ∧ 0 < c.syms.length ∧ c.syms.length ≤ E))
  case atStart => exact ⟨A, n, cap, [], L, rfl, hn, Nat.le_refl _, Nat.le_refl _, hcap, hsrc, RowC.nil _ _, Below.refl _ _, by simp, rfl, (fun c hc => by cases hc), hfit⟩
  case round =>
    clear hsrc hfit hn
    obtain ⟨A1, n1, c1, l, L1, rfl, hn1, hnn, hkx, hc1, hsrc, hrow, bel, hln, hpl, hbd, hfit⟩ := hrel
    obtain ⟨A0, c0, rfl, _⟩ := own_form hrow.1
    by_cases hlt : 1 < n1
    · have hltz : (1 : Int) < (n1 : Int) := by omega
      obtain ⟨x, y, L2, rfl⟩ : ∃ x y L2, L1 = x :: y :: L2 := by
        match L1, hn1 with
        | [], h => simp at h; omega
        | [_], h => simp at h; omega
        | x :: y :: L2, _ => exact ⟨x, y, L2, rfl⟩
      obtain ⟨g, off, rfl, hcells⟩ := hsrc.1 (by simp)
      have s0 : w.cell? ⟨g, off, none⟩ = some (.int .i64 (x.n : Int)) := hcells 0 _ rfl
      have s1 : w.cell? ⟨g, off + 1, none⟩ = some x.sl := hcells 1 _ rfl
      have s2 : w.cell? ⟨g, off + 2, none⟩ = some (.int .i64 (y.n : Int)) := hcells 2 _ rfl
      have s3 : w.cell? ⟨g, off + 3, none⟩ = some y.sl := hcells 3 _ rfl
      have hsx : Syms 0 w x := hsrc.2 x (List.mem_cons_self ..)
      have hsy : Syms 0 w y := hsrc.2 y (List.mem_cons_of_mem _ (List.mem_cons_self ..))
      obtain ⟨qx, hx0, hxl'⟩ := hfit.out x (List.mem_cons_self ..)
      obtain ⟨qy, hy0, hyl'⟩ := hfit.out y (List.mem_cons_of_mem _ (List.mem_cons_self ..))
      have hxl : x.syms.length ≤ 100000 := by omega
      have hyl : y.syms.length ≤ 100000 := by omega
      have hsum : x.n + y.n < 1125899906842624 := by omega
      have hw : IntKind.i64.wrap ((x.n : Int) + (y.n : Int)) = (x.n : Int) + (y.n : Int) := by rw [IntKind.wrap_i64]; omega
      have hvlt : ∀ k, (Value.slice A0 l.length c0).ownBlock = some k → k < wr.heap.size := own_lt hrow.1
      have hnes : ∀ c ∈ l, (Value.slice A0 l.length c0).ownBlock ≠ some c.blk := fun c hc => by
        obtain ⟨cs, hcs⟩ := (hrow.2 c hc).tag
        exact own_ne hrow.1 hcs (by decide)
      have hBn : w.heap.size ≤ wr.heap.size := bel.size
      have hn2 : n1 ≤ L2.length + 2 ∧ L2.length + 2 ≤ n1 := by simp at hn1; omega
      clear hcells hn1 hxl' hyl' qx qy hy0
      go_wp2_with fail
      refine RegL.wp_region_end (pkG w.heap.size wr.heap.size l w) (pkU w.heap.size l (.slice A0 l.length c0)) (pkR (.slice A0 l.length c0)) (fun i => i) (pkV w.heap.size wr.heap.size g off n1 c1 x y l.length (l.flatMap encC) (.slice A0 l.length c0))
        [some 9, some 10, some 11, some 12, some 13, some 14, some 15, some 16, some 17, some 18, some 19, some 20, some 21, some 22, some 23, some 24, some 25, some 26, some 27, some 28, some 29, some 30, some 31]
        [[], [], [1], [2], [3], [], [5], [6], [7], [4, 8], [], [10], [11], [12], [], [14], [15], [16], [13, 17], [18], [9, 19], [20], [0, 21, 19]]
        (by kernel_rfl) (by kernel_rfl) (by kernel_rfl) (by kernel_rfl) (by kernel_rfl) (fun i => .inl rfl) ?_ ?_ ?_ ?_ ?_ ?_ ?_
      · exact ⟨below_drew bel, Nat.le_refl _, hrow.2⟩
      · intro i; exact pkU_start hrow.1 i
      · intro i W W' h k2; exact pkG_stay (own_ge hrow.1) hnes h k2
      · intro j i W W' h1 h2 h3 h4; exact pkU_stay (fun h => h1 (h.1.trans h.2.symm)) h3 h4
      · intro j i q v W W' h1 h2 h3 h4; exact pkV_stay hvlt (fun h => h1 (h.2.trans h.1.symm)) h3 h4
      · refine ⟨?_, ?_, ?_, ?_, ?_, ?_, ?_, ?_, ?_, ?_, ?_, ?_, ?_, ?_, ?_, ?_, ?_, ?_, ?_, ?_, ?_, ?_, ?_, trivial⟩
        · intro vals W K hG hU hV hK
          simp only [if_true] at hK
          simp only [Reg.putS, List.foldl, List.headD, List.tail, List.getD_cons_zero, List.getD_cons_succ, Act.put, List.setIfInBounds_toArray, List.set_cons_zero, List.set_cons_succ] at hK ⊢
          go_simp
          first
            | exact hK _ _ (Below.refl _ _) rfl
            | (rw [if_pos (by omega)]; exact hK _ _ (Below.refl _ _) rfl)
            | (rw [dif_pos (by omega)]; exact hK _ _ (Below.refl _ _) rfl)
            | (rw [if_neg (by omega)]; exact hK _ _ (Below.refl _ _) rfl)
        · intro vals W K hG hU hV hK
          simp only [if_true] at hK
          simp only [Reg.putS, List.foldl, List.headD, List.tail, List.getD_cons_zero, List.getD_cons_succ, Act.put, List.setIfInBounds_toArray, List.set_cons_zero, List.set_cons_succ] at hK ⊢
          go_simp
          first
            | exact hK _ _ (Below.refl _ _) rfl
            | (rw [if_pos (by omega)]; exact hK _ _ (Below.refl _ _) rfl)
            | (rw [dif_pos (by omega)]; exact hK _ _ (Below.refl _ _) rfl)
            | (rw [if_neg (by omega)]; exact hK _ _ (Below.refl _ _) rfl)
        · intro vals W K hG hU hV hK
          simp only [if_true] at hK
          have d1 := hV 1 (by simp)
          simp only [pkV] at d1
          simp only [Reg.putS, List.foldl, List.headD, List.tail, List.getD_cons_zero, List.getD_cons_succ, Act.put, List.setIfInBounds_toArray, List.set_cons_zero, List.set_cons_succ, d1] at hK ⊢
          go_simp
          first
            | exact hK _ _ (Below.refl _ _) rfl
            | (rw [if_pos (by omega)]; exact hK _ _ (Below.refl _ _) rfl)
            | (rw [dif_pos (by omega)]; exact hK _ _ (Below.refl _ _) rfl)
            | (rw [if_neg (by omega)]; exact hK _ _ (Below.refl _ _) rfl)
        · intro vals W K hG hU hV hK
          simp only [if_true] at hK
          have d2 := hV 2 (by simp)
          simp only [pkV] at d2
          simp only [Reg.putS, List.foldl, List.headD, List.tail, List.getD_cons_zero, List.getD_cons_succ, Act.put, List.setIfInBounds_toArray, List.set_cons_zero, List.set_cons_succ, d2] at hK ⊢
          go_simp
          first
            | exact hK _ _ (Below.refl _ _) rfl
            | (rw [if_pos (by omega)]; exact hK _ _ (Below.refl _ _) rfl)
            | (rw [dif_pos (by omega)]; exact hK _ _ (Below.refl _ _) rfl)
            | (rw [if_neg (by omega)]; exact hK _ _ (Below.refl _ _) rfl)
        · intro vals W K hG hU hV hK
          simp only [if_true] at hK
          have d3 := hV 3 (by simp)
          simp only [pkV] at d3
          simp only [Reg.putS, List.foldl, List.headD, List.tail, List.getD_cons_zero, List.getD_cons_succ, Act.put, List.setIfInBounds_toArray, List.set_cons_zero, List.set_cons_succ, d3] at hK ⊢
          have hcl := pw_cell_below hG.1 s0
          go_simp
          first
            | exact hK _ _ (Below.refl _ _) rfl
            | (rw [if_pos (by omega)]; exact hK _ _ (Below.refl _ _) rfl)
            | (rw [dif_pos (by omega)]; exact hK _ _ (Below.refl _ _) rfl)
            | (rw [if_neg (by omega)]; exact hK _ _ (Below.refl _ _) rfl)
        · intro vals W K hG hU hV hK
          simp only [if_true] at hK
          simp only [Reg.putS, List.foldl, List.headD, List.tail, List.getD_cons_zero, List.getD_cons_succ, Act.put, List.setIfInBounds_toArray, List.set_cons_zero, List.set_cons_succ] at hK ⊢
          go_simp
          first
            | exact hK _ _ (Below.refl _ _) rfl
            | (rw [if_pos (by omega)]; exact hK _ _ (Below.refl _ _) rfl)
            | (rw [dif_pos (by omega)]; exact hK _ _ (Below.refl _ _) rfl)
            | (rw [if_neg (by omega)]; exact hK _ _ (Below.refl _ _) rfl)
        · intro vals W K hG hU hV hK
          simp only [if_true] at hK
          have d5 := hV 5 (by simp)
          simp only [pkV] at d5
          simp only [Reg.putS, List.foldl, List.headD, List.tail, List.getD_cons_zero, List.getD_cons_succ, Act.put, List.setIfInBounds_toArray, List.set_cons_zero, List.set_cons_succ, d5] at hK ⊢
          go_simp
          first
            | exact hK _ _ (Below.refl _ _) rfl
            | (rw [if_pos (by omega)]; exact hK _ _ (Below.refl _ _) rfl)
            | (rw [dif_pos (by omega)]; exact hK _ _ (Below.refl _ _) rfl)
            | (rw [if_neg (by omega)]; exact hK _ _ (Below.refl _ _) rfl)
        · intro vals W K hG hU hV hK
          simp only [if_true] at hK
          have d6 := hV 6 (by simp)
          simp only [pkV] at d6
          simp only [Reg.putS, List.foldl, List.headD, List.tail, List.getD_cons_zero, List.getD_cons_succ, Act.put, List.setIfInBounds_toArray, List.set_cons_zero, List.set_cons_succ, d6] at hK ⊢
          go_simp
          first
            | exact hK _ _ (Below.refl _ _) rfl
            | (rw [if_pos (by omega)]; exact hK _ _ (Below.refl _ _) rfl)
            | (rw [dif_pos (by omega)]; exact hK _ _ (Below.refl _ _) rfl)
            | (rw [if_neg (by omega)]; exact hK _ _ (Below.refl _ _) rfl)
        · intro vals W K hG hU hV hK
          simp only [if_true] at hK
          have d7 := hV 7 (by simp)
          simp only [pkV] at d7
          simp only [Reg.putS, List.foldl, List.headD, List.tail, List.getD_cons_zero, List.getD_cons_succ, Act.put, List.setIfInBounds_toArray, List.set_cons_zero, List.set_cons_succ, d7] at hK ⊢
          have hcl := pw_cell_below hG.1 s2
          go_simp
          first
            | exact hK _ _ (Below.refl _ _) rfl
            | (rw [if_pos (by omega)]; exact hK _ _ (Below.refl _ _) rfl)
            | (rw [dif_pos (by omega)]; exact hK _ _ (Below.refl _ _) rfl)
            | (rw [if_neg (by omega)]; exact hK _ _ (Below.refl _ _) rfl)
        · intro vals W K hG hU hV hK
          simp only [if_true] at hK
          have d4 := hV 4 (by simp)
          simp only [pkV] at d4
          have d8 := hV 8 (by simp)
          simp only [pkV] at d8
          simp only [Reg.putS, List.foldl, List.headD, List.tail, List.getD_cons_zero, List.getD_cons_succ, Act.put, List.setIfInBounds_toArray, List.set_cons_zero, List.set_cons_succ, d4, d8] at hK ⊢
          go_simp
          first
            | exact hK _ _ (Below.refl _ _) rfl
            | (rw [if_pos (by omega)]; exact hK _ _ (Below.refl _ _) rfl)
            | (rw [dif_pos (by omega)]; exact hK _ _ (Below.refl _ _) rfl)
            | (rw [if_neg (by omega)]; exact hK _ _ (Below.refl _ _) rfl)
        · intro vals W K hG hU hV hK
          simp only [if_true] at hK
          simp only [Reg.putS, List.foldl, List.headD, List.tail, List.getD_cons_zero, List.getD_cons_succ, Act.put, List.setIfInBounds_toArray, List.set_cons_zero, List.set_cons_succ] at hK ⊢
          go_simp
          first
            | exact hK _ _ (Below.refl _ _) rfl
            | (rw [if_pos (by omega)]; exact hK _ _ (Below.refl _ _) rfl)
            | (rw [dif_pos (by omega)]; exact hK _ _ (Below.refl _ _) rfl)
            | (rw [if_neg (by omega)]; exact hK _ _ (Below.refl _ _) rfl)
        · intro vals W K hG hU hV hK
          simp only [if_true] at hK
          have d10 := hV 10 (by simp)
          simp only [pkV] at d10
          simp only [Reg.putS, List.foldl, List.headD, List.tail, List.getD_cons_zero, List.getD_cons_succ, Act.put, List.setIfInBounds_toArray, List.set_cons_zero, List.set_cons_succ, d10] at hK ⊢
          go_simp
          first
            | exact hK _ _ (Below.refl _ _) rfl
            | (rw [if_pos (by omega)]; exact hK _ _ (Below.refl _ _) rfl)
            | (rw [dif_pos (by omega)]; exact hK _ _ (Below.refl _ _) rfl)
            | (rw [if_neg (by omega)]; exact hK _ _ (Below.refl _ _) rfl)
        · intro vals W K hG hU hV hK
          simp only [if_true] at hK
          have d11 := hV 11 (by simp)
          simp only [pkV] at d11
          simp only [Reg.putS, List.foldl, List.headD, List.tail, List.getD_cons_zero, List.getD_cons_succ, Act.put, List.setIfInBounds_toArray, List.set_cons_zero, List.set_cons_succ, d11] at hK ⊢
          go_simp
          first
            | exact hK _ _ (Below.refl _ _) rfl
            | (rw [if_pos (by omega)]; exact hK _ _ (Below.refl _ _) rfl)
            | (rw [dif_pos (by omega)]; exact hK _ _ (Below.refl _ _) rfl)
            | (rw [if_neg (by omega)]; exact hK _ _ (Below.refl _ _) rfl)
        · intro vals W K hG hU hV hK
          simp only [if_true] at hK
          have d12 := hV 12 (by simp)
          simp only [pkV] at d12
          simp only [Reg.putS, List.foldl, List.headD, List.tail, List.getD_cons_zero, List.getD_cons_succ, Act.put, List.setIfInBounds_toArray, List.set_cons_zero, List.set_cons_succ, d12] at hK ⊢
          have hcl := pw_cell_below hG.1 s1
          go_simp
          first
            | exact hK _ _ (Below.refl _ _) rfl
            | (rw [if_pos (by omega)]; exact hK _ _ (Below.refl _ _) rfl)
            | (rw [dif_pos (by omega)]; exact hK _ _ (Below.refl _ _) rfl)
            | (rw [if_neg (by omega)]; exact hK _ _ (Below.refl _ _) rfl)
        · intro vals W K hG hU hV hK
          simp only [if_true] at hK
          simp only [Reg.putS, List.foldl, List.headD, List.tail, List.getD_cons_zero, List.getD_cons_succ, Act.put, List.setIfInBounds_toArray, List.set_cons_zero, List.set_cons_succ] at hK ⊢
          go_simp
          first
            | exact hK _ _ (Below.refl _ _) rfl
            | (rw [if_pos (by omega)]; exact hK _ _ (Below.refl _ _) rfl)
            | (rw [dif_pos (by omega)]; exact hK _ _ (Below.refl _ _) rfl)
            | (rw [if_neg (by omega)]; exact hK _ _ (Below.refl _ _) rfl)
        · intro vals W K hG hU hV hK
          simp only [if_true] at hK
          have d14 := hV 14 (by simp)
          simp only [pkV] at d14
          simp only [Reg.putS, List.foldl, List.headD, List.tail, List.getD_cons_zero, List.getD_cons_succ, Act.put, List.setIfInBounds_toArray, List.set_cons_zero, List.set_cons_succ, d14] at hK ⊢
          go_simp
          first
            | exact hK _ _ (Below.refl _ _) rfl
            | (rw [if_pos (by omega)]; exact hK _ _ (Below.refl _ _) rfl)
            | (rw [dif_pos (by omega)]; exact hK _ _ (Below.refl _ _) rfl)
            | (rw [if_neg (by omega)]; exact hK _ _ (Below.refl _ _) rfl)
        · intro vals W K hG hU hV hK
          simp only [if_true] at hK
          have d15 := hV 15 (by simp)
          simp only [pkV] at d15
          simp only [Reg.putS, List.foldl, List.headD, List.tail, List.getD_cons_zero, List.getD_cons_succ, Act.put, List.setIfInBounds_toArray, List.set_cons_zero, List.set_cons_succ, d15] at hK ⊢
          go_simp
          first
            | exact hK _ _ (Below.refl _ _) rfl
            | (rw [if_pos (by omega)]; exact hK _ _ (Below.refl _ _) rfl)
            | (rw [dif_pos (by omega)]; exact hK _ _ (Below.refl _ _) rfl)
            | (rw [if_neg (by omega)]; exact hK _ _ (Below.refl _ _) rfl)
        · intro vals W K hG hU hV hK
          simp only [if_true] at hK
          have d16 := hV 16 (by simp)
          simp only [pkV] at d16
          simp only [Reg.putS, List.foldl, List.headD, List.tail, List.getD_cons_zero, List.getD_cons_succ, Act.put, List.setIfInBounds_toArray, List.set_cons_zero, List.set_cons_succ, d16] at hK ⊢
          have hcl := pw_cell_below hG.1 s3
          go_simp
          first
            | exact hK _ _ (Below.refl _ _) rfl
            | (rw [if_pos (by omega)]; exact hK _ _ (Below.refl _ _) rfl)
            | (rw [dif_pos (by omega)]; exact hK _ _ (Below.refl _ _) rfl)
            | (rw [if_neg (by omega)]; exact hK _ _ (Below.refl _ _) rfl)
        · intro vals W K hG hU hV hK
          simp only [if_true] at hK
          have d13 := hV 13 (by simp)
          simp only [pkV] at d13
          have d17 := hV 17 (by simp)
          simp only [pkV] at d17
          simp only [Reg.putS, List.foldl, List.headD, List.tail, List.getD_cons_zero, List.getD_cons_succ, Act.put, List.setIfInBounds_toArray, List.set_cons_zero, List.set_cons_succ, d13, d17] at hK ⊢
          go_simp
          exact hK _ _ (balloc (Below.refl _ _) _) ⟨_, rfl, hG.2.1, heap_new W _⟩
        · intro vals W K hG hU hV hK
          simp only [if_true] at hK
          have d18 := hV 18 (by simp)
          simp only [pkV] at d18
          obtain ⟨b18, d18, hge18, hh18⟩ := d18
          simp only [Reg.putS, List.foldl, List.headD, List.tail, List.getD_cons_zero, List.getD_cons_succ, Act.put, List.setIfInBounds_toArray, List.set_cons_zero, List.set_cons_succ, d18] at hK ⊢
          go_simp
          refine (concat_call 0 b18 x y W (hsx.below hG.1) (hsy.below hG.1) hh18 hx0 hxl hyl).mono ?_
          rintro e w2 ⟨blk, cap, rfl, ho, hb⟩
          exact hK _ _ hb ⟨blk, cap, rfl, Nat.le_trans hG.2.1 (own_ge ho blk rfl), own_mono ho (Nat.le_trans hBn hG.2.1)⟩
        · intro vals W K hG hU hV hK
          simp only [if_true] at hK
          have d9 := hV 9 (by simp)
          simp only [pkV] at d9
          have d19 := hV 19 (by simp)
          simp only [pkV] at d19
          obtain ⟨blk19, cap19, d19, hge19, ho19⟩ := d19
          simp only [Reg.putS, List.foldl, List.headD, List.tail, List.getD_cons_zero, List.getD_cons_succ, Act.put, List.setIfInBounds_toArray, List.set_cons_zero, List.set_cons_succ, d9, d19] at hK ⊢
          go_simp
          exact hK _ _ (Below.refl _ _) ⟨blk19, cap19, rfl, hge19, ho19⟩
        · intro vals W K hG hU hV hK
          simp only [if_true] at hK
          have d20 := hV 20 (by simp)
          simp only [pkV] at d20
          obtain ⟨blk20, cap20, d20, hge20, ho20⟩ := d20
          simp only [Reg.putS, List.foldl, List.headD, List.tail, List.getD_cons_zero, List.getD_cons_succ, Act.put, List.setIfInBounds_toArray, List.set_cons_zero, List.set_cons_succ, d20] at hK ⊢
          go_simp
          exact hK _ _ (balloc (Below.refl _ _) _) ⟨_, blk20, cap20, rfl, hG.2.1, heap_new W _, hge20, ho20.alloc _⟩
        · refine Step.step_of ?g ?_
          case g => rfl
          intro A vals W K hA hG hU hV hK
          simp only [if_true] at hK
          have d0 := hV 0 (by simp)
          simp only [pkV] at d0
          have d21 := hV 21 (by simp)
          simp only [pkV] at d21
          obtain ⟨b21, blk21, cap21, d21, hge21, hh21, hgf21, ho21⟩ := d21
          refine wp_append_own _ (.tmp 9) (.tmp 30) 50 rfl w.heap.size 54 i0 _ 2 32 Try.underlying50 hi hz0 hz1 hz2 rfl (by decide) (.slice A0 l.length c0) l.length (l.flatMap encC) ((Step.putE hA rfl (Nat.lt_of_sub_eq_succ rfl)).trans d0) hU ⟨b21, 0, none⟩ 1 1 [.int .i64 ((x.n : Int) + (y.n : Int)), .slice (some ⟨blk21, 0, none⟩) (x.syms.length + y.syms.length) cap21] ((Step.putE hA rfl (Nat.lt_of_sub_eq_succ rfl)).trans d21) rfl ?c1 ?c2 ?c3 ?c4 ?c5 ?c6
          case c1 => intro j u hj; rw [Addr.add_lit, Nat.zero_add]; exact cell_of hh21 (by simpa using hj)
          case c2 => intro u hu; simp at hu; rcases hu with rfl | rfl <;> rfl
          case c3 => unfold maxLen; omega
          case c4 => omega
          case c5 => exact Nat.le_trans hBn hG.2.1
          case c6 =>
            intro v' w' ho hgr _
            obtain ⟨A, c, rfl, _⟩ := own_form ho
            exact hK _ _ hgr ⟨A, c, blk21, cap21, rfl, ho, hgf21, ho21.kept hgr (.inr (fun e => by have q : blk21 < wr.heap.size := hvlt _ e.symm; omega))⟩
      · intro vals W hG hV
        simp only [RegL.LastOp]
        rw [show List.range (List.length [some 9, some 10, some 11, some 12, some 13, some 14, some 15, some 16, some 17, some 18, some 19, some 20, some 21, some 22, some 23, some 24, some 25, some 26, some 27, some 28, some 29, some 30, some 31]) = [0, 1, 2, 3, 4, 5, 6, 7, 8, 9, 10, 11, 12, 13, 14, 15, 16, 17, 18, 19, 20, 21, 22] from rfl]
        have d0 := hV 0 (by decide)
        simp only [pkV] at d0
        have d1 := hV 1 (by decide)
        simp only [pkV] at d1
        have d2 := hV 2 (by decide)
        simp only [pkV] at d2
        have d3 := hV 3 (by decide)
        simp only [pkV] at d3
        have d4 := hV 4 (by decide)
        simp only [pkV] at d4
        have d5 := hV 5 (by decide)
        simp only [pkV] at d5
        have d6 := hV 6 (by decide)
        simp only [pkV] at d6
        have d7 := hV 7 (by decide)
        simp only [pkV] at d7
        have d8 := hV 8 (by decide)
        simp only [pkV] at d8
        have d9 := hV 9 (by decide)
        simp only [pkV] at d9
        have d10 := hV 10 (by decide)
        simp only [pkV] at d10
        have d11 := hV 11 (by decide)
        simp only [pkV] at d11
        have d12 := hV 12 (by decide)
        simp only [pkV] at d12
        have d13 := hV 13 (by decide)
        simp only [pkV] at d13
        have d14 := hV 14 (by decide)
        simp only [pkV] at d14
        have d15 := hV 15 (by decide)
        simp only [pkV] at d15
        have d16 := hV 16 (by decide)
        simp only [pkV] at d16
        have d17 := hV 17 (by decide)
        simp only [pkV] at d17
        have d18 := hV 18 (by decide)
        simp only [pkV] at d18
        obtain ⟨b18, d18, hge18, hh18⟩ := d18
        have d19 := hV 19 (by decide)
        simp only [pkV] at d19
        obtain ⟨blk19, cap19, d19, hge19, ho19⟩ := d19
        have d20 := hV 20 (by decide)
        simp only [pkV] at d20
        obtain ⟨blk20, cap20, d20, hge20, ho20⟩ := d20
        have d21 := hV 21 (by decide)
        simp only [pkV] at d21
        obtain ⟨b21, blk21, cap21, d21, hge21, hh21, hgf21, ho21⟩ := d21
        have d22 := hV 22 (by decide)
        simp only [pkV] at d22
        obtain ⟨A22, c22, blk22, cap22, d22, ho22, hge22, hs22⟩ := d22
        clear hV
        simp only [Reg.putS, List.foldl, List.getD_cons_zero, List.getD_cons_succ, Act.put, List.setIfInBounds_toArray, List.set_cons_zero, List.set_cons_succ, d0, d1, d2, d3, d4, d5, d6, d7, d8, d9, d10, d11, d12, d13, d14, d15, d16, d17, d18, d19, d20, d21, d22]
        clear d0 d1 d2 d3 d4 d5 d6 d7 d8 d9 d10 d11 d12 d13 d14 d15 d16 d17 d18 d19 d20 d21 d22
        go_simp
        obtain ⟨belW, _, hsl⟩ := hG
        have hP : RowC w.heap.size W (.slice A22 (l.length + 1) c22) (l ++ [coin2 x y blk22 cap22 hsum]) := by
          refine ⟨by simpa [encC, Coin.sl, coin2] using ho22, fun c hc => ?_⟩
          rcases List.mem_append.1 hc with hc | hc
          · exact hsl c hc
          · rw [List.mem_singleton.1 hc]; show W.ownsRow _ 3 1 (coin2 x y blk22 cap22 hsum).sl (x.syms ++ y.syms).length _; rw [show (coin2 x y blk22 cap22 hsum).sl = .slice (some ⟨blk22, 0, none⟩) (x.syms.length + y.syms.length) cap22 by simp [Coin.sl, coin2], List.length_append]; exact hs22
        have hq : Hid ((l ++ [coin2 x y blk22 cap22 hsum]).map Coin.plain ++ packP (L2.map Coin.plain) = packP (L.map Coin.plain)) := by
          show _ = _
          rw [← hpl.out, List.map_append, List.append_assoc]
          rfl
        have hm : Hid (∀ c ∈ l ++ [coin2 x y blk22 cap22 hsum], c.n < 2 * M ∧ 0 < c.syms.length ∧ c.syms.length ≤ 2 * E) := by
          show ∀ c ∈ _, _
          intro c hc
          rcases List.mem_append.1 hc with hc | hc
          · exact hbd.out c hc
          · rw [List.mem_singleton.1 hc]
            have b1 := hfit.out x (List.mem_cons_self ..)
            have b2 := hfit.out y (List.mem_cons_of_mem _ (List.mem_cons_self ..))
            refine ⟨by show x.n + y.n < _; omega, ?_, ?_⟩
            · show 0 < (x.syms ++ y.syms).length; rw [List.length_append]; omega
            · show (x.syms ++ y.syms).length ≤ _; rw [List.length_append]; omega
        have hlen : (l ++ [coin2 x y blk22 cap22 hsum]).length = l.length + 1 := by simp
        have hfit2 : Hid (∀ c ∈ L2, c.n < M ∧ 0 < c.syms.length ∧ c.syms.length ≤ E) := (fun c hc => hfit.out c (List.mem_cons_of_mem _ (List.mem_cons_of_mem _ hc)) : ∀ c ∈ L2, _)
        have hsrc2 : SrcC w (some ⟨g, off + 4, none⟩) L2 := src_drop hsrc
        generalize l ++ [coin2 x y blk22 cap22 hsum] = l2 at hP hq hm hlen
        have hsrc3 : c1 = 2 → SrcC w (some ⟨g, off, none⟩) L2 := fun h => by
          have h0 : L2 = [] := List.eq_nil_of_length_eq_zero (by omega)
          subst h0
          exact ⟨fun h => absurd h (by simp), fun c hc => by cases hc⟩
        clear hrow hsl ho22 hs22 bel s0 s1 s2 s3 hpl hbd hfit hsx hsy hsrc
        go_wp2
        · go_roundg (n1 - 2)
          case measure => omega
          case rel => exact ⟨_, n1 - 2, 0, l2, L2, rfl, by omega, by omega, Nat.le_refl _, by omega, hsrc3 (by assumption), hP, belW, by omega, hq, hm, hfit2⟩
        · go_roundg (n1 - 2)
          case measure => omega
          case rel => exact ⟨_, n1 - 2, c1 - 2, l2, L2, rfl, by omega, by omega, Nat.le_refl _, by omega, hsrc2, hP, belW, by omega, hq, hm, hfit2⟩
    · have hltz : ¬ (1 : Int) < (n1 : Int) := by omega
      have hfin : Hid (l.map Coin.plain = packP (L.map Coin.plain)) := by
        show _ = _
        rw [← hpl.out]
        match L1, hn1 with
        | [], _ => simp [packP]
        | [_], _ => simp [packP]
        | _ :: _ :: _, h => simp at h; omega
      clear hpl hfit hsrc hn1
      go_wp2
      go_ret
      first | exact ⟨_, l, rfl, hrow, hfin.out, hbd.out, bel⟩ | exact ⟨_, rfl, l, hrow, hfin.out, hbd.out, bel⟩
end Go.Proofs.Ythgidcfgelpkhaa
