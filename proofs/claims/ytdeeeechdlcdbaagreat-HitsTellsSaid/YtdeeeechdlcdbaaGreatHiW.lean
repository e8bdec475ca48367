/- The walk of hits.Starts. -/
import Derived.Test.YtdeeeechdlcdbaaGreatHiB
import Derived.Test.YtdeeeechdlcdbaaGreatRg
import Derived.Test.YtdeeeechdlcdbaaGreatStep
import Derived.Maps.AppendAt
set_option linter.unusedVariables false
set_option linter.unusedSimpArgs false
namespace Go.Proofs.YtdeeeechdlcdbaaGreat.HiW
open Go Go.RowKit Go.Sort Go.Lib Go.Proofs Go.Proofs.YtdeeeechdlcdbaaGreat Go.Proofs.YtdeeeechdlcdbaaGreat.Base Go.Proofs.YtdeeeechdlcdbaaGreat.DiA Go.Proofs.YtdeeeechdlcdbaaGreat.TcP Go.Proofs.YtdeeeechdlcdbaaGreat.LkM Go.Proofs.YtdeeeechdlcdbaaGreat.LkA Go.Proofs.YtdeeeechdlcdbaaGreat.LkL Go.Proofs.YtdeeeechdlcdbaaGreat.LkN Go.Proofs.YtdeeeechdlcdbaaGreat.HiP Go.Proofs.YtdeeeechdlcdbaaGreat.HiQ Go.Proofs.YtdeeeechdlcdbaaGreat.HiA Go.Proofs.YtdeeeechdlcdbaaGreat.HiB Go.Proofs.YtdeeeechdlcdbaaGreat.RwA
theorem wp_append_own_at {P : Program} (w : World) {o : Oper} {a : Act} {K : Act → World → Prop} {Q : Exit → Act → World → Prop} (s x : Operand) (t : TypeId)
    (ho : o.op = .call { callee := .builtin .append, args := #[s, x], argTypes := #[t, t] })
    (base : Nat) (e : TypeId) (i : TypeInfo) (z : Value) (size bytes : Nat) (ht : P.underlying t = some (.slice e)) (hi : P.info? e = some i) (hz : i.zero = some z)
    (hsize : i.size = size) (hby : i.bytes = bytes) (hzs : z.cells.size = size) (hsz : 0 < size)
    (v : Value) (n : Nat) (xs : List Value) (hs : a.eval s = v) (hown : w.ownsRow base e size v n xs)
    (ad : Addr) (m c : Nat) (news : List Value) (hx : a.eval x = .slice (some ad) m c) (hl : news.length = m * size) (hnews : ∀ j u, news[j]? = some u → w.cell? (ad.add j) = some u) (h1 : ∀ u ∈ news, u.oneCell' = true)
    (h63 : n + m ≤ maxLen) (hbytes : (n + m) * bytes ≤ 140737488355328) (hbase : base ≤ w.heap.size)
    (h : ∀ v' w', w'.ownsRow base e size v' (n + m) (xs ++ news) → w.grownBy w' v.ownBlock → (v'.ownBlock = v.ownBlock ∨ v'.ownBlock = some w.heap.size) → K (a.put o.dst v') w') : o.wp P a w K Q := by
  obtain ⟨v', w', hr, h2, h3, _, h5⟩ := run_append_own_at (P := P) w base t o.type e i z size bytes ht hi hz hsize hby hzs hsz v n xs hown ad m c news hl hnews h1 h63 hbytes hbase
  unfold Oper.wp execOp
  simp only [ho, resolve, invoke, builtin, Sem.run_bind, Sem.run_pure, Result.andThen_ok, List.map_toArray, List.map_cons, List.map_nil, hs, hx, hr]
  exact h v' w' h2 h3 h5
/-- Hits among the arguments. -/
def HIn (w : World) (A : Option Addr) (H : List (Int × Int)) : Prop := 0 < H.length → ∃ b off, A = some ⟨b, off, none⟩ ∧ b < w.heap.size ∧ ∀ j, j < H.length → w.cell? ⟨b, off + j * 2, none⟩ = some (.int .i64 (H.getD j (0, 0)).1) ∧ w.cell? ⟨b, off + j * 2 + 1, none⟩ = some (.int .i64 (H.getD j (0, 0)).2)
theorem HIn.below {w w' : World} {A : Option Addr} {H : List (Int × Int)} (h : HIn w A H) (hb : Below w.heap.size w w') : HIn w' A H := by
  intro hn
  obtain ⟨b, off, h1, h2, h3⟩ := h hn
  exact ⟨b, off, h1, Nat.lt_of_lt_of_le h2 hb.size, fun j hj => ⟨pw_cell_below hb (h3 j hj).1, pw_cell_below hb (h3 j hj).2⟩⟩
/-! ### A row grows by one -/
def stG (w1 w9 : World) (r : Option Nat) (W : World) : Prop := Below w1.heap.size w1 W ∧ w9.heap.size ≤ W.heap.size ∧ ∀ k, k < w9.heap.size → some k ≠ r → W.heap[k]? = w9.heap[k]?
def stU (B m : Nat) (v0 : Value) (xs : List Value) (i : Nat) (W : World) : Prop := match i with
  | 9 => W.ownsRow B 3 1 v0 m xs
  | _ => True
def stR (v0 : Value) (i : Nat) (W W' : World) : Prop := match i with
  | 9 => W.grownBy W' v0.ownBlock
  | _ => Below W.heap.size W W'
def stV (B g n a q x n0 m : Nat) (v0 : Value) (xs : List Value) (i : Nat) (pv v : Value) (W : World) : Prop := match i with
  | 0 => v = .slice (some ⟨g, 0, none⟩) n n
  | 1 => v = .int .i64 (a : Int)
  | 2 => v = .slice (some ⟨g, 0, none⟩) n n
  | 3 => v = .int .i64 (a : Int)
  | 4 => v = .pointer (some ⟨g, a, none⟩)
  | 5 => v = v0
  | 6 => v = .pointer (some ⟨q, 1, none⟩)
  | 7 => v = .int .i64 (x : Int)
  | 8 => ∃ b, v = .slice (some ⟨b, 0, none⟩) 1 1 ∧ n0 ≤ b ∧ W.heap[b]? = some (.cells #[.int .i64 (x : Int)] 3 (0, 0))
  | 9 => W.ownsRow B 3 1 v (m + 1) (xs ++ [.int .i64 (x : Int)]) ∧ (∀ k, v.ownBlock = some k → some k = v0.ownBlock ∨ n0 ≤ k)
  | 10 => v = .pointer (some ⟨g, a, none⟩)
  | _ => True
theorem stR_9 {v0 : Value} {i : Nat} {W W' : World} (h : stR v0 i W W') : (i = 9 ∧ W.grownBy W' v0.ownBlock) ∨ (i ≠ 9 ∧ Below W.heap.size W W') := by
  unfold stR at h
  split at h
  · exact .inl ⟨rfl, h⟩
  · rename_i hne; exact .inr ⟨hne, h⟩
theorem stG_cell {w1 w9 W : World} {r : Option Nat} {a : Addr} {v : Value} (h : stG w1 w9 r W) (hc : w9.cell? a = some v) (hr : some a.block ≠ r) : W.cell? a = some v := by
  have hl := World.block_lt_of_cell? w9 a hc
  unfold World.cell? at hc ⊢
  rw [h.2.2 _ hl hr]; exact hc
theorem stU_start {B m : Nat} {v0 : Value} {xs : List Value} {w : World} (h : w.ownsRow B 3 1 v0 m xs) (i : Nat) : stU B m v0 xs i { heap := w.heap, tape := w.tape, drawn := w.drawn + 1, os := w.os, output := w.output } := by
  unfold stU
  split
  · exact h
  · trivial
theorem stG_stay {w1 w9 : World} {v0 : Value} {i : Nat} {W W' : World} (hge : ∀ k, v0.ownBlock = some k → w1.heap.size ≤ k) (h19 : w1.heap.size ≤ w9.heap.size) (h : stG w1 w9 v0.ownBlock W) (k : stR v0 i W W') : stG w1 w9 v0.ownBlock W' := by
  obtain ⟨h1, h2, h3⟩ := h
  rcases stR_9 k with ⟨_, g⟩ | ⟨_, g⟩
  · exact ⟨h1.grown g (Nat.le_trans h19 h2) hge, Nat.le_trans h2 g.size, fun j hj hr => (g.block j (by omega) hr).trans (h3 j hj hr)⟩
  · exact ⟨h1.trans (g.mono (Nat.le_trans h19 h2)), Nat.le_trans h2 g.size, fun j hj hr => (g.block j (by omega)).trans (h3 j hj hr)⟩
theorem stU_stay {B m i j : Nat} {v0 : Value} {xs : List Value} {W W' : World} (h1 : j ≠ i) (h : stU B m v0 xs j W) (k : stR v0 i W W') : stU B m v0 xs j W' := by
  unfold stU at h ⊢
  split at h
  · rcases stR_9 k with ⟨e, _⟩ | ⟨_, g⟩
    · exact absurd e.symm h1
    · exact own_below h g
  · trivial
theorem stV_stay {B g n a q x n0 m i j : Nat} {v0 p v : Value} {xs : List Value} {W W' : World} (hlt : ∀ k, v0.ownBlock = some k → k < n0) (h1 : i ≠ j) (h : stV B g n a q x n0 m v0 xs j p v W) (k : stR v0 i W W') : stV B g n a q x n0 m v0 xs j p v W' := by
  unfold stV at h ⊢
  split at h
  case h_9 =>
    obtain ⟨b, e, hb, hc⟩ := h
    refine ⟨b, e, hb, ?_⟩
    rcases stR_9 k with ⟨_, g⟩ | ⟨_, g⟩
    · exact (g.block b (heap_lt hc) (fun e => by have := hlt b e.symm; omega)).trans hc
    · exact heap_below g hc
  case h_10 =>
    rcases stR_9 k with ⟨e, _⟩ | ⟨_, g⟩
    · exact absurd e h1
    · exact ⟨own_below h.1 g, h.2⟩
  all_goals first | exact h | trivial
/-- Behind Starts. -/
def StPost (w : World) (zs : List ByteArray) (n : Nat) (H : List (Int × Int)) (e : Ending) (w' : World) : Prop := Below w.heap.size w w' ∧ ∃ g B, e = .returned (.slice (some ⟨g, 0, none⟩) n n) ∧ w.heap.size ≤ g ∧ w.heap.size ≤ B ∧ Rws B g w' (startsL (szk zs) zs.length n H)
theorem mapset_next {L : List (List Nat)} {f : List Nat → List Nat} {i : Nat} (h : i < L.length) : (((L.take i).map f ++ L.drop i).set i (f (((L.take i).map f ++ L.drop i).getD i []))) = (L.take (i + 1)).map f ++ L.drop (i + 1) := by
  have e1 : ((L.take i).map f).length = i := by rw [List.length_map, List.length_take]; omega
  have e2 : L.drop i = L[i] :: L.drop (i + 1) := List.drop_eq_getElem_cons h
  have e3 : ((L.take i).map f ++ L.drop i).getD i [] = L[i] := by
    rw [List.getD_eq_getElem?_getD, List.getElem?_append_right (by omega), e1, Nat.sub_self, e2]; rfl
  rw [e3, List.set_append_right _ _ (by omega), e1, Nat.sub_self, e2, List.set_cons_zero, List.take_succ_eq_append_getElem h, List.map_append, List.append_assoc]
  rfl
theorem mix_len {L : List (List Nat)} {f : List Nat → List Nat} {i : Nat} (h : i ≤ L.length) : ((L.take i).map f ++ L.drop i).length = L.length := by
  rw [List.length_append, List.length_map, List.length_take, List.length_drop]; omega
theorem mix_at {L : List (List Nat)} {f : List Nat → List Nat} {i : Nat} (h : i < L.length) : ((L.take i).map f ++ L.drop i).getD i [] = L.getD i [] := by
  rw [List.getD_eq_getElem?_getD, List.getElem?_append_right (by rw [List.length_map, List.length_take]; omega), List.length_map, List.length_take, Nat.min_eq_left (Nat.le_of_lt h), Nat.sub_self, List.getElem?_drop, Nat.add_zero, List.getD_eq_getElem?_getD]
/-- No row has more numbers than there are hits. -/
theorem add_len {sz : Nat → Nat} {N n : Nat} (x : Int × Int) (L : List (List Nat)) (b : Nat) (h : ∀ i, (L.getD i []).length ≤ b) : ∀ i, ((addHit sz N n L x).getD i []).length ≤ b + 1 := by
  intro i
  unfold addHit
  split
  · split
    · exact Nat.le_succ_of_le (h i)
    · rw [List.getD_eq_getElem?_getD, List.getElem?_set]
      split
      · split
        · rename_i e _; simp only [Option.getD_some, List.length_append, List.length_singleton]; exact Nat.succ_le_succ (h _)
        · simp
      · rw [← List.getD_eq_getElem?_getD]; exact Nat.le_succ_of_le (h i)
  · exact Nat.le_succ_of_le (h i)
set_option maxRecDepth 100000 in
set_option maxHeartbeats 2000000 in
theorem starts_any {Bd : Nat} {w : World} {dv : Value} {zs : List ByteArray} {V : Option Addr} {m cp n : Nat} {H : List (Int × Int)} (hD0 : DV Bd w dv zs) (hp0 : ∀ k, k < zs.length → 1 ≤ szk zs k) (hs0 : ∀ k, szk zs k ≤ 1000) (hz0 : zs.length ≤ 1000) (hn : n ≤ 1024) (hm0 : m = H.length) (hbig : m ≤ 100000) (hH0 : HIn w V H) :
    Calls Tryz.prog 44 #[dv, .int .i64 (n : Int), .slice V m cp] w fun e w' => StPost w zs n H e w' := by
  obtain ⟨i3, hi3, hy0, hy1, hy2⟩ := info_parts info3
  have hmix : Tryz.prog.follows .mixedOrders = true := by kernel_rfl
  have hv : ∃ a, dv = .pointer a := by rcases hD0 with ⟨h, _⟩ | ⟨p, h, _⟩ <;> exact ⟨_, h⟩
  obtain ⟨pd, rfl⟩ := hv
  have hmk := make_rows (n := n) (by omega)
  obtain ⟨w1, hw1⟩ : ∃ w1, w1 = w.alloc (.cells #[.pointer pd] 69) := ⟨_, rfl⟩
  obtain ⟨b0, hb0⟩ : ∃ b0, b0 = w.heap.size := ⟨_, rfl⟩
  have bw1 : Below w.heap.size w w1 := by rw [hw1]; exact balloc (Below.refl _ _) _
  have c0 : w1.cell? ⟨b0, 0, none⟩ = some (.pointer pd) := by rw [hw1, hb0]; exact cell_of (heap_new _ _) rfl
  have hD : Hid (DV Bd w1 (.pointer pd) zs) := hD0.below bw1
  have hHh : Hid (HIn w1 V H) := hH0.below bw1
  have hmh : Hid (m = H.length) := hm0
  have hp : Hid (∀ k, k < zs.length → 1 ≤ szk zs k) := hp0
  have hs : Hid (∀ k, szk zs k ≤ 1000) := hs0
  obtain ⟨B1, hB1⟩ : ∃ B1, B1 = w1.heap.size := ⟨_, rfl⟩
  have hB1h : Hid (B1 = w1.heap.size) := hB1
  obtain ⟨g, hg0⟩ : ∃ g, g = w.heap.size + 1 := ⟨_, rfl⟩
  have hg : g = w1.heap.size := by rw [hg0, hw1]; simp
  have hgB : w1.heap.size ≤ g := by omega
  have R0 := rows_made (B := B1) (n := n) (w := w1) (by omega)
  have bR0 : Below w1.heap.size w1 (w1.alloc (.cells (nilRows n) 31)) := balloc (Below.refl _ _) _
  rw [← hg] at R0
  obtain ⟨FF, hFF⟩ : ∃ FF : Nat → List (List Nat), FF = fun k => (H.take k).foldl (addHit (szk zs) zs.length n) (List.replicate n []) := ⟨_, rfl⟩
  have hF0 : FF 0 = List.replicate n [] := by rw [hFF]; rfl
  have hFs : Hid (∀ k, k < H.length → FF (k + 1) = addHit (szk zs) zs.length n (FF k) (H.getD k (0, 0))) := by
    intro k hk
    rw [hFF]
    show (H.take (k + 1)).foldl _ _ = _
    rw [take_getD H (0, 0) hk, List.foldl_append]; rfl
  have hFe : Hid (FF H.length = startsF (szk zs) zs.length n H) := by
    show _ = _
    rw [hFF]
    show (H.take H.length).foldl _ _ = _
    rw [List.take_length]; rfl
  have hFn : Hid (∀ k, k ≤ H.length → (FF k).length = n) := by
    intro k _
    rw [hFF]
    exact (inv_all hp0 (H.take k) _ _ inv_start).len
  have hFl : Hid (∀ k, k ≤ H.length → ∀ i, ((FF k).getD i []).length ≤ k) := by
    intro k
    induction k with
    | zero => intro _ i; rw [hF0, List.getD_eq_getElem?_getD, List.getElem?_replicate]; split <;> simp
    | succ k ih => intro hk i; rw [hFs.out k (by omega)]; exact add_len _ _ _ (ih (by omega)) i
  rw [← hF0] at R0
  have R0h : Hid (Rws B1 g (w1.alloc (.cells (nilRows n) 31)) (FF 0)) := ⟨_, R0⟩
  have hgl : Hid (g = w1.heap.size) := hg
  have hn1 : ¬ (n : Int) > 1024 := by omega
  have hbw : Hid (Below w.heap.size w w1) := bw1
  have hb0h : Hid (b0 = w.heap.size) := hb0
  clear R0 hFF hF0 hD0 hH0 hm0 hp0 hs0 hB1 bw1
  go_enter Tryz.func44, Tryz.ntmps44
  go_wp2_with fail
  rw [← hw1, ← hg0, ← hb0]
  clear hw1 hb0 hg hg0
  go_loopw [25] (fun s wr => ∃ k : Nat, k ≤ m ∧ s = .int .i64 (k : Int) ∧ Rws B1 g wr (FF k) ∧ Below w1.heap.size w1 wr) (fun s _ => m - (intOf s).toNat)
  case atStart => exact ⟨0, Nat.zero_le _, rfl, R0h.out, bR0⟩
  case round =>
    obtain ⟨k, hk, rfl, hR, br⟩ := hrel
    clear R0h bR0 hmk
    by_cases hlt : k < m
    · have hkd : (k : Int) < (m : Int) := by omega
      have hkH : k < H.length := by rw [← hmh.out]; exact hlt
      obtain ⟨bV, oV, rfl, _, hc⟩ := hHh.out (by omega)
      have l1 := pw_cell_below br (hc k hkH).1
      have l2 := pw_cell_below br (hc k hkH).2
      have hF1 : Hid (FF (k + 1) = addHit (szk zs) zs.length n (FF k) (H.getD k (0, 0))) := hFs.out k hkH
      have hLn := hFn.out k (by omega)
      have hLl := hFl.out k (by omega)
      generalize FF k = L at hR hF1 hLn hLl
      obtain ⟨e1, he1⟩ : ∃ e1, (H.getD k (0, 0)).1 = e1 := ⟨_, rfl⟩
      obtain ⟨d1, hd1⟩ : ∃ d1, (H.getD k (0, 0)).2 = d1 := ⟨_, rfl⟩
      rw [he1] at l1
      rw [hd1] at l2
      have hx : H.getD k (0, 0) = (e1, d1) := Prod.ext he1 hd1
      rw [hx] at hF1
      have x0 : (wr.alloc (.cells #[.int .i64 e1, .int .i64 d1] 93)).cell? ⟨wr.heap.size, 0, none⟩ = some (.int .i64 e1) := cell_of (heap_new _ _) rfl
      have x1 : (wr.alloc (.cells #[.int .i64 e1, .int .i64 d1] 93)).cell? ⟨wr.heap.size, 1, none⟩ = some (.int .i64 d1) := cell_of (heap_new _ _) rfl
      have hq9 : (wr.alloc (.cells #[.int .i64 e1, .int .i64 d1] 93)).heap[wr.heap.size]? = some (.cells #[.int .i64 e1, .int .i64 d1] 93 (0, 0)) := heap_new _ _
      have bW := balloc br (.cells #[.int .i64 e1, .int .i64 d1] 93)
      have hR9 := hR.below (balloc (Below.refl wr.heap.size wr) (.cells #[.int .i64 e1, .int .i64 d1] 93))
      have hc0W := pw_cell_below bW c0
      have hc0A := hc0W
      have cA := at_call (hD.out.below bW) d1
      obtain ⟨W, hW⟩ : ∃ W, W = wr.alloc (.cells #[.int .i64 e1, .int .i64 d1] 93) := ⟨_, rfl⟩
      have hWh : Hid (W = wr.alloc (.cells #[.int .i64 e1, .int .i64 d1] 93)) := hW
      rw [← hW] at x0 x1 bW hR9 hc0W cA hq9
      obtain ⟨q, hq⟩ : ∃ q, q = wr.heap.size := ⟨_, rfl⟩
      have hqh : Hid (q = wr.heap.size) := hq
      rw [← hq] at x0 x1 hq9
      have z1 : IntKind.i64.wrap ((k : Int) + 1) = (k : Int) + 1 := by rw [IntKind.wrap_i64]; omega
      clear hW hq hx he1 hd1 hR
      by_cases hin : 0 ≤ d1 ∧ d1 < (zs.length : Int)
      · obtain ⟨x, rfl⟩ : ∃ x : Nat, d1 = (x : Int) := ⟨d1.toNat, by omega⟩
        have hxl : x < zs.length := by omega
        have hA : atE zs (x : Int) = .returned (.tuple #[.string (zs.getD x ByteArray.empty), .bool true]) := by
          unfold atE; rw [if_pos hin, Int.toNat_natCast]
        rw [hA] at cA
        have hz1 := hp.out x hxl
        have hz2 := hs.out x
        obtain ⟨z, hz⟩ : ∃ z, zs.getD x ByteArray.empty = z := ⟨_, rfl⟩
        have hzs : szk zs x = z.size := by unfold szk; rw [hz]
        rw [hz] at cA
        rw [hzs] at hz1 hz2
        clear hA hz
        by_cases hsm : e1 < (z.size : Int)
        · have t1 : decide (e1 < (z.size : Int)) = true := decide_eq_true hsm
          have hF2 : Hid (FF (k + 1) = L) := by
            show _ = _
            rw [hF1.out]; unfold addHit
            rw [if_neg]
            rw [okHit_iff]; simp only [Int.toNat_natCast]; rw [hzs]; omega
          clear hF1 hsm hin hzs hc hLn hLl
          go_wp2_with fail
          rw [← hWh.out, ← hqh.out]
          clear hWh l1 l2 br hc0A
          refine cA.mono ?_
          rintro e w6 ⟨rfl, hw⟩
          rw [hw]
          clear cA hw w6
          go_wp2_with fail
          go_roundw
          case rel => exact ⟨k + 1, hlt, by go_num, by rw [hF2.out]; exact hR9, bW⟩
          case measure => simp [intOf]; omega
        · have t1 : decide (e1 < (z.size : Int)) = false := decide_eq_false hsm
          by_cases hen : e1 > (n : Int)
          · have t2 : decide (e1 > (n : Int)) = true := decide_eq_true hen
            have hF2 : Hid (FF (k + 1) = L) := by
              show _ = _
              rw [hF1.out]; unfold addHit
              rw [if_neg]
              rw [okHit_iff]; simp only [Int.toNat_natCast]; rw [hzs]; omega
            clear hF1 hsm hin hzs hc hLn hLl hen
            go_wp2_with fail
            rw [← hWh.out, ← hqh.out]
            clear hWh l1 l2 br hc0A
            refine cA.mono ?_
            rintro e w6 ⟨rfl, hw⟩
            rw [hw]
            clear cA hw w6
            go_wp2_with fail
            go_roundw
            case rel => exact ⟨k + 1, hlt, by go_num, by rw [hF2.out]; exact hR9, bW⟩
            case measure => simp [intOf]; omega
          · obtain ⟨a, hae⟩ : ∃ a : Nat, e1 = ((a + z.size : Nat) : Int) := ⟨(e1 - (z.size : Int)).toNat, by omega⟩
            have t2 : decide (e1 > (n : Int)) = false := decide_eq_false hen
            have han : a < n := by omega
            have haz : (a : Int) < (n : Int) := by omega
            have za : IntKind.i64.wrap (e1 - (z.size : Int)) = (a : Int) := by rw [IntKind.wrap_i64]; omega
            have hF2 : Hid (FF (k + 1) = if x ∈ L.getD a [] then L else L.set a (L.getD a [] ++ [x])) := by
              show _ = _
              rw [hF1.out]; unfold addHit hitAt
              have hok : okHit (szk zs) zs.length n (e1, (x : Int)) = true := by
                rw [okHit_iff]; simp only [Int.toNat_natCast]; rw [hzs]; omega
              rw [if_pos hok]
              simp only [Int.toNat_natCast]
              rw [hzs, show (e1 - (z.size : Int)).toNat = a by omega]
            have hLk := hLl a
            have haL : a < L.length := by rw [hLn]; exact han
            obtain ⟨vs, hRv⟩ := hR9
            have hown0 := hRv.own a haL
            have hg0 := hRv.cell haL
            have hga0 : some g ≠ (vs.getD a undef).ownBlock := fun e => hRv.ne haL e.symm
            have hqa : some q ≠ (vs.getD a undef).ownBlock := fun e => own_ne hown0 hq9 (by decide) e.symm
            have hlt0 := own_lt hown0
            have hge0 := own_ge hown0
            have hfin : ∀ (W2 : World), (∀ k, k < W.heap.size → W2.heap[k]? = W.heap[k]?) → W2.heap.size = W.heap.size → ∀ (W' : World) (v' : Value), (∀ k, k < W2.heap.size → some k ≠ (vs.getD a undef).ownBlock → W'.heap[k]? = W2.heap[k]?) → W'.ownsRow B1 3 1 v' ((L.getD a []).length + 1) ((L.getD a []).map encN ++ [.int .i64 (x : Int)]) → (∀ k, v'.ownBlock = some k → some k = (vs.getD a undef).ownBlock ∨ W2.heap.size ≤ k) → Rws B1 g (W'.setCell ⟨g, a, none⟩ v') (L.set a (L.getD a [] ++ [x])) := by
              intro W2 hk2 hs2 W' v' h1 h2 h3
              refine ⟨vs.set a v', hRv.put haL (v := v') (r := L.getD a [] ++ [x]) (w1 := W') (fun k hk hne => ?_) ?_ (fun k hk => ?_)⟩
              · rw [h1 k (by omega) hne, hk2 k hk]
              · rw [List.length_append, List.map_append]; exact h2
              · rcases h3 k hk with h4 | h4
                · exact .inl h4
                · exact .inr (by omega)
            have hfz : ∀ (W2 : World), (∀ k, k < W.heap.size → W2.heap[k]? = W.heap[k]?) → W2.heap.size = W.heap.size → ∀ (W' : World), (∀ k, k < W2.heap.size → some k ≠ (vs.getD a undef).ownBlock → W'.heap[k]? = W2.heap[k]?) → W'.frozen? ⟨g, a, none⟩ = false := by
              intro W2 hk2 hs2 W' h1
              have h4 := hRv.lt
              exact frozen_of (((h1 g (by omega) hga0).trans (hk2 g h4)).trans hRv.head)
            have hR9h : Hid (Rws B1 g W L) := ⟨vs, hRv⟩
            generalize vs.getD a undef = v0 at hown0 hg0 hga0 hqa hlt0 hge0 hfin hfz
            obtain ⟨V0, c0, rfl, _⟩ := own_form hown0
            have cC : ∀ qn, Calls Tryz.prog 82 #[.slice V0 (L.getD a []).length c0, .int .i64 (x : Int)] (W.drewN qn) fun e w' => e = .returned (.bool (decide (x ∈ L.getD a []))) ∧ w' = W.drewN qn := fun qn => contains_call (own_below hown0 (drewN_below (Below.refl _ W))) (by omega) x
            obtain ⟨mr, hmr⟩ : ∃ mr, (L.getD a []).length = mr := ⟨_, rfl⟩
            obtain ⟨xs0, hxs0⟩ : ∃ xs0, (L.getD a []).map encN = xs0 := ⟨_, rfl⟩
            rw [hmr] at hown0 hg0 hga0 hqa hlt0 hge0 cC hfin hfz hLk
            rw [hxs0] at hown0 hfin
            have hfinh : Hid _ := hfin
            have hfzh : Hid _ := hfz
            clear hF1 hsm hin hzs hc hLn hLl hen hRv hmr hxs0 hfin hfz hae
            go_wp2_with fail
            rw [← hWh.out, ← hqh.out]
            clear hWh l1 l2 br hc0A
            refine cA.mono ?_
            rintro e w6 ⟨rfl, hw⟩
            rw [hw]
            clear cA hw w6
            cases hin : decide (x ∈ L.getD a []) with
            | true =>
              have hF3 : Hid (FF (k + 1) = L) := by show _ = _; rw [hF2.out, if_pos (of_decide_eq_true hin)]
              rw [hin] at cC
              go_wp2_with fail
              go_quiet ((with_reducible exact Calls.quiet_of_same (cC _)))
              have b9 := drewN_below (n := nq) bW
              have R9 := hR9h.out.below (drewN_below (n := nq) (Below.refl _ W))
              clear cC hF2 hfinh hfzh hR9h
              go_wp2_with fail
              go_roundw
              case rel => exact ⟨k + 1, hlt, by go_num, by rw [hF3.out]; exact R9, b9⟩
              case measure => simp [intOf]; omega
            | false =>
              have hF1 : Hid (FF (k + 1) = L.set a (L.getD a [] ++ [x])) := by show _ = _; rw [hF2.out, if_neg (of_decide_eq_false hin)]
              rw [hin] at cC
              go_wp2_with fail
              go_quiet ((with_reducible exact Calls.quiet_of_same (cC _)))
              have bel9 := drewN_below (n := nq) bW
              have b9 : Below W.heap.size W (W.drewN nq) := drewN_below (Below.refl _ W)
              have hfin := hfinh.out (W.drewN nq) (fun _ _ => rfl) rfl
              have hfz := hfzh.out (W.drewN nq) (fun _ _ => rfl) rfl
              replace hown0 := own_below hown0 b9
              replace hg0 := pw_cell_below b9 hg0
              have hq1 := pw_cell_below b9 x1
              replace hlt0 : ∀ k, (Value.slice V0 mr c0).ownBlock = some k → k < (W.drewN nq).heap.size := hlt0
              have hw1n : w1.heap.size ≤ (W.drewN nq).heap.size := bel9.size
              have hB9 : B1 ≤ (W.drewN nq).heap.size := by rw [hB1h.out]; exact bel9.size
              clear cC hF2 hfinh hfzh hR9h b9 bW x0 x1 hc0W hq9 hD hHh hp hs hFs hFe hFn hFl
              generalize W.drewN nq = w9 at bel9 hfin hfz hown0 hg0 hq1 hlt0 hw1n hB9 ⊢
              go_wp2_with fail
              refine RegB.wp_region_box (stG w1 w9 (Value.slice V0 mr c0).ownBlock) (stU B1 mr (.slice V0 mr c0) xs0) (stR (.slice V0 mr c0)) (fun i => i) (stV B1 g n a q x w9.heap.size mr (.slice V0 mr c0) xs0)
                [some 64, some 65, some 66, some 67, some 68, some 69, some 70, some 71, some 72, some 73, some 74]
                [[], [], [], [], [2, 3], [4], [], [6], [7], [5, 8], [0, 1, 0, 1, 2, 3, 4, 5, 6, 7, 8, 9]]
                (by kernel_rfl) (by kernel_rfl) (by kernel_rfl) (by kernel_rfl) (by kernel_rfl) (fun i => .inl rfl) ?_ ?_ ?_ ?_ ?_ ?_ ?_
              · exact ⟨below_drew bel9, Nat.le_refl _, fun _ _ _ => rfl⟩
              · intro i; exact stU_start hown0 i
              · intro i W W' h k2; exact stG_stay (fun k hk => by rw [← hB1h.out]; exact hge0 k hk) hw1n h k2
              · intro j i W W' h1 h2 h3 h4
                exact stU_stay h1 h3 h4
              · intro j i p v W W' h1 h2 h3 h4
                exact stV_stay hlt0 h1 h3 h4
              · refine ⟨?_, ?_, ?_, ?_, ?_, ?_, ?_, ?_, ?_, ?_, ?_, trivial⟩
                · intro vals W K hG hU hV hK
                  simp only [if_true] at hK
                  simp only [Reg.putS, List.foldl, List.headD, List.tail, List.getD_cons_zero, List.getD_cons_succ, Act.put, List.setIfInBounds_toArray, List.set_cons_zero, List.set_cons_succ] at hK ⊢
                  go_simp
                  first
                    | exact hK _ _ (Below.refl _ _) rfl
                    | (rw [if_pos (by omega)]; exact hK _ _ (Below.refl _ _) rfl)
                    | (rw [dif_pos (by omega)]; exact hK _ _ (Below.refl _ _) rfl)
                    | (rw [if_neg (by omega)]; exact hK _ _ (Below.refl _ _) rfl)
                · intro vals W K hG hU hV hK
                  simp only [if_true] at hK
                  simp only [Reg.putS, List.foldl, List.headD, List.tail, List.getD_cons_zero, List.getD_cons_succ, Act.put, List.setIfInBounds_toArray, List.set_cons_zero, List.set_cons_succ] at hK ⊢
                  go_simp
                  first
                    | exact hK _ _ (Below.refl _ _) rfl
                    | (rw [if_pos (by omega)]; exact hK _ _ (Below.refl _ _) rfl)
                    | (rw [dif_pos (by omega)]; exact hK _ _ (Below.refl _ _) rfl)
                    | (rw [if_neg (by omega)]; exact hK _ _ (Below.refl _ _) rfl)
                · intro vals W K hG hU hV hK
                  simp only [if_true] at hK
                  simp only [Reg.putS, List.foldl, List.headD, List.tail, List.getD_cons_zero, List.getD_cons_succ, Act.put, List.setIfInBounds_toArray, List.set_cons_zero, List.set_cons_succ] at hK ⊢
                  go_simp
                  first
                    | exact hK _ _ (Below.refl _ _) rfl
                    | (rw [if_pos (by omega)]; exact hK _ _ (Below.refl _ _) rfl)
                    | (rw [dif_pos (by omega)]; exact hK _ _ (Below.refl _ _) rfl)
                    | (rw [if_neg (by omega)]; exact hK _ _ (Below.refl _ _) rfl)
                · intro vals W K hG hU hV hK
                  simp only [if_true] at hK
                  simp only [Reg.putS, List.foldl, List.headD, List.tail, List.getD_cons_zero, List.getD_cons_succ, Act.put, List.setIfInBounds_toArray, List.set_cons_zero, List.set_cons_succ] at hK ⊢
                  go_simp
                  first
                    | exact hK _ _ (Below.refl _ _) rfl
                    | (rw [if_pos (by omega)]; exact hK _ _ (Below.refl _ _) rfl)
                    | (rw [dif_pos (by omega)]; exact hK _ _ (Below.refl _ _) rfl)
                    | (rw [if_neg (by omega)]; exact hK _ _ (Below.refl _ _) rfl)
                · intro vals W K hG hU hV hK
                  simp only [if_true] at hK
                  have d2 := hV 2 (by simp)
                  simp only [stV] at d2
                  have d3 := hV 3 (by simp)
                  simp only [stV] at d3
                  simp only [Reg.putS, List.foldl, List.headD, List.tail, List.getD_cons_zero, List.getD_cons_succ, Act.put, List.setIfInBounds_toArray, List.set_cons_zero, List.set_cons_succ, d2, d3] at hK ⊢
                  go_simp
                  first
                    | exact hK _ _ (Below.refl _ _) rfl
                    | (rw [if_pos (by omega)]; exact hK _ _ (Below.refl _ _) rfl)
                    | (rw [dif_pos (by omega)]; exact hK _ _ (Below.refl _ _) rfl)
                    | (rw [if_neg (by omega)]; exact hK _ _ (Below.refl _ _) rfl)
                · intro vals W K hG hU hV hK
                  simp only [if_true] at hK
                  have d4 := hV 4 (by simp)
                  simp only [stV] at d4
                  simp only [Reg.putS, List.foldl, List.headD, List.tail, List.getD_cons_zero, List.getD_cons_succ, Act.put, List.setIfInBounds_toArray, List.set_cons_zero, List.set_cons_succ, d4] at hK ⊢
                  have hcl : W.cell? ⟨g, a, none⟩ = some (.slice V0 mr c0) := stG_cell hG hg0 hga0
                  go_simp
                  exact hK _ _ (Below.refl _ _) rfl
                · intro vals W K hG hU hV hK
                  simp only [if_true] at hK
                  simp only [Reg.putS, List.foldl, List.headD, List.tail, List.getD_cons_zero, List.getD_cons_succ, Act.put, List.setIfInBounds_toArray, List.set_cons_zero, List.set_cons_succ] at hK ⊢
                  go_simp
                  first
                    | exact hK _ _ (Below.refl _ _) rfl
                    | (rw [if_pos (by omega)]; exact hK _ _ (Below.refl _ _) rfl)
                    | (rw [dif_pos (by omega)]; exact hK _ _ (Below.refl _ _) rfl)
                    | (rw [if_neg (by omega)]; exact hK _ _ (Below.refl _ _) rfl)
                · intro vals W K hG hU hV hK
                  simp only [if_true] at hK
                  have d6 := hV 6 (by simp)
                  simp only [stV] at d6
                  simp only [Reg.putS, List.foldl, List.headD, List.tail, List.getD_cons_zero, List.getD_cons_succ, Act.put, List.setIfInBounds_toArray, List.set_cons_zero, List.set_cons_succ, d6] at hK ⊢
                  have hcl : W.cell? ⟨q, 1, none⟩ = some (.int .i64 (x : Int)) := stG_cell hG hq1 hqa
                  go_simp
                  exact hK _ _ (Below.refl _ _) rfl
                · intro vals W K hG hU hV hK
                  simp only [if_true] at hK
                  have d7 := hV 7 (by simp)
                  simp only [stV] at d7
                  simp only [Reg.putS, List.foldl, List.headD, List.tail, List.getD_cons_zero, List.getD_cons_succ, Act.put, List.setIfInBounds_toArray, List.set_cons_zero, List.set_cons_succ, d7] at hK ⊢
                  go_simp
                  exact hK _ _ (balloc (Below.refl _ _) _) ⟨_, rfl, hG.2.1, heap_new W _⟩
                · refine Step.step_of ?g ?_
                  case g => rfl
                  intro A vals W K hA hG hU hV hK
                  simp only [if_true] at hK
                  have d5 := hV 5 (by simp)
                  simp only [stV] at d5
                  have d8 := hV 8 (by simp)
                  simp only [stV] at d8
                  obtain ⟨b8, d8, hge8, hcell8⟩ := d8
                  refine wp_append_own_at _ (.tmp 69) (.tmp 72) 31 rfl B1 3 i3 (.int .i64 0) 1 8 Tryz.underlying31 hi3 hy0 hy1 hy2 rfl (by decide) (.slice V0 mr c0) mr xs0 ((Step.putE hA rfl (Nat.lt_of_sub_eq_succ rfl)).trans d5) hU ⟨b8, 0, none⟩ 1 1 [.int .i64 (x : Int)] ((Step.putE hA rfl (Nat.lt_of_sub_eq_succ rfl)).trans d8) rfl ?c1 ?c2 ?c3 ?c4 ?c5 ?c6
                  case c1 => intro j u hj; match j, hj with | 0, hj => simp at hj; subst hj; simpa [Addr.add] using cell_of hcell8 rfl | j + 1, hj => simp at hj
                  case c2 => intro u hu; simp at hu; subst hu; rfl
                  case c3 => unfold maxLen; omega
                  case c4 => omega
                  case c5 => exact Nat.le_trans hB9 hG.2.1
                  case c6 => intro v' w' k1 k2 k4; exact hK _ _ k2 ⟨k1, fun k hk => k4.elim (fun e => .inl (by rw [← e]; exact hk.symm)) (fun e => .inr (by rw [e] at hk; have := Option.some.inj hk; have := hG.2.1; omega))⟩
                · intro vals W K hG hU hV hK
                  simp only [if_true] at hK
                  have d0 := hV 0 (by simp)
                  simp only [stV] at d0
                  have d1 := hV 1 (by simp)
                  simp only [stV] at d1
                  have d2 := hV 2 (by simp)
                  simp only [stV] at d2
                  have d3 := hV 3 (by simp)
                  simp only [stV] at d3
                  have d4 := hV 4 (by simp)
                  simp only [stV] at d4
                  have d5 := hV 5 (by simp)
                  simp only [stV] at d5
                  have d6 := hV 6 (by simp)
                  simp only [stV] at d6
                  have d7 := hV 7 (by simp)
                  simp only [stV] at d7
                  simp only [Reg.putS, List.foldl, List.headD, List.tail, List.getD_cons_zero, List.getD_cons_succ, Act.put, List.setIfInBounds_toArray, List.set_cons_zero, List.set_cons_succ, d0, d1, d2, d3, d4, d5, d6, d7] at hK ⊢
                  go_simp
                  first
                    | exact hK _ _ (Below.refl _ _) rfl
                    | (rw [if_pos (by omega)]; exact hK _ _ (Below.refl _ _) rfl)
                    | (rw [dif_pos (by omega)]; exact hK _ _ (Below.refl _ _) rfl)
                    | (rw [if_neg (by omega)]; exact hK _ _ (Below.refl _ _) rfl)
              · intro vals W hG hV
                rw [show List.range (List.length [some 64, some 65, some 66, some 67, some 68, some 69, some 70, some 71, some 72, some 73, some 74]) = [0, 1, 2, 3, 4, 5, 6, 7, 8, 9, 10] from rfl]
                have d0 := hV 0 (by decide)
                simp only [stV] at d0
                have d1 := hV 1 (by decide)
                simp only [stV] at d1
                have d2 := hV 2 (by decide)
                simp only [stV] at d2
                have d3 := hV 3 (by decide)
                simp only [stV] at d3
                have d4 := hV 4 (by decide)
                simp only [stV] at d4
                have d5 := hV 5 (by decide)
                simp only [stV] at d5
                have d6 := hV 6 (by decide)
                simp only [stV] at d6
                have d7 := hV 7 (by decide)
                simp only [stV] at d7
                have d8 := hV 8 (by decide)
                simp only [stV] at d8
                obtain ⟨b8, d8, hge8, hcell8⟩ := d8
                have d9 := hV 9 (by decide)
                simp only [stV] at d9
                obtain ⟨d9, hl9⟩ := d9
                have d10 := hV 10 (by decide)
                simp only [stV] at d10
                clear hV
                obtain ⟨hBW, hnW, hkW⟩ := hG
                have hgW : W.cell? ⟨g, a, none⟩ = some (.slice V0 mr c0) := stG_cell ⟨hBW, hnW, hkW⟩ hg0 hga0
                have hfW : W.frozen? ⟨g, a, none⟩ = false := hfz W hkW
                obtain ⟨V9, c9, e9, _⟩ := own_form d9
                have hput := hfin W _ hkW d9 hl9
                have hBel : Below w1.heap.size w1 (W.setCell ⟨g, a, none⟩ (vals 9)) := hBW.setCell hgB _
                rw [e9] at hput hBel
                have hputh : Hid (Rws B1 g (W.setCell ⟨g, a, none⟩ (.slice V9 (mr + 1) c9)) (L.set a (L.getD a [] ++ [x]))) := hput
                clear hl9 hput hkW hBW hnW hfin hfz hown0 hg0 hga0 hq1 hqa hlt0 hge0
                replace d9 := e9
                clear e9
                refine RegB.Box.mk ?_
                simp only [RegL.LastOp]
                simp only [Reg.putS, List.foldl, List.getD_cons_zero, List.getD_cons_succ, Act.put, List.setIfInBounds_toArray, List.set_cons_zero, List.set_cons_succ, d0, d1, d2, d3, d4, d5, d6, d7, d9, d10]
                clear d0 d1 d2 d3 d4 d5 d6 d7 d9 d10
                go_simp
                clear hgW hfW
                generalize W.setCell ⟨g, a, none⟩ (.slice V9 (mr + 1) c9) = w5 at hputh hBel ⊢
                go_wp2_with fail
                go_roundw
                case rel => exact ⟨k + 1, hlt, by go_num, by rw [hF1.out]; exact hputh.out, hBel⟩
                case measure => simp [intOf]; omega
      · have hA : atE zs d1 = .returned (.tuple #[.string ⟨#[]⟩, .bool false]) := if_neg hin
        rw [hA] at cA
        have hF2 : Hid (FF (k + 1) = L) := by
          show _ = _
          rw [hF1.out]; unfold addHit
          rw [if_neg]
          rw [okHit_iff]; intro h; exact hin ⟨h.1, h.2.1⟩
        clear hF1 hin hc hLn hLl hA
        go_wp2_with fail
        rw [← hWh.out, ← hqh.out]
        clear hWh l1 l2 br hc0A
        refine cA.mono ?_
        rintro e w6 ⟨rfl, hw⟩
        rw [hw]
        clear cA hw w6
        go_wp2_with fail
        go_roundw
        case rel => exact ⟨k + 1, hlt, by go_num, by rw [hF2.out]; exact hR9, bW⟩
        case measure => simp [intOf]; omega
    · have hkd : ¬ (k : Int) < (m : Int) := by omega
      have hkm : k = H.length := by have := hmh.out; omega
      have hRm : Rws B1 g wr (startsF (szk zs) zs.length n H) := by rw [← hFe.out, ← hkm]; exact hR
      have hLn : (startsF (szk zs) zs.length n H).length = n := by rw [← hFe.out]; exact hFn.out _ (Nat.le_refl _)
      have hLl : ∀ i, ((startsF (szk zs) zs.length n H).getD i []).length ≤ 100000 := fun i => by rw [← hFe.out]; have := hFl.out _ (Nat.le_refl _) i; omega
      obtain ⟨SF, hSF⟩ : ∃ SF, startsF (szk zs) zs.length n H = SF := ⟨_, rfl⟩
      have hSFh : Hid (startsF (szk zs) zs.length n H = SF) := hSF
      rw [hSF] at hRm hLn hLl
      have hLnh : Hid (SF.length = n) := hLn
      have hLlh : Hid (∀ i, (SF.getD i []).length ≤ 100000) := hLl
      have hR2 : Hid (Rws B1 g wr ((SF.take 0).map (rowS (szk zs)) ++ SF.drop 0)) := hRm
      clear hR hkm hRm hLn hLl hSF hFs hFe hFn hFl
      go_wp2_with fail
      go_loopw [78] (fun s wr2 => ∃ i : Nat, i ≤ n ∧ s = .int .i64 (i : Int) ∧ Rws B1 g wr2 ((SF.take i).map (rowS (szk zs)) ++ SF.drop i) ∧ Below w1.heap.size w1 wr2) (fun s _ => n - (intOf s).toNat)
      case atStart => exact ⟨0, Nat.zero_le _, rfl, hR2.out, br⟩
      case round =>
        clear br hR2
        obtain ⟨i, hi, rfl, hR, bel⟩ := hrel
        by_cases hin : i < n
        · have hid : (i : Int) < (n : Int) := by omega
          have hid2 : decide ((i : Int) < (n : Int)) = true := decide_eq_true hid
          have hiS : i < SF.length := by rw [hLnh.out]; exact hin
          have hmx : i < ((SF.take i).map (rowS (szk zs)) ++ SF.drop i).length := by rw [mix_len (Nat.le_of_lt hiS)]; exact hiS
          have hnx := mapset_next (f := rowS (szk zs)) hiS
          obtain ⟨vs, hRv⟩ := hR
          have hown := hRv.own i hmx
          have hcell := hRv.cell hmx
          rw [mix_at hiS] at hown hnx
          have hli := hLlh.out i
          have cS := sort_row (b := b0) (dv := .pointer pd) (Bd := Bd) hown (by omega) (fun k => Nat.le_trans (hs.out k) (by decide)) (fun W2 hg2 => by
            have b2 := bel.grown hg2 bel.size (fun k hk => by have := own_ge hown k hk; have := hB1h.out; omega)
            exact ⟨hD.out.below b2, pw_cell_below b2 c0⟩)
          have hfin : Hid (∀ w5 : World, w5.ownsRow B1 3 1 (vs.getD i undef) (SF.getD i []).length ((rowS (szk zs) (SF.getD i [])).map encN) → wr.grownBy w5 (vs.getD i undef).ownBlock → Rws B1 g w5 ((SF.take (i + 1)).map (rowS (szk zs)) ++ SF.drop (i + 1)) ∧ Below w1.heap.size w1 w5) := by
            intro w5 h1 h2
            refine ⟨⟨vs, ?_⟩, bel.grown h2 bel.size (fun k hk => by have := own_ge hown k hk; have := hB1h.out; omega)⟩
            rw [← hnx]
            refine hRv.turned hmx (fun k hk hne => h2.block k hk hne) ?_
            rw [(rowS_perm _).length_eq]
            exact h1
          have z1 : IntKind.i64.wrap ((i : Int) + 1) = (i : Int) + 1 := by rw [IntKind.wrap_i64]; omega
          generalize vs.getD i undef = v0 at hown hcell cS hfin
          obtain ⟨V0, c0', rfl, _⟩ := own_form hown
          have hc0w := pw_cell_below bel c0
          clear hRv hown hnx hmx hiS hli bel
          go_wp2_with fail
          refine cS.mono ?_
          rintro e w5 ⟨rfl, h5, g5⟩
          obtain ⟨k1, k2⟩ := hfin.out w5 h5 g5
          clear cS h5 g5 hfin hcell
          go_wp2_with fail
          go_roundw
          case rel => exact ⟨i + 1, hin, by go_num, k1, k2⟩
          case measure => simp [intOf]; omega
        · have hid : ¬ (i : Int) < (n : Int) := by omega
          have hid2 : decide ((i : Int) < (n : Int)) = false := decide_eq_false hid
          obtain rfl : i = n := by omega
          have hfin : Hid (StPost w zs i H (.returned (.slice (some ⟨g, 0, none⟩) i i)) wr) := by
            refine ⟨hbw.out.trans (bel.mono hbw.out.size), g, B1, rfl, by have := hbw.out.size; have := hgl.out; omega, by have := hbw.out.size; have := hB1h.out; omega, ?_⟩
            unfold startsL
            rw [hSFh.out]
            have e : (SF.take i).map (rowS (szk zs)) ++ SF.drop i = SF.map (rowS (szk zs)) := by
              rw [← hLnh.out, List.take_length, List.drop_length, List.append_nil]
            rw [← e]; exact hR
          clear hR
          go_wp2_with fail
          go_ret
          exact hfin.out
end Go.Proofs.YtdeeeechdlcdbaaGreat.HiW
