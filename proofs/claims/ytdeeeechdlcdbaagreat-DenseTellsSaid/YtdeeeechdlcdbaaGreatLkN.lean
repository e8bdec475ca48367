/- The walk of links.New. -/
import Derived.Test.YtdeeeechdlcdbaaGreatLm
import Derived.Test.YtdeeeechdlcdbaaGreatLkQ
import Derived.Test.YtdeeeechdlcdbaaGreatLp
import Derived.Test.YtdeeeechdlcdbaaGreatRg
import Derived.Test.YtdeeeechdlcdbaaGreatT1
import Derived.Test.YtdeeeechdlcdbaaGreatTcP
import Derived.OneCell
set_option linter.unusedVariables false
set_option linter.unusedSimpArgs false
namespace Go.Proofs.YtdeeeechdlcdbaaGreat.LkN
open Go Go.RowKit Go.Sort Go.Lib Go.Proofs Go.Proofs.YtdeeeechdlcdbaaGreat Go.Proofs.YtdeeeechdlcdbaaGreat.Base Go.Proofs.YtdeeeechdlcdbaaGreat.DiA Go.Proofs.YtdeeeechdlcdbaaGreat.DiC Go.Proofs.YtdeeeechdlcdbaaGreat.TrP Go.Proofs.YtdeeeechdlcdbaaGreat.TrM Go.Proofs.YtdeeeechdlcdbaaGreat.TrA Go.Proofs.YtdeeeechdlcdbaaGreat.TrD Go.Proofs.YtdeeeechdlcdbaaGreat.TrE Go.Proofs.YtdeeeechdlcdbaaGreat.TtP Go.Proofs.YtdeeeechdlcdbaaGreat.TrQ Go.Proofs.YtdeeeechdlcdbaaGreat.TcP Go.Proofs.YtdeeeechdlcdbaaGreat.TwA Go.Proofs.YtdeeeechdlcdbaaGreat.LkA Go.Proofs.YtdeeeechdlcdbaaGreat.LkP Go.Proofs.YtdeeeechdlcdbaaGreat.LkM Go.Proofs.YtdeeeechdlcdbaaGreat.LkL Go.Proofs.YtdeeeechdlcdbaaGreat.LkO Go.Proofs.YtdeeeechdlcdbaaGreat.LkQ Go.Proofs.YtdeeeechdlcdbaaGreat.ScP
def zer (n : Nat) : Array Value := ((List.replicate n 0).map encN).toArray
theorem info3 : (Tryz.prog.info? 3).map (fun i => (i.zero, i.size, i.bytes)) = some (some (.int .i64 0), 1, 8) := by kernel_rfl
theorem made_zer (n : Nat) : madeCells (Value.int .i64 0).cells (n * 1) = zer n := by
  unfold madeCells zer
  refine Array.ext (by simp) fun i h1 h2 => ?_
  simp [Value.cells, encN, Nat.mod_one]
theorem make_run {n : Nat} (hn : n ≤ 1000000) (W : World) : (Instr.makeSlice 31 (.int .i64 (n : Int)) (.int .i64 (n : Int))).run Tryz.prog W = .ok (.slice (some ⟨W.heap.size, 0, none⟩) n n) (W.alloc (.cells (zer n) 3)) := by
  obtain ⟨i0, hi, hz0, hz1, hz2⟩ := info_parts info3
  have h := run_make (P := Tryz.prog) W 31 3 i0 (.int .i64 0) Tryz.underlying31 hi hz0 .i64 .i64 (n : Int) (n : Int) (by omega) (Int.le_refl _) (by rw [hz2]; omega) (by omega)
  rw [hz1, Int.toNat_natCast, made_zer] at h
  exact h
def nwV (px n B1 : Nat) (i : Nat) (_pv v : Value) (W : World) : Prop := match i with
  | 0 => v = .pointer (some ⟨px, 0, none⟩)
  | 1 => v = .pointer (some ⟨px, 0, none⟩)
  | 2 => v = .int .i64 (n : Int)
  | 3 => ∃ g, v = .slice (some ⟨g, 0, none⟩) n n ∧ B1 ≤ g ∧ W.heap[g]? = some (.cells (zer n) 3 (0, 0))
  | 4 => v = .pointer (some ⟨px, 0, none⟩)
  | 5 => v = .int .i64 (n : Int)
  | 6 => ∃ g, v = .slice (some ⟨g, 0, none⟩) n n ∧ B1 ≤ g ∧ W.heap[g]? = some (.cells (zer n) 3 (0, 0))
  | 7 => ∃ g1 g2, v = .agg #[.pointer (some ⟨px, 0, none⟩), .slice (some ⟨g1, 0, none⟩) n n, .slice (some ⟨g2, 0, none⟩) n n, .slice none 0 0] ∧ B1 ≤ g1 ∧ B1 ≤ g2 ∧ g1 ≠ g2 ∧ W.heap[g1]? = some (.cells (zer n) 3 (0, 0)) ∧ W.heap[g2]? = some (.cells (zer n) 3 (0, 0))
  | 8 => ∃ p g1 g2, v = .pointer (some ⟨p, 0, none⟩) ∧ B1 ≤ p ∧ B1 ≤ g1 ∧ B1 ≤ g2 ∧ g1 ≠ g2 ∧ W.heap[p]? = some (.cells #[.pointer (some ⟨px, 0, none⟩), .slice (some ⟨g1, 0, none⟩) n n, .slice (some ⟨g2, 0, none⟩) n n, .slice none 0 0] 80 (0, 0)) ∧ W.heap[g1]? = some (.cells (zer n) 3 (0, 0)) ∧ W.heap[g2]? = some (.cells (zer n) 3 (0, 0))
  | 9 => ∃ p g1 g2, v = .pointer (some ⟨p, 0, none⟩) ∧ B1 ≤ p ∧ B1 ≤ g1 ∧ B1 ≤ g2 ∧ g1 ≠ g2 ∧ W.heap[p]? = some (.cells #[.pointer (some ⟨px, 0, none⟩), .slice (some ⟨g1, 0, none⟩) n n, .slice (some ⟨g2, 0, none⟩) n n, .slice none 0 0] 80 (0, 0)) ∧ W.heap[g1]? = some (.cells (zer n) 3 (0, 0)) ∧ W.heap[g2]? = some (.cells (zer n) 3 (0, 0))
  | _ => True
def nwR (n : Nat) (i : Nat) (W : World) (v : Value) (W' : World) : Prop := Below W.heap.size W W' ∧ (i = 3 ∨ i = 6 → ∃ g, v = .slice (some ⟨g, 0, none⟩) n n ∧ W.heap.size ≤ g)
def nwX (i : Nat) (v : Value) (j : Nat) (u : Value) : Prop := (i = 3 ∧ j = 6 ∨ i = 6 ∧ j = 3) → v ≠ u
theorem nwX_sym (i : Nat) (v : Value) (j : Nat) (u : Value) (h : nwX i v j u) : nwX j u i v := fun k e => h (by rcases k with ⟨a, b⟩ | ⟨a, b⟩ <;> simp [a, b]) e.symm
theorem nwV_stay {px n B1 i j : Nat} {p v x : Value} {W W' : World} (h : nwV px n B1 j p v W) (k : nwR n i W x W') : nwV px n B1 j p v W' := by
  unfold nwV at h ⊢
  split at h
  · exact h
  · exact h
  · exact h
  · obtain ⟨g, h1, h2, h3⟩ := h; exact ⟨g, h1, h2, heap_below k.1 h3⟩
  · exact h
  · exact h
  · obtain ⟨g, h1, h2, h3⟩ := h; exact ⟨g, h1, h2, heap_below k.1 h3⟩
  · obtain ⟨g1, g2, h1, h2, h3, h4, h5, h6⟩ := h; exact ⟨g1, g2, h1, h2, h3, h4, heap_below k.1 h5, heap_below k.1 h6⟩
  · obtain ⟨p, g1, g2, h1, h2, h3, h4, h5, h6, h7, h8⟩ := h; exact ⟨p, g1, g2, h1, h2, h3, h4, h5, heap_below k.1 h6, heap_below k.1 h7, heap_below k.1 h8⟩
  · obtain ⟨p, g1, g2, h1, h2, h3, h4, h5, h6, h7, h8⟩ := h; exact ⟨p, g1, g2, h1, h2, h3, h4, h5, heap_below k.1 h6, heap_below k.1 h7, heap_below k.1 h8⟩
  · trivial
theorem nwX_born {px n B1 : Nat} (i j : Nat) (p u : Value) (W : World) (v : Value) (W' : World) (_ : i ≠ j) (h : nwV px n B1 j p u W) (k : nwR n i W v W') : nwX i v j u := by
  rintro (⟨rfl, rfl⟩ | ⟨rfl, rfl⟩)
  · obtain ⟨g, rfl, hg⟩ := k.2 (.inl rfl)
    simp only [nwV] at h
    obtain ⟨g', rfl, _, h3⟩ := h
    have := heap_lt h3
    intro e
    injection e with e _ _
    injection e with e
    injection e with e
    omega
  · obtain ⟨g, rfl, hg⟩ := k.2 (.inr rfl)
    simp only [nwV] at h
    obtain ⟨g', rfl, _, h3⟩ := h
    have := heap_lt h3
    intro e
    injection e with e _ _
    injection e with e
    injection e with e
    omega
theorem LkMem.set3 {w : World} {p px g1 g2 n : Nat} {vl : Value} {F O : List Nat} (h : LkMem w p px g1 g2 n vl F O) (v : Value) : LkMem (w.setCell ⟨p, 3, none⟩ v) p px g1 g2 n v F O := by
  refine ⟨?_, ?_, ?_, h.fl, h.ol, h.ne⟩
  · rw [heap_setN h.head]; rfl
  · rw [Below.heap_setCell _ _ _ _ h.p1.symm]; exact h.f
  · rw [Below.heap_setCell _ _ _ _ h.p2.symm]; exact h.o
theorem LkMem.grown {w w' : World} {p px g1 g2 n B2 : Nat} {vl v : Value} {F O : List Nat} (h : LkMem w p px g1 g2 n vl F O) (hg : w.grownBy w' v.ownBlock) (hp : p < B2) (h1 : g1 < B2) (h2 : g2 < B2) (hge : ∀ k, v.ownBlock = some k → B2 ≤ k) : LkMem w' p px g1 g2 n vl F O := by
  have e : ∀ g, g < B2 → some g ≠ v.ownBlock := fun g hg e => by have := hge g e.symm; omega
  exact ⟨(hg.block p (heap_lt h.head) (e p hp)).trans h.head, (hg.block g1 (heap_lt h.f) (e g1 h1)).trans h.f, (hg.block g2 (heap_lt h.o) (e g2 h2)).trans h.o, h.fl, h.ol, h.ne⟩
theorem LkMem.kept {w w' : World} {p px g1 g2 n : Nat} {vl : Value} {F O : List Nat} (h : LkMem w p px g1 g2 n vl F O) (hk : ∀ k, k = p ∨ k = g1 ∨ k = g2 → w'.heap[k]? = w.heap[k]?) : LkMem w' p px g1 g2 n vl F O :=
  ⟨(hk p (.inl rfl)).trans h.head, (hk g1 (.inr (.inl rfl))).trans h.f, (hk g2 (.inr (.inr rfl))).trans h.o, h.fl, h.ol, h.ne⟩
/-- What a sort leaves: all other blocks. -/
theorem SW_twin {w W : World} {blk off : Nat} {d : Array Nat} (h : SW encN w blk off d W) : LkL.Twin blk blk w W := by
  obtain ⟨q, os, rfl⟩ := h
  refine ⟨rfl, rfl, rfl, ?_, fun k hk h1 _ => ?_⟩
  · exact (SW.le ⟨q, os, rfl⟩)
  · unfold sortWorld
    show ((putRow encN (Sort.ahead w q) blk off d).heap ++ os)[k]? = _
    have e : (putRow encN (Sort.ahead w q) blk off d).heap = w.heap.modify blk (onCells (putCells encN off d)) := rfl
    rw [Array.getElem?_append_left (by rw [e]; simpa using hk), e, Array.getElem?_modify, if_neg (fun e => h1 e.symm)]
theorem SW_row {w W : World} {B g n cap : Nat} {xs : List Value} {d : Array Nat} (hr : w.ownsRow B 3 1 (.slice (some ⟨g, 0, none⟩) n cap) n xs) (h : SW encN w g 0 d W) (hd : d.size = n) : W.ownsRow B 3 1 (.slice (some ⟨g, 0, none⟩) n cap) n (d.toList.map encN) := by
  obtain ⟨q, os, rfl⟩ := h
  rcases hr.2 with ⟨h1, _⟩ | ⟨g', cap', cur, h1, h2, h3, h4, h5, h6, h7⟩
  · cases h1
  · injection h1 with e1 e2 e3
    injection e1 with e1
    injection e1 with e1
    subst e1; subst e3
    refine ⟨by simp [hd], .inr ⟨g, cap, putCells encN 0 d cur, rfl, h2, ?_, h4, h5, ?_, ?_⟩⟩
    · unfold sortWorld
      show ((putRow encN (Sort.ahead w q) g 0 d).heap ++ os)[g]? = _
      have e : (putRow encN (Sort.ahead w q) g 0 d).heap = w.heap.modify g (onCells (putCells encN 0 d)) := rfl
      rw [Array.getElem?_append_left (by rw [e]; simpa using heap_lt h3), e, Array.getElem?_modify, if_pos rfl, h3]
      rfl
    · unfold putCells; simp; omega
    · unfold putCells
      apply List.ext_getElem
      · simp [hd]; omega
      · intro j j1 j2
        have hj : j < n := by simp at j1; omega
        rw [List.getElem_take, Array.getElem_toList, Array.getElem_mapIdx, if_pos (by omega), List.getElem_map, Nat.sub_zero, getElem!_pos d j (by omega)]
        rfl
theorem holds_of {w : World} {B g n cap : Nat} {d : Array Nat} (hr : w.ownsRow B 3 1 (.slice (some ⟨g, 0, none⟩) n cap) n (d.toList.map encN)) : Holds encN w g 0 d := by
  intro j hj
  have hc := World.ownsRow.cells (g := g) hr rfl
  have hd : d.size = n := by have := hr.1; simpa using this
  refine ⟨?_, World.ownsRow.frozenAt hr _⟩
  have := hc j (encN d[j]!) (by rw [List.getElem?_map, List.getElem?_eq_getElem (by simpa using hj)]; simp [getElem!_pos d j hj])
  rw [Addr.add_lit] at this
  exact this
theorem ltOf_dep (X : List Pn) : ltOf (fun x y : Nat => (dep X x : Int) - (dep X y : Int)) = fun x y => decide (dep X x < dep X y) := by
  funext x y
  show decide ((dep X x : Int) - (dep X y : Int) < 0) = decide (dep X x < dep X y)
  exact decide_eq_decide.2 (by omega)
theorem swo_dep (X : List Pn) : SWO (ltOf (fun x y : Nat => (dep X x : Int) - (dep X y : Int))) := by
  rw [ltOf_dep]
  exact ⟨fun x => by simp, fun x y z h1 h2 => by simp at *; omega, fun x y z h1 h2 => by simp at *; omega⟩
theorem sorted_ord (X : List Pn) (n : Nat) : sortedBy (ltOf (fun x y : Nat => (dep X x : Int) - (dep X y : Int))) (List.range n) = ordL (dep X) n := by
  unfold sortedBy ordL
  rw [ltOf_dep]
  congr 1
  funext x y
  by_cases h : dep X x ≤ dep X y
  · simp [h]; try omega
  · simp [h]; try omega
/-- Behind links.New. -/
def LinksPost (B : Nat) (w : World) (px m : Nat) (N : List Nd) (X : List Pn) (e : Ending) (w' : World) : Prop := Below w.heap.size w w' ∧
  ∃ p F O L, e = .returned (.pointer (some ⟨p, 0, none⟩)) ∧ LkAt B w' p px N m F O L ∧ LkOk X F O L
set_option maxRecDepth 100000 in
set_option maxHeartbeats 8000000 in
theorem new_any {B px m n : Nat} {N : List Nd} {X : List Pn} {zs : List ByteArray} {w : World} (tri0 : TrieAt B w px N m) (hX0 : N.map (·.p) = X) (hT0 : Tr zs X) (hn : N.length = n) (hbig : n ≤ 100000) :
    Calls Tryz.prog 49 #[.pointer (some ⟨px, 0, none⟩)] w fun e w' => LinksPost B w px m N X e w' := by
  obtain ⟨i3, hi3, hy0, hy1, hy2⟩ := info_parts info3
  have hmk := make_run (n := n) (by omega)
  obtain ⟨w1, hw1⟩ : ∃ w1, w1 = w.alloc (.cells #[.pointer (some ⟨px, 0, none⟩)] 46) := ⟨_, rfl⟩
  obtain ⟨b0, hb0⟩ : ∃ b0, b0 = w.heap.size := ⟨_, rfl⟩
  have c0 : w1.cell? ⟨b0, 0, none⟩ = some (.pointer (some ⟨px, 0, none⟩)) := by rw [hw1, hb0]; exact cell_of (heap_new _ _) rfl
  have bw1 : Below w.heap.size w w1 := by rw [hw1]; exact balloc (Below.refl _ _) _
  have tri : TrieAt B w1 px N m := tri0.below bw1
  have hB : B ≤ w1.heap.size := by have := tri.ge; obtain ⟨v, h, _⟩ := tri.row; have := heap_lt h; omega
  have hX : Hid (N.map (·.p) = X) := hX0
  have hT : Hid (Tr zs X) := hT0
  have hnh : Hid (N.length = n) := hn
  have hXn : Hid (X.length = n) := by show _ = _; rw [← hX0, List.length_map, hn]
  have hn0 : 0 < n := by have := hT0.good.pos; rw [hXn.out] at this; exact this
  clear tri0 hX0 hT0
  go_enter Tryz.func49, Tryz.ntmps49
  go_wp2_with fail
  rw [← hw1, ← hb0]
  clear hw1 hb0
  refine RegX.wp_region_lists (fun W => Below w1.heap.size w1 W) (fun _ _ => True) (nwR n) (fun i => i) (nwV px n w1.heap.size) nwX
    [some 13, some 14, some 15, some 16, some 17, some 18, some 19, some 20, some 21, some 3]
    [[], [], [1], [2, 2], [], [4, 2], [5, 5], [0, 3, 6], [7], [8, 5, 0, 1, 2, 3, 4, 5, 6, 7, 8]]
    (by kernel_rfl) (by kernel_rfl) (by kernel_rfl) (fun i => .inl rfl) (below_drew (Below.refl _ _)) (fun _ => trivial) (fun i W x W' h k => bstep h k.1) (fun _ _ _ _ _ _ _ _ _ => trivial) (fun j i p v W x W' _ _ h k => nwV_stay h k) nwX_born nwX_sym ?_ ?_
  · refine ⟨?_, ?_, ?_, ?_, ?_, ?_, ?_, ?_, ?_, ?_, trivial⟩
    · intro vals W K hG hU hV hX hK
      simp only [if_true] at hK
      simp only [Reg.putS, List.foldl, List.headD, List.tail, List.getD_cons_zero, List.getD_cons_succ, Act.put, List.setIfInBounds_toArray, List.set_cons_zero, List.set_cons_succ] at hK ⊢
      have hcl : W.cell? ⟨b0, 0, none⟩ = some (.pointer (some ⟨px, 0, none⟩)) := pw_cell_below hG c0
      go_simp
      exact hK _ _ ⟨Below.refl _ _, fun h => absurd h (by decide)⟩ rfl
    · intro vals W K hG hU hV hX hK
      simp only [if_true] at hK
      simp only [Reg.putS, List.foldl, List.headD, List.tail, List.getD_cons_zero, List.getD_cons_succ, Act.put, List.setIfInBounds_toArray, List.set_cons_zero, List.set_cons_succ] at hK ⊢
      have hcl : W.cell? ⟨b0, 0, none⟩ = some (.pointer (some ⟨px, 0, none⟩)) := pw_cell_below hG c0
      go_simp
      exact hK _ _ ⟨Below.refl _ _, fun h => absurd h (by decide)⟩ rfl
    · intro vals W K hG hU hV hX hK
      simp only [if_true] at hK
      have d1 := hV 1 (by simp)
      simp only [nwV] at d1
      simp only [Reg.putS, List.foldl, List.headD, List.tail, List.getD_cons_zero, List.getD_cons_succ, Act.put, List.setIfInBounds_toArray, List.set_cons_zero, List.set_cons_succ, d1] at hK ⊢
      have hlen := len_any (tri.below hG)
      rw [hn] at hlen
      go_simp
      refine hlen.mono ?_
      rintro e w2 ⟨rfl, hw2⟩
      rw [hw2]
      exact hK _ _ ⟨Below.refl _ _, fun h => absurd h (by decide)⟩ rfl
    · intro vals W K hG hU hV hX hK
      simp only [if_true] at hK
      have d2 := hV 2 (by simp)
      simp only [nwV] at d2
      simp only [Reg.putS, List.foldl, List.headD, List.tail, List.getD_cons_zero, List.getD_cons_succ, Act.put, List.setIfInBounds_toArray, List.set_cons_zero, List.set_cons_succ, d2] at hK ⊢
      have hm := hmk W
      go_simp
      exact hK _ _ ⟨balloc (Below.refl _ _) _, fun _ => ⟨_, rfl, Nat.le_refl _⟩⟩ ⟨_, rfl, hG.size, heap_new W _⟩
    · intro vals W K hG hU hV hX hK
      simp only [if_true] at hK
      simp only [Reg.putS, List.foldl, List.headD, List.tail, List.getD_cons_zero, List.getD_cons_succ, Act.put, List.setIfInBounds_toArray, List.set_cons_zero, List.set_cons_succ] at hK ⊢
      have hcl : W.cell? ⟨b0, 0, none⟩ = some (.pointer (some ⟨px, 0, none⟩)) := pw_cell_below hG c0
      go_simp
      exact hK _ _ ⟨Below.refl _ _, fun h => absurd h (by decide)⟩ rfl
    · intro vals W K hG hU hV hX hK
      simp only [if_true] at hK
      have d4 := hV 4 (by simp)
      simp only [nwV] at d4
      simp only [Reg.putS, List.foldl, List.headD, List.tail, List.getD_cons_zero, List.getD_cons_succ, Act.put, List.setIfInBounds_toArray, List.set_cons_zero, List.set_cons_succ, d4] at hK ⊢
      have hlen := len_any (tri.below hG)
      rw [hn] at hlen
      go_simp
      refine hlen.mono ?_
      rintro e w2 ⟨rfl, hw2⟩
      rw [hw2]
      exact hK _ _ ⟨Below.refl _ _, fun h => absurd h (by decide)⟩ rfl
    · intro vals W K hG hU hV hX hK
      simp only [if_true] at hK
      have d5 := hV 5 (by simp)
      simp only [nwV] at d5
      simp only [Reg.putS, List.foldl, List.headD, List.tail, List.getD_cons_zero, List.getD_cons_succ, Act.put, List.setIfInBounds_toArray, List.set_cons_zero, List.set_cons_succ, d5] at hK ⊢
      have hm := hmk W
      go_simp
      exact hK _ _ ⟨balloc (Below.refl _ _) _, fun _ => ⟨_, rfl, Nat.le_refl _⟩⟩ ⟨_, rfl, hG.size, heap_new W _⟩
    · intro vals W K hG hU hV hX hK
      simp only [if_true] at hK
      have x36 := hX 3 (by simp) 6 (by simp) (by decide)
      have d0 := hV 0 (by simp)
      simp only [nwV] at d0
      have d3 := hV 3 (by simp)
      simp only [nwV] at d3
      obtain ⟨g1, d3, h1, h2⟩ := d3
      have d6 := hV 6 (by simp)
      simp only [nwV] at d6
      obtain ⟨g2, d6, h3, h4⟩ := d6
      have hne : g1 ≠ g2 := by
        intro e
        refine x36 (.inl ⟨rfl, rfl⟩) ?_
        rw [d3, d6, e]
      simp only [Reg.putS, List.foldl, List.headD, List.tail, List.getD_cons_zero, List.getD_cons_succ, Act.put, List.setIfInBounds_toArray, List.set_cons_zero, List.set_cons_succ, d0, d3, d6] at hK ⊢
      go_simp
      exact hK _ _ ⟨Below.refl _ _, fun h => absurd h (by decide)⟩ ⟨g1, g2, rfl, h1, h3, hne, h2, h4⟩
    · intro vals W K hG hU hV hX hK
      simp only [if_true] at hK
      have d7 := hV 7 (by simp)
      simp only [nwV] at d7
      obtain ⟨g1, g2, d7, h1, h3, hne, h2, h4⟩ := d7
      simp only [Reg.putS, List.foldl, List.headD, List.tail, List.getD_cons_zero, List.getD_cons_succ, Act.put, List.setIfInBounds_toArray, List.set_cons_zero, List.set_cons_succ, d7] at hK ⊢
      go_simp
      exact hK _ _ ⟨balloc (Below.refl _ _) _, fun h => absurd h (by decide)⟩ ⟨_, g1, g2, rfl, hG.size, h1, h3, hne, heap_new W _, heap_below (balloc (Below.refl _ _) _) h2, heap_below (balloc (Below.refl _ _) _) h4⟩
    · intro vals W K hG hU hV hX hK
      simp only [if_true] at hK
      have d8 := hV 8 (by simp)
      simp only [nwV] at d8
      obtain ⟨p, g1, g2, d8, h0, h1, h3, hne, h5, h2, h4⟩ := d8
      simp only [Reg.putS, List.foldl, List.headD, List.tail, List.getD_cons_zero, List.getD_cons_succ, Act.put, List.setIfInBounds_toArray, List.set_cons_zero, List.set_cons_succ, d8] at hK ⊢
      go_simp
      exact hK _ _ ⟨Below.refl _ _, fun h => absurd h (by decide)⟩ ⟨p, g1, g2, rfl, h0, h1, h3, hne, h5, h2, h4⟩
  · intro vals W hG hV hX
    have d9 := hV 9 (by decide)
    simp only [nwV] at d9
    obtain ⟨p, g1, g2, d9, bp, bg1, bg2, hne, hhp, hh1, hh2⟩ := d9
    clear hV hX
    rw [show List.range (List.length [some 13, some 14, some 15, some 16, some 17, some 18, some 19, some 20, some 21, some 3]) = [0, 1, 2, 3, 4, 5, 6, 7, 8, 9] from rfl]
    simp only [Reg.putS, List.foldl, List.getD_cons_zero, List.getD_cons_succ, Act.put, List.setIfInBounds_toArray, List.set_cons_zero, List.set_cons_succ, d9]
    clear d9 hmk
    have Mm : LkMem W p px g1 g2 n (.slice none 0 0) (List.replicate n 0) (List.replicate n 0) := ⟨hhp, hh1, hh2, by simp, by simp, hne⟩
    have lp := heap_lt hhp
    have l1 := heap_lt hh1
    have l2 := heap_lt hh2
    clear hhp hh1 hh2
    have bW : Below w1.heap.size w1 W := hG
    have hlen := len_any (tri.below bW)
    rw [hn] at hlen
    have cb := pw_cell_below bW c0
    obtain ⟨B2, hB2⟩ : ∃ B2, B2 = W.heap.size := ⟨_, rfl⟩
    rw [← hB2] at lp l1 l2
    have hB2h : Hid (B2 = W.heap.size) := hB2
    have hBB : w1.heap.size ≤ B2 := by have := bW.size; omega
    clear hG hB2
    go_wp2_with fail
    refine hlen.mono ?_
    rintro e w2 ⟨rfl, hw2⟩
    rw [hw2]
    clear hlen hw2 w2
    go_wp2_with fail
    go_loopw [24] (fun s wr => ∃ (k : Nat) (vl : Value), k ≤ n ∧ s = .int .i64 k ∧ LkMem wr p px g1 g2 n vl (List.replicate n 0) (List.replicate n 0) ∧ wr.ownsRow B2 3 1 vl k ((List.range k).map encN) ∧ Below w1.heap.size w1 wr ∧ B2 ≤ wr.heap.size) (fun s _ => n - (intOf s).toNat)
    case atStart => exact ⟨0, _, Nat.zero_le _, rfl, Mm, World.ownsRow_nil _ _ _ _, bW, by rw [hB2h.out]; exact Nat.le_refl _⟩
    case round =>
      obtain ⟨k, vl, hk, rfl, Mr, hrow, bel, hsz⟩ := hrel
      clear Mm cb bW
      have c3 : wr.cell? ⟨p, 3, none⟩ = some vl := cell_of Mr.head rfl
      by_cases hlt : k < n
      · have hkd : decide ((k : Int) < (n : Int)) = true := decide_eq_true (by omega)
        have own7 := hrow.alloc (.cells #[.int .i64 (k : Int)] 3)
        have b7 : Below wr.heap.size wr (wr.alloc (.cells #[.int .i64 (k : Int)] 3)) := balloc (Below.refl _ _) _
        have M7 := Mr.below b7
        have bel7 : Below w1.heap.size w1 (wr.alloc (.cells #[.int .i64 (k : Int)] 3)) := bel.trans (b7.mono bel.size)
        have hh3 := heap_new wr (.cells #[.int .i64 (k : Int)] 3)
        have hs7 := b7.size
        clear b7 hrow Mr
        go_wp2_with (first | (at_builtin; refine wpList_append_own _ rfl (.tmp 31) (.tmp 33) 31 rfl B2 3 i3 _ 1 8 Tryz.underlying31 hi3 hy0 hy1 hy2 rfl (by decide) _ k ((List.range k).map encN) rfl own7 ⟨wr.heap.size, 0, none⟩ 1 1 [.int .i64 (k : Int)] rfl rfl ?k1 ?k2 ?k3 ?k4 ?k5 ?_))
        case k1 => intro j u hj; rw [Addr.add_lit, Nat.zero_add]; exact cell_of hh3 (by simpa using hj)
        case k2 => intro u hu; simp at hu; subst hu; rfl
        case k3 => unfold maxLen; omega
        case k4 => omega
        case k5 => omega
        intro v8 w8 own8 hg8 _
        have M8 := LkMem.grown M7 hg8 lp l1 l2 (own_ge own7)
        have b8 := bel7.grown hg8 bel7.size (fun q hq => Nat.le_trans hBB (own_ge own7 q hq))
        have M9 := LkMem.set3 M8 v8
        have own9 := ownsRow_setCell_other own8 (a := ⟨p, 3, none⟩) (fun e => by have := own_ge own8 p e; omega) v8
        have b9 : Below w1.heap.size w1 (w8.setCell ⟨p, 3, none⟩ v8) := b8.setCell bp v8
        have s1 : w8.cell? ⟨p, 3, none⟩ = some vl := cell_of M8.head rfl
        have s2 : w8.frozen? ⟨p, 3, none⟩ = false := frozen_of M8.head
        have s3 : B2 ≤ (w8.setCell ⟨p, 3, none⟩ v8).heap.size := by rw [size_set]; have := hg8.size; omega
        have hxs : (List.range k).map encN ++ [.int .i64 (k : Int)] = (List.range (k + 1)).map encN := by rw [List.range_succ, List.map_append]; rfl
        rw [hxs] at own9
        have z1 : IntKind.i64.wrap ((k : Int) + 1) = (k : Int) + 1 := by rw [IntKind.wrap_i64]; omega
        obtain ⟨V8, c8, rfl, _⟩ := own_form own8
        clear own8 own7 M7 M8 hg8 b8 bel7 hh3 hs7 hxs c3
        go_wp2_with fail
        go_roundw
        case rel => exact ⟨k + 1, _, by omega, by go_num, M9, own9, b9, s3⟩
        case measure => simp [intOf]; omega
      · have hkd : decide ((k : Int) < (n : Int)) = false := decide_eq_false (by omega)
        obtain rfl : k = n := by omega
        obtain ⟨V, cp, rfl, hform⟩ := own_form hrow
        obtain ⟨gl, rfl, hgl, _⟩ := hform hn0
        have hgB : B2 ≤ gl := own_ge hrow gl rfl
        obtain ⟨d, hd⟩ : ∃ d : Array Nat, d = (List.range k).toArray := ⟨_, rfl⟩
        have hds : d.size = k := by rw [hd]; simp
        have hdl : d.toList = List.range k := by rw [hd]
        rw [← hdl] at hrow
        have hdep : ∀ j, dep X j ≤ 1000000 := fun j => by
          rcases Nat.lt_or_ge j X.length with h | h
          · have := hT.out.short j h
            rw [dep_tx]; omega
          · unfold dep
            rw [List.getD_eq_getElem?_getD, List.getElem?_eq_none h]
            show (⟨#[]⟩ : ByteArray).size ≤ 1000000
            decide
        have htw : ∀ W2, LkL.Twin gl gl wr W2 → Below w1.heap.size w1 W2 := fun W2 tw => bel.trans (tw.below bel.size (by omega) (by omega))
        have hcmp : CmpLays1 Tryz.prog 90 #[.pointer (some ⟨b0, 0, none⟩)] encN (fun x y : Nat => (dep X x : Int) - (dep X y : Int)) gl 0 d.size wr := by
          intro mm os dk hs x y
          have tw := htw _ (SW_twin (⟨mm, os, rfl⟩ : SW encN wr gl 0 dk (sortWorld encN wr gl 0 mm dk os)))
          exact cmp_call (tri.below tw) (by rw [hn]; omega) hX.out hdep (pw_cell_below tw c0) x y
        have cS := sorted_call encN (fun _ => rfl) (fun x y : Nat => (dep X x : Int) - (dep X y : Int)) (swo_dep X) 90 #[.pointer (some ⟨b0, 0, none⟩)] gl 0 cp d wr (enters_of Tryz.func90 (by kernel_rfl) rfl) hcmp (holds_of (hds ▸ hrow)) hgl (by rw [hds]; omega)
        rw [hds] at cS
        have cb := pw_cell_below bel c0
        clear hcmp hdep
        have hdlh : Hid (d.toList = List.range k) := hdl
        have hdsh : Hid (d.size = k) := hds
        clear hd hds hdl hkd
        go_wp2_with fail
        refine cS.mono ?_
        rintro e w5 ⟨rfl, d', hd', hSW⟩
        rw [hdlh.out, sorted_ord] at hd'
        have hds' : d'.size = k := by
          have := congrArg List.length hd'
          rw [ord_length] at this
          simpa using this
        have row5 := SW_row hrow hSW hds'
        have tw5 := SW_twin hSW
        have M5 := LkMem.kept Mr (w' := w5) (fun q hq => tw5.block q (by rcases hq with rfl | rfl | rfl <;> omega) (by rcases hq with rfl | rfl | rfl <;> omega) (by rcases hq with rfl | rfl | rfl <;> omega))
        have bel5 := htw w5 tw5
        have hsz5 := tw5.size
        obtain ⟨L, hL⟩ : ∃ L, L = ordL (dep X) X.length := ⟨_, rfl⟩
        have hLh : Hid (L = ordL (dep X) X.length) := hL
        rw [hd', show ordL (dep X) k = L by rw [hL, hXn.out]] at row5
        have tri5 : Hid (∀ W2, LkL.Twin g1 g2 w5 W2 → TrieAt B W2 px N m) := fun W2 tw => tri.below (bel5.trans (tw.below bel5.size bg1 bg2))
        have hbx : Hid (∀ W2, LkL.Twin g1 g2 w5 W2 → W2.cell? ⟨b0, 0, none⟩ = some (.pointer (some ⟨px, 0, none⟩))) := fun W2 tw => pw_cell_below (bel5.trans (tw.below bel5.size bg1 bg2)) c0
        have hrow5 : Hid (∀ W2, LkL.Twin g1 g2 w5 W2 → W2.ownsRow B2 3 1 (.slice (some ⟨gl, 0, none⟩) k cp) k (L.map encN)) := fun W2 tw => by
          refine ⟨row5.1, ?_⟩
          rcases row5.2 with ⟨h1, _⟩ | ⟨g', cap', cur, h1, h2, h3, h4⟩
          · cases h1
          · refine .inr ⟨g', cap', cur, h1, h2, (tw.block g' (heap_lt h3) ?_ ?_).trans h3, h4⟩ <;> (have := h2; omega)
        have hcL : Hid (∀ W2, LkL.Twin g1 g2 w5 W2 → ∀ j, j < k → W2.cell? ⟨gl, j, none⟩ = some (encN (L.getD j 0))) := fun W2 tw j hj => by
          obtain ⟨hl, V2, cp2, hv2, hc2⟩ := ints_form (hrow5.out W2 tw)
          injection hv2 with e1 e2 e3
          obtain ⟨gg, hgg, hcc⟩ := hc2 (by omega)
          rw [hgg] at e1
          injection e1 with e1
          injection e1 with e1
          subst e1
          exact hcc j hj
        have hLlt : ∀ j, j < k → L.getD j 0 < k := fun j hj => by
          have := ord_at (D := dep X) (n := X.length) (k := j) (by rw [hXn.out]; exact hj)
          rw [← hL, hXn.out] at this
          exact this
        have hLlh : Hid (∀ j, j < k → L.getD j 0 < k) := hLlt
        have c3 : w5.cell? ⟨p, 3, none⟩ = some (.slice (some ⟨gl, 0, none⟩) k cp) := cell_of M5.head rfl
        have hInv : Hid (LkInv X L 0 [] (List.replicate k 0) (List.replicate k 0)) := by rw [hLh.out]; exact inv_start hT.out.good k
        have bel5h : Hid (Below w1.heap.size w1 w5) := bel5
        clear cS hSW hd' hds' row5 tw5 Mr hrow bel cb hLlt hL htw bel5
        go_wp2_with fail
        go_loopw [49] (fun s wr2 => ∃ (q : Nat) (F O : List Nat), q ≤ k ∧ s = .int .i64 q ∧ LkMem wr2 p px g1 g2 k (.slice (some ⟨gl, 0, none⟩) k cp) F O ∧ Hid (LkInv X L q [] F O) ∧ LkL.Twin g1 g2 w5 wr2) (fun s _ => k - (intOf s).toNat)
        case atStart => exact ⟨0, _, _, Nat.zero_le _, rfl, M5, hInv, Twin.refl _ _ _⟩
        case round =>
          obtain ⟨q, F, O, hq, rfl, Mq, hI, tw⟩ := hrel
          clear hInv M5 c3
          by_cases hqlt : q < k
          · have hqd : decide ((q : Int) < (k : Int)) = true := decide_eq_true (by omega)
            have hqi : (q : Int) < (k : Int) := by omega
            have cL := hcL.out wr tw q hqlt
            have cb := hbx.out wr tw
            obtain ⟨i, hi⟩ : ∃ i, L.getD q 0 = i := ⟨_, rfl⟩
            have hik : i < k := by rw [← hi]; exact hLlh.out q hqlt
            rw [hi] at cL
            unfold encN at cL
            have hih : Hid (L.getD q 0 = i) := hi
            obtain ⟨LL, hLL⟩ : ∃ LL, sonsL (X.getD i noPn).sons = LL := ⟨_, rfl⟩
            have hLLh : Hid (sonsL (X.getD i noPn).sons = LL) := hLL
            have cSo := sons_call (tri5.out wr tw) (by rw [hn]; omega) hX.out i (by rw [hXn.out]; exact hik) hLL
            have hLl : LL.length ≤ 256 := by rw [← hLL]; exact sonsL_len _
            clear hi hLL
            go_wp2_with fail
            refine cSo.mono ?_
            rintro e w6 ⟨Vs, cps, rfl, hVs, b6⟩
            have M6 := Mq.below b6
            have tw6 := tw.trans (Twin.of_below b6)
            clear cSo cL cb Mq tw b6
            have hgs : Hid (∀ g, Vs = some ⟨g, 0, none⟩ → 0 < LL.length → g ≠ g1 ∧ g ≠ g2) := fun g hg h0 => by
              obtain ⟨g', hg', hcs⟩ := hVs.out h0
              rw [hg] at hg'
              injection hg' with hg'
              injection hg' with hg'
              subst hg'
              have h1 := hcs 0 h0
              constructor
              · rintro rfl
                rw [M6.cellF hn0] at h1
                unfold encN at h1
                injection h1 with h1
                injection h1 with h1
                cases h1
              · rintro rfl
                rw [M6.cellO hn0] at h1
                unfold encN at h1
                injection h1 with h1
                injection h1 with h1
                cases h1
            have hI6 : Hid (LkInv X L q (LL.take 0) F O) := by rw [List.take_zero]; exact hI
            clear hI
            go_wp2_with fail
            generalize hlln : LL.length = ll at *
            have hllh : Hid (LL.length = ll) := hlln
            clear hlln
            go_loopw [57] (fun s wr2 => ∃ (u : Nat) (F O : List Nat), u ≤ ll ∧ s = .int .i64 u ∧ LkMem wr2 p px g1 g2 k (.slice (some ⟨gl, 0, none⟩) k cp) F O ∧ Hid (LkInv X L q (LL.take u) F O) ∧ LkL.Twin g1 g2 w6 wr2) (fun s _ => ll - (intOf s).toNat)
            case atStart => exact ⟨0, F, O, Nat.zero_le _, rfl, M6, hI6, Twin.refl _ _ _⟩
            case round =>
              obtain ⟨u, F2, O2, hu, rfl, Mu, hIu, twu⟩ := hrel
              clear M6 hI6
              have tw7 := tw6.trans twu
              by_cases hult : u < ll
              · have hud : decide ((u : Int) < (ll : Int)) = true := decide_eq_true (by omega)
                have hui : (u : Int) < (ll : Int) := by omega
                obtain ⟨g, rfl, hcs⟩ := hVs.out (by omega)
                obtain ⟨hgg1, hgg2⟩ := hgs.out g rfl (by omega)
                have cc6 := hcs u hult
                have cc : wr.cell? ⟨g, u, none⟩ = some (.int .u8 (LL.getD u 0)) := by
                  have hb := twu.block g (World.block_lt_of_cell? w6 _ cc6) hgg1 hgg2
                  unfold World.cell? at cc6 ⊢
                  rw [hb]; exact cc6
                have cb := hbx.out wr tw7
                have huL : u < LL.length := by rw [hllh.out]; exact hult
                have hmem : LL.getD u 0 ∈ sonsL (X.getD i noPn).sons := by
                  rw [hLLh.out, List.getD_eq_getElem?_getD, List.getElem?_eq_getElem huL]; exact List.getElem_mem huL
                have htk : LL.take (u + 1) = LL.take u ++ [LL.getD u 0] := take_getD LL 0 huL
                have hnm : LL.getD u 0 ∉ LL.take u := by
                  intro hm
                  obtain ⟨j, hj, he⟩ := List.mem_take_iff_getElem.1 hm
                  have hlt := List.pairwise_iff_getElem.1 (hLLh.out ▸ Sn.sonsL_lt (X.getD i noPn).sons) j u (by omega) huL (by omega)
                  rw [List.getD_eq_getElem?_getD, List.getElem?_eq_getElem huL] at he
                  have he2 : LL[j] = LL[u] := he
                  omega
                obtain ⟨hc, hsome⟩ := mem_sonsL.1 hmem
                generalize LL.getD u 0 = c at cc htk hnm hc hsome
                obtain ⟨x, hx⟩ := Option.isSome_iff_exists.1 hsome
                have hxL : (X.getD (L.getD q 0) noPn).sons c = some x := by rw [hih.out]; exact hx
                have hxlt := (lg_son hT.out.good (by rw [hXn.out]; exact hik) hx).1
                rw [hXn.out] at hxlt
                have hqX : q < X.length := by rw [hXn.out]; exact hqlt
                have hz0 : F2.getD x 0 = 0 := hIu.out.zero x (by rw [hXn.out]; exact hxlt) (by
                  rw [hLh.out]
                  exact inv_new hT.out.good hT.out.fine hqX hc hnm (by rw [← hLh.out]; exact hxL))
                have hpre : ∀ y, y < X.length → (tx X y).length ≤ (tx X i).length → Done X L q (LL.take u) y := fun y hy hl => by
                  rw [hLh.out]
                  refine inv_pre hT.out.fine hqX hy ?_
                  rw [← hLh.out, hih.out]; exact hl
                have cN := next_some (tri5.out wr tw7) (by rw [hn]; omega) hX.out (by rw [hXn.out]; exact hik) hc hx
                have hxn1 : Hid (LL.take (u + 1) = LL.take u ++ [c]) := htk
                have hzh : Hid (F2.getD x 0 = 0) := hz0
                have hprh : Hid (∀ y, y < X.length → (tx X y).length ≤ (tx X i).length → Done X L q (LL.take u) y) := hpre
                have hxh : Hid ((X.getD i noPn).sons c = some x) := hx
                have hxLh : Hid ((X.getD (L.getD q 0) noPn).sons c = some x) := hxL
                have hch : Hid (0 ≤ c ∧ c ≤ 255) := hc
                have z1 : IntKind.i64.wrap ((u : Int) + 1) = (u : Int) + 1 := by rw [IntKind.wrap_i64]; omega
                clear hcs hgg1 hgg2 cc6 hmem htk hnm hc hsome hx hxL hz0 hpre huL hqX
                go_wp2_with fail
                refine cN.mono ?_
                rintro e w8 ⟨rfl, b8⟩
                have M8 := Mu.below b8
                have tw8 := tw7.trans (Twin.of_below b8)
                have twu8 := twu.trans (Twin.of_below b8)
                have cLk := link_call (x := x) (i := i) (c := c) (fun W2 t2 => tri5.out W2 (tw8.trans t2)) (by rw [hn]; omega) hX.out hn hT.out.good hT.out.fine M8 hik hch.out hxh.out hzh.out
                  (fun y hy hl => hIu.out.lg y hy (hprh.out y hy hl)) (fun y hy hl => hIu.out.ot y hy (hprh.out y hy hl))
                clear cN cc cb Mu b8 tw7 twu
                go_wp2_with fail
                refine cLk.mono ?_
                rintro e w9 ⟨rfl, f, o, M9, t9, hlf, hlo⟩
                have hI9 : Hid (LkInv X L q (LL.take (u + 1)) (F2.set x f) (O2.set x o)) := by
                  rw [hxn1.out]
                  exact inv_next hIu.out hch.out hxLh.out (by rw [M8.fl]; exact hxlt) (by rw [M8.ol]; exact hxlt) hlf hlo
                have twu9 := twu8.trans t9
                clear cLk M8 tw8 twu8 hIu hlf hlo t9
                go_wp2_with fail
                go_roundw
                case rel => exact ⟨u + 1, _, _, by omega, by go_num, M9, hI9, twu9⟩
                case measure => simp [intOf]; omega
              · have hud : decide ((u : Int) < (ll : Int)) = false := decide_eq_false (by omega)
                have hI7 : Hid (LkInv X L (q + 1) [] F2 O2) := by
                  have h := hIu.out
                  rw [List.take_of_length_le (by rw [hllh.out]; omega), ← hLLh.out, ← hih.out] at h
                  exact inv_row h
                have z1 : IntKind.i64.wrap ((q : Int) + 1) = (q : Int) + 1 := by rw [IntKind.wrap_i64]; omega
                clear hIu hVs hgs
                go_wp2_with fail
                go_roundw
                case rel => exact ⟨q + 1, _, _, by omega, by go_num, Mu, hI7, tw7⟩
                case measure => simp [intOf]; omega
          · have hqd : decide ((q : Int) < (k : Int)) = false := decide_eq_false (by omega)
            obtain rfl : q = k := by omega
            have hok : Hid (LkOk X F O L) := by
              have h := hI.out
              rw [hLh.out] at h ⊢
              rw [← hXn.out] at h
              exact inv_end hT.out.fine h
            have belF := bel5h.out.trans (tw.below bel5h.out.size bg1 bg2)
            have hat : Hid (LkAt B wr p px N m F O L) := by
              refine ⟨tri5.out wr tw, _, _, _, Mq.head, ?_, ?_, ?_⟩
              · rw [hn]
                exact ⟨by simp [Mq.fl], .inr ⟨g1, q, _, rfl, by omega, Mq.f, Nat.le_refl _, by unfold maxLen; omega, by simp [Mq.fl], by rw [Nat.mul_one, List.take_of_length_le (by simp [Mq.fl])]⟩⟩
              · rw [hn]
                exact ⟨by simp [Mq.ol], .inr ⟨g2, q, _, rfl, by omega, Mq.o, Nat.le_refl _, by unfold maxLen; omega, by simp [Mq.ol], by rw [Nat.mul_one, List.take_of_length_le (by simp [Mq.ol])]⟩⟩
              · rw [hn]
                have h := hrow5.out wr tw
                refine ⟨h.1, ?_⟩
                rcases h.2 with h1 | ⟨g', cap', cur, h1, h2, h3⟩
                · exact .inl h1
                · exact .inr ⟨g', cap', cur, h1, by omega, h3⟩
            clear hI
            go_wp2_with fail
            go_ret
            exact ⟨bw1.trans (belF.mono bw1.size), p, F, O, L, rfl, hat.out, hok.out⟩
    
end Go.Proofs.YtdeeeechdlcdbaaGreat.LkN
