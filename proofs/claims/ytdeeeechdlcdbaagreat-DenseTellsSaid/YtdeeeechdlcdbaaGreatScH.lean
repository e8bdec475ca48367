/- Scanners in memory; the walk of what ends at a place. -/
import Derived.Test.YtdeeeechdlcdbaaGreatScS
import Derived.Test.YtdeeeechdlcdbaaGreatStep
import Derived.Test.YtdeeeechdlcdbaaGreatRg
import Derived.Shelf.SlSortCmp.QuietGrown
set_option linter.unusedVariables false
set_option linter.unusedSimpArgs false
namespace Go.Proofs.YtdeeeechdlcdbaaGreat.ScH
open Go Go.RowKit Go.Sort Go.Proofs Go.Proofs.YtdeeeechdlcdbaaGreat Go.Proofs.YtdeeeechdlcdbaaGreat.Base Go.Proofs.YtdeeeechdlcdbaaGreat.DiA Go.Proofs.YtdeeeechdlcdbaaGreat.DiB Go.Proofs.YtdeeeechdlcdbaaGreat.DiC Go.Proofs.YtdeeeechdlcdbaaGreat.TrP Go.Proofs.YtdeeeechdlcdbaaGreat.TrM Go.Proofs.YtdeeeechdlcdbaaGreat.TrA Go.Proofs.YtdeeeechdlcdbaaGreat.TrD Go.Proofs.YtdeeeechdlcdbaaGreat.TrE Go.Proofs.YtdeeeechdlcdbaaGreat.TtP Go.Proofs.YtdeeeechdlcdbaaGreat.TcP Go.Proofs.YtdeeeechdlcdbaaGreat.TwA Go.Proofs.YtdeeeechdlcdbaaGreat.LkA Go.Proofs.YtdeeeechdlcdbaaGreat.LkP Go.Proofs.YtdeeeechdlcdbaaGreat.LkM Go.Proofs.YtdeeeechdlcdbaaGreat.LkO Go.Proofs.YtdeeeechdlcdbaaGreat.LkQ Go.Proofs.YtdeeeechdlcdbaaGreat.LkN Go.Proofs.YtdeeeechdlcdbaaGreat.LkS Go.Proofs.YtdeeeechdlcdbaaGreat.LkX Go.Proofs.YtdeeeechdlcdbaaGreat.PhP Go.Proofs.YtdeeeechdlcdbaaGreat.PhW Go.Proofs.YtdeeeechdlcdbaaGreat.ScP Go.Proofs.YtdeeeechdlcdbaaGreat.ScS
/-- Block q is a scanner of the links in block p: where it is, how many bytes were fed. -/
def ScAt (w : World) (q p node at_ : Nat) : Prop := w.heap[q]? = some (.cells #[.pointer (some ⟨p, 0, none⟩), .int .i64 (node : Int), .int .i64 (at_ : Int)] 95 (0, 0))
theorem ScAt.below {w w' : World} {q p node at_ : Nat} (h : ScAt w q p node at_) (hb : Below w.heap.size w w') : ScAt w' q p node at_ := heap_below hb h
def hitCells (at_ : Nat) (E : List Nat) : List Value := E.flatMap fun (k : Nat) => [.int .i64 (at_ : Int), .int .i64 (k : Int)]
theorem info35 : (Tryz.prog.info? 93).map (fun i => (i.zero, i.size, i.bytes)) = some (some (.agg #[.int .i64 0, .int .i64 0]), 2, 16) := by kernel_rfl
def scV (q px at_ a wd n0 B0 n : Nat) (v0 : Value) (xs : List Value) (i : Nat) (pv v : Value) (W : World) : Prop := match i with
  | 0 => v = v0
  | 1 => v = .pointer (some ⟨q, 0, none⟩)
  | 2 => v = .pointer (some ⟨q, 0, none⟩)
  | 3 => v = .pointer (some ⟨q, 2, none⟩)
  | 4 => v = .int .i64 (at_ : Int)
  | 5 => v = .pointer (some ⟨px, 0, none⟩)
  | 6 => v = .int .i64 (a : Int)
  | 7 => v = .int .i64 (wd : Int)
  | 8 => v = .agg #[.int .i64 (at_ : Int), .int .i64 (wd : Int)]
  | 9 => ∃ b, v = .slice (some ⟨b, 0, none⟩) 1 1 ∧ n0 ≤ b ∧ W.heap[b]? = some (.cells #[.int .i64 (at_ : Int), .int .i64 (wd : Int)] 93 (0, 0))
  | 10 => W.ownsRow B0 93 2 v (n + 1) (xs ++ [.int .i64 (at_ : Int), .int .i64 (wd : Int)])
  | _ => True
def scG (w : World) (n0 : Nat) (W : World) : Prop := Below w.heap.size w W ∧ n0 ≤ W.heap.size
def scU (B0 n : Nat) (v0 : Value) (xs : List Value) (i : Nat) (W : World) : Prop := match i with
  | 10 => W.ownsRow B0 93 2 v0 n xs
  | _ => True
def scR (v0 : Value) (i : Nat) (W W' : World) : Prop := match i with
  | 10 => W.grownBy W' v0.ownBlock
  | _ => Below W.heap.size W W'
theorem scR_10 {v0 : Value} {i : Nat} {W W' : World} (h : scR v0 i W W') : (i = 10 ∧ W.grownBy W' v0.ownBlock) ∨ (i ≠ 10 ∧ Below W.heap.size W W') := by
  by_cases hi : i = 10
  · subst hi; exact .inl ⟨rfl, h⟩
  · right
    refine ⟨hi, ?_⟩
    unfold scR at h
    split at h
    · exact absurd rfl hi
    · exact h
theorem scU_start {B0 n : Nat} {v0 : Value} {xs : List Value} {w : World} (h : w.ownsRow B0 93 2 v0 n xs) (i : Nat) : scU B0 n v0 xs i { heap := w.heap, tape := w.tape, drawn := w.drawn + 1, os := w.os, output := w.output } := by
  unfold scU
  split
  · exact h
  · trivial
theorem scG_stay {w : World} {n0 : Nat} {v0 : Value} {i : Nat} {W W' : World} (hge : ∀ k, v0.ownBlock = some k → w.heap.size ≤ k) (h : scG w n0 W) (k : scR v0 i W W') : scG w n0 W' := by
  rcases scR_10 k with ⟨_, k⟩ | ⟨_, k⟩
  · exact ⟨h.1.grown k h.1.size hge, Nat.le_trans h.2 k.size⟩
  · exact ⟨bstep h.1 k, Nat.le_trans h.2 k.size⟩
theorem scU_stay {B0 n i j : Nat} {v0 : Value} {xs : List Value} {W W' : World} (h1 : j ≠ i) (h : scU B0 n v0 xs j W) (k : scR v0 i W W') : scU B0 n v0 xs j W' := by
  unfold scU at h ⊢
  split at h
  · rcases scR_10 k with ⟨k1, _⟩ | ⟨_, k⟩
    · exact absurd k1.symm h1
    · exact own_below h k
  · trivial
theorem scV_stay {q px at_ a wd n0 B0 n i j : Nat} {v0 p v : Value} {xs : List Value} {W W' : World} (hlt : ∀ k, v0.ownBlock = some k → k < n0) (h1 : i ≠ j) (h : scV q px at_ a wd n0 B0 n v0 xs j p v W) (k : scR v0 i W W') : scV q px at_ a wd n0 B0 n v0 xs j p v W' := by
  unfold scV at h ⊢
  split at h
  · exact h
  · exact h
  · exact h
  · exact h
  · exact h
  · exact h
  · exact h
  · exact h
  · exact h
  · obtain ⟨b, h2, h3, h4⟩ := h
    refine ⟨b, h2, h3, ?_⟩
    rcases scR_10 k with ⟨_, k⟩ | ⟨_, k⟩
    · exact (k.block b (heap_lt h4) (fun e => by have := hlt b e.symm; omega)).trans h4
    · exact heap_below k h4
  · rcases scR_10 k with ⟨k1, _⟩ | ⟨_, k⟩
    · exact absurd k1 h1
    · exact own_below h k
  · trivial
set_option maxRecDepth 20000 in
set_option maxHeartbeats 8000000 in
theorem hits_any {B q p px m node at_ : Nat} {N : List Nd} {F O L : List Nat} {w : World} {X : List Pn} {zs : List ByteArray} {s : List UInt8} (hS : ScAt w q p node at_) (h : LkAt B w p px N m F O L) (hX : N.map (·.p) = X) (hok : LkOk X F O L) (hT : Tr zs X) (hbig : N.length ≤ 1000000) (hs : Lg X s s.length node) :
    Calls Tryz.prog 74 #[.pointer (some ⟨q, 0, none⟩)] w fun e w' => ∃ v, e = .returned v ∧ w'.ownsRow w.heap.size 93 2 v (ends zs s s.length).length (hitCells at_ (ends zs s s.length)) ∧ Below w.heap.size w w' := by
  obtain ⟨i0, hi, hz0, hz1, hz2⟩ := info_parts info35
  have mixed : Tryz.prog.follows .mixedOrders = true := by kernel_rfl
  have hSh : Hid (ScAt w q p node at_) := hS
  have hh : Hid (LkAt B w p px N m F O L) := h
  have hXh : Hid (N.map (·.p) = X) := hX
  have hXn : Hid (N.length = X.length) := by show _ = _; rw [← hX, List.length_map]
  have hokh : Hid (LkOk X F O L) := hok
  have hTh : Hid (Tr zs X) := hT
  have hbh : Hid (N.length ≤ 1000000) := hbig
  have hsh : Hid (Lg X s s.length node) := hs
  have hE40 : (ends zs s s.length).length ≤ 40 := by rw [ends_40 hT]; exact Nat.le_trans (ends_length zs s _) (Nat.min_le_right _ _)
  obtain ⟨E0, hE0⟩ : ∃ E0, ends zs s s.length = E0 := ⟨_, rfl⟩
  rw [hE0] at hE40 ⊢
  have hE0h : Hid (ends zs s s.length = E0) := hE0
  have c0 : w.cell? ⟨q, 0, none⟩ = some (.pointer (some ⟨p, 0, none⟩)) := cell_of hS rfl
  have c1 : w.cell? ⟨q, 1, none⟩ = some (.int .i64 (node : Int)) := cell_of hS rfl
  have c2 : w.cell? ⟨q, 2, none⟩ = some (.int .i64 (at_ : Int)) := cell_of hS rfl
  have cT := trie_any h
  have cW := word_in h.trie hbig hX node hs.lt
  have hwd := hT.word node hs.lt
  have hot := hok.ot node hs.lt
  obtain ⟨o, ho⟩ : ∃ o, O.getD node 0 = o := ⟨_, rfl⟩
  rw [ho] at hot
  have hoh : Hid (O.getD node 0 = o) := ho
  have hfst := ot_first (s := s) hT.fine hs hot
  obtain ⟨wd, hwdv⟩ : ∃ wd, (X.getD node noPn).word = wd := ⟨_, rfl⟩
  rw [hwdv] at cW hwd hfst
  have hqlt := heap_lt hS
  have cc0 := fun nn oss => cell_grown (w := w) (a := ⟨q, 0, none⟩) hqlt c0 nn oss
  -- what one has behind the first look
  have hstart : ∃ E m, (if 0 ≤ wd then E = [wd.toNat] else E = []) ∧ Hid (o < X.length ∧ m ≤ s.length ∧ Ot X s m o ∧ E ++ ends zs s m = E0) := by
    by_cases h0 : 0 ≤ wd
    · rw [if_pos h0] at hfst
      have hn0 : node ≠ 0 := by
        rintro rfl
        have := hT.zero
        rw [hwdv] at this; omega
      have he := ends_out hT (Nat.le_refl _) hfst
      rw [if_neg hn0, hwdv, hE0] at he
      have hle := hs.suf.length_le
      refine ⟨[wd.toNat], (tx X node).length - 1, by rw [if_pos h0], hot.lt, by omega, Ot.up hot hs.suf (by omega), ?_⟩
      rw [he]; rfl
    · rw [if_neg h0] at hfst
      exact ⟨[], s.length, by rw [if_neg h0], hot.lt, Nat.le_refl _, hfst, by rw [List.nil_append]; exact hE0⟩
  clear hS h hX hok hT hbig hs hot ho hfst hE0 hwdv
  go_enter Tryz.func74, Tryz.ntmps74
  go_wp2_with fail
  refine cT.mono ?_
  rintro e w1 ⟨rfl, hw⟩
  rw [hw]
  clear cT hw w1
  go_wp2_with fail
  refine cW.mono ?_
  rintro e w1 ⟨rfl, b1⟩
  have d0 := pw_cell_below b1 c0
  have d1 := pw_cell_below b1 c1
  have d2 := pw_cell_below b1 c2
  clear cW c0 c1 c2 cc0
  obtain ⟨E, m0, hE, hin⟩ := hstart
  rcases hwd with ⟨hneg, _⟩ | ⟨kk, hkk, _⟩
  · have hwdd : decide (wd ≥ 0) = false := decide_eq_false (by omega)
    rw [if_neg (by omega)] at hE
    subst hE
    have hrow0 : w1.ownsRow w.heap.size 93 2 (.slice none 0 0) ([] : List Nat).length (hitCells at_ []) := World.ownsRow_nil _ _ _ _
    obtain ⟨V0, hV0⟩ : ∃ V0, V0 = Value.slice none 0 0 := ⟨_, rfl⟩
    have hqlt1 := World.block_lt_of_cell? w1 _ d0
    have g0 := fun nn oss => cell_grown (w := w1) (a := ⟨q, 0, none⟩) hqlt1 d0 nn oss
    have g1 := fun nn oss => cell_grown (w := w1) (a := ⟨q, 1, none⟩) hqlt1 d1 nn oss
    have hbg : ∀ nn oss, Below w1.heap.size w1 (grow (w1.drewN nn) oss) := fun nn oss => Gr.below ⟨nn, oss, rfl⟩
    have cO : ∀ nn oss, Calls Tryz.prog 15 #[.pointer (some ⟨p, 0, none⟩), .int .i64 (node : Int)] (grow (w1.drewN nn) oss) fun e w' => e = .returned (.int .i64 (o : Int)) ∧ ∃ q os', w' = grow ((grow (w1.drewN nn) oss).drewN q) os' := fun nn oss => by
      have := out_in (hh.out.below (bstep b1 (hbg nn oss))) (k := node) (by rw [hXn.out]; exact hsh.out.lt)
      rw [hoh.out] at this
      exact this.mono fun e w2 h => ⟨h.1, by rw [h.2]; exact Gr.refl _⟩
    clear hV0 V0
    go_wp2_with fail
    go_quiet_grown (first | exact Calls.grown_of (cO _ _))
    have bg := hbg nq osq
    have belr := bstep b1 bg
    have hrow := own_below hrow0 bg
    clear cO g0 g1 hbg hrow0 bg d0 d1 d2 b1 hqlt1
    generalize grow (w1.drewN nq) osq = w2 at belr hrow ⊢
    clear nq osq
    go_wp2_with fail
    go_loopw [3, 6] (fun sv sn wr => ∃ (E : List Nat) (a mm : Nat), sn = .int .i64 (a : Int) ∧ Hid (a < X.length ∧ mm ≤ s.length ∧ Ot X s mm a ∧ E ++ ends zs s mm = E0) ∧ wr.ownsRow w.heap.size 93 2 sv E.length (hitCells at_ E) ∧ Below w.heap.size w wr) (fun _ sn _ => (tx X (intOf sn).toNat).length)
    case atStart => exact ⟨_, o, m0, rfl, hin, hrow, belr⟩
    case round =>
      clear hin hrow belr
      obtain ⟨E, a, mm, rfl, hin, hrow, belr⟩ := hrel
      obtain ⟨V0, c0, hv0, _⟩ := own_form hrow
      by_cases ha0 : a = 0
      · have had : ((a : Int) != 0) = false := by simp [ha0]
        have hEE : E = E0 := by
          obtain ⟨_, h1, h2, h3⟩ := hin.out
          have he := ends_out hTh.out h1 h2
          rw [if_pos ha0] at he
          rw [he, List.append_nil] at h3; exact h3
        subst hEE
        subst hv0
        clear hin ha0
        go_wp2_with fail
        go_ret
        exact ⟨_, rfl, hrow, belr⟩
      · have had : ((a : Int) != 0) = true := by simp; omega
        obtain ⟨haX, h1, h2, h3⟩ := hin.out
        have he := ends_out hTh.out h1 h2
        rw [if_neg ha0] at he
        obtain ⟨kk, hkk, _⟩ := hTh.out.is_word haX (h2.is.resolve_left ha0).1
        have hsuf := (h2.is.resolve_left ha0).2.1
        have hla := (h2.is.resolve_left ha0).2.2
        rw [hkk, Int.toNat_natCast] at he
        have hot := hokh.out.ot a haX
        have hcW : ∀ W, Below w.heap.size w W → Calls Tryz.prog 101 #[.pointer (some ⟨px, 0, none⟩), .int .i64 (a : Int)] W fun e w' => e = .returned (.int .i64 (kk : Int)) ∧ Below W.heap.size W w' := fun W hW => by
          have := word_in (hh.out.below hW).trie hbh.out hXh.out a haX
          rw [hkk] at this; exact this
        have hcO : Hid (∀ W, Below w.heap.size w W → Calls Tryz.prog 15 #[.pointer (some ⟨p, 0, none⟩), .int .i64 (a : Int)] W fun e w' => e = .returned (.int .i64 (O.getD a 0 : Nat)) ∧ w' = W) := fun W hW => out_in (hh.out.below hW) (by rw [hXn.out]; exact haX)
        have hpos := (tx_pos hTh.out.good hTh.out.fine haX).1 (by omega)
        have hEl : E.length + 1 ≤ 40 := by
          have hl := congrArg List.length h3
          rw [List.length_append, he, List.length_cons] at hl
          omega
        generalize O.getD a 0 = a2 at hot hcO
        have hin2 : Hid (a2 < X.length ∧ (tx X a).length - 1 ≤ s.length ∧ Ot X s ((tx X a).length - 1) a2 ∧ (E ++ [kk]) ++ ends zs s ((tx X a).length - 1) = E0) := by
          refine ⟨hot.lt, by have := hsuf.length_le; omega, Ot.up hot hsuf (by omega), ?_⟩
          rw [← h3, he, List.append_assoc]; rfl
        have hmes : Hid ((tx X a2).length < (tx X a).length) := by
          show _ < _
          rcases hot.is with h4 | ⟨h4, h5, h6⟩
          · rw [h4, tx0 hTh.out.good]; exact hpos
          · omega
        have cAt : w.cell? ⟨q, 2, none⟩ = some (.int .i64 (at_ : Int)) := cell_of hSh.out rfl
        have cP : w.cell? ⟨q, 0, none⟩ = some (.pointer (some ⟨p, 0, none⟩)) := cell_of hSh.out rfl
        have hxs : hitCells at_ E ++ [.int .i64 (at_ : Int), .int .i64 (kk : Int)] = hitCells at_ (E ++ [kk]) := by unfold hitCells; rw [List.flatMap_append]; rfl
        have hxsh : Hid (hitCells at_ E ++ [.int .i64 (at_ : Int), .int .i64 (kk : Int)] = hitCells at_ (E ++ [kk])) := hxs
        have haXh : Hid (a < X.length) := haX
        subst hv0
        clear hin ha0 h1 h2 h3 he hkk hsuf hla hot hpos hxs haX
        go_wp2_with fail
        refine RegL.wp_region_end (scG w wr.heap.size) (scU w.heap.size E.length (.slice V0 E.length c0) (hitCells at_ E)) (scR (.slice V0 E.length c0)) (fun i => i) (scV q px at_ a kk wr.heap.size w.heap.size E.length (.slice V0 E.length c0) (hitCells at_ E))
          [some 46, some 47, some 48, some 49, some 50, some 51, some 52, some 53, some 54, some 55, some 56]
          [[], [], [1], [2], [3], [], [], [5, 6], [4, 7], [8], [0, 9, 7]]
          (by kernel_rfl) (by kernel_rfl) (by kernel_rfl) (by kernel_rfl) (by kernel_rfl) (fun i => .inl rfl) ?_ ?_ ?_ ?_ ?_ ?_ ?_
        · exact ⟨below_drew belr, Nat.le_refl _⟩
        · intro i; exact scU_start hrow i
        · intro i W W' h k2; exact scG_stay (own_ge hrow) h k2
        · intro j i W W' h1 h2 h3 h4
          exact scU_stay h1 h3 h4
        · intro j i p v W W' h1 h2 h3 h4
          exact scV_stay (own_lt hrow) h1 h3 h4
        · refine ⟨?_, ?_, ?_, ?_, ?_, ?_, ?_, ?_, ?_, ?_, ?_, trivial⟩
          · intro vals W K hG hU hV hK
            simp only [if_true] at hK
            simp only [Reg.putS, List.foldl, List.headD, List.tail, List.getD_cons_zero, List.getD_cons_succ, Act.put, List.setIfInBounds_toArray, List.set_cons_zero, List.set_cons_succ] at hK ⊢
            go_simp
            first
              | exact hK _ _ (Below.refl _ _) rfl
              | (rw [if_pos (by omega)]; exact hK _ _ (Below.refl _ _) rfl)
              | (rw [dif_pos (by omega)]; exact hK _ _ (Below.refl _ _) rfl)
              | (rw [if_neg (by omega)]; exact hK _ _ (Below.refl _ _) rfl)
          · intro vals W K hG hU hV hK
            simp only [if_true] at hK
            simp only [Reg.putS, List.foldl, List.headD, List.tail, List.getD_cons_zero, List.getD_cons_succ, Act.put, List.setIfInBounds_toArray, List.set_cons_zero, List.set_cons_succ] at hK ⊢
            go_simp
            first
              | exact hK _ _ (Below.refl _ _) rfl
              | (rw [if_pos (by omega)]; exact hK _ _ (Below.refl _ _) rfl)
              | (rw [dif_pos (by omega)]; exact hK _ _ (Below.refl _ _) rfl)
              | (rw [if_neg (by omega)]; exact hK _ _ (Below.refl _ _) rfl)
          · intro vals W K hG hU hV hK
            simp only [if_true] at hK
            have d1 := hV 1 (by simp)
            simp only [scV] at d1
            simp only [Reg.putS, List.foldl, List.headD, List.tail, List.getD_cons_zero, List.getD_cons_succ, Act.put, List.setIfInBounds_toArray, List.set_cons_zero, List.set_cons_succ, d1] at hK ⊢
            go_simp
            first
              | exact hK _ _ (Below.refl _ _) rfl
              | (rw [if_pos (by omega)]; exact hK _ _ (Below.refl _ _) rfl)
              | (rw [dif_pos (by omega)]; exact hK _ _ (Below.refl _ _) rfl)
              | (rw [if_neg (by omega)]; exact hK _ _ (Below.refl _ _) rfl)
          · intro vals W K hG hU hV hK
            simp only [if_true] at hK
            have d2 := hV 2 (by simp)
            simp only [scV] at d2
            simp only [Reg.putS, List.foldl, List.headD, List.tail, List.getD_cons_zero, List.getD_cons_succ, Act.put, List.setIfInBounds_toArray, List.set_cons_zero, List.set_cons_succ, d2] at hK ⊢
            go_simp
            first
              | exact hK _ _ (Below.refl _ _) rfl
              | (rw [if_pos (by omega)]; exact hK _ _ (Below.refl _ _) rfl)
              | (rw [dif_pos (by omega)]; exact hK _ _ (Below.refl _ _) rfl)
              | (rw [if_neg (by omega)]; exact hK _ _ (Below.refl _ _) rfl)
          · intro vals W K hG hU hV hK
            simp only [if_true] at hK
            have d3 := hV 3 (by simp)
            simp only [scV] at d3
            simp only [Reg.putS, List.foldl, List.headD, List.tail, List.getD_cons_zero, List.getD_cons_succ, Act.put, List.setIfInBounds_toArray, List.set_cons_zero, List.set_cons_succ, d3] at hK ⊢
            have hcl : W.cell? ⟨q, 2, none⟩ = some (.int .i64 (at_ : Int)) := pw_cell_below hG.1 cAt
            go_simp
            first
              | exact hK _ _ (Below.refl _ _) rfl
              | (rw [if_pos (by omega)]; exact hK _ _ (Below.refl _ _) rfl)
              | (rw [dif_pos (by omega)]; exact hK _ _ (Below.refl _ _) rfl)
              | (rw [if_neg (by omega)]; exact hK _ _ (Below.refl _ _) rfl)
          · intro vals W K hG hU hV hK
            simp only [if_true] at hK
            simp only [Reg.putS, List.foldl, List.headD, List.tail, List.getD_cons_zero, List.getD_cons_succ, Act.put, List.setIfInBounds_toArray, List.set_cons_zero, List.set_cons_succ] at hK ⊢
            go_simp
            first
              | exact hK _ _ (Below.refl _ _) rfl
              | (rw [if_pos (by omega)]; exact hK _ _ (Below.refl _ _) rfl)
              | (rw [dif_pos (by omega)]; exact hK _ _ (Below.refl _ _) rfl)
              | (rw [if_neg (by omega)]; exact hK _ _ (Below.refl _ _) rfl)
          · intro vals W K hG hU hV hK
            simp only [if_true] at hK
            simp only [Reg.putS, List.foldl, List.headD, List.tail, List.getD_cons_zero, List.getD_cons_succ, Act.put, List.setIfInBounds_toArray, List.set_cons_zero, List.set_cons_succ] at hK ⊢
            go_simp
            first
              | exact hK _ _ (Below.refl _ _) rfl
              | (rw [if_pos (by omega)]; exact hK _ _ (Below.refl _ _) rfl)
              | (rw [dif_pos (by omega)]; exact hK _ _ (Below.refl _ _) rfl)
              | (rw [if_neg (by omega)]; exact hK _ _ (Below.refl _ _) rfl)
          · intro vals W K hG hU hV hK
            simp only [if_true] at hK
            have d5 := hV 5 (by simp)
            simp only [scV] at d5
            have d6 := hV 6 (by simp)
            simp only [scV] at d6
            simp only [Reg.putS, List.foldl, List.headD, List.tail, List.getD_cons_zero, List.getD_cons_succ, Act.put, List.setIfInBounds_toArray, List.set_cons_zero, List.set_cons_succ, d5, d6] at hK ⊢
            have cW := hcW W hG.1
            go_simp
            refine cW.mono ?_
            rintro e w2 ⟨rfl, hb⟩
            exact hK _ _ hb rfl
          · intro vals W K hG hU hV hK
            simp only [if_true] at hK
            have d4 := hV 4 (by simp)
            simp only [scV] at d4
            have d7 := hV 7 (by simp)
            simp only [scV] at d7
            simp only [Reg.putS, List.foldl, List.headD, List.tail, List.getD_cons_zero, List.getD_cons_succ, Act.put, List.setIfInBounds_toArray, List.set_cons_zero, List.set_cons_succ, d4, d7] at hK ⊢
            go_simp
            first
              | exact hK _ _ (Below.refl _ _) rfl
              | (rw [if_pos (by omega)]; exact hK _ _ (Below.refl _ _) rfl)
              | (rw [dif_pos (by omega)]; exact hK _ _ (Below.refl _ _) rfl)
              | (rw [if_neg (by omega)]; exact hK _ _ (Below.refl _ _) rfl)
          · intro vals W K hG hU hV hK
            simp only [if_true] at hK
            have d8 := hV 8 (by simp)
            simp only [scV] at d8
            simp only [Reg.putS, List.foldl, List.headD, List.tail, List.getD_cons_zero, List.getD_cons_succ, Act.put, List.setIfInBounds_toArray, List.set_cons_zero, List.set_cons_succ, d8] at hK ⊢
            go_simp
            exact hK _ _ (balloc (Below.refl _ _) _) ⟨_, rfl, hG.2, heap_new W _⟩
          · refine Step.step_of ?g ?_
            case g => rfl
            intro A vals W K hA hG hU hV hK
            simp only [if_true] at hK
            have d0 := hV 0 (by simp)
            simp only [scV] at d0
            have d9 := hV 9 (by simp)
            simp only [scV] at d9
            obtain ⟨b9, d9, hge9, hcell9⟩ := d9
            refine wp_append_own _ (.tmp 46) (.tmp 55) 52 rfl w.heap.size 93 i0 (.agg #[.int .i64 0, .int .i64 0]) 2 16 Tryz.underlying52 hi hz0 hz1 hz2 rfl (by decide) (.slice V0 E.length c0) E.length (hitCells at_ E) ((Step.putE hA rfl (Nat.lt_of_sub_eq_succ rfl)).trans d0) hU ⟨b9, 0, none⟩ 1 1 [.int .i64 (at_ : Int), .int .i64 (kk : Int)] ((Step.putE hA rfl (Nat.lt_of_sub_eq_succ rfl)).trans d9) rfl ?c1 ?c2 ?c3 ?c4 ?c5 ?c6
            case c1 =>
              intro j u hj
              match j, hj with
              | 0, hj => simp at hj; subst hj; simpa [Addr.add] using cell_of hcell9 rfl
              | 1, hj => simp at hj; subst hj; simpa [Addr.add] using cell_of (i := 1) hcell9 rfl
              | j + 2, hj => simp at hj
            case c2 => intro u hu; simp at hu; rcases hu with rfl | rfl <;> rfl
            case c3 => unfold maxLen; omega
            case c4 => omega
            case c5 => exact hG.1.size
            case c6 => intro v' w' ho hgr _; exact hK _ _ hgr ho
        · intro vals W hG hV
          simp only [RegL.LastOp]
          rw [show List.range (List.length [some 46, some 47, some 48, some 49, some 50, some 51, some 52, some 53, some 54, some 55, some 56]) = [0, 1, 2, 3, 4, 5, 6, 7, 8, 9, 10] from rfl]
          have d0 := hV 0 (by decide)
          simp only [scV] at d0
          have d1 := hV 1 (by decide)
          simp only [scV] at d1
          have d2 := hV 2 (by decide)
          simp only [scV] at d2
          have d3 := hV 3 (by decide)
          simp only [scV] at d3
          have d4 := hV 4 (by decide)
          simp only [scV] at d4
          have d5 := hV 5 (by decide)
          simp only [scV] at d5
          have d6 := hV 6 (by decide)
          simp only [scV] at d6
          have d7 := hV 7 (by decide)
          simp only [scV] at d7
          have d8 := hV 8 (by decide)
          simp only [scV] at d8
          have d9 := hV 9 (by decide)
          simp only [scV] at d9
          obtain ⟨b9, d9, hge9, hcell9⟩ := d9
          have d10 := hV 10 (by decide)
          simp only [scV] at d10
          obtain d10 := d10
          clear hV
          simp only [Reg.putS, List.foldl, List.getD_cons_zero, List.getD_cons_succ, Act.put, List.setIfInBounds_toArray, List.set_cons_zero, List.set_cons_succ, d0, d1, d2, d3, d4, d5, d6, d7, d8, d9]
          clear d0 d1 d2 d3 d4 d5 d6 d7 d8 d9
          go_simp
          obtain ⟨belW, _⟩ := hG
          rw [hxsh.out, show E.length + 1 = (E ++ [kk]).length by rw [List.length_append]; rfl] at d10
          clear hrow hcW cAt
          have cP2 := pw_cell_below belW cP
          have cO2 := hcO.out W belW
          clear cP hcO
          go_wp2_with fail
          refine cO2.mono ?_
          rintro e w5 ⟨rfl, hw⟩
          rw [hw]
          clear cO2 hw w5
          go_wp2_with fail
          go_roundw
          case rel => exact ⟨E ++ [kk], a2, _, rfl, hin2, d10, belW⟩
          case measure => simp [intOf]; exact hmes.out
  · subst hkk
    have hwdd : decide ((kk : Int) ≥ 0) = true := decide_eq_true (by omega)
    rw [if_pos (by omega), Int.toNat_natCast] at hE
    subst hE
    have own7 : (w1.alloc (.cells #[.int .i64 (at_ : Int), .int .i64 (kk : Int)] 93)).ownsRow w.heap.size 93 2 (.slice none 0 0) 0 [] := World.ownsRow_nil _ _ _ _
    have b7 := balloc b1 (.cells #[.int .i64 (at_ : Int), .int .i64 (kk : Int)] 93)
    have hh3 := heap_new w1 (.cells #[.int .i64 (at_ : Int), .int .i64 (kk : Int)] 93)
    have bb := (Below.refl w1.heap.size w1).alloc (Nat.le_refl _) (.cells #[.int .i64 (at_ : Int), .int .i64 (kk : Int)] 93)
    have hs7 := b7.size
    go_wp2_with (first | (at_builtin; refine wpList_append_own _ rfl (.tmp 20) (.tmp 27) 52 rfl w.heap.size 93 i0 _ 2 16 Tryz.underlying52 hi hz0 hz1 hz2 rfl (by decide) _ 0 [] rfl own7 ⟨w1.heap.size, 0, none⟩ 1 1 [.int .i64 (at_ : Int), .int .i64 (kk : Int)] rfl rfl ?k1 ?k2 ?k3 ?k4 ?k5 ?_))
    case k1 =>
      intro j u hj
      match j, hj with
      | 0, hj => simp at hj; subst hj; simp [Addr.add]
      | 1, hj => simp at hj; subst hj; simp [Addr.add]
      | j + 2, hj => simp at hj
    case k2 => intro u hu; simp at hu; rcases hu with rfl | rfl <;> rfl
    case k3 => unfold maxLen; omega
    case k4 => omega
    case k5 => exact hs7
    intro V0 w8 own8 hg8 _
    have b8 : Below w1.heap.size w1 w8 := bb.grown hg8 bb.size (fun q hq => by cases hq)
    have bw8 := bstep b1 b8
    have hrow0 : w8.ownsRow w.heap.size 93 2 V0 [kk].length (hitCells at_ [kk]) := own8
    have e0 := pw_cell_below b8 d0
    have e1 := pw_cell_below b8 d1
    have e2 := pw_cell_below b8 d2
    clear own8 hg8 own7 b7 hh3 bb hs7 d0 d1 d2 b1
    have b1 := bw8
    have d0 := e0
    have d1 := e1
    have d2 := e2
    clear bw8 b8 e0 e1 e2
    have hqlt1 := World.block_lt_of_cell? w8 _ d0
    have g0 := fun nn oss => cell_grown (w := w8) (a := ⟨q, 0, none⟩) hqlt1 d0 nn oss
    have g1 := fun nn oss => cell_grown (w := w8) (a := ⟨q, 1, none⟩) hqlt1 d1 nn oss
    have hbg : ∀ nn oss, Below w8.heap.size w8 (grow (w8.drewN nn) oss) := fun nn oss => Gr.below ⟨nn, oss, rfl⟩
    have cO : ∀ nn oss, Calls Tryz.prog 15 #[.pointer (some ⟨p, 0, none⟩), .int .i64 (node : Int)] (grow (w8.drewN nn) oss) fun e w' => e = .returned (.int .i64 (o : Int)) ∧ ∃ q os', w' = grow ((grow (w8.drewN nn) oss).drewN q) os' := fun nn oss => by
      have := out_in (hh.out.below (bstep b1 (hbg nn oss))) (k := node) (by rw [hXn.out]; exact hsh.out.lt)
      rw [hoh.out] at this
      exact this.mono fun e w2 h => ⟨h.1, by rw [h.2]; exact Gr.refl _⟩
    go_wp2_with fail
    go_quiet_grown (first | exact Calls.grown_of (cO _ _))
    have bg := hbg nq osq
    have belr := bstep b1 bg
    have hrow := own_below hrow0 bg
    clear cO g0 g1 hbg hrow0 bg d0 d1 d2 b1 hqlt1
    generalize grow (w8.drewN nq) osq = w2 at belr hrow ⊢
    clear nq osq
    go_wp2_with fail
    go_loopw [3, 6] (fun sv sn wr => ∃ (E : List Nat) (a mm : Nat), sn = .int .i64 (a : Int) ∧ Hid (a < X.length ∧ mm ≤ s.length ∧ Ot X s mm a ∧ E ++ ends zs s mm = E0) ∧ wr.ownsRow w.heap.size 93 2 sv E.length (hitCells at_ E) ∧ Below w.heap.size w wr) (fun _ sn _ => (tx X (intOf sn).toNat).length)
    case atStart => exact ⟨_, o, m0, rfl, hin, hrow, belr⟩
    case round =>
      clear hin hrow belr
      obtain ⟨E, a, mm, rfl, hin, hrow, belr⟩ := hrel
      obtain ⟨V0, c0, hv0, _⟩ := own_form hrow
      by_cases ha0 : a = 0
      · have had : ((a : Int) != 0) = false := by simp [ha0]
        have hEE : E = E0 := by
          obtain ⟨_, h1, h2, h3⟩ := hin.out
          have he := ends_out hTh.out h1 h2
          rw [if_pos ha0] at he
          rw [he, List.append_nil] at h3; exact h3
        subst hEE
        subst hv0
        clear hin ha0
        go_wp2_with fail
        go_ret
        exact ⟨_, rfl, hrow, belr⟩
      · have had : ((a : Int) != 0) = true := by simp; omega
        obtain ⟨haX, h1, h2, h3⟩ := hin.out
        have he := ends_out hTh.out h1 h2
        rw [if_neg ha0] at he
        obtain ⟨kk, hkk, _⟩ := hTh.out.is_word haX (h2.is.resolve_left ha0).1
        have hsuf := (h2.is.resolve_left ha0).2.1
        have hla := (h2.is.resolve_left ha0).2.2
        rw [hkk, Int.toNat_natCast] at he
        have hot := hokh.out.ot a haX
        have hcW : ∀ W, Below w.heap.size w W → Calls Tryz.prog 101 #[.pointer (some ⟨px, 0, none⟩), .int .i64 (a : Int)] W fun e w' => e = .returned (.int .i64 (kk : Int)) ∧ Below W.heap.size W w' := fun W hW => by
          have := word_in (hh.out.below hW).trie hbh.out hXh.out a haX
          rw [hkk] at this; exact this
        have hcO : Hid (∀ W, Below w.heap.size w W → Calls Tryz.prog 15 #[.pointer (some ⟨p, 0, none⟩), .int .i64 (a : Int)] W fun e w' => e = .returned (.int .i64 (O.getD a 0 : Nat)) ∧ w' = W) := fun W hW => out_in (hh.out.below hW) (by rw [hXn.out]; exact haX)
        have hpos := (tx_pos hTh.out.good hTh.out.fine haX).1 (by omega)
        have hEl : E.length + 1 ≤ 40 := by
          have hl := congrArg List.length h3
          rw [List.length_append, he, List.length_cons] at hl
          omega
        generalize O.getD a 0 = a2 at hot hcO
        have hin2 : Hid (a2 < X.length ∧ (tx X a).length - 1 ≤ s.length ∧ Ot X s ((tx X a).length - 1) a2 ∧ (E ++ [kk]) ++ ends zs s ((tx X a).length - 1) = E0) := by
          refine ⟨hot.lt, by have := hsuf.length_le; omega, Ot.up hot hsuf (by omega), ?_⟩
          rw [← h3, he, List.append_assoc]; rfl
        have hmes : Hid ((tx X a2).length < (tx X a).length) := by
          show _ < _
          rcases hot.is with h4 | ⟨h4, h5, h6⟩
          · rw [h4, tx0 hTh.out.good]; exact hpos
          · omega
        have cAt : w.cell? ⟨q, 2, none⟩ = some (.int .i64 (at_ : Int)) := cell_of hSh.out rfl
        have cP : w.cell? ⟨q, 0, none⟩ = some (.pointer (some ⟨p, 0, none⟩)) := cell_of hSh.out rfl
        have hxs : hitCells at_ E ++ [.int .i64 (at_ : Int), .int .i64 (kk : Int)] = hitCells at_ (E ++ [kk]) := by unfold hitCells; rw [List.flatMap_append]; rfl
        have hxsh : Hid (hitCells at_ E ++ [.int .i64 (at_ : Int), .int .i64 (kk : Int)] = hitCells at_ (E ++ [kk])) := hxs
        have haXh : Hid (a < X.length) := haX
        subst hv0
        clear hin ha0 h1 h2 h3 he hkk hsuf hla hot hpos hxs haX
        go_wp2_with fail
        refine RegL.wp_region_end (scG w wr.heap.size) (scU w.heap.size E.length (.slice V0 E.length c0) (hitCells at_ E)) (scR (.slice V0 E.length c0)) (fun i => i) (scV q px at_ a kk wr.heap.size w.heap.size E.length (.slice V0 E.length c0) (hitCells at_ E))
          [some 46, some 47, some 48, some 49, some 50, some 51, some 52, some 53, some 54, some 55, some 56]
          [[], [], [1], [2], [3], [], [], [5, 6], [4, 7], [8], [0, 9, 7]]
          (by kernel_rfl) (by kernel_rfl) (by kernel_rfl) (by kernel_rfl) (by kernel_rfl) (fun i => .inl rfl) ?_ ?_ ?_ ?_ ?_ ?_ ?_
        · exact ⟨below_drew belr, Nat.le_refl _⟩
        · intro i; exact scU_start hrow i
        · intro i W W' h k2; exact scG_stay (own_ge hrow) h k2
        · intro j i W W' h1 h2 h3 h4
          exact scU_stay h1 h3 h4
        · intro j i p v W W' h1 h2 h3 h4
          exact scV_stay (own_lt hrow) h1 h3 h4
        · refine ⟨?_, ?_, ?_, ?_, ?_, ?_, ?_, ?_, ?_, ?_, ?_, trivial⟩
          · intro vals W K hG hU hV hK
            simp only [if_true] at hK
            simp only [Reg.putS, List.foldl, List.headD, List.tail, List.getD_cons_zero, List.getD_cons_succ, Act.put, List.setIfInBounds_toArray, List.set_cons_zero, List.set_cons_succ] at hK ⊢
            go_simp
            first
              | exact hK _ _ (Below.refl _ _) rfl
              | (rw [if_pos (by omega)]; exact hK _ _ (Below.refl _ _) rfl)
              | (rw [dif_pos (by omega)]; exact hK _ _ (Below.refl _ _) rfl)
              | (rw [if_neg (by omega)]; exact hK _ _ (Below.refl _ _) rfl)
          · intro vals W K hG hU hV hK
            simp only [if_true] at hK
            simp only [Reg.putS, List.foldl, List.headD, List.tail, List.getD_cons_zero, List.getD_cons_succ, Act.put, List.setIfInBounds_toArray, List.set_cons_zero, List.set_cons_succ] at hK ⊢
            go_simp
            first
              | exact hK _ _ (Below.refl _ _) rfl
              | (rw [if_pos (by omega)]; exact hK _ _ (Below.refl _ _) rfl)
              | (rw [dif_pos (by omega)]; exact hK _ _ (Below.refl _ _) rfl)
              | (rw [if_neg (by omega)]; exact hK _ _ (Below.refl _ _) rfl)
          · intro vals W K hG hU hV hK
            simp only [if_true] at hK
            have d1 := hV 1 (by simp)
            simp only [scV] at d1
            simp only [Reg.putS, List.foldl, List.headD, List.tail, List.getD_cons_zero, List.getD_cons_succ, Act.put, List.setIfInBounds_toArray, List.set_cons_zero, List.set_cons_succ, d1] at hK ⊢
            go_simp
            first
              | exact hK _ _ (Below.refl _ _) rfl
              | (rw [if_pos (by omega)]; exact hK _ _ (Below.refl _ _) rfl)
              | (rw [dif_pos (by omega)]; exact hK _ _ (Below.refl _ _) rfl)
              | (rw [if_neg (by omega)]; exact hK _ _ (Below.refl _ _) rfl)
          · intro vals W K hG hU hV hK
            simp only [if_true] at hK
            have d2 := hV 2 (by simp)
            simp only [scV] at d2
            simp only [Reg.putS, List.foldl, List.headD, List.tail, List.getD_cons_zero, List.getD_cons_succ, Act.put, List.setIfInBounds_toArray, List.set_cons_zero, List.set_cons_succ, d2] at hK ⊢
            go_simp
            first
              | exact hK _ _ (Below.refl _ _) rfl
              | (rw [if_pos (by omega)]; exact hK _ _ (Below.refl _ _) rfl)
              | (rw [dif_pos (by omega)]; exact hK _ _ (Below.refl _ _) rfl)
              | (rw [if_neg (by omega)]; exact hK _ _ (Below.refl _ _) rfl)
          · intro vals W K hG hU hV hK
            simp only [if_true] at hK
            have d3 := hV 3 (by simp)
            simp only [scV] at d3
            simp only [Reg.putS, List.foldl, List.headD, List.tail, List.getD_cons_zero, List.getD_cons_succ, Act.put, List.setIfInBounds_toArray, List.set_cons_zero, List.set_cons_succ, d3] at hK ⊢
            have hcl : W.cell? ⟨q, 2, none⟩ = some (.int .i64 (at_ : Int)) := pw_cell_below hG.1 cAt
            go_simp
            first
              | exact hK _ _ (Below.refl _ _) rfl
              | (rw [if_pos (by omega)]; exact hK _ _ (Below.refl _ _) rfl)
              | (rw [dif_pos (by omega)]; exact hK _ _ (Below.refl _ _) rfl)
              | (rw [if_neg (by omega)]; exact hK _ _ (Below.refl _ _) rfl)
          · intro vals W K hG hU hV hK
            simp only [if_true] at hK
            simp only [Reg.putS, List.foldl, List.headD, List.tail, List.getD_cons_zero, List.getD_cons_succ, Act.put, List.setIfInBounds_toArray, List.set_cons_zero, List.set_cons_succ] at hK ⊢
            go_simp
            first
              | exact hK _ _ (Below.refl _ _) rfl
              | (rw [if_pos (by omega)]; exact hK _ _ (Below.refl _ _) rfl)
              | (rw [dif_pos (by omega)]; exact hK _ _ (Below.refl _ _) rfl)
              | (rw [if_neg (by omega)]; exact hK _ _ (Below.refl _ _) rfl)
          · intro vals W K hG hU hV hK
            simp only [if_true] at hK
            simp only [Reg.putS, List.foldl, List.headD, List.tail, List.getD_cons_zero, List.getD_cons_succ, Act.put, List.setIfInBounds_toArray, List.set_cons_zero, List.set_cons_succ] at hK ⊢
            go_simp
            first
              | exact hK _ _ (Below.refl _ _) rfl
              | (rw [if_pos (by omega)]; exact hK _ _ (Below.refl _ _) rfl)
              | (rw [dif_pos (by omega)]; exact hK _ _ (Below.refl _ _) rfl)
              | (rw [if_neg (by omega)]; exact hK _ _ (Below.refl _ _) rfl)
          · intro vals W K hG hU hV hK
            simp only [if_true] at hK
            have d5 := hV 5 (by simp)
            simp only [scV] at d5
            have d6 := hV 6 (by simp)
            simp only [scV] at d6
            simp only [Reg.putS, List.foldl, List.headD, List.tail, List.getD_cons_zero, List.getD_cons_succ, Act.put, List.setIfInBounds_toArray, List.set_cons_zero, List.set_cons_succ, d5, d6] at hK ⊢
            have cW := hcW W hG.1
            go_simp
            refine cW.mono ?_
            rintro e w2 ⟨rfl, hb⟩
            exact hK _ _ hb rfl
          · intro vals W K hG hU hV hK
            simp only [if_true] at hK
            have d4 := hV 4 (by simp)
            simp only [scV] at d4
            have d7 := hV 7 (by simp)
            simp only [scV] at d7
            simp only [Reg.putS, List.foldl, List.headD, List.tail, List.getD_cons_zero, List.getD_cons_succ, Act.put, List.setIfInBounds_toArray, List.set_cons_zero, List.set_cons_succ, d4, d7] at hK ⊢
            go_simp
            first
              | exact hK _ _ (Below.refl _ _) rfl
              | (rw [if_pos (by omega)]; exact hK _ _ (Below.refl _ _) rfl)
              | (rw [dif_pos (by omega)]; exact hK _ _ (Below.refl _ _) rfl)
              | (rw [if_neg (by omega)]; exact hK _ _ (Below.refl _ _) rfl)
          · intro vals W K hG hU hV hK
            simp only [if_true] at hK
            have d8 := hV 8 (by simp)
            simp only [scV] at d8
            simp only [Reg.putS, List.foldl, List.headD, List.tail, List.getD_cons_zero, List.getD_cons_succ, Act.put, List.setIfInBounds_toArray, List.set_cons_zero, List.set_cons_succ, d8] at hK ⊢
            go_simp
            exact hK _ _ (balloc (Below.refl _ _) _) ⟨_, rfl, hG.2, heap_new W _⟩
          · refine Step.step_of ?g ?_
            case g => rfl
            intro A vals W K hA hG hU hV hK
            simp only [if_true] at hK
            have d0 := hV 0 (by simp)
            simp only [scV] at d0
            have d9 := hV 9 (by simp)
            simp only [scV] at d9
            obtain ⟨b9, d9, hge9, hcell9⟩ := d9
            refine wp_append_own _ (.tmp 46) (.tmp 55) 52 rfl w.heap.size 93 i0 (.agg #[.int .i64 0, .int .i64 0]) 2 16 Tryz.underlying52 hi hz0 hz1 hz2 rfl (by decide) (.slice V0 E.length c0) E.length (hitCells at_ E) ((Step.putE hA rfl (Nat.lt_of_sub_eq_succ rfl)).trans d0) hU ⟨b9, 0, none⟩ 1 1 [.int .i64 (at_ : Int), .int .i64 (kk : Int)] ((Step.putE hA rfl (Nat.lt_of_sub_eq_succ rfl)).trans d9) rfl ?c1 ?c2 ?c3 ?c4 ?c5 ?c6
            case c1 =>
              intro j u hj
              match j, hj with
              | 0, hj => simp at hj; subst hj; simpa [Addr.add] using cell_of hcell9 rfl
              | 1, hj => simp at hj; subst hj; simpa [Addr.add] using cell_of (i := 1) hcell9 rfl
              | j + 2, hj => simp at hj
            case c2 => intro u hu; simp at hu; rcases hu with rfl | rfl <;> rfl
            case c3 => unfold maxLen; omega
            case c4 => omega
            case c5 => exact hG.1.size
            case c6 => intro v' w' ho hgr _; exact hK _ _ hgr ho
        · intro vals W hG hV
          simp only [RegL.LastOp]
          rw [show List.range (List.length [some 46, some 47, some 48, some 49, some 50, some 51, some 52, some 53, some 54, some 55, some 56]) = [0, 1, 2, 3, 4, 5, 6, 7, 8, 9, 10] from rfl]
          have d0 := hV 0 (by decide)
          simp only [scV] at d0
          have d1 := hV 1 (by decide)
          simp only [scV] at d1
          have d2 := hV 2 (by decide)
          simp only [scV] at d2
          have d3 := hV 3 (by decide)
          simp only [scV] at d3
          have d4 := hV 4 (by decide)
          simp only [scV] at d4
          have d5 := hV 5 (by decide)
          simp only [scV] at d5
          have d6 := hV 6 (by decide)
          simp only [scV] at d6
          have d7 := hV 7 (by decide)
          simp only [scV] at d7
          have d8 := hV 8 (by decide)
          simp only [scV] at d8
          have d9 := hV 9 (by decide)
          simp only [scV] at d9
          obtain ⟨b9, d9, hge9, hcell9⟩ := d9
          have d10 := hV 10 (by decide)
          simp only [scV] at d10
          obtain d10 := d10
          clear hV
          simp only [Reg.putS, List.foldl, List.getD_cons_zero, List.getD_cons_succ, Act.put, List.setIfInBounds_toArray, List.set_cons_zero, List.set_cons_succ, d0, d1, d2, d3, d4, d5, d6, d7, d8, d9]
          clear d0 d1 d2 d3 d4 d5 d6 d7 d8 d9
          go_simp
          obtain ⟨belW, _⟩ := hG
          rw [hxsh.out, show E.length + 1 = (E ++ [kk]).length by rw [List.length_append]; rfl] at d10
          clear hrow hcW cAt
          have cP2 := pw_cell_below belW cP
          have cO2 := hcO.out W belW
          clear cP hcO
          go_wp2_with fail
          refine cO2.mono ?_
          rintro e w5 ⟨rfl, hw⟩
          rw [hw]
          clear cO2 hw w5
          go_wp2_with fail
          go_roundw
          case rel => exact ⟨E ++ [kk], a2, _, rfl, hin2, d10, belW⟩
          case measure => simp [intOf]; exact hmes.out
end Go.Proofs.YtdeeeechdlcdbaaGreat.ScH
