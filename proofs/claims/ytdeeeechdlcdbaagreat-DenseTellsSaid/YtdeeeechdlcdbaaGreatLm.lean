/- A node's depth, with the world behind the call spelled out; the comparison of two nodes by their depth. -/
import Derived.Test.YtdeeeechdlcdbaaGreatTw
import Derived.Shelf.SlSortCmp.Kit1
import Derived.Test.YtdeeeechdlcdbaaGreatLp
set_option linter.unusedVariables false
set_option linter.unusedSimpArgs false
namespace Go.Proofs.YtdeeeechdlcdbaaGreat.LkA
open Go Go.RowKit Go.Sort Go.Proofs Go.Proofs.YtdeeeechdlcdbaaGreat.Base Go.Proofs.YtdeeeechdlcdbaaGreat.TrP Go.Proofs.YtdeeeechdlcdbaaGreat.TrM Go.Proofs.YtdeeeechdlcdbaaGreat.TrA Go.Proofs.YtdeeeechdlcdbaaGreat.TrD Go.Proofs.YtdeeeechdlcdbaaGreat.TrE
/-- Behind a call that drew and laid blocks, no more. -/
def Gr (w w' : World) : Prop := ∃ q os', w' = grow (w.drewN q) os'
theorem Gr.refl (w : World) : Gr w w := ⟨0, #[], by rw [grow_empty]; rfl⟩
theorem Gr.alloc (w : World) (o : Obj) : Gr w (w.alloc o) := ⟨0, #[o], alloc_eq_grow w o⟩
theorem Gr.below {w w' : World} (h : Gr w w') : Below w.heap.size w w' := by
  obtain ⟨q, os, rfl⟩ := h
  refine ⟨rfl, rfl, rfl, ?_, fun k hk => ?_⟩
  · rw [size_grow]; exact Nat.le_add_right _ _
  · show ((w.drewN q).heap ++ os)[k]? = _
    exact Array.getElem?_append_left hk
section
variable {B p m : Nat} {N : List Nd} {w : World}
set_option maxHeartbeats 1000000 in
theorem at_gr (h : TrieAt B w p N m) (hbig : N.length ≤ 1000000) (k : Nat) : ∃ mp, Calls Tryz.prog 104 #[.pointer (some ⟨p, 0, none⟩), .int .i64 (k : Int)] w fun e w' => e = .returned (atV ((N.map (·.p)).getD k noPn).text ((N.map (·.p)).getD k noPn).word mp) ∧ Gr w w' := by
  have ha : TrieAt B (w.alloc (.cells #[.string ⟨#[]⟩, .int .i64 0, .map none] 122)) p N m := h.below (balloc (Below.refl _ _) _)
  have hlen := len_any ha
  have hd : decide ((k : Int) < 0) = false := decide_eq_false (by omega)
  by_cases hlt : k < N.length
  · obtain ⟨g, cp, c0, c1, c2, c3⟩ := ha.node (List.getElem?_eq_getElem hlt)
    have hd2 : decide ((k : Int) ≥ (N.length : Int)) = false := decide_eq_false (by omega)
    have hki : (k : Int) < (N.length : Int) := by omega
    have ht : (N.map (·.p)).getD k noPn = (N[k]).p := by
      rw [List.getD_eq_getElem?_getD, List.getElem?_map, List.getElem?_eq_getElem hlt]; rfl
    refine ⟨some (N[k]).mp, ?_⟩
    rw [ht]
    clear ha h ht
    generalize N[k] = nd at c1 c2 c3
    obtain ⟨nd0, mp⟩ := nd
    obtain ⟨tx, wd, sn⟩ := nd0
    simp only at c1 c2 c3
    go_enter Tryz.func104, Tryz.ntmps104
    go_wp2_with fail
    refine hlen.mono ?_
    rintro e w1 ⟨rfl, hw⟩
    rw [hw]
    clear hlen hw
    go_wp2_with fail
    refine bodyPost_ret (v := atV tx wd (some mp)) ?_ rfl ⟨rfl, Gr.alloc _ _⟩
    simp [results, Tryz.results104, go_sem, atV]
  · have hd2 : N.length ≤ k := by omega
    have ht : (N.map (·.p)).getD k noPn = noPn := by
      rw [List.getD_eq_getElem?_getD, List.getElem?_map, List.getElem?_eq_none (by omega)]; rfl
    refine ⟨none, ?_⟩
    rw [ht]
    show Calls Tryz.prog 104 _ w fun e w' => e = .returned (atV ⟨#[]⟩ (-1) none) ∧ Gr w w'
    clear ha h ht hlt
    go_enter Tryz.func104, Tryz.ntmps104
    go_wp2_with fail
    refine hlen.mono ?_
    rintro e w1 ⟨rfl, hw⟩
    rw [hw]
    clear hlen hw
    go_wp2_with fail
    refine bodyPost_ret (v := atV ⟨#[]⟩ (-1) none) ?_ rfl ⟨rfl, Gr.alloc _ _⟩
    simp [results, Tryz.results104, go_sem, atV]
set_option maxHeartbeats 400000 in
theorem text_gr (h : TrieAt B w p N m) (hbig : N.length ≤ 1000000) (k : Nat) : Calls Tryz.prog 114 #[.pointer (some ⟨p, 0, none⟩), .int .i64 (k : Int)] w fun e w' => e = .returned (.string ((N.map (·.p)).getD k noPn).text) ∧ Gr w w' := by
  obtain ⟨mp, hA⟩ := at_gr h hbig k
  generalize ((N.map (·.p)).getD k noPn).text = t at hA
  generalize ((N.map (·.p)).getD k noPn).word = x at hA
  clear h
  go_enter Tryz.func114, Tryz.ntmps114
  go_wp2_with fail
  refine hA.mono ?_
  rintro e w1 ⟨rfl, hb⟩
  clear hA
  simp only [atV]
  have hfd := field63_0 t x mp
  go_wp2_with fail
  go_ret
  exact ⟨rfl, hb⟩
set_option maxHeartbeats 400000 in
theorem word_gr (h : TrieAt B w p N m) (hbig : N.length ≤ 1000000) (k : Nat) : Calls Tryz.prog 101 #[.pointer (some ⟨p, 0, none⟩), .int .i64 (k : Int)] w fun e w' => e = .returned (.int .i64 ((N.map (·.p)).getD k noPn).word) ∧ Gr w w' := by
  obtain ⟨mp, hA⟩ := at_gr h hbig k
  generalize ((N.map (·.p)).getD k noPn).text = t at hA
  generalize ((N.map (·.p)).getD k noPn).word = x at hA
  clear h
  go_enter Tryz.func101, Tryz.ntmps101
  go_wp2_with fail
  refine hA.mono ?_
  rintro e w1 ⟨rfl, hb⟩
  clear hA
  simp only [atV]
  have hfd := field63_1 t x mp
  go_wp2_with fail
  go_ret
  exact ⟨rfl, hb⟩
set_option maxHeartbeats 400000 in
theorem depth_gr (h : TrieAt B w p N m) (hbig : N.length ≤ 1000000) (k : Nat) : Calls Tryz.prog 91 #[.pointer (some ⟨p, 0, none⟩), .int .i64 (k : Int)] w fun e w' => e = .returned (.int .i64 (((N.map (·.p)).getD k noPn).text.size : Int)) ∧ Gr w w' := by
  have hA := text_gr h hbig k
  generalize ((N.map (·.p)).getD k noPn).text = t at hA
  clear h
  go_enter Tryz.func91, Tryz.ntmps91
  go_wp2_with fail
  refine hA.mono ?_
  rintro e w1 ⟨rfl, hb⟩
  clear hA
  go_wp2_with fail
  go_ret
  exact ⟨rfl, hb⟩
end
/-- How deep a node is. -/
def dep (X : List Pn) (k : Nat) : Nat := (X.getD k noPn).text.size
set_option maxRecDepth 100000 in
set_option maxHeartbeats 1000000 in
/-- The comparison of two nodes. -/
theorem cmp_call {B p m b : Nat} {N : List Nd} {w : World} (h : TrieAt B w p N m) (hbig : N.length ≤ 1000000) {X : List Pn} (hX : N.map (·.p) = X) (hd : ∀ k, dep X k ≤ 1000000) (hb : w.cell? ⟨b, 0, none⟩ = some (.pointer (some ⟨p, 0, none⟩))) (x y : Nat) :
    Calls Tryz.prog 90 #[.int .i64 (x : Int), .int .i64 (y : Int), .pointer (some ⟨b, 0, none⟩)] w fun e w' => e = .returned (.int .i64 ((dep X x : Int) - (dep X y : Int))) ∧ Gr w w' := by
  have hm : Tryz.prog.follows .mixedOrders = true := by kernel_rfl
  have hl := World.block_lt_of_cell? w _ hb
  have hcl := fun n os => cell_grown (w := w) (a := ⟨b, 0, none⟩) hl hb n os
  have hk : ∀ n os, Below w.heap.size w (grow (w.drewN n) os) := fun n os => Gr.below ⟨n, os, rfl⟩
  have d1 : ∀ n os, Calls Tryz.prog 91 #[.pointer (some ⟨p, 0, none⟩), .int .i64 (x : Int)] (grow (w.drewN n) os) fun e w' => e = .returned (.int .i64 (dep X x : Int)) ∧ ∃ q os', w' = grow ((grow (w.drewN n) os).drewN q) os' := fun n os => by
    have := depth_gr (h.below (hk n os)) hbig x
    rw [hX] at this; exact this
  have d2 : ∀ n os, Calls Tryz.prog 91 #[.pointer (some ⟨p, 0, none⟩), .int .i64 (y : Int)] (grow (w.drewN n) os) fun e w' => e = .returned (.int .i64 (dep X y : Int)) ∧ ∃ q os', w' = grow ((grow (w.drewN n) os).drewN q) os' := fun n os => by
    have := depth_gr (h.below (hk n os)) hbig y
    rw [hX] at this; exact this
  have b1 := hd x
  have b2 := hd y
  generalize dep X x = D1 at d1 b1 ⊢
  generalize dep X y = D2 at d2 b2 ⊢
  have z1 : IntKind.i64.wrap ((D1 : Int) - (D2 : Int)) = (D1 : Int) - (D2 : Int) := by rw [IntKind.wrap_i64]; omega
  clear h hd hX hb hk
  go_enter Tryz.func90, Tryz.ntmps90
  go_wp2_with fail
  go_quiet_grown (first | exact Calls.grown_of (d1 _ _) | exact Calls.grown_of (d2 _ _))
  go_wp2_with fail
  go_ret
  exact ⟨rfl, nq, osq, rfl⟩
end Go.Proofs.YtdeeeechdlcdbaaGreat.LkA
/- Links in memory; the walks of their small functions. -/
set_option linter.unusedVariables false
set_option linter.unusedSimpArgs false
namespace Go.Proofs.YtdeeeechdlcdbaaGreat.LkM
open Go Go.RowKit Go.Proofs.YtdeeeechdlcdbaaGreat.Base Go.Proofs.YtdeeeechdlcdbaaGreat.DiA Go.Proofs.YtdeeeechdlcdbaaGreat.TrP Go.Proofs.YtdeeeechdlcdbaaGreat.TrM Go.Proofs.YtdeeeechdlcdbaaGreat.TrA Go.Proofs.YtdeeeechdlcdbaaGreat.TrD Go.Proofs.YtdeeeechdlcdbaaGreat.TrE Go.Proofs.YtdeeeechdlcdbaaGreat.TtP Go.Proofs.YtdeeeechdlcdbaaGreat.LkA Go.Proofs.YtdeeeechdlcdbaaGreat.LkP
def encN (x : Nat) : Value := .int .i64 (x : Int)
/-- Block p has the links of the trie in block px: where one goes on (F), where a phrase ends, too (O), all nodes by their depth (L). -/
structure LkAt (B : Nat) (w : World) (p px : Nat) (N : List Nd) (m : Nat) (F O L : List Nat) : Prop where
  trie : TrieAt B w px N m
  row : ∃ vf vo vl, w.heap[p]? = some (.cells #[.pointer (some ⟨px, 0, none⟩), vf, vo, vl] 80 (0, 0)) ∧ w.ownsRow B 3 1 vf N.length (F.map encN) ∧ w.ownsRow B 3 1 vo N.length (O.map encN) ∧ w.ownsRow B 3 1 vl N.length (L.map encN)
theorem LkAt.below {B p px m : Nat} {w w' : World} {N : List Nd} {F O L : List Nat} (h : LkAt B w p px N m F O L) (hb : Below w.heap.size w w') : LkAt B w' p px N m F O L := by
  obtain ⟨h1, vf, vo, vl, h2, h3, h4, h5⟩ := h
  exact ⟨h1.below hb, vf, vo, vl, heap_below hb h2, own_below h3 hb, own_below h4 hb, own_below h5 hb⟩
theorem ints_form {w : World} {B n : Nat} {v : Value} {F : List Nat} (h : w.ownsRow B 3 1 v n (F.map encN)) : F.length = n ∧ ∃ V cp, v = .slice V n cp ∧ (0 < n → ∃ g, V = some ⟨g, 0, none⟩ ∧ ∀ j, j < n → w.cell? ⟨g, j, none⟩ = some (encN (F.getD j 0))) := by
  have hl : F.length = n := by have := h.1; simpa using this
  obtain ⟨V, cp, hv, hc⟩ := own_form h
  refine ⟨hl, V, cp, hv, fun hn => ?_⟩
  obtain ⟨g, hV, _, hcell⟩ := hc hn
  refine ⟨g, hV, fun j hj => hcell j _ ?_⟩
  rw [List.getElem?_map, List.getElem?_eq_getElem (by omega), List.getD_eq_getElem?_getD, List.getElem?_eq_getElem (by omega)]; rfl
section
variable {B p px m : Nat} {N : List Nd} {F O L : List Nat} {w : World}
theorem LkAt.len (h : LkAt B w p px N m F O L) : F.length = N.length ∧ O.length = N.length ∧ L.length = N.length := by
  obtain ⟨h1, vf, vo, vl, h2, h3, h4, h5⟩ := h
  exact ⟨(ints_form h3).1, (ints_form h4).1, (ints_form h5).1⟩
set_option maxHeartbeats 400000 in
theorem trie_any (h : LkAt B w p px N m F O L) : Calls Tryz.prog 19 #[.pointer (some ⟨p, 0, none⟩)] w fun e w' => e = .returned (.pointer (some ⟨px, 0, none⟩)) ∧ w' = w := by
  obtain ⟨h1, vf, vo, vl, h2, h3, h4, h5⟩ := h
  have c0 : w.cell? ⟨p, 0, none⟩ = some (.pointer (some ⟨px, 0, none⟩)) := cell_of h2 rfl
  clear h1 h2 h3 h4 h5
  go_enter Tryz.func19, Tryz.ntmps19
  go_wp2_with fail
  go_ret
  exact ⟨rfl, rfl⟩
set_option maxHeartbeats 400000 in
theorem trie_nil (w : World) : Calls Tryz.prog 19 #[.pointer none] w fun e w' => e = .returned (.pointer none) ∧ w' = w := by
  go_enter Tryz.func19, Tryz.ntmps19
  go_wp2_with fail
  go_ret
  exact ⟨rfl, rfl⟩
set_option maxHeartbeats 1000000 in
theorem fail_in (h : LkAt B w p px N m F O L) {k : Nat} (hk : k < N.length) : Calls Tryz.prog 14 #[.pointer (some ⟨p, 0, none⟩), .int .i64 (k : Int)] w fun e w' => e = .returned (.int .i64 (F.getD k 0 : Nat)) ∧ w' = w := by
  obtain ⟨h1, vf, vo, vl, h2, h3, h4, h5⟩ := h
  obtain ⟨hl, V, cp, rfl, hc⟩ := ints_form h3
  obtain ⟨g, rfl, hcell⟩ := hc (by omega)
  have c1 : w.cell? ⟨p, 1, none⟩ = some (.slice (some ⟨g, 0, none⟩) N.length cp) := cell_of h2 rfl
  have c2 := hcell k hk
  unfold encN at c2
  generalize F.getD k 0 = r at c2 ⊢
  have hd : decide ((k : Int) < 0) = false := decide_eq_false (by omega)
  have hd2 : decide ((k : Int) ≥ (N.length : Int)) = false := decide_eq_false (by omega)
  have hki : (k : Int) < (N.length : Int) := by omega
  clear h1 h2 h3 h4 h5 hc hcell hl
  go_enter Tryz.func14, Tryz.ntmps14
  go_wp2_with fail
  go_ret
  exact ⟨rfl, rfl⟩
set_option maxHeartbeats 1000000 in
theorem out_in (h : LkAt B w p px N m F O L) {k : Nat} (hk : k < N.length) : Calls Tryz.prog 15 #[.pointer (some ⟨p, 0, none⟩), .int .i64 (k : Int)] w fun e w' => e = .returned (.int .i64 (O.getD k 0 : Nat)) ∧ w' = w := by
  obtain ⟨h1, vf, vo, vl, h2, h3, h4, h5⟩ := h
  obtain ⟨hl, V, cp, rfl, hc⟩ := ints_form h4
  obtain ⟨g, rfl, hcell⟩ := hc (by omega)
  have c1 : w.cell? ⟨p, 2, none⟩ = some (.slice (some ⟨g, 0, none⟩) N.length cp) := cell_of h2 rfl
  have c2 := hcell k hk
  unfold encN at c2
  generalize O.getD k 0 = r at c2 ⊢
  have hd : decide ((k : Int) < 0) = false := decide_eq_false (by omega)
  have hd2 : decide ((k : Int) ≥ (N.length : Int)) = false := decide_eq_false (by omega)
  have hki : (k : Int) < (N.length : Int) := by omega
  clear h1 h2 h3 h4 h5 hc hcell hl
  go_enter Tryz.func15, Tryz.ntmps15
  go_wp2_with fail
  go_ret
  exact ⟨rfl, rfl⟩
set_option maxHeartbeats 1000000 in
theorem fail_out (h : LkAt B w p px N m F O L) {k : Int} (hk : k < 0 ∨ (N.length : Int) ≤ k) : Calls Tryz.prog 14 #[.pointer (some ⟨p, 0, none⟩), .int .i64 k] w fun e w' => e = .returned (.int .i64 0) ∧ w' = w := by
  obtain ⟨h1, vf, vo, vl, h2, h3, h4, h5⟩ := h
  obtain ⟨hl, V, cp, rfl, hc⟩ := ints_form h3
  have c1 : w.cell? ⟨p, 1, none⟩ = some (.slice V N.length cp) := cell_of h2 rfl
  clear h1 h2 h3 h4 h5 hc hl
  by_cases h0 : k < 0
  · have hd : decide (k < 0) = true := decide_eq_true h0
    clear hk h0
    go_enter Tryz.func14, Tryz.ntmps14
    go_wp2_with fail
    go_ret
    exact ⟨rfl, rfl⟩
  · have hd : decide (k < 0) = false := decide_eq_false h0
    have hd2 : decide (k ≥ (N.length : Int)) = true := decide_eq_true (by omega)
    clear hk h0
    go_enter Tryz.func14, Tryz.ntmps14
    go_wp2_with fail
    go_ret
    exact ⟨rfl, rfl⟩
set_option maxHeartbeats 1000000 in
theorem out_out (h : LkAt B w p px N m F O L) {k : Int} (hk : k < 0 ∨ (N.length : Int) ≤ k) : Calls Tryz.prog 15 #[.pointer (some ⟨p, 0, none⟩), .int .i64 k] w fun e w' => e = .returned (.int .i64 0) ∧ w' = w := by
  obtain ⟨h1, vf, vo, vl, h2, h3, h4, h5⟩ := h
  obtain ⟨hl, V, cp, rfl, hc⟩ := ints_form h4
  have c1 : w.cell? ⟨p, 2, none⟩ = some (.slice V N.length cp) := cell_of h2 rfl
  clear h1 h2 h3 h4 h5 hc hl
  by_cases h0 : k < 0
  · have hd : decide (k < 0) = true := decide_eq_true h0
    clear hk h0
    go_enter Tryz.func15, Tryz.ntmps15
    go_wp2_with fail
    go_ret
    exact ⟨rfl, rfl⟩
  · have hd : decide (k < 0) = false := decide_eq_false h0
    have hd2 : decide (k ≥ (N.length : Int)) = true := decide_eq_true (by omega)
    clear hk h0
    go_enter Tryz.func15, Tryz.ntmps15
    go_wp2_with fail
    go_ret
    exact ⟨rfl, rfl⟩
set_option maxHeartbeats 400000 in
theorem fail_nil (k : Int) (w : World) : Calls Tryz.prog 14 #[.pointer none, .int .i64 k] w fun e w' => e = .returned (.int .i64 0) ∧ w' = w := by
  go_enter Tryz.func14, Tryz.ntmps14
  go_wp2_with fail
  go_ret
  exact ⟨rfl, rfl⟩
set_option maxHeartbeats 400000 in
theorem out_nil (k : Int) (w : World) : Calls Tryz.prog 15 #[.pointer none, .int .i64 k] w fun e w' => e = .returned (.int .i64 0) ∧ w' = w := by
  go_enter Tryz.func15, Tryz.ntmps15
  go_wp2_with fail
  go_ret
  exact ⟨rfl, rfl⟩
end
end Go.Proofs.YtdeeeechdlcdbaaGreat.LkM
/- The walk of a link. -/
set_option linter.unusedVariables false
set_option linter.unusedSimpArgs false
namespace Go.Proofs.YtdeeeechdlcdbaaGreat.LkL
open Go Go.RowKit Go.Proofs.YtdeeeechdlcdbaaGreat.Base Go.Proofs.YtdeeeechdlcdbaaGreat.DiA Go.Proofs.YtdeeeechdlcdbaaGreat.TrP Go.Proofs.YtdeeeechdlcdbaaGreat.TrM Go.Proofs.YtdeeeechdlcdbaaGreat.TrA Go.Proofs.YtdeeeechdlcdbaaGreat.TrD Go.Proofs.YtdeeeechdlcdbaaGreat.TrE Go.Proofs.YtdeeeechdlcdbaaGreat.TtP Go.Proofs.YtdeeeechdlcdbaaGreat.TwA Go.Proofs.YtdeeeechdlcdbaaGreat.LkA Go.Proofs.YtdeeeechdlcdbaaGreat.LkP Go.Proofs.YtdeeeechdlcdbaaGreat.LkM
/-- Links that are being laid: two rows in blocks of their own. -/
structure LkMem (w : World) (p px g1 g2 n : Nat) (vl : Value) (F O : List Nat) : Prop where
  head : w.heap[p]? = some (.cells #[.pointer (some ⟨px, 0, none⟩), .slice (some ⟨g1, 0, none⟩) n n, .slice (some ⟨g2, 0, none⟩) n n, vl] 80 (0, 0))
  f : w.heap[g1]? = some (.cells (F.map encN).toArray 3 (0, 0))
  o : w.heap[g2]? = some (.cells (O.map encN).toArray 3 (0, 0))
  fl : F.length = n
  ol : O.length = n
  ne : g1 ≠ g2
/-- But for two blocks all stays. -/
structure Twin (g1 g2 : Nat) (w w' : World) : Prop where
  os : w'.os = w.os
  tape : w'.tape = w.tape
  output : w'.output = w.output
  size : w.heap.size ≤ w'.heap.size
  block : ∀ k, k < w.heap.size → k ≠ g1 → k ≠ g2 → w'.heap[k]? = w.heap[k]?
theorem Twin.refl (g1 g2 : Nat) (w : World) : Twin g1 g2 w w := ⟨rfl, rfl, rfl, Nat.le_refl _, fun _ _ _ _ => rfl⟩
theorem Twin.trans {g1 g2 : Nat} {a b c : World} (h : Twin g1 g2 a b) (k : Twin g1 g2 b c) : Twin g1 g2 a c :=
  ⟨k.os.trans h.os, k.tape.trans h.tape, k.output.trans h.output, Nat.le_trans h.size k.size, fun i h1 h2 h3 => (k.block i (Nat.lt_of_lt_of_le h1 h.size) h2 h3).trans (h.block i h1 h2 h3)⟩
theorem Twin.of_below {g1 g2 : Nat} {w w' : World} (h : Below w.heap.size w w') : Twin g1 g2 w w' := ⟨h.os, h.tape, h.output, h.size, fun k hk _ _ => h.block k hk⟩
theorem size_set (w : World) (a : Addr) (v : Value) : (w.setCell a v).heap.size = w.heap.size := by unfold World.setCell; simp
theorem Twin.of_set {g1 g2 g i : Nat} (w : World) (v : Value) (h : g = g1 ∨ g = g2) : Twin g1 g2 w (w.setCell ⟨g, i, none⟩ v) :=
  ⟨rfl, rfl, rfl, by rw [size_set]; exact Nat.le_refl _, fun k hk h1 h2 => Below.heap_setCell _ _ _ _ (by rcases h with rfl | rfl <;> first | exact h1 | exact h2)⟩
theorem Twin.drew {g1 g2 : Nat} (w : World) : Twin g1 g2 w { w with drawn := w.drawn + 1 } := ⟨rfl, rfl, rfl, Nat.le_refl _, fun _ _ _ _ => rfl⟩
theorem Twin.below {g1 g2 B : Nat} {w w' : World} (h : Twin g1 g2 w w') (hB : B ≤ w.heap.size) (h1 : B ≤ g1) (h2 : B ≤ g2) : Below B w w' := ⟨h.os, h.tape, h.output, h.size, fun k hk => h.block k (by omega) (by omega) (by omega)⟩
theorem heap_setN {w : World} {g i : Nat} {cs : Array Value} {t : TypeId} (h : w.heap[g]? = some (.cells cs t (0, 0))) (v : Value) : (w.setCell ⟨g, i, none⟩ v).heap[g]? = some (.cells (cs.setIfInBounds i v) t (0, 0)) := by
  simp only [World.setCell, Array.getElem?_modify, if_true, h]
  rfl
theorem map_setN (F : List Nat) (i x : Nat) : ((F.map encN).toArray.setIfInBounds i (encN x)) = ((F.set i x).map encN).toArray := by
  rw [List.map_set]; simp
section
variable {w : World} {p px g1 g2 n : Nat} {vl : Value} {F O : List Nat}
theorem LkMem.p1 (h : LkMem w p px g1 g2 n vl F O) : p ≠ g1 := by
  rintro rfl; have := h.head; rw [h.f] at this; injection this with this; injection this with _ e; cases e
theorem LkMem.p2 (h : LkMem w p px g1 g2 n vl F O) : p ≠ g2 := by
  rintro rfl; have := h.head; rw [h.o] at this; injection this with this; injection this with _ e; cases e
theorem LkMem.below (h : LkMem w p px g1 g2 n vl F O) {w' : World} (hb : Below w.heap.size w w') : LkMem w' p px g1 g2 n vl F O := ⟨heap_below hb h.head, heap_below hb h.f, heap_below hb h.o, h.fl, h.ol, h.ne⟩
theorem LkMem.drew (h : LkMem w p px g1 g2 n vl F O) : LkMem { w with drawn := w.drawn + 1 } p px g1 g2 n vl F O := ⟨h.head, h.f, h.o, h.fl, h.ol, h.ne⟩
theorem LkMem.cellF (h : LkMem w p px g1 g2 n vl F O) {k : Nat} (hk : k < n) : w.cell? ⟨g1, k, none⟩ = some (encN (F.getD k 0)) := by
  refine cell_of h.f ?_
  have := h.fl
  rw [List.getElem?_toArray, List.getElem?_map, List.getElem?_eq_getElem (by omega), List.getD_eq_getElem?_getD, List.getElem?_eq_getElem (by omega)]; rfl
theorem LkMem.cellO (h : LkMem w p px g1 g2 n vl F O) {k : Nat} (hk : k < n) : w.cell? ⟨g2, k, none⟩ = some (encN (O.getD k 0)) := by
  refine cell_of h.o ?_
  have := h.ol
  rw [List.getElem?_toArray, List.getElem?_map, List.getElem?_eq_getElem (by omega), List.getD_eq_getElem?_getD, List.getElem?_eq_getElem (by omega)]; rfl
theorem LkMem.setF (h : LkMem w p px g1 g2 n vl F O) (i x : Nat) : LkMem (w.setCell ⟨g1, i, none⟩ (encN x)) p px g1 g2 n vl (F.set i x) O := by
  refine ⟨?_, ?_, ?_, by rw [List.length_set]; exact h.fl, h.ol, h.ne⟩
  · rw [Below.heap_setCell _ _ _ _ h.p1]; exact h.head
  · rw [heap_setN h.f, map_setN]
  · rw [Below.heap_setCell _ _ _ _ h.ne.symm]; exact h.o
theorem LkMem.setO (h : LkMem w p px g1 g2 n vl F O) (i x : Nat) : LkMem (w.setCell ⟨g2, i, none⟩ (encN x)) p px g1 g2 n vl F (O.set i x) := by
  refine ⟨?_, ?_, ?_, h.fl, by rw [List.length_set]; exact h.ol, h.ne⟩
  · rw [Below.heap_setCell _ _ _ _ h.p2]; exact h.head
  · rw [Below.heap_setCell _ _ _ _ h.ne]; exact h.f
  · rw [heap_setN h.o, map_setN]
end
theorem getD_set_same {F : List Nat} {i x : Nat} (h : i < F.length) : (F.set i x).getD i 0 = x := by
  rw [List.getD_eq_getElem?_getD, List.getElem?_set_self (by simpa using h)]; rfl
theorem getD_set_ne {F : List Nat} {i j x : Nat} (h : i ≠ j) : (F.set i x).getD j 0 = F.getD j 0 := by
  rw [List.getD_eq_getElem?_getD, List.getElem?_set_ne h, List.getD_eq_getElem?_getD]
theorem set_self {F : List Nat} {i x : Nat} (h : F.getD i 0 = x) (hi : i < F.length) : F.set i x = F := by
  rw [List.getD_eq_getElem?_getD, List.getElem?_eq_getElem hi] at h
  have h2 : F[i] = x := h
  rw [← h2, List.set_getElem_self]
def outV (p g2 n x f o : Nat) (i : Nat) (v : Value) (W : World) : Prop := match i with
  | 0 => v = .pointer (some ⟨p, 0, none⟩)
  | 1 => v = .pointer (some ⟨p, 0, none⟩)
  | 2 => v = .pointer (some ⟨p, 2, none⟩)
  | 3 => v = .slice (some ⟨g2, 0, none⟩) n n
  | 4 => v = .int .i64 (x : Int)
  | 5 => v = .pointer (some ⟨p, 0, none⟩)
  | 6 => v = .pointer (some ⟨p, 0, none⟩)
  | 7 => v = .pointer (some ⟨p, 2, none⟩)
  | 8 => v = .slice (some ⟨g2, 0, none⟩) n n
  | 9 => v = .int .i64 (f : Int)
  | 10 => v = .pointer (some ⟨g2, f, none⟩)
  | 11 => v = .int .i64 (o : Int)
  | 12 => v = .pointer (some ⟨g2, x, none⟩)
  | _ => True
set_option maxRecDepth 20000 in
set_option maxHeartbeats 4000000 in
/-- A son is linked: its father, and all that is no deeper, are linked before. -/
theorem link_call {B p px g1 g2 m n x i : Nat} {vl : Value} {N : List Nd} {F O : List Nat} {zs : List ByteArray} {id : Nat} {X : List Pn} {c : Int} {w : World}
    (tri0 : ∀ W, Twin g1 g2 w W → TrieAt B W px N m) (hbig0 : N.length ≤ 1000000) (hX0 : N.map (·.p) = X) (hn0 : N.length = n) (hG0 : TrP.Good zs id X) (hF0 : Fine X) (Mm0 : LkMem w p px g1 g2 n vl F O)
    (hi0 : i < n) (hc0 : 0 ≤ c ∧ c ≤ 255) (hx0 : (X.getD i noPn).sons c = some x) (hf0 : F.getD x 0 = 0)
    (hFa : ∀ k, k < X.length → (tx X k).length ≤ (tx X i).length → Lg X (tx X k) ((tx X k).length - 1) (F.getD k 0))
    (hOa : ∀ k, k < X.length → (tx X k).length ≤ (tx X i).length → Ot X (tx X k) ((tx X k).length - 1) (O.getD k 0)) :
    Calls Tryz.prog 92 #[.pointer (some ⟨p, 0, none⟩), .int .i64 (x : Int), .int .i64 (i : Int), .int .u8 c] w fun e w' => e = .returned (.tuple #[]) ∧
      ∃ f o, LkMem w' p px g1 g2 n vl (F.set x f) (O.set x o) ∧ Twin g1 g2 w w' ∧ Lg X (tx X x) ((tx X x).length - 1) f ∧ Ot X (tx X x) ((tx X x).length - 1) o := by
  have hX : Hid (N.map (·.p) = X) := hX0
  have hXn : Hid (X.length = n) := by show _ = _; rw [← hX0, List.length_map, hn0]
  have hG : Hid (TrP.Good zs id X) := hG0
  have hF : Hid (Fine X) := hF0
  have tri : Hid (∀ W, Twin g1 g2 w W → TrieAt B W px N m) := tri0
  have hch : Hid (0 ≤ c ∧ c ≤ 255) := hc0
  have hFo : Hid (∀ k, k < X.length → (tx X k).length ≤ (tx X i).length → Lg X (tx X k) ((tx X k).length - 1) (F.getD k 0)) := hFa
  have hOo : Hid (∀ k, k < X.length → (tx X k).length ≤ (tx X i).length → Ot X (tx X k) ((tx X k).length - 1) (O.getD k 0)) := hOa
  have hbig : Hid (N.length ≤ 1000000) := hbig0
  obtain ⟨hxl, hxe, _⟩ := lg_son hG0 (by rw [hXn.out]; exact hi0) hx0
  have hxi : Hid (tx X x = tx X i ++ [byte c]) := hxe
  have hxn : x < n := by rw [hXn.out] at hxl; exact hxl
  have hl0 : Look X x i c := look_start hG0 hF0 (by rw [hXn.out]; exact hi0) hxe
  have hxl2 : x < F.length := by rw [Mm0.fl]; exact hxn
  have hf00 : Hid (F.getD x 0 = 0) := hf0
  have Mh : Hid (LkMem w p px g1 g2 n vl F O) := Mm0
  clear hn0 hX0 hG0 hF0 tri0 hFa hOa hbig0 hxl hxe hx0 Mm0 hf0 hc0
  go_enter Tryz.func92, Tryz.ntmps92
  go_wp2_with fail
  go_loopw [8] (fun s wr => ∃ a : Nat, s = .int .i64 (a : Int) ∧ Hid (Look X x a c) ∧ Hid ((tx X a).length ≤ (tx X i).length) ∧ Below w.heap.size w wr) (fun s _ => (tx X (intOf s).toNat).length)
  case atStart => exact ⟨i, rfl, Lib.hid hl0, Lib.hid (Nat.le_refl _), Below.refl _ _⟩
  case round =>
    obtain ⟨a, rfl, hl, hle, bel⟩ := hrel
    clear hl0
    have Mr := Mh.out.below bel
    by_cases ha0 : a = 0
    · subst ha0
      obtain ⟨wt, hwt⟩ : ∃ wt, wt = wr := ⟨_, rfl⟩
      subst hwt
      have Mm := Mr
      have tw : Twin g1 g2 w wt := Twin.of_below bel
      obtain ⟨f, hf⟩ : ∃ f : Nat, f = 0 := ⟨_, rfl⟩
      have hfl : Hid (Lg X (tx X x) ((tx X x).length - 1) f) := by rw [hf]; exact hl.out.none rfl
      have hfv : Hid (F.getD x 0 = f) := by rw [hf]; exact hf00.out
      obtain ⟨FX, hFX⟩ : ∃ FX, FX = F := ⟨_, rfl⟩
      have hfx : Hid (FX = F.set x f) := by rw [hFX]; exact (set_self hfv.out hxl2).symm
      rw [← hFX] at Mm
      have hfv2 : Hid (FX.getD x 0 = f) := by rw [hFX]; exact hfv.out
      clear hfv hFX hf Mr bel hl hle
      have hfv := hfv2
      clear hfv2
      have hfn : f < n := by have := hfl.out.lt; rw [hXn.out] at this; exact this
      have cf := Mm.cellF hxn
      rw [hfv.out] at cf
      have c1 : wt.cell? ⟨p, 1, none⟩ = some (.slice (some ⟨g1, 0, none⟩) n n) := cell_of Mm.head rfl
      have c0 : wt.cell? ⟨p, 0, none⟩ = some (.pointer (some ⟨px, 0, none⟩)) := cell_of Mm.head rfl
      have c2 : wt.cell? ⟨p, 2, none⟩ = some (.slice (some ⟨g2, 0, none⟩) n n) := cell_of Mm.head rfl
      unfold encN at cf
      obtain ⟨o, ho⟩ : ∃ o, O.getD f 0 = o := ⟨_, rfl⟩
      have cO := Mm.cellO hfn
      rw [ho] at cO
      unfold encN at cO
      have hot : Hid (Ot X (tx X f) ((tx X f).length - 1) o) := by rw [← ho]; exact hOo.out f hfl.out.lt (Nat.le_trans hfl.out.le (by have := hxi.out; rw [this]; simp))
      have hfi : (f : Int) < (n : Int) := by omega
      have hxn2 : (x : Int) < (n : Int) := by omega
      have hTt := tri wt tw
      clear ho
      go_wp2_with fail
      refine Reg.wp_region_last 13 (fun W W' => Hid (W' = W)) (outV p g2 n x f o)
        [some 47, some 48, some 49, some 50, some 51, some 52, some 53, some 54, some 55, some 56, some 57, some 58, some 59, none]
        [[], [0], [1], [2], [], [], [5], [6], [7], [], [8, 9], [10], [3, 4, 0, 1, 2, 3, 4, 5, 6, 7, 8, 9, 10, 11], [12, 11, 0, 1, 2, 3, 4, 5, 6, 7, 8, 9, 10, 11]]
        (by kernel_rfl) (by kernel_rfl) (by kernel_rfl) (by kernel_rfl) (by kernel_rfl) (fun _ => Lib.hid rfl) (fun _ _ _ h k => Lib.hid (k.out.trans h.out)) ?_ ?_ ?_
      · intro i v W W' h k
        unfold outV at h ⊢
        split at h <;> first | exact h
      · refine ⟨?_, ?_, ?_, ?_, ?_, ?_, ?_, ?_, ?_, ?_, ?_, ?_, ?_, trivial⟩
        · intro vals W K hR hV hK
          simp only [Reg.putS, List.foldl, List.headD, List.tail, List.getD_cons_zero, List.getD_cons_succ, Act.put, List.setIfInBounds_toArray, List.set_cons_zero, List.set_cons_succ] at hK ⊢
          go_simp
          first
            | exact hK _ _ (Lib.hid rfl) rfl
            | (rw [if_pos (by omega)]; exact hK _ _ (Lib.hid rfl) rfl)
            | (rw [dif_pos (by omega)]; exact hK _ _ (Lib.hid rfl) rfl)
            | (rw [if_neg (by omega)]; exact hK _ _ (Lib.hid rfl) rfl)
        · intro vals W K hR hV hK
          have d0 := hV 0 (by simp)
          simp only [outV] at d0
          simp only [Reg.putS, List.foldl, List.headD, List.tail, List.getD_cons_zero, List.getD_cons_succ, Act.put, List.setIfInBounds_toArray, List.set_cons_zero, List.set_cons_succ, d0] at hK ⊢
          go_simp
          first
            | exact hK _ _ (Lib.hid rfl) rfl
            | (rw [if_pos (by omega)]; exact hK _ _ (Lib.hid rfl) rfl)
            | (rw [dif_pos (by omega)]; exact hK _ _ (Lib.hid rfl) rfl)
            | (rw [if_neg (by omega)]; exact hK _ _ (Lib.hid rfl) rfl)
        · intro vals W K hR hV hK
          have d1 := hV 1 (by simp)
          simp only [outV] at d1
          simp only [Reg.putS, List.foldl, List.headD, List.tail, List.getD_cons_zero, List.getD_cons_succ, Act.put, List.setIfInBounds_toArray, List.set_cons_zero, List.set_cons_succ, d1] at hK ⊢
          go_simp
          first
            | exact hK _ _ (Lib.hid rfl) rfl
            | (rw [if_pos (by omega)]; exact hK _ _ (Lib.hid rfl) rfl)
            | (rw [dif_pos (by omega)]; exact hK _ _ (Lib.hid rfl) rfl)
            | (rw [if_neg (by omega)]; exact hK _ _ (Lib.hid rfl) rfl)
        · intro vals W K hR hV hK
          have d2 := hV 2 (by simp)
          simp only [outV] at d2
          simp only [Reg.putS, List.foldl, List.headD, List.tail, List.getD_cons_zero, List.getD_cons_succ, Act.put, List.setIfInBounds_toArray, List.set_cons_zero, List.set_cons_succ, d2] at hK ⊢
          have hcl : W.cell? ⟨p, 2, none⟩ = some (.slice (some ⟨g2, 0, none⟩) n n) := by rw [hR.out]; exact c2
          go_simp
          first
            | exact hK _ _ (Lib.hid rfl) rfl
            | (rw [if_pos (by omega)]; exact hK _ _ (Lib.hid rfl) rfl)
            | (rw [dif_pos (by omega)]; exact hK _ _ (Lib.hid rfl) rfl)
            | (rw [if_neg (by omega)]; exact hK _ _ (Lib.hid rfl) rfl)
        · intro vals W K hR hV hK
          simp only [Reg.putS, List.foldl, List.headD, List.tail, List.getD_cons_zero, List.getD_cons_succ, Act.put, List.setIfInBounds_toArray, List.set_cons_zero, List.set_cons_succ] at hK ⊢
          go_simp
          first
            | exact hK _ _ (Lib.hid rfl) rfl
            | (rw [if_pos (by omega)]; exact hK _ _ (Lib.hid rfl) rfl)
            | (rw [dif_pos (by omega)]; exact hK _ _ (Lib.hid rfl) rfl)
            | (rw [if_neg (by omega)]; exact hK _ _ (Lib.hid rfl) rfl)
        · intro vals W K hR hV hK
          simp only [Reg.putS, List.foldl, List.headD, List.tail, List.getD_cons_zero, List.getD_cons_succ, Act.put, List.setIfInBounds_toArray, List.set_cons_zero, List.set_cons_succ] at hK ⊢
          go_simp
          first
            | exact hK _ _ (Lib.hid rfl) rfl
            | (rw [if_pos (by omega)]; exact hK _ _ (Lib.hid rfl) rfl)
            | (rw [dif_pos (by omega)]; exact hK _ _ (Lib.hid rfl) rfl)
            | (rw [if_neg (by omega)]; exact hK _ _ (Lib.hid rfl) rfl)
        · intro vals W K hR hV hK
          have d5 := hV 5 (by simp)
          simp only [outV] at d5
          simp only [Reg.putS, List.foldl, List.headD, List.tail, List.getD_cons_zero, List.getD_cons_succ, Act.put, List.setIfInBounds_toArray, List.set_cons_zero, List.set_cons_succ, d5] at hK ⊢
          go_simp
          first
            | exact hK _ _ (Lib.hid rfl) rfl
            | (rw [if_pos (by omega)]; exact hK _ _ (Lib.hid rfl) rfl)
            | (rw [dif_pos (by omega)]; exact hK _ _ (Lib.hid rfl) rfl)
            | (rw [if_neg (by omega)]; exact hK _ _ (Lib.hid rfl) rfl)
        · intro vals W K hR hV hK
          have d6 := hV 6 (by simp)
          simp only [outV] at d6
          simp only [Reg.putS, List.foldl, List.headD, List.tail, List.getD_cons_zero, List.getD_cons_succ, Act.put, List.setIfInBounds_toArray, List.set_cons_zero, List.set_cons_succ, d6] at hK ⊢
          go_simp
          first
            | exact hK _ _ (Lib.hid rfl) rfl
            | (rw [if_pos (by omega)]; exact hK _ _ (Lib.hid rfl) rfl)
            | (rw [dif_pos (by omega)]; exact hK _ _ (Lib.hid rfl) rfl)
            | (rw [if_neg (by omega)]; exact hK _ _ (Lib.hid rfl) rfl)
        · intro vals W K hR hV hK
          have d7 := hV 7 (by simp)
          simp only [outV] at d7
          simp only [Reg.putS, List.foldl, List.headD, List.tail, List.getD_cons_zero, List.getD_cons_succ, Act.put, List.setIfInBounds_toArray, List.set_cons_zero, List.set_cons_succ, d7] at hK ⊢
          have hcl : W.cell? ⟨p, 2, none⟩ = some (.slice (some ⟨g2, 0, none⟩) n n) := by rw [hR.out]; exact c2
          go_simp
          first
            | exact hK _ _ (Lib.hid rfl) rfl
            | (rw [if_pos (by omega)]; exact hK _ _ (Lib.hid rfl) rfl)
            | (rw [dif_pos (by omega)]; exact hK _ _ (Lib.hid rfl) rfl)
            | (rw [if_neg (by omega)]; exact hK _ _ (Lib.hid rfl) rfl)
        · intro vals W K hR hV hK
          simp only [Reg.putS, List.foldl, List.headD, List.tail, List.getD_cons_zero, List.getD_cons_succ, Act.put, List.setIfInBounds_toArray, List.set_cons_zero, List.set_cons_succ] at hK ⊢
          go_simp
          first
            | exact hK _ _ (Lib.hid rfl) rfl
            | (rw [if_pos (by omega)]; exact hK _ _ (Lib.hid rfl) rfl)
            | (rw [dif_pos (by omega)]; exact hK _ _ (Lib.hid rfl) rfl)
            | (rw [if_neg (by omega)]; exact hK _ _ (Lib.hid rfl) rfl)
        · intro vals W K hR hV hK
          have d8 := hV 8 (by simp)
          simp only [outV] at d8
          have d9 := hV 9 (by simp)
          simp only [outV] at d9
          simp only [Reg.putS, List.foldl, List.headD, List.tail, List.getD_cons_zero, List.getD_cons_succ, Act.put, List.setIfInBounds_toArray, List.set_cons_zero, List.set_cons_succ, d8, d9] at hK ⊢
          go_simp
          first
            | exact hK _ _ (Lib.hid rfl) rfl
            | (rw [if_pos (by omega)]; exact hK _ _ (Lib.hid rfl) rfl)
            | (rw [dif_pos (by omega)]; exact hK _ _ (Lib.hid rfl) rfl)
            | (rw [if_neg (by omega)]; exact hK _ _ (Lib.hid rfl) rfl)
        · intro vals W K hR hV hK
          have d10 := hV 10 (by simp)
          simp only [outV] at d10
          simp only [Reg.putS, List.foldl, List.headD, List.tail, List.getD_cons_zero, List.getD_cons_succ, Act.put, List.setIfInBounds_toArray, List.set_cons_zero, List.set_cons_succ, d10] at hK ⊢
          have hcl : W.cell? ⟨g2, f, none⟩ = some (.int .i64 (o : Int)) := by rw [hR.out]; exact cO
          go_simp
          first
            | exact hK _ _ (Lib.hid rfl) rfl
            | (rw [if_pos (by omega)]; exact hK _ _ (Lib.hid rfl) rfl)
            | (rw [dif_pos (by omega)]; exact hK _ _ (Lib.hid rfl) rfl)
            | (rw [if_neg (by omega)]; exact hK _ _ (Lib.hid rfl) rfl)
        · intro vals W K hR hV hK
          have d0 := hV 0 (by simp)
          simp only [outV] at d0
          have d1 := hV 1 (by simp)
          simp only [outV] at d1
          have d2 := hV 2 (by simp)
          simp only [outV] at d2
          have d3 := hV 3 (by simp)
          simp only [outV] at d3
          have d4 := hV 4 (by simp)
          simp only [outV] at d4
          have d5 := hV 5 (by simp)
          simp only [outV] at d5
          have d6 := hV 6 (by simp)
          simp only [outV] at d6
          have d7 := hV 7 (by simp)
          simp only [outV] at d7
          have d8 := hV 8 (by simp)
          simp only [outV] at d8
          have d9 := hV 9 (by simp)
          simp only [outV] at d9
          have d10 := hV 10 (by simp)
          simp only [outV] at d10
          have d11 := hV 11 (by simp)
          simp only [outV] at d11
          simp only [Reg.putS, List.foldl, List.headD, List.tail, List.getD_cons_zero, List.getD_cons_succ, Act.put, List.setIfInBounds_toArray, List.set_cons_zero, List.set_cons_succ, d0, d1, d2, d3, d4, d5, d6, d7, d8, d9, d10, d11] at hK ⊢
          go_simp
          first
            | exact hK _ _ (Lib.hid rfl) rfl
            | (rw [if_pos (by omega)]; exact hK _ _ (Lib.hid rfl) rfl)
            | (rw [dif_pos (by omega)]; exact hK _ _ (Lib.hid rfl) rfl)
            | (rw [if_neg (by omega)]; exact hK _ _ (Lib.hid rfl) rfl)
      · intro vals W o ho hR hV
        simp only [List.getElem?_toArray, List.getElem?_cons_succ, List.getElem?_cons_zero, Option.some.injEq] at ho
        subst ho
        have d0 := hV 0 (by decide)
        simp only [outV] at d0
        have d1 := hV 1 (by decide)
        simp only [outV] at d1
        have d2 := hV 2 (by decide)
        simp only [outV] at d2
        have d3 := hV 3 (by decide)
        simp only [outV] at d3
        have d4 := hV 4 (by decide)
        simp only [outV] at d4
        have d5 := hV 5 (by decide)
        simp only [outV] at d5
        have d6 := hV 6 (by decide)
        simp only [outV] at d6
        have d7 := hV 7 (by decide)
        simp only [outV] at d7
        have d8 := hV 8 (by decide)
        simp only [outV] at d8
        have d9 := hV 9 (by decide)
        simp only [outV] at d9
        have d10 := hV 10 (by decide)
        simp only [outV] at d10
        have d11 := hV 11 (by decide)
        simp only [outV] at d11
        have d12 := hV 12 (by decide)
        simp only [outV] at d12
        unfold Reg.LastStep
        rw [show List.range 13 = [0, 1, 2, 3, 4, 5, 6, 7, 8, 9, 10, 11, 12] from rfl]
        clear hV
        simp only [Reg.putS, List.foldl, List.getD_cons_zero, List.getD_cons_succ, Act.put, List.setIfInBounds_toArray, List.set_cons_zero, List.set_cons_succ, d0, d1, d2, d3, d4, d5, d6, d7, d8, d9, d10, d11, d12]
        clear d0 d1 d2 d3 d4 d5 d6 d7 d8 d9 d10 d11 d12
        have Md := Mm.drew
        have tD := tw.trans (Twin.drew wt)
        have hWd := hR.out
        have Mw : LkMem W p px g1 g2 n vl FX O := by rw [hWd]; exact Md
        have tW : Twin g1 g2 w W := by rw [hWd]; exact tD
        clear hWd Md tD hR c0 c1 c2 cO Mm tw hTt cf
        have s1 := Mw.cellO hxn
        have s2 : W.frozen? ⟨g2, x, none⟩ = false := frozen_of Mw.o
        have M2 := Mw.setO x o
        have t2 := tW.trans (Twin.of_set (g1 := g1) (g2 := g2) (i := x) W (encN o) (.inr rfl))
        unfold encN at s1 M2 t2
        go_simp
        clear s1 s2 Mw tW
        generalize W.setCell ⟨g2, x, none⟩ (.int .i64 (o : Int)) = w2 at M2 t2 ⊢
        have d0 : w2.cell? ⟨p, 0, none⟩ = some (.pointer (some ⟨px, 0, none⟩)) := cell_of M2.head rfl
        have d2 : w2.cell? ⟨p, 2, none⟩ = some (.slice (some ⟨g2, 0, none⟩) n n) := cell_of M2.head rfl
        have cW := word_in (tri w2 t2) hbig hX f (by rw [hXn.out]; exact hfn)
        have hostep : Hid (Ot X (tx X x) ((tx X x).length - 1) (if 0 ≤ (X.getD f noPn).word then f else o)) := ot_step hF.out hfl.out hot.out
        generalize (X.getD f noPn).word = wd at cW hostep
        go_wp2_with fail
        refine cW.mono ?_
        rintro e w3 ⟨rfl, b3⟩
        have M3 := M2.below b3
        have t3 := t2.trans (Twin.of_below b3)
        have e0 := pw_cell_below b3 d0
        have e2 := pw_cell_below b3 d2
        clear cW M2 t2 b3 d0 d2
        by_cases hw0 : 0 ≤ wd
        · have hwd : decide (wd ≥ 0) = true := decide_eq_true hw0
          rw [if_pos hw0] at hostep
          have s1 := M3.cellO hxn
          have s2 : w3.frozen? ⟨g2, x, none⟩ = false := frozen_of M3.o
          have M4 := M3.setO x f
          have t4 := t3.trans (Twin.of_set (g1 := g1) (g2 := g2) (i := x) w3 (encN f) (.inr rfl))
          unfold encN at s1 M4 t4
          clear hw0
          go_wp2_with fail
          go_end0
          rw [List.set_set] at M4
          exact ⟨rfl, f, f, by rw [← hfx.out]; exact M4, t4, hfl.out, hostep.out⟩
        · have hwd : decide (wd ≥ 0) = false := decide_eq_false hw0
          rw [if_neg hw0] at hostep
          clear hw0
          go_wp2_with fail
          go_end0
          exact ⟨rfl, f, o, by rw [← hfx.out]; exact M3, t3, hfl.out, hostep.out⟩
    · have ha1 : 0 < a := by omega
      have han : a < n := by have := hl.out.lt; rw [hXn.out] at this; exact this
      have hneq : ((a : Int) == 0) = false := by simp; omega
      have c0 : wr.cell? ⟨p, 0, none⟩ = some (.pointer (some ⟨px, 0, none⟩)) := cell_of Mr.head rfl
      have c1 : wr.cell? ⟨p, 1, none⟩ = some (.slice (some ⟨g1, 0, none⟩) n n) := cell_of Mr.head rfl
      have ca := Mr.cellF han
      obtain ⟨f1, hf1⟩ : ∃ f1, F.getD a 0 = f1 := ⟨_, rfl⟩
      rw [hf1] at ca
      unfold encN at ca
      have hfa : Hid (Lg X (tx X a) ((tx X a).length - 1) f1) := by rw [← hf1]; exact hFo.out a hl.out.lt hle.out
      have hai : (a : Int) < (n : Int) := by omega
      have hbr := Twin.of_below (g1 := g1) (g2 := g2) bel
      clear hf1
      cases hs : (X.getD f1 noPn).sons c with
      | some f =>
        have cN := next_some (tri.out wr hbr) hbig.out hX.out hfa.out.lt hch.out hs
        have hfl : Hid (Lg X (tx X x) ((tx X x).length - 1) f) := look_found hG.out hl.out ha1 hfa.out hs
        clear hs
        go_wp2_with fail
        refine cN.mono ?_
        rintro e w5 ⟨rfl, b5⟩
        have M5 := Mr.below b5
        have t5 := hbr.trans (Twin.of_below b5)
        clear cN c0 c1 ca Mr hbr bel b5 hl hle hfa
        have c1 : w5.cell? ⟨p, 1, none⟩ = some (.slice (some ⟨g1, 0, none⟩) n n) := cell_of M5.head rfl
        have s1 := M5.cellF hxn
        have s2 : w5.frozen? ⟨g1, x, none⟩ = false := frozen_of M5.f
        have M6 := M5.setF x f
        have t6 := t5.trans (Twin.of_set (g1 := g1) (g2 := g2) (i := x) w5 (encN f) (.inl rfl))
        have hxn2 : (x : Int) < (n : Int) := by omega
        unfold encN at s1 M6 t6
        obtain ⟨wt, hwt0⟩ : ∃ wt, wt = w5.setCell ⟨g1, x, none⟩ (.int .i64 (f : Int)) := ⟨_, rfl⟩
        have hwt : Hid (wt = w5.setCell ⟨g1, x, none⟩ (.int .i64 (f : Int))) := hwt0
        obtain ⟨FX, hFX⟩ : ∃ FX, FX = F.set x f := ⟨_, rfl⟩
        have hfx : Hid (FX = F.set x f) := hFX
        rw [← hwt0] at M6 t6
        rw [← hFX] at M6
        have Mm := M6
        have hp1 : p ≠ g1 := M5.p1
        clear M6 hFX M5 t5 hwt0
        have tw : Twin g1 g2 w wt := t6
        have hfv : Hid (FX.getD x 0 = f) := by rw [hfx.out]; exact getD_set_same hxl2
        clear t6
        have hfn : f < n := by have := hfl.out.lt; rw [hXn.out] at this; exact this
        have cf := Mm.cellF hxn
        rw [hfv.out] at cf
        have c0 : wt.cell? ⟨p, 0, none⟩ = some (.pointer (some ⟨px, 0, none⟩)) := cell_of Mm.head rfl
        have c2 : wt.cell? ⟨p, 2, none⟩ = some (.slice (some ⟨g2, 0, none⟩) n n) := cell_of Mm.head rfl
        unfold encN at cf
        clear cf
        obtain ⟨o, ho⟩ : ∃ o, O.getD f 0 = o := ⟨_, rfl⟩
        have cO := Mm.cellO hfn
        rw [ho] at cO
        unfold encN at cO
        have hot : Hid (Ot X (tx X f) ((tx X f).length - 1) o) := by rw [← ho]; exact hOo.out f hfl.out.lt (Nat.le_trans hfl.out.le (by have := hxi.out; rw [this]; simp))
        have hfi : (f : Int) < (n : Int) := by omega
        have hxn2 : (x : Int) < (n : Int) := by omega
        have hTt := tri wt tw
        clear ho
        go_wp2_with fail
        rw [← hwt.out]
        clear hwt c1 s1 s2 hp1
        have c1 := c2
        refine Reg.wp_region_last 13 (fun W W' => Hid (W' = W)) (outV p g2 n x f o)
          [some 47, some 48, some 49, some 50, some 51, some 52, some 53, some 54, some 55, some 56, some 57, some 58, some 59, none]
          [[], [0], [1], [2], [], [], [5], [6], [7], [], [8, 9], [10], [3, 4, 0, 1, 2, 3, 4, 5, 6, 7, 8, 9, 10, 11], [12, 11, 0, 1, 2, 3, 4, 5, 6, 7, 8, 9, 10, 11]]
          (by kernel_rfl) (by kernel_rfl) (by kernel_rfl) (by kernel_rfl) (by kernel_rfl) (fun _ => Lib.hid rfl) (fun _ _ _ h k => Lib.hid (k.out.trans h.out)) ?_ ?_ ?_
        · intro i v W W' h k
          unfold outV at h ⊢
          split at h <;> first | exact h
        · refine ⟨?_, ?_, ?_, ?_, ?_, ?_, ?_, ?_, ?_, ?_, ?_, ?_, ?_, trivial⟩
          · intro vals W K hR hV hK
            simp only [Reg.putS, List.foldl, List.headD, List.tail, List.getD_cons_zero, List.getD_cons_succ, Act.put, List.setIfInBounds_toArray, List.set_cons_zero, List.set_cons_succ] at hK ⊢
            go_simp
            first
              | exact hK _ _ (Lib.hid rfl) rfl
              | (rw [if_pos (by omega)]; exact hK _ _ (Lib.hid rfl) rfl)
              | (rw [dif_pos (by omega)]; exact hK _ _ (Lib.hid rfl) rfl)
              | (rw [if_neg (by omega)]; exact hK _ _ (Lib.hid rfl) rfl)
          · intro vals W K hR hV hK
            have d0 := hV 0 (by simp)
            simp only [outV] at d0
            simp only [Reg.putS, List.foldl, List.headD, List.tail, List.getD_cons_zero, List.getD_cons_succ, Act.put, List.setIfInBounds_toArray, List.set_cons_zero, List.set_cons_succ, d0] at hK ⊢
            go_simp
            first
              | exact hK _ _ (Lib.hid rfl) rfl
              | (rw [if_pos (by omega)]; exact hK _ _ (Lib.hid rfl) rfl)
              | (rw [dif_pos (by omega)]; exact hK _ _ (Lib.hid rfl) rfl)
              | (rw [if_neg (by omega)]; exact hK _ _ (Lib.hid rfl) rfl)
          · intro vals W K hR hV hK
            have d1 := hV 1 (by simp)
            simp only [outV] at d1
            simp only [Reg.putS, List.foldl, List.headD, List.tail, List.getD_cons_zero, List.getD_cons_succ, Act.put, List.setIfInBounds_toArray, List.set_cons_zero, List.set_cons_succ, d1] at hK ⊢
            go_simp
            first
              | exact hK _ _ (Lib.hid rfl) rfl
              | (rw [if_pos (by omega)]; exact hK _ _ (Lib.hid rfl) rfl)
              | (rw [dif_pos (by omega)]; exact hK _ _ (Lib.hid rfl) rfl)
              | (rw [if_neg (by omega)]; exact hK _ _ (Lib.hid rfl) rfl)
          · intro vals W K hR hV hK
            have d2 := hV 2 (by simp)
            simp only [outV] at d2
            simp only [Reg.putS, List.foldl, List.headD, List.tail, List.getD_cons_zero, List.getD_cons_succ, Act.put, List.setIfInBounds_toArray, List.set_cons_zero, List.set_cons_succ, d2] at hK ⊢
            have hcl : W.cell? ⟨p, 2, none⟩ = some (.slice (some ⟨g2, 0, none⟩) n n) := by rw [hR.out]; exact c2
            go_simp
            first
              | exact hK _ _ (Lib.hid rfl) rfl
              | (rw [if_pos (by omega)]; exact hK _ _ (Lib.hid rfl) rfl)
              | (rw [dif_pos (by omega)]; exact hK _ _ (Lib.hid rfl) rfl)
              | (rw [if_neg (by omega)]; exact hK _ _ (Lib.hid rfl) rfl)
          · intro vals W K hR hV hK
            simp only [Reg.putS, List.foldl, List.headD, List.tail, List.getD_cons_zero, List.getD_cons_succ, Act.put, List.setIfInBounds_toArray, List.set_cons_zero, List.set_cons_succ] at hK ⊢
            go_simp
            first
              | exact hK _ _ (Lib.hid rfl) rfl
              | (rw [if_pos (by omega)]; exact hK _ _ (Lib.hid rfl) rfl)
              | (rw [dif_pos (by omega)]; exact hK _ _ (Lib.hid rfl) rfl)
              | (rw [if_neg (by omega)]; exact hK _ _ (Lib.hid rfl) rfl)
          · intro vals W K hR hV hK
            simp only [Reg.putS, List.foldl, List.headD, List.tail, List.getD_cons_zero, List.getD_cons_succ, Act.put, List.setIfInBounds_toArray, List.set_cons_zero, List.set_cons_succ] at hK ⊢
            go_simp
            first
              | exact hK _ _ (Lib.hid rfl) rfl
              | (rw [if_pos (by omega)]; exact hK _ _ (Lib.hid rfl) rfl)
              | (rw [dif_pos (by omega)]; exact hK _ _ (Lib.hid rfl) rfl)
              | (rw [if_neg (by omega)]; exact hK _ _ (Lib.hid rfl) rfl)
          · intro vals W K hR hV hK
            have d5 := hV 5 (by simp)
            simp only [outV] at d5
            simp only [Reg.putS, List.foldl, List.headD, List.tail, List.getD_cons_zero, List.getD_cons_succ, Act.put, List.setIfInBounds_toArray, List.set_cons_zero, List.set_cons_succ, d5] at hK ⊢
            go_simp
            first
              | exact hK _ _ (Lib.hid rfl) rfl
              | (rw [if_pos (by omega)]; exact hK _ _ (Lib.hid rfl) rfl)
              | (rw [dif_pos (by omega)]; exact hK _ _ (Lib.hid rfl) rfl)
              | (rw [if_neg (by omega)]; exact hK _ _ (Lib.hid rfl) rfl)
          · intro vals W K hR hV hK
            have d6 := hV 6 (by simp)
            simp only [outV] at d6
            simp only [Reg.putS, List.foldl, List.headD, List.tail, List.getD_cons_zero, List.getD_cons_succ, Act.put, List.setIfInBounds_toArray, List.set_cons_zero, List.set_cons_succ, d6] at hK ⊢
            go_simp
            first
              | exact hK _ _ (Lib.hid rfl) rfl
              | (rw [if_pos (by omega)]; exact hK _ _ (Lib.hid rfl) rfl)
              | (rw [dif_pos (by omega)]; exact hK _ _ (Lib.hid rfl) rfl)
              | (rw [if_neg (by omega)]; exact hK _ _ (Lib.hid rfl) rfl)
          · intro vals W K hR hV hK
            have d7 := hV 7 (by simp)
            simp only [outV] at d7
            simp only [Reg.putS, List.foldl, List.headD, List.tail, List.getD_cons_zero, List.getD_cons_succ, Act.put, List.setIfInBounds_toArray, List.set_cons_zero, List.set_cons_succ, d7] at hK ⊢
            have hcl : W.cell? ⟨p, 2, none⟩ = some (.slice (some ⟨g2, 0, none⟩) n n) := by rw [hR.out]; exact c2
            go_simp
            first
              | exact hK _ _ (Lib.hid rfl) rfl
              | (rw [if_pos (by omega)]; exact hK _ _ (Lib.hid rfl) rfl)
              | (rw [dif_pos (by omega)]; exact hK _ _ (Lib.hid rfl) rfl)
              | (rw [if_neg (by omega)]; exact hK _ _ (Lib.hid rfl) rfl)
          · intro vals W K hR hV hK
            simp only [Reg.putS, List.foldl, List.headD, List.tail, List.getD_cons_zero, List.getD_cons_succ, Act.put, List.setIfInBounds_toArray, List.set_cons_zero, List.set_cons_succ] at hK ⊢
            go_simp
            first
              | exact hK _ _ (Lib.hid rfl) rfl
              | (rw [if_pos (by omega)]; exact hK _ _ (Lib.hid rfl) rfl)
              | (rw [dif_pos (by omega)]; exact hK _ _ (Lib.hid rfl) rfl)
              | (rw [if_neg (by omega)]; exact hK _ _ (Lib.hid rfl) rfl)
          · intro vals W K hR hV hK
            have d8 := hV 8 (by simp)
            simp only [outV] at d8
            have d9 := hV 9 (by simp)
            simp only [outV] at d9
            simp only [Reg.putS, List.foldl, List.headD, List.tail, List.getD_cons_zero, List.getD_cons_succ, Act.put, List.setIfInBounds_toArray, List.set_cons_zero, List.set_cons_succ, d8, d9] at hK ⊢
            go_simp
            first
              | exact hK _ _ (Lib.hid rfl) rfl
              | (rw [if_pos (by omega)]; exact hK _ _ (Lib.hid rfl) rfl)
              | (rw [dif_pos (by omega)]; exact hK _ _ (Lib.hid rfl) rfl)
              | (rw [if_neg (by omega)]; exact hK _ _ (Lib.hid rfl) rfl)
          · intro vals W K hR hV hK
            have d10 := hV 10 (by simp)
            simp only [outV] at d10
            simp only [Reg.putS, List.foldl, List.headD, List.tail, List.getD_cons_zero, List.getD_cons_succ, Act.put, List.setIfInBounds_toArray, List.set_cons_zero, List.set_cons_succ, d10] at hK ⊢
            have hcl : W.cell? ⟨g2, f, none⟩ = some (.int .i64 (o : Int)) := by rw [hR.out]; exact cO
            go_simp
            first
              | exact hK _ _ (Lib.hid rfl) rfl
              | (rw [if_pos (by omega)]; exact hK _ _ (Lib.hid rfl) rfl)
              | (rw [dif_pos (by omega)]; exact hK _ _ (Lib.hid rfl) rfl)
              | (rw [if_neg (by omega)]; exact hK _ _ (Lib.hid rfl) rfl)
          · intro vals W K hR hV hK
            have d0 := hV 0 (by simp)
            simp only [outV] at d0
            have d1 := hV 1 (by simp)
            simp only [outV] at d1
            have d2 := hV 2 (by simp)
            simp only [outV] at d2
            have d3 := hV 3 (by simp)
            simp only [outV] at d3
            have d4 := hV 4 (by simp)
            simp only [outV] at d4
            have d5 := hV 5 (by simp)
            simp only [outV] at d5
            have d6 := hV 6 (by simp)
            simp only [outV] at d6
            have d7 := hV 7 (by simp)
            simp only [outV] at d7
            have d8 := hV 8 (by simp)
            simp only [outV] at d8
            have d9 := hV 9 (by simp)
            simp only [outV] at d9
            have d10 := hV 10 (by simp)
            simp only [outV] at d10
            have d11 := hV 11 (by simp)
            simp only [outV] at d11
            simp only [Reg.putS, List.foldl, List.headD, List.tail, List.getD_cons_zero, List.getD_cons_succ, Act.put, List.setIfInBounds_toArray, List.set_cons_zero, List.set_cons_succ, d0, d1, d2, d3, d4, d5, d6, d7, d8, d9, d10, d11] at hK ⊢
            go_simp
            first
              | exact hK _ _ (Lib.hid rfl) rfl
              | (rw [if_pos (by omega)]; exact hK _ _ (Lib.hid rfl) rfl)
              | (rw [dif_pos (by omega)]; exact hK _ _ (Lib.hid rfl) rfl)
              | (rw [if_neg (by omega)]; exact hK _ _ (Lib.hid rfl) rfl)
        · intro vals W o ho hR hV
          simp only [List.getElem?_toArray, List.getElem?_cons_succ, List.getElem?_cons_zero, Option.some.injEq] at ho
          subst ho
          have d0 := hV 0 (by decide)
          simp only [outV] at d0
          have d1 := hV 1 (by decide)
          simp only [outV] at d1
          have d2 := hV 2 (by decide)
          simp only [outV] at d2
          have d3 := hV 3 (by decide)
          simp only [outV] at d3
          have d4 := hV 4 (by decide)
          simp only [outV] at d4
          have d5 := hV 5 (by decide)
          simp only [outV] at d5
          have d6 := hV 6 (by decide)
          simp only [outV] at d6
          have d7 := hV 7 (by decide)
          simp only [outV] at d7
          have d8 := hV 8 (by decide)
          simp only [outV] at d8
          have d9 := hV 9 (by decide)
          simp only [outV] at d9
          have d10 := hV 10 (by decide)
          simp only [outV] at d10
          have d11 := hV 11 (by decide)
          simp only [outV] at d11
          have d12 := hV 12 (by decide)
          simp only [outV] at d12
          unfold Reg.LastStep
          rw [show List.range 13 = [0, 1, 2, 3, 4, 5, 6, 7, 8, 9, 10, 11, 12] from rfl]
          clear hV
          simp only [Reg.putS, List.foldl, List.getD_cons_zero, List.getD_cons_succ, Act.put, List.setIfInBounds_toArray, List.set_cons_zero, List.set_cons_succ, d0, d1, d2, d3, d4, d5, d6, d7, d8, d9, d10, d11, d12]
          clear d0 d1 d2 d3 d4 d5 d6 d7 d8 d9 d10 d11 d12
          have Md := Mm.drew
          have tD := tw.trans (Twin.drew wt)
          have hWd := hR.out
          have Mw : LkMem W p px g1 g2 n vl FX O := by rw [hWd]; exact Md
          have tW : Twin g1 g2 w W := by rw [hWd]; exact tD
          clear hWd Md tD hR c0 c1 c2 cO Mm tw hTt
          have s1 := Mw.cellO hxn
          have s2 : W.frozen? ⟨g2, x, none⟩ = false := frozen_of Mw.o
          have M2 := Mw.setO x o
          have t2 := tW.trans (Twin.of_set (g1 := g1) (g2 := g2) (i := x) W (encN o) (.inr rfl))
          unfold encN at s1 M2 t2
          go_simp
          clear s1 s2 Mw tW
          generalize W.setCell ⟨g2, x, none⟩ (.int .i64 (o : Int)) = w2 at M2 t2 ⊢
          have d0 : w2.cell? ⟨p, 0, none⟩ = some (.pointer (some ⟨px, 0, none⟩)) := cell_of M2.head rfl
          have d2 : w2.cell? ⟨p, 2, none⟩ = some (.slice (some ⟨g2, 0, none⟩) n n) := cell_of M2.head rfl
          have cW := word_in (tri w2 t2) hbig hX f (by rw [hXn.out]; exact hfn)
          have hostep : Hid (Ot X (tx X x) ((tx X x).length - 1) (if 0 ≤ (X.getD f noPn).word then f else o)) := ot_step hF.out hfl.out hot.out
          generalize (X.getD f noPn).word = wd at cW hostep
          go_wp2_with fail
          refine cW.mono ?_
          rintro e w3 ⟨rfl, b3⟩
          have M3 := M2.below b3
          have t3 := t2.trans (Twin.of_below b3)
          have e0 := pw_cell_below b3 d0
          have e2 := pw_cell_below b3 d2
          clear cW M2 t2 b3 d0 d2
          by_cases hw0 : 0 ≤ wd
          · have hwd : decide (wd ≥ 0) = true := decide_eq_true hw0
            rw [if_pos hw0] at hostep
            have s1 := M3.cellO hxn
            have s2 : w3.frozen? ⟨g2, x, none⟩ = false := frozen_of M3.o
            have M4 := M3.setO x f
            have t4 := t3.trans (Twin.of_set (g1 := g1) (g2 := g2) (i := x) w3 (encN f) (.inr rfl))
            unfold encN at s1 M4 t4
            clear hw0
            go_wp2_with fail
            go_end0
            rw [List.set_set] at M4
            exact ⟨rfl, f, f, by rw [← hfx.out]; exact M4, t4, hfl.out, hostep.out⟩
          · have hwd : decide (wd ≥ 0) = false := decide_eq_false hw0
            rw [if_neg hw0] at hostep
            clear hw0
            go_wp2_with fail
            go_end0
            exact ⟨rfl, f, o, by rw [← hfx.out]; exact M3, t3, hfl.out, hostep.out⟩
      | none =>
        have cN := next_none (tri.out wr hbr) hbig.out hX.out hfa.out.lt hch.out hs
        obtain ⟨q1, q2⟩ := look_on hG.out hF.out hch.out hl.out ha1 hfa.out hs
        have hl2 : Hid (Look X x f1 c) := q1
        have hlt : Hid ((tx X f1).length < (tx X a).length) := q2
        clear hs q1 q2
        go_wp2_with fail
        refine cN.mono ?_
        rintro e w5 ⟨rfl, b5⟩
        have b6 := bstep bel b5
        clear cN c0 c1 ca Mr hbr bel b5 hl hfa
        go_wp2_with fail
        go_roundw
        case rel => exact ⟨f1, rfl, hl2, Lib.hid (by have := hle.out; have := hlt.out; omega), b6⟩
        case measure => simp [intOf]; exact hlt.out
end Go.Proofs.YtdeeeechdlcdbaaGreat.LkL
