/- A node's depth, with the world behind the call spelled out; the comparison of two nodes by their depth. -/
import Derived.Test.YtdeeeechdlcdbaaTwA
import Derived.Shelf.SlSortCmp.Kit1
set_option linter.unusedVariables false
set_option linter.unusedSimpArgs false
namespace Go.Proofs.Ytdeeeechdlcdbaa.LkA
open Go Go.RowKit Go.Sort Go.Proofs Go.Proofs.Ytdeeeechdlcdbaa.Base Go.Proofs.Ytdeeeechdlcdbaa.TrP Go.Proofs.Ytdeeeechdlcdbaa.TrM Go.Proofs.Ytdeeeechdlcdbaa.TrA Go.Proofs.Ytdeeeechdlcdbaa.TrD Go.Proofs.Ytdeeeechdlcdbaa.TrE
/-- Behind a call that drew and laid blocks, no more. -/
def Gr (w w' : World) : Prop := ∃ q os', w' = grow (w.drewN q) os'
theorem Gr.refl (w : World) : Gr w w := ⟨0, #[], by rw [grow_empty]; rfl⟩
theorem Gr.alloc (w : World) (o : Obj) : Gr w (w.alloc o) := ⟨0, #[o], alloc_eq_grow w o⟩
theorem Gr.below {w w' : World} (h : Gr w w') : Below w.heap.size w w' := by
  obtain ⟨q, os, rfl⟩ := h
  refine ⟨rfl, rfl, rfl, ?_, fun k hk => ?_⟩
  · rw [size_grow]; exact Nat.le_add_right _ _
  · show ((w.drewN q).heap ++ os)[k]? = _
    exact Array.getElem?_append_left hk
section
variable {B p m : Nat} {N : List Nd} {w : World}
set_option maxHeartbeats 1000000 in
theorem at_gr (h : TrieAt B w p N m) (hbig : N.length ≤ 1000000) (k : Nat) : ∃ mp, Calls Try.prog 78 #[.pointer (some ⟨p, 0, none⟩), .int .i64 (k : Int)] w fun e w' => e = .returned (atV ((N.map (·.p)).getD k noPn).text ((N.map (·.p)).getD k noPn).word mp) ∧ Gr w w' := by
  have ha : TrieAt B (w.alloc (.cells #[.string ⟨#[]⟩, .int .i64 0, .map none] 106)) p N m := h.below (balloc (Below.refl _ _) _)
  have hlen := len_any ha
  have hd : decide ((k : Int) < 0) = false := decide_eq_false (by omega)
  by_cases hlt : k < N.length
  · obtain ⟨g, cp, c0, c1, c2, c3⟩ := ha.node (List.getElem?_eq_getElem hlt)
    have hd2 : decide ((k : Int) ≥ (N.length : Int)) = false := decide_eq_false (by omega)
    have hki : (k : Int) < (N.length : Int) := by omega
    have ht : (N.map (·.p)).getD k noPn = (N[k]).p := by
      rw [List.getD_eq_getElem?_getD, List.getElem?_map, List.getElem?_eq_getElem hlt]; rfl
    refine ⟨some (N[k]).mp, ?_⟩
    rw [ht]
    clear ha h ht
    generalize N[k] = nd at c1 c2 c3
    obtain ⟨nd0, mp⟩ := nd
    obtain ⟨tx, wd, sn⟩ := nd0
    simp only at c1 c2 c3
    go_enter Try.func78, Try.ntmps78
    go_wp2_with fail
    refine hlen.mono ?_
    rintro e w1 ⟨rfl, hw⟩
    rw [hw]
    clear hlen hw
    go_wp2_with fail
    refine bodyPost_ret (v := atV tx wd (some mp)) ?_ rfl ⟨rfl, Gr.alloc _ _⟩
    simp [results, Try.results78, go_sem, atV]
  · have hd2 : N.length ≤ k := by omega
    have ht : (N.map (·.p)).getD k noPn = noPn := by
      rw [List.getD_eq_getElem?_getD, List.getElem?_map, List.getElem?_eq_none (by omega)]; rfl
    refine ⟨none, ?_⟩
    rw [ht]
    show Calls Try.prog 78 _ w fun e w' => e = .returned (atV ⟨#[]⟩ (-1) none) ∧ Gr w w'
    clear ha h ht hlt
    go_enter Try.func78, Try.ntmps78
    go_wp2_with fail
    refine hlen.mono ?_
    rintro e w1 ⟨rfl, hw⟩
    rw [hw]
    clear hlen hw
    go_wp2_with fail
    refine bodyPost_ret (v := atV ⟨#[]⟩ (-1) none) ?_ rfl ⟨rfl, Gr.alloc _ _⟩
    simp [results, Try.results78, go_sem, atV]
set_option maxHeartbeats 400000 in
theorem text_gr (h : TrieAt B w p N m) (hbig : N.length ≤ 1000000) (k : Nat) : Calls Try.prog 34 #[.pointer (some ⟨p, 0, none⟩), .int .i64 (k : Int)] w fun e w' => e = .returned (.string ((N.map (·.p)).getD k noPn).text) ∧ Gr w w' := by
  obtain ⟨mp, hA⟩ := at_gr h hbig k
  generalize ((N.map (·.p)).getD k noPn).text = t at hA
  generalize ((N.map (·.p)).getD k noPn).word = x at hA
  clear h
  go_enter Try.func34, Try.ntmps34
  go_wp2_with fail
  refine hA.mono ?_
  rintro e w1 ⟨rfl, hb⟩
  clear hA
  simp only [atV]
  have hfd := field63_0 t x mp
  go_wp2_with fail
  go_ret
  exact ⟨rfl, hb⟩
set_option maxHeartbeats 400000 in
theorem word_gr (h : TrieAt B w p N m) (hbig : N.length ≤ 1000000) (k : Nat) : Calls Try.prog 32 #[.pointer (some ⟨p, 0, none⟩), .int .i64 (k : Int)] w fun e w' => e = .returned (.int .i64 ((N.map (·.p)).getD k noPn).word) ∧ Gr w w' := by
  obtain ⟨mp, hA⟩ := at_gr h hbig k
  generalize ((N.map (·.p)).getD k noPn).text = t at hA
  generalize ((N.map (·.p)).getD k noPn).word = x at hA
  clear h
  go_enter Try.func32, Try.ntmps32
  go_wp2_with fail
  refine hA.mono ?_
  rintro e w1 ⟨rfl, hb⟩
  clear hA
  simp only [atV]
  have hfd := field63_1 t x mp
  go_wp2_with fail
  go_ret
  exact ⟨rfl, hb⟩
set_option maxHeartbeats 400000 in
theorem depth_gr (h : TrieAt B w p N m) (hbig : N.length ≤ 1000000) (k : Nat) : Calls Try.prog 33 #[.pointer (some ⟨p, 0, none⟩), .int .i64 (k : Int)] w fun e w' => e = .returned (.int .i64 (((N.map (·.p)).getD k noPn).text.size : Int)) ∧ Gr w w' := by
  have hA := text_gr h hbig k
  generalize ((N.map (·.p)).getD k noPn).text = t at hA
  clear h
  go_enter Try.func33, Try.ntmps33
  go_wp2_with fail
  refine hA.mono ?_
  rintro e w1 ⟨rfl, hb⟩
  clear hA
  go_wp2_with fail
  go_ret
  exact ⟨rfl, hb⟩
end
/-- How deep a node is. -/
def dep (X : List Pn) (k : Nat) : Nat := (X.getD k noPn).text.size
set_option maxRecDepth 100000 in
set_option maxHeartbeats 1000000 in
/-- The comparison of two nodes. -/
theorem cmp_call {B p m b : Nat} {N : List Nd} {w : World} (h : TrieAt B w p N m) (hbig : N.length ≤ 1000000) {X : List Pn} (hX : N.map (·.p) = X) (hd : ∀ k, dep X k ≤ 1000000) (hb : w.cell? ⟨b, 0, none⟩ = some (.pointer (some ⟨p, 0, none⟩))) (x y : Nat) :
    Calls Try.prog 125 #[.int .i64 (x : Int), .int .i64 (y : Int), .pointer (some ⟨b, 0, none⟩)] w fun e w' => e = .returned (.int .i64 ((dep X x : Int) - (dep X y : Int))) ∧ Gr w w' := by
  have hm : Try.prog.follows .mixedOrders = true := by kernel_rfl
  have hl := World.block_lt_of_cell? w _ hb
  have hcl := fun n os => cell_grown (w := w) (a := ⟨b, 0, none⟩) hl hb n os
  have hk : ∀ n os, Below w.heap.size w (grow (w.drewN n) os) := fun n os => Gr.below ⟨n, os, rfl⟩
  have d1 : ∀ n os, Calls Try.prog 33 #[.pointer (some ⟨p, 0, none⟩), .int .i64 (x : Int)] (grow (w.drewN n) os) fun e w' => e = .returned (.int .i64 (dep X x : Int)) ∧ ∃ q os', w' = grow ((grow (w.drewN n) os).drewN q) os' := fun n os => by
    have := depth_gr (h.below (hk n os)) hbig x
    rw [hX] at this; exact this
  have d2 : ∀ n os, Calls Try.prog 33 #[.pointer (some ⟨p, 0, none⟩), .int .i64 (y : Int)] (grow (w.drewN n) os) fun e w' => e = .returned (.int .i64 (dep X y : Int)) ∧ ∃ q os', w' = grow ((grow (w.drewN n) os).drewN q) os' := fun n os => by
    have := depth_gr (h.below (hk n os)) hbig y
    rw [hX] at this; exact this
  have b1 := hd x
  have b2 := hd y
  generalize dep X x = D1 at d1 b1 ⊢
  generalize dep X y = D2 at d2 b2 ⊢
  have z1 : IntKind.i64.wrap ((D1 : Int) - (D2 : Int)) = (D1 : Int) - (D2 : Int) := by rw [IntKind.wrap_i64]; omega
  clear h hd hX hb hk
  go_enter Try.func125, Try.ntmps125
  go_wp2_with fail
  go_quiet_grown (first | exact Calls.grown_of (d1 _ _) | exact Calls.grown_of (d2 _ _))
  go_wp2_with fail
  go_ret
  exact ⟨rfl, nq, osq, rfl⟩
end Go.Proofs.Ytdeeeechdlcdbaa.LkA
