/- The walk of Sparse: the bytes by which a node goes elsewhere than the root. -/
import Derived.Test.YtdeeeechdlcdbaaGreatDnW
set_option linter.unusedVariables false
set_option linter.unusedSimpArgs false
namespace Go.Proofs.YtdeeeechdlcdbaaGreat.DnS
open Go Go.RowKit Go.Lib Go.Proofs Go.Proofs.YtdeeeechdlcdbaaGreat Go.Proofs.YtdeeeechdlcdbaaGreat.Base Go.Proofs.YtdeeeechdlcdbaaGreat.DiA Go.Proofs.YtdeeeechdlcdbaaGreat.LkM Go.Proofs.YtdeeeechdlcdbaaGreat.LkN Go.Proofs.YtdeeeechdlcdbaaGreat.RwA Go.Proofs.YtdeeeechdlcdbaaGreat.DnM
def encB (x : Nat) : Value := .int .u8 (x : Int)
/-- Of the first m bytes those by which the node's row is not the root's. -/
def sparU (R : List (List Nat)) (k m : Nat) : List Nat := (List.range m).filter fun c => (R.getD k []).getD c 0 != (R.getD 0 []).getD c 0
def sparL (R : List (List Nat)) (k : Nat) : List Nat := sparU R k 256
theorem sparU_succ (R : List (List Nat)) (k m : Nat) : sparU R k (m + 1) = sparU R k m ++ if ((R.getD k []).getD m 0 != (R.getD 0 []).getD m 0) = true then [m] else [] := by
  unfold sparU
  rw [List.range_succ, List.filter_append]
  congr 1
  by_cases h : ((R.getD k []).getD m 0 != (R.getD 0 []).getD m 0) = true
  · rw [if_pos h, List.filter_cons, if_pos h]; rfl
  · rw [if_neg h, List.filter_cons, if_neg h]; rfl
theorem sparU_len (R : List (List Nat)) (k m : Nat) : (sparU R k m).length ≤ m := by
  unfold sparU
  exact Nat.le_trans (List.length_filter_le _ _) (by simp)
theorem mem_sparL {R : List (List Nat)} {k c : Nat} : c ∈ sparL R k ↔ c < 256 ∧ (R.getD k []).getD c 0 ≠ (R.getD 0 []).getD c 0 := by
  unfold sparL sparU
  rw [List.mem_filter, List.mem_range]; simp
theorem spar_zero (R : List (List Nat)) : sparL R 0 = [] := by
  refine List.eq_nil_iff_forall_not_mem.2 fun c hc => ?_
  exact (mem_sparL.1 hc).2 rfl
theorem spar_nodup (R : List (List Nat)) (k : Nat) : (sparL R k).Nodup := List.nodup_range.filter _
theorem info5 : (Tryz.prog.info? 5).map (fun i => (i.zero, i.size, i.bytes)) = some (some (.int .u8 0), 1, 1) := by kernel_rfl
/-- Behind Sparse. -/
def SpPost (w : World) (l : List Nat) (e : Ending) (w' : World) : Prop := ∃ v, e = .returned v ∧ w'.ownsRow w.heap.size 5 1 v l.length (l.map encB) ∧ Below w.heap.size w w'
section
variable {B t p g : Nat} {w : World} {R : List (List Nat)}
set_option maxRecDepth 100000 in
set_option maxHeartbeats 2000000 in
theorem sparse_in (h : DnAt B w t p g R) {k : Nat} (hk : k < R.length) : Calls Tryz.prog 35 #[.pointer (some ⟨t, 0, none⟩), .int .i64 (k : Int)] w fun e w' => SpPost w (sparL R k) e w' := by
  obtain ⟨i5, hi5, hy0, hy1, hy2⟩ := info_parts info5
  have cR := row_in h hk
  have hw256 := h.wide k hk
  obtain ⟨n, hn⟩ : ∃ n, R.length = n := ⟨_, rfl⟩
  have c1 : w.cell? ⟨t, 1, none⟩ = some (.slice (some ⟨g, 0, none⟩) n n) := by rw [← hn]; exact cell_of h.head rfl
  obtain ⟨b0, cap0, hz1, _, hz2⟩ := h.row (k := 0) (by omega)
  have hzh : Hid (∀ j, j < 256 → w.cell? ⟨b0, j, none⟩ = some (.int .i64 ((R.getD 0 []).getD j 0 : Nat))) := hz2
  have hn0 : 0 < n := by omega
  have hn0z : (0 : Int) < (n : Int) := by omega
  clear h hz2 hk hn
  go_enter Tryz.func35, Tryz.ntmps35
  go_wp2_with fail
  refine cR.mono ?_
  rintro e w1 ⟨v, rfl, hr, b1⟩
  obtain ⟨_, V, cp, rfl, hc⟩ := ints_form hr
  obtain ⟨rb, rfl, hcell⟩ := hc (by decide)
  have hch : Hid (∀ j, j < 256 → w1.cell? ⟨rb, j, none⟩ = some (encN ((R.getD k []).getD j 0))) := hcell
  have b1h : Hid (Below w.heap.size w w1) := b1
  clear cR hr hc hcell b1
  go_wp2_with fail
  go_loopw [5, 12] (fun s5 s12 wr => ∃ c : Nat, c ≤ 256 ∧ s12 = .int .i64 (c : Int) ∧ wr.ownsRow w1.heap.size 5 1 s5 (sparU R k c).length ((sparU R k c).map encB) ∧ Below w1.heap.size w1 wr) (fun _ s12 _ => 256 - (intOf s12).toNat)
  case atStart => exact ⟨0, by omega, rfl, World.ownsRow_nil _ _ _ _, Below.refl _ _⟩
  case round =>
    obtain ⟨c, hc, rfl, hrow, br⟩ := hrel
    obtain ⟨V5, c5, rfl, _⟩ := own_form hrow
    by_cases hlt : c < 256
    · have hcd : decide ((c : Int) < 256) = true := decide_eq_true (by omega)
      have hcd2 : (c : Int) < 256 := by omega
      have bw := bstep b1h.out br
      have l1 := pw_cell_below br (hch.out c hlt)
      unfold encN at l1
      have l2 := pw_cell_below bw c1
      have l3 := pw_cell_below bw hz1
      have l4 := pw_cell_below bw (hzh.out c hlt)
      have hsuc : Hid (sparU R k (c + 1) = sparU R k c ++ if ((R.getD k []).getD c 0 != (R.getD 0 []).getD c 0) = true then [c] else []) := sparU_succ _ _ _
      have hll := sparU_len R k c
      have z1 : IntKind.i64.wrap ((c : Int) + 1) = (c : Int) + 1 := by rw [IntKind.wrap_i64]; omega
      have zc : IntKind.u8.wrap (c : Int) = (c : Int) := by rw [IntKind.wrap_u8]; omega
      generalize (R.getD k []).getD c 0 = x at l1 hsuc
      generalize (R.getD 0 []).getD c 0 = y at l4 hsuc
      by_cases hxy : x = y
      · have he : ((x : Int) != (y : Int)) = false := by simp [hxy]
        have hrow2 : Hid (wr.ownsRow w1.heap.size 5 1 (.slice V5 (sparU R k c).length c5) (sparU R k (c + 1)).length ((sparU R k (c + 1)).map encB)) := by
          show wr.ownsRow _ _ _ _ _ _
          rw [hsuc.out, if_neg (by simp [hxy]), List.append_nil]; exact hrow
        clear hsuc hrow hxy bw
        go_wp2_with fail
        go_roundw
        case rel => exact ⟨c + 1, hlt, by go_num, hrow2.out, br⟩
        case measure => simp [intOf]; omega
      · have he : ((x : Int) != (y : Int)) = true := by simp; omega
        have own7 := own_below hrow (balloc (Below.refl _ _) (.cells #[.int .u8 (c : Int)] 5))
        have hh3 := heap_new wr (.cells #[.int .u8 (c : Int)] 5)
        have hb7 := balloc br (.cells #[.int .u8 (c : Int)] 5)
        have hge := own_ge hrow
        have hbr : w1.heap.size ≤ wr.heap.size := br.size
        have hsuc2 : Hid (sparU R k (c + 1) = sparU R k c ++ [c]) := by show _ = _; rw [hsuc.out, if_pos (by simp [hxy])]
        obtain ⟨ml, hml⟩ : ∃ ml, (sparU R k c).length = ml := ⟨_, rfl⟩
        obtain ⟨xs, hxs⟩ : ∃ xs, (sparU R k c).map encB = xs := ⟨_, rfl⟩
        have hmlh : Hid ((sparU R k c).length = ml) := hml
        have hxsh : Hid ((sparU R k c).map encB = xs) := hxs
        rw [hml, hxs] at own7
        rw [hml] at hge hll ⊢
        clear hxy bw hsuc hrow hml hxs
        go_wp2_with (first | (at_builtin; refine wpList_append_own _ rfl (.tmp 28) (.tmp 31) 63 rfl w1.heap.size 5 i5 _ 1 1 Tryz.underlying63 hi5 hy0 hy1 hy2 rfl (by decide) _ ml xs rfl own7 ⟨wr.heap.size, 0, none⟩ 1 1 [.int .u8 (c : Int)] rfl rfl ?k1 ?k2 ?k3 ?k4 ?k5 ?_))
        case k1 => intro j u hj; rw [Addr.add_lit, Nat.zero_add]; exact cell_of hh3 (by simpa using hj)
        case k2 => intro u hu; simp at hu; subst hu; rfl
        case k3 => unfold maxLen; omega
        case k4 => omega
        case k5 => simp; omega
        intro v8 w8 own8 hg8 _
        have b8 := hb7.grown hg8 hb7.size hge
        have own8h : Hid (w8.ownsRow w1.heap.size 5 1 v8 (sparU R k (c + 1)).length ((sparU R k (c + 1)).map encB)) := by
          show w8.ownsRow _ _ _ _ _ _
          rw [hsuc2.out, List.length_append, List.map_append, hmlh.out, hxsh.out]; exact own8
        obtain ⟨V8, c8, rfl, _⟩ := own_form own8
        clear own8 own7 hg8 hb7 hh3 hge
        go_wp2_with fail
        go_roundw
        case rel => exact ⟨c + 1, hlt, by go_num, own8h.out, b8⟩
        case measure => simp [intOf]; omega
    · have hcd : decide ((c : Int) < 256) = false := decide_eq_false (by omega)
      have hcd2 : ¬ (c : Int) < 256 := by omega
      obtain rfl : c = 256 := by omega
      have hfin : Hid (wr.ownsRow w.heap.size 5 1 (.slice V5 (sparU R k 256).length c5) (sparU R k 256).length ((sparU R k 256).map encB) ∧ Below w.heap.size w wr) := ⟨ownsRow_base_a hrow b1h.out.size, bstep b1h.out br⟩
      clear hrow br
      go_wp2_with fail
      go_ret
      exact ⟨_, rfl, hfin.out.1, hfin.out.2⟩
set_option maxHeartbeats 400000 in
theorem sparse_out (h : DnAt B w t p g R) {k : Int} (hk : k < 0 ∨ (R.length : Int) ≤ k) : Calls Tryz.prog 35 #[.pointer (some ⟨t, 0, none⟩), .int .i64 k] w fun e w' => e = .returned (.slice none 0 0) ∧ w' = w := by
  have cR := row_out h hk
  clear h hk
  go_enter Tryz.func35, Tryz.ntmps35
  go_wp2_with fail
  refine cR.mono ?_
  rintro e w1 ⟨rfl, hw⟩
  rw [hw]
  clear cR hw
  go_wp2_with fail
  refine wp_loop_rounds 1 ?_
  rw [rounds_succ]
  go_wp2_with fail
  go_ret
  exact ⟨rfl, rfl⟩
set_option maxHeartbeats 400000 in
theorem sparse_nil (k : Int) (w : World) : Calls Tryz.prog 35 #[.pointer none, .int .i64 k] w fun e w' => e = .returned (.slice none 0 0) ∧ w' = w := by
  go_enter Tryz.func35, Tryz.ntmps35
  go_wp2_with fail
  refine (row_nil _ _).mono ?_
  rintro e w1 ⟨rfl, hw⟩
  rw [hw]
  clear hw
  go_wp2_with fail
  refine wp_loop_rounds 1 ?_
  rw [rounds_succ]
  go_wp2_with fail
  go_ret
  exact ⟨rfl, rfl⟩
end
end Go.Proofs.YtdeeeechdlcdbaaGreat.DnS
