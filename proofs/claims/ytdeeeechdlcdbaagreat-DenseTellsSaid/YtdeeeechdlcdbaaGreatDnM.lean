/- A table of all steps in memory; the walks of its small functions. -/
import Derived.Test.YtdeeeechdlcdbaaGreatRwA
import Derived.Test.YtdeeeechdlcdbaaGreatDnP
import Derived.Test.YtdeeeechdlcdbaaGreatScX
import Derived.Maps.AppendAt
set_option linter.unusedVariables false
set_option linter.unusedSimpArgs false
namespace Go.Proofs.YtdeeeechdlcdbaaGreat.DnM
open Go Go.RowKit Go.Lib Go.Proofs Go.Proofs.YtdeeeechdlcdbaaGreat Go.Proofs.YtdeeeechdlcdbaaGreat.Base Go.Proofs.YtdeeeechdlcdbaaGreat.DiA Go.Proofs.YtdeeeechdlcdbaaGreat.TrP Go.Proofs.YtdeeeechdlcdbaaGreat.LkM Go.Proofs.YtdeeeechdlcdbaaGreat.LkN Go.Proofs.YtdeeeechdlcdbaaGreat.RwA Go.Proofs.YtdeeeechdlcdbaaGreat.DnP Go.Proofs.YtdeeeechdlcdbaaGreat.ScF Go.Proofs.YtdeeeechdlcdbaaGreat.ScX
/-- Block t is a table over the links p; its rows are R. -/
structure DnAt (B : Nat) (w : World) (t p g : Nat) (R : List (List Nat)) : Prop where
  head : w.heap[t]? = some (.cells #[.pointer (some ⟨p, 0, none⟩), .slice (some ⟨g, 0, none⟩) R.length R.length] 99 (0, 0))
  rows : Rws B g w R
  wide : ∀ n, n < R.length → (R.getD n []).length = 256
theorem DnAt.below {B t p g : Nat} {w w' : World} {R : List (List Nat)} (h : DnAt B w t p g R) (hb : Below w.heap.size w w') : DnAt B w' t p g R := ⟨heap_below hb h.head, h.rows.below hb, h.wide⟩
section
variable {B t p g : Nat} {w : World} {R : List (List Nat)}
/-- A row's cells. -/
theorem DnAt.row (h : DnAt B w t p g R) {k : Nat} (hk : k < R.length) : ∃ b cap, w.cell? ⟨g, k, none⟩ = some (.slice (some ⟨b, 0, none⟩) 256 cap) ∧ w.ownsRow B 3 1 (.slice (some ⟨b, 0, none⟩) 256 cap) 256 ((R.getD k []).map encN) ∧ ∀ j, j < 256 → w.cell? ⟨b, j, none⟩ = some (.int .i64 ((R.getD k []).getD j 0 : Nat)) := by
  obtain ⟨vs, hr⟩ := h.rows
  have ho := hr.own k hk
  have hc := hr.cell hk
  rw [h.wide k hk] at ho
  obtain ⟨_, V, cap, hv, hcell⟩ := ints_form ho
  obtain ⟨b, rfl, hb⟩ := hcell (by decide)
  rw [hv] at hc ho
  exact ⟨b, cap, hc, ho, hb⟩
set_option maxHeartbeats 400000 in
theorem len_call (h : DnAt B w t p g R) : Calls Tryz.prog 39 #[.pointer (some ⟨t, 0, none⟩)] w fun e w' => e = .returned (.int .i64 (R.length : Int)) ∧ w' = w := by
  have c1 : w.cell? ⟨t, 1, none⟩ = some (.slice (some ⟨g, 0, none⟩) R.length R.length) := cell_of h.head rfl
  clear h
  go_enter Tryz.func39, Tryz.ntmps39
  go_wp2_with fail
  go_ret
  exact ⟨rfl, rfl⟩
set_option maxHeartbeats 400000 in
theorem len_nil (w : World) : Calls Tryz.prog 39 #[.pointer none] w fun e w' => e = .returned (.int .i64 0) ∧ w' = w := by
  go_enter Tryz.func39, Tryz.ntmps39
  go_wp2_with fail
  go_ret
  exact ⟨rfl, rfl⟩
set_option maxHeartbeats 400000 in
theorem size_call (h : DnAt B w t p g R) (hbig : R.length ≤ 1000000) : Calls Tryz.prog 40 #[.pointer (some ⟨t, 0, none⟩)] w fun e w' => e = .returned (.int .i64 ((256 * R.length : Nat) : Int)) ∧ w' = w := by
  have cl := len_call h
  obtain ⟨n, hn⟩ : ∃ n, R.length = n := ⟨_, rfl⟩
  rw [hn] at cl hbig ⊢
  have z1 : IntKind.i64.wrap (256 * (n : Int)) = ((256 * n : Nat) : Int) := by rw [IntKind.wrap_i64]; omega
  clear h hn
  go_enter Tryz.func40, Tryz.ntmps40
  go_wp2_with fail
  refine cl.mono ?_
  rintro e w1 ⟨rfl, hw⟩
  rw [hw]
  clear cl hw
  go_wp2_with fail
  go_ret
  exact ⟨by first | rfl | simp, rfl⟩
set_option maxHeartbeats 400000 in
theorem size_nil (w : World) : Calls Tryz.prog 40 #[.pointer none] w fun e w' => e = .returned (.int .i64 0) ∧ w' = w := by
  go_enter Tryz.func40, Tryz.ntmps40
  go_wp2_with fail
  refine (len_nil _).mono ?_
  rintro e w1 ⟨rfl, hw⟩
  rw [hw]
  clear hw
  go_wp2_with fail
  go_ret
  exact ⟨rfl, rfl⟩
set_option maxRecDepth 100000 in
set_option maxHeartbeats 1000000 in
theorem go_in (h : DnAt B w t p g R) {k c : Nat} (hk : k < R.length) (hc : c ≤ 255) : Calls Tryz.prog 34 #[.pointer (some ⟨t, 0, none⟩), .int .i64 (k : Int), .int .u8 (c : Int)] w fun e w' => e = .returned (.int .i64 ((R.getD k []).getD c 0 : Nat)) ∧ w' = w := by
  have cl := len_call h
  have c1 : w.cell? ⟨t, 1, none⟩ = some (.slice (some ⟨g, 0, none⟩) R.length R.length) := cell_of h.head rfl
  obtain ⟨b, cap, h1, _, h2⟩ := h.row hk
  have h3 := h2 c (by omega)
  generalize (R.getD k []).getD c 0 = r at h3 ⊢
  obtain ⟨n, hn⟩ : ∃ n, R.length = n := ⟨_, rfl⟩
  rw [hn] at cl c1 hk
  have hd : decide ((k : Int) < 0) = false := decide_eq_false (by omega)
  have hd2 : decide ((k : Int) ≥ (n : Int)) = false := decide_eq_false (by omega)
  have hki : (k : Int) < (n : Int) := by omega
  have hci : (c : Int) < 256 := by omega
  clear h h2 hn
  go_enter Tryz.func34, Tryz.ntmps34
  go_wp2_with fail
  refine cl.mono ?_
  rintro e w1 ⟨rfl, hw⟩
  rw [hw]
  clear cl hw
  go_wp2_with fail
  go_ret
  exact ⟨rfl, rfl⟩
set_option maxHeartbeats 1000000 in
theorem go_out (h : DnAt B w t p g R) {k : Int} (hk : k < 0 ∨ (R.length : Int) ≤ k) (c : Int) : Calls Tryz.prog 34 #[.pointer (some ⟨t, 0, none⟩), .int .i64 k, .int .u8 c] w fun e w' => e = .returned (.int .i64 0) ∧ w' = w := by
  have cl := len_call h
  obtain ⟨n, hn⟩ : ∃ n, R.length = n := ⟨_, rfl⟩
  rw [hn] at cl hk
  clear h hn
  by_cases h0 : k < 0
  · have hd : decide (k < 0) = true := decide_eq_true h0
    clear hk h0
    go_enter Tryz.func34, Tryz.ntmps34
    go_wp2_with fail
    go_ret
    exact ⟨rfl, rfl⟩
  · have hd : decide (k < 0) = false := decide_eq_false h0
    have hd2 : decide (k ≥ (n : Int)) = true := decide_eq_true (by omega)
    clear hk h0
    go_enter Tryz.func34, Tryz.ntmps34
    go_wp2_with fail
    refine cl.mono ?_
    rintro e w1 ⟨rfl, hw⟩
    rw [hw]
    clear cl hw
    go_wp2_with fail
    go_ret
    exact ⟨rfl, rfl⟩
set_option maxHeartbeats 1000000 in
theorem go_nil (k c : Int) (w : World) : Calls Tryz.prog 34 #[.pointer none, .int .i64 k, .int .u8 c] w fun e w' => e = .returned (.int .i64 0) ∧ w' = w := by
  by_cases h0 : k < 0
  · have hd : decide (k < 0) = true := decide_eq_true h0
    clear h0
    go_enter Tryz.func34, Tryz.ntmps34
    go_wp2_with fail
    go_ret
    exact ⟨rfl, rfl⟩
  · have hd : decide (k < 0) = false := decide_eq_false h0
    have hd2 : decide (k ≥ 0) = true := decide_eq_true (by omega)
    clear h0
    go_enter Tryz.func34, Tryz.ntmps34
    go_wp2_with fail
    refine (len_nil _).mono ?_
    rintro e w1 ⟨rfl, hw⟩
    rw [hw]
    clear hw
    go_wp2_with fail
    go_ret
    exact ⟨rfl, rfl⟩
/-- Behind Row. -/
def RowPost (w : World) (row : List Nat) (e : Ending) (w' : World) : Prop := ∃ v, e = .returned v ∧ w'.ownsRow w.heap.size 3 1 v 256 (row.map encN) ∧ Below w.heap.size w w'
set_option maxRecDepth 100000 in
set_option maxHeartbeats 1000000 in
theorem row_in (h : DnAt B w t p g R) {k : Nat} (hk : k < R.length) : Calls Tryz.prog 33 #[.pointer (some ⟨t, 0, none⟩), .int .i64 (k : Int)] w fun e w' => RowPost w (R.getD k []) e w' := by
  obtain ⟨i3, hi3, hy0, hy1, hy2⟩ := info_parts info3
  have cl := len_call h
  have c1 : w.cell? ⟨t, 1, none⟩ = some (.slice (some ⟨g, 0, none⟩) R.length R.length) := cell_of h.head rfl
  obtain ⟨b, cap, h1, h2, _⟩ := h.row hk
  have hw256 := h.wide k hk
  have hnil : w.ownsRow w.heap.size 3 1 (.slice none 0 0) 0 [] := World.ownsRow_nil _ _ _ _
  have hcells := World.ownsRow.cells (g := b) h2 rfl
  generalize R.getD k [] = row at h2 hcells hw256 ⊢
  obtain ⟨n, hn⟩ : ∃ n, R.length = n := ⟨_, rfl⟩
  rw [hn] at cl c1 hk
  have hd : decide ((k : Int) < 0) = false := decide_eq_false (by omega)
  have hd2 : decide ((k : Int) ≥ (n : Int)) = false := decide_eq_false (by omega)
  have hki : (k : Int) < (n : Int) := by omega
  clear h hn h2
  go_enter Tryz.func33, Tryz.ntmps33
  go_wp2_with fail
  refine cl.mono ?_
  rintro e w1 ⟨rfl, hw⟩
  rw [hw]
  clear cl hw
  go_wp2_with (first | (at_builtin; refine wpList_append_own _ rfl (.const (.slice none 0 0)) (.tmp 19) 31 rfl w.heap.size 3 i3 _ 1 8 Tryz.underlying31 hi3 hy0 hy1 hy2 rfl (by decide) (.slice none 0 0) 0 [] rfl hnil ⟨b, 0, none⟩ 256 cap (row.map encN) rfl ?k1 ?k2 ?k3 ?k4 ?k5 ?k6 ?_))
  case k1 => rw [List.length_map, hw256]
  case k2 => intro j u hj; exact hcells j u hj
  case k3 => intro u hu; obtain ⟨x, _, rfl⟩ := List.mem_map.1 hu; rfl
  case k4 => unfold maxLen; omega
  case k5 => omega
  case k6 => exact Nat.le_refl _
  intro v8 w8 own8 hg8 _
  have b8 : Below w.heap.size w w8 := (Below.refl _ _).grown hg8 (Nat.le_refl _) (fun q hq => by cases hq)
  obtain ⟨V8, c8, rfl, _⟩ := own_form own8
  have own8h : Hid (w8.ownsRow w.heap.size 3 1 (.slice V8 256 c8) 256 (row.map encN)) := own8
  clear own8 hg8 hcells hw256
  go_wp2_with fail
  go_ret
  exact ⟨_, rfl, own8h.out, b8⟩
set_option maxHeartbeats 1000000 in
theorem row_out (h : DnAt B w t p g R) {k : Int} (hk : k < 0 ∨ (R.length : Int) ≤ k) : Calls Tryz.prog 33 #[.pointer (some ⟨t, 0, none⟩), .int .i64 k] w fun e w' => e = .returned (.slice none 0 0) ∧ w' = w := by
  have cl := len_call h
  obtain ⟨n, hn⟩ : ∃ n, R.length = n := ⟨_, rfl⟩
  rw [hn] at cl hk
  clear h hn
  by_cases h0 : k < 0
  · have hd : decide (k < 0) = true := decide_eq_true h0
    clear hk h0
    go_enter Tryz.func33, Tryz.ntmps33
    go_wp2_with fail
    go_ret
    exact ⟨rfl, rfl⟩
  · have hd : decide (k < 0) = false := decide_eq_false h0
    have hd2 : decide (k ≥ (n : Int)) = true := decide_eq_true (by omega)
    clear hk h0
    go_enter Tryz.func33, Tryz.ntmps33
    go_wp2_with fail
    refine cl.mono ?_
    rintro e w1 ⟨rfl, hw⟩
    rw [hw]
    clear cl hw
    go_wp2_with fail
    go_ret
    exact ⟨rfl, rfl⟩
set_option maxHeartbeats 1000000 in
theorem row_nil (k : Int) (w : World) : Calls Tryz.prog 33 #[.pointer none, .int .i64 k] w fun e w' => e = .returned (.slice none 0 0) ∧ w' = w := by
  by_cases h0 : k < 0
  · have hd : decide (k < 0) = true := decide_eq_true h0
    clear h0
    go_enter Tryz.func33, Tryz.ntmps33
    go_wp2_with fail
    go_ret
    exact ⟨rfl, rfl⟩
  · have hd : decide (k < 0) = false := decide_eq_false h0
    have hd2 : decide (k ≥ 0) = true := decide_eq_true (by omega)
    clear h0
    go_enter Tryz.func33, Tryz.ntmps33
    go_wp2_with fail
    refine (len_nil _).mono ?_
    rintro e w1 ⟨rfl, hw⟩
    rw [hw]
    clear hw
    go_wp2_with fail
    go_ret
    exact ⟨rfl, rfl⟩
set_option maxHeartbeats 1000000 in
theorem hits_call {W0 : World} {zs : List ByteArray} {X : List Pn} (h : DnAt B w t p g R) (hl : Lx W0 p zs X) (bel : Below W0.heap.size W0 w) (b : ByteArray) (hb : b.size ≤ 100000) :
    Calls Tryz.prog 38 #[.pointer (some ⟨t, 0, none⟩), .string b] w fun e w' => ∃ v, e = .returned v ∧ w'.ownsRow w.heap.size 93 2 v (feedU zs [] 0 b.data.toList b.size).length (hitC (feedU zs [] 0 b.data.toList b.size)) ∧ Below w.heap.size w w' := by
  have c0 : w.cell? ⟨t, 0, none⟩ = some (.pointer (some ⟨p, 0, none⟩)) := cell_of h.head rfl
  have cA := all_any hl bel b hb
  clear h hl bel
  go_enter Tryz.func38, Tryz.ntmps38
  go_wp2_with fail
  refine cA.mono ?_
  rintro e w1 ⟨v, rfl, hr, b1⟩
  obtain ⟨V, cp, rfl, _⟩ := own_form hr
  have hrh : Hid _ := hr
  clear cA hr
  go_wp2_with fail
  go_ret
  exact ⟨_, rfl, hrh.out, b1⟩
set_option maxHeartbeats 400000 in
theorem hits_nil (b : ByteArray) (w : World) : Calls Tryz.prog 38 #[.pointer none, .string b] w fun e w' => e = .returned (.slice none 0 0) ∧ w' = w := by
  go_enter Tryz.func38, Tryz.ntmps38
  go_wp2_with fail
  go_ret
  exact ⟨rfl, rfl⟩
end
end Go.Proofs.YtdeeeechdlcdbaaGreat.DnM
