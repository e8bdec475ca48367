/- The walk of HitsNone. -/
import Derived.Test.YtdeeeechdlcdbaaHiV
set_option linter.unusedVariables false
set_option linter.unusedSimpArgs false
namespace Go.Proofs.Ytdeeeechdlcdbaa.HnW
open Go Go.RowKit Go.Sort Go.Lib Go.Proofs Go.Proofs.Ytdeeeechdlcdbaa Go.Proofs.Ytdeeeechdlcdbaa.Base Go.Proofs.Ytdeeeechdlcdbaa.DiA Go.Proofs.Ytdeeeechdlcdbaa.DiB Go.Proofs.Ytdeeeechdlcdbaa.LkM Go.Proofs.Ytdeeeechdlcdbaa.LkS Go.Proofs.Ytdeeeechdlcdbaa.ScN Go.Proofs.Ytdeeeechdlcdbaa.RwA Go.Proofs.Ytdeeeechdlcdbaa.HiP Go.Proofs.Ytdeeeechdlcdbaa.HiQ Go.Proofs.Ytdeeeechdlcdbaa.HiA Go.Proofs.Ytdeeeechdlcdbaa.HiW Go.Proofs.Ytdeeeechdlcdbaa.HiL Go.Proofs.Ytdeeeechdlcdbaa.HiM Go.Proofs.Ytdeeeechdlcdbaa.HiV
set_option maxHeartbeats 400000 in
theorem starts_out (pd : Option Addr) (n : Int) (V : Option Addr) (m cp : Nat) (w : World) (h : n < 0 ∨ 1024 < n) : Calls Try.prog 27 #[.pointer pd, .int .i64 n, .slice V m cp] w fun e w' => e = .returned (.slice none 0 0) ∧ Below w.heap.size w w' := by
  have bb : Below w.heap.size w (w.alloc (.cells #[.pointer pd] 29)) := balloc (Below.refl _ _) _
  by_cases h0 : n < 0
  · have hd : decide (n < 0) = true := decide_eq_true h0
    clear h h0
    go_enter Try.func27, Try.ntmps27
    go_wp2_with fail
    go_ret
    exact ⟨rfl, bb⟩
  · have hd : decide (n < 0) = false := decide_eq_false h0
    have hd2 : decide (n > 1024) = true := decide_eq_true (by omega)
    clear h h0
    go_enter Try.func27, Try.ntmps27
    go_wp2_with fail
    go_ret
    exact ⟨rfl, bb⟩
set_option maxHeartbeats 400000 in
theorem lengths_out (pd : Option Addr) (b : ByteArray) (w : World) (h : 1024 < b.size) : Calls Try.prog 41 #[.pointer pd, .string b] w fun e w' => e = .returned (.slice none 0 0) ∧ w' = w := by
  have hd : (b.size : Int) > 1024 := by omega
  have hd2 : decide (1024 < b.size) = true := decide_eq_true h
  clear h
  go_enter Try.func41, Try.ntmps41
  go_wp2_with fail
  go_ret
  exact ⟨rfl, rfl⟩
theorem none_row {n : Nat} {H : List (Int × Int)} (i : Nat) : (startsL (szk []) 0 n H).getD i [] = [] := by
  refine List.eq_nil_iff_forall_not_mem.2 fun k hk => ?_
  have := (mem_startsL (sz := szk []) (N := 0) (n := n) (fun k hk => absurd hk (Nat.not_lt_zero k)) (H := H)).1 hk
  exact absurd this.2.1 (Nat.not_lt_zero k)
theorem none_len (B : List UInt8) (i : Nat) : lensL [] B i = [] := by
  refine List.eq_nil_iff_forall_not_mem.2 fun k hk => ?_
  obtain ⟨j, hj, _⟩ := mem_lensL.1 hk
  exact absurd hj (Nat.not_lt_zero j)
theorem szk_nil (k : Nat) : szk [] k ≤ 1000 := by rw [szk_none (Nat.zero_le k)]; omega
set_option maxHeartbeats 400000 in
theorem law_out (n k : Int) (b : ByteArray) (w : World) (h : 200 < b.size ∨ 1000 < n) : Calls Try.prog 9 #[.int .i64 n, .int .i64 k, .string b] w fun e w' => e = .returned (.bool true) ∧ Below w.heap.size w w' := by
  by_cases h0 : 200 < b.size
  · have hd : decide ((b.size : Int) > 200) = true := decide_eq_true (by omega)
    clear h h0
    go_enter Try.func9, Try.ntmps9
    go_wp2_with fail
    refine (HiV.alive_call _).mono ?_
    rintro e w2 ⟨rfl, b2⟩
    go_wp2_with fail
    go_ret
    exact ⟨rfl, b2⟩
  · have hd : decide ((b.size : Int) > 200) = false := decide_eq_false (by omega)
    have hd2 : decide (n > 1000) = true := decide_eq_true (by omega)
    clear h h0
    go_enter Try.func9, Try.ntmps9
    go_wp2_with fail
    refine (HiV.alive_call _).mono ?_
    rintro e w2 ⟨rfl, b2⟩
    go_wp2_with fail
    go_ret
    exact ⟨rfl, b2⟩
/-- Behind Starts of no dictionary. -/
def NoPost (w : World) (n : Int) (e : Ending) (w' : World) : Prop := Below w.heap.size w w' ∧ ∃ (V : Option Addr) (m cp : Nat), e = .returned (.slice V m cp) ∧ max n 0 = (m : Int) ∧ m ≤ 1000 ∧ ∀ i, i < m → ∃ g U c, V = some ⟨g, 0, none⟩ ∧ w'.cell? ⟨g, i, none⟩ = some (.slice U 0 c)
theorem starts_no (n : Int) (hn : n ≤ 1000) (V : Option Addr) (cp : Nat) (w : World) (hH : HIn w V [(1, 0)]) : Calls Try.prog 27 #[.pointer none, .int .i64 n, .slice V 1 cp] w fun e w' => NoPost w n e w' := by
  by_cases h0 : n < 0
  · refine (starts_out none n V 1 cp w (.inl h0)).mono ?_
    rintro e w' ⟨rfl, hb⟩
    exact ⟨hb, none, 0, 0, rfl, by omega, by omega, fun i hi => absurd hi (Nat.not_lt_zero i)⟩
  · obtain ⟨m, rfl⟩ : ∃ m : Nat, n = (m : Int) := ⟨n.toNat, by omega⟩
    refine (starts_any (Bd := 0) (zs := []) (n := m) (m := 1) (.inl ⟨rfl, rfl⟩) (fun k hk => absurd hk (Nat.not_lt_zero k)) szk_nil (by decide) (by omega) rfl (by decide) hH).mono ?_
    rintro e w' ⟨hb, g, B, rfl, _, _, hR⟩
    have hl : (startsL (szk []) ([] : List ByteArray).length m [(1, 0)]).length = m := len_startsL (fun k hk => absurd hk (Nat.not_lt_zero k)) _
    refine ⟨hb, _, m, m, rfl, by omega, by omega, fun i hi => ?_⟩
    obtain ⟨U, c, h1, _⟩ := rws_row hR (i := i) (by rw [hl]; exact hi)
    have e0 : (startsL (szk []) ([] : List ByteArray).length m [(1, 0)]).getD i [] = [] := none_row i
    rw [e0] at h1
    exact ⟨g, U, c, rfl, h1⟩
/-- Behind Lengths of no dictionary. -/
def NlPost (w : World) (b : ByteArray) (e : Ending) (w' : World) : Prop := Below w.heap.size w w' ∧ ∃ g, e = .returned (.slice (some ⟨g, 0, none⟩) b.size b.size) ∧ ∀ i, i < b.size → ∃ U c, w'.cell? ⟨g, i, none⟩ = some (.slice U 0 c)
theorem lengths_no (b : ByteArray) (hb : b.size ≤ 200) (w : World) : Calls Try.prog 41 #[.pointer none, .string b] w fun e w' => NlPost w b e w' := by
  refine (lengths_any (Bd := 0) (zs := []) b (.inl ⟨rfl, rfl⟩) szk_nil (by decide) (by omega)).mono ?_
  rintro e w' ⟨hb, g, B, rfl, _, _, hR⟩
  refine ⟨hb, g, rfl, fun i hi => ?_⟩
  obtain ⟨U, c, h1, _⟩ := rws_row hR (i := i) (by rw [FL_len]; exact hi)
  rw [FL_at hi, if_pos hi, none_len] at h1
  exact ⟨U, c, h1⟩
/-- Behind Longest of no dictionary. -/
theorem longest_no (b : ByteArray) (k : Int) (hb : b.size ≤ 200) (w : World) : Calls Try.prog 42 #[.pointer none, .string b, .int .i64 k] w fun e w' => e = .returned (.tuple #[.int .i64 (-1), .int .i64 0]) ∧ Below w.heap.size w w' := by
  by_cases h : k < 0 ∨ (b.size : Int) ≤ k
  · exact (longest_out none b k w h).mono fun e w' ⟨h1, h2⟩ => ⟨h1, by rw [h2]; exact Below.refl _ _⟩
  · obtain ⟨i, rfl⟩ : ∃ i : Nat, k = (i : Int) := ⟨k.toNat, by omega⟩
    refine (longest_in (Bd := 0) (zs := []) b (.inl ⟨rfl, rfl⟩) (fun k hk => absurd hk (Nat.not_lt_zero k)) szk_nil (by decide) (by omega) (i := i) (by omega)).mono ?_
    rintro e w' ⟨hb, id, long, rfl, hl⟩
    rcases hl with ⟨rfl, rfl, _⟩ | ⟨k, hk, _⟩
    · exact ⟨rfl, hb⟩
    · exact absurd hk (Nat.not_lt_zero k)
set_option maxRecDepth 20000 in
set_option maxHeartbeats 2000000 in
theorem law_in (n k : Int) (b : ByteArray) (w : World) (hb : b.size ≤ 200) (hn : n ≤ 1000) : Calls Try.prog 9 #[.int .i64 n, .int .i64 k, .string b] w fun e w' => e = .returned (.bool true) ∧ Below w.heap.size w w' := by
  have hd : decide ((b.size : Int) > 200) = false := decide_eq_false (by omega)
  have hd2 : decide (n > 1000) = false := decide_eq_false (by omega)
  go_enter Try.func9, Try.ntmps9
  go_wp2_with fail
  refine (HiV.alive_call _).mono ?_
  rintro e w2 ⟨rfl, b2⟩
  have hH : HIn (w2.alloc (.cells #[.int .i64 1, .int .i64 0] 35)) (some ⟨w2.heap.size, 0, none⟩) [(1, 0)] := by
    intro _
    refine ⟨w2.heap.size, 0, rfl, by simp, fun j hj => ?_⟩
    rw [Nat.zero_add]
    obtain rfl : j = 0 := by simp at hj; omega
    simp
  have cS := starts_no n hn (some ⟨w2.heap.size, 0, none⟩) 1 _ hH
  have bel := balloc b2 (.cells #[.int .i64 1, .int .i64 0] 35)
  clear hH b2
  go_wp2_with fail
  refine cS.mono ?_
  rintro e w3 ⟨b3, V, m, cp, rfl, hmx, hm1, hrow⟩
  replace bel := bstep bel b3
  have hrowh : Hid (∀ i, i < m → ∃ g U c, V = some ⟨g, 0, none⟩ ∧ w3.cell? ⟨g, i, none⟩ = some (.slice U 0 c)) := hrow
  have cL := lengths_no b hb w3
  clear cS b3 hrow
  go_wp2_with fail
  refine cL.mono ?_
  rintro e w4 ⟨b4, gl, rfl, hrl⟩
  replace bel := bstep bel b4
  have hrlh : Hid (∀ i, i < b.size → ∃ U c, w4.cell? ⟨gl, i, none⟩ = some (.slice U 0 c)) := hrl
  have b34 : Hid (Below w3.heap.size w3 w4) := b4
  have cO := longest_no b k hb w4
  clear cL b4 hrl
  go_wp2_with fail
  refine cO.mono ?_
  rintro e w5 ⟨rfl, b5⟩
  replace bel := bstep bel b5
  have b45 : Hid (Below w4.heap.size w4 w5) := b5
  clear cO b5
  have e1 : ((m : Int) != (m : Int)) = false := by simp
  have e2 : ((b.size : Int) != (b.size : Int)) = false := by simp
  go_wp2_with fail
  go_loop [59] (fun s => ∃ i : Nat, i ≤ m ∧ s = .int .i64 (i : Int)) (fun s => m - (intOf s).toNat)
  case atStart => exact ⟨0, Nat.zero_le _, rfl⟩
  case round =>
    obtain ⟨i, hi, rfl⟩ := hrel
    by_cases hlt : i < m
    · have hd3 : decide ((i : Int) < (m : Int)) = true := decide_eq_true (by omega)
      have hd4 : (i : Int) < (m : Int) := by omega
      obtain ⟨g, U, c, rfl, hc⟩ := hrowh.out i hlt
      have hc5 := pw_cell_below b45.out (pw_cell_below b34.out hc)
      have z1 : IntKind.i64.wrap ((i : Int) + 1) = (i : Int) + 1 := by rw [IntKind.wrap_i64]; omega
      clear hc
      go_wp2_with fail
      go_round
      case rel => exact ⟨i + 1, hlt, by go_num⟩
      case measure => simp [intOf]; omega
    · have hd3 : decide ((i : Int) < (m : Int)) = false := decide_eq_false (by omega)
      have hd4 : ¬ (i : Int) < (m : Int) := by omega
      go_wp2_with fail
      go_loop [71] (fun s => ∃ i : Nat, i ≤ b.size ∧ s = .int .i64 (i : Int)) (fun s => b.size - (intOf s).toNat)
      case atStart => exact ⟨0, Nat.zero_le _, rfl⟩
      case round =>
        clear hd3 hd4 hlt hi
        obtain ⟨i, hi, rfl⟩ := hrel
        by_cases hlt : i < b.size
        · have hd3 : decide ((i : Int) < (b.size : Int)) = true := decide_eq_true (by omega)
          have hd4 : (i : Int) < (b.size : Int) := by omega
          obtain ⟨U, c, hc⟩ := hrlh.out i hlt
          have hc5 := pw_cell_below b45.out hc
          have z1 : IntKind.i64.wrap ((i : Int) + 1) = (i : Int) + 1 := by rw [IntKind.wrap_i64]; omega
          clear hc
          go_wp2_with fail
          go_round
          case rel => exact ⟨i + 1, hlt, by go_num⟩
          case measure => simp [intOf]; omega
        · have hd3 : decide ((i : Int) < (b.size : Int)) = false := decide_eq_false (by omega)
          have hd4 : ¬ (i : Int) < (b.size : Int) := by omega
          go_wp2_with fail
          go_ret
          exact ⟨rfl, bel⟩
theorem walk (n k : Int) (b : ByteArray) (w : World) (_hn : (Lit.int .i64 n).wf = true) (_hk : (Lit.int .i64 k).wf = true) (_hb : b.size ≤ 140737488351232) :
    Calls Try.prog 9 #[.int .i64 n, .int .i64 k, .string b] w fun e w' => e = .returned (.bool true) ∧ Below w.heap.size w w' := by
  by_cases h : 200 < b.size ∨ 1000 < n
  · exact law_out n k b w h
  · exact law_in n k b w (by omega) (by omega)
end Go.Proofs.Ytdeeeechdlcdbaa.HnW
