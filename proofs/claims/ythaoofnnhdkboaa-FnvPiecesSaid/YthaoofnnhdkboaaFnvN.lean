/- The walk of FnvTells: it returns true for every list of strings. -/
import Derived.Test.YthaoofnnhdkboaaFnvM
import Derived.Test.YthaoofnnhdkboaaArgs
set_option linter.unusedSimpArgs false
set_option linter.unusedVariables false
namespace Go.Proofs.Ythaoofnnhdkboaa.FnvN
open Go.RowKit Go.Proofs.Ythaoofnnhdkboaa.FnvW Go.Proofs.Ythaoofnnhdkboaa.FnvP Go.Proofs.Ythaoofnnhdkboaa.FnvL Go.Proofs.Ythaoofnnhdkboaa.FnvM

def heldB (s : ByteArray) : Int := held s.data.toList
theorem addB (b : Nat) (l s : ByteArray) (w : World) (hs : s.size ≤ maxLen) (hc : w.cell? ⟨b, 0, none⟩ = some (.int .u64 (heldB l))) (hf : w.frozen? ⟨b, 0, none⟩ = false) :
    Calls Try.prog 24 #[.pointer (some ⟨b, 0, none⟩), .string s] w fun e w' => e = .returned (.tuple #[]) ∧ w' = w.setCell ⟨b, 0, none⟩ (.int .u64 (heldB (l ++ s))) := by
  refine (add_any b (heldB l) s w hs hc hf).mono ?_
  rintro e w' ⟨rfl, rfl⟩
  refine ⟨rfl, ?_⟩
  unfold heldB
  rw [held_step]
  simp
theorem nowB (b : Nat) (l : ByteArray) (w : World) (hc : w.cell? ⟨b, 0, none⟩ = some (.int .u64 (heldB l))) :
    Calls Try.prog 25 #[.pointer (some ⟨b, 0, none⟩)] w fun e w' => e = .returned (.int .u64 (nameS l)) ∧ w' = w := by
  refine (now_any b (heldB l) w hc).mono ?_
  rintro e w' ⟨rfl, rfl⟩
  refine ⟨?_, rfl⟩
  unfold heldB nameS
  rw [FH_held, name_first]
theorem refS (s : ByteArray) (w : World) (hs : s.size ≤ maxLen) :
    Calls Try.prog 26 #[.string s] w fun e w' => e = .returned (.int .u64 (nameS s)) ∧ w' = w := by
  refine (ref_any s w hs).mono ?_
  rintro e w' ⟨rfl, rfl⟩
  refine ⟨?_, rfl⟩
  unfold nameS
  rw [name_first]
theorem heldB_empty : heldB ⟨#[]⟩ = 0 := held_nil

set_option maxHeartbeats 400000 in
theorem tells_out (A : Option Addr) (n cap : Nat) (w : World) (hn : 40 < n) :
    Calls Try.prog 3 #[.slice A n cap] w fun e w' => e = .returned (.bool true) ∧ Below w.heap.size w w' := by
  have g0 : decide ((n : Int) > 40) = true := by simp; omega
  go_enter Try.func3, Try.ntmps3
  go_wp2_with fail
  refine (alive_true _).mono ?_
  rintro e w1 ⟨rfl, hb1⟩
  go_wp2_with fail
  go_ret
  exact ⟨rfl, hb1⟩

/-- What the loop of FnvTells keeps. -/
def TRel (w w1 : World) (n : Nat) (r i : Value) (wr : World) : Prop :=
  ∃ (k : Nat) (l : ByteArray), k ≤ n ∧ i = .int .i64 k ∧ r = .string l ∧ l.size ≤ k * 600 ∧ Below w.heap.size w wr ∧ w1.heap.size < wr.heap.size ∧ w1.heap.size ≥ w.heap.size ∧ wr.cell? ⟨w1.heap.size, 0, none⟩ = some (.int .u64 (heldB l)) ∧ wr.frozen? ⟨w1.heap.size, 0, none⟩ = false

set_option maxHeartbeats 1000000 in
theorem tells_in (A : Option Addr) (n cap : Nat) (zs : List ByteArray) (w : World) (hn : n ≤ 40) (hA : 0 < n → ∃ ad : Addr, A = some ad ∧ ∀ j, j < n → w.cell? (ad.add j) = some (.string (zs.getD j ByteArray.empty))) :
    Calls Try.prog 3 #[.slice A n cap] w fun e w' => e = .returned (.bool true) ∧ Below w.heap.size w w' := by
  have g0 : decide ((n : Int) > 40) = false := by simp; omega
  go_enter Try.func3, Try.ntmps3
  go_wp2_with fail
  refine (alive_true _).mono ?_
  rintro e w1 ⟨rfl, hb1⟩
  go_wp2_with fail
  go_loopw [4, 20] (TRel w w1 n) (fun _ i _ => n - (intOf i).toNat)
  case atStart => exact ⟨0, ⟨#[]⟩, Nat.zero_le _, rfl, rfl, by decide, balloc hb1 _, by simp, hb1.size, by rw [heldB_empty]; simp, by simp⟩
  case round =>
    obtain ⟨k, l, hk, rfl, rfl, hl, hb, hsz, hge, hc, hf⟩ := hrel
    by_cases hlt : k < n
    · obtain ⟨ad, rfl, hcs⟩ := hA (by omega)
      have hcell := pw_cell_below hb (hcs k hlt)
      obtain ⟨c, hcc⟩ : ∃ c, zs.getD k ByteArray.empty = c := ⟨_, rfl⟩
      rw [hcc] at hcell
      clear hcs hA hcc
      by_cases hcz : (c.size : Int) > 600
      · go_wp2_with fail
        go_ret
        exact ⟨rfl, hb⟩
      · have hl2 : l.size ≤ 24000 := by omega
        go_wp2_with fail
        refine (addB w1.heap.size l c _ (by unfold maxLen; omega) hc hf).mono ?_
        rintro e w2 ⟨rfl, rfl⟩
        have hc2 : (wr.setCell ⟨w1.heap.size, 0, none⟩ (.int .u64 (heldB (l ++ c)))).cell? ⟨w1.heap.size, 0, none⟩ = some (.int .u64 (heldB (l ++ c))) := cell_same hc
        have hf2 : (wr.setCell ⟨w1.heap.size, 0, none⟩ (.int .u64 (heldB (l ++ c)))).frozen? ⟨w1.heap.size, 0, none⟩ = false := by simpa using hf
        have hb2 : Below w.heap.size w (wr.setCell ⟨w1.heap.size, 0, none⟩ (.int .u64 (heldB (l ++ c)))) := hb.setCell hge _
        have hz2 : w1.heap.size < (wr.setCell ⟨w1.heap.size, 0, none⟩ (.int .u64 (heldB (l ++ c)))).heap.size := by simpa [World.setCell] using hsz
        have hs3 : (l ++ c).size ≤ (k + 1) * 600 := by rw [ByteArray.size_append]; omega
        obtain ⟨w3, hw3⟩ : ∃ w3, wr.setCell ⟨w1.heap.size, 0, none⟩ (.int .u64 (heldB (l ++ c))) = w3 := ⟨_, rfl⟩
        rw [hw3] at hc2 hf2 hb2 hz2 ⊢
        clear hw3 hc hf hb hsz hcell
        go_wp2_with fail
        refine (nowB w1.heap.size (l ++ c) _ hc2).mono ?_
        rintro e w4 ⟨rfl, rfl⟩
        go_wp2_with fail
        refine (refS (l ++ c) _ (by unfold maxLen; omega)).mono ?_
        rintro e w4 ⟨rfl, rfl⟩
        go_wp2_with fail
        refine (ofS c _ (by unfold maxLen; omega)).mono ?_
        rintro e w5 ⟨rfl, hb5⟩
        go_wp2_with fail
        refine (refS c _ (by unfold maxLen; omega)).mono ?_
        rintro e w6 ⟨rfl, rfl⟩
        go_wp2_with fail
        go_roundw
        case rel => exact ⟨k + 1, l ++ c, by omega, by go_num, rfl, hs3, bstep hb2 hb5, Nat.lt_of_lt_of_le hz2 hb5.size, hge, pw_cell_below hb5 hc2, (hb5.frozen (p := ⟨w1.heap.size, 0, none⟩) hz2).trans hf2⟩
        case measure => simp [intOf]; omega
    · clear hA
      go_wp2_with fail
      refine (add_nil l _).mono ?_
      rintro e w2 ⟨rfl, rfl⟩
      go_wp2_with fail
      refine (nowB w1.heap.size l _ hc).mono ?_
      rintro e w3 ⟨rfl, rfl⟩
      go_wp2_with fail
      refine (ofS l _ (by unfold maxLen; omega)).mono ?_
      rintro e w4 ⟨rfl, hb4⟩
      go_wp2_with fail
      refine (now_nil _).mono ?_
      rintro e w5 ⟨rfl, rfl⟩
      go_wp2_with fail
      go_ret
      exact ⟨rfl, bstep hb hb4⟩

theorem tells_walk (A : Option Addr) (n cap : Nat) (zs : List ByteArray) (w : World) (h : Args.StrsIn w A n cap zs) :
    Calls Try.prog 3 #[.slice A n cap] w fun e w' => e = .returned (.bool true) ∧ Below w.heap.size w w' := by
  by_cases hn : n ≤ 40
  · exact tells_in A n cap zs w hn h.at_
  · exact tells_out A n cap w (by omega)

set_option maxHeartbeats 400000 in
theorem pieces_out (a0 : ByteArray) (A : Option Addr) (n cap : Nat) (w : World) (hg : decide ((a0.size : Int) > 1000) = true ∨ (decide ((a0.size : Int) > 1000) = false ∧ decide ((n : Int) > 60) = true)) :
    Calls Try.prog 6 #[.string a0, .slice A n cap] w fun e w' => e = .returned (.bool true) ∧ Below w.heap.size w w' := by
  rcases hg with hg | ⟨hg0, hg⟩
  all_goals
    go_enter Try.func6, Try.ntmps6
    go_wp2_with fail
    refine (alive_true _).mono ?_
    rintro e w1 ⟨rfl, hb1⟩
    go_wp2_with fail
    go_ret
    exact ⟨rfl, hb1⟩
theorem pieces_walk (a0 : ByteArray) (A : Option Addr) (n cap : Nat) (zs : List Int) (w : World) (h0 : a0.size ≤ 140737488351232) (h : Args.IntsIn .i64 w A n cap zs) :
    Calls Try.prog 6 #[.string a0, .slice A n cap] w fun e w' => e = .returned (.bool true) ∧ Below w.heap.size w w' := by
  by_cases c1 : (a0.size : Int) > 1000
  · exact pieces_out a0 A n cap w (.inl (by simpa using c1))
  by_cases c2 : (n : Int) > 60
  · exact pieces_out a0 A n cap w (.inr ⟨by simpa using c1, by simpa using c2⟩)
  exact pieces_in a0 A n cap zs w (by omega) (by omega) h.len h.at_

end Go.Proofs.Ythaoofnnhdkboaa.FnvN
