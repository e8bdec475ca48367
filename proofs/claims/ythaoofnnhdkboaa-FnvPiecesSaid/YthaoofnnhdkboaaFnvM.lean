/- The walks of FnvTurned, FnvPieces and FnvTells: each returns true for every input. -/
import Derived.Test.YthaoofnnhdkboaaFnvL
import Derived.WalkLawsBesides
set_option linter.unusedSimpArgs false
set_option linter.unusedVariables false
namespace Go.Proofs.Ythaoofnnhdkboaa.FnvM
open Go.RowKit Go.Proofs.Ythaoofnnhdkboaa.FnvW Go.Proofs.Ythaoofnnhdkboaa.FnvP Go.Proofs.Ythaoofnnhdkboaa.FnvL

theorem xor8 (a b : UInt8) : Go.bits .xor .u8 (a.toNat : Int) (b.toNat : Int) = ((a ^^^ b).toNat : Int) := by
  have h : Go.bits .xor .u8 (a.toNat : Int) (b.toNat : Int) = IntKind.u8.wrap (((BitVec.ofInt 8 (a.toNat : Int)) ^^^ (BitVec.ofInt 8 (b.toNat : Int))).toNat : Int) := rfl
  rw [h, BitVec.ofInt_natCast, BitVec.ofInt_natCast, IntKind.wrap_u8]
  have e : (BitVec.ofNat 8 a.toNat ^^^ BitVec.ofNat 8 b.toNat).toNat = (a ^^^ b).toNat := by
    have ea : BitVec.ofNat 8 a.toNat = a.toBitVec := by apply BitVec.eq_of_toNat_eq; simp
    have eb : BitVec.ofNat 8 b.toNat = b.toBitVec := by apply BitVec.eq_of_toNat_eq; simp
    rw [ea, eb]; rfl
  rw [e]
  have := (a ^^^ b).toNat_lt
  omega
theorem xor8_ne (c x : Int) (hc : 0 ≤ c ∧ c ≤ 255) (hx : 0 ≤ x ∧ x ≤ 255) (h : x ≠ 0) : ∃ d : UInt8, Go.bits .xor .u8 c x = (d.toNat : Int) ∧ (d.toNat : Int) ≠ c := by
  obtain ⟨a, rfl⟩ := u8_of hc
  obtain ⟨b, rfl⟩ := u8_of hx
  have hb : b ≠ 0 := by intro e; subst e; exact h rfl
  refine ⟨a ^^^ b, xor8 a b, fun e => hb ?_⟩
  have e' : a ^^^ b = a := UInt8.toNat_inj.1 (Int.ofNat_inj.1 e)
  have : a ^^^ (a ^^^ b) = a ^^^ a := by rw [e']
  rwa [← UInt8.xor_assoc, UInt8.xor_self, UInt8.zero_xor] at this
theorem turned_walk (a0 : ByteArray) (a1 : Int) (w : World) (h0 : a0.size ≤ 140737488351232) (h1 : (Lit.int .u8 a1).wf = true) :
    Calls Try.prog 4 #[.string a0, .int .u8 a1] w fun e w' => e = .returned (.bool true) ∧ Below w.heap.size w w' := by
  have hr := u8_range h1
  by_cases c1 : (a0.size : Int) < 1
  · exact turned_out a0 a1 w (.inl (by simpa using c1))
  by_cases c2 : (a0.size : Int) > 1000
  · exact turned_out a0 a1 w (.inr (.inl ⟨by simpa using c1, by simpa using c2⟩))
  by_cases c3 : a1 = 0
  · exact turned_out a0 a1 w (.inr (.inr ⟨by simpa using c1, by simpa using c2, by simpa using c3⟩))
  have l0 : 1 ≤ a0.size := by omega
  refine turned_in a0 a1 w l0 (by omega) hr (by simpa using c1) (by simpa using c2) (by simpa using c3) ?_
  have hlt : a0.size - 1 < a0.size := by omega
  obtain ⟨d, hd, hne⟩ := xor8_ne (a0[a0.size - 1].toNat : Int) a1 ⟨by omega, by have := a0[a0.size - 1].toNat_lt; omega⟩ hr c3
  rw [hd, bne_iff_ne]
  unfold nameS
  rw [data1]
  have e : a0.data.toList = (a0.extract 0 (a0.size - 1)).data.toList ++ [a0[a0.size - 1]] := by
    have hx := take_snoc a0 (a0.size - 1) hlt
    have h1 : a0.size - 1 + 1 = a0.size := by omega
    rw [h1, List.take_of_length_le (by simp)] at hx
    have hy : (a0.extract 0 (a0.size - 1)).data.toList = List.take (a0.size - 1) a0.data.toList := by
      rw [ByteArray.data_extract, Array.toList_extract]
      simp
    rw [hy]
    exact hx
  rw [e]
  refine turned _ _ _ fun he => hne ?_
  rw [← he]

theorem cell_same {w : World} {a : Addr} {u v : Value} (h : w.cell? a = some u) : (w.setCell a v).cell? a = some v := by first | exact World.cell?_setCell_same _ _ _ h | exact World.cell?_setCell_same _ _ h | (simp [h]; done)
/-- The state behind a string. -/
def foldS (s : ByteArray) (v : Int) : Int := foldI s.data.toList v
theorem addS (b : Nat) (c : Int) (s : ByteArray) (w : World) (hs : s.size ≤ maxLen) (hc : w.cell? ⟨b, 0, none⟩ = some (.int .u64 c)) (hf : w.frozen? ⟨b, 0, none⟩ = false) :
    Calls Try.prog 24 #[.pointer (some ⟨b, 0, none⟩), .string s] w fun e w' => e = .returned (.tuple #[]) ∧ w' = w.setCell ⟨b, 0, none⟩ (.int .u64 (FH (foldS s (FH c)))) := add_any b c s w hs hc hf
/-- What the loop of FnvPieces keeps. -/
def PRel (a0 : ByteArray) (w w1 : World) (n : Nat) (r i : Value) (wr : World) : Prop :=
  ∃ (k : Nat) (l : List UInt8) (s : ByteArray), k ≤ n ∧ i = .int .i64 k ∧ r = .string s ∧ a0.data.toList = l ++ s.data.toList ∧ Below w.heap.size w wr ∧ w1.heap.size < wr.heap.size ∧ w1.heap.size ≥ w.heap.size ∧ wr.cell? ⟨w1.heap.size, 0, none⟩ = some (.int .u64 (held l)) ∧ wr.frozen? ⟨w1.heap.size, 0, none⟩ = false
theorem PRel.next {a0 : ByteArray} {w w1 wr : World} {n k : Nat} {l : List UInt8} {s t r : ByteArray} (hk : k < n) (hl : a0.data.toList = l ++ s.data.toList) (hs : s.data.toList = t.data.toList ++ r.data.toList)
    (hb : Below w.heap.size w wr) (hz : w1.heap.size < wr.heap.size) (hge : w1.heap.size ≥ w.heap.size) (hc : wr.cell? ⟨w1.heap.size, 0, none⟩ = some (.int .u64 (held l))) (hf : wr.frozen? ⟨w1.heap.size, 0, none⟩ = false) :
    PRel a0 w w1 n (.string r) (.int .i64 ((k : Int) + 1)) (wr.setCell ⟨w1.heap.size, 0, none⟩ (.int .u64 (FH (foldS t (FH (held l)))))) := by
  refine ⟨k + 1, l ++ t.data.toList, r, by omega, by simp, rfl, by rw [hl, hs, List.append_assoc], hb.setCell hge _, by simpa [World.setCell] using hz, hge, ?_, ?_⟩
  · unfold foldS; rw [held_step]; exact cell_same hc
  · simpa using hf
theorem PRel.size {a0 s : ByteArray} {l : List UInt8} (hl : a0.data.toList = l ++ s.data.toList) : s.size ≤ a0.size := by
  have := congrArg List.length hl
  simp at this
  have e1 : a0.data.size = a0.size := rfl
  have e2 : s.data.size = s.size := rfl
  omega
theorem split_at (s : ByteArray) (k : Nat) : s.data.toList = (s.extract 0 k).data.toList ++ (s.extract k s.size).data.toList := by
  rw [ByteArray.data_extract, ByteArray.data_extract, Array.toList_extract, Array.toList_extract]
  simp [List.extract, List.take_of_length_le]
theorem all_held {a0 s : ByteArray} {l : List UInt8} (hl : a0.data.toList = l ++ s.data.toList) : FH (FH (foldS s (FH (held l)))) = nameS a0 := by
  unfold foldS; rw [held_step, FH_held, ← hl]; unfold nameS; rw [name_first]

set_option maxHeartbeats 400000 in
theorem pieces_in (a0 : ByteArray) (A : Option Addr) (n cap : Nat) (zs : List Int) (w : World) (h0 : a0.size ≤ 1000) (hn : n ≤ 60) (hz : zs.length = n) (hA : 0 < n → ∃ ad : Addr, A = some ad ∧ ∀ j, j < n → w.cell? (ad.add j) = some (.int .i64 (zs.getD j 0))) :
    Calls Try.prog 6 #[.string a0, .slice A n cap] w fun e w' => e = .returned (.bool true) ∧ Below w.heap.size w w' := by
  have g0 : decide ((a0.size : Int) > 1000) = false := by simp; omega
  have g1 : decide ((n : Int) > 60) = false := by simp; omega
  go_enter Try.func6, Try.ntmps6
  go_wp2_with fail
  refine (alive_true _).mono ?_
  rintro e w1 ⟨rfl, hb1⟩
  go_wp2_with fail
  go_loopw [6, 28] (PRel a0 w w1 n) (fun _ i _ => n - (intOf i).toNat)
  case atStart => exact ⟨0, [], a0, Nat.zero_le _, rfl, rfl, rfl, balloc hb1 _, by simp, hb1.size, by rw [held_nil]; simp, by simp⟩
  case round =>
    obtain ⟨k, l, s, hk, rfl, rfl, hl, hb, hsz, hge, hc, hf⟩ := hrel
    have Hl := Lib.hid hl
    have hss : s.size ≤ 1000 := Nat.le_trans (PRel.size hl) h0
    clear hl
    by_cases hlt : k < n
    · obtain ⟨ad, rfl, hcs⟩ := hA (by omega)
      have hcell := pw_cell_below hb (hcs k hlt)
      obtain ⟨c, hcc⟩ : ∃ c, zs.getD k 0 = c := ⟨_, rfl⟩
      rw [hcc] at hcell
      clear hcs hA hcc
      go_wp2_with fail
      · refine (addS w1.heap.size (held l) _ _ (by unfold maxLen; omega) hc hf).mono ?_
        rintro e w2 ⟨rfl, rfl⟩
        go_wp2_with fail
        go_roundw
        case rel => exact PRel.next (t := s) (r := ByteArray.empty) hlt Hl.out (by simp) hb hsz hge hc hf
        case measure => simp [intOf]; omega
      · refine (addS w1.heap.size (held l) _ _ (by decide) hc hf).mono ?_
        rintro e w2 ⟨rfl, rfl⟩
        go_wp2_with fail
        go_roundw
        case rel => exact PRel.next (t := ByteArray.empty) (r := s) hlt Hl.out (by simp) hb hsz hge hc hf
        case measure => simp [intOf]; omega
      · refine (addS w1.heap.size (held l) _ _ (by rw [ByteArray.size_extract]; unfold maxLen; omega) hc hf).mono ?_
        rintro e w2 ⟨rfl, rfl⟩
        go_wp2_with fail
        go_roundw
        case rel => exact PRel.next (t := s.extract 0 c.toNat) (r := s.extract c.toNat s.size) hlt Hl.out (split_at s _) hb hsz hge hc hf
        case measure => simp [intOf]; omega
    · clear hA
      go_wp2_with fail
      refine (addS w1.heap.size (held l) _ _ (by unfold maxLen; omega) hc hf).mono ?_
      rintro e w2 ⟨rfl, rfl⟩
      go_wp2_with fail
      refine (now_any w1.heap.size (FH (foldS s (FH (held l)))) _ (by exact cell_same hc)).mono ?_
      rintro e w3 ⟨rfl, rfl⟩
      go_wp2_with fail
      refine (ofS a0 _ (by unfold maxLen; omega)).mono ?_
      rintro e w4 ⟨rfl, hb4⟩
      go_wp2_with fail
      go_ret
      refine ⟨ret_bool (beq_iff_eq.2 (all_held Hl.out)), ?_⟩
      exact bstep (hb.setCell hge _) hb4

end Go.Proofs.Ythaoofnnhdkboaa.FnvM
