/- The walk of hits.Longest. -/
import Derived.Test.YtdeeeechdlcdbaaGreatHiL
set_option linter.unusedVariables false
set_option linter.unusedSimpArgs false
namespace Go.Proofs.YtdeeeechdlcdbaaGreat.HiM
open Go Go.RowKit Go.Sort Go.Lib Go.Proofs Go.Proofs.YtdeeeechdlcdbaaGreat Go.Proofs.YtdeeeechdlcdbaaGreat.Base Go.Proofs.YtdeeeechdlcdbaaGreat.DiA Go.Proofs.YtdeeeechdlcdbaaGreat.DiB Go.Proofs.YtdeeeechdlcdbaaGreat.LkM Go.Proofs.YtdeeeechdlcdbaaGreat.ScN Go.Proofs.YtdeeeechdlcdbaaGreat.HiP Go.Proofs.YtdeeeechdlcdbaaGreat.HiQ Go.Proofs.YtdeeeechdlcdbaaGreat.HiA Go.Proofs.YtdeeeechdlcdbaaGreat.HiL
set_option maxHeartbeats 400000 in
theorem longest_out (dv : Option Addr) (b : ByteArray) (k : Int) (w : World) (hk : k < 0 ∨ (b.size : Int) ≤ k) : Calls Tryz.prog 48 #[.pointer dv, .string b, .int .i64 k] w fun e w' => e = .returned (.tuple #[.int .i64 (-1), .int .i64 0]) ∧ w' = w := by
  by_cases h0 : k < 0
  · have hd : decide (k < 0) = true := decide_eq_true h0
    clear hk h0
    go_enter Tryz.func48, Tryz.ntmps48
    go_wp2_with fail
    go_ret2
    exact ⟨rfl, rfl⟩
  · have hd : decide (k < 0) = false := decide_eq_false h0
    have hd2 : decide (k ≥ (b.size : Int)) = true := decide_eq_true (by omega)
    clear hk h0
    go_enter Tryz.func48, Tryz.ntmps48
    go_wp2_with fail
    go_ret2
    exact ⟨rfl, rfl⟩
/-- Behind Longest. -/
def LoPost (w : World) (zs : List ByteArray) (B : List UInt8) (i : Nat) (e : Ending) (w' : World) : Prop := Below w.heap.size w w' ∧ ∃ (id : Int) (long : Nat), e = .returned (.tuple #[.int .i64 id, .int .i64 (long : Int)]) ∧ Lon zs B i zs.length id long
set_option maxRecDepth 100000 in
set_option maxHeartbeats 2000000 in
theorem longest_in {Bd : Nat} {w : World} {dv : Value} {zs : List ByteArray} (b : ByteArray) (hD0 : DV Bd w dv zs) (hp0 : ∀ k, k < zs.length → 1 ≤ szk zs k) (hs0 : ∀ k, szk zs k ≤ 1000) (hz0 : zs.length ≤ 1000) (hb0 : b.size ≤ 100000) {i : Nat} (hi : i < b.size) :
    Calls Tryz.prog 48 #[dv, .string b, .int .i64 (i : Int)] w fun e w' => LoPost w zs b.data.toList i e w' := by
  have hv : ∃ a, dv = .pointer a := by rcases hD0 with ⟨h, _⟩ | ⟨p, h, _⟩ <;> exact ⟨_, h⟩
  obtain ⟨pd, rfl⟩ := hv
  obtain ⟨n, hnb⟩ : ∃ n, b.size = n := ⟨_, rfl⟩
  have hnh : Hid (b.size = n) := hnb
  have cA := all_dv hD0 hz0
  have hs : Hid (∀ k, szk zs k ≤ 1000) := hs0
  have hp : Hid (∀ k, k < zs.length → 1 ≤ szk zs k) := hp0
  obtain ⟨zl, hzl⟩ : ∃ zl, zs.length = zl := ⟨_, rfl⟩
  have hzlh : Hid (zs.length = zl) := hzl
  rw [hnb] at hb0 hi
  have hd : decide ((i : Int) < 0) = false := decide_eq_false (by omega)
  have hd2 : decide (n ≤ i) = false := decide_eq_false (by omega)
  have hd3 : decide ((i : Int) ≥ (n : Int)) = false := decide_eq_false (by omega)
  have hzl1 : zl ≤ 1000 := by omega
  clear hs0 hp0 hz0 hD0
  go_enter Tryz.func48, Tryz.ntmps48
  go_wp2_with fail
  refine cA.mono ?_
  rintro e w2 ⟨V, cp, rfl, hV, b2, _⟩
  have bel2 : Hid (Below w.heap.size w w2) := b2
  have hVh : Hid (StrsAt w2 V zs) := hV
  rw [hzl]
  clear cA b2 hV hzl
  go_wp2_with fail
  go_loop [8, 9, 23] (fun s8 s9 s23 => ∃ (m : Nat) (id : Int) (long : Nat), m ≤ zl ∧ s8 = .int .i64 id ∧ s9 = .int .i64 (long : Int) ∧ s23 = .int .i64 (m : Int) ∧ Hid (Lon zs b.data.toList i m id long)) (fun _ _ s23 => zl - (intOf s23).toNat)
  case atStart => exact ⟨0, -1, 0, Nat.zero_le _, rfl, rfl, rfl, lon_start _ _ _⟩
  case round =>
    obtain ⟨m, id, long, hm, rfl, rfl, rfl, hL⟩ := hrel
    by_cases hmz : m < zl
    · have hmd : (m : Int) < (zl : Int) := by omega
      have hmd2 : decide ((m : Int) < (zl : Int)) = true := decide_eq_true hmd
      have hmh : Hid (m < zs.length) := by show _ < _; rw [hzlh.out]; exact hmz
      obtain ⟨bV, oV, rfl, _, hc⟩ := hVh.out (by have := hmh.out; omega)
      have l1 := hc m hmh.out
      have cP := prefix_call (b.extract i b.size) (zs.getD m ByteArray.empty) w2 (by rw [ByteArray.size_extract]; omega) (by have := hs.out m; unfold szk at this; omega)
      rw [pref_stands (show i ≤ b.size by rw [hnh.out]; omega), hnb] at cP
      have hsm := hs.out m
      have hpm := hp.out m hmh.out
      have hsz : szk zs m = (zs.getD m ByteArray.empty).size := rfl
      rw [hsz] at hsm hpm
      have hszh : Hid (szk zs m = (zs.getD m ByteArray.empty).size) := hsz
      have z1 : IntKind.i64.wrap ((m : Int) + 1) = (m : Int) + 1 := by rw [IntKind.wrap_i64]; omega
      have hib : (i : Int) ≤ (n : Int) := by omega
      have hib2 : i ≤ n := by omega
      generalize zs.getD m ByteArray.empty = z at l1 cP hsm hpm hszh
      by_cases hlo : long < z.size
      · have t1 : decide ((z.size : Int) > (long : Int)) = true := decide_eq_true (by omega)
        have t2 : decide (long < z.size) = true := decide_eq_true hlo
        cases hst : stands zs b.data.toList i m with
        | true =>
          have hL2 : Hid (Lon zs b.data.toList i (m + 1) (m : Int) z.size) := by
            have := lon_yes hL.out (by rw [hszh.out]; exact hlo) hst
            rw [hszh.out] at this; exact this
          rw [hst] at cP
          clear hc hst hL hszh hsz
          go_wp2_with fail
          refine cP.mono ?_
          rintro e w5 ⟨rfl, hw⟩
          rw [hw]
          clear cP hw w5
          go_wp2_with fail
          go_round
          case rel => exact ⟨m + 1, _, _, hmz, rfl, rfl, by go_num, hL2⟩
          case measure => simp [intOf]; omega
        | false =>
          have hL2 : Hid (Lon zs b.data.toList i (m + 1) id long) := lon_no hL.out (by rw [hszh.out]; exact hpm) (.inr hst)
          rw [hst] at cP
          clear hc hst hL hszh hsz
          go_wp2_with fail
          refine cP.mono ?_
          rintro e w5 ⟨rfl, hw⟩
          rw [hw]
          clear cP hw w5
          go_wp2_with fail
          go_round
          case rel => exact ⟨m + 1, _, _, hmz, rfl, rfl, by go_num, hL2⟩
          case measure => simp [intOf]; omega
      · have t1 : decide ((z.size : Int) > (long : Int)) = false := decide_eq_false (by omega)
        have t2 : decide (long < z.size) = false := decide_eq_false hlo
        have hL2 : Hid (Lon zs b.data.toList i (m + 1) id long) := lon_no hL.out (by rw [hszh.out]; exact hpm) (.inl (by rw [hszh.out]; omega))
        clear hc hL hszh cP hsz
        go_wp2_with fail
        go_round
        case rel => exact ⟨m + 1, _, _, hmz, rfl, rfl, by go_num, hL2⟩
        case measure => simp [intOf]; omega
    · have hmd : ¬ (m : Int) < (zl : Int) := by omega
      have hmd2 : decide ((m : Int) < (zl : Int)) = false := decide_eq_false hmd
      have hfin : Hid (LoPost w zs b.data.toList i (.returned (.tuple #[.int .i64 id, .int .i64 (long : Int)])) w2) := by
        refine ⟨bel2.out, id, long, rfl, ?_⟩
        rw [hzlh.out, show zl = m by omega]; exact hL.out
      clear hL
      go_wp2_with fail
      go_ret2
      exact hfin.out
end Go.Proofs.YtdeeeechdlcdbaaGreat.HiM
