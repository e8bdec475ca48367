/- The walks of the reference's Find and Phrases. -/
import Derived.Test.YtdeeeechdlcdbaaGreatPhP
import Derived.Test.YtdeeeechdlcdbaaGreatTw
import Derived.IntWalk
set_option linter.unusedVariables false
set_option linter.unusedSimpArgs false
namespace Go.Proofs.YtdeeeechdlcdbaaGreat.PhW
open Go Go.RowKit Go.Proofs.YtdeeeechdlcdbaaGreat.Base Go.Proofs.YtdeeeechdlcdbaaGreat.DiA Go.Proofs.YtdeeeechdlcdbaaGreat.DiB Go.Proofs.YtdeeeechdlcdbaaGreat.TrP Go.Proofs.YtdeeeechdlcdbaaGreat.TcP Go.Proofs.YtdeeeechdlcdbaaGreat.TwA Go.Proofs.YtdeeeechdlcdbaaGreat.PhP
set_option maxHeartbeats 1000000 in
theorem find_ex (A : Option Addr) (n cap : Nat) (zs : List ByteArray) (x : ByteArray) (w : World) (hn : n = zs.length) (hat : StrsAt w A zs) (hbig : n ≤ 100000) :
    Calls Tryz.prog 13 #[.slice A n cap, .string x] w fun e w' => e = .returned (.int .i64 (findI zs x.data.toList)) ∧ w' = w := by
  have hnh : Hid (n = zs.length) := hn
  clear hn
  go_enter Tryz.func13, Tryz.ntmps13
  go_wp2_with fail
  go_loop [5] (fun i => ∃ k : Nat, k ≤ n ∧ i = .int .i64 k ∧ Hid (x ∉ zs.take k)) (fun i => n - (intOf i).toNat)
  case atStart => exact ⟨0, Nat.zero_le _, rfl, by simp [Hid]⟩
  case round =>
    obtain ⟨k, hk, rfl, hx⟩ := hrel
    have hn := hnh.out
    by_cases hlt : k < n
    · obtain ⟨b, off, rfl, _, hc⟩ := hat (by omega)
      have hcell := hc k (by omega)
      have hkd : decide ((k : Int) < (n : Int)) = true := decide_eq_true (by omega)
      have hsucc : zs.take (k + 1) = zs.take k ++ [zs.getD k ByteArray.empty] := by
        have e : zs.getD k ByteArray.empty = zs[k]'(by omega) := by simp [List.getD_eq_getElem?_getD, show k < zs.length by omega]
        rw [List.take_succ_eq_append_getElem (by omega), e]
      have hsucch : Hid (zs.take (k + 1) = zs.take k ++ [zs.getD k ByteArray.empty]) := hsucc
      have hyes : Hid (zs.getD k ByteArray.empty = x → findI zs x.data.toList = (k : Int)) := fun e => by
        unfold findI
        rw [findL_first (by omega) e hx.out]
      generalize zs.getD k ByteArray.empty = y at hcell hsucch hyes
      clear hsucc hc hn hat
      cases hxy : (y.toList == x.toList) with
      | true =>
        have e := list_eq hxy
        have hf := hyes.out e
        have hfh : Hid (findI zs x.data.toList = (k : Int)) := hf
        clear hf hyes hsucch e hx hnh
        go_wp2_with fail
        refine bodyPost_ret (v := .int .i64 (k : Int)) ?_ rfl ⟨by rw [hfh.out], rfl⟩
        simp [results, Tryz.results13, go_sem]
      | false =>
        have hne : y ≠ x := by
          rintro rfl
          simp at hxy
        have hx2 : Hid (x ∉ zs.take (k + 1)) := by
          show x ∉ zs.take (k + 1)
          rw [hsucch.out]
          intro hm
          rcases List.mem_append.1 hm with h | h
          · exact hx.out h
          · exact hne (List.mem_singleton.1 h).symm
        clear hne hyes hsucch hx
        go_wp2_with fail
        go_round
        case rel => exact ⟨k + 1, by omega, by go_num, hx2⟩
        case measure => simp [intOf]; omega
    · have hkn : k = n := by omega
      subst hkn
      have hkd : decide ((k : Int) < (k : Int)) = false := decide_eq_false (by omega)
      have hf : Hid (findI zs x.data.toList = -1) := by
        have := hx.out
        rw [List.take_of_length_le (by omega)] at this
        show findI _ _ = _
        unfold findI
        rw [findL_no this]
      clear hx hn hnh hat
      go_wp2_with fail
      refine bodyPost_ret (v := .int .i64 (-1)) ?_ rfl ⟨by rw [hf.out], rfl⟩
      simp [results, Tryz.results13, go_sem]
/-- What the reference says of phrases. -/
def PhPost (zs : List ByteArray) (e : Ending) : Prop := (okD zs = true ∧ e = .returned (.tuple #[.int .i64 0, .int .i64 0])) ∨ (okD zs = false ∧ ∃ c k : Int, c ≠ 0 ∧ e = .returned (.tuple #[.int .i64 c, .int .i64 k]))
theorem ph_bad {zs : List ByteArray} (h : okD zs = false) (c k : Int) (hc : c ≠ 0) : PhPost zs (.returned (.tuple #[.int .i64 c, .int .i64 k])) := .inr ⟨h, c, k, hc, rfl⟩
set_option maxHeartbeats 2000000 in
theorem phrases_any (A : Option Addr) (n cap : Nat) (zs : List ByteArray) (w : World) (hn : n = zs.length) (hat : StrsAt w A zs) (htot : total zs ≤ 2000) :
    Calls Tryz.prog 9 #[.slice A n cap] w fun e w' => PhPost zs e ∧ w' = w := by
  have hnh : Hid (n = zs.length) := hn
  have hth : Hid (total zs ≤ 2000) := htot
  clear hn htot
  rcases Nat.lt_or_ge 100 n with h100 | h100
  · have hd : decide ((n : Int) > 100) = true := decide_eq_true (by omega)
    have hb : Hid (okD zs = false) := okD_many (by rw [← hnh.out]; exact h100)
    clear hat
    go_enter Tryz.func9, Tryz.ntmps9
    go_wp2_with fail
    refine bodyPost_ret (v := .tuple #[.int .i64 10, .int .i64 100]) ?_ rfl ⟨ph_bad hb.out _ _ (by decide), rfl⟩
    simp [results, Tryz.results9, go_sem]
  have hd : decide ((n : Int) > 100) = false := decide_eq_false (by omega)
  go_enter Tryz.func9, Tryz.ntmps9
  go_wp2_with fail
  go_loop [4, 5] (fun s i => ∃ k : Nat, k ≤ n ∧ i = .int .i64 k ∧ s = .int .i64 (total (zs.take k) : Nat) ∧ Hid (okUpto zs k = true)) (fun _ i => n - (intOf i).toNat)
  case atStart => exact ⟨0, Nat.zero_le _, rfl, rfl, Lib.hid (okUpto_zero zs)⟩
  case round =>
    obtain ⟨k, hk, rfl, rfl, hok⟩ := hrel
    by_cases hlt : k < n
    · have hkz : k < zs.length := by rw [← hnh.out]; exact hlt
      obtain ⟨b, off, rfl, _, hc⟩ := hat (by omega)
      have hcell := hc k hkz
      have hkd : decide ((k : Int) < (n : Int)) = true := decide_eq_true (by omega)
      have hki : (k : Int) < (n : Int) := by omega
      have hs := total_succ hkz
      have hle := total_le zs (k + 1)
      have hth1 := hth.out
      have hbad := not_good hkz
      have hgo := okUpto_next hok.out
      have hcF := find_ex (some ⟨b, off, none⟩) n cap zs (zs.getD k ByteArray.empty) w hnh.out hat (by omega)
      have hfi := findI_lt hkz
      generalize findI zs (zs.getD k ByteArray.empty).data.toList = r at hcF hfi
      generalize zs.getD k ByteArray.empty = y at hs hcell hcF hbad hgo hfi
      have hsh : Hid (total (zs.take (k + 1)) = total (zs.take k) + y.size) := hs
      rw [hs] at hbad hgo
      generalize total (zs.take k) = T at hs hsh hbad hgo
      have hbadh : Hid (¬(1 ≤ y.size ∧ y.size ≤ 40 ∧ T + y.size ≤ 1000 ∧ ¬y ∈ zs.take k) → okD zs = false) := hbad
      have hgoh : Hid ((1 ≤ y.size ∧ y.size ≤ 40 ∧ T + y.size ≤ 1000 ∧ ¬y ∈ zs.take k) → okUpto zs (k + 1) = true) := hgo
      have hfih : Hid (r < (k : Int) ↔ y ∈ zs.take k) := hfi
      have hwr : IntKind.i64.wrap ((T : Int) + (y.size : Int)) = (T : Int) + (y.size : Int) := by rw [IntKind.wrap_i64]; omega
      have hTb : T + y.size ≤ 2000 := by omega
      clear hs hle hth1 hkz hc hbad hgo hfi
      rcases Nat.eq_zero_or_pos y.size with h0 | h0
      · have he : y = ⟨#[]⟩ := by
          apply data_inj
          have : y.data.toList.length = 0 := by rw [← size_list]; exact h0
          rw [List.eq_nil_of_length_eq_zero this]
        subst he
        have hb : Hid (okD zs = false) := hbadh.out (fun h => by have := h.1; omega)
        clear hbadh hgoh hfih hcF hat h0
        go_wp2_with fail
        refine bodyPost_ret (v := .tuple #[.int .i64 5, .int .i64 (k : Int)]) ?_ rfl ⟨ph_bad hb.out _ _ (by decide), rfl⟩
        simp [results, Tryz.results9, go_sem]
      · have hne : y.toList.isEmpty = false := nonempty_of h0
        have hz : (y.toList == ByteArray.toList ⟨#[]⟩) = false := by
          cases hh : (y.toList == ByteArray.toList ⟨#[]⟩) with
          | false => rfl
          | true =>
            have := list_eq hh
            subst this
            exact absurd h0 (by decide)
        by_cases h40 : y.size ≤ 40
        · have d40 : decide ((y.size : Int) > 40) = false := decide_eq_false (by omega)
          by_cases h1000 : T + y.size ≤ 1000
          · have d1000 : decide ((T : Int) + (y.size : Int) > 1000) = false := decide_eq_false (by omega)
            have hi1 : IntKind.i64.wrap ((k : Int) + 1) = (k : Int) + 1 := by rw [IntKind.wrap_i64]; omega
            by_cases hrk : r < (k : Int)
            · have hrd : decide (r < (k : Int)) = true := decide_eq_true hrk
              have hb : Hid (okD zs = false) := hbadh.out (fun h => h.2.2.2 (hfih.out.1 hrk))
              clear hbadh hgoh hfih hat hrk
              go_wp2_with fail
              refine hcF.mono ?_
              rintro e w1 ⟨rfl, hw⟩
              rw [hw]
              clear hcF hw w1
              go_wp2_with fail
              refine bodyPost_ret (v := .tuple #[.int .i64 5, .int .i64 (k : Int)]) ?_ rfl ⟨ph_bad hb.out _ _ (by decide), rfl⟩
              simp [results, Tryz.results9, go_sem]
            · have hrd : decide (r < (k : Int)) = false := decide_eq_false hrk
              have hok2 : Hid (okUpto zs (k + 1) = true) := hgoh.out ⟨h0, h40, h1000, fun hm => hrk (hfih.out.2 hm)⟩
              clear hbadh hgoh hfih hrk
              go_wp2_with fail
              refine hcF.mono ?_
              rintro e w1 ⟨rfl, hw⟩
              rw [hw]
              clear hcF hw w1
              go_wp2_with fail
              go_round
              case rel => exact ⟨k + 1, by omega, by go_num, by rw [hsh.out, Int.natCast_add], hok2⟩
              case measure => simp [intOf]; omega
          · have d1000 : decide ((T : Int) + (y.size : Int) > 1000) = true := decide_eq_true (by omega)
            have hb : Hid (okD zs = false) := hbadh.out (fun h => h1000 h.2.2.1)
            clear hbadh hgoh hfih hcF hat h1000
            go_wp2_with fail
            refine bodyPost_ret (v := .tuple #[.int .i64 10, .int .i64 (k : Int)]) ?_ rfl ⟨ph_bad hb.out _ _ (by decide), rfl⟩
            simp [results, Tryz.results9, go_sem]
        · have d40 : decide ((y.size : Int) > 40) = true := decide_eq_true (by omega)
          have hb : Hid (okD zs = false) := hbadh.out (fun h => h40 h.2.1)
          clear hbadh hgoh hfih hcF hat h40
          go_wp2_with fail
          refine bodyPost_ret (v := .tuple #[.int .i64 10, .int .i64 (k : Int)]) ?_ rfl ⟨ph_bad hb.out _ _ (by decide), rfl⟩
          simp [results, Tryz.results9, go_sem]
    · have hkn : k = n := by omega
      subst hkn
      have hkd : decide ((k : Int) < (k : Int)) = false := decide_eq_false (by omega)
      have hz := hok.out
      rw [hnh.out] at hz
      have hg : Hid (okD zs = true) := okD_all (by rw [← hnh.out]; exact h100) hz
      clear hz hok hat
      go_wp2_with fail
      refine bodyPost_ret (v := .tuple #[.int .i64 0, .int .i64 0]) ?_ rfl ⟨.inl ⟨hg.out, rfl⟩, rfl⟩
      simp [results, Tryz.results9, go_sem]
end Go.Proofs.YtdeeeechdlcdbaaGreat.PhW
