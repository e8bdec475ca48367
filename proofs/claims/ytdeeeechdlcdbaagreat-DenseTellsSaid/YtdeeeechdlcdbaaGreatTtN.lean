/- The walk of the reference's Nodes. -/
import Derived.Test.YtdeeeechdlcdbaaGreatTtP
import Derived.Test.YtdeeeechdlcdbaaGreatTw
import Derived.IntWalk
set_option linter.unusedVariables false
set_option linter.unusedSimpArgs false
namespace Go.Proofs.YtdeeeechdlcdbaaGreat.TtN
open Go Go.RowKit Go.Proofs.YtdeeeechdlcdbaaGreat.Base Go.Proofs.YtdeeeechdlcdbaaGreat.DiA Go.Proofs.YtdeeeechdlcdbaaGreat.DiB Go.Proofs.YtdeeeechdlcdbaaGreat.DiC Go.Proofs.YtdeeeechdlcdbaaGreat.DiD Go.Proofs.YtdeeeechdlcdbaaGreat.TrP Go.Proofs.YtdeeeechdlcdbaaGreat.TrM Go.Proofs.YtdeeeechdlcdbaaGreat.TrA Go.Proofs.YtdeeeechdlcdbaaGreat.TcP Go.Proofs.YtdeeeechdlcdbaaGreat.TnP Go.Proofs.YtdeeeechdlcdbaaGreat.TtP Go.Proofs.YtdeeeechdlcdbaaGreat.TwA
theorem build_len (zs : List ByteArray) : ∀ k, k ≤ zs.length → (build zs k).length ≤ 1 + total (zs.take k)
  | 0, _ => by simp [build]
  | k + 1, hk => by
    have ih := build_len zs k (by omega)
    obtain ⟨_, _, _, _, h5⟩ := walk_good (build_good zs k) (zs.getD k ByteArray.empty) (zs.getD k ByteArray.empty).size (Nat.le_refl _)
    have hs := total_succ (zs := zs) (k := k) (by omega)
    show (addS (build zs k) (zs.getD k ByteArray.empty) k).length ≤ _
    unfold addS
    rw [List.length_modify]
    omega
theorem row_one (w : World) (x : Value) (cap : Nat) : (w.alloc (.cells #[x] 9)).ownsRow w.heap.size 9 1 (.slice (some ⟨w.heap.size, 0, none⟩) 1 1) 1 [x] :=
  ⟨rfl, .inr ⟨w.heap.size, 1, _, rfl, Nat.le_refl _, heap_new _ _, Nat.le_refl _, by decide, rfl, rfl⟩⟩
set_option maxHeartbeats 1000000 in
theorem find_big (A : Option Addr) (n cap : Nat) (zs : List ByteArray) (x : ByteArray) (w : World) (hn : n = zs.length) (hat : StrsAt w A zs) (hbig : n ≤ 100000) :
    Calls Tryz.prog 13 #[.slice A n cap, .string x] w fun e w' => (∃ r, e = .returned (.int .i64 r) ∧ FindIs zs x r) ∧ w' = w := by
  have hnh : Hid (n = zs.length) := hn
  clear hn
  go_enter Tryz.func13, Tryz.ntmps13
  go_wp2_with fail
  go_loop [5] (fun i => ∃ k : Nat, k ≤ n ∧ i = .int .i64 k ∧ Hid (x ∉ zs.take k)) (fun i => n - (intOf i).toNat)
  case atStart => exact ⟨0, Nat.zero_le _, rfl, by simp [Hid]⟩
  case round =>
    obtain ⟨k, hk, rfl, hx⟩ := hrel
    have hn := hnh.out
    by_cases hlt : k < n
    · obtain ⟨b, off, rfl, _, hc⟩ := hat (by omega)
      have hcell := hc k (by omega)
      have hkd : decide ((k : Int) < (n : Int)) = true := decide_eq_true (by omega)
      have hsucc : zs.take (k + 1) = zs.take k ++ [zs.getD k ByteArray.empty] := by
        have e : zs.getD k ByteArray.empty = zs[k]'(by omega) := by simp [List.getD_eq_getElem?_getD, show k < zs.length by omega]
        rw [List.take_succ_eq_append_getElem (by omega), e]
      have hsucch : Hid (zs.take (k + 1) = zs.take k ++ [zs.getD k ByteArray.empty]) := hsucc
      have hyes : Hid (zs.getD k ByteArray.empty = x → FindIs zs x (k : Int)) := fun e => .inr ⟨k, by omega, rfl, e⟩
      generalize zs.getD k ByteArray.empty = y at hcell hsucch hyes
      clear hsucc hc hn hat
      cases hxy : (y.toList == x.toList) with
      | true =>
        have e := list_eq hxy
        have hf := hyes.out e
        have hfh : Hid (FindIs zs x (k : Int)) := hf
        clear hf hyes hsucch e hx hnh
        go_wp2_with fail
        refine bodyPost_ret (v := .int .i64 (k : Int)) ?_ rfl ⟨⟨_, rfl, hfh.out⟩, rfl⟩
        simp [results, Tryz.results13, go_sem]
      | false =>
        have hne : y ≠ x := by
          rintro rfl
          simp at hxy
        have hx2 : Hid (x ∉ zs.take (k + 1)) := by
          show x ∉ zs.take (k + 1)
          rw [hsucch.out]
          intro hm
          rcases List.mem_append.1 hm with h | h
          · exact hx.out h
          · exact hne (List.mem_singleton.1 h).symm
        clear hne hyes hsucch hx
        go_wp2_with fail
        go_round
        case rel => exact ⟨k + 1, by omega, by go_num, hx2⟩
        case measure => simp [intOf]; omega
    · have hkn : k = n := by omega
      subst hkn
      have hkd : decide ((k : Int) < (k : Int)) = false := decide_eq_false (by omega)
      have hf : Hid (FindIs zs x (-1)) := by
        refine .inl ⟨rfl, ?_⟩
        have := hx.out
        rw [List.take_of_length_le (by omega)] at this
        exact this
      clear hx hn hnh hat
      go_wp2_with fail
      refine bodyPost_ret (v := .int .i64 (-1)) ?_ rfl ⟨⟨_, rfl, hf.out⟩, rfl⟩
      simp [results, Tryz.results13, go_sem]
set_option maxRecDepth 20000 in
set_option maxHeartbeats 4000000 in
theorem nodes_any (A : Option Addr) (n cap : Nat) (zs : List ByteArray) (w : World) (hn : n = zs.length) (hat : StrsAt w A zs) (hn1 : n ≤ 110) (htot : total zs ≤ 1300) :
    Calls Tryz.prog 11 #[.slice A n cap] w fun e w' => ∃ v, e = .returned v ∧ w'.ownsRow w.heap.size 9 1 v (texts (build zs zs.length)).length ((texts (build zs zs.length)).map Value.string) ∧ Below w.heap.size w w' := by
  obtain ⟨i0, hi, hz0, hz1, hz2⟩ := info_parts info9
  have hnh : Hid (n = zs.length) := hn
  have hth : Hid (total zs ≤ 1300) := htot
  have hath : Hid (StrsAt w A zs) := hat
  clear hn hat htot
  have h1 := row_one w (.string ⟨#[]⟩) 1
  go_enter Tryz.func11, Tryz.ntmps11
  go_wp2_with fail
  go_loopw [3, 4] (fun v i wr => ∃ k : Nat, k ≤ n ∧ i = .int .i64 k ∧ wr.ownsRow w.heap.size 9 1 v (texts (build zs k)).length ((texts (build zs k)).map Value.string) ∧ Below w.heap.size w wr) (fun _ i _ => n - (intOf i).toNat)
  case atStart => exact ⟨0, Nat.zero_le _, rfl, h1, balloc (Below.refl _ _) _⟩
  case round =>
    obtain ⟨k, hk, rfl, hrow, bel⟩ := hrel
    clear h1
    by_cases hlt : k < n
    · have hkd : decide ((k : Int) < (n : Int)) = true := decide_eq_true (by omega)
      have hkz : k < zs.length := by rw [← hnh.out]; exact hlt
      have hG := build_good zs k
      have hF := fine_build zs k
      have hl := build_len zs k (by omega)
      have hs := total_succ hkz
      have hle := total_le zs (k + 1)
      have hth1 := hth.out
      have hta := texts_add zs k
      obtain ⟨b, off, hA, _, hc⟩ := hath.out (by omega)
      have hcell0 := hc k hkz
      generalize hy : zs.getD k ByteArray.empty = y at hs hcell0 hta
      generalize hS : build zs k = S at hG hF hl hta hrow
      have hysz : Hid (S.length + y.size ≤ 1301) := by show S.length + y.size ≤ 1301; omega
      have hysz2 : y.size ≤ 1301 := by omega
      have htah : Hid (texts (build zs (k + 1)) = texts (walkS S y y.size).1) := hta
      have hGh : Hid (TrP.Good zs k S) := hG
      have hFh : Hid (Fine S) := hF
      clear hs hle hth1 hta hl hG hF hy hS hkz hc
      subst hA
      go_wp2_with fail
      go_loopw [3, 5] (fun v i wr2 => ∃ q : Nat, 1 ≤ q ∧ q ≤ y.size + 1 ∧ i = .int .i64 q ∧ wr2.ownsRow w.heap.size 9 1 v (texts (walkS S y (q - 1)).1).length ((texts (walkS S y (q - 1)).1).map Value.string) ∧ Below w.heap.size w wr2) (fun _ i _ => y.size + 1 - (intOf i).toNat)
      case atStart => exact ⟨1, Nat.le_refl _, by omega, rfl, hrow, bel⟩
      case round =>
        obtain ⟨q, hq1, hq2, rfl, hrow2, bel2⟩ := hrel
        clear hrow bel
        have hcell := pw_cell_below bel2 hcell0
        have hik : (k : Int) < (n : Int) := by omega
        by_cases hql : q ≤ y.size
        · have hqd : decide ((q : Int) ≤ (y.size : Int)) = true := decide_eq_true (by omega)
          have hqz : (q : Int) ≤ (y.size : Int) := by omega
          have hqn : q ≤ y.size := hql
          have z1 : IntKind.i64.wrap ((q : Int) + 1) = (q : Int) + 1 := by rw [IntKind.wrap_i64]; omega
          obtain ⟨hw1, hw2, hw3, hw4, hw5⟩ := walk_good hGh.out y (q - 1) (by omega)
          have htw := texts_walk hGh.out hFh.out y (q - 1) (by omega)
          rw [show q - 1 + 1 = q by omega] at htw
          have hTl : (texts (walkS S y (q - 1)).1).length ≤ 1301 := by rw [texts_length]; have := hysz.out; omega
          clear hw1 hw2 hw3 hw4 hw5
          generalize texts (walkS S y (q - 1)).1 = T at hrow2 htw hTl
          obtain ⟨V, cp, rfl, hsT⟩ := own_cells hrow2 (by rw [])
          have hfi := find_big V T.length cp T (y.extract 0 q) _ rfl hsT (by omega)
          clear hsT
          have hTlh : Hid (T.length ≤ 1301) := hTl
          go_wp2_with fail
          refine hfi.mono ?_
          rintro e w3 ⟨⟨r, rfl, hr⟩, hw3⟩
          rw [hw3]
          clear hfi hw3 w3
          obtain ⟨z, hz⟩ : ∃ z, y.extract 0 q = z := ⟨_, rfl⟩
          rw [hz] at hr htw
          have hzh : Hid (y.extract 0 q = z) := hz
          clear hz
          by_cases hr0 : r < 0
          · have hrd : decide (r < 0) = true := decide_eq_true hr0
            have hnm : z ∉ T := by
              rcases hr with ⟨_, h⟩ | ⟨j, _, rfl, _⟩
              · exact h
              · omega
            rw [if_neg hnm] at htw
            have htwh : Hid (texts (walkS S y q).1 = T ++ [z]) := htw
            have hqq : Hid (q + 1 - 1 = q) := by show q + 1 - 1 = q; omega
            have hrow3 := hrow2.alloc (.cells #[.string (y.extract 0 q)] 9)
            have bel3 := balloc bel2 (.cells #[.string (y.extract 0 q)] 9)
            have hsz3 := bel3.size
            have hh3 := heap_new wr (.cells #[.string (y.extract 0 q)] 9)
            clear hr hr0 hnm htw hrow2 bel2
            go_wp2_with (first | (at_builtin; refine wpList_append_own _ rfl (.tmp 31) (.tmp 38) 22 rfl w.heap.size 9 i0 _ 1 16 Tryz.underlying22 hi hz0 hz1 hz2 rfl (by decide) _ T.length (T.map Value.string) rfl hrow3 ⟨wr.heap.size, 0, none⟩ 1 1 [.string (y.extract 0 q)] rfl rfl ?c1 ?c2 ?c3 ?c4 ?c5 ?_))
            case c1 => intro j u hj; rw [Addr.add_lit, Nat.zero_add]; exact cell_of hh3 (by simpa using hj)
            case c2 => intro u hu; simp at hu; subst hu; rfl
            case c3 => have := hTlh.out; unfold maxLen; omega
            case c4 => omega
            case c5 => exact hsz3
            intro v5 w5 own5 hg5 _
            have own6 : w5.ownsRow w.heap.size 9 1 v5 (texts (walkS S y (q + 1 - 1)).1).length ((texts (walkS S y (q + 1 - 1)).1).map Value.string) := by
              rw [hqq.out, htwh.out, List.length_append, List.map_append, ← hzh.out]
              exact own5
            have bel5 : Below w.heap.size w w5 := bel3.grown hg5 hsz3 (own_ge hrow3)
            clear own5 hg5 hrow3 bel3 hh3
            go_wp2_with fail
            go_roundw
            case rel => exact ⟨q + 1, by omega, by omega, by go_num, own6, bel5⟩
            case measure => simp [intOf]; omega
          · have hrd : decide (r < 0) = false := decide_eq_false hr0
            have hm : z ∈ T := by
              rcases hr with ⟨rfl, _⟩ | ⟨j, hj, _, rfl⟩
              · omega
              · rw [List.getD_eq_getElem?_getD, List.getElem?_eq_getElem hj]; exact List.getElem_mem hj
            rw [if_pos hm] at htw
            have hqq : q + 1 - 1 = q := by omega
            clear hr hr0 hm
            go_wp2_with fail
            go_roundw
            case rel => exact ⟨q + 1, by omega, by omega, by go_num, by rw [hqq, htw]; exact hrow2, bel2⟩
            case measure => simp [intOf]; omega
        · have hqd : decide ((q : Int) ≤ (y.size : Int)) = false := decide_eq_false (by omega)
          have hqe : q - 1 = y.size := by omega
          rw [hqe, ← htah.out] at hrow2
          have z1 : IntKind.i64.wrap ((k : Int) + 1) = (k : Int) + 1 := by rw [IntKind.wrap_i64]; omega
          clear hqe htah
          go_wp2_with fail
          go_roundw
          case rel => exact ⟨k + 1, by omega, by go_num, hrow2, bel2⟩
          case measure => simp [intOf]; omega
    · have hkd : decide ((k : Int) < (n : Int)) = false := decide_eq_false (by omega)
      have hkn : k = zs.length := by rw [← hnh.out]; omega
      rw [hkn] at hrow
      obtain ⟨V, cp, rfl, _⟩ := own_form hrow
      clear hkn
      go_wp2_with fail
      go_ret
      exact ⟨_, rfl, hrow, bel⟩
end Go.Proofs.YtdeeeechdlcdbaaGreat.TtN
