/- The walk of TrieNext. -/
import Derived.Test.YtdeeeechdlcdbaaTnP
import Derived.Test.YtdeeeechdlcdbaaReg
import Derived.Deep.QuietTactic
import Derived.BigQuiet
import Derived.IntWalk
set_option linter.unusedVariables false
set_option linter.unusedSimpArgs false
namespace Go.Proofs.Ytdeeeechdlcdbaa.TnW
open Go Go.RowKit Go.Proofs.Ytdeeeechdlcdbaa.Base Go.Proofs.Ytdeeeechdlcdbaa.DiA Go.Proofs.Ytdeeeechdlcdbaa.DiB Go.Proofs.Ytdeeeechdlcdbaa.DiC Go.Proofs.Ytdeeeechdlcdbaa.DiD Go.Proofs.Ytdeeeechdlcdbaa.TrP Go.Proofs.Ytdeeeechdlcdbaa.TrM Go.Proofs.Ytdeeeechdlcdbaa.TrA Go.Proofs.Ytdeeeechdlcdbaa.TrB Go.Proofs.Ytdeeeechdlcdbaa.TrD Go.Proofs.Ytdeeeechdlcdbaa.TrE Go.Proofs.Ytdeeeechdlcdbaa.TgU Go.Proofs.Ytdeeeechdlcdbaa.TrQ Go.Proofs.Ytdeeeechdlcdbaa.TcP Go.Proofs.Ytdeeeechdlcdbaa.TwA Go.Proofs.Ytdeeeechdlcdbaa.TnP
def tnV (px : Nat) (c : Int) (tx ti z : ByteArray) (ix x ll : Nat) (i : Nat) (v : Value) (W : World) : Prop := match i with
  | 0 => v = .bool true
  | 1 => v = .bool true
  | 2 => v = .bool false
  | 3 => v = .bool false
  | 4 => v = .bool true
  | 5 => v = .bool true
  | 6 => v = .int .i64 (x : Int)
  | 7 => v = .int .i64 (ix : Int)
  | 8 => v = .bool false
  | 9 => v = .bool false
  | 10 => v = .int .i64 (x : Int)
  | 11 => v = .pointer (some ⟨px, 0, none⟩)
  | 12 => v = .int .i64 (ll : Int)
  | 13 => v = .bool false
  | 14 => v = .bool false
  | 15 => v = .bool false
  | 16 => v = .pointer (some ⟨px, 0, none⟩)
  | 17 => v = .int .i64 (x : Int)
  | 18 => v = .string tx
  | 19 => v = .pointer (some ⟨px, 0, none⟩)
  | 20 => v = .int .i64 (ix : Int)
  | 21 => v = .string ti
  | 22 => v = .int .u8 c
  | 23 => ∃ b, v = .slice (some ⟨b, 0, none⟩) 1 1 ∧ W.cell? ⟨b, 0, none⟩ = some (.int .u8 c)
  | 24 => v = .string z
  | 25 => v = .string tx
  | 26 => v = .bool false
  | 27 => v = .bool false
  | 28 => v = .bool false
  | 29 => v = .bool false
  | _ => True

set_option maxHeartbeats 400000 in
theorem next_few (A : Option Addr) (n cap : Nat) (c : Int) (w : World) (hf : Calls Try.prog 23 #[.slice A n cap] w fun e w' => e = .returned (.bool false) ∧ w' = w) :
    Calls Try.prog 6 #[.slice A n cap, .int .u8 c] w fun e w' => e = .returned (.bool true) ∧ Below w.heap.size w w' := by
  go_enter Try.func6, Try.ntmps6
  go_wp2_with fail
  refine hf.mono ?_
  rintro e w1 ⟨rfl, hw⟩
  rw [hw]
  clear hf hw
  go_wp2_with fail
  refine (alive_call _).mono ?_
  rintro e w2 ⟨rfl, b2⟩
  go_wp2_with fail
  go_ret
  exact ⟨rfl, b2⟩
theorem take_mem {L : List Int} {c : Int} {j : Nat} (h : j < L.length) : decide (c ∈ L.take (j + 1)) = (decide (c ∈ L.take j) || (L.getD j 0 == c)) := by
  rw [take_getD L 0 h]
  rw [Bool.eq_iff_iff]
  simp
  constructor
  · rintro (h | h)
    · exact .inl h
    · exact .inr h.symm
  · rintro (h | h)
    · exact .inl h
    · exact .inr h.symm
set_option maxRecDepth 20000 in
set_option maxHeartbeats 4000000 in
theorem next_in (A : Option Addr) (n cap : Nat) (zs : List ByteArray) (c : Int) (hc : 0 ≤ c ∧ c ≤ 255) (w : World) (hf : Calls Try.prog 23 #[.slice A n cap] w fun e w' => e = .returned (.bool true) ∧ w' = w)
    (hn : n = zs.length) (hat : StrsAt w A zs) (hn1 : n ≤ 110) (htot : total zs ≤ 1300) :
    Calls Try.prog 6 #[.slice A n cap, .int .u8 c] w fun e w' => e = .returned (.bool true) ∧ Below w.heap.size w w' := by
  have hnh : Hid (n = zs.length) := hn
  have hch : Hid (0 ≤ c ∧ c ≤ 255) := hc
  clear hn hc
  go_enter Try.func6, Try.ntmps6
  go_wp2_with fail
  refine hf.mono ?_
  rintro e w1 ⟨rfl, hw⟩
  rw [hw]
  clear hf hw w1
  go_wp2_with fail
  refine (alive_call _).mono ?_
  rintro e w1 ⟨rfl, b1⟩
  have hat1 := hat.below b1
  have bel := b1
  clear b1
  go_wp2_with fail
  refine (make_any A n cap zs w1 hnh.out hat1 (by omega)).mono ?_
  rintro e w2 ⟨b2, ⟨_, rfl⟩ | ⟨okd, pd, rfl, _, hdt⟩⟩
  · have bel2 := bstep bel b2
    clear hat1 bel b2 hat
    go_wp2_with fail
    go_ret
    exact ⟨rfl, bel2⟩
  have bel2 := bstep bel b2
  have hdist : Hid (∀ j k, j < k → k < zs.length → zs.getD j ByteArray.empty ≠ zs.getD k ByteArray.empty) := okD_apart okd
  clear hat1 bel b2 okd hat
  have hzl : zs.length ≤ 1000 := by rw [← hnh.out]; omega
  go_wp2_with fail
  refine (TrD.new_any _ pd zs w2 hdt hzl (by omega)).mono ?_
  rintro e w3 ⟨b3, px, NX, mx, rfl, hX, hNX, hlX⟩
  have bel3 := bstep bel2 b3
  clear hdt bel2 b3 hzl
  have he := (even_build zs hdist.out zs.length (Nat.le_refl _)).1.fwd
  have hg := (build_good zs zs.length).sons
  have hsm0 : Small 1300 (build zs zs.length) := small_build zs (fun k => Nat.le_trans (size_total zs k) htot) _
  have eX : NX.length = (build zs zs.length).length := by rw [← hNX, List.length_map]
  generalize hX0 : build zs zs.length = X at hNX he hg eX hsm0
  have hsm : Hid (Small 1300 X) := hsm0
  have hNXh : Hid (NX.map (·.p) = X) := hNX
  have eXh : Hid (NX.length = X.length) := eX
  have heh : Hid (Fwd X) := he
  have hgh : Hid (∀ i, i < X.length → ∀ c x, (X.getD i noPn).sons c = some x → x < X.length ∧ (X.getD x noPn).text.data.toList = (X.getD i noPn).text.data.toList ++ [UInt8.ofNat c.toNat]) := hg
  have hXl : NX.length ≤ 1301 := by omega
  clear hX0 hsm0 he hg hNX eX hlX hdist htot hnh
  go_wp2_with fail
  go_loopw [7] (fun i wr => ∃ q : Nat, q ≤ NX.length ∧ i = .int .i64 q ∧ Below w.heap.size w wr ∧ TrieAt w2.heap.size wr px NX mx) (fun i _ => NX.length - (intOf i).toNat)
  case atStart => exact ⟨0, Nat.zero_le _, rfl, bel3, hX⟩
  case round =>
    obtain ⟨i, hi, rfl, belr, tX⟩ := hrel
    clear hX bel3
    have hlenX := len_any tX
    by_cases hlt : i < NX.length
    · have hkd2 : decide ((i : Int) < (NX.length : Int)) = true := decide_eq_true (by omega)
      have hil : i < X.length := by rw [← eXh.out]; exact hlt
      obtain ⟨L, hL⟩ : ∃ L, sonsL (X.getD i noPn).sons = L := ⟨_, rfl⟩
      have hLl : L.length ≤ 256 := by rw [← hL]; exact sonsL_len _
      have hLm : c ∈ L ↔ ((X.getD i noPn).sons c).isSome = true := by
        rw [← hL, mem_sonsL]
        exact ⟨fun h => h.2, fun h => ⟨hch.out, h⟩⟩
      go_wp2_with fail
      refine hlenX.mono ?_
      rintro e wq ⟨rfl, hwq⟩
      rw [hwq]
      clear hwq wq hlenX
      have hlh : Hid (L.length ≤ 256) := hLl
      have hih : Hid (i < X.length) := hil
      obtain ⟨x, b, hxb, hnx⟩ : ∃ (x : Nat) (b : Bool), Hid ((b = true ∧ (X.getD i noPn).sons c = some x) ∨ (b = false ∧ x = 0 ∧ (X.getD i noPn).sons c = none)) ∧ Calls Try.prog 35 #[.pointer (some ⟨px, 0, none⟩), .int .i64 (i : Int), .int .u8 c] wr fun e w' => e = .returned (.tuple #[.int .i64 (x : Int), .bool b]) ∧ Below wr.heap.size wr w' := by
        cases hs : (X.getD i noPn).sons c with
        | some x => exact ⟨x, true, .inl ⟨rfl, rfl⟩, next_some tX (by omega) hNXh.out hil hch.out hs⟩
        | none => exact ⟨0, false, .inr ⟨rfl, rfl, rfl⟩, next_none tX (by omega) hNXh.out hil hch.out hs⟩
      have hLb : Hid (decide (c ∈ L) = b) := by
        show decide (c ∈ L) = b
        rcases hxb.out with ⟨rfl, hs⟩ | ⟨rfl, _, hs⟩
        · exact decide_eq_true (hLm.2 (by rw [hs]; rfl))
        · exact decide_eq_false (fun h => by have := hLm.1 h; rw [hs] at this; cases this)
      clear hLm
      go_wp2_with fail
      refine hnx.mono ?_
      rintro e w4 ⟨rfl, b4⟩
      have belr4 := bstep belr b4
      have tX4 := tX.below b4
      clear hnx belr tX b4
      have cS := sons_call tX4 (by omega) hNXh.out i hil hL
      clear hil hL
      go_wp2_with fail
      refine cS.mono ?_
      rintro e w5 ⟨V, cp, rfl, hV, b5⟩
      have belr5 := bstep belr4 b5
      have htx := tX4.below b5
      clear cS tX4 belr4 b5
      go_wp2_with fail
      go_loop [10, 46] (fun d i => ∃ j : Nat, j ≤ L.length ∧ i = .int .i64 j ∧ d = .bool (decide (c ∈ L.take j))) (fun _ i => L.length - (intOf i).toNat)
      case atStart => exact ⟨0, Nat.zero_le _, rfl, rfl⟩
      case round =>
        obtain ⟨j, hj, rfl, rfl⟩ := hrel
        by_cases hjl : j < L.length
        · have hjd : decide ((j : Int) < (L.length : Int)) = true := decide_eq_true (by omega)
          obtain ⟨g, rfl, hcs⟩ := hV.out (by omega)
          have c1 := hcs j hjl
          have htm := take_mem (c := c) hjl
          have z1 : IntKind.i64.wrap ((j : Int) + 1) = (j : Int) + 1 := by rw [IntKind.wrap_i64]; omega
          generalize L.getD j 0 = a at c1 htm
          generalize decide (c ∈ L.take j) = B at htm
          have htmh : Hid (decide (c ∈ L.take (j + 1)) = (B || (a == c))) := htm
          clear htm hcs
          cases B with
          | true =>
            go_wp2_with fail
            go_round
            case rel => exact ⟨j + 1, by omega, by go_num, by rw [htmh.out]; rfl⟩
            case measure => simp [intOf]; omega
          | false =>
            go_wp2_with fail
            go_round
            case rel => exact ⟨j + 1, by omega, by go_num, by rw [htmh.out]; first | rfl | simp⟩
            case measure => simp [intOf]; omega
        · have hjd : decide ((j : Int) < (L.length : Int)) = false := decide_eq_false (by omega)
          have hjt : L.take j = L := List.take_of_length_le (by omega)
          rw [hjt, hLb.out]
          clear hjt hLb hV
          rcases hxb.out with ⟨rfl, hs⟩ | ⟨rfl, rfl, hs⟩
          · obtain ⟨hxl, htt⟩ := hgh.out i hih.out c x hs
            have hfw := heh.out i hih.out c x hs
            have hil := hih.out
            obtain ⟨tx, htx1⟩ : ∃ tx, Hid ((X.getD x noPn).text = tx) := ⟨_, Lib.hid rfl⟩
            obtain ⟨ti, hti1⟩ : ∃ ti, Hid ((X.getD i noPn).text = ti) := ⟨_, Lib.hid rfl⟩
            have hteq : tx = ti ++ ⟨#[UInt8.ofNat c.toNat]⟩ := by
              apply data_inj
              rw [← htx1.out, htt, hti1.out]
              simp
            have t1 : decide ((x : Int) ≤ (i : Int)) = false := decide_eq_false (by omega)
            have t1n : decide (x ≤ i) = false := decide_eq_false (by omega)
            have hxN : x < NX.length := by rw [eXh.out]; exact hxl
            have t2 : decide ((x : Int) ≥ (NX.length : Int)) = false := decide_eq_false (by omega)
            have t2n : decide (NX.length ≤ x) = false := decide_eq_false (by omega)
            obtain ⟨z, hz⟩ : ∃ z, strOfNums [c] = z := ⟨_, rfl⟩
            have hteqh : Hid (tx = ti ++ z) := by show tx = ti ++ z; rw [← hz]; exact hteq
            have hcg : Hid (∀ (W : World) (b : Nat), W.cell? ⟨b, 0, none⟩ = some (.int .u8 c) → (convert 41 9 (.slice (some ⟨b, 0, none⟩) 1 1)).run Try.prog W = .ok (.string z) W) := fun W b h => by rw [← hz]; exact conv1 W b c h
            have hzs : z.size = 1 := by rw [← hz]; rfl
            have htis := hsm.out i hil
            rw [hti1.out] at htis
            have hla : Hid (ti.size + z.size ≤ maxLen) := by show ti.size + z.size ≤ maxLen; rw [hzs]; unfold maxLen; omega
            clear hz hzs htis
            generalize hL2 : NX.length = ll at t2 t2n hxN
            have hll : Hid (NX.length = ll) := hL2
            clear hxb hs htt hfw hteq hgh heh hlh hih hch hxN
            go_wp2_with fail
            refine Reg.wp_region_lists (fun W W' => Below W.heap.size W W') (tnV px c tx ti z i x ll)
              [some 57, some 58, some 59, some 60, some 61, some 62, some 63, some 64, some 65, some 66, some 67, some 68, some 69, some 70, some 71, some 72, some 73, some 74, some 75, some 76, some 77, some 78, some 79, some 80, some 81, some 82, some 83, some 84, some 85, some 86]
              [[], [], [0, 1], [2], [3], [4, 3, 3], [5], [5], [6, 7, 5], [8, 5, 5], [9], [9], [11, 9, 9], [10, 12, 9], [9, 13, 5], [14, 12, 5], [15], [15], [16, 17, 15, 15], [15], [15], [19, 20, 18, 15], [15], [22, 15], [23, 15], [21, 24, 15], [18, 25, 15], [15, 26, 5], [5, 27, 3], [3, 28]]
              (by kernel_rfl) (by kernel_rfl) (by kernel_rfl) (fun _ => Below.refl _ _) (fun _ _ _ h k => bstep h k) ?_ ?_ ?_
            · intro i v W W' h k
              unfold tnV at h ⊢
              split at h <;> first | exact h | (obtain ⟨b, e, hc⟩ := h; exact ⟨b, e, pw_cell_below k hc⟩)
            · refine ⟨?_, ?_, ?_, ?_, ?_, ?_, ?_, ?_, ?_, ?_, ?_, ?_, ?_, ?_, ?_, ?_, ?_, ?_, ?_, ?_, ?_, ?_, ?_, ?_, ?_, ?_, ?_, ?_, ?_, ?_, trivial⟩
              · intro vals W K hR hV hK
                simp only [Reg.putS, List.foldl, List.headD, List.tail, List.getD_cons_zero, List.getD_cons_succ, Act.put, List.setIfInBounds_toArray, List.set_cons_zero, List.set_cons_succ] at hK ⊢
                go_simp
                first
                  | exact hK _ _ (Below.refl _ _) rfl
                  | (rw [if_pos (by omega)]; exact hK _ _ (Below.refl _ _) rfl)
                  | (rw [dif_pos (by omega)]; exact hK _ _ (Below.refl _ _) rfl)
                  | (rw [if_neg (by omega)]; exact hK _ _ (Below.refl _ _) rfl)
              · intro vals W K hR hV hK
                simp only [Reg.putS, List.foldl, List.headD, List.tail, List.getD_cons_zero, List.getD_cons_succ, Act.put, List.setIfInBounds_toArray, List.set_cons_zero, List.set_cons_succ] at hK ⊢
                go_simp
                first
                  | exact hK _ _ (Below.refl _ _) rfl
                  | (rw [if_pos (by omega)]; exact hK _ _ (Below.refl _ _) rfl)
                  | (rw [dif_pos (by omega)]; exact hK _ _ (Below.refl _ _) rfl)
                  | (rw [if_neg (by omega)]; exact hK _ _ (Below.refl _ _) rfl)
              · intro vals W K hR hV hK
                have d0 := hV 0 (by simp)
                simp only [tnV] at d0
                have d1 := hV 1 (by simp)
                simp only [tnV] at d1
                simp only [Reg.putS, List.foldl, List.headD, List.tail, List.getD_cons_zero, List.getD_cons_succ, Act.put, List.setIfInBounds_toArray, List.set_cons_zero, List.set_cons_succ, d0, d1] at hK ⊢
                go_simp
                first
                  | exact hK _ _ (Below.refl _ _) rfl
                  | (rw [if_pos (by omega)]; exact hK _ _ (Below.refl _ _) rfl)
                  | (rw [dif_pos (by omega)]; exact hK _ _ (Below.refl _ _) rfl)
                  | (rw [if_neg (by omega)]; exact hK _ _ (Below.refl _ _) rfl)
              · intro vals W K hR hV hK
                have d2 := hV 2 (by simp)
                simp only [tnV] at d2
                simp only [Reg.putS, List.foldl, List.headD, List.tail, List.getD_cons_zero, List.getD_cons_succ, Act.put, List.setIfInBounds_toArray, List.set_cons_zero, List.set_cons_succ, d2] at hK ⊢
                go_simp
                first
                  | exact hK _ _ (Below.refl _ _) rfl
                  | (rw [if_pos (by omega)]; exact hK _ _ (Below.refl _ _) rfl)
                  | (rw [dif_pos (by omega)]; exact hK _ _ (Below.refl _ _) rfl)
                  | (rw [if_neg (by omega)]; exact hK _ _ (Below.refl _ _) rfl)
              · intro vals W K hR hV hK
                have d3 := hV 3 (by simp)
                simp only [tnV] at d3
                simp only [Reg.putS, List.foldl, List.headD, List.tail, List.getD_cons_zero, List.getD_cons_succ, Act.put, List.setIfInBounds_toArray, List.set_cons_zero, List.set_cons_succ, d3] at hK ⊢
                go_simp
                first
                  | exact hK _ _ (Below.refl _ _) rfl
                  | (rw [if_pos (by omega)]; exact hK _ _ (Below.refl _ _) rfl)
                  | (rw [dif_pos (by omega)]; exact hK _ _ (Below.refl _ _) rfl)
                  | (rw [if_neg (by omega)]; exact hK _ _ (Below.refl _ _) rfl)
              · intro vals W K hR hV hK
                have d3 := hV 3 (by simp)
                simp only [tnV] at d3
                have d4 := hV 4 (by simp)
                simp only [tnV] at d4
                simp only [Reg.putS, List.foldl, List.headD, List.tail, List.getD_cons_zero, List.getD_cons_succ, Act.put, List.setIfInBounds_toArray, List.set_cons_zero, List.set_cons_succ, d3, d4] at hK ⊢
                go_simp
                first
                  | exact hK _ _ (Below.refl _ _) rfl
                  | (rw [if_pos (by omega)]; exact hK _ _ (Below.refl _ _) rfl)
                  | (rw [dif_pos (by omega)]; exact hK _ _ (Below.refl _ _) rfl)
                  | (rw [if_neg (by omega)]; exact hK _ _ (Below.refl _ _) rfl)
              · intro vals W K hR hV hK
                have d5 := hV 5 (by simp)
                simp only [tnV] at d5
                simp only [Reg.putS, List.foldl, List.headD, List.tail, List.getD_cons_zero, List.getD_cons_succ, Act.put, List.setIfInBounds_toArray, List.set_cons_zero, List.set_cons_succ, d5] at hK ⊢
                go_simp
                first
                  | exact hK _ _ (Below.refl _ _) rfl
                  | (rw [if_pos (by omega)]; exact hK _ _ (Below.refl _ _) rfl)
                  | (rw [dif_pos (by omega)]; exact hK _ _ (Below.refl _ _) rfl)
                  | (rw [if_neg (by omega)]; exact hK _ _ (Below.refl _ _) rfl)
              · intro vals W K hR hV hK
                have d5 := hV 5 (by simp)
                simp only [tnV] at d5
                simp only [Reg.putS, List.foldl, List.headD, List.tail, List.getD_cons_zero, List.getD_cons_succ, Act.put, List.setIfInBounds_toArray, List.set_cons_zero, List.set_cons_succ, d5] at hK ⊢
                go_simp
                first
                  | exact hK _ _ (Below.refl _ _) rfl
                  | (rw [if_pos (by omega)]; exact hK _ _ (Below.refl _ _) rfl)
                  | (rw [dif_pos (by omega)]; exact hK _ _ (Below.refl _ _) rfl)
                  | (rw [if_neg (by omega)]; exact hK _ _ (Below.refl _ _) rfl)
              · intro vals W K hR hV hK
                have d5 := hV 5 (by simp)
                simp only [tnV] at d5
                have d6 := hV 6 (by simp)
                simp only [tnV] at d6
                have d7 := hV 7 (by simp)
                simp only [tnV] at d7
                simp only [Reg.putS, List.foldl, List.headD, List.tail, List.getD_cons_zero, List.getD_cons_succ, Act.put, List.setIfInBounds_toArray, List.set_cons_zero, List.set_cons_succ, d5, d6, d7] at hK ⊢
                go_simp
                first
                  | exact hK _ _ (Below.refl _ _) rfl
                  | (rw [if_pos (by omega)]; exact hK _ _ (Below.refl _ _) rfl)
                  | (rw [dif_pos (by omega)]; exact hK _ _ (Below.refl _ _) rfl)
                  | (rw [if_neg (by omega)]; exact hK _ _ (Below.refl _ _) rfl)
              · intro vals W K hR hV hK
                have d5 := hV 5 (by simp)
                simp only [tnV] at d5
                have d8 := hV 8 (by simp)
                simp only [tnV] at d8
                simp only [Reg.putS, List.foldl, List.headD, List.tail, List.getD_cons_zero, List.getD_cons_succ, Act.put, List.setIfInBounds_toArray, List.set_cons_zero, List.set_cons_succ, d5, d8] at hK ⊢
                go_simp
                first
                  | exact hK _ _ (Below.refl _ _) rfl
                  | (rw [if_pos (by omega)]; exact hK _ _ (Below.refl _ _) rfl)
                  | (rw [dif_pos (by omega)]; exact hK _ _ (Below.refl _ _) rfl)
                  | (rw [if_neg (by omega)]; exact hK _ _ (Below.refl _ _) rfl)
              · intro vals W K hR hV hK
                have d9 := hV 9 (by simp)
                simp only [tnV] at d9
                simp only [Reg.putS, List.foldl, List.headD, List.tail, List.getD_cons_zero, List.getD_cons_succ, Act.put, List.setIfInBounds_toArray, List.set_cons_zero, List.set_cons_succ, d9] at hK ⊢
                go_simp
                first
                  | exact hK _ _ (Below.refl _ _) rfl
                  | (rw [if_pos (by omega)]; exact hK _ _ (Below.refl _ _) rfl)
                  | (rw [dif_pos (by omega)]; exact hK _ _ (Below.refl _ _) rfl)
                  | (rw [if_neg (by omega)]; exact hK _ _ (Below.refl _ _) rfl)
              · intro vals W K hR hV hK
                have d9 := hV 9 (by simp)
                simp only [tnV] at d9
                simp only [Reg.putS, List.foldl, List.headD, List.tail, List.getD_cons_zero, List.getD_cons_succ, Act.put, List.setIfInBounds_toArray, List.set_cons_zero, List.set_cons_succ, d9] at hK ⊢
                go_simp
                first
                  | exact hK _ _ (Below.refl _ _) rfl
                  | (rw [if_pos (by omega)]; exact hK _ _ (Below.refl _ _) rfl)
                  | (rw [dif_pos (by omega)]; exact hK _ _ (Below.refl _ _) rfl)
                  | (rw [if_neg (by omega)]; exact hK _ _ (Below.refl _ _) rfl)
              · intro vals W K hR hV hK
                have d9 := hV 9 (by simp)
                simp only [tnV] at d9
                have d11 := hV 11 (by simp)
                simp only [tnV] at d11
                simp only [Reg.putS, List.foldl, List.headD, List.tail, List.getD_cons_zero, List.getD_cons_succ, Act.put, List.setIfInBounds_toArray, List.set_cons_zero, List.set_cons_succ, d9, d11] at hK ⊢
                have htW := htx.below (below_undrew hR)
                have hlW := len_any htW
                rw [hll.out] at hlW
                go_simp
                refine hlW.mono ?_
                rintro e w2 ⟨rfl, hw⟩
                rw [hw]
                exact hK _ _ (Below.refl _ _) rfl
              · intro vals W K hR hV hK
                have d9 := hV 9 (by simp)
                simp only [tnV] at d9
                have d10 := hV 10 (by simp)
                simp only [tnV] at d10
                have d12 := hV 12 (by simp)
                simp only [tnV] at d12
                simp only [Reg.putS, List.foldl, List.headD, List.tail, List.getD_cons_zero, List.getD_cons_succ, Act.put, List.setIfInBounds_toArray, List.set_cons_zero, List.set_cons_succ, d9, d10, d12] at hK ⊢
                go_simp
                first
                  | exact hK _ _ (Below.refl _ _) rfl
                  | (rw [if_pos (by omega)]; exact hK _ _ (Below.refl _ _) rfl)
                  | (rw [dif_pos (by omega)]; exact hK _ _ (Below.refl _ _) rfl)
                  | (rw [if_neg (by omega)]; exact hK _ _ (Below.refl _ _) rfl)
              · intro vals W K hR hV hK
                have d5 := hV 5 (by simp)
                simp only [tnV] at d5
                have d9 := hV 9 (by simp)
                simp only [tnV] at d9
                have d13 := hV 13 (by simp)
                simp only [tnV] at d13
                simp only [Reg.putS, List.foldl, List.headD, List.tail, List.getD_cons_zero, List.getD_cons_succ, Act.put, List.setIfInBounds_toArray, List.set_cons_zero, List.set_cons_succ, d5, d9, d13] at hK ⊢
                go_simp
                first
                  | exact hK _ _ (Below.refl _ _) rfl
                  | (rw [if_pos (by omega)]; exact hK _ _ (Below.refl _ _) rfl)
                  | (rw [dif_pos (by omega)]; exact hK _ _ (Below.refl _ _) rfl)
                  | (rw [if_neg (by omega)]; exact hK _ _ (Below.refl _ _) rfl)
              · intro vals W K hR hV hK
                have d5 := hV 5 (by simp)
                simp only [tnV] at d5
                have d12 := hV 12 (by simp)
                simp only [tnV] at d12
                have d14 := hV 14 (by simp)
                simp only [tnV] at d14
                simp only [Reg.putS, List.foldl, List.headD, List.tail, List.getD_cons_zero, List.getD_cons_succ, Act.put, List.setIfInBounds_toArray, List.set_cons_zero, List.set_cons_succ, d5, d12, d14] at hK ⊢
                go_simp
                first
                  | exact hK _ _ (Below.refl _ _) rfl
                  | (rw [if_pos (by omega)]; exact hK _ _ (Below.refl _ _) rfl)
                  | (rw [dif_pos (by omega)]; exact hK _ _ (Below.refl _ _) rfl)
                  | (rw [if_neg (by omega)]; exact hK _ _ (Below.refl _ _) rfl)
              · intro vals W K hR hV hK
                have d15 := hV 15 (by simp)
                simp only [tnV] at d15
                simp only [Reg.putS, List.foldl, List.headD, List.tail, List.getD_cons_zero, List.getD_cons_succ, Act.put, List.setIfInBounds_toArray, List.set_cons_zero, List.set_cons_succ, d15] at hK ⊢
                go_simp
                first
                  | exact hK _ _ (Below.refl _ _) rfl
                  | (rw [if_pos (by omega)]; exact hK _ _ (Below.refl _ _) rfl)
                  | (rw [dif_pos (by omega)]; exact hK _ _ (Below.refl _ _) rfl)
                  | (rw [if_neg (by omega)]; exact hK _ _ (Below.refl _ _) rfl)
              · intro vals W K hR hV hK
                have d15 := hV 15 (by simp)
                simp only [tnV] at d15
                simp only [Reg.putS, List.foldl, List.headD, List.tail, List.getD_cons_zero, List.getD_cons_succ, Act.put, List.setIfInBounds_toArray, List.set_cons_zero, List.set_cons_succ, d15] at hK ⊢
                go_simp
                first
                  | exact hK _ _ (Below.refl _ _) rfl
                  | (rw [if_pos (by omega)]; exact hK _ _ (Below.refl _ _) rfl)
                  | (rw [dif_pos (by omega)]; exact hK _ _ (Below.refl _ _) rfl)
                  | (rw [if_neg (by omega)]; exact hK _ _ (Below.refl _ _) rfl)
              · intro vals W K hR hV hK
                have d15 := hV 15 (by simp)
                simp only [tnV] at d15
                have d16 := hV 16 (by simp)
                simp only [tnV] at d16
                have d17 := hV 17 (by simp)
                simp only [tnV] at d17
                simp only [Reg.putS, List.foldl, List.headD, List.tail, List.getD_cons_zero, List.getD_cons_succ, Act.put, List.setIfInBounds_toArray, List.set_cons_zero, List.set_cons_succ, d15, d16, d17] at hK ⊢
                have htW := htx.below (below_undrew hR)
                go_simp
                refine (text_in htW (by omega) hNXh.out x hxl).mono ?_
                rintro e w2 ⟨rfl, hb⟩
                rw [htx1.out]
                exact hK _ _ hb rfl
              · intro vals W K hR hV hK
                have d15 := hV 15 (by simp)
                simp only [tnV] at d15
                simp only [Reg.putS, List.foldl, List.headD, List.tail, List.getD_cons_zero, List.getD_cons_succ, Act.put, List.setIfInBounds_toArray, List.set_cons_zero, List.set_cons_succ, d15] at hK ⊢
                go_simp
                first
                  | exact hK _ _ (Below.refl _ _) rfl
                  | (rw [if_pos (by omega)]; exact hK _ _ (Below.refl _ _) rfl)
                  | (rw [dif_pos (by omega)]; exact hK _ _ (Below.refl _ _) rfl)
                  | (rw [if_neg (by omega)]; exact hK _ _ (Below.refl _ _) rfl)
              · intro vals W K hR hV hK
                have d15 := hV 15 (by simp)
                simp only [tnV] at d15
                simp only [Reg.putS, List.foldl, List.headD, List.tail, List.getD_cons_zero, List.getD_cons_succ, Act.put, List.setIfInBounds_toArray, List.set_cons_zero, List.set_cons_succ, d15] at hK ⊢
                go_simp
                first
                  | exact hK _ _ (Below.refl _ _) rfl
                  | (rw [if_pos (by omega)]; exact hK _ _ (Below.refl _ _) rfl)
                  | (rw [dif_pos (by omega)]; exact hK _ _ (Below.refl _ _) rfl)
                  | (rw [if_neg (by omega)]; exact hK _ _ (Below.refl _ _) rfl)
              · intro vals W K hR hV hK
                have d15 := hV 15 (by simp)
                simp only [tnV] at d15
                have d18 := hV 18 (by simp)
                simp only [tnV] at d18
                have d19 := hV 19 (by simp)
                simp only [tnV] at d19
                have d20 := hV 20 (by simp)
                simp only [tnV] at d20
                simp only [Reg.putS, List.foldl, List.headD, List.tail, List.getD_cons_zero, List.getD_cons_succ, Act.put, List.setIfInBounds_toArray, List.set_cons_zero, List.set_cons_succ, d15, d18, d19, d20] at hK ⊢
                have htW := htx.below (below_undrew hR)
                go_simp
                refine (text_in htW (by omega) hNXh.out i hil).mono ?_
                rintro e w2 ⟨rfl, hb⟩
                rw [hti1.out]
                exact hK _ _ hb rfl
              · intro vals W K hR hV hK
                have d15 := hV 15 (by simp)
                simp only [tnV] at d15
                simp only [Reg.putS, List.foldl, List.headD, List.tail, List.getD_cons_zero, List.getD_cons_succ, Act.put, List.setIfInBounds_toArray, List.set_cons_zero, List.set_cons_succ, d15] at hK ⊢
                go_simp
                first
                  | exact hK _ _ (Below.refl _ _) rfl
                  | (rw [if_pos (by omega)]; exact hK _ _ (Below.refl _ _) rfl)
                  | (rw [dif_pos (by omega)]; exact hK _ _ (Below.refl _ _) rfl)
                  | (rw [if_neg (by omega)]; exact hK _ _ (Below.refl _ _) rfl)
              · intro vals W K hR hV hK
                have d15 := hV 15 (by simp)
                simp only [tnV] at d15
                have d22 := hV 22 (by simp)
                simp only [tnV] at d22
                simp only [Reg.putS, List.foldl, List.headD, List.tail, List.getD_cons_zero, List.getD_cons_succ, Act.put, List.setIfInBounds_toArray, List.set_cons_zero, List.set_cons_succ, d15, d22] at hK ⊢
                go_simp
                exact hK _ _ (balloc (Below.refl _ _) _) ⟨_, rfl, by simp⟩
              · intro vals W K hR hV hK
                have d15 := hV 15 (by simp)
                simp only [tnV] at d15
                have d23 := hV 23 (by simp)
                simp only [tnV] at d23
                obtain ⟨b, d23, hcell⟩ := d23
                simp only [Reg.putS, List.foldl, List.headD, List.tail, List.getD_cons_zero, List.getD_cons_succ, Act.put, List.setIfInBounds_toArray, List.set_cons_zero, List.set_cons_succ, d15, d23] at hK ⊢
                have hcv := hcg.out W b hcell
                go_simp
                exact hK _ _ (Below.refl _ _) rfl
              · intro vals W K hR hV hK
                have d15 := hV 15 (by simp)
                simp only [tnV] at d15
                have d21 := hV 21 (by simp)
                simp only [tnV] at d21
                have d24 := hV 24 (by simp)
                simp only [tnV] at d24
                simp only [Reg.putS, List.foldl, List.headD, List.tail, List.getD_cons_zero, List.getD_cons_succ, Act.put, List.setIfInBounds_toArray, List.set_cons_zero, List.set_cons_succ, d15, d21, d24] at hK ⊢
                have hlb : ¬ (9223372036854775807 < ti.size + z.size) := by have := hla.out; unfold maxLen at this; omega
                go_simp
                rw [← hteqh.out]
                exact hK _ _ (Below.refl _ _) rfl
              · intro vals W K hR hV hK
                have d15 := hV 15 (by simp)
                simp only [tnV] at d15
                have d18 := hV 18 (by simp)
                simp only [tnV] at d18
                have d25 := hV 25 (by simp)
                simp only [tnV] at d25
                simp only [Reg.putS, List.foldl, List.headD, List.tail, List.getD_cons_zero, List.getD_cons_succ, Act.put, List.setIfInBounds_toArray, List.set_cons_zero, List.set_cons_succ, d15, d18, d25] at hK ⊢
                go_simp
                first
                  | exact hK _ _ (Below.refl _ _) rfl
                  | (rw [if_pos (by omega)]; exact hK _ _ (Below.refl _ _) rfl)
                  | (rw [dif_pos (by omega)]; exact hK _ _ (Below.refl _ _) rfl)
                  | (rw [if_neg (by omega)]; exact hK _ _ (Below.refl _ _) rfl)
              · intro vals W K hR hV hK
                have d5 := hV 5 (by simp)
                simp only [tnV] at d5
                have d15 := hV 15 (by simp)
                simp only [tnV] at d15
                have d26 := hV 26 (by simp)
                simp only [tnV] at d26
                simp only [Reg.putS, List.foldl, List.headD, List.tail, List.getD_cons_zero, List.getD_cons_succ, Act.put, List.setIfInBounds_toArray, List.set_cons_zero, List.set_cons_succ, d5, d15, d26] at hK ⊢
                go_simp
                first
                  | exact hK _ _ (Below.refl _ _) rfl
                  | (rw [if_pos (by omega)]; exact hK _ _ (Below.refl _ _) rfl)
                  | (rw [dif_pos (by omega)]; exact hK _ _ (Below.refl _ _) rfl)
                  | (rw [if_neg (by omega)]; exact hK _ _ (Below.refl _ _) rfl)
              · intro vals W K hR hV hK
                have d3 := hV 3 (by simp)
                simp only [tnV] at d3
                have d5 := hV 5 (by simp)
                simp only [tnV] at d5
                have d27 := hV 27 (by simp)
                simp only [tnV] at d27
                simp only [Reg.putS, List.foldl, List.headD, List.tail, List.getD_cons_zero, List.getD_cons_succ, Act.put, List.setIfInBounds_toArray, List.set_cons_zero, List.set_cons_succ, d3, d5, d27] at hK ⊢
                go_simp
                first
                  | exact hK _ _ (Below.refl _ _) rfl
                  | (rw [if_pos (by omega)]; exact hK _ _ (Below.refl _ _) rfl)
                  | (rw [dif_pos (by omega)]; exact hK _ _ (Below.refl _ _) rfl)
                  | (rw [if_neg (by omega)]; exact hK _ _ (Below.refl _ _) rfl)
              · intro vals W K hR hV hK
                have d3 := hV 3 (by simp)
                simp only [tnV] at d3
                have d28 := hV 28 (by simp)
                simp only [tnV] at d28
                simp only [Reg.putS, List.foldl, List.headD, List.tail, List.getD_cons_zero, List.getD_cons_succ, Act.put, List.setIfInBounds_toArray, List.set_cons_zero, List.set_cons_succ, d3, d28] at hK ⊢
                go_simp
                first
                  | exact hK _ _ (Below.refl _ _) rfl
                  | (rw [if_pos (by omega)]; exact hK _ _ (Below.refl _ _) rfl)
                  | (rw [dif_pos (by omega)]; exact hK _ _ (Below.refl _ _) rfl)
                  | (rw [if_neg (by omega)]; exact hK _ _ (Below.refl _ _) rfl)
            · intro vals W hR hV
              rw [show List.range (List.length [some 57, some 58, some 59, some 60, some 61, some 62, some 63, some 64, some 65, some 66, some 67, some 68, some 69, some 70, some 71, some 72, some 73, some 74, some 75, some 76, some 77, some 78, some 79, some 80, some 81, some 82, some 83, some 84, some 85, some 86]) = [0, 1, 2, 3, 4, 5, 6, 7, 8, 9, 10, 11, 12, 13, 14, 15, 16, 17, 18, 19, 20, 21, 22, 23, 24, 25, 26, 27, 28, 29] from rfl]
              have d0 := hV 0 (by decide)
              simp only [tnV] at d0
              have d1 := hV 1 (by decide)
              simp only [tnV] at d1
              have d2 := hV 2 (by decide)
              simp only [tnV] at d2
              have d3 := hV 3 (by decide)
              simp only [tnV] at d3
              have d4 := hV 4 (by decide)
              simp only [tnV] at d4
              have d5 := hV 5 (by decide)
              simp only [tnV] at d5
              have d6 := hV 6 (by decide)
              simp only [tnV] at d6
              have d7 := hV 7 (by decide)
              simp only [tnV] at d7
              have d8 := hV 8 (by decide)
              simp only [tnV] at d8
              have d9 := hV 9 (by decide)
              simp only [tnV] at d9
              have d10 := hV 10 (by decide)
              simp only [tnV] at d10
              have d11 := hV 11 (by decide)
              simp only [tnV] at d11
              have d12 := hV 12 (by decide)
              simp only [tnV] at d12
              have d13 := hV 13 (by decide)
              simp only [tnV] at d13
              have d14 := hV 14 (by decide)
              simp only [tnV] at d14
              have d15 := hV 15 (by decide)
              simp only [tnV] at d15
              have d16 := hV 16 (by decide)
              simp only [tnV] at d16
              have d17 := hV 17 (by decide)
              simp only [tnV] at d17
              have d18 := hV 18 (by decide)
              simp only [tnV] at d18
              have d19 := hV 19 (by decide)
              simp only [tnV] at d19
              have d20 := hV 20 (by decide)
              simp only [tnV] at d20
              have d21 := hV 21 (by decide)
              simp only [tnV] at d21
              have d22 := hV 22 (by decide)
              simp only [tnV] at d22
              have d23 := hV 23 (by decide)
              simp only [tnV] at d23
              obtain ⟨b, d23, hcell⟩ := d23
              have d24 := hV 24 (by decide)
              simp only [tnV] at d24
              have d25 := hV 25 (by decide)
              simp only [tnV] at d25
              have d26 := hV 26 (by decide)
              simp only [tnV] at d26
              have d27 := hV 27 (by decide)
              simp only [tnV] at d27
              have d28 := hV 28 (by decide)
              simp only [tnV] at d28
              have d29 := hV 29 (by decide)
              simp only [tnV] at d29
              clear hV
              simp only [Reg.putS, List.foldl, List.getD_cons_zero, List.getD_cons_succ, Act.put, List.setIfInBounds_toArray, List.set_cons_zero, List.set_cons_succ, d0, d1, d2, d3, d4, d5, d6, d7, d8, d9, d10, d11, d12, d13, d14, d15, d16, d17, d18, d19, d20, d21, d22, d23, d24, d25, d26, d27, d28, d29]
              clear d0 d1 d2 d3 d4 d5 d6 d7 d8 d9 d10 d11 d12 d13 d14 d15 d16 d17 d18 d19 d20 d21 d22 d23 d24 d25 d26 d27 d28 d29
              have bW := belr5.trans ((below_undrew hR).mono belr5.size)
              have htW := htx.below (below_undrew hR)
              clear hR htx belr5 htx1 hti1 hll hteqh hcg hla
              go_wp2_with fail
              go_roundw
              case rel => exact ⟨i + 1, by omega, by go_num, bW, htW⟩
              case measure => simp [intOf]; omega
          · clear hxb hs hgh heh hlh hih
            go_wp2_with fail
            go_quiet (fail)
            go_wp2_with fail
            go_roundw
            case rel => exact ⟨i + 1, by omega, by go_num, drewN_below belr5, htx.below (drewN_below (Below.refl _ _))⟩
            case measure => simp [intOf]; omega
    · have hkd2 : decide ((i : Int) < (NX.length : Int)) = false := decide_eq_false (by omega)
      go_wp2_with fail
      refine hlenX.mono ?_
      rintro e wq ⟨rfl, hwq⟩
      rw [hwq]
      clear hwq wq
      go_wp2_with fail
      go_ret
      exact ⟨rfl, belr⟩
end Go.Proofs.Ytdeeeechdlcdbaa.TnW
