/- The walk of HeadBytes, joined. -/
import Derived.Test.YthaoofnnhdkboaaFrT
import Derived.Test.YthaoofnnhdkboaaFrX
import Derived.WalkSpells
set_option linter.unusedSimpArgs false
set_option linter.unusedVariables false
namespace Go.Proofs.Ythaoofnnhdkboaa.FrJ
open Go.RowKit Go.Proofs.Ythaoofnnhdkboaa.CrcL Go.Proofs.Ythaoofnnhdkboaa.FrW Go.Proofs.Ythaoofnnhdkboaa.FrH Go.Proofs.Ythaoofnnhdkboaa.FrG Go.Proofs.Ythaoofnnhdkboaa.FrU Go.Proofs.Ythaoofnnhdkboaa.FrL Go.Proofs.Ythaoofnnhdkboaa.FrP Go.Proofs.Ythaoofnnhdkboaa.FrE Go.Proofs.Ythaoofnnhdkboaa.FrA Go.Proofs.Ythaoofnnhdkboaa.FrN Go.Proofs.Ythaoofnnhdkboaa.FrF Go.Proofs.Ythaoofnnhdkboaa.FrT
open Go.Proofs.Ythaoofnnhdkboaa.CrcT (conv1 xor8 u8_of u8_range wrap_k1 size1 data_split)
open Go.Proofs.Ythaoofnnhdkboaa.FrX (u64_range)
attribute [local go_sem high] eqA49

set_option maxRecDepth 20000 in
set_option maxHeartbeats 1000000 in
theorem bytes_no (cd bl id : Int) (a1 y : Int) (w : World) (hid : 0 ≤ id ∧ id < 18446744073709551616) (ok : ¬ okH cd bl) :
    Calls Try.prog 14 #[.agg #[.int .i64 cd, .int .i64 bl, .int .u64 id], .int .i64 a1, .int .u8 y] w fun e w' => e = .returned (.bool true) ∧ Below w.heap.size w w' := by
  have bel : Below w.heap.size w (w.alloc (.cells #[.int .i64 cd, .int .i64 bl, .int .u64 id] 49)) := balloc (Below.refl _ _) _
  go_enter Try.func14, Try.ntmps14
  go_wp2_with fail
  refine (put_any cd bl id _ hid).mono ?_
  rintro e w1 ⟨rfl, hb1⟩
  rw [decide_eq_false ok]
  replace bel := bstep bel hb1
  clear ok
  go_wp2_with fail
  refine (alive_call _).mono ?_
  rintro e w2 ⟨rfl, hb2⟩
  replace bel := bstep bel hb2
  go_wp2_with fail
  go_returns
  exact ⟨rfl, bel⟩
set_option maxRecDepth 20000 in
set_option maxHeartbeats 1000000 in
theorem bytes_zero (cd bl id : Int) (a1 : Int) (w : World) (hid : 0 ≤ id ∧ id < 18446744073709551616) (ok : okH cd bl) :
    Calls Try.prog 14 #[.agg #[.int .i64 cd, .int .i64 bl, .int .u64 id], .int .i64 a1, .int .u8 0] w fun e w' => e = .returned (.bool true) ∧ Below w.heap.size w w' := by
  have bel : Below w.heap.size w (w.alloc (.cells #[.int .i64 cd, .int .i64 bl, .int .u64 id] 49)) := balloc (Below.refl _ _) _
  go_enter Try.func14, Try.ntmps14
  go_wp2_with fail
  refine (put_any cd bl id _ hid).mono ?_
  rintro e w1 ⟨rfl, hb1⟩
  rw [decide_eq_true ok]
  replace bel := bstep bel hb1
  clear ok
  go_wp2_with fail
  refine (alive_call _).mono ?_
  rintro e w2 ⟨rfl, hb2⟩
  replace bel := bstep bel hb2
  go_wp2_with fail
  go_returns
  exact ⟨rfl, bel⟩
theorem set_split (l : List UInt8) (k : Nat) (z : UInt8) (h : k < l.length) : l.set k z = l.take k ++ z :: l.drop (k + 1) := by
  rw [List.set_eq_take_append_cons_drop, if_pos h]
theorem i64_range {a : Int} (h : (Lit.int .i64 a).wf = true) : -9223372036854775808 ≤ a ∧ a ≤ 9223372036854775807 := by
  simp [Lit.wf, IntKind.min, IntKind.max, IntKind.signed, IntKind.bits] at h
  omega
theorem bytes_walk (cd bl id : Int) (a1 y : Int) (w : World) (wc : (Lit.int .i64 cd).wf = true) (wb : (Lit.int .i64 bl).wf = true) (wid : (Lit.int .u64 id).wf = true) (wa : (Lit.int .i64 a1).wf = true) (wy : (Lit.int .u8 y).wf = true) :
    Calls Try.prog 14 #[.agg #[.int .i64 cd, .int .i64 bl, .int .u64 id], .int .i64 a1, .int .u8 y] w fun e w' => e = .returned (.bool true) ∧ Below w.heap.size w w' := by
  have hid := u64_range wid
  have hyr := u8_range wy
  have har := i64_range wa
  rcases Decidable.em (¬ okH cd bl) with ok | ok'
  · exact bytes_no cd bl id a1 y w hid ok
  have ok := Decidable.not_not.1 ok'
  by_cases hy0 : y = 0
  · subst hy0; exact bytes_zero cd bl id a1 w hid ok
  have hsz := headS_size cd bl id
  have m1 := Int.tmod_lt_of_pos a1 (show (0 : Int) < 17 by omega)
  have m2 : -(17 : Int) < a1.tmod 17 := by
    have := Int.lt_tmod_of_pos a1 (show (0 : Int) < 17 by omega)
    omega
  have hw : wrap64 (a1.tmod 17 + 17) = a1.tmod 17 + 17 := by unfold wrap64; omega
  have n1 : 0 ≤ (a1.tmod 17 + 17).tmod 17 := Int.tmod_nonneg _ (by omega)
  have n2 := Int.tmod_lt_of_pos (a1.tmod 17 + 17) (show (0 : Int) < 17 by omega)
  obtain ⟨k, hk⟩ := Int.eq_ofNat_of_zero_le n1
  have hlt : k < 17 := by omega
  have hps : putS cd bl id = headS cd bl id := by unfold putS; rw [if_pos ok]
  obtain ⟨Y, hY⟩ := u8_of hyr
  have hYn : Y ≠ 0 := by rintro rfl; exact hy0 hY
  have told := fun p hp => turned_told cd bl id k Y p ok hid hlt hYn hp
  generalize headS cd bl id = q at hsz hps told
  have hkq : k < q.size := by omega
  have hlk : k < q.data.toList.length := by simpa using hkq
  have hZ : strOfNums [Go.bits .xor .u8 (q[k].toNat : Int) y] = ⟨#[q[k] ^^^ Y]⟩ := by rw [hY, xor8]; simp [strOfNums]
  have hlist : (q.extract 0 k ++ strOfNums [Go.bits .xor .u8 (q[k].toNat : Int) y] ++ q.extract (k + 1) 17).data.toList = q.data.toList.set k (q.data.toList.getD k 0 ^^^ Y) := by
    have hg : q.data.toList.getD k 0 = q[k] := by
      rw [List.getD_eq_getElem?_getD, List.getElem?_eq_getElem hlk]; rfl
    rw [set_split _ _ _ hlk, hg, hZ, app_list, app_list, ext_list, ext_list]
    simp only [List.drop_zero, Nat.sub_zero]
    rw [List.take_of_length_le (l := List.drop (k + 1) q.data.toList) (by rw [List.length_drop]; have : q.data.toList.length = 17 := by simpa using hsz
                                                                          omega)]
    simp
  have ht := told _ hlist
  rw [← hY] at ht
  have hsize : (q.extract 0 k ++ strOfNums [Go.bits .xor .u8 (q[k].toNat : Int) y] ++ q.extract (k + 1) 17).size ≤ 1000 := by
    rw [ByteArray.size_append, ByteArray.size_append, ByteArray.size_extract, ByteArray.size_extract, size1]; omega
  have hconv : ∀ (W : World) (b : Nat), W.cell? ⟨b, 0, none⟩ = some (.int .u8 (Go.bits .xor .u8 (q[k].toNat : Int) y)) → (convert 32 9 (.slice (some ⟨b, 0, none⟩) 1 1)).run Try.prog W = .ok (.string (strOfNums [Go.bits .xor .u8 (q[k].toNat : Int) y])) W := fun W b hc => conv1 W b _ hc
  have h1 := size1 (Go.bits .xor .u8 (q[k].toNat : Int) y)
  generalize strOfNums [Go.bits .xor .u8 (q[k].toNat : Int) y] = Z at *
  rcases hr : getH (q.extract 0 k ++ Z ++ q.extract (k + 1) 17) with ⟨⟨x1, x2, x3⟩, e⟩
  rw [hr] at ht
  exact bytes_in cd bl id a1 y q Z k e x1 x2 x3 w hid ok hsz hlt hps (by simpa using hy0) (by rw [hw]; exact hk) (fun h => h.2) h1 hconv hr hsize ht (by rw [IntKind.wrap_i64]; omega)
end Go.Proofs.Ythaoofnnhdkboaa.FrJ
