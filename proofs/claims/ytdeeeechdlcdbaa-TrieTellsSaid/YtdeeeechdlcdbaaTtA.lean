/- What a trie tells of nodes that there are not, and what no trie tells. -/
import Derived.Test.YtdeeeechdlcdbaaTtN
import Derived.Test.YtdeeeechdlcdbaaSnD
import Derived.WideShapes
set_option linter.unusedVariables false
set_option linter.unusedSimpArgs false
namespace Go.Proofs.Ytdeeeechdlcdbaa.TtA
open Go Go.RowKit Go.Maps Go.Sort Go.Proofs Go.Proofs.Ytdeeeechdlcdbaa.Base Go.Proofs.Ytdeeeechdlcdbaa.TrP Go.Proofs.Ytdeeeechdlcdbaa.TrM Go.Proofs.Ytdeeeechdlcdbaa.TrA Go.Proofs.Ytdeeeechdlcdbaa.Sr Go.Proofs.Ytdeeeechdlcdbaa.Sn
set_option maxHeartbeats 400000 in
theorem len_nil (w : World) : Calls Try.prog 30 #[.pointer none] w fun e w' => e = .returned (.int .i64 0) ∧ w' = w := by
  go_enter Try.func30, Try.ntmps30
  go_wp2_with fail
  go_ret
  exact ⟨rfl, rfl⟩
set_option maxHeartbeats 1000000 in
theorem at_nil (w : World) : Calls Try.prog 78 #[.pointer none, .int .i64 0] w fun e w' => e = .returned (atV ⟨#[]⟩ (-1) none) ∧ Below w.heap.size w w' := by
  go_enter Try.func78, Try.ntmps78
  go_wp2_with fail
  refine (len_nil _).mono ?_
  rintro e w1 ⟨rfl, hw⟩
  rw [hw]
  clear hw
  go_wp2_with fail
  refine bodyPost_ret (v := atV ⟨#[]⟩ (-1) none) ?_ rfl ⟨rfl, balloc (Below.refl _ _) _⟩
  simp [results, Try.results78, go_sem, atV]
section
variable {pv : Value} {w : World} {t : ByteArray} {x : Int} {mp : Option Nat} {k : Int}
set_option maxHeartbeats 400000 in
theorem text_pv (h : Calls Try.prog 78 #[pv, .int .i64 k] w fun e w' => e = .returned (atV t x mp) ∧ Below w.heap.size w w') :
    Calls Try.prog 34 #[pv, .int .i64 k] w fun e w' => e = .returned (.string t) ∧ Below w.heap.size w w' := by
  go_enter Try.func34, Try.ntmps34
  go_wp2_with fail
  refine h.mono ?_
  rintro e w1 ⟨rfl, hb⟩
  clear h
  simp only [atV]
  have hfd := field63_0 t x mp
  go_wp2_with fail
  go_ret
  exact ⟨rfl, hb⟩
set_option maxHeartbeats 400000 in
theorem word_pv (h : Calls Try.prog 78 #[pv, .int .i64 k] w fun e w' => e = .returned (atV t x mp) ∧ Below w.heap.size w w') :
    Calls Try.prog 32 #[pv, .int .i64 k] w fun e w' => e = .returned (.int .i64 x) ∧ Below w.heap.size w w' := by
  go_enter Try.func32, Try.ntmps32
  go_wp2_with fail
  refine h.mono ?_
  rintro e w1 ⟨rfl, hb⟩
  clear h
  simp only [atV]
  have hfd := field63_1 t x mp
  go_wp2_with fail
  go_ret
  exact ⟨rfl, hb⟩
set_option maxHeartbeats 400000 in
theorem depth_pv (h : Calls Try.prog 78 #[pv, .int .i64 k] w fun e w' => e = .returned (atV t x mp) ∧ Below w.heap.size w w') :
    Calls Try.prog 33 #[pv, .int .i64 k] w fun e w' => e = .returned (.int .i64 (t.size : Int)) ∧ Below w.heap.size w w' := by
  have hT := text_pv h
  clear h
  go_enter Try.func33, Try.ntmps33
  go_wp2_with fail
  refine hT.mono ?_
  rintro e w1 ⟨rfl, hb⟩
  clear hT
  go_wp2_with fail
  go_ret
  exact ⟨rfl, hb⟩
theorem look_nil (c : Int) (hc : 0 ≤ c ∧ c ≤ 255) (W : World) : (Instr.lookup 104 (.map none) (.int .u8 c) true).run Try.prog W = .ok (.tuple #[.int .i64 0, .bool false]) W := by
  have h1 : Instr.findNow (.int .u8) (.int .u8 c) ([] : List MapEntry) 0 = some none := rfl
  have hz := zero3 W
  have hmk : mapKey Try.prog 5 (.int .u8 c) = some (.int .u8 c) := by
    simp [mapKey, Try.underlying5, wf_u8 hc]
  obtain ⟨desc, hdesc, hik, _⟩ := WideShapes.mapKey_isKey hmk
  have h1 : Instr.findNow desc (.int .u8 c) ([] : List MapEntry) 0 = some none := rfl
  simp [Instr.lookup, run_underlying Try.underlying104, MapKept.run_checkKey hdesc hik, MapKept.run_findKey hdesc h1, hz, Result.andThen]
set_option maxHeartbeats 1000000 in
theorem next_pv {c : Int} (hc : 0 ≤ c ∧ c ≤ 255) (h : Calls Try.prog 78 #[pv, .int .i64 k] w fun e w' => e = .returned (atV t x none) ∧ Below w.heap.size w w') :
    Calls Try.prog 35 #[pv, .int .i64 k, .int .u8 c] w fun e w' => e = .returned (.tuple #[.int .i64 0, .bool false]) ∧ Below w.heap.size w w' := by
  have hfd := field63_2 t x none
  have hlk := look_nil c hc
  clear hc
  go_enter Try.func35, Try.ntmps35
  go_wp2_with fail
  refine h.mono ?_
  rintro e w1 ⟨rfl, hb1⟩
  have hlk1 := hlk w1
  clear h hlk
  simp only [atV]
  go_wp2_with fail
  go_ret2
  exact ⟨rfl, hb1⟩
set_option maxRecDepth 100000 in
set_option maxHeartbeats 2000000 in
theorem sons_pv (h : Calls Try.prog 78 #[pv, .int .i64 k] w fun e w' => e = .returned (atV t x none) ∧ Below w.heap.size w w') :
    Calls Try.prog 31 #[pv, .int .i64 k] w fun e w' => e = .returned (.slice none 0 0) ∧ Below w.heap.size w w' := by
  have cA : CallsIn Fence.wide 5 Try.prog 78 _ _ _ := callsIn_wide.2 h
  have cK : ∀ mb W, CallsIn Fence.wide 5 Try.prog 77 #[.map mb] W fun e w' => e = .returned (.func (.func 114) #[] #[.pointer (some ⟨W.heap.size, 0, none⟩)]) ∧ w' = W.alloc (.cells #[.map mb] 104) := fun mb W => keys_in Fence.wide 5 trivial rfl mb W
  have cS : ∀ W : World, Below w.heap.size w W → CallsIn Fence.wide 5 Try.prog 76 #[.func (.func 114) #[] #[.pointer (some ⟨W.heap.size, 0, none⟩)]] (W.alloc (.cells #[.map none] 104)) fun e w' => e = .returned (.slice none 0 0) ∧ Below w.heap.size w w' := by
    intro W hW
    have hseq : SeqGives Fence.wide 2 Try.prog 114 #[.pointer (some ⟨W.heap.size, 0, none⟩)] encB (fun ss : List Int => ss = []) 0 (W.alloc (.cells #[.map none] 104)) :=
      keys_gives_nil Fence.wide _ trivial rfl W.heap.size _ (by simp) (by simp)
    refine (sorted_in Fence.wide 5 trivial trivial trivial trivial rfl (by omega) (sorts_wide _) 114 #[.pointer (some ⟨W.heap.size, 0, none⟩)] trivial (enters_of Try.func114 (by kernel_rfl) rfl) _ 0 (Nat.zero_le _) (by omega) _ hseq).mono ?_
    rintro e w' ⟨v, ss, rfl, rfl, hrow, hnil, hb⟩
    obtain rfl : v = .slice none 0 0 := hnil.2 rfl
    have hWs := hW.size
    exact ⟨rfl, (hW.trans ((Below.refl _ W).alloc (Nat.le_refl _) _ |>.mono hWs)).trans (hb.mono (by simp; omega))⟩
  clear h
  have hfd := field_2 t x none
  refine (callsIn_wide (n := 6)).1 ?_
  have hf1 : Fence.wide.fn 78 := trivial
  have hf2 : Fence.wide.fn 77 := trivial
  have hf3 : Fence.wide.fn 76 := trivial
  refine callsIn_of_wp Try.func31 rfl trivial ?_ rfl
  simp only [Try.ntmps31, List.size_toArray, List.length_cons, List.length_nil, Nat.reduceAdd, Nat.reduceSub, Array.replicate_succ, Array.replicate_zero, List.push_toArray, List.append_toArray, List.nil_append, List.cons_append]
  gi_wp2_with (gi_at_call 78; refine cA.mono ?_; rintro e w1 ⟨rfl, hb1⟩)
  have cS1 := cS w1 hb1
  simp only [atV]
  rw [hfd w1]
  gi_wp2_with (first
    | (gi_at_call 77; refine (cK _ _).mono ?_; rintro e w' ⟨rfl, rfl⟩)
    | (gi_at_call 76; refine cS1.mono ?_; rintro e w' ⟨rfl, hb⟩))
  go_ret
  exact ⟨rfl, hb⟩
end
end Go.Proofs.Ytdeeeechdlcdbaa.TtA
