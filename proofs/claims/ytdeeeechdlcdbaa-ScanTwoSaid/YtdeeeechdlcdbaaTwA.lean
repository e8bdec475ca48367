/- Next, Depth, Find. -/
import Derived.Test.YtdeeeechdlcdbaaTwP
import Derived.Test.YtdeeeechdlcdbaaTgU
set_option linter.unusedSimpArgs false
set_option linter.unusedVariables false
namespace Go.Proofs.Ytdeeeechdlcdbaa.TwA
open Go Go.RowKit Go.Proofs.Ytdeeeechdlcdbaa.Base Go.Proofs.Ytdeeeechdlcdbaa.DiA Go.Proofs.Ytdeeeechdlcdbaa.DiB Go.Proofs.Ytdeeeechdlcdbaa.DiC Go.Proofs.Ytdeeeechdlcdbaa.DiD Go.Proofs.Ytdeeeechdlcdbaa.TrP Go.Proofs.Ytdeeeechdlcdbaa.TrM Go.Proofs.Ytdeeeechdlcdbaa.TrA Go.Proofs.Ytdeeeechdlcdbaa.TrB Go.Proofs.Ytdeeeechdlcdbaa.TrD Go.Proofs.Ytdeeeechdlcdbaa.TrE
set_option maxHeartbeats 400000 in
theorem depth_in {B p m : Nat} {N : List Nd} {w : World} (h : TrieAt B w p N m) (hbig : N.length ≤ 1000000) {S : List Pn} (hS : N.map (·.p) = S) (k : Nat) (hk : k < S.length) {d : Nat} (hd : (S.getD k noPn).text.size = d) :
    Calls Try.prog 33 #[.pointer (some ⟨p, 0, none⟩), .int .i64 (k : Int)] w fun e w' => e = .returned (.int .i64 (d : Int)) ∧ Below w.heap.size w w' := by
  have hT := text_in h hbig hS k hk
  generalize (S.getD k noPn).text = t at hT hd
  clear h hS
  go_enter Try.func33, Try.ntmps33
  go_wp2_with fail
  refine hT.mono ?_
  rintro e w1 ⟨rfl, hb⟩
  clear hT
  go_wp2_with fail
  go_ret
  exact ⟨rfl, hb⟩
set_option maxHeartbeats 1000000 in
theorem next_nd {B p m : Nat} {N : List Nd} {w : World} (h : TrieAt B w p N m) (hbig : N.length ≤ 1000000) {k : Nat} {nd : Nd} (hk : N[k]? = some nd) {c : Int} (hc : 0 ≤ c ∧ c ≤ 255) {x : Int} {b : Bool} (hx : (((nd.p.sons c).getD 0 : Nat) : Int) = x) (hb : (nd.p.sons c).isSome = b) :
    Calls Try.prog 35 #[.pointer (some ⟨p, 0, none⟩), .int .i64 (k : Int), .int .u8 c] w fun e w' => e = .returned (.tuple #[.int .i64 x, .bool b]) ∧ Below w.heap.size w w' := by
  have hA := at_in h hk hbig
  have hm := (h.maps nd (List.mem_of_getElem? hk)).2
  have hlook : ∀ W : World, Below w.heap.size w W → (Instr.lookup 104 (.map (some nd.mp)) (.int .u8 c) true).run Try.prog W = .ok (.tuple #[.int .i64 x, .bool b]) W := by
    intro W hW
    have := (hm.below hW).look hc
    rw [hx, hb] at this
    exact this
  generalize nd.mp = mp at hA hlook
  generalize nd.p.text = tx at hA
  generalize nd.p.word = wd at hA
  clear h hk hm hx hb
  have hfd := field63_2 tx wd (some mp)
  go_enter Try.func35, Try.ntmps35
  go_wp2_with fail
  refine hA.mono ?_
  rintro e w1 ⟨rfl, hb1⟩
  have hlk := hlook w1 hb1
  clear hA hlook
  simp only [atV]
  go_wp2_with fail
  go_ret2
  exact ⟨rfl, hb1⟩
/-- A son, or none, by the plain nodes. -/
theorem next_some {B p m : Nat} {N : List Nd} {w : World} (h : TrieAt B w p N m) (hbig : N.length ≤ 1000000) {S : List Pn} (hS : N.map (·.p) = S) {k : Nat} (hk : k < S.length) {c : Int} (hc : 0 ≤ c ∧ c ≤ 255) {x : Nat} (hx : (S.getD k noPn).sons c = some x) :
    Calls Try.prog 35 #[.pointer (some ⟨p, 0, none⟩), .int .i64 (k : Int), .int .u8 c] w fun e w' => e = .returned (.tuple #[.int .i64 (x : Int), .bool true]) ∧ Below w.heap.size w w' := by
  have hl : k < N.length := by rw [← hS, List.length_map] at hk; exact hk
  have hn : N[k]? = some N[k] := List.getElem?_eq_getElem hl
  rw [getD_of hS hn] at hx
  exact next_nd h hbig hn hc (by rw [hx]; rfl) (by rw [hx]; rfl)
theorem next_none {B p m : Nat} {N : List Nd} {w : World} (h : TrieAt B w p N m) (hbig : N.length ≤ 1000000) {S : List Pn} (hS : N.map (·.p) = S) {k : Nat} (hk : k < S.length) {c : Int} (hc : 0 ≤ c ∧ c ≤ 255) (hx : (S.getD k noPn).sons c = none) :
    Calls Try.prog 35 #[.pointer (some ⟨p, 0, none⟩), .int .i64 (k : Int), .int .u8 c] w fun e w' => e = .returned (.tuple #[.int .i64 0, .bool false]) ∧ Below w.heap.size w w' := by
  have hl : k < N.length := by rw [← hS, List.length_map] at hk; exact hk
  have hn : N[k]? = some N[k] := List.getElem?_eq_getElem hl
  rw [getD_of hS hn] at hx
  exact next_nd h hbig hn hc (by rw [hx]; rfl) (by rw [hx]; rfl)
theorem list_eq {a b : ByteArray} (h : (a.toList == b.toList) = true) : a = b := by
  rw [beq_iff_eq, ByteArray.toList_eq, ByteArray.toList_eq] at h
  exact data_inj h
set_option maxHeartbeats 1000000 in
theorem find_any (A : Option Addr) (n cap : Nat) (zs : List ByteArray) (x : ByteArray) (w : World) (hn : n = zs.length) (hat : StrsAt w A zs) (hbig : n ≤ 1000) :
    Calls Try.prog 37 #[.slice A n cap, .string x] w fun e w' => (∃ r, e = .returned (.int .i64 r) ∧ FindIs zs x r) ∧ w' = w := by
  have hnh : Hid (n = zs.length) := hn
  clear hn
  go_enter Try.func37, Try.ntmps37
  go_wp2_with fail
  go_loop [5] (fun i => ∃ k : Nat, k ≤ n ∧ i = .int .i64 k ∧ Hid (x ∉ zs.take k)) (fun i => n - (intOf i).toNat)
  case atStart => exact ⟨0, Nat.zero_le _, rfl, by simp [Hid]⟩
  case round =>
    obtain ⟨k, hk, rfl, hx⟩ := hrel
    have hn := hnh.out
    by_cases hlt : k < n
    · obtain ⟨b, off, rfl, _, hc⟩ := hat (by omega)
      have hcell := hc k (by omega)
      have hkd : decide ((k : Int) < (n : Int)) = true := decide_eq_true (by omega)
      have hsucc : zs.take (k + 1) = zs.take k ++ [zs.getD k ByteArray.empty] := by
        have e : zs.getD k ByteArray.empty = zs[k]'(by omega) := by simp [List.getD_eq_getElem?_getD, show k < zs.length by omega]
        rw [List.take_succ_eq_append_getElem (by omega), e]
      have hsucch : Hid (zs.take (k + 1) = zs.take k ++ [zs.getD k ByteArray.empty]) := hsucc
      have hyes : Hid (zs.getD k ByteArray.empty = x → FindIs zs x (k : Int)) := fun e => .inr ⟨k, by omega, rfl, e⟩
      generalize zs.getD k ByteArray.empty = y at hcell hsucch hyes
      clear hsucc hc hn hat
      cases hxy : (y.toList == x.toList) with
      | true =>
        have e := list_eq hxy
        have hf := hyes.out e
        have hfh : Hid (FindIs zs x (k : Int)) := hf
        clear hf hyes hsucch e hx hnh
        go_wp2_with fail
        refine bodyPost_ret (v := .int .i64 (k : Int)) ?_ rfl ⟨⟨_, rfl, hfh.out⟩, rfl⟩
        simp [results, Try.results37, go_sem]
      | false =>
        have hne : y ≠ x := by
          rintro rfl
          simp at hxy
        have hx2 : Hid (x ∉ zs.take (k + 1)) := by
          show x ∉ zs.take (k + 1)
          rw [hsucch.out]
          intro hm
          rcases List.mem_append.1 hm with h | h
          · exact hx.out h
          · exact hne (List.mem_singleton.1 h).symm
        clear hne hyes hsucch hx
        go_wp2_with fail
        go_round
        case rel => exact ⟨k + 1, by omega, by go_num, hx2⟩
        case measure => simp [intOf]; omega
    · have hkn : k = n := by omega
      subst hkn
      have hkd : decide ((k : Int) < (k : Int)) = false := decide_eq_false (by omega)
      have hf : Hid (FindIs zs x (-1)) := by
        refine .inl ⟨rfl, ?_⟩
        have := hx.out
        rw [List.take_of_length_le (by omega)] at this
        exact this
      clear hx hn hnh hat
      go_wp2_with fail
      refine bodyPost_ret (v := .int .i64 (-1)) ?_ rfl ⟨⟨_, rfl, hf.out⟩, rfl⟩
      simp [results, Try.results37, go_sem]
end Go.Proofs.Ytdeeeechdlcdbaa.TwA
