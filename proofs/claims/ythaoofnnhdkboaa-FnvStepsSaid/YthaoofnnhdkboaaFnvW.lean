/- The walks of the functions of the package fnv and of the reference's Fnv: what each call computes, for every string and every state. -/
import Derived.Test.YthaoofnnhdkboaaRows
import Derived.WalkKit
import Derived.Below
import Derived.Handy
namespace Go.Proofs.Ythaoofnnhdkboaa.FnvW
open Go.RowKit

def stepI (v c : Int) : Int := IntKind.u64.wrap (Go.bits .xor .u64 v (IntKind.u64.wrap c) * 1099511628211)
def foldI (l : List UInt8) (v : Int) : Int := l.foldl (fun v c => stepI v (c.toNat : Int)) v
theorem foldI_snoc (l : List UInt8) (c : UInt8) (v : Int) : foldI (l ++ [c]) v = stepI (foldI l v) (c.toNat : Int) := by simp [foldI]
theorem take_snoc (s : ByteArray) (k : Nat) (h : k < s.size) : s.data.toList.take (k + 1) = s.data.toList.take k ++ [s[k]] := by
  rw [List.take_succ_eq_append_getElem (by simpa using h)]; rfl
theorem ret_int {k : IntKind} {a b : Int} (h : a = b) : Ending.returned (.int k a) = .returned (.int k b) := by rw [h]
theorem int_eq {k : IntKind} {a b : Int} (h : a = b) : Value.int k a = .int k b := by rw [h]
def first : Int := 14695981039346656037
def FH (v : Int) : Int := Go.bits .xor .u64 v 14695981039346656037
theorem round_eq (s : ByteArray) (k : Nat) (v : Int) (h : k < s.size) :
    IntKind.u64.wrap (Go.bits .xor .u64 (foldI (s.data.toList.take k) v) (IntKind.u64.wrap (s[k].toNat : Int)) * 1099511628211) = foldI (s.data.toList.take (k + 1)) v := by
  rw [take_snoc s k h, foldI_snoc]; rfl
theorem take_all (s : ByteArray) (k : Nat) (h : ¬ k < s.size) : s.data.toList.take k = s.data.toList := List.take_of_length_le (by simp; omega)

set_option maxHeartbeats 400000 in
theorem ref_any (s : ByteArray) (w : World) (hs : s.size ≤ maxLen) :
    Calls Try.prog 26 #[.string s] w fun e w' => e = .returned (.int .u64 (foldI s.data.toList first)) ∧ w' = w := by
  unfold maxLen at hs
  go_enter Try.func26, Try.ntmps26
  go_wp2
  go_loop [3, 4] (fun v i => ∃ k : Nat, k ≤ s.size ∧ i = .int .i64 k ∧ v = .int .u64 (foldI (s.data.toList.take k) first)) (fun _ i => s.size - (intOf i).toNat)
  case atStart => exact ⟨0, Nat.zero_le _, rfl, rfl⟩
  case round =>
    obtain ⟨k, hk, rfl, rfl⟩ := hrel
    by_cases hlt : k < s.size
    · go_wp2
      go_round
      case rel => exact ⟨k + 1, by omega, by go_num, int_eq (round_eq s k _ hlt)⟩
      case measure => simp [intOf]; omega
    · go_wp2
      go_ret
      exact ⟨ret_int (by rw [take_all s k hlt]), rfl⟩

set_option maxHeartbeats 400000 in
theorem add_any (b : Nat) (c : Int) (s : ByteArray) (w : World) (hs : s.size ≤ maxLen) (hc : w.cell? ⟨b, 0, none⟩ = some (.int .u64 c)) (hf : w.frozen? ⟨b, 0, none⟩ = false) :
    Calls Try.prog 24 #[.pointer (some ⟨b, 0, none⟩), .string s] w fun e w' => e = .returned (.tuple #[]) ∧ w' = w.setCell ⟨b, 0, none⟩ (.int .u64 (FH (foldI s.data.toList (FH c)))) := by
  unfold maxLen at hs
  go_enter Try.func24, Try.ntmps24
  go_wp2
  go_loop [4, 15] (fun v i => ∃ k : Nat, k ≤ s.size ∧ i = .int .i64 k ∧ v = .int .u64 (foldI (s.data.toList.take k) (FH c))) (fun _ i => s.size - (intOf i).toNat)
  case atStart => exact ⟨0, Nat.zero_le _, rfl, rfl⟩
  case round =>
    obtain ⟨k, hk, rfl, rfl⟩ := hrel
    by_cases hlt : k < s.size
    · go_wp2
      go_round
      case rel => exact ⟨k + 1, by omega, by go_num, int_eq (round_eq s k _ hlt)⟩
      case measure => simp [intOf]; omega
    · go_wp2
      go_end0
      refine ⟨rfl, ?_⟩
      rw [take_all s k hlt]; rfl

theorem add_nil (s : ByteArray) (w : World) :
    Calls Try.prog 24 #[.pointer none, .string s] w fun e w' => e = .returned (.tuple #[]) ∧ w' = w := by
  go_enter Try.func24, Try.ntmps24
  go_wp2
  go_returns
  exact ⟨rfl, rfl⟩

theorem now_any (b : Nat) (c : Int) (w : World) (hc : w.cell? ⟨b, 0, none⟩ = some (.int .u64 c)) :
    Calls Try.prog 25 #[.pointer (some ⟨b, 0, none⟩)] w fun e w' => e = .returned (.int .u64 (FH c)) ∧ w' = w := by
  go_enter Try.func25, Try.ntmps25
  go_wp2
  go_ret
  exact ⟨rfl, rfl⟩

theorem now_nil (w : World) :
    Calls Try.prog 25 #[.pointer none] w fun e w' => e = .returned (.int .u64 0) ∧ w' = w := by
  go_enter Try.func25, Try.ntmps25
  go_wp2
  go_ret
  exact ⟨rfl, rfl⟩

def nameI (l : List UInt8) : Int := FH (FH (foldI l (FH 0)))

set_option maxHeartbeats 400000 in
theorem of_any (s : ByteArray) (w : World) (hs : s.size ≤ maxLen) :
    Calls Try.prog 27 #[.string s] w fun e w' => e = .returned (.int .u64 (nameI s.data.toList)) ∧ Below w.heap.size w w' := by
  go_enter Try.func27, Try.ntmps27
  go_wp2_with fail
  refine (add_any w.heap.size 0 s _ hs ?_ ?_).mono ?_
  · simp
  · simp
  rintro e w' ⟨rfl, rfl⟩
  go_wp2_with fail
  refine (now_any w.heap.size (FH (foldI s.data.toList (FH 0))) _ ?_).mono ?_
  · simp [go_sem]
  rintro e w' ⟨rfl, rfl⟩
  go_wp2_with fail
  go_ret
  refine ⟨rfl, ?_⟩
  go_grown

end Go.Proofs.Ythaoofnnhdkboaa.FnvW
