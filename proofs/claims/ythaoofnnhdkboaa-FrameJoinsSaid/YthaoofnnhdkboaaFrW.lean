/- The walks of the small functions of the package frame and of the reference: numbers in bytes, and back; sizes. -/
import Derived.Test.YthaoofnnhdkboaaCrcN
import Derived.OwnWalk
set_option linter.unusedSimpArgs false
set_option linter.unusedVariables false
namespace Go.Proofs.Ythaoofnnhdkboaa.FrW
open Go.RowKit Go.Proofs.Ythaoofnnhdkboaa.CrcL

/-- The value of byte number i of n in k bytes, the greatest first. -/
def byteAt (n k i : Nat) : Int := (n : Int) / 2 ^ (8 * (k - 1 - i)) % 256
def bytesI (n k i : Nat) : List Int := (List.range i).map (byteAt n k)
theorem bytesI_snoc (n k i : Nat) : bytesI n k (i + 1) = bytesI n k i ++ [byteAt n k i] := by
  unfold bytesI; rw [List.range_succ, List.map_append]; rfl
theorem cell_one (W : World) (v : Value) (t : TypeId) : ∀ j u, ([v] : List Value)[j]? = some u → (W.alloc (.cells #[v] t)).cell? ((⟨W.heap.size, 0, none⟩ : Addr).add j) = some u := by
  intro j u h
  match j with
  | 0 => simp at h; subst h; simp [Addr.add]
  | j + 1 => simp at h
theorem int_eq {k : IntKind} {a b : Int} (h : a = b) : Value.int k a = .int k b := by rw [h]
theorem own_string {w : World} {base n : Nat} {v : Value} {xs : List Int} (h : w.ownsRow base 5 1 v n (xs.map (Value.int .u8))) : (convert 32 9 v).run Try.prog w = .ok (.string (strOfNums xs)) w := by
  have hl : xs.length = n := by have := h.1; simpa using this
  rcases h.2 with ⟨rfl, rfl⟩ | ⟨g, cap, cur, rfl, _⟩
  · obtain rfl : xs = [] := List.eq_nil_of_length_eq_zero hl
    exact run_convert_bytes_nil w 32 5 Try.underlying32 Try.underlying5 0 0 9 Try.underlying9
  · refine run_convert_bytes_arg w 32 5 Try.underlying32 Try.underlying5 g 0 n cap xs hl (fun i hi => ?_) 9 Try.underlying9
    have hc := h.cells (g := g) rfl i (.int .u8 (xs.getD i 0)) (by simp [List.getElem?_eq_getElem (show i < xs.length by omega), List.getD_eq_getElem?_getD])
    have ha : (⟨g, 0, none⟩ : Addr).add i = ⟨g, 0 + i, none⟩ := by unfold Addr.add; split <;> simp_all
    rw [ha] at hc
    exact hc
def BRel (B : Nat) (w : World) (n k : Nat) (v i : Value) (wr : World) : Prop :=
  ∃ j : Nat, j ≤ k ∧ i = .int .i64 ((k : Int) - 1 - j) ∧ wr.ownsRow B 5 1 v j ((bytesI n k j).map (Value.int .u8)) ∧ Below w.heap.size w wr
set_option maxHeartbeats 1000000 in
theorem big_any (n k : Nat) (w : World) (hn : n < 18446744073709551616) (hk : k ≤ 8) :
    Calls Try.prog 46 #[.int .u64 (n : Int), .int .i64 (k : Int)] w fun e w' => e = .returned (.string (strOfNums (bytesI n k k))) ∧ Below w.heap.size w w' := by
  obtain ⟨i0, hi, hz0, hz1, hz2⟩ := info_parts CrcN.info5
  go_enter Try.func46, Try.ntmps46
  go_wp2
  go_loopw [5, 1] (BRel w.heap.size w n k) (fun _ i _ => (intOf i + 1).toNat)
  case atStart => exact ⟨0, by omega, by simp, World.ownsRow_nil _ _ _ _, Below.refl _ _⟩
  case round =>
    obtain ⟨j, hj, rfl, hown, hb⟩ := hrel
    by_cases hlt : j < k
    · obtain ⟨q, hkq⟩ : ∃ q, k = j + 1 + q := ⟨k - 1 - j, by omega⟩
      have eq : (k : Int) - 1 - (j : Int) = (q : Int) := by omega
      rw [eq]
      have HK := Lib.hid hkq
      have hj7 : j ≤ 7 := by omega
      have hq : q ≤ 7 := by omega
      clear hkq eq
      go_wp2_with (at_builtin; refine wpList_append_own _ rfl _ _ 32 rfl w.heap.size 5 i0 (.int .u8 0) 1 1 Try.underlying32 hi hz0 hz1 hz2 rfl (by decide) _ _ _ rfl (hown.alloc _) ⟨wr.heap.size, 0, none⟩ 1 1 [.int .u8 ((n : Int) / 2 ^ (8 * q) % 256)] rfl rfl (cell_one _ _ _) (fun x hx => by simp at hx; subst hx; rfl) (by unfold maxLen; omega) (by omega) (by have := hb.size; simp; omega) ?_; intro v' w3 hown' hgrow3 hnil3)
      go_roundw
      case rel =>
        refine ⟨j + 1, by omega, ?_, ?_, ?_⟩
        · have := HK.out; exact int_eq (by omega)
        · rw [bytesI_snoc, List.map_append]
          have e : byteAt n k j = (n : Int) / 2 ^ (8 * q) % 256 := by unfold byteAt; rw [show k - 1 - j = q by have := HK.out; omega]
          rw [e]
          exact hown'
        · exact (hb.alloc hb.size _).grown hgrow3 (by have := hb.size; simp; omega) (fun k hk => (World.ownsRow.lt hown k hk).1)
      case measure => simp [intOf]
    · obtain rfl : j = k := by omega
      have hcv := own_string hown
      have hneg : (j : Int) - 1 - (j : Int) = -1 := by omega
      rw [hneg]
      clear hneg
      go_wp2_with fail
      go_ret
      exact ⟨rfl, hb⟩

theorem take_snoc (s : ByteArray) (k : Nat) (h : k < s.size) : s.data.toList.take (k + 1) = s.data.toList.take k ++ [s[k]] := by
  rw [List.take_succ_eq_append_getElem (by simpa using h)]; rfl
theorem take_all (s : ByteArray) (k : Nat) (h : ¬ k < s.size) : s.data.toList.take k = s.data.toList := List.take_of_length_le (by simp; omega)
def numStep (v : Int) (c : UInt8) : Int := Go.bits .or .u64 (IntKind.u64.wrap (v * 256)) (IntKind.u64.wrap (c.toNat : Int))
def numN (l : List UInt8) : Nat := l.foldl (fun v c => v * 256 + c.toNat) 0
theorem numN_snoc (l : List UInt8) (c : UInt8) : numN (l ++ [c]) = numN l * 256 + c.toNat := by simp [numN]
theorem numN_lt (l : List UInt8) : numN l < 256 ^ l.length := by
  have key : ∀ (l : List UInt8) (v : Nat) (k : Nat), v < 256 ^ k → l.foldl (fun v c => v * 256 + c.toNat) v < 256 ^ (k + l.length) := by
    intro l
    induction l with
    | nil => intro v k h; exact h
    | cons c l ih =>
      intro v k h
      rw [List.foldl_cons]
      have := ih (v * 256 + c.toNat) (k + 1) (by have := c.toNat_lt; rw [Nat.pow_succ]; omega)
      rw [List.length_cons, show k + (l.length + 1) = k + 1 + l.length by omega]
      exact this
  have := key l 0 0 (by simp)
  rwa [Nat.zero_add] at this
theorem wrap64u (n : Nat) (h : n < 18446744073709551616) : IntKind.u64.wrap (n : Int) = (n : Int) := by
  simp only [IntKind.wrap, IntKind.bits, IntKind.signed]
  simp
  omega
theorem numStep_eq (v : Nat) (c : UInt8) (h : v < 72057594037927936) : numStep (v : Int) c = ((v * 256 + c.toNat : Nat) : Int) := by
  unfold numStep
  have hc := c.toNat_lt
  rw [show (v : Int) * 256 = ((v * 256 : Nat) : Int) by omega, wrap64u _ (by omega), wrap64u _ (by omega)]
  have h1 : Go.bits .or .u64 ((v * 256 : Nat) : Int) (c.toNat : Int) = IntKind.u64.wrap (((BitVec.ofInt 64 ((v * 256 : Nat) : Int)) ||| (BitVec.ofInt 64 (c.toNat : Int))).toNat : Int) := rfl
  rw [h1, BitVec.ofInt_natCast, BitVec.ofInt_natCast, BitVec.toNat_or, BitVec.toNat_ofNat, BitVec.toNat_ofNat, Nat.mod_eq_of_lt (by omega), Nat.mod_eq_of_lt (by omega)]
  have h2 : v * 256 ||| c.toNat = v * 256 + c.toNat := by
    have := Nat.shiftLeft_add_eq_or_of_lt (b := c.toNat) (i := 8) (by omega) v
    rw [Nat.shiftLeft_eq] at this
    exact this.symm
  rw [h2]
  exact wrap64u _ (by omega)
/-- The number of a string. -/
def numS (s : ByteArray) : Int := (numN s.data.toList : Int)
theorem num_round (s : ByteArray) (k : Nat) (h : k < s.size) (hs : s.size ≤ 8) : numStep ((numN (s.data.toList.take k) : Nat) : Int) s[k] = ((numN (s.data.toList.take (k + 1)) : Nat) : Int) := by
  have hl := numN_lt (s.data.toList.take k)
  have hk : (s.data.toList.take k).length ≤ 7 := by rw [List.length_take]; omega
  have hp := Nat.pow_le_pow_right (show 0 < 256 by omega) hk
  rw [numStep_eq _ _ (by have e : (256 : Nat) ^ 7 = 72057594037927936 := by decide
                         omega), take_snoc s k h, numN_snoc]
theorem num_bound (s : ByteArray) (k : Nat) (hs : s.size ≤ 8) : 0 ≤ ((numN (s.data.toList.take k) : Nat) : Int) ∧ ((numN (s.data.toList.take k) : Nat) : Int) < 18446744073709551616 := by
  have hl := numN_lt (s.data.toList.take k)
  have hk : (s.data.toList.take k).length ≤ 8 := by rw [List.length_take]; have : s.data.toList.length = s.size := by simp
                                                    omega
  have hp := Nat.pow_le_pow_right (show 0 < 256 by omega) hk
  have e : (256 : Nat) ^ 8 = 18446744073709551616 := by decide
  omega
def NRel (s : ByteArray) (v i : Value) : Prop := ∃ (k : Nat) (x : Int), 0 ≤ x ∧ x < 18446744073709551616 ∧ k ≤ s.size ∧ i = .int .i64 k ∧ v = .int .u64 x ∧ Hid (x = ((numN (s.data.toList.take k) : Nat) : Int))
set_option maxHeartbeats 400000 in
theorem num_any (s : ByteArray) (w : World) (hs : s.size ≤ 8) :
    Calls Try.prog 47 #[.string s] w fun e w' => e = .returned (.int .u64 (numS s)) ∧ w' = w := by
  go_enter Try.func47, Try.ntmps47
  go_wp2
  go_loop [3, 7] (NRel s) (fun _ i => s.size - (intOf i).toNat)
  case atStart => exact ⟨0, 0, by omega, by omega, by omega, rfl, rfl, Lib.hid rfl⟩
  case round =>
    obtain ⟨k, x, hx0, hx1, hk, rfl, rfl, hx⟩ := hrel
    by_cases hlt : k < s.size
    · go_wp2
      go_round
      case rel => exact ⟨k + 1, _, (num_bound s (k + 1) hs).1, (num_bound s (k + 1) hs).2, by omega, by go_num, int_eq (by rw [hx.out]; exact num_round s k hlt hs), Lib.hid rfl⟩
      case measure => simp [intOf]; omega
    · go_wp2
      go_ret
      refine ⟨?_, rfl⟩
      rw [hx.out, take_all s k hlt]; rfl
set_option maxHeartbeats 400000 in
theorem refOf_any (s : ByteArray) (w : World) (hs : s.size ≤ 8) :
    Calls Try.prog 48 #[.string s] w fun e w' => e = .returned (.int .u64 (numS s)) ∧ w' = w := by
  go_enter Try.func48, Try.ntmps48
  go_wp2
  go_loop [3, 4] (NRel s) (fun _ i => s.size - (intOf i).toNat)
  case atStart => exact ⟨0, 0, by omega, by omega, by omega, rfl, rfl, Lib.hid rfl⟩
  case round =>
    obtain ⟨k, x, hx0, hx1, hk, rfl, rfl, hx⟩ := hrel
    by_cases hlt : k < s.size
    · go_wp2
      go_round
      case rel => exact ⟨k + 1, _, (num_bound s (k + 1) hs).1, (num_bound s (k + 1) hs).2, by omega, by go_num, int_eq (by rw [hx.out]; exact num_round s k hlt hs), Lib.hid rfl⟩
      case measure => simp [intOf]; omega
    · go_wp2
      go_ret
      refine ⟨?_, rfl⟩
      rw [hx.out, take_all s k hlt]; rfl
theorem size_any (n : Int) (w : World) :
    Calls Try.prog 45 #[.int .i64 n] w fun e w' => e = .returned (.bool (decide (1 ≤ n) && decide (n ≤ 1024))) ∧ w' = w := by
  by_cases h1 : 1 ≤ n
  · have hd : decide (n ≥ 1) = true := by simpa using h1
    go_enter Try.func45, Try.ntmps45
    go_wp2
    go_ret
    exact ⟨by simp [h1], rfl⟩
  · have hd : decide (n ≥ 1) = false := by simpa using h1
    go_enter Try.func45, Try.ntmps45
    go_wp2
    go_ret
    exact ⟨by simp [h1], rfl⟩

/-- May a payload of n bytes be of a block of r? -/
def fitsB (k r n m : Int) : Bool := decide (1 ≤ r ∧ r ≤ m ∧ 1 ≤ n ∧ (k = 1 ∧ n = r ∨ k = 2 ∧ n < r))
theorem ret_bool {a b : Bool} (h : a = b) : Ending.returned (.bool a) = .returned (.bool b) := by rw [h]
set_option maxHeartbeats 1000000 in
theorem fits_any (k r n : Int) (w : World) :
    Calls Try.prog 49 #[.int .i64 k, .int .i64 r, .int .i64 n] w fun e w' => e = .returned (.bool (fitsB k r n 1024)) ∧ w' = w := by
  go_enter Try.func49, Try.ntmps49
  go_wp2_with fail
  refine (size_any r _).mono ?_
  rintro e w1 ⟨rfl, rfl⟩
  go_wp2_with fail
  all_goals
    go_ret
    refine ⟨ret_bool ?_, rfl⟩
    unfold fitsB
    rw [Bool.eq_iff_iff]
    simp
    omega
set_option maxHeartbeats 1000000 in
theorem refFits_any (k r n m : Int) (w : World) :
    Calls Try.prog 50 #[.int .i64 k, .int .i64 r, .int .i64 n, .int .i64 m] w fun e w' => e = .returned (.bool (fitsB k r n m)) ∧ w' = w := by
  go_enter Try.func50, Try.ntmps50
  go_wp2_with fail
  all_goals
    go_ret
    refine ⟨ret_bool ?_, rfl⟩
    unfold fitsB
    rw [Bool.eq_iff_iff]
    simp
    omega

theorem bytesI_length (n k i : Nat) : (bytesI n k i).length = i := by simp [bytesI]
def GRel (b : Nat) (w : World) (n k : Nat) (v i : Value) (wr : World) : Prop :=
  ∃ (j : Nat) (x : Int), j ≤ k ∧ 0 ≤ x ∧ x < 18446744073709551616 ∧ i = .int .i64 ((k : Int) - 1 - j) ∧ v = .int .u64 x ∧ Hid (x = (n : Int) / 2 ^ (8 * j)) ∧ Below w.heap.size w wr ∧ b < wr.heap.size ∧ w.heap.size ≤ b ∧
    (∀ i, i < k → wr.cell? ⟨b, i, none⟩ = some (.int .u8 (if k ≤ i + j then byteAt n k i else 0))) ∧ ∀ i, wr.frozen? ⟨b, i, none⟩ = false
theorem cell_other {w : World} {a b : Addr} {v : Value} (h : a ≠ b) : (w.setCell a v).cell? b = w.cell? b := by
  first | exact World.cell?_setCell_other _ _ h | exact World.cell?_setCell_other _ _ _ _ h | (simp [World.cell?_setCell_other, h]; done)
theorem div_step (n : Int) (j : Nat) : n / 2 ^ (8 * j) / 256 = n / 2 ^ (8 * (j + 1)) := by
  rw [Int.ediv_ediv_of_nonneg (by exact Int.le_of_lt (Int.pow_pos (by decide)))]
  congr 1
  rw [show 8 * (j + 1) = 8 * j + 8 by omega, Int.pow_add]
  rfl
theorem GRel.next {b : Nat} {w wr : World} {n k j q : Nat} {x : Int} (hk : k = j + 1 + q) (hx0 : 0 ≤ x) (hx1 : x < 18446744073709551616) (hx : x = (n : Int) / 2 ^ (8 * j)) (hb : Below w.heap.size w wr) (hz : b < wr.heap.size) (hge : w.heap.size ≤ b)
    (hc : ∀ i, i < k → wr.cell? ⟨b, i, none⟩ = some (.int .u8 (if k ≤ i + j then byteAt n k i else 0))) (hf : ∀ i, wr.frozen? ⟨b, i, none⟩ = false) :
    GRel b w n k (.int .u64 (x / 256)) (.int .i64 ((q : Int) - 1)) (wr.setCell ⟨b, q, none⟩ (.int .u8 (x % 256))) := by
  refine ⟨j + 1, x / 256, by omega, by omega, by omega, int_eq (by omega), rfl, Lib.hid (by rw [hx]; exact div_step _ _), hb.setCell hge _, by simpa [World.setCell] using hz, hge, fun i hi => ?_, fun i => by simpa using hf i⟩
  by_cases hiq : i = q
  · subst hiq
    rw [if_pos (by omega), cell_same (hc i hi)]
    have e : byteAt n k i = x % 256 := by unfold byteAt; rw [show k - 1 - i = j by omega, hx]
    rw [e]
  · rw [cell_other (by intro e; injection e with _ e2 _; exact hiq e2.symm), hc i hi]
    by_cases h : k ≤ i + j
    · rw [if_pos h, if_pos (by omega)]
    · rw [if_neg h, if_neg (by omega)]
set_option maxHeartbeats 1000000 in
theorem refBig_any (n k : Nat) (w : World) (hn : n < 18446744073709551616) (hk : k ≤ 8) :
    Calls Try.prog 44 #[.int .u64 (n : Int), .int .i64 (k : Int)] w fun e w' => e = .returned (.string (strOfNums (bytesI n k k))) ∧ Below w.heap.size w w' := by
  have hmk := fun W => CrcN.make_n W k (by omega)
  go_enter Try.func44, Try.ntmps44
  go_wp2
  go_loopw [0, 6] (GRel w.heap.size w n k) (fun _ i _ => (intOf i + 1).toNat)
  case atStart => exact ⟨0, n, by omega, by omega, by omega, by simp, rfl, Lib.hid (by simp), balloc (Below.refl _ _) _, by simp, Nat.le_refl _, fun i hi => by rw [if_neg (by omega)]; exact CrcN.made_cells w k i hi, fun i => by simp⟩
  case round =>
    obtain ⟨j, x, hj, hx0, hx1, rfl, rfl, hx, hb, hz, hge, hcs, hfs⟩ := hrel
    clear hmk
    by_cases hlt : j < k
    · obtain ⟨q, hkq⟩ : ∃ q, k = j + 1 + q := ⟨k - 1 - j, by omega⟩
      have eq : (k : Int) - 1 - (j : Int) = (q : Int) := by omega
      rw [eq]
      have HK := Lib.hid hkq
      have hc := hcs q (by omega)
      have hf := hfs q
      have hq : q ≤ 7 := by omega
      have hq2 : (q : Int) < (k : Int) := by omega
      have HC := Lib.hid hcs
      have HF := Lib.hid hfs
      clear hkq eq hcs hfs
      go_wp2_with fail
      go_roundw
      case rel => exact GRel.next HK.out hx0 hx1 hx.out hb hz hge HC.out HF.out
      case measure => simp [intOf]
    · obtain rfl : j = k := by omega
      have hcv : (convert 32 9 (.slice (some ⟨w.heap.size, 0, none⟩) j j)).run Try.prog wr = .ok (.string (strOfNums (bytesI n j j))) wr := by
        refine run_convert_bytes_arg wr 32 5 Try.underlying32 Try.underlying5 w.heap.size 0 j j (bytesI n j j) (bytesI_length _ _ _) ?_ 9 Try.underlying9
        intro i hi
        rw [Nat.zero_add, hcs i hi, if_pos (by omega)]
        simp [bytesI, List.getD_eq_getElem?_getD, hi]
      have hneg : (j : Int) - 1 - (j : Int) = -1 := by omega
      rw [hneg]
      clear hneg hcs hfs
      go_wp2_with fail
      go_ret
      exact ⟨rfl, hb⟩

/-- A number in bytes. -/
def bigS (n k : Nat) : ByteArray := strOfNums (bytesI n k k)
theorem bigS_size (n k : Nat) : (bigS n k).size = k := by unfold bigS; rw [strOfNums_size, bytesI_length]
theorem big_call (n : Int) (k : Nat) (w : World) (h0 : 0 ≤ n) (h1 : n < 18446744073709551616) (hk : k ≤ 8) :
    Calls Try.prog 46 #[.int .u64 n, .int .i64 (k : Int)] w fun e w' => e = .returned (.string (bigS n.toNat k)) ∧ Below w.heap.size w w' := by
  have := big_any n.toNat k w (by omega) hk
  rw [Int.toNat_of_nonneg h0] at this
  exact this
theorem refBig_call (n : Int) (k : Nat) (w : World) (h0 : 0 ≤ n) (h1 : n < 18446744073709551616) (hk : k ≤ 8) :
    Calls Try.prog 44 #[.int .u64 n, .int .i64 (k : Int)] w fun e w' => e = .returned (.string (bigS n.toNat k)) ∧ Below w.heap.size w w' := by
  have := refBig_any n.toNat k w (by omega) hk
  rw [Int.toNat_of_nonneg h0] at this
  exact this

end Go.Proofs.Ythaoofnnhdkboaa.FrW
