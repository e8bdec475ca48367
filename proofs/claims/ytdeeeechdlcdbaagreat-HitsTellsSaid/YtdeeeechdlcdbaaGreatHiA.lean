/- Small calls of hits: a number among numbers; a text's beginning; a dictionary's phrase, and how long it is. -/
import Derived.Test.YtdeeeechdlcdbaaGreatHiQ
import Derived.Test.YtdeeeechdlcdbaaGreatRwA
import Derived.WalkSpells
set_option linter.unusedVariables false
set_option linter.unusedSimpArgs false
namespace Go.Proofs.YtdeeeechdlcdbaaGreat.HiA
open Go Go.RowKit Go.Sort Go.Lib Go.Proofs Go.Proofs.YtdeeeechdlcdbaaGreat Go.Proofs.YtdeeeechdlcdbaaGreat.Base Go.Proofs.YtdeeeechdlcdbaaGreat.DiA Go.Proofs.YtdeeeechdlcdbaaGreat.DiB Go.Proofs.YtdeeeechdlcdbaaGreat.LkM Go.Proofs.YtdeeeechdlcdbaaGreat.LkA Go.Proofs.YtdeeeechdlcdbaaGreat.LkN Go.Proofs.YtdeeeechdlcdbaaGreat.ScN Go.Proofs.YtdeeeechdlcdbaaGreat.HiP Go.Proofs.YtdeeeechdlcdbaaGreat.HiQ Go.Proofs.YtdeeeechdlcdbaaGreat.RwA
/-- The place of a number among numbers; less than 0: it is not there. -/
def Idx (L : List Nat) (x : Nat) (e : Ending) : Prop := ∃ r : Int, e = .returned (.int .i64 r) ∧ decide (r ≥ 0) = decide (x ∈ L)
set_option maxHeartbeats 1000000 in
theorem index_any {w : World} {B : Nat} {v : Value} {L : List Nat} (h : w.ownsRow B 3 1 v L.length (L.map encN)) (hbig : L.length ≤ 1000000) (x : Nat) :
    Calls Tryz.prog 108 #[v, .int .i64 (x : Int)] w fun e w' => Idx L x e ∧ w' = w := by
  obtain ⟨_, V, cp, rfl, hc⟩ := ints_form h
  obtain ⟨n, hn⟩ : ∃ n, L.length = n := ⟨_, rfl⟩
  rw [hn] at hc hbig ⊢
  have hnh : Hid (L.length = n) := hn
  clear h hn
  go_enter Tryz.func108, Tryz.ntmps108
  go_wp2_with fail
  go_loop [8] (fun s => ∃ k : Nat, k ≤ n ∧ s = .int .i64 (k : Int) ∧ Hid (∀ j, j < k → L.getD j 0 ≠ x)) (fun s => n - (intOf s).toNat)
  case atStart => exact ⟨0, Nat.zero_le _, rfl, Lib.hid (fun j hj => absurd hj (Nat.not_lt_zero _))⟩
  case round =>
    obtain ⟨k, hk, rfl, hno⟩ := hrel
    by_cases hlt : k < n
    · have hkd : (k : Int) < (n : Int) := by omega
      obtain ⟨g, rfl, hcell⟩ := hc (by omega)
      have c1 := hcell k hlt
      unfold encN at c1
      have z1 : IntKind.i64.wrap ((k : Int) + 1) = (k : Int) + 1 := by rw [IntKind.wrap_i64]; omega
      obtain ⟨y, hy⟩ : ∃ y, L.getD k 0 = y := ⟨_, rfl⟩
      rw [hy] at c1
      by_cases hxy : x = y
      · have he : ((x : Int) == (y : Int)) = true := by simp [hxy]
        have hm : Hid (x ∈ L) := by
          show x ∈ L
          have hl : k < L.length := by rw [hnh.out]; exact hlt
          rw [hxy, ← hy, List.getD_eq_getElem?_getD, List.getElem?_eq_getElem hl]
          exact List.getElem_mem hl
        clear hc hcell hy hxy hno
        go_wp2_with fail
        go_ret
        exact ⟨⟨(k : Int), rfl, by rw [decide_eq_true hm.out]; exact decide_eq_true (by omega)⟩, rfl⟩
      · have he : ((x : Int) == (y : Int)) = false := by simp; omega
        have hno2 : Hid (∀ j, j < k + 1 → L.getD j 0 ≠ x) := by
          intro j hj
          rcases Nat.lt_or_eq_of_le (Nat.le_of_lt_succ hj) with h1 | rfl
          · exact hno.out j h1
          · rw [hy]; exact fun e => hxy e.symm
        clear hcell hy hxy hno
        go_wp2_with fail
        go_round
        case rel => exact ⟨k + 1, hlt, by go_num, hno2⟩
        case measure => simp [intOf]; omega
    · have hkd : ¬ (k : Int) < (n : Int) := by omega
      have hm : Hid (x ∉ L) := by
        intro hx
        obtain ⟨j, hj, he⟩ := List.getElem_of_mem hx
        have hjn : j < n := by rw [← hnh.out]; exact hj
        refine hno.out j (by omega) ?_
        rw [List.getD_eq_getElem?_getD, List.getElem?_eq_getElem hj]; exact he
      clear hc hno
      go_wp2_with fail
      go_ret
      exact ⟨⟨-1, rfl, by rw [decide_eq_false hm.out]; rfl⟩, rfl⟩
set_option maxHeartbeats 400000 in
theorem contains_call {w : World} {B : Nat} {v : Value} {L : List Nat} (h : w.ownsRow B 3 1 v L.length (L.map encN)) (hbig : L.length ≤ 1000000) (x : Nat) :
    Calls Tryz.prog 82 #[v, .int .i64 (x : Int)] w fun e w' => e = .returned (.bool (decide (x ∈ L))) ∧ w' = w := by
  have hi := index_any h hbig x
  obtain ⟨_, V, cp, rfl, _⟩ := ints_form h
  clear h
  go_enter Tryz.func82, Tryz.ntmps82
  go_wp2_with fail
  refine hi.mono ?_
  rintro e w1 ⟨⟨r, rfl, hr⟩, hw⟩
  rw [hw]
  have hrh : Hid (decide (r ≥ 0) = decide (x ∈ L)) := hr
  clear hi hw hr
  go_wp2_with fail
  go_ret
  exact ⟨by rw [← hrh.out]; rfl, rfl⟩
/-- Does p begin s? -/
def pref (s p : ByteArray) : Bool := decide (p.size ≤ s.size) && ((s.extract 0 p.size).toList == p.toList)
set_option maxHeartbeats 400000 in
theorem prefix_in (s p : ByteArray) (w : World) (hs : s.size ≤ 1000000) (hp : p.size ≤ 1000000) : Calls Tryz.prog 111 #[.string s, .string p] w fun e w' => e = .returned (.bool (pref s p)) ∧ w' = w := by
  by_cases h : p.size ≤ s.size
  · have hd : decide (p.size ≤ s.size) = true := decide_eq_true h
    have hz : (p.size : Int) ≤ (s.size : Int) := by omega
    have e : pref s p = ((s.extract 0 p.size).toList == p.toList) := by unfold pref; rw [hd, Bool.true_and]
    rw [e]
    clear e
    go_enter Tryz.func111, Tryz.ntmps111
    go_wp2_with fail
    go_ret
    exact ⟨rfl, rfl⟩
  · have hd : decide (p.size ≤ s.size) = false := decide_eq_false h
    have hz : ¬ (p.size : Int) ≤ (s.size : Int) := by omega
    have e : pref s p = false := by unfold pref; rw [hd, Bool.false_and]
    rw [e]
    clear e
    go_enter Tryz.func111, Tryz.ntmps111
    go_wp2_with fail
    go_ret
    exact ⟨rfl, rfl⟩
set_option maxHeartbeats 400000 in
theorem prefix_call (s p : ByteArray) (w : World) (hs : s.size ≤ 1000000) (hp : p.size ≤ 1000000) : Calls Tryz.prog 87 #[.string s, .string p] w fun e w' => e = .returned (.bool (pref s p)) ∧ w' = w := by
  have hc := prefix_in s p w hs hp
  go_enter Tryz.func87, Tryz.ntmps87
  go_wp2_with fail
  refine hc.mono ?_
  rintro e w1 ⟨rfl, hw⟩
  rw [hw]
  clear hc hw
  go_wp2_with fail
  go_ret
  exact ⟨rfl, rfl⟩
/-- What begins b[at:] stands there. -/
theorem pref_stands {b : ByteArray} {zs : List ByteArray} {i k : Nat} (hi : i ≤ b.size) : pref (b.extract i b.size) (zs.getD k ByteArray.empty) = stands zs b.data.toList i k := by
  have h1 : (b.extract i b.size).data.toList = b.data.toList.drop i := by
    rw [ext_list, List.take_of_length_le (by rw [List.length_drop, ← size_list]; omega)]
  have h2 : (b.extract i b.size).size = b.size - i := by rw [ByteArray.size_extract]; omega
  unfold pref
  rw [Bool.eq_iff_iff, Bool.and_eq_true, decide_eq_true_eq, stands_iff, h2, ← size_list]
  obtain ⟨z, hz⟩ : ∃ z, zs.getD k ByteArray.empty = z := ⟨_, rfl⟩
  have e1 : szk zs k = z.size := by unfold szk; rw [hz]
  have e2 : zk zs k = z.data.toList := by unfold zk; rw [hz]
  rw [hz, e1, e2]
  have e3 : ((b.extract i b.size).extract 0 z.size).data.toList = (b.data.toList.drop i).take z.size := by rw [ext_list, h1, List.drop_zero, Nat.sub_zero]
  constructor
  · rintro ⟨a, c⟩
    refine ⟨by omega, ?_⟩
    rw [← e3]
    rw [TwA.list_eq c]
  · rintro ⟨a, c⟩
    refine ⟨by omega, ?_⟩
    rw [data_inj (e3.trans c)]; exact beq_self_eq_true _
/-- A dictionary's value: of no dictionary no phrases. -/
def DV (B : Nat) (w : World) (v : Value) (zs : List ByteArray) : Prop := (v = .pointer none ∧ zs = []) ∨ ∃ p, v = .pointer (some ⟨p, 0, none⟩) ∧ DictAt B w p zs
theorem DV.below {B : Nat} {w w' : World} {v : Value} {zs : List ByteArray} (h : DV B w v zs) (hb : Below w.heap.size w w') : DV B w' v zs := by
  rcases h with h | ⟨p, h1, h2⟩
  · exact .inl h
  · exact .inr ⟨p, h1, h2.below hb⟩
/-- What At tells. -/
def atE (zs : List ByteArray) (k : Int) : Ending := if 0 ≤ k ∧ k < (zs.length : Int) then .returned (.tuple #[.string (zs.getD k.toNat ByteArray.empty), .bool true]) else .returned (.tuple #[.string ⟨#[]⟩, .bool false])
section
variable {B : Nat} {w : World} {v : Value} {zs : List ByteArray}
set_option maxHeartbeats 1000000 in
theorem at_call (h : DV B w v zs) (k : Int) : Calls Tryz.prog 81 #[v, .int .i64 k] w fun e w' => e = atE zs k ∧ w' = w := by
  rcases h with ⟨rfl, rfl⟩ | ⟨p, rfl, h⟩
  · have e : atE [] k = .returned (.tuple #[.string ⟨#[]⟩, .bool false]) := if_neg (by rintro ⟨h1, h2⟩; simp at h2; omega)
    rw [e]
    clear e
    go_enter Tryz.func81, Tryz.ntmps81
    go_wp2_with fail
    go_ret2
    exact ⟨rfl, rfl⟩
  · obtain ⟨u, hp, hu⟩ := h
    obtain ⟨V, cp, rfl, hV⟩ := own_cells hu rfl
    have c0 : w.cell? ⟨p, 0, none⟩ = some (.slice V zs.length cp) := cell_of hp rfl
    by_cases h0 : k < 0
    · have hd : decide (k < 0) = true := decide_eq_true h0
      have e : atE zs k = .returned (.tuple #[.string ⟨#[]⟩, .bool false]) := if_neg (by omega)
      rw [e]
      clear e h0 hV hu hp
      go_enter Tryz.func81, Tryz.ntmps81
      go_wp2_with fail
      go_ret2
      exact ⟨rfl, rfl⟩
    · have hd : decide (k < 0) = false := decide_eq_false h0
      by_cases h1 : (zs.length : Int) ≤ k
      · have hd1 : decide (k ≥ (zs.length : Int)) = true := decide_eq_true h1
        have e : atE zs k = .returned (.tuple #[.string ⟨#[]⟩, .bool false]) := if_neg (by omega)
        rw [e]
        clear e h0 hV hu hp
        go_enter Tryz.func81, Tryz.ntmps81
        go_wp2_with fail
        go_ret2
        exact ⟨rfl, rfl⟩
      · have hd1 : decide (k ≥ (zs.length : Int)) = false := decide_eq_false h1
        obtain ⟨j, rfl⟩ : ∃ j : Nat, k = (j : Int) := ⟨k.toNat, by omega⟩
        have hj : j < zs.length := by omega
        have hjz : (j : Int) < (zs.length : Int) := by omega
        have hd2 : ¬ zs.length ≤ j := by omega
        have e : atE zs (j : Int) = .returned (.tuple #[.string (zs.getD j ByteArray.empty), .bool true]) := by
          unfold atE
          rw [if_pos (by omega), Int.toNat_natCast]
        rw [e]
        obtain ⟨bA, oA, rfl, _, hcell⟩ := hV (by omega)
        have c1 := hcell j hj
        generalize zs.getD j ByteArray.empty = z at c1 ⊢
        clear e h0 h1 hu hp hcell hV
        go_enter Tryz.func81, Tryz.ntmps81
        go_wp2_with fail
        go_ret2
        exact ⟨rfl, rfl⟩
theorem szk_none {k : Nat} (h : zs.length ≤ k) : szk zs k = 0 := by
  unfold szk
  rw [List.getD_eq_getElem?_getD, List.getElem?_eq_none h]; rfl
set_option maxHeartbeats 400000 in
theorem size_call (h : DV B w v zs) (k : Nat) : Calls Tryz.prog 85 #[v, .int .i64 (k : Int)] w fun e w' => e = .returned (.int .i64 (szk zs k : Int)) ∧ w' = w := by
  have ha := at_call h (k : Int)
  have hv : ∃ a, v = .pointer a := by rcases h with ⟨h, _⟩ | ⟨p, h, _⟩ <;> exact ⟨_, h⟩
  obtain ⟨a, rfl⟩ := hv
  obtain ⟨z, bz, hz, hs⟩ : ∃ z bz, atE zs (k : Int) = .returned (.tuple #[.string z, .bool bz]) ∧ szk zs k = z.size := by
    unfold atE
    by_cases hk : k < zs.length
    · exact ⟨_, _, if_pos (by omega), by rw [Int.toNat_natCast]; rfl⟩
    · exact ⟨_, _, if_neg (by omega), szk_none (by omega)⟩
  rw [hz] at ha
  rw [hs]
  clear hz hs h
  go_enter Tryz.func85, Tryz.ntmps85
  go_wp2_with fail
  refine ha.mono ?_
  rintro e w1 ⟨rfl, hw⟩
  rw [hw]
  clear ha hw
  go_wp2_with fail
  go_ret
  exact ⟨rfl, rfl⟩
end
end Go.Proofs.YtdeeeechdlcdbaaGreat.HiA
